/-
  A map whose entries are known, as the library contracts ask for it. No condition beyond those that the lemmas name.
-/
import Derived.Test.YtofemaaikmhnlabXLaw
import Derived.Maps.Own
import Derived.Sort.KeysCollected
set_option linter.unusedSimpArgs false
set_option linter.unusedVariables false
namespace Go.Proofs.Ytofemaaikmhnlab.X
open Go.RowKit Go.WideElems Go.MapKept
open Go.Maps (Keyed)

def RU {H : Type} : Value → Option (DataW H × List MemPlace) := fun _ => some (.nil, [])
theorem Mp.owns {H : Type} {P : Program} {k : TypeId} {w : World} {m : Nat} {l : List (ByteArray × Value)} (h : Mp w m l) (hk : P.underlying k = some .string) (hn : (l.map (·.1)).Nodup) (hl : l.length ≤ 1000000000000) (hs : ∀ p ∈ l, p.1.size ≤ maxLen) :
    ∃ D0 : DataW H, w.ownsMap P k RU m l.length D0 ∧ Maps.size D0 = l.length ∧ (strKeys D0).length = l.length := by
  have hlen : ((ent l).map (rg (H := H) P k RU)).length = l.length := by rw [List.length_map, ent_length]
  refine ⟨_, ⟨(ent l).toArray, l.length, h, ⟨?_, ?_, ?_⟩, ?_, rfl⟩, ?_, ?_⟩
  · simp [ent_length, maxLen]; omega
  · refine ⟨?_, ?_, ?_⟩
    · intro x hx
      obtain ⟨p, hp, _⟩ := ent_mem (by simpa using hx)
      exact (List.getElem?_eq_some_iff.1 hp).1
    · simp only [ent_born]; exact List.nodup_range
    · have : (ent l).map (·.key) = (l.map (·.1)).map Value.string := by
        apply List.ext_getElem?
        intro i
        simp only [List.getElem?_map, ent_get]
        cases l[i]? <;> simp [ent1]
      simp only [this]
      exact List.Pairwise.map _ (fun a b hab e => hab (by injection e)) hn
  · intro x hx
    obtain ⟨p, hp, he⟩ := ent_mem (by simpa using hx)
    have hkey := WideMaps.keyOf_string_mk (P := P) hk (hs p (List.mem_of_getElem? hp))
    refine ⟨(.string p.1.data.toList, .nil), ?_⟩
    rw [he]
    exact rd_mk (R := RU) (yv := (.nil, [])) hkey rfl
  · simp [ent_length]
  · simp only [Maps.size, length_sorted, hlen]
  · simp only [strKeys, List.length_map, length_sorted, hlen]
end Go.Proofs.Ytofemaaikmhnlab.X
