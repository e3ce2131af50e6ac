/-
  How a law that writes nothing that came in meets its row. No condition beyond those that the lemmas name.
-/
import Derived.Test.YtdebnncpclodcaaDoorXLaw
import Derived.ProofKit
import Derived.SizedLaws
set_option linter.unusedSimpArgs false
set_option linter.unusedVariables false
namespace Go.Proofs.YtdebnncpclodcaaDoor.X
open Go.ChangeShapes Go.WideShapes Go.ChangeAt Go.RowKit

/-! ### The row of a law that writes nothing that came in -/
theorem below_all {H : Type} {enc : TypeId × Value → H} {P : Program} (hl : laidOutB P = true) {W W' : World} (hb : Below W.heap.size W W') :
    ∀ {ts : List TypeId} {vs : List Value} {ds : List (DataW H)} {ps : List MemPlace}, ts.all (fun t => P.readableRec t && decide (t < P.types.size)) = true → DataW.TrodAll enc P W 0 (fun _ => true) true ts vs ds ps → (∀ x ∈ ps, x.block < W.heap.size) →
      DataW.TrodAll enc P W' 0 (fun b => decide (b < W.heap.size)) true ts vs ds ps
  | [], vs, ds, ps, _, h, _ => by
    obtain ⟨rfl, rfl, rfl⟩ := trodAll_nil h
    rfl
  | t :: ts, vs, ds, ps, ht, h, hlt => by
    obtain ⟨v, vs', d, ds', p, q, rfl, rfl, rfl, h1, h2⟩ := trodAll_cons h
    simp only [List.all_cons, Bool.and_eq_true, decide_eq_true_eq] at ht
    exact ⟨p, q, Below.trod hl ht.1.1 ht.1.2 h1 hb (fun x hx => hlt x (by simp [hx])), below_all hl hb ht.2 h2 (fun x hx => hlt x (by simp [hx])), rfl⟩
theorem post_law {H : Type} {enc : TypeId × Value → H} {P : Program} {f : Func} {s : ChangeSpec} {W W' : World} {args : Array Value} {ds : List (DataW H)} {before : List MemPlace} {tb : TypeId}
    (hl : laidOutB P = true) (hts : f.params.toList.all (fun t => P.readableRec t && decide (t < P.types.size)) = true) (hrt : f.resultTypes = #[tb]) (hub : P.underlying tb = some .bool) (hv : s.vars = [])
    (hW : DataW.Whole enc P f.params.toList s.vars false W args.toList ds [] before) (hA : Ag M0 W W') (hres : s.fn H (ds ++ []) = { results := [.lit (.bool true)], args := ds }) :
    s.post enc P f false true false false W args (.bool true) W' := by
  have hlt : ∀ x ∈ before, x.block < W.heap.size := fun x hx => by simpa using hW.lt x hx
  have hb := hA.below
  obtain ⟨p, q, h1, h2, rfl, h3, h4⟩ := hW
  rw [hv] at h2
  obtain ⟨_, rfl⟩ := trodVars_none h2
  have hW2 : DataW.Whole enc P f.params.toList s.vars false W args.toList ds [] (p ++ []) := ⟨p, [], h1, by rw [hv]; exact h2, rfl, h3, h4⟩
  refine ⟨ds, [], p ++ [], [], p, [], hW2, ?_, ?_, ?_, hb.frame _, fun h => by cases h⟩
  · rw [hres, hrt]
    exact trodAll_mk1 ⟨1, by simp [DataW.trod, Value.cells, hub]⟩
  · rw [hres]
    exact below_all hl hb hts h1 (fun x hx => hlt x (by simp [hx]))
  · rw [hres, hv]; rfl

/-! ### Arguments -/
theorem spotless {w : World} {a : Addr} {v : Value} (h : w.cell? a = some v) : ∃ b off cells, a = ⟨b, off, none⟩ ∧ Cel w b cells ∧ cells[off]? = some v := by
  obtain ⟨b, off, sp⟩ := a
  unfold World.cell? at h
  simp only at h
  cases hb : w.heap[b]? with
  | none => simp [hb] at h
  | some ob =>
    cases ob with
    | cells c T fr =>
      simp [hb] at h
      cases sp with
      | some x => simp at h
      | none => exact ⟨b, off, c.toList, rfl, ⟨T, fr, by simpa using hb⟩, by simpa using h⟩
    | _ => simp [hb] at h
end Go.Proofs.YtdebnncpclodcaaDoor.X
