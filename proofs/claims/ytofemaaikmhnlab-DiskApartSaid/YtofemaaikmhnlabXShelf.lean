/-
  The contracts of maps.Keys and slices.Sorted, applied to a map whose entries are known. No condition beyond those that the lemmas name.
-/
import Derived.Test.YtofemaaikmhnlabXNames
import Derived.Test.YtofemaaikmhnlabShelf
set_option linter.unusedSimpArgs false
set_option linter.unusedVariables false
namespace Go.Proofs.Ytofemaaikmhnlab.X
open Go.RowKit Go.Maps Go.Sort Go.Shelf Go.Proofs

theorem b_sorts46 (m : Nat) : AnyZ.SortsIn Try.prog Try.sorted46_ren Fence.wide m :=
  ⟨fun blk off cap ss W hH hblk hsz => callsIn_wide.2 (AnyM.slices_Sort_string Try.sort65 blk off cap ss W hH hblk hsz),
   fun p cap W => callsIn_wide.2 (AnyM.slices_Sort_string_none Try.sort65 p cap W)⟩

theorem b_maps_Keys_47 (mb : Option Nat) (W : World) : CallsIn Fence.wide 5 Try.prog 47 #[.map mb] W fun e w' => e = .returned (.func (.func 66) #[] #[.pointer (some ⟨W.heap.size, 0, none⟩)]) ∧ w' = W.alloc (.cells #[.map mb] 104) :=
  AnyZ.keys_in Try.keys47 Fence.wide 5 trivial rfl mb W

set_option maxHeartbeats 1000000 in
theorem b_slices_Sorted_keys_46_47 {H : Type} (b nn : Nat) (D0 : DataW H) (R : Value → Option (DataW H × List MemPlace)) (w : World) (hown : w.ownsMap Try.prog 9 R b nn D0) (hmax : Maps.size D0 ≤ maxLen) (hbytes : Maps.size D0 * 16 ≤ 140737488355328) :
    CallsIn Fence.wide 5 Try.prog 46 #[.func (.func 66) #[] #[.pointer (some ⟨w.heap.size, 0, none⟩)]] (w.alloc (.cells #[.map (some b)] 104)) fun e w' => ∃ (v : Value) (ss : List (List UInt8)), e = .returned v ∧ ss.Perm (strKeys D0) ∧
      w'.ownsRow (w.alloc (.cells #[.map (some b)] 104)).heap.size 9 1 v ss.length ((ss.mergeSort (fun x y => decide (x ≤ y))).map encStr) ∧ (v = .slice none 0 0 ↔ ss = []) ∧ Below (w.alloc (.cells #[.map (some b)] 104)).heap.size (w.alloc (.cells #[.map (some b)] 104)) w' := by
  have hbl := hown.lt
  have hseq : SeqGives Fence.wide 2 Try.prog 66 #[.pointer (some ⟨w.heap.size, 0, none⟩)] encStr (fun ss => ss.Perm (strKeys D0)) (Maps.size D0) (w.alloc (.cells #[.map (some b)] 104)) :=
    AnyZ.keys_gives (ρ := Try.keys47_ren) { Try.keys47 with } Fence.wide _ trivial rfl (by omega) w.heap.size b nn D0 _ (by simp) (by simp) (by
      obtain ⟨es, clock, hb, Ft, hs, hD⟩ := hown
      exact ⟨es, clock, (Below.heap_alloc _ _ b hbl).trans hb, Ft, hs, hD⟩)
  exact AnyZ.sorted_in Try.sorted46 Fence.wide 5 trivial trivial trivial trivial rfl (by omega) (b_sorts46 _) (enters_of Try.func65 (by kernel_rfl) rfl) 66 #[.pointer (some ⟨w.heap.size, 0, none⟩)] trivial (enters_of Try.func66 (by kernel_rfl) rfl) _ _ hmax hbytes _ hseq


theorem keys_any (m : Nat) (w : World) : Calls Try.prog 47 #[.map (some m)] w fun e w' => e = .returned (.func (.func 66) #[] #[.pointer (some ⟨w.heap.size, 0, none⟩)]) ∧ w' = w.alloc (.cells #[.map (some m)] 104) :=
  callsIn_wide.1 (b_maps_Keys_47 (some m) w)
theorem sorted_any {m : Nat} {l : List (ByteArray × Value)} {w : World} (hM : Mp w m l) (hn : (l.map (·.1)).Nodup) (hl : l.length ≤ 1000000000000) (hs : ∀ p ∈ l, p.1.size ≤ maxLen) :
    Calls Try.prog 46 #[.func (.func 66) #[] #[.pointer (some ⟨w.heap.size, 0, none⟩)]] (w.alloc (.cells #[.map (some m)] 104)) fun e w' => ∃ s : Sv, e = .returned s.v ∧ s.n = l.length ∧ Ag M0 (w.alloc (.cells #[.map (some m)] 104)) w' := by
  obtain ⟨D0, hown, hsz, hlen⟩ := hM.owns (H := Unit) (P := Try.prog) (k := 9) Try.underlying9 hn hl hs
  refine (callsIn_wide.1 (b_slices_Sorted_keys_46_47 m l.length D0 RU w hown (by rw [hsz]; unfold maxLen; omega) (by rw [hsz]; omega))).mono fun e w' ⟨v, ss, he, hp, ho, _, hb⟩ => ?_
  obtain ⟨A, c, rfl⟩ : ∃ A c, v = .slice A ss.length c := by
    rcases ho.2 with ⟨rfl, h0⟩ | ⟨g, cap, cur, rfl, _⟩
    · exact ⟨none, 0, by rw [h0]⟩
    · exact ⟨_, cap, rfl⟩
  exact ⟨⟨A, ss.length, c⟩, he, hp.length_eq.trans hlen, Ag.of_below hb⟩
end Go.Proofs.Ytofemaaikmhnlab.X
