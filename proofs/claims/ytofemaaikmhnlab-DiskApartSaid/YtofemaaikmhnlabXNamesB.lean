/-
  The walk of the names of a disk. No condition beyond those that the lemmas name.
-/
import Derived.Test.YtofemaaikmhnlabXShelf
import Derived.Test.YtofemaaikmhnlabXDkB
set_option linter.unusedSimpArgs false
set_option linter.unusedVariables false
namespace Go.Proofs.Ytofemaaikmhnlab.X
open Go.RowKit Go.Proofs.YtofemaaikmhnlabW.PrintLast
theorem fc47 : Fnc Try.prog 47 := ⟨_, Try.func47, by kernel_rfl, by kernel_rfl⟩
theorem fc46 : Fnc Try.prog 46 := ⟨_, Try.func46, by kernel_rfl, by kernel_rfl⟩
theorem Names_nm {fs : List F} (hn : (fs.map F.nm).Nodup) : ((fs.map F.kv).map (·.1)).Nodup := by
  rw [List.map_map]; exact hn
theorem Names_sz {fs : List F} (hs : ∀ f ∈ fs, f.nm.size ≤ maxLen) : ∀ p ∈ fs.map F.kv, p.1.size ≤ maxLen := by
  intro p hp
  obtain ⟨f, hf, rfl⟩ := List.mem_map.1 hp
  exact hs f hf
theorem abs_small {fs : List F} {A : List (ByteArray × List UInt8 × List UInt8)} (h : fs.map F.abs = A) (hA : ∀ x ∈ A, x.1.size ≤ maxLen) : ∀ f ∈ fs, f.nm.size ≤ maxLen := by
  intro f hf
  exact hA f.abs (h ▸ List.mem_map_of_mem hf)
theorem Names_spec {S : Nat → Prop} {d m : Nat} {fs : List F} {acts : Int} {w : World} (hK : Dk 106 112 5 w d m S fs false acts) (hs : ∀ f ∈ fs, f.nm.size ≤ maxLen) (hcnt : fs.length ≤ 1000000000000) :
    Calls Try.prog 17 #[.pointer (some ⟨d, 0, none⟩)] w fun e w' => ∃ s : Sv, e = .returned s.v ∧ s.n = fs.length ∧ Ag M0 w w' := by
  have hB : Blk w d (c_disk_Disk (.map (some m)) false acts 0 0) 106 := hK.blk
  have hM := hK.map
  have hX := Ag.refl M0 w
  refine enter (args := [.pointer (some ⟨d, 0, none⟩)]) Try.func17 rfl Try.ntmps17 (Nat.le_of_ble_eq_true rfl) ?_
  refine wseq ?_
  refine wreg ?_
  refine lv (v := .slice none 0 0) rfl (r_as rfl rfl) rfl ?_
  refine wend ?_
  refine wthen ?_
  refine wseq ?_
  refine wseq ?_
  refine wreg ?_
  refine lv (v := .pointer (some ⟨d, 0, none⟩)) rfl (r_mv rfl rfl) rfl ?_
  refine lv (v := .bool false) rfl (r_pn rfl un64 rfl rfl) rfl ?_
  refine lv (v := .bool false) rfl (r_mv rfl rfl) rfl ?_
  refine lv (v := .pointer (some ⟨d, 0, none⟩)) (by kernel_rfl) (r_mv rfl rfl) rfl ?_
  refine lv (v := .pointer (some ⟨d, 0, none⟩)) (by kernel_rfl) (r_nilc rfl rfl) rfl ?_
  refine lv (v := .pointer (some ⟨d, 1, none⟩)) (by kernel_rfl) (r_fa rfl fl106_1 rfl rfl) rfl ?_
  refine lv (v := .bool false) (by kernel_rfl) (r_ld rfl sc4 rfl hB.cel c_disk_Disk_1) rfl ?_
  refine lv (v := .bool false) rfl (r_pkF rfl rfl rfl) rfl ?_
  refine wend ?_
  refine wthen ?_
  refine wcF rfl ?_
  refine wp_skip ?_
  refine wthen ?_
  refine wseq ?_
  refine wreg ?_
  refine lv (v := .pointer (some ⟨d, 0, none⟩)) rfl (r_mv rfl rfl) rfl ?_
  refine lv (v := .pointer (some ⟨d, 0, none⟩)) rfl (r_nilc rfl rfl) rfl ?_
  refine lv (v := .pointer (some ⟨d, 0, none⟩)) rfl (r_fa rfl fl106_0 rfl rfl) rfl ?_
  refine lv (v := (.map (some m))) rfl (r_ld rfl sc104 rfl hB.cel c_disk_Disk_0) rfl ?_
  have hM0 := hM
  refine lc fc47 rfl rfl rfl ?_
  refine (keys_any m w).mono ?_
  rintro e w1 ⟨rfl, hwk⟩
  have hAk : Ag M0 w w1 := by rw [hwk]; exact ⟨rfl, rfl, rfl, by simp, fun k hk _ => Below.heap_alloc _ _ _ hk⟩
  replace hB := hB.keep0 hAk
  replace hM := hM.keep0 hAk
  replace hX := hX.step0 hAk
  refine ⟨_, rfl, ?_⟩
  have hso := sorted_any hM0 (Names_nm hK.nms) (by rw [List.length_map]; exact hcnt) (Names_sz hs)
  rw [← hwk] at hso
  refine lc fc46 rfl rfl rfl ?_
  refine (hso).mono ?_
  rintro e w2 ⟨s, rfl, hsn, hAs⟩
  replace hB := hB.keep0 hAs
  replace hM := hM.keep0 hAs
  replace hX := hX.step0 hAs
  refine ⟨_, rfl, ?_⟩
  refine lv (v := s.v) rfl (r_as rfl rfl) rfl ?_
  refine wend ?_
  refine wthen ?_
  refine wp_ret ?_
  refine fin1 rfl rfl ?_
  exact ⟨s, rfl, by rw [hsn, List.length_map], hX⟩
end Go.Proofs.Ytofemaaikmhnlab.X
