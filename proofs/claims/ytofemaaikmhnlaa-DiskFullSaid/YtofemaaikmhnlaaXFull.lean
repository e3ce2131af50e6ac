/-
  The walks of the helper alive and of the law DiskFull. No condition beyond those that the lemmas name.
-/
import Derived.Test.YtofemaaikmhnlaaXDk
set_option linter.unusedSimpArgs false
set_option linter.unusedVariables false
namespace Go.Proofs.Ytofemaaikmhnlaa.X
open Go.RowKit Go.Proofs.YtofemaaikmhnlaaW.PrintLast
theorem fc5 : Fnc Try.prog 5 := ⟨_, Try.func5, by kernel_rfl, by kernel_rfl⟩
theorem ze5 : Zer Try.prog 5 ([.int .u8 0]) := by unfold Zer; kernel_rfl
theorem un22 : Try.prog.underlying 22 = some (.slice 5) := by kernel_rfl
theorem un5 : Try.prog.underlying 5 = some (.int .u8) := by kernel_rfl
theorem fc8 : Fnc Try.prog 8 := ⟨_, Try.func8, by kernel_rfl, by kernel_rfl⟩
theorem fc10 : Fnc Try.prog 10 := ⟨_, Try.func10, by kernel_rfl, by kernel_rfl⟩
theorem fc11 : Fnc Try.prog 11 := ⟨_, Try.func11, by kernel_rfl, by kernel_rfl⟩
theorem fc12 : Fnc Try.prog 12 := ⟨_, Try.func12, by kernel_rfl, by kernel_rfl⟩
theorem fc9 : Fnc Try.prog 9 := ⟨_, Try.func9, by kernel_rfl, by kernel_rfl⟩
theorem fc4 : Fnc Try.prog 4 := ⟨_, Try.func4, by kernel_rfl, by kernel_rfl⟩
theorem zv5 : zvB Try.prog 5 (.int .u8 0) := by unfold zvB; kernel_rfl
theorem fc6 : Fnc Try.prog 6 := ⟨_, Try.func6, by kernel_rfl, by kernel_rfl⟩
theorem fc7 : Fnc Try.prog 7 := ⟨_, Try.func7, by kernel_rfl, by kernel_rfl⟩
theorem alive_spec {w : World} :
    Calls Try.prog 4 #[] w fun e w' => e = .returned (.bool true) ∧ Ag M0 w w' := by
  have hX := Ag.refl M0 w
  refine enter (args := []) Try.func4 rfl Try.ntmps4 (Nat.le_of_ble_eq_true rfl) ?_
  refine wseq ?_
  refine wreg ?_
  refine lv (v := .bool false) rfl (r_as rfl rfl) rfl ?_
  refine wend ?_
  refine wthen ?_
  refine wseq ?_
  refine wreg ?_
  have hX0n := hX
  refine lc fc5 rfl rfl rfl ?_
  refine (New_spec).mono ?_
  rintro e w1 ⟨d, m, rfl, hK, hAn⟩
  replace hX := hX.step0 hAn
  replace hK : Dk 36 40 5 w1 d m (fun k => w.heap.size ≤ k) [] false 0 := hK.mono (fun k _ h => Nat.le_trans hX0n.size h)
  have hfs : ([] : List F).map F.abs = [] := rfl
  refine ⟨_, rfl, ?_⟩
  refine lv (v := .pointer (some ⟨d, 0, none⟩)) rfl (r_as rfl rfl) rfl ?_
  refine wend ?_
  refine wthen ?_
  refine wseq ?_
  refine wseq ?_
  refine wreg ?_
  refine lv (v := .pointer (some ⟨d, 0, none⟩)) rfl (r_mv rfl rfl) rfl ?_
  have hKl := hK.lt
  refine le rfl (e_bs (ps := [(.int .u8 120, [.int .u8 120]), (.int .u8 121, [.int .u8 121])]) rfl sl22 ze5 rfl rfl (by intro x hx; simp only [List.mem_cons, List.not_mem_nil, or_false] at hx; rcases hx with rfl | rfl <;> exact ⟨rfl, rfl⟩) rfl rfl) rfl ?_
  rintro _ w4 ⟨b2, rfl, hN3⟩
  have hA5 := hN3.ag
  have hgAhX_b2 := Nat.le_trans hX.size hN3.new
  replace hX := hX.step0 hA5
  replace hK := hK.keep hA5 (fun _ _ _ h => h)
  replace hKl := hKl.keep hA5 (fun _ _ _ h => h)
  have hB6 : Blk w4 b2 ([.int .u8 120] ++ [.int .u8 121]) 5 := by have := hN3.blk; simpa [List.flatten_cons] using this
  have hbl := hN3.new
  refine le rfl (e_cvc (bs := [120, 121]) rfl un22 un5 rfl (show Blk _ _ (bvs [120, 121]) 5 from hB6) (LIM_ge (by decide))) rfl ?_
  rintro _ w9 ⟨s7, rfl, hR8, hA2⟩
  replace hX := hX.step hA2 (fun k hk e => absurd hk (by subst e; exact Nat.not_lt.2 hgAhX_b2))
  replace hK := hK
  replace hKl := hKl.keep hA2 (fun k _ hs e => absurd hs.2 (by subst e; exact Nat.not_lt.2 hbl))
  have hfz : fsz [] = asz [] := by rw [fsz_abs, hfs]
  simp only [asz, List.map_cons, List.map_nil, List.sum_cons, List.sum_nil, List.length_nil, List.length_replicate, List.length_cons] at hfz
  have hlenR := hR8.len
  rw [brow_length] at hlenR
  try simp only [List.length_replicate] at hlenR
  have hX1 := hX
  refine lc fc8 rfl rfl rfl ?_
  refine (Append_spec (nm := ⟨#[97]⟩) hKl (by decide) hR8 (fun k e h => absurd h.2 (by subst e; exact Nat.not_lt.2 hbl)) (by first | omega | (simp only [List.length_replicate, List.length_cons, List.length_nil]; omega))).mono ?_
  rintro e w11 ⟨rfl, fs10, hAB, hK1, hA1⟩
  replace hA1 := hA1.mono (M' := (fun k => w.heap.size ≤ k)) (fun _ _ h => h.1)
  replace hX := hX.step hA1 (fun k hk h => absurd hk (Nat.not_lt.2 h))
  replace hfs : fs10.map F.abs = [(⟨#[97]⟩, [], [120, 121])] := by rw [hAB, hfs]; simp [upA]
  have hK : Dk 36 40 5 w11 d m (fun k => w.heap.size ≤ k) fs10 false 1 := hK1.mono (fun k _ h => h.elim (·.1) (fun h => Nat.le_trans hX1.size h))
  refine ⟨_, rfl, ?_⟩
  refine lv (v := .bool false) rfl (r_neq rfl rfl rfl (by decide)) rfl ?_
  refine lv (v := .bool false) rfl (r_mv rfl rfl) rfl ?_
  refine lv (v := .pointer (some ⟨d, 0, none⟩)) (by kernel_rfl) (r_mv rfl rfl) rfl ?_
  have hfz : fsz fs10 = asz [(⟨#[97]⟩, [], [120, 121])] := by rw [fsz_abs, hfs]
  simp only [asz, List.map_cons, List.map_nil, List.sum_cons, List.sum_nil, List.length_nil, List.length_replicate, List.length_cons] at hfz
  have hX1 := hX
  refine lc fc10 (by kernel_rfl) rfl rfl ?_
  refine (Sync_spec (nm := ⟨#[97]⟩) hK (by decide) (by rw [hfz]; exact LIM_ge (by omega))).mono ?_
  rintro e w14 ⟨rfl, fs13, hAB, hK1, hA1⟩
  replace hX := hX.step hA1 (fun k hk h => absurd hk (Nat.not_lt.2 h))
  replace hfs : fs13.map F.abs = [(⟨#[97]⟩, [120, 121], [])] := by rw [hAB, hfs]; simp [upA]
  have hK : Dk 36 40 5 w14 d m (fun k => w.heap.size ≤ k) fs13 false 2 := hK1.mono (fun k _ h => h.elim id (fun h => Nat.le_trans hX1.size h))
  refine ⟨_, rfl, ?_⟩
  refine lv (v := .bool false) (by kernel_rfl) (r_neq rfl rfl rfl (by decide)) rfl ?_
  refine lv (v := .bool false) rfl (r_pkF rfl rfl rfl) rfl ?_
  refine lv (v := .bool false) rfl (r_mv rfl rfl) rfl ?_
  refine lv (v := .pointer (some ⟨d, 0, none⟩)) (by kernel_rfl) (r_mv rfl rfl) rfl ?_
  have hKl := hK.lt
  refine le (by kernel_rfl) (e_bs (ps := [(.int .u8 122, [.int .u8 122])]) rfl sl22 ze5 rfl rfl (by intro x hx; simp only [List.mem_singleton] at hx; subst hx; exact ⟨rfl, rfl⟩) rfl rfl) rfl ?_
  rintro _ w18 ⟨b16, rfl, hN17⟩
  have hA19 := hN17.ag
  have hgAhX_b16 := Nat.le_trans hX.size hN17.new
  replace hX := hX.step0 hA19
  replace hK := hK.keep hA19 (fun _ _ _ h => h)
  replace hKl := hKl.keep hA19 (fun _ _ _ h => h)
  have hB20 : Blk w18 b16 ([.int .u8 122]) 5 := by have := hN17.blk; simpa [List.flatten_cons] using this
  have hbl := hN17.new
  refine le (by kernel_rfl) (e_cvc (bs := [122]) rfl un22 un5 rfl (show Blk _ _ (bvs [122]) 5 from hB20) (LIM_ge (by decide))) rfl ?_
  rintro _ w23 ⟨s21, rfl, hR22, hA2⟩
  replace hX := hX.step hA2 (fun k hk e => absurd hk (by subst e; exact Nat.not_lt.2 hgAhX_b16))
  replace hK := hK
  replace hKl := hKl.keep hA2 (fun k _ hs e => absurd hs.2 (by subst e; exact Nat.not_lt.2 hbl))
  have hfz : fsz fs13 = asz [(⟨#[97]⟩, [120, 121], [])] := by rw [fsz_abs, hfs]
  simp only [asz, List.map_cons, List.map_nil, List.sum_cons, List.sum_nil, List.length_nil, List.length_replicate, List.length_cons] at hfz
  have hlenR := hR22.len
  rw [brow_length] at hlenR
  try simp only [List.length_replicate] at hlenR
  have hX1 := hX
  refine lc fc8 (by kernel_rfl) rfl rfl ?_
  refine (Append_spec (nm := ⟨#[97]⟩) hKl (by decide) hR22 (fun k e h => absurd h.2 (by subst e; exact Nat.not_lt.2 hbl)) (by first | omega | (simp only [List.length_replicate, List.length_cons, List.length_nil]; omega))).mono ?_
  rintro e w25 ⟨rfl, fs24, hAB, hK1, hA1⟩
  replace hA1 := hA1.mono (M' := (fun k => w.heap.size ≤ k)) (fun _ _ h => h.1)
  replace hX := hX.step hA1 (fun k hk h => absurd hk (Nat.not_lt.2 h))
  replace hfs : fs24.map F.abs = [(⟨#[97]⟩, [120, 121], [122])] := by rw [hAB, hfs]; simp [upA]
  have hK : Dk 36 40 5 w25 d m (fun k => w.heap.size ≤ k) fs24 false 3 := hK1.mono (fun k _ h => h.elim (·.1) (fun h => Nat.le_trans hX1.size h))
  refine ⟨_, rfl, ?_⟩
  refine lv (v := .bool false) (by kernel_rfl) (r_neq rfl rfl rfl (by decide)) rfl ?_
  refine lv (v := .bool false) rfl (r_pkF rfl rfl rfl) rfl ?_
  refine wend ?_
  refine wthen ?_
  refine wcF rfl ?_
  refine wp_skip ?_
  refine wthen ?_
  refine wseq ?_
  refine wreg ?_
  refine lv (v := .pointer (some ⟨d, 0, none⟩)) rfl (r_mv rfl rfl) rfl ?_
  obtain ⟨f0, rfl, hab0⟩ := one_abs hfs
  simp only [F.abs, Prod.mk.injEq] at hab0
  have hX1 := hX
  refine lc fc11 rfl rfl rfl ?_
  refine (Off_spec hK (by rw [hab0.2.1, hab0.2.2]; decide)).mono ?_
  rintro e w27 ⟨f1, rfl, hK1, hab1, hA1⟩
  replace hX := hX.step hA1 (fun k hk h => absurd hk (Nat.not_lt.2 h))
  replace hfs : [f1].map F.abs = [(⟨#[97]⟩, [120, 121], [])] := by simp only [List.map_cons, List.map_nil, hab1, hab0.1, hab0.2.1]
  have hK : Dk 36 40 5 w27 d m (fun k => w.heap.size ≤ k) [f1] true 3 := hK1.mono (fun k _ h => h.elim id (fun h => Nat.le_trans hX1.size h))
  refine ⟨_, rfl, ?_⟩
  refine wend ?_
  refine wthen ?_
  refine wseq ?_
  refine wreg ?_
  refine lv (v := .pointer (some ⟨d, 0, none⟩)) rfl (r_mv rfl rfl) rfl ?_
  refine lc fc12 rfl rfl rfl ?_
  refine (On_spec hK).mono ?_
  rintro e w28 ⟨rfl, hK1, hA1⟩
  replace hA1 := hA1.mono (M' := (fun k => w.heap.size ≤ k)) (fun k _ e => by subst e; exact hK.inS.1)
  replace hX := hX.step hA1 (fun k hk h => absurd hk (Nat.not_lt.2 h))
  replace hK := hK1
  refine ⟨_, rfl, ?_⟩
  refine wend ?_
  refine wthen ?_
  refine wseq ?_
  refine wreg ?_
  refine lv (v := .pointer (some ⟨d, 0, none⟩)) rfl (r_mv rfl rfl) rfl ?_
  have hfz : fsz [f1] = asz [(⟨#[97]⟩, [120, 121], [])] := by rw [fsz_abs, hfs]
  simp only [asz, List.map_cons, List.map_nil, List.sum_cons, List.sum_nil, List.length_nil, List.length_replicate, List.length_cons] at hfz
  refine lc fc9 rfl rfl rfl ?_
  refine (Read_spec (nm := ⟨#[97]⟩) (sb := [120, 121]) (ab := []) hK (by rw [hfs]; simp) (by rw [hfz]; exact LIM_ge (by omega))).mono ?_
  rintro e w31 ⟨s29, rfl, hR30, hA1⟩
  replace hX := hX.step0 hA1
  replace hK := hK.keep hA1 (fun _ _ _ h => h)
  refine ⟨_, rfl, ?_⟩
  refine lv (v := .tuple #[s29.v, .int .i64 0]) rfl (r_mv rfl rfl) rfl ?_
  refine lv (v := s29.v) rfl (r_ext rfl rfl rfl) rfl ?_
  refine lv (v := .int .i64 0) rfl (r_ext rfl rfl rfl) rfl ?_
  refine lv (v := s29.v) rfl (r_as rfl rfl) rfl ?_
  refine lv (v := .int .i64 0) rfl (r_as rfl rfl) rfl ?_
  refine wend ?_
  refine wthen ?_
  refine wseq ?_
  refine wreg ?_
  refine lv (v := s29.v) rfl (r_mv rfl rfl) rfl ?_
  refine lv (v := .string (⟨(([120, 121] ++ []) : List UInt8).toArray⟩)) rfl (r_b2s rfl un22 un5 un9 rfl hR30) rfl ?_
  refine lv (v := .bool true) rfl (r_seq rfl rfl rfl (decide_eq_true rfl)) rfl ?_
  refine lv (v := .bool true) rfl (r_mv rfl rfl) rfl ?_
  refine lv (v := .int .i64 0) (by kernel_rfl) (r_mv rfl rfl) rfl ?_
  refine lv (v := .bool true) (by kernel_rfl) (r_eql rfl rfl rfl (by decide)) rfl ?_
  refine lv (v := .bool true) rfl (r_pkT rfl rfl rfl) rfl ?_
  refine lv (v := .bool true) rfl (r_as rfl rfl) rfl ?_
  refine wend ?_
  refine wthen ?_
  refine wp_ret ?_
  refine fin1 rfl rfl ?_
  exact ⟨rfl, hX⟩
theorem DiskFull_walk {nm : ByteArray} {s : Sv} {l : Int} {bs : List UInt8} {w : World} (hR : Row (fun k => k < w.heap.size) w s 1 (brow bs)) :
    Calls Try.prog 3 #[.string nm, s.v, .int .i64 l] w fun e w' => e = .returned (.bool true) ∧ Ag M0 w w' := by
  have hX := Ag.refl M0 w
  have hsn := hR.len
  rw [brow_length] at hsn
  refine enter (args := [.string nm, s.v, .int .i64 l]) Try.func3 rfl Try.ntmps3 (Nat.le_of_ble_eq_true rfl) ?_
  refine wseq ?_
  refine wreg ?_
  refine lv (v := .bool false) rfl (r_as rfl rfl) rfl ?_
  refine wend ?_
  refine wthen ?_
  refine wseq ?_
  refine wseq ?_
  refine wreg ?_
  refine lc fc4 rfl rfl rfl ?_
  refine (alive_spec).mono ?_
  rintro e w1 ⟨rfl, hA1⟩
  replace hX := hX.step0 hA1
  replace hR := hR.keep hA1 (fun _ _ _ h => h)
  refine ⟨_, rfl, ?_⟩
  refine lv (v := .bool false) rfl (r_not (b := true) rfl rfl) rfl ?_
  refine wend ?_
  refine wthen ?_
  refine wcF rfl ?_
  refine wp_skip ?_
  refine wthen ?_
  refine wseq ?_
  refine wseq ?_
  refine wreg ?_
  refine lv (v := s.v) rfl (r_mv rfl rfl) rfl ?_
  refine lv (v := .int .i64 (s.n : Int)) rfl (r_len rfl sl22 rfl) rfl ?_
  rcases dsp ((4096 : Int) < (s.n : Int)) with ⟨hc2, hp3⟩ | ⟨hc2, hp3⟩
  · skip
    refine lv (v := .bool true) rfl (r_gtr rfl rfl rfl hc2) rfl ?_
    refine lv (v := .bool true) rfl (r_mv rfl rfl) rfl ?_
    with_reducible refine lx (d := 18) (by kernel_rfl) (by kernel_rfl) ?_
    with_reducible refine lx (d := 19) (by kernel_rfl) (by kernel_rfl) ?_
    with_reducible refine lx (d := 20) (by kernel_rfl) (by kernel_rfl) ?_
    refine lv (v := .bool true) rfl (r_pkT rfl rfl rfl) rfl ?_
    refine lv (v := .bool true) rfl (r_mv rfl rfl) rfl ?_
    with_reducible refine lx (d := 23) (by kernel_rfl) (by kernel_rfl) ?_
    with_reducible refine lx (d := 24) (by kernel_rfl) (by kernel_rfl) ?_
    refine lv (v := .bool true) rfl (r_pkT rfl rfl rfl) rfl ?_
    refine lv (v := .bool true) rfl (r_mv rfl rfl) rfl ?_
    with_reducible refine lx (d := 27) (by kernel_rfl) (by kernel_rfl) ?_
    with_reducible refine lx (d := 28) (by kernel_rfl) (by kernel_rfl) ?_
    refine lv (v := .bool true) rfl (r_pkT rfl rfl rfl) rfl ?_
    refine lv (v := .bool true) rfl (r_mv rfl rfl) rfl ?_
    with_reducible refine lx (d := 31) (by kernel_rfl) (by kernel_rfl) ?_
    with_reducible refine lx (d := 32) (by kernel_rfl) (by kernel_rfl) ?_
    refine lv (v := .bool true) rfl (r_pkT rfl rfl rfl) rfl ?_
    refine wend ?_
    refine wthen ?_
    refine wcT rfl ?_
    refine wseq ?_
    refine wreg ?_
    refine lv (v := .bool true) rfl (r_as rfl rfl) rfl ?_
    refine wend ?_
    refine wthen ?_
    refine wp_ret ?_
    refine thR ?_
    refine fin1 rfl rfl ?_
    exact ⟨rfl, hX⟩
  · skip
    refine lv (v := .bool false) rfl (r_gtr rfl rfl rfl hc2) rfl ?_
    refine lv (v := .bool false) rfl (r_mv rfl rfl) rfl ?_
    refine lv (v := .string nm) (by kernel_rfl) (r_mv rfl rfl) rfl ?_
    refine lv (v := .int .i64 (nm.size : Int)) (by kernel_rfl) (r_lens rfl un9 rfl) rfl ?_
    rcases dsp ((1024 : Int) < (nm.size : Int)) with ⟨hc4, hp5⟩ | ⟨hc4, hp5⟩
    · skip
      refine lv (v := .bool true) (by kernel_rfl) (r_gtr rfl rfl rfl hc4) rfl ?_
      refine lv (v := .bool true) rfl (r_pkF rfl rfl rfl) rfl ?_
      refine lv (v := .bool true) rfl (r_mv rfl rfl) rfl ?_
      with_reducible refine lx (d := 23) (by kernel_rfl) (by kernel_rfl) ?_
      with_reducible refine lx (d := 24) (by kernel_rfl) (by kernel_rfl) ?_
      refine lv (v := .bool true) rfl (r_pkT rfl rfl rfl) rfl ?_
      refine lv (v := .bool true) rfl (r_mv rfl rfl) rfl ?_
      with_reducible refine lx (d := 27) (by kernel_rfl) (by kernel_rfl) ?_
      with_reducible refine lx (d := 28) (by kernel_rfl) (by kernel_rfl) ?_
      refine lv (v := .bool true) rfl (r_pkT rfl rfl rfl) rfl ?_
      refine lv (v := .bool true) rfl (r_mv rfl rfl) rfl ?_
      with_reducible refine lx (d := 31) (by kernel_rfl) (by kernel_rfl) ?_
      with_reducible refine lx (d := 32) (by kernel_rfl) (by kernel_rfl) ?_
      refine lv (v := .bool true) rfl (r_pkT rfl rfl rfl) rfl ?_
      refine wend ?_
      refine wthen ?_
      refine wcT rfl ?_
      refine wseq ?_
      refine wreg ?_
      refine lv (v := .bool true) rfl (r_as rfl rfl) rfl ?_
      refine wend ?_
      refine wthen ?_
      refine wp_ret ?_
      refine thR ?_
      refine fin1 rfl rfl ?_
      exact ⟨rfl, hX⟩
    · skip
      refine lv (v := .bool false) (by kernel_rfl) (r_gtr rfl rfl rfl hc4) rfl ?_
      refine lv (v := .bool false) rfl (r_pkF rfl rfl rfl) rfl ?_
      refine lv (v := .bool false) rfl (r_mv rfl rfl) rfl ?_
      refine lv (v := .int .i64 l) (by kernel_rfl) (r_mv rfl rfl) rfl ?_
      rcases dsp ((l : Int) < 0) with ⟨hc6, hp7⟩ | ⟨hc6, hp7⟩
      · skip
        refine lv (v := .bool true) (by kernel_rfl) (r_lss rfl rfl rfl hc6) rfl ?_
        refine lv (v := .bool true) rfl (r_pkF rfl rfl rfl) rfl ?_
        refine lv (v := .bool true) rfl (r_mv rfl rfl) rfl ?_
        with_reducible refine lx (d := 27) (by kernel_rfl) (by kernel_rfl) ?_
        with_reducible refine lx (d := 28) (by kernel_rfl) (by kernel_rfl) ?_
        refine lv (v := .bool true) rfl (r_pkT rfl rfl rfl) rfl ?_
        refine lv (v := .bool true) rfl (r_mv rfl rfl) rfl ?_
        with_reducible refine lx (d := 31) (by kernel_rfl) (by kernel_rfl) ?_
        with_reducible refine lx (d := 32) (by kernel_rfl) (by kernel_rfl) ?_
        refine lv (v := .bool true) rfl (r_pkT rfl rfl rfl) rfl ?_
        refine wend ?_
        refine wthen ?_
        refine wcT rfl ?_
        refine wseq ?_
        refine wreg ?_
        refine lv (v := .bool true) rfl (r_as rfl rfl) rfl ?_
        refine wend ?_
        refine wthen ?_
        refine wp_ret ?_
        refine thR ?_
        refine fin1 rfl rfl ?_
        exact ⟨rfl, hX⟩
      · skip
        refine lv (v := .bool false) (by kernel_rfl) (r_lss rfl rfl rfl hc6) rfl ?_
        refine lv (v := .bool false) rfl (r_pkF rfl rfl rfl) rfl ?_
        refine lv (v := .bool false) rfl (r_mv rfl rfl) rfl ?_
        refine lv (v := .int .i64 l) (by kernel_rfl) (r_mv rfl rfl) rfl ?_
        rcases dsp ((4096 : Int) < l) with ⟨hc8, hp9⟩ | ⟨hc8, hp9⟩
        · skip
          refine lv (v := .bool true) (by kernel_rfl) (r_gtr rfl rfl rfl hc8) rfl ?_
          refine lv (v := .bool true) rfl (r_pkF rfl rfl rfl) rfl ?_
          refine lv (v := .bool true) rfl (r_mv rfl rfl) rfl ?_
          with_reducible refine lx (d := 31) (by kernel_rfl) (by kernel_rfl) ?_
          with_reducible refine lx (d := 32) (by kernel_rfl) (by kernel_rfl) ?_
          refine lv (v := .bool true) rfl (r_pkT rfl rfl rfl) rfl ?_
          refine wend ?_
          refine wthen ?_
          refine wcT rfl ?_
          refine wseq ?_
          refine wreg ?_
          refine lv (v := .bool true) rfl (r_as rfl rfl) rfl ?_
          refine wend ?_
          refine wthen ?_
          refine wp_ret ?_
          refine thR ?_
          refine fin1 rfl rfl ?_
          exact ⟨rfl, hX⟩
        · skip
          have hl0 : 0 ≤ l := by omega
          refine lv (v := .bool false) (by kernel_rfl) (r_gtr rfl rfl rfl hc8) rfl ?_
          refine lv (v := .bool false) rfl (r_pkF rfl rfl rfl) rfl ?_
          refine lv (v := .bool false) rfl (r_mv rfl rfl) rfl ?_
          refine lv (v := .string nm) (by kernel_rfl) (r_mv rfl rfl) rfl ?_
          rcases dsp (nm = ⟨#[98, 105, 103]⟩) with ⟨hc10, hp11⟩ | ⟨hc10, hp11⟩
          · skip
            refine lv (v := .bool true) (by kernel_rfl) (r_seq rfl rfl rfl hc10) rfl ?_
            refine lv (v := .bool true) rfl (r_pkF rfl rfl rfl) rfl ?_
            refine wend ?_
            refine wthen ?_
            refine wcT rfl ?_
            refine wseq ?_
            refine wreg ?_
            refine lv (v := .bool true) rfl (r_as rfl rfl) rfl ?_
            refine wend ?_
            refine wthen ?_
            refine wp_ret ?_
            refine thR ?_
            refine fin1 rfl rfl ?_
            exact ⟨rfl, hX⟩
          · skip
            have hnb := hp11
            refine lv (v := .bool false) (by kernel_rfl) (r_seq rfl rfl rfl hc10) rfl ?_
            refine lv (v := .bool false) rfl (r_pkF rfl rfl rfl) rfl ?_
            refine wend ?_
            refine wthen ?_
            refine wcF rfl ?_
            refine wp_skip ?_
            refine wthen ?_
            refine wseq ?_
            refine wreg ?_
            have hX0n := hX
            refine lc fc5 rfl rfl rfl ?_
            refine (New_spec).mono ?_
            rintro e w12 ⟨d, m, rfl, hK, hAn⟩
            replace hX := hX.step0 hAn
            replace hR := hR.keep hAn (fun _ _ _ h => h)
            replace hK : Dk 36 40 5 w12 d m (fun k => w.heap.size ≤ k) [] false 0 := hK.mono (fun k _ h => Nat.le_trans hX0n.size h)
            have hfs : ([] : List F).map F.abs = [] := rfl
            refine ⟨_, rfl, ?_⟩
            refine lv (v := .pointer (some ⟨d, 0, none⟩)) rfl (r_as rfl rfl) rfl ?_
            refine wend ?_
            refine wthen ?_
            refine wseq ?_
            refine wseq ?_
            refine wreg ?_
            refine lv (v := .pointer (some ⟨d, 0, none⟩)) rfl (r_mv rfl rfl) rfl ?_
            refine lv (v := .int .i64 l) rfl (r_mv rfl rfl) rfl ?_
            refine lv (v := .int .i64 (4194304 - l)) rfl (r_sub rfl rfl rfl (by omega)) rfl ?_
            have hKl := hK.lt
            have hX9 := Ag.refl M0 w12
            refine le rfl (e_ms (m := ((4194304 - l)).toNat) rfl sl22 inf5 zv5 (congrArg (Value.int .i64) (show ((4194304 - l) : Int) = ((((4194304 - l)).toNat : Nat) : Int) by omega)) (congrArg (Value.int .i64) (show ((4194304 - l) : Int) = ((((4194304 - l)).toNat : Nat) : Int) by omega)) (by omega)) rfl ?_
            rintro _ w15 ⟨s13, rfl, hR14, hA2⟩
            replace hX := hX.step0 hA2
            replace hR := hR.keep hA2 (fun _ _ _ h => h)
            replace hK := hK.keep hA2 (fun _ _ _ h => h)
            replace hKl := hKl.keep hA2 (fun _ _ _ h => h)
            have hbl := Nat.le_refl w12.heap.size
            have hfz : fsz [] = asz [] := by rw [fsz_abs, hfs]
            simp only [asz, List.map_cons, List.map_nil, List.sum_cons, List.sum_nil, List.length_nil, List.length_replicate, List.length_cons] at hfz
            have hlenR := hR14.len
            rw [brow_length] at hlenR
            try simp only [List.length_replicate] at hlenR
            have hX1 := hX
            refine lc fc6 rfl rfl rfl ?_
            refine (Install_spec (nm := ⟨#[98, 105, 103]⟩) hKl (by decide) hR14 (fun k e h => absurd h.2 (Nat.not_lt.2 (Nat.le_trans hbl e))) (by first | omega | (simp only [List.length_replicate, List.length_cons, List.length_nil]; omega))).mono ?_
            rintro e w17 ⟨rfl, fs16, hAB, hK1, hA1⟩
            replace hA1 := hA1.mono (M' := (fun k => w.heap.size ≤ k)) (fun _ _ h => h.1)
            replace hX := hX.step hA1 (fun k hk h => absurd hk (Nat.not_lt.2 h))
            replace hR := hR.keep hA1 (fun k _ hd h => absurd hd (Nat.not_lt.2 h))
            replace hfs : fs16.map F.abs = [(⟨#[98, 105, 103]⟩, (List.replicate ((4194304 - l)).toNat 0), [])] := by rw [hAB, hfs]; simp [upA, Ne.symm hnb, hnb]
            have hK : Dk 36 40 5 w17 d m (fun k => w.heap.size ≤ k) fs16 false 1 := hK1.mono (fun k _ h => h.elim (·.1) (fun h => Nat.le_trans hX1.size h))
            refine ⟨_, rfl, ?_⟩
            refine lv (v := .bool false) rfl (r_neq rfl rfl rfl (by decide)) rfl ?_
            refine wend ?_
            refine wthen ?_
            refine wcF rfl ?_
            refine wp_skip ?_
            refine wthen ?_
            refine wseq ?_
            refine wreg ?_
            refine lv (v := .int .i64 0) rfl (r_as rfl rfl) rfl ?_
            refine wend ?_
            refine wthen ?_
            refine wseq ?_
            refine wseq ?_
            refine wreg ?_
            refine lv (v := s.v) rfl (r_mv rfl rfl) rfl ?_
            refine lv (v := .int .i64 (s.n : Int)) rfl (r_len rfl sl22 rfl) rfl ?_
            refine lv (v := .int .i64 l) rfl (r_mv rfl rfl) rfl ?_
            rcases dsp ((l : Int) < (s.n : Int)) with ⟨hc19, hp20⟩ | ⟨hc19, hp20⟩
            · skip
              refine lv (v := .bool true) rfl (r_gtr rfl rfl rfl hc19) rfl ?_
              refine wend ?_
              refine wthen ?_
              refine wcT rfl ?_
              refine wreg ?_
              refine lv (v := .int .i64 20) rfl (r_as rfl rfl) rfl ?_
              refine wend ?_
              refine wthen ?_
              refine wseq ?_
              refine wreg ?_
              refine lv (v := .pointer (some ⟨d, 0, none⟩)) rfl (r_mv rfl rfl) rfl ?_
              refine lc fc7 rfl rfl rfl ?_
              refine (Acts_spec hK).mono ?_
              rintro e w21 ⟨rfl, hA1⟩
              replace hX := hX.step0 hA1
              replace hR := hR.keep hA1 (fun _ _ _ h => h)
              replace hK := hK.keep hA1 (fun _ _ _ h => h)
              refine ⟨_, rfl, ?_⟩
              refine lv (v := .int .i64 1) rfl (r_as rfl rfl) rfl ?_
              refine wend ?_
              refine wthen ?_
              refine wseq ?_
              refine wseq ?_
              refine wreg ?_
              refine lv (v := .pointer (some ⟨d, 0, none⟩)) rfl (r_mv rfl rfl) rfl ?_
              refine lv (v := .string nm) rfl (r_mv rfl rfl) rfl ?_
              refine lv (v := s.v) rfl (r_mv rfl rfl) rfl ?_
              have hfz : fsz fs16 = asz [(⟨#[98, 105, 103]⟩, (List.replicate ((4194304 - l)).toNat 0), [])] := by rw [fsz_abs, hfs]
              simp only [asz, List.map_cons, List.map_nil, List.sum_cons, List.sum_nil, List.length_nil, List.length_replicate, List.length_cons] at hfz
              have hlenR := hR.len
              rw [brow_length] at hlenR
              try simp only [List.length_replicate] at hlenR
              have hX1 := hX
              refine lc fc8 rfl rfl rfl ?_
              refine (Append_full (nm := nm) hK (by decide) hR (LIM_ge (by omega)) (by omega)).mono ?_
              rintro e w22 ⟨rfl, hA1⟩
              replace hX := hX.step0 hA1
              replace hR := hR.keep hA1 (fun _ _ _ h => h)
              replace hK := hK.keep hA1 (fun _ _ _ h => h)
              refine ⟨_, rfl, ?_⟩
              refine lv (v := .int .i64 20) rfl (r_mv rfl rfl) rfl ?_
              refine lv (v := .bool false) rfl (r_neq rfl rfl rfl (by decide)) rfl ?_
              refine lv (v := .bool false) rfl (r_mv rfl rfl) rfl ?_
              refine lv (v := .int .i64 20) (by kernel_rfl) (r_mv rfl rfl) rfl ?_
              refine lv (v := .bool true) (by kernel_rfl) (r_neq rfl rfl rfl (by decide)) rfl ?_
              refine lv (v := .bool true) (by kernel_rfl) (r_mv rfl rfl) rfl ?_
              refine lv (v := .pointer (some ⟨d, 0, none⟩)) (by kernel_rfl) (r_mv rfl rfl) rfl ?_
              refine lc fc7 (by kernel_rfl) rfl rfl ?_
              refine (Acts_spec hK).mono ?_
              rintro e w23 ⟨rfl, hA1⟩
              replace hX := hX.step0 hA1
              replace hR := hR.keep hA1 (fun _ _ _ h => h)
              replace hK := hK.keep hA1 (fun _ _ _ h => h)
              refine ⟨_, rfl, ?_⟩
              refine lv (v := .int .i64 1) (by kernel_rfl) (r_mv rfl rfl) rfl ?_
              refine lv (v := .bool false) (by kernel_rfl) (r_neq rfl rfl rfl (by decide)) rfl ?_
              refine lv (v := .bool false) (by kernel_rfl) (r_mv rfl rfl) rfl ?_
              refine lv (v := .pointer (some ⟨d, 0, none⟩)) (by kernel_rfl) (r_mv rfl rfl) rfl ?_
              refine lv (v := .string nm) (by kernel_rfl) (r_mv rfl rfl) rfl ?_
              refine lv (v := s.v) (by kernel_rfl) (r_mv rfl rfl) rfl ?_
              have hfz : fsz fs16 = asz [(⟨#[98, 105, 103]⟩, (List.replicate ((4194304 - l)).toNat 0), [])] := by rw [fsz_abs, hfs]
              simp only [asz, List.map_cons, List.map_nil, List.sum_cons, List.sum_nil, List.length_nil, List.length_replicate, List.length_cons] at hfz
              have hlenR := hR.len
              rw [brow_length] at hlenR
              try simp only [List.length_replicate] at hlenR
              have hX1 := hX
              refine lc fc6 (by kernel_rfl) rfl rfl ?_
              refine (Install_full (nm := nm) hK (by decide) hR (LIM_ge (by omega)) (by omega)).mono ?_
              rintro e w24 ⟨rfl, hA1⟩
              replace hX := hX.step0 hA1
              replace hR := hR.keep hA1 (fun _ _ _ h => h)
              replace hK := hK.keep hA1 (fun _ _ _ h => h)
              refine ⟨_, rfl, ?_⟩
              refine lv (v := .int .i64 20) (by kernel_rfl) (r_mv rfl rfl) rfl ?_
              refine lv (v := .bool false) (by kernel_rfl) (r_neq rfl rfl rfl (by decide)) rfl ?_
              refine lv (v := .bool false) (by kernel_rfl) (r_pkF rfl rfl rfl) rfl ?_
              refine lv (v := .bool false) (by kernel_rfl) (r_pkT rfl rfl rfl) rfl ?_
              refine lv (v := .bool false) rfl (r_pkF rfl rfl rfl) rfl ?_
              refine wend ?_
              refine wthen ?_
              refine wcF rfl ?_
              refine wp_skip ?_
              refine wthen ?_
              refine wseq ?_
              refine wreg ?_
              refine lv (v := .pointer (some ⟨d, 0, none⟩)) rfl (r_mv rfl rfl) rfl ?_
              refine lv (v := .string nm) rfl (r_mv rfl rfl) rfl ?_
              have hfz : fsz fs16 = asz [(⟨#[98, 105, 103]⟩, (List.replicate ((4194304 - l)).toNat 0), [])] := by rw [fsz_abs, hfs]
              simp only [asz, List.map_cons, List.map_nil, List.sum_cons, List.sum_nil, List.length_nil, List.length_replicate, List.length_cons] at hfz
              refine lc fc9 rfl rfl rfl ?_
              refine (Read_none (nm := nm) hK (by rw [hfs]; simp [Ne.symm hnb, hnb])).mono ?_
              rintro e w25 ⟨rfl, hA1⟩
              replace hX := hX.step0 hA1
              replace hR := hR.keep hA1 (fun _ _ _ h => h)
              replace hK := hK.keep hA1 (fun _ _ _ h => h)
              refine ⟨_, rfl, ?_⟩
              refine lv (v := .tuple #[.slice none 0 0, .int .i64 7]) rfl (r_mv rfl rfl) rfl ?_
              refine lv (v := .slice none 0 0) rfl (r_ext rfl rfl rfl) rfl ?_
              refine lv (v := .int .i64 7) rfl (r_ext rfl rfl rfl) rfl ?_
              refine lv (v := .slice none 0 0) rfl (r_as rfl rfl) rfl ?_
              refine lv (v := .int .i64 7) rfl (r_as rfl rfl) rfl ?_
              refine wend ?_
              refine wthen ?_
              refine wseq ?_
              refine wreg ?_
              refine lv (v := .int .i64 20) rfl (r_mv rfl rfl) rfl ?_
              refine lv (v := .bool false) rfl (r_eql rfl rfl rfl (by decide)) rfl ?_
              refine lv (v := .bool false) rfl (r_mv rfl rfl) rfl ?_
              with_reducible refine lx (d := 80) (by kernel_rfl) (by kernel_rfl) ?_
              with_reducible refine lx (d := 81) (by kernel_rfl) (by kernel_rfl) ?_
              refine lv (v := .bool false) rfl (r_pkF rfl rfl rfl) rfl ?_
              refine lv (v := .bool false) rfl (r_mv rfl rfl) rfl ?_
              with_reducible refine lx (d := 84) (by kernel_rfl) (by kernel_rfl) ?_
              with_reducible refine lx (d := 85) (by kernel_rfl) (by kernel_rfl) ?_
              with_reducible refine lx (d := 86) (by kernel_rfl) (by kernel_rfl) ?_
              with_reducible refine lx (d := 87) (by kernel_rfl) (by kernel_rfl) ?_
              with_reducible refine lx (d := 88) (by kernel_rfl) (by kernel_rfl) ?_
              refine lv (v := .bool false) rfl (r_pkF rfl rfl rfl) rfl ?_
              refine lv (v := .bool false) rfl (r_mv rfl rfl) rfl ?_
              refine lv (v := .int .i64 20) (by kernel_rfl) (r_mv rfl rfl) rfl ?_
              refine lv (v := .bool true) (by kernel_rfl) (r_neq rfl rfl rfl (by decide)) rfl ?_
              refine lv (v := .bool true) (by kernel_rfl) (r_mv rfl rfl) rfl ?_
              refine lv (v := .int .i64 7) (by kernel_rfl) (r_mv rfl rfl) rfl ?_
              refine lv (v := .bool true) (by kernel_rfl) (r_eql rfl rfl rfl (by decide)) rfl ?_
              refine lv (v := .bool true) (by kernel_rfl) (r_pkT rfl rfl rfl) rfl ?_
              refine lv (v := .bool true) rfl (r_pkF rfl rfl rfl) rfl ?_
              refine lv (v := .bool true) rfl (r_as rfl rfl) rfl ?_
              refine wend ?_
              refine wthen ?_
              refine wp_ret ?_
              refine fin1 rfl rfl ?_
              exact ⟨rfl, hX⟩
            · skip
              refine lv (v := .bool false) rfl (r_gtr rfl rfl rfl hc19) rfl ?_
              refine wend ?_
              refine wthen ?_
              refine wcF rfl ?_
              refine wp_skip ?_
              refine wthen ?_
              refine wseq ?_
              refine wreg ?_
              refine lv (v := .pointer (some ⟨d, 0, none⟩)) rfl (r_mv rfl rfl) rfl ?_
              refine lc fc7 rfl rfl rfl ?_
              refine (Acts_spec hK).mono ?_
              rintro e w21 ⟨rfl, hA1⟩
              replace hX := hX.step0 hA1
              replace hR := hR.keep hA1 (fun _ _ _ h => h)
              replace hK := hK.keep hA1 (fun _ _ _ h => h)
              refine ⟨_, rfl, ?_⟩
              refine lv (v := .int .i64 1) rfl (r_as rfl rfl) rfl ?_
              refine wend ?_
              refine wthen ?_
              refine wseq ?_
              refine wseq ?_
              refine wreg ?_
              refine lv (v := .pointer (some ⟨d, 0, none⟩)) rfl (r_mv rfl rfl) rfl ?_
              refine lv (v := .string nm) rfl (r_mv rfl rfl) rfl ?_
              refine lv (v := s.v) rfl (r_mv rfl rfl) rfl ?_
              have hfz : fsz fs16 = asz [(⟨#[98, 105, 103]⟩, (List.replicate ((4194304 - l)).toNat 0), [])] := by rw [fsz_abs, hfs]
              simp only [asz, List.map_cons, List.map_nil, List.sum_cons, List.sum_nil, List.length_nil, List.length_replicate, List.length_cons] at hfz
              have hlenR := hR.len
              rw [brow_length] at hlenR
              try simp only [List.length_replicate] at hlenR
              have hX1 := hX
              refine lc fc8 rfl rfl rfl ?_
              refine (Append_spec (nm := nm) hK (by decide) hR (fun k hd h => absurd hd (Nat.not_lt.2 h)) (by first | omega | (simp only [List.length_replicate, List.length_cons, List.length_nil]; omega))).mono ?_
              rintro e w23 ⟨rfl, fs22, hAB, hK1, hA1⟩
              replace hX := hX.step hA1 (fun k hk h => absurd hk (Nat.not_lt.2 h))
              replace hR := hR.keep hA1 (fun k _ hd h => absurd hd (Nat.not_lt.2 h))
              replace hfs : fs22.map F.abs = [(⟨#[98, 105, 103]⟩, (List.replicate ((4194304 - l)).toNat 0), []), (nm, [], bs)] := by rw [hAB, hfs]; simp [upA, Ne.symm hnb, hnb]
              have hK : Dk 36 40 5 w23 d m (fun k => w.heap.size ≤ k) fs22 false 2 := hK1.mono (fun k _ h => h.elim id (fun h => Nat.le_trans hX1.size h))
              refine ⟨_, rfl, ?_⟩
              refine lv (v := .int .i64 0) rfl (r_mv rfl rfl) rfl ?_
              refine lv (v := .bool false) rfl (r_neq rfl rfl rfl (by decide)) rfl ?_
              refine lv (v := .bool false) rfl (r_mv rfl rfl) rfl ?_
              refine lv (v := .int .i64 0) (by kernel_rfl) (r_mv rfl rfl) rfl ?_
              refine lv (v := .bool false) (by kernel_rfl) (r_neq rfl rfl rfl (by decide)) rfl ?_
              refine lv (v := .bool false) (by kernel_rfl) (r_mv rfl rfl) rfl ?_
              with_reducible refine lx (d := 57) (by kernel_rfl) (by kernel_rfl) ?_
              with_reducible refine lx (d := 58) (by kernel_rfl) (by kernel_rfl) ?_
              with_reducible refine lx (d := 59) (by kernel_rfl) (by kernel_rfl) ?_
              with_reducible refine lx (d := 60) (by kernel_rfl) (by kernel_rfl) ?_
              with_reducible refine lx (d := 61) (by kernel_rfl) (by kernel_rfl) ?_
              with_reducible refine lx (d := 62) (by kernel_rfl) (by kernel_rfl) ?_
              with_reducible refine lx (d := 63) (by kernel_rfl) (by kernel_rfl) ?_
              with_reducible refine lx (d := 64) (by kernel_rfl) (by kernel_rfl) ?_
              with_reducible refine lx (d := 65) (by kernel_rfl) (by kernel_rfl) ?_
              with_reducible refine lx (d := 66) (by kernel_rfl) (by kernel_rfl) ?_
              with_reducible refine lx (d := 67) (by kernel_rfl) (by kernel_rfl) ?_
              with_reducible refine lx (d := 68) (by kernel_rfl) (by kernel_rfl) ?_
              refine lv (v := .bool false) (by kernel_rfl) (r_pkF rfl rfl rfl) rfl ?_
              refine lv (v := .bool false) rfl (r_pkF rfl rfl rfl) rfl ?_
              refine wend ?_
              refine wthen ?_
              refine wcF rfl ?_
              refine wp_skip ?_
              refine wthen ?_
              refine wseq ?_
              refine wreg ?_
              refine lv (v := .pointer (some ⟨d, 0, none⟩)) rfl (r_mv rfl rfl) rfl ?_
              refine lv (v := .string nm) rfl (r_mv rfl rfl) rfl ?_
              have hfz : fsz fs22 = asz [(⟨#[98, 105, 103]⟩, (List.replicate ((4194304 - l)).toNat 0), []), (nm, [], bs)] := by rw [fsz_abs, hfs]
              simp only [asz, List.map_cons, List.map_nil, List.sum_cons, List.sum_nil, List.length_nil, List.length_replicate, List.length_cons] at hfz
              refine lc fc9 rfl rfl rfl ?_
              refine (Read_spec (nm := nm) (sb := []) (ab := bs) hK (by rw [hfs]; simp) (by rw [hfz]; exact LIM_ge (by omega))).mono ?_
              rintro e w27 ⟨s25, rfl, hR26, hA1⟩
              replace hX := hX.step0 hA1
              replace hR := hR.keep hA1 (fun _ _ _ h => h)
              replace hK := hK.keep hA1 (fun _ _ _ h => h)
              refine ⟨_, rfl, ?_⟩
              refine lv (v := .tuple #[s25.v, .int .i64 0]) rfl (r_mv rfl rfl) rfl ?_
              refine lv (v := s25.v) rfl (r_ext rfl rfl rfl) rfl ?_
              refine lv (v := .int .i64 0) rfl (r_ext rfl rfl rfl) rfl ?_
              refine lv (v := s25.v) rfl (r_as rfl rfl) rfl ?_
              refine lv (v := .int .i64 0) rfl (r_as rfl rfl) rfl ?_
              refine wend ?_
              refine wthen ?_
              refine wseq ?_
              refine wreg ?_
              refine lv (v := .int .i64 0) rfl (r_mv rfl rfl) rfl ?_
              refine lv (v := .bool true) rfl (r_eql rfl rfl rfl (by decide)) rfl ?_
              refine lv (v := .bool true) rfl (r_mv rfl rfl) rfl ?_
              refine lv (v := .int .i64 0) (by kernel_rfl) (r_mv rfl rfl) rfl ?_
              refine lv (v := .bool true) (by kernel_rfl) (r_eql rfl rfl rfl (by decide)) rfl ?_
              refine lv (v := .bool true) rfl (r_pkT rfl rfl rfl) rfl ?_
              refine lv (v := .bool true) rfl (r_mv rfl rfl) rfl ?_
              refine lv (v := s25.v) (by kernel_rfl) (r_mv rfl rfl) rfl ?_
              refine lv (v := .string (⟨(([] ++ bs) : List UInt8).toArray⟩)) (by kernel_rfl) (r_b2s rfl un22 un5 un9 rfl hR26) rfl ?_
              refine lv (v := s.v) (by kernel_rfl) (r_mv rfl rfl) rfl ?_
              refine lv (v := .string (⟨(bs : List UInt8).toArray⟩)) (by kernel_rfl) (r_b2s rfl un22 un5 un9 rfl hR) rfl ?_
              refine lv (v := .bool true) (by kernel_rfl) (r_seq rfl rfl rfl (decide_eq_true rfl)) rfl ?_
              refine lv (v := .bool true) rfl (r_pkT rfl rfl rfl) rfl ?_
              refine lv (v := .bool true) rfl (r_mv rfl rfl) rfl ?_
              with_reducible refine lx (d := 91) (by kernel_rfl) (by kernel_rfl) ?_
              with_reducible refine lx (d := 92) (by kernel_rfl) (by kernel_rfl) ?_
              with_reducible refine lx (d := 93) (by kernel_rfl) (by kernel_rfl) ?_
              with_reducible refine lx (d := 94) (by kernel_rfl) (by kernel_rfl) ?_
              with_reducible refine lx (d := 95) (by kernel_rfl) (by kernel_rfl) ?_
              with_reducible refine lx (d := 96) (by kernel_rfl) (by kernel_rfl) ?_
              refine lv (v := .bool true) rfl (r_pkT rfl rfl rfl) rfl ?_
              refine lv (v := .bool true) rfl (r_as rfl rfl) rfl ?_
              refine wend ?_
              refine wthen ?_
              refine wp_ret ?_
              refine fin1 rfl rfl ?_
              exact ⟨rfl, hX⟩
end Go.Proofs.Ytofemaaikmhnlaa.X
