/-
  The walks of the helper alive and of the law DiskApart. No condition beyond those that the lemmas name.
-/
import Derived.Test.YtofemaaikmhnlabXNamesB
set_option linter.unusedSimpArgs false
set_option linter.unusedVariables false
namespace Go.Proofs.Ytofemaaikmhnlab.X
open Go.RowKit Go.Proofs.YtofemaaikmhnlabW.PrintLast
theorem fc12 : Fnc Try.prog 12 := ⟨_, Try.func12, by kernel_rfl, by kernel_rfl⟩
theorem ze5 : Zer Try.prog 5 ([.int .u8 0]) := by unfold Zer; kernel_rfl
theorem un55 : Try.prog.underlying 55 = some (.slice 5) := by kernel_rfl
theorem un5 : Try.prog.underlying 5 = some (.int .u8) := by kernel_rfl
theorem fc13 : Fnc Try.prog 13 := ⟨_, Try.func13, by kernel_rfl, by kernel_rfl⟩
theorem fc15 : Fnc Try.prog 15 := ⟨_, Try.func15, by kernel_rfl, by kernel_rfl⟩
theorem fc41 : Fnc Try.prog 41 := ⟨_, Try.func41, by kernel_rfl, by kernel_rfl⟩
theorem fc42 : Fnc Try.prog 42 := ⟨_, Try.func42, by kernel_rfl, by kernel_rfl⟩
theorem fc16 : Fnc Try.prog 16 := ⟨_, Try.func16, by kernel_rfl, by kernel_rfl⟩
theorem fc11 : Fnc Try.prog 11 := ⟨_, Try.func11, by kernel_rfl, by kernel_rfl⟩
theorem fc14 : Fnc Try.prog 14 := ⟨_, Try.func14, by kernel_rfl, by kernel_rfl⟩
theorem fc17 : Fnc Try.prog 17 := ⟨_, Try.func17, by kernel_rfl, by kernel_rfl⟩
theorem sl45 : sliceB Try.prog 45 9 1 = true := by kernel_rfl
theorem alive_spec {w : World} :
    Calls Try.prog 11 #[] w fun e w' => e = .returned (.bool true) ∧ Ag M0 w w' := by
  have hX := Ag.refl M0 w
  refine enter (args := []) Try.func11 rfl Try.ntmps11 (Nat.le_of_ble_eq_true rfl) ?_
  refine wseq ?_
  refine wreg ?_
  refine lv (v := .bool false) rfl (r_as rfl rfl) rfl ?_
  refine wend ?_
  refine wthen ?_
  refine wseq ?_
  refine wreg ?_
  have hX0n := hX
  refine lc fc12 rfl rfl rfl ?_
  refine (New_spec).mono ?_
  rintro e w1 ⟨d, m, rfl, hK, hAn⟩
  replace hX := hX.step0 hAn
  replace hK : Dk 106 112 5 w1 d m (fun k => w.heap.size ≤ k) [] false 0 := hK.mono (fun k _ h => Nat.le_trans hX0n.size h)
  have hfs : ([] : List F).map F.abs = [] := rfl
  refine ⟨_, rfl, ?_⟩
  refine lv (v := .pointer (some ⟨d, 0, none⟩)) rfl (r_as rfl rfl) rfl ?_
  refine wend ?_
  refine wthen ?_
  refine wseq ?_
  refine wseq ?_
  refine wreg ?_
  refine lv (v := .pointer (some ⟨d, 0, none⟩)) rfl (r_mv rfl rfl) rfl ?_
  have hKl := hK.lt
  refine le rfl (e_bs (ps := [(.int .u8 120, [.int .u8 120]), (.int .u8 121, [.int .u8 121])]) rfl sl55 ze5 rfl rfl (by intro x hx; simp only [List.mem_cons, List.not_mem_nil, or_false] at hx; rcases hx with rfl | rfl <;> exact ⟨rfl, rfl⟩) rfl rfl) rfl ?_
  rintro _ w4 ⟨b2, rfl, hN3⟩
  have hA5 := hN3.ag
  have hgAhX_b2 := Nat.le_trans hX.size hN3.new
  replace hX := hX.step0 hA5
  replace hK := hK.keep hA5 (fun _ _ _ h => h)
  replace hKl := hKl.keep hA5 (fun _ _ _ h => h)
  have hB6 : Blk w4 b2 ([.int .u8 120] ++ [.int .u8 121]) 5 := by have := hN3.blk; simpa [List.flatten_cons] using this
  have hbl := hN3.new
  refine le rfl (e_cvc (bs := [120, 121]) rfl un55 un5 rfl (show Blk _ _ (bvs [120, 121]) 5 from hB6) (LIM_ge (by decide))) rfl ?_
  rintro _ w9 ⟨s7, rfl, hR8, hA2⟩
  replace hX := hX.step hA2 (fun k hk e => absurd hk (by subst e; exact Nat.not_lt.2 hgAhX_b2))
  replace hK := hK
  replace hKl := hKl.keep hA2 (fun k _ hs e => absurd hs.2 (by subst e; exact Nat.not_lt.2 hbl))
  have hfz : fsz [] = asz [] := by rw [fsz_abs, hfs]
  simp only [asz, List.map_cons, List.map_nil, List.sum_cons, List.sum_nil, List.length_nil, List.length_replicate, List.length_cons] at hfz
  have hlenR := hR8.len
  rw [brow_length] at hlenR
  try simp only [List.length_replicate] at hlenR
  have hX1 := hX
  refine lc fc13 rfl rfl rfl ?_
  refine (Append_spec (nm := ⟨#[97]⟩) hKl (by decide) hR8 (fun k e h => absurd h.2 (by subst e; exact Nat.not_lt.2 hbl)) (by first | omega | (simp only [List.length_replicate, List.length_cons, List.length_nil]; omega))).mono ?_
  rintro e w11 ⟨rfl, fs10, hAB, hK1, hA1⟩
  replace hA1 := hA1.mono (M' := (fun k => w.heap.size ≤ k)) (fun _ _ h => h.1)
  replace hX := hX.step hA1 (fun k hk h => absurd hk (Nat.not_lt.2 h))
  replace hfs : fs10.map F.abs = [(⟨#[97]⟩, [], [120, 121])] := by rw [hAB, hfs]; simp [upA]
  have hK : Dk 106 112 5 w11 d m (fun k => w.heap.size ≤ k) fs10 false 1 := hK1.mono (fun k _ h => h.elim (·.1) (fun h => Nat.le_trans hX1.size h))
  refine ⟨_, rfl, ?_⟩
  refine lv (v := .bool false) rfl (r_neq rfl rfl rfl (by decide)) rfl ?_
  refine lv (v := .bool false) rfl (r_mv rfl rfl) rfl ?_
  refine lv (v := .pointer (some ⟨d, 0, none⟩)) (by kernel_rfl) (r_mv rfl rfl) rfl ?_
  have hfz : fsz fs10 = asz [(⟨#[97]⟩, [], [120, 121])] := by rw [fsz_abs, hfs]
  simp only [asz, List.map_cons, List.map_nil, List.sum_cons, List.sum_nil, List.length_nil, List.length_replicate, List.length_cons] at hfz
  have hX1 := hX
  refine lc fc15 (by kernel_rfl) rfl rfl ?_
  refine (Sync_spec (nm := ⟨#[97]⟩) hK (by decide) (by rw [hfz]; exact LIM_ge (by omega))).mono ?_
  rintro e w14 ⟨rfl, fs13, hAB, hK1, hA1⟩
  replace hX := hX.step hA1 (fun k hk h => absurd hk (Nat.not_lt.2 h))
  replace hfs : fs13.map F.abs = [(⟨#[97]⟩, [120, 121], [])] := by rw [hAB, hfs]; simp [upA]
  have hK : Dk 106 112 5 w14 d m (fun k => w.heap.size ≤ k) fs13 false 2 := hK1.mono (fun k _ h => h.elim id (fun h => Nat.le_trans hX1.size h))
  refine ⟨_, rfl, ?_⟩
  refine lv (v := .bool false) (by kernel_rfl) (r_neq rfl rfl rfl (by decide)) rfl ?_
  refine lv (v := .bool false) rfl (r_pkF rfl rfl rfl) rfl ?_
  refine lv (v := .bool false) rfl (r_mv rfl rfl) rfl ?_
  refine lv (v := .pointer (some ⟨d, 0, none⟩)) (by kernel_rfl) (r_mv rfl rfl) rfl ?_
  have hKl := hK.lt
  refine le (by kernel_rfl) (e_bs (ps := [(.int .u8 122, [.int .u8 122])]) rfl sl55 ze5 rfl rfl (by intro x hx; simp only [List.mem_singleton] at hx; subst hx; exact ⟨rfl, rfl⟩) rfl rfl) rfl ?_
  rintro _ w18 ⟨b16, rfl, hN17⟩
  have hA19 := hN17.ag
  have hgAhX_b16 := Nat.le_trans hX.size hN17.new
  replace hX := hX.step0 hA19
  replace hK := hK.keep hA19 (fun _ _ _ h => h)
  replace hKl := hKl.keep hA19 (fun _ _ _ h => h)
  have hB20 : Blk w18 b16 ([.int .u8 122]) 5 := by have := hN17.blk; simpa [List.flatten_cons] using this
  have hbl := hN17.new
  refine le (by kernel_rfl) (e_cvc (bs := [122]) rfl un55 un5 rfl (show Blk _ _ (bvs [122]) 5 from hB20) (LIM_ge (by decide))) rfl ?_
  rintro _ w23 ⟨s21, rfl, hR22, hA2⟩
  replace hX := hX.step hA2 (fun k hk e => absurd hk (by subst e; exact Nat.not_lt.2 hgAhX_b16))
  replace hK := hK
  replace hKl := hKl.keep hA2 (fun k _ hs e => absurd hs.2 (by subst e; exact Nat.not_lt.2 hbl))
  have hfz : fsz fs13 = asz [(⟨#[97]⟩, [120, 121], [])] := by rw [fsz_abs, hfs]
  simp only [asz, List.map_cons, List.map_nil, List.sum_cons, List.sum_nil, List.length_nil, List.length_replicate, List.length_cons] at hfz
  have hlenR := hR22.len
  rw [brow_length] at hlenR
  try simp only [List.length_replicate] at hlenR
  have hX1 := hX
  refine lc fc13 (by kernel_rfl) rfl rfl ?_
  refine (Append_spec (nm := ⟨#[97]⟩) hKl (by decide) hR22 (fun k e h => absurd h.2 (by subst e; exact Nat.not_lt.2 hbl)) (by first | omega | (simp only [List.length_replicate, List.length_cons, List.length_nil]; omega))).mono ?_
  rintro e w25 ⟨rfl, fs24, hAB, hK1, hA1⟩
  replace hA1 := hA1.mono (M' := (fun k => w.heap.size ≤ k)) (fun _ _ h => h.1)
  replace hX := hX.step hA1 (fun k hk h => absurd hk (Nat.not_lt.2 h))
  replace hfs : fs24.map F.abs = [(⟨#[97]⟩, [120, 121], [122])] := by rw [hAB, hfs]; simp [upA]
  have hK : Dk 106 112 5 w25 d m (fun k => w.heap.size ≤ k) fs24 false 3 := hK1.mono (fun k _ h => h.elim (·.1) (fun h => Nat.le_trans hX1.size h))
  refine ⟨_, rfl, ?_⟩
  refine lv (v := .bool false) (by kernel_rfl) (r_neq rfl rfl rfl (by decide)) rfl ?_
  refine lv (v := .bool false) rfl (r_pkF rfl rfl rfl) rfl ?_
  refine wend ?_
  refine wthen ?_
  refine wcF rfl ?_
  refine wp_skip ?_
  refine wthen ?_
  refine wseq ?_
  refine wreg ?_
  refine lv (v := .pointer (some ⟨d, 0, none⟩)) rfl (r_mv rfl rfl) rfl ?_
  obtain ⟨f0, rfl, hab0⟩ := one_abs hfs
  simp only [F.abs, Prod.mk.injEq] at hab0
  have hX1 := hX
  refine lc fc41 rfl rfl rfl ?_
  refine (Off_spec hK (by rw [hab0.2.1, hab0.2.2]; decide)).mono ?_
  rintro e w27 ⟨f1, rfl, hK1, hab1, hA1⟩
  replace hX := hX.step hA1 (fun k hk h => absurd hk (Nat.not_lt.2 h))
  replace hfs : [f1].map F.abs = [(⟨#[97]⟩, [120, 121], [])] := by simp only [List.map_cons, List.map_nil, hab1, hab0.1, hab0.2.1]
  have hK : Dk 106 112 5 w27 d m (fun k => w.heap.size ≤ k) [f1] true 3 := hK1.mono (fun k _ h => h.elim id (fun h => Nat.le_trans hX1.size h))
  refine ⟨_, rfl, ?_⟩
  refine wend ?_
  refine wthen ?_
  refine wseq ?_
  refine wreg ?_
  refine lv (v := .pointer (some ⟨d, 0, none⟩)) rfl (r_mv rfl rfl) rfl ?_
  refine lc fc42 rfl rfl rfl ?_
  refine (On_spec hK).mono ?_
  rintro e w28 ⟨rfl, hK1, hA1⟩
  replace hA1 := hA1.mono (M' := (fun k => w.heap.size ≤ k)) (fun k _ e => by subst e; exact hK.inS.1)
  replace hX := hX.step hA1 (fun k hk h => absurd hk (Nat.not_lt.2 h))
  replace hK := hK1
  refine ⟨_, rfl, ?_⟩
  refine wend ?_
  refine wthen ?_
  refine wseq ?_
  refine wreg ?_
  refine lv (v := .pointer (some ⟨d, 0, none⟩)) rfl (r_mv rfl rfl) rfl ?_
  have hfz : fsz [f1] = asz [(⟨#[97]⟩, [120, 121], [])] := by rw [fsz_abs, hfs]
  simp only [asz, List.map_cons, List.map_nil, List.sum_cons, List.sum_nil, List.length_nil, List.length_replicate, List.length_cons] at hfz
  refine lc fc16 rfl rfl rfl ?_
  refine (Read_spec (nm := ⟨#[97]⟩) (sb := [120, 121]) (ab := []) hK (by rw [hfs]; simp) (by rw [hfz]; exact LIM_ge (by omega))).mono ?_
  rintro e w31 ⟨s29, rfl, hR30, hA1⟩
  replace hX := hX.step0 hA1
  replace hK := hK.keep hA1 (fun _ _ _ h => h)
  refine ⟨_, rfl, ?_⟩
  refine lv (v := .tuple #[s29.v, .int .i64 0]) rfl (r_mv rfl rfl) rfl ?_
  refine lv (v := s29.v) rfl (r_ext rfl rfl rfl) rfl ?_
  refine lv (v := .int .i64 0) rfl (r_ext rfl rfl rfl) rfl ?_
  refine lv (v := s29.v) rfl (r_as rfl rfl) rfl ?_
  refine lv (v := .int .i64 0) rfl (r_as rfl rfl) rfl ?_
  refine wend ?_
  refine wthen ?_
  refine wseq ?_
  refine wreg ?_
  refine lv (v := s29.v) rfl (r_mv rfl rfl) rfl ?_
  refine lv (v := .string (⟨(([120, 121] ++ []) : List UInt8).toArray⟩)) rfl (r_b2s rfl un55 un5 un9 rfl hR30) rfl ?_
  refine lv (v := .bool true) rfl (r_seq rfl rfl rfl (decide_eq_true rfl)) rfl ?_
  refine lv (v := .bool true) rfl (r_mv rfl rfl) rfl ?_
  refine lv (v := .int .i64 0) (by kernel_rfl) (r_mv rfl rfl) rfl ?_
  refine lv (v := .bool true) (by kernel_rfl) (r_eql rfl rfl rfl (by decide)) rfl ?_
  refine lv (v := .bool true) rfl (r_pkT rfl rfl rfl) rfl ?_
  refine lv (v := .bool true) rfl (r_as rfl rfl) rfl ?_
  refine wend ?_
  refine wthen ?_
  refine wp_ret ?_
  refine fin1 rfl rfl ?_
  exact ⟨rfl, hX⟩
theorem DiskApart_walk {sa sb sc : Sv} {ba bb bc : List UInt8} {w : World} (hRa : Row (fun k => k < w.heap.size) w sa 1 (brow ba)) (hRb : Row (fun k => k < w.heap.size) w sb 1 (brow bb)) (hRc : Row (fun k => k < w.heap.size) w sc 1 (brow bc)) :
    Calls Try.prog 5 #[sa.v, sb.v, sc.v] w fun e w' => e = .returned (.bool true) ∧ Ag M0 w w' := by
  have hX := Ag.refl M0 w
  have hlsa := hRa.len
  rw [brow_length] at hlsa
  have hlsb := hRb.len
  rw [brow_length] at hlsb
  have hlsc := hRc.len
  rw [brow_length] at hlsc
  refine enter (args := [sa.v, sb.v, sc.v]) Try.func5 rfl Try.ntmps5 (Nat.le_of_ble_eq_true rfl) ?_
  refine wseq ?_
  refine wreg ?_
  refine lv (v := .bool false) rfl (r_as rfl rfl) rfl ?_
  refine wend ?_
  refine wthen ?_
  refine wseq ?_
  refine wseq ?_
  refine wreg ?_
  refine lc fc11 rfl rfl rfl ?_
  refine (alive_spec).mono ?_
  rintro e w1 ⟨rfl, hA1⟩
  replace hX := hX.step0 hA1
  replace hRa := hRa.keep hA1 (fun _ _ _ h => h)
  replace hRb := hRb.keep hA1 (fun _ _ _ h => h)
  replace hRc := hRc.keep hA1 (fun _ _ _ h => h)
  refine ⟨_, rfl, ?_⟩
  refine lv (v := .bool false) rfl (r_not (b := true) rfl rfl) rfl ?_
  refine wend ?_
  refine wthen ?_
  refine wcF rfl ?_
  refine wp_skip ?_
  refine wthen ?_
  refine wseq ?_
  refine wseq ?_
  refine wreg ?_
  refine lv (v := sa.v) rfl (r_mv rfl rfl) rfl ?_
  refine lv (v := .int .i64 (sa.n : Int)) rfl (r_len rfl sl55 rfl) rfl ?_
  rcases dsp ((4096 : Int) < (sa.n : Int)) with ⟨hc2, hp3⟩ | ⟨hc2, hp3⟩
  · skip
    refine lv (v := .bool true) rfl (r_gtr rfl rfl rfl hc2) rfl ?_
    refine lv (v := .bool true) rfl (r_mv rfl rfl) rfl ?_
    with_reducible refine lx (d := 20) (by kernel_rfl) (by kernel_rfl) ?_
    with_reducible refine lx (d := 21) (by kernel_rfl) (by kernel_rfl) ?_
    with_reducible refine lx (d := 22) (by kernel_rfl) (by kernel_rfl) ?_
    refine lv (v := .bool true) rfl (r_pkT rfl rfl rfl) rfl ?_
    refine lv (v := .bool true) rfl (r_mv rfl rfl) rfl ?_
    with_reducible refine lx (d := 25) (by kernel_rfl) (by kernel_rfl) ?_
    with_reducible refine lx (d := 26) (by kernel_rfl) (by kernel_rfl) ?_
    with_reducible refine lx (d := 27) (by kernel_rfl) (by kernel_rfl) ?_
    refine lv (v := .bool true) rfl (r_pkT rfl rfl rfl) rfl ?_
    refine wend ?_
    refine wthen ?_
    refine wcT rfl ?_
    refine wseq ?_
    refine wreg ?_
    refine lv (v := .bool true) rfl (r_as rfl rfl) rfl ?_
    refine wend ?_
    refine wthen ?_
    refine wp_ret ?_
    refine thR ?_
    refine fin1 rfl rfl ?_
    exact ⟨rfl, hX⟩
  · skip
    refine lv (v := .bool false) rfl (r_gtr rfl rfl rfl hc2) rfl ?_
    refine lv (v := .bool false) rfl (r_mv rfl rfl) rfl ?_
    refine lv (v := sb.v) (by kernel_rfl) (r_mv rfl rfl) rfl ?_
    refine lv (v := .int .i64 (sb.n : Int)) (by kernel_rfl) (r_len rfl sl55 rfl) rfl ?_
    rcases dsp ((4096 : Int) < (sb.n : Int)) with ⟨hc4, hp5⟩ | ⟨hc4, hp5⟩
    · skip
      refine lv (v := .bool true) (by kernel_rfl) (r_gtr rfl rfl rfl hc4) rfl ?_
      refine lv (v := .bool true) rfl (r_pkF rfl rfl rfl) rfl ?_
      refine lv (v := .bool true) rfl (r_mv rfl rfl) rfl ?_
      with_reducible refine lx (d := 25) (by kernel_rfl) (by kernel_rfl) ?_
      with_reducible refine lx (d := 26) (by kernel_rfl) (by kernel_rfl) ?_
      with_reducible refine lx (d := 27) (by kernel_rfl) (by kernel_rfl) ?_
      refine lv (v := .bool true) rfl (r_pkT rfl rfl rfl) rfl ?_
      refine wend ?_
      refine wthen ?_
      refine wcT rfl ?_
      refine wseq ?_
      refine wreg ?_
      refine lv (v := .bool true) rfl (r_as rfl rfl) rfl ?_
      refine wend ?_
      refine wthen ?_
      refine wp_ret ?_
      refine thR ?_
      refine fin1 rfl rfl ?_
      exact ⟨rfl, hX⟩
    · skip
      refine lv (v := .bool false) (by kernel_rfl) (r_gtr rfl rfl rfl hc4) rfl ?_
      refine lv (v := .bool false) rfl (r_pkF rfl rfl rfl) rfl ?_
      refine lv (v := .bool false) rfl (r_mv rfl rfl) rfl ?_
      refine lv (v := sc.v) (by kernel_rfl) (r_mv rfl rfl) rfl ?_
      refine lv (v := .int .i64 (sc.n : Int)) (by kernel_rfl) (r_len rfl sl55 rfl) rfl ?_
      rcases dsp ((4096 : Int) < (sc.n : Int)) with ⟨hc6, hp7⟩ | ⟨hc6, hp7⟩
      · skip
        refine lv (v := .bool true) (by kernel_rfl) (r_gtr rfl rfl rfl hc6) rfl ?_
        refine lv (v := .bool true) rfl (r_pkF rfl rfl rfl) rfl ?_
        refine wend ?_
        refine wthen ?_
        refine wcT rfl ?_
        refine wseq ?_
        refine wreg ?_
        refine lv (v := .bool true) rfl (r_as rfl rfl) rfl ?_
        refine wend ?_
        refine wthen ?_
        refine wp_ret ?_
        refine thR ?_
        refine fin1 rfl rfl ?_
        exact ⟨rfl, hX⟩
      · skip
        refine lv (v := .bool false) (by kernel_rfl) (r_gtr rfl rfl rfl hc6) rfl ?_
        refine lv (v := .bool false) rfl (r_pkF rfl rfl rfl) rfl ?_
        refine wend ?_
        refine wthen ?_
        refine wcF rfl ?_
        refine wp_skip ?_
        refine wthen ?_
        refine wseq ?_
        refine wreg ?_
        have hX0n := hX
        refine lc fc12 rfl rfl rfl ?_
        refine (New_spec).mono ?_
        rintro e w8 ⟨d, m, rfl, hK, hAn⟩
        replace hX := hX.step0 hAn
        replace hRa := hRa.keep hAn (fun _ _ _ h => h)
        replace hRb := hRb.keep hAn (fun _ _ _ h => h)
        replace hRc := hRc.keep hAn (fun _ _ _ h => h)
        replace hK : Dk 106 112 5 w8 d m (fun k => w.heap.size ≤ k) [] false 0 := hK.mono (fun k _ h => Nat.le_trans hX0n.size h)
        have hfs : ([] : List F).map F.abs = [] := rfl
        refine ⟨_, rfl, ?_⟩
        refine lv (v := .pointer (some ⟨d, 0, none⟩)) rfl (r_as rfl rfl) rfl ?_
        refine wend ?_
        refine wthen ?_
        refine wseq ?_
        refine wreg ?_
        refine lv (v := .pointer (some ⟨d, 0, none⟩)) rfl (r_mv rfl rfl) rfl ?_
        refine lv (v := sa.v) rfl (r_mv rfl rfl) rfl ?_
        have hfz : fsz [] = asz [] := by rw [fsz_abs, hfs]
        simp only [asz, List.map_cons, List.map_nil, List.sum_cons, List.sum_nil, List.length_nil, List.length_replicate, List.length_cons] at hfz
        have hlenR := hRa.len
        rw [brow_length] at hlenR
        try simp only [List.length_replicate] at hlenR
        have hX1 := hX
        refine lc fc13 rfl rfl rfl ?_
        refine (Append_spec (nm := ⟨#[97]⟩) hK (by decide) hRa (fun k hd h => absurd hd (Nat.not_lt.2 h)) (by first | omega | (simp only [List.length_replicate, List.length_cons, List.length_nil]; omega))).mono ?_
        rintro e w10 ⟨rfl, fs9, hAB, hK1, hA1⟩
        replace hX := hX.step hA1 (fun k hk h => absurd hk (Nat.not_lt.2 h))
        replace hRa := hRa.keep hA1 (fun k _ hd h => absurd hd (Nat.not_lt.2 h))
        replace hRb := hRb.keep hA1 (fun k _ hd h => absurd hd (Nat.not_lt.2 h))
        replace hRc := hRc.keep hA1 (fun k _ hd h => absurd hd (Nat.not_lt.2 h))
        replace hfs : fs9.map F.abs = [(⟨#[97]⟩, [], ba)] := by rw [hAB, hfs]; simp [upA]
        have hK : Dk 106 112 5 w10 d m (fun k => w.heap.size ≤ k) fs9 false 1 := hK1.mono (fun k _ h => h.elim id (fun h => Nat.le_trans hX1.size h))
        refine ⟨_, rfl, ?_⟩
        refine wend ?_
        refine wthen ?_
        refine wseq ?_
        refine wreg ?_
        refine lv (v := .pointer (some ⟨d, 0, none⟩)) rfl (r_mv rfl rfl) rfl ?_
        refine lv (v := sb.v) rfl (r_mv rfl rfl) rfl ?_
        have hfz : fsz fs9 = asz [(⟨#[97]⟩, [], ba)] := by rw [fsz_abs, hfs]
        simp only [asz, List.map_cons, List.map_nil, List.sum_cons, List.sum_nil, List.length_nil, List.length_replicate, List.length_cons] at hfz
        have hlenR := hRb.len
        rw [brow_length] at hlenR
        try simp only [List.length_replicate] at hlenR
        have hX1 := hX
        refine lc fc14 rfl rfl rfl ?_
        refine (Install_spec (nm := ⟨#[98]⟩) hK (by decide) hRb (fun k hd h => absurd hd (Nat.not_lt.2 h)) (by first | omega | (simp only [List.length_replicate, List.length_cons, List.length_nil]; omega))).mono ?_
        rintro e w13 ⟨rfl, fs12, hAB, hK1, hA1⟩
        replace hX := hX.step hA1 (fun k hk h => absurd hk (Nat.not_lt.2 h))
        replace hRa := hRa.keep hA1 (fun k _ hd h => absurd hd (Nat.not_lt.2 h))
        replace hRb := hRb.keep hA1 (fun k _ hd h => absurd hd (Nat.not_lt.2 h))
        replace hRc := hRc.keep hA1 (fun k _ hd h => absurd hd (Nat.not_lt.2 h))
        replace hfs : fs12.map F.abs = [(⟨#[97]⟩, [], ba), (⟨#[98]⟩, bb, [])] := by rw [hAB, hfs]; simp [upA]
        have hK : Dk 106 112 5 w13 d m (fun k => w.heap.size ≤ k) fs12 false 2 := hK1.mono (fun k _ h => h.elim id (fun h => Nat.le_trans hX1.size h))
        refine ⟨_, rfl, ?_⟩
        refine wend ?_
        refine wthen ?_
        refine wseq ?_
        refine wreg ?_
        refine lv (v := .pointer (some ⟨d, 0, none⟩)) rfl (r_mv rfl rfl) rfl ?_
        refine lv (v := sc.v) rfl (r_mv rfl rfl) rfl ?_
        have hfz : fsz fs12 = asz [(⟨#[97]⟩, [], ba), (⟨#[98]⟩, bb, [])] := by rw [fsz_abs, hfs]
        simp only [asz, List.map_cons, List.map_nil, List.sum_cons, List.sum_nil, List.length_nil, List.length_replicate, List.length_cons] at hfz
        have hlenR := hRc.len
        rw [brow_length] at hlenR
        try simp only [List.length_replicate] at hlenR
        have hX1 := hX
        refine lc fc13 rfl rfl rfl ?_
        refine (Append_spec (nm := ⟨#[99]⟩) hK (by decide) hRc (fun k hd h => absurd hd (Nat.not_lt.2 h)) (by first | omega | (simp only [List.length_replicate, List.length_cons, List.length_nil]; omega))).mono ?_
        rintro e w16 ⟨rfl, fs15, hAB, hK1, hA1⟩
        replace hX := hX.step hA1 (fun k hk h => absurd hk (Nat.not_lt.2 h))
        replace hRa := hRa.keep hA1 (fun k _ hd h => absurd hd (Nat.not_lt.2 h))
        replace hRb := hRb.keep hA1 (fun k _ hd h => absurd hd (Nat.not_lt.2 h))
        replace hRc := hRc.keep hA1 (fun k _ hd h => absurd hd (Nat.not_lt.2 h))
        replace hfs : fs15.map F.abs = [(⟨#[97]⟩, [], ba), (⟨#[98]⟩, bb, []), (⟨#[99]⟩, [], bc)] := by rw [hAB, hfs]; simp [upA]
        have hK : Dk 106 112 5 w16 d m (fun k => w.heap.size ≤ k) fs15 false 3 := hK1.mono (fun k _ h => h.elim id (fun h => Nat.le_trans hX1.size h))
        refine ⟨_, rfl, ?_⟩
        refine wend ?_
        refine wthen ?_
        refine wseq ?_
        refine wreg ?_
        refine lv (v := .pointer (some ⟨d, 0, none⟩)) rfl (r_mv rfl rfl) rfl ?_
        have hfz : fsz fs15 = asz [(⟨#[97]⟩, [], ba), (⟨#[98]⟩, bb, []), (⟨#[99]⟩, [], bc)] := by rw [fsz_abs, hfs]
        simp only [asz, List.map_cons, List.map_nil, List.sum_cons, List.sum_nil, List.length_nil, List.length_replicate, List.length_cons] at hfz
        have hX1 := hX
        refine lc fc15 rfl rfl rfl ?_
        refine (Sync_spec (nm := ⟨#[99]⟩) hK (by decide) (by rw [hfz]; exact LIM_ge (by omega))).mono ?_
        rintro e w19 ⟨rfl, fs18, hAB, hK1, hA1⟩
        replace hX := hX.step hA1 (fun k hk h => absurd hk (Nat.not_lt.2 h))
        replace hRa := hRa.keep hA1 (fun k _ hd h => absurd hd (Nat.not_lt.2 h))
        replace hRb := hRb.keep hA1 (fun k _ hd h => absurd hd (Nat.not_lt.2 h))
        replace hRc := hRc.keep hA1 (fun k _ hd h => absurd hd (Nat.not_lt.2 h))
        replace hfs : fs18.map F.abs = [(⟨#[97]⟩, [], ba), (⟨#[98]⟩, bb, []), (⟨#[99]⟩, bc, [])] := by rw [hAB, hfs]; simp [upA]
        have hK : Dk 106 112 5 w19 d m (fun k => w.heap.size ≤ k) fs18 false 4 := hK1.mono (fun k _ h => h.elim id (fun h => Nat.le_trans hX1.size h))
        refine ⟨_, rfl, ?_⟩
        refine wend ?_
        refine wthen ?_
        refine wseq ?_
        refine wreg ?_
        refine lv (v := .pointer (some ⟨d, 0, none⟩)) rfl (r_mv rfl rfl) rfl ?_
        refine lv (v := sc.v) rfl (r_mv rfl rfl) rfl ?_
        have hfz : fsz fs18 = asz [(⟨#[97]⟩, [], ba), (⟨#[98]⟩, bb, []), (⟨#[99]⟩, bc, [])] := by rw [fsz_abs, hfs]
        simp only [asz, List.map_cons, List.map_nil, List.sum_cons, List.sum_nil, List.length_nil, List.length_replicate, List.length_cons] at hfz
        have hlenR := hRc.len
        rw [brow_length] at hlenR
        try simp only [List.length_replicate] at hlenR
        have hX1 := hX
        refine lc fc14 rfl rfl rfl ?_
        refine (Install_spec (nm := ⟨#[97]⟩) hK (by decide) hRc (fun k hd h => absurd hd (Nat.not_lt.2 h)) (by first | omega | (simp only [List.length_replicate, List.length_cons, List.length_nil]; omega))).mono ?_
        rintro e w22 ⟨rfl, fs21, hAB, hK1, hA1⟩
        replace hX := hX.step hA1 (fun k hk h => absurd hk (Nat.not_lt.2 h))
        replace hRa := hRa.keep hA1 (fun k _ hd h => absurd hd (Nat.not_lt.2 h))
        replace hRb := hRb.keep hA1 (fun k _ hd h => absurd hd (Nat.not_lt.2 h))
        replace hRc := hRc.keep hA1 (fun k _ hd h => absurd hd (Nat.not_lt.2 h))
        replace hfs : fs21.map F.abs = [(⟨#[97]⟩, bc, []), (⟨#[98]⟩, bb, []), (⟨#[99]⟩, bc, [])] := by rw [hAB, hfs]; simp [upA]
        have hK : Dk 106 112 5 w22 d m (fun k => w.heap.size ≤ k) fs21 false 5 := hK1.mono (fun k _ h => h.elim id (fun h => Nat.le_trans hX1.size h))
        refine ⟨_, rfl, ?_⟩
        refine wend ?_
        refine wthen ?_
        refine wseq ?_
        refine wreg ?_
        refine lv (v := .pointer (some ⟨d, 0, none⟩)) rfl (r_mv rfl rfl) rfl ?_
        have hfz : fsz fs21 = asz [(⟨#[97]⟩, bc, []), (⟨#[98]⟩, bb, []), (⟨#[99]⟩, bc, [])] := by rw [fsz_abs, hfs]
        simp only [asz, List.map_cons, List.map_nil, List.sum_cons, List.sum_nil, List.length_nil, List.length_replicate, List.length_cons] at hfz
        refine lc fc16 rfl rfl rfl ?_
        refine (Read_spec (nm := ⟨#[98]⟩) (sb := bb) (ab := []) hK (by rw [hfs]; simp) (by rw [hfz]; exact LIM_ge (by omega))).mono ?_
        rintro e w26 ⟨s24, rfl, hR25, hA1⟩
        replace hX := hX.step0 hA1
        replace hRa := hRa.keep hA1 (fun _ _ _ h => h)
        replace hRb := hRb.keep hA1 (fun _ _ _ h => h)
        replace hRc := hRc.keep hA1 (fun _ _ _ h => h)
        replace hK := hK.keep hA1 (fun _ _ _ h => h)
        refine ⟨_, rfl, ?_⟩
        refine lv (v := .tuple #[s24.v, .int .i64 0]) rfl (r_mv rfl rfl) rfl ?_
        refine lv (v := s24.v) rfl (r_ext rfl rfl rfl) rfl ?_
        refine lv (v := .int .i64 0) rfl (r_ext rfl rfl rfl) rfl ?_
        refine lv (v := s24.v) rfl (r_as rfl rfl) rfl ?_
        refine lv (v := .int .i64 0) rfl (r_as rfl rfl) rfl ?_
        refine wend ?_
        refine wthen ?_
        refine wseq ?_
        refine wreg ?_
        refine lv (v := .pointer (some ⟨d, 0, none⟩)) rfl (r_mv rfl rfl) rfl ?_
        have hfz : fsz fs21 = asz [(⟨#[97]⟩, bc, []), (⟨#[98]⟩, bb, []), (⟨#[99]⟩, bc, [])] := by rw [fsz_abs, hfs]
        simp only [asz, List.map_cons, List.map_nil, List.sum_cons, List.sum_nil, List.length_nil, List.length_replicate, List.length_cons] at hfz
        refine lc fc16 rfl rfl rfl ?_
        refine (Read_spec (nm := ⟨#[99]⟩) (sb := bc) (ab := []) hK (by rw [hfs]; simp) (by rw [hfz]; exact LIM_ge (by omega))).mono ?_
        rintro e w29 ⟨s27, rfl, hR28, hA1⟩
        replace hX := hX.step0 hA1
        replace hRa := hRa.keep hA1 (fun _ _ _ h => h)
        replace hRb := hRb.keep hA1 (fun _ _ _ h => h)
        replace hRc := hRc.keep hA1 (fun _ _ _ h => h)
        replace hK := hK.keep hA1 (fun _ _ _ h => h)
        replace hR25 := hR25.keep hA1 (fun _ _ _ h => h)
        refine ⟨_, rfl, ?_⟩
        refine lv (v := .tuple #[s27.v, .int .i64 0]) rfl (r_mv rfl rfl) rfl ?_
        refine lv (v := s27.v) rfl (r_ext rfl rfl rfl) rfl ?_
        refine lv (v := .int .i64 0) rfl (r_ext rfl rfl rfl) rfl ?_
        refine lv (v := s27.v) rfl (r_as rfl rfl) rfl ?_
        refine lv (v := .int .i64 0) rfl (r_as rfl rfl) rfl ?_
        refine wend ?_
        refine wthen ?_
        refine wseq ?_
        refine wreg ?_
        refine lv (v := .pointer (some ⟨d, 0, none⟩)) rfl (r_mv rfl rfl) rfl ?_
        have hfz : fsz fs21 = asz [(⟨#[97]⟩, bc, []), (⟨#[98]⟩, bb, []), (⟨#[99]⟩, bc, [])] := by rw [fsz_abs, hfs]
        simp only [asz, List.map_cons, List.map_nil, List.sum_cons, List.sum_nil, List.length_nil, List.length_replicate, List.length_cons] at hfz
        refine lc fc16 rfl rfl rfl ?_
        refine (Read_spec (nm := ⟨#[97]⟩) (sb := bc) (ab := []) hK (by rw [hfs]; simp) (by rw [hfz]; exact LIM_ge (by omega))).mono ?_
        rintro e w32 ⟨s30, rfl, hR31, hA1⟩
        replace hX := hX.step0 hA1
        replace hRa := hRa.keep hA1 (fun _ _ _ h => h)
        replace hRb := hRb.keep hA1 (fun _ _ _ h => h)
        replace hRc := hRc.keep hA1 (fun _ _ _ h => h)
        replace hK := hK.keep hA1 (fun _ _ _ h => h)
        replace hR25 := hR25.keep hA1 (fun _ _ _ h => h)
        replace hR28 := hR28.keep hA1 (fun _ _ _ h => h)
        refine ⟨_, rfl, ?_⟩
        refine lv (v := .tuple #[s30.v, .int .i64 0]) rfl (r_mv rfl rfl) rfl ?_
        refine lv (v := s30.v) rfl (r_ext rfl rfl rfl) rfl ?_
        refine lv (v := .int .i64 0) rfl (r_ext rfl rfl rfl) rfl ?_
        refine lv (v := s30.v) rfl (r_as rfl rfl) rfl ?_
        refine lv (v := .int .i64 0) rfl (r_as rfl rfl) rfl ?_
        refine wend ?_
        refine wthen ?_
        refine wseq ?_
        refine wreg ?_
        refine lv (v := .int .i64 0) rfl (r_mv rfl rfl) rfl ?_
        refine lv (v := .bool true) rfl (r_eql rfl rfl rfl (by decide)) rfl ?_
        refine lv (v := .bool true) rfl (r_mv rfl rfl) rfl ?_
        refine lv (v := .int .i64 0) (by kernel_rfl) (r_mv rfl rfl) rfl ?_
        refine lv (v := .bool true) (by kernel_rfl) (r_eql rfl rfl rfl (by decide)) rfl ?_
        refine lv (v := .bool true) rfl (r_pkT rfl rfl rfl) rfl ?_
        refine lv (v := .bool true) rfl (r_mv rfl rfl) rfl ?_
        refine lv (v := .int .i64 0) (by kernel_rfl) (r_mv rfl rfl) rfl ?_
        refine lv (v := .bool true) (by kernel_rfl) (r_eql rfl rfl rfl (by decide)) rfl ?_
        refine lv (v := .bool true) rfl (r_pkT rfl rfl rfl) rfl ?_
        refine lv (v := .bool true) rfl (r_mv rfl rfl) rfl ?_
        refine lv (v := s24.v) (by kernel_rfl) (r_mv rfl rfl) rfl ?_
        refine lv (v := .string (⟨((bb ++ []) : List UInt8).toArray⟩)) (by kernel_rfl) (r_b2s rfl un55 un5 un9 rfl hR25) rfl ?_
        refine lv (v := sb.v) (by kernel_rfl) (r_mv rfl rfl) rfl ?_
        refine lv (v := .string (⟨(bb : List UInt8).toArray⟩)) (by kernel_rfl) (r_b2s rfl un55 un5 un9 rfl hRb) rfl ?_
        refine lv (v := .bool true) (by kernel_rfl) (r_seq rfl rfl rfl (decide_eq_true (by simp))) rfl ?_
        refine lv (v := .bool true) rfl (r_pkT rfl rfl rfl) rfl ?_
        refine lv (v := .bool true) rfl (r_mv rfl rfl) rfl ?_
        refine lv (v := s27.v) (by kernel_rfl) (r_mv rfl rfl) rfl ?_
        refine lv (v := .string (⟨((bc ++ []) : List UInt8).toArray⟩)) (by kernel_rfl) (r_b2s rfl un55 un5 un9 rfl hR28) rfl ?_
        refine lv (v := sc.v) (by kernel_rfl) (r_mv rfl rfl) rfl ?_
        refine lv (v := .string (⟨(bc : List UInt8).toArray⟩)) (by kernel_rfl) (r_b2s rfl un55 un5 un9 rfl hRc) rfl ?_
        refine lv (v := .bool true) (by kernel_rfl) (r_seq rfl rfl rfl (decide_eq_true (by simp))) rfl ?_
        refine lv (v := .bool true) rfl (r_pkT rfl rfl rfl) rfl ?_
        refine lv (v := .bool true) rfl (r_mv rfl rfl) rfl ?_
        refine lv (v := s30.v) (by kernel_rfl) (r_mv rfl rfl) rfl ?_
        refine lv (v := .string (⟨((bc ++ []) : List UInt8).toArray⟩)) (by kernel_rfl) (r_b2s rfl un55 un5 un9 rfl hR31) rfl ?_
        refine lv (v := sc.v) (by kernel_rfl) (r_mv rfl rfl) rfl ?_
        refine lv (v := .string (⟨(bc : List UInt8).toArray⟩)) (by kernel_rfl) (r_b2s rfl un55 un5 un9 rfl hRc) rfl ?_
        refine lv (v := .bool true) (by kernel_rfl) (r_seq rfl rfl rfl (decide_eq_true (by simp))) rfl ?_
        refine lv (v := .bool true) rfl (r_pkT rfl rfl rfl) rfl ?_
        refine lv (v := .bool true) rfl (r_mv rfl rfl) rfl ?_
        refine lv (v := .pointer (some ⟨d, 0, none⟩)) (by kernel_rfl) (r_mv rfl rfl) rfl ?_
        refine lc fc17 (by kernel_rfl) rfl rfl ?_
        refine (Names_spec hK (abs_small hfs (by intro x hx; simp only [List.mem_cons, List.not_mem_nil, or_false] at hx; rcases hx with rfl | rfl | rfl <;> exact Nat.le_of_ble_eq_true rfl)) (by have h := congrArg List.length hfs; simp only [List.length_map, List.length_cons, List.length_nil] at h; omega)).mono ?_
        rintro e w34 ⟨s33, rfl, hnn, hA1⟩
        replace hX := hX.step0 hA1
        replace hRa := hRa.keep hA1 (fun _ _ _ h => h)
        replace hRb := hRb.keep hA1 (fun _ _ _ h => h)
        replace hRc := hRc.keep hA1 (fun _ _ _ h => h)
        replace hK := hK.keep hA1 (fun _ _ _ h => h)
        replace hR25 := hR25.keep hA1 (fun _ _ _ h => h)
        replace hR28 := hR28.keep hA1 (fun _ _ _ h => h)
        replace hR31 := hR31.keep hA1 (fun _ _ _ h => h)
        have hcnt : s33.n = 3 := by have h := congrArg List.length hfs; simp only [List.length_map, List.length_cons, List.length_nil] at h; omega
        refine ⟨_, rfl, ?_⟩
        refine lv (v := .int .i64 (s33.n : Int)) (by kernel_rfl) (r_len rfl sl45 rfl) rfl ?_
        refine lv (v := .bool (decide (((s33.n : Int) : Int) = 3))) (by kernel_rfl) (r_eql rfl rfl rfl rfl) rfl ?_
        refine lv (v := .bool (decide (((s33.n : Int) : Int) = 3))) rfl (r_pkT rfl rfl rfl) rfl ?_
        refine lv (v := .bool (decide (((s33.n : Int) : Int) = 3))) rfl (r_as rfl rfl) rfl ?_
        refine wend ?_
        refine wthen ?_
        refine wp_ret ?_
        refine fin1 rfl rfl ?_
        exact ⟨congrArg (fun z => Ending.returned (.bool z)) (decide_eq_true (by omega)), hX⟩
end Go.Proofs.Ytofemaaikmhnlab.X
