/-
  Each function of package disk that the law reaches, walked once, with the power on and no fuse. No condition beyond those that the lemmas name.
-/
import Derived.Test.YtofemaaikmhnlabProg
import Derived.Test.YtofemaaikmhnlabXLaw
set_option linter.unusedSimpArgs false
set_option linter.unusedVariables false
namespace Go.Proofs.Ytofemaaikmhnlab.X
open Go.RowKit Go.Proofs.YtofemaaikmhnlabW.PrintLast
def c_disk_Disk (x0 : Value) (x1 : Bool) (x2 : Int) (x3 : Int) (x4 : Int) : List Value := [x0, .bool x1, .int .i64 x2, .int .i64 x3, .int .i64 x4]
theorem c_disk_Disk_len {x0 : Value} {x1 : Bool} {x2 : Int} {x3 : Int} {x4 : Int} : (c_disk_Disk x0 x1 x2 x3 x4).length = 5 := by simp [c_disk_Disk]
theorem c_disk_Disk_ones {x0 : Value} {x1 : Bool} {x2 : Int} {x3 : Int} {x4 : Int} (hx0 : x0.oneCell' = true) : Ones (c_disk_Disk x0 x1 x2 x3 x4) := by unfold c_disk_Disk; repeat (first | exact Ones_nil | exact Dig.ones _ | refine Ones_cons (by first | rfl | assumption) ?_ | refine Ones_app ?_ ?_)
theorem c_disk_Disk_0 {x0 : Value} {x1 : Bool} {x2 : Int} {x3 : Int} {x4 : Int} : (c_disk_Disk x0 x1 x2 x3 x4)[0]? = some (x0) := by simp [List.getElem?_append, c_disk_Disk]
theorem c_disk_Disk_set0 {x0 : Value} {x1 : Bool} {x2 : Int} {x3 : Int} {x4 : Int} (y : Value) : (c_disk_Disk x0 x1 x2 x3 x4).set 0 (y) = c_disk_Disk y x1 x2 x3 x4 := by simp [List.set_append, c_disk_Disk]
theorem c_disk_Disk_1 {x0 : Value} {x1 : Bool} {x2 : Int} {x3 : Int} {x4 : Int} : (c_disk_Disk x0 x1 x2 x3 x4)[1]? = some (.bool x1) := by simp [List.getElem?_append, c_disk_Disk]
theorem c_disk_Disk_set1 {x0 : Value} {x1 : Bool} {x2 : Int} {x3 : Int} {x4 : Int} (y : Bool) : (c_disk_Disk x0 x1 x2 x3 x4).set 1 (.bool y) = c_disk_Disk x0 y x2 x3 x4 := by simp [List.set_append, c_disk_Disk]
theorem c_disk_Disk_2 {x0 : Value} {x1 : Bool} {x2 : Int} {x3 : Int} {x4 : Int} : (c_disk_Disk x0 x1 x2 x3 x4)[2]? = some (.int .i64 x2) := by simp [List.getElem?_append, c_disk_Disk]
theorem c_disk_Disk_set2 {x0 : Value} {x1 : Bool} {x2 : Int} {x3 : Int} {x4 : Int} (y : Int) : (c_disk_Disk x0 x1 x2 x3 x4).set 2 (.int .i64 y) = c_disk_Disk x0 x1 y x3 x4 := by simp [List.set_append, c_disk_Disk]
theorem c_disk_Disk_3 {x0 : Value} {x1 : Bool} {x2 : Int} {x3 : Int} {x4 : Int} : (c_disk_Disk x0 x1 x2 x3 x4)[3]? = some (.int .i64 x3) := by simp [List.getElem?_append, c_disk_Disk]
theorem c_disk_Disk_set3 {x0 : Value} {x1 : Bool} {x2 : Int} {x3 : Int} {x4 : Int} (y : Int) : (c_disk_Disk x0 x1 x2 x3 x4).set 3 (.int .i64 y) = c_disk_Disk x0 x1 x2 y x4 := by simp [List.set_append, c_disk_Disk]
theorem c_disk_Disk_4 {x0 : Value} {x1 : Bool} {x2 : Int} {x3 : Int} {x4 : Int} : (c_disk_Disk x0 x1 x2 x3 x4)[4]? = some (.int .i64 x4) := by simp [List.getElem?_append, c_disk_Disk]
theorem c_disk_Disk_set4 {x0 : Value} {x1 : Bool} {x2 : Int} {x3 : Int} {x4 : Int} (y : Int) : (c_disk_Disk x0 x1 x2 x3 x4).set 4 (.int .i64 y) = c_disk_Disk x0 x1 x2 x3 y := by simp [List.set_append, c_disk_Disk]
def c_disk_file (x0 : Sv) (x1 : Sv) : List Value := [x0.v, x1.v]
theorem c_disk_file_len {x0 : Sv} {x1 : Sv} : (c_disk_file x0 x1).length = 2 := by simp [c_disk_file]
theorem c_disk_file_ones {x0 : Sv} {x1 : Sv} : Ones (c_disk_file x0 x1) := by unfold c_disk_file; repeat (first | exact Ones_nil | exact Dig.ones _ | refine Ones_cons (by first | rfl | assumption) ?_ | refine Ones_app ?_ ?_)
theorem c_disk_file_0 {x0 : Sv} {x1 : Sv} : (c_disk_file x0 x1)[0]? = some (x0.v) := by simp [List.getElem?_append, c_disk_file]
theorem c_disk_file_set0 {x0 : Sv} {x1 : Sv} (y : Sv) : (c_disk_file x0 x1).set 0 (y.v) = c_disk_file y x1 := by simp [List.set_append, c_disk_file]
theorem c_disk_file_1 {x0 : Sv} {x1 : Sv} : (c_disk_file x0 x1)[1]? = some (x1.v) := by simp [List.getElem?_append, c_disk_file]
theorem c_disk_file_set1 {x0 : Sv} {x1 : Sv} (y : Sv) : (c_disk_file x0 x1).set 1 (y.v) = c_disk_file x0 y := by simp [List.set_append, c_disk_file]
theorem bf106 : BldF Try.prog 106 [(0, 1), (1, 1), (2, 1), (3, 1), (4, 1)] := by unfold BldF; kernel_rfl
theorem ze106 : Zer Try.prog 106 (c_disk_Disk (.map none) false 0 0 0) := by unfold Zer; kernel_rfl
theorem un64 : Try.prog.underlying 64 = some (.pointer 106) := by kernel_rfl
theorem fl106_1 : fldB Try.prog 106 1 1 = true := by kernel_rfl
theorem sc4 : scalB Try.prog 4 = true := by kernel_rfl
theorem fl106_2 : fldB Try.prog 106 2 2 = true := by kernel_rfl
theorem sc3 : scalB Try.prog 3 = true := by kernel_rfl
theorem fl106_3 : fldB Try.prog 106 3 3 = true := by kernel_rfl
theorem fl106_0 : fldB Try.prog 106 0 0 = true := by kernel_rfl
theorem sc104 : scalB Try.prog 104 = true := by kernel_rfl
theorem un104 : Try.prog.underlying 104 = some (.map 9 109) := by kernel_rfl
theorem un9 : Try.prog.underlying 9 = some .string := by kernel_rfl
theorem mixed : Try.prog.follows .mixedOrders = true := by kernel_rfl
theorem fl112_0 : fldB Try.prog 112 0 0 = true := by kernel_rfl
theorem fl112_1 : fldB Try.prog 112 1 1 = true := by kernel_rfl
theorem sc55 : scalB Try.prog 55 = true := by kernel_rfl
theorem sl55 : sliceB Try.prog 55 5 1 = true := by kernel_rfl
theorem un109 : Try.prog.underlying 109 = some (.pointer 112) := by kernel_rfl
theorem zv109 : zvB Try.prog 109 (.pointer none) := by unfold zvB; kernel_rfl
theorem ze112 : Zer Try.prog 112 (c_disk_file Sv.nil Sv.nil) := by unfold Zer; kernel_rfl
theorem bf112 : BldF Try.prog 112 [(0, 1), (1, 1)] := by unfold BldF; kernel_rfl
theorem fc43 : Fnc Try.prog 43 := ⟨_, Try.func43, by kernel_rfl, by kernel_rfl⟩
theorem fc44 : Fnc Try.prog 44 := ⟨_, Try.func44, by kernel_rfl, by kernel_rfl⟩
theorem fc45 : Fnc Try.prog 45 := ⟨_, Try.func45, by kernel_rfl, by kernel_rfl⟩
theorem inf5 : infB Try.prog 5 1 1 = true := by kernel_rfl
theorem New_spec {w : World} :
    Calls Try.prog 12 #[] w fun e w' => ∃ d m, e = .returned (.pointer (some ⟨d, 0, none⟩)) ∧ Dk 106 112 5 w' d m (fun k => w.heap.size ≤ k) [] false 0 ∧ Ag M0 w w' := by
  have hX := Ag.refl M0 w
  refine enter (args := []) Try.func12 rfl Try.ntmps12 (Nat.le_of_ble_eq_true rfl) ?_
  refine wseq ?_
  refine wreg ?_
  refine lv (v := .pointer none) rfl (r_as rfl rfl) rfl ?_
  refine wend ?_
  refine wthen ?_
  refine wseq ?_
  refine wreg ?_
  refine le rfl (e_mm rfl) rfl ?_
  rintro _ w1 ⟨m, rfl, hM, hmge, hAm⟩
  replace hX := hX.step0 hAm
  have hM0 : Mp w1 m (([] : List F).map F.kv) := hM
  replace hM := hM0
  refine lv (v := .agg (c_disk_Disk ((.map (some m))) false 0 0 0).toArray) rfl (r_bld (cs := (c_disk_Disk ((.map (some m))) false 0 0 0)) (vs := [(0, (.map (some m)))]) rfl ze106 bf106 rfl (by simp [Instr.fill, Value.cells, Dig.len, Sv.v, Sv.nil, List.foldl_cons, c_disk_Disk])) rfl ?_
  refine le rfl (e_box (cs := (c_disk_Disk ((.map (some m))) false 0 0 0)) rfl rfl rfl) rfl ?_
  rintro _ w4 ⟨b2, rfl, hN3⟩
  have hA5 := hN3.ag
  have hgAhX_b2 := Nat.le_trans hX.size hN3.new
  replace hX := hX.step0 hA5
  replace hM := hM.keep0 hA5
  have hB6 := hN3.blk
  refine lv (v := .pointer (some ⟨b2, 0, none⟩)) rfl (r_as rfl rfl) rfl ?_
  refine wend ?_
  refine wthen ?_
  refine wp_ret ?_
  refine fin1 rfl rfl ?_
  exact ⟨b2, m, rfl, ⟨hB6, hM, (by simp), (by simp), (by simp), (by simp), hgAhX_b2, hmge, (by simp)⟩, hX⟩
theorem act_spec {d m : Nat} {S : Nat → Prop} {fs : List F} {acts : Int} {w : World} (hK : Dk 106 112 5 w d m S fs false acts) (ha : 0 ≤ acts ∧ acts ≤ 1000000000000) :
    Calls Try.prog 44 #[.pointer (some ⟨d, 0, none⟩)] w fun e w' => e = .returned (.int .i64 0) ∧ Dk 106 112 5 w' d m S fs false (acts + 1) ∧ Ag (fun k => k = d) w w' := by
  have hB : Blk w d (c_disk_Disk (.map (some m)) false acts 0 0) 106 := hK.blk
  have hM := hK.map
  have hX := Ag.refl (fun k => k = d) w
  refine enter (args := [.pointer (some ⟨d, 0, none⟩)]) Try.func44 rfl Try.ntmps44 (Nat.le_of_ble_eq_true rfl) ?_
  refine wseq ?_
  refine wreg ?_
  refine lv (v := .int .i64 0) rfl (r_as rfl rfl) rfl ?_
  refine wend ?_
  refine wthen ?_
  refine wseq ?_
  refine wseq ?_
  refine wreg ?_
  refine lv (v := .pointer (some ⟨d, 0, none⟩)) rfl (r_mv rfl rfl) rfl ?_
  refine lv (v := .bool false) rfl (r_pn rfl un64 rfl rfl) rfl ?_
  refine wend ?_
  refine wthen ?_
  refine wcF rfl ?_
  refine wp_skip ?_
  refine wthen ?_
  refine wseq ?_
  refine wseq ?_
  refine wreg ?_
  refine lv (v := .pointer (some ⟨d, 0, none⟩)) rfl (r_mv rfl rfl) rfl ?_
  refine lv (v := .pointer (some ⟨d, 0, none⟩)) rfl (r_nilc rfl rfl) rfl ?_
  refine lv (v := .pointer (some ⟨d, 1, none⟩)) rfl (r_fa rfl fl106_1 rfl rfl) rfl ?_
  refine lv (v := .bool false) rfl (r_ld rfl sc4 rfl hB.cel c_disk_Disk_1) rfl ?_
  refine wend ?_
  refine wthen ?_
  refine wcF rfl ?_
  refine wp_skip ?_
  refine wthen ?_
  refine wseq ?_
  refine wreg ?_
  refine lv (v := .pointer (some ⟨d, 0, none⟩)) rfl (r_mv rfl rfl) rfl ?_
  refine lv (v := .pointer (some ⟨d, 0, none⟩)) rfl (r_nilc rfl rfl) rfl ?_
  refine lv (v := .pointer (some ⟨d, 2, none⟩)) rfl (r_fa rfl fl106_2 rfl rfl) rfl ?_
  refine lv (v := .int .i64 acts) rfl (r_ld rfl sc3 rfl hB.cel c_disk_Disk_2) rfl ?_
  refine lv (v := .int .i64 (acts + 1)) rfl (r_add rfl rfl rfl (by omega)) rfl ?_
  refine lv (v := .pointer (some ⟨d, 0, none⟩)) rfl (r_nilc rfl rfl) rfl ?_
  refine lv (v := .pointer (some ⟨d, 2, none⟩)) rfl (r_fa rfl fl106_2 rfl rfl) rfl ?_
  refine lst rfl (e_st1 (v := .int .i64 (acts + 1)) rfl sc3 rfl rfl rfl hB (by rw [c_disk_Disk_len]; rfl)) rfl ?_
  intro w2 hT1
  replace hX := hX.step hT1.ag (fun _ _ h => h)
  replace hB := hT1.blk
  rw [(c_disk_Disk_set2 (acts + 1))] at hB
  refine wend ?_
  refine wthen ?_
  refine wseq ?_
  refine wseq ?_
  refine wreg ?_
  refine lv (v := .pointer (some ⟨d, 0, none⟩)) rfl (r_mv rfl rfl) rfl ?_
  refine lv (v := .pointer (some ⟨d, 0, none⟩)) rfl (r_nilc rfl rfl) rfl ?_
  refine lv (v := .pointer (some ⟨d, 3, none⟩)) rfl (r_fa rfl fl106_3 rfl rfl) rfl ?_
  refine lv (v := .int .i64 0) rfl (r_ld rfl sc3 rfl hB.cel c_disk_Disk_3) rfl ?_
  refine lv (v := .bool false) rfl (r_gtr rfl rfl rfl (by decide)) rfl ?_
  refine wend ?_
  refine wthen ?_
  refine wcF rfl ?_
  refine wp_skip ?_
  refine wthen ?_
  refine wseq ?_
  refine wreg ?_
  refine lv (v := .int .i64 0) rfl (r_as rfl rfl) rfl ?_
  refine wend ?_
  refine wthen ?_
  refine wp_ret ?_
  refine fin1 rfl rfl ?_
  exact ⟨rfl, hK.flags rfl rfl rfl hX hB, hX⟩
theorem size_spec {d m : Nat} {S : Nat → Prop} {fs : List F} {acts : Int} {w : World} (hK : Dk 106 112 5 w d m S fs false acts) (hl : fsz fs ≤ LIM) :
    Calls Try.prog 43 #[.pointer (some ⟨d, 0, none⟩)] w fun e w' => e = .returned (.int .i64 (fsz fs : Nat)) ∧ Ag M0 w w' := by
  have hB : Blk w d (c_disk_Disk (.map (some m)) false acts 0 0) 106 := hK.blk
  have hM := hK.map
  have hX := Ag.refl M0 w
  have hlim := LIM_le hl
  refine enter (args := [.pointer (some ⟨d, 0, none⟩)]) Try.func43 rfl Try.ntmps43 (Nat.le_of_ble_eq_true rfl) ?_
  refine wseq ?_
  refine wreg ?_
  refine lv (v := .int .i64 0) rfl (r_as rfl rfl) rfl ?_
  refine wend ?_
  refine wthen ?_
  refine wseq ?_
  refine wreg ?_
  refine lv (v := .int .i64 0) rfl (r_as rfl rfl) rfl ?_
  refine wend ?_
  refine wthen ?_
  refine wseq ?_
  refine wseq ?_
  refine wreg ?_
  refine lv (v := .pointer (some ⟨d, 0, none⟩)) rfl (r_mv rfl rfl) rfl ?_
  refine lv (v := .pointer (some ⟨d, 0, none⟩)) rfl (r_nilc rfl rfl) rfl ?_
  refine lv (v := .pointer (some ⟨d, 0, none⟩)) rfl (r_fa rfl fl106_0 rfl rfl) rfl ?_
  refine lv (v := (.map (some m))) rfl (r_ld rfl sc104 rfl hB.cel c_disk_Disk_0) rfl ?_
  refine le rfl (e_rg rfl un104 rfl hM) rfl ?_
  rintro _ w1 ⟨r, rfl, hI, hrge, hAr⟩
  replace hB := hB.keep0 hAr
  replace hM := hM.keep0 hAr
  replace hX := hX.step0 hAr
  refine wend ?_
  refine wthen ?_
  refine wp_block ?_
  refine wloop (n := 29) (fun (s_ : List Nat × Nat) ρ w0 => match s_ with | (L, n) => ρ 3 = .int .i64 (n : Int) ∧ ρ 10 = .pointer (some ⟨r, 0, none⟩) ∧ (L.Nodup) ∧ (n + lsz fs L = fsz fs) ∧ (Mp w0 m (fs.map F.kv)) ∧ (It w0 r m (fs.map F.kv) L) ∧ (Ag M0 w w0)) (fun (s_ : List Nat × Nat) => match s_ with | (L, n) => L.length) (List.range (fs.map F.kv).length, 0) ⟨rfl, rfl, List.nodup_range, (by rw [List.length_map, lsz_range, Nat.zero_add]), hM, hI, hX⟩ ?_
  rintro ⟨L, n⟩ ρ3 w2 ⟨h0_3, h0_10, hnd, hn, hM, hI, hX⟩
  refine wseq ?_
  refine wreg ?_
  refine le rfl (e_nx rfl h0_10 hM hI) rfl ?_
  rintro _ w4 (⟨hL, rfl, rfl⟩ | ⟨i, pr, hi, hp, rfl, hI2, hat, hA1⟩)
  · skip
    subst hL
    refine lv (v := .bool false) rfl (r_ext rfl rfl rfl) rfl ?_
    refine wend ?_
    refine wthen ?_
    refine wseq ?_
    refine wcF rfl ?_
    refine wp_exit ?_
    refine thE ?_
    refine thE ?_
    refine inX ?_
    refine wthen ?_
    refine wseq ?_
    refine wreg ?_
    refine lv (v := .int .i64 (n : Int)) rfl (r_mv rfl h0_3) rfl ?_
    refine lv (v := .int .i64 (n : Int)) rfl (r_as rfl rfl) rfl ?_
    refine wend ?_
    refine wthen ?_
    refine wp_ret ?_
    refine fin1 rfl rfl ?_
    exact ⟨congrArg (fun z : Nat => Ending.returned (.int .i64 (z : Int))) (by simpa [lsz] using hn), hX⟩
  · skip
    have hne := hI.ne' hM
    obtain ⟨fl, hfl, rfl⟩ := kv_get hp
    replace hM := hM.keep hA1 (fun h => hne h.symm)
    replace hX := hX.step hA1 (fun k hk h => absurd hk (by subst h; have := hrge; omega))
    replace hI := hI2
    have hfo : F.Ok 112 5 w4 fl := (hK.ok fl (List.mem_of_getElem? hfl)).keep hX (fun h => h) (fun _ _ _ _ h => h)
    have hF : Blk w4 fl.b (c_disk_file fl.s1 fl.s2) 112 := hfo.blk
    have hn1 := hfo.n1
    have hn2 := hfo.n2
    have hsz := lsz_take hnd hi hfl
    refine lv (v := .bool true) rfl (r_ext rfl rfl rfl) rfl ?_
    refine wend ?_
    refine wthen ?_
    refine wseq ?_
    refine wcT rfl ?_
    refine wp_skip ?_
    refine wthen ?_
    refine wp_block ?_
    refine wseq ?_
    refine wreg ?_
    refine lv (v := .tuple #[.string fl.nm, .pointer (some ⟨fl.b, 0, none⟩)]) rfl (r_en (p := F.kv fl) rfl h0_10 hM hat (by rw [List.getElem?_map, hfl]; rfl)) rfl ?_
    refine lv (v := .pointer (some ⟨fl.b, 0, none⟩)) rfl (r_ext rfl rfl rfl) rfl ?_
    refine lv (v := .pointer (some ⟨fl.b, 0, none⟩)) rfl (r_as rfl rfl) rfl ?_
    refine wend ?_
    refine wthen ?_
    refine dstart (M := M0) [] mixed rfl (by repeat (first | exact Pan.body | refine Pan.then ?_ | refine Pan.inBlock ?_ | refine Pan.noGoto ?_)) ?_
    intro w5 hA6 hP7
    replace hM := hM.keep0 hA6
    replace hX := hX.step0 hA6
    replace hI := hI.keep hA6 (fun h => h)
    replace hF := hF.keep0 hA6
    have hS8 : Ag M0 w5 w5 := Ag.refl _ _
    have rhF := hF
    refine dp (v := .int .i64 (n : Int)) 0 (by kernel_rfl) rfl rfl (fun _ => r_mv rfl h0_3) rfl hP7 ?_
    refine dp (v := .pointer (some ⟨fl.b, 0, none⟩)) 1 (by kernel_rfl) rfl rfl (fun _ => r_mv rfl rfl) rfl hP7 ?_
    refine dp (v := .pointer (some ⟨fl.b, 0, none⟩)) 2 (by kernel_rfl) rfl rfl (fun _ => r_nilc rfl rfl) rfl hP7 ?_
    refine dp (v := .pointer (some ⟨fl.b, 0, none⟩)) 3 (by kernel_rfl) rfl rfl (fun _ => r_fa rfl fl112_0 rfl rfl) rfl hP7 ?_
    refine dp (v := .pointer (some ⟨fl.b, 0, none⟩)) 6 (by kernel_rfl) rfl rfl (fun _ => r_mv rfl rfl) rfl hP7 ?_
    refine dp (v := .pointer (some ⟨fl.b, 0, none⟩)) 7 (by kernel_rfl) rfl rfl (fun _ => r_nilc rfl rfl) rfl hP7 ?_
    refine dp (v := .pointer (some ⟨fl.b, 1, none⟩)) 8 (by kernel_rfl) rfl rfl (fun _ => r_fa rfl fl112_1 rfl rfl) rfl hP7 ?_
    refine dr (v := fl.s1.v) 4 (by kernel_rfl) rfl rfl hS8 (fun _ hs => r_ld rfl sc55 rfl (rhF.keep hs (fun h => h)).cel c_disk_file_0) rfl hP7 ?_
    refine dp (v := .int .i64 (fl.s1.n : Int)) 5 (by kernel_rfl) rfl rfl (fun _ => r_len rfl sl55 rfl) rfl hP7 ?_
    refine dr (v := fl.s2.v) 9 (by kernel_rfl) rfl rfl hS8 (fun _ hs => r_ld rfl sc55 rfl (rhF.keep hs (fun h => h)).cel c_disk_file_1) rfl hP7 ?_
    refine dp (v := .int .i64 (fl.s2.n : Int)) 10 (by kernel_rfl) rfl rfl (fun _ => r_len rfl sl55 rfl) rfl hP7 ?_
    refine dp (v := .int .i64 ((fl.s1.n : Int) + (fl.s2.n : Int))) 11 (by kernel_rfl) rfl rfl (fun _ => r_add rfl rfl rfl (by omega)) rfl hP7 ?_
    refine dp (v := .int .i64 ((n : Int) + ((fl.s1.n : Int) + (fl.s2.n : Int)))) 12 (by kernel_rfl) rfl rfl (fun _ => r_add rfl rfl rfl (by omega)) rfl hP7 ?_
    refine dp (v := .int .i64 ((n : Int) + ((fl.s1.n : Int) + (fl.s2.n : Int)))) 13 (by kernel_rfl) rfl rfl (fun _ => r_as rfl rfl) rfl hP7 ?_
    refine dend (by kernel_rfl) ?_
    refine inN ?_
    refine wthen ?_
    exact ⟨(L.filter (· != i), n + (fl.s.length + fl.a.length)), _, rfl, ⟨(congrArg (Value.int .i64) (by omega)), h0_10, hnd.filter _, (by omega), hM, hI, hX⟩, (filter_lt hi)⟩
theorem file_spec {d m : Nat} {S : Nat → Prop} {fs : List F} {acts : Int} {nm : ByteArray} {w : World} (hK : Dk 106 112 5 w d m S fs false acts) :
    Calls Try.prog 45 #[.pointer (some ⟨d, 0, none⟩), .string nm] w fun e w' => ∃ l1 f l2, e = .returned (.pointer (some ⟨f.b, 0, none⟩)) ∧ Ens nm fs l1 f l2 ∧ Dk 106 112 5 w' d m (fun k => S k ∨ w.heap.size ≤ k) (l1 ++ f :: l2) false acts ∧ Ag (fun k => k = m) w w' := by
  have hB : Blk w d (c_disk_Disk (.map (some m)) false acts 0 0) 106 := hK.blk
  have hM := hK.map
  have hX := Ag.refl (fun k => k = m) w
  refine enter (args := [.pointer (some ⟨d, 0, none⟩), .string nm]) Try.func45 rfl Try.ntmps45 (Nat.le_of_ble_eq_true rfl) ?_
  refine wseq ?_
  refine wreg ?_
  refine lv (v := .pointer none) rfl (r_as rfl rfl) rfl ?_
  refine wend ?_
  refine wthen ?_
  refine wseq ?_
  refine wseq ?_
  refine wreg ?_
  refine lv (v := .pointer (some ⟨d, 0, none⟩)) rfl (r_mv rfl rfl) rfl ?_
  refine lv (v := .pointer (some ⟨d, 0, none⟩)) rfl (r_nilc rfl rfl) rfl ?_
  refine lv (v := .pointer (some ⟨d, 0, none⟩)) rfl (r_fa rfl fl106_0 rfl rfl) rfl ?_
  refine lv (v := (.map (some m))) rfl (r_ld rfl sc104 rfl hB.cel c_disk_Disk_0) rfl ?_
  refine lv (v := .string nm) rfl (r_mv rfl rfl) rfl ?_
  rcases fs_cases fs nm with ⟨l1, fl, l2, hfs, hnm, hno⟩ | hno
  · skip
    refine lv (v := .pointer (some ⟨fl.b, 0, none⟩)) rfl (r_lk1 (l := (fs.map F.kv)) (l1 := (l1.map F.kv)) (l2 := (l2.map F.kv)) (k := nm) (z := .pointer (some ⟨fl.b, 0, none⟩)) rfl un104 un9 rfl rfl hM (by rw [hfs]; simp [F.kv, hnm]) hno) rfl ?_
    refine lv (v := .bool false) rfl (r_pn rfl un109 rfl rfl) rfl ?_
    refine wend ?_
    refine wthen ?_
    refine wcF rfl ?_
    refine wp_skip ?_
    refine wthen ?_
    refine wseq ?_
    refine wreg ?_
    refine lv (v := .pointer (some ⟨d, 0, none⟩)) rfl (r_mv rfl rfl) rfl ?_
    refine lv (v := .pointer (some ⟨d, 0, none⟩)) rfl (r_nilc rfl rfl) rfl ?_
    refine lv (v := .pointer (some ⟨d, 0, none⟩)) rfl (r_fa rfl fl106_0 rfl rfl) rfl ?_
    refine lv (v := (.map (some m))) rfl (r_ld rfl sc104 rfl hB.cel c_disk_Disk_0) rfl ?_
    refine lv (v := .string nm) rfl (r_mv rfl rfl) rfl ?_
    refine lv (v := .pointer (some ⟨fl.b, 0, none⟩)) rfl (r_lk1 (l := (fs.map F.kv)) (l1 := (l1.map F.kv)) (l2 := (l2.map F.kv)) (k := nm) (z := .pointer (some ⟨fl.b, 0, none⟩)) rfl un104 un9 rfl rfl hM (by rw [hfs]; simp [F.kv, hnm]) hno) rfl ?_
    refine lv (v := .pointer (some ⟨fl.b, 0, none⟩)) rfl (r_as rfl rfl) rfl ?_
    refine wend ?_
    refine wthen ?_
    refine wp_ret ?_
    refine fin1 rfl rfl ?_
    exact ⟨l1, fl, l2, rfl, ⟨hnm, .inl hfs⟩, (by rw [hfs] at hK; exact hK.mono (fun _ _ h => .inl h)), hX⟩
  · skip
    refine lv (v := .pointer none) rfl (r_lk0 rfl un104 un9 zv109 rfl rfl hM hno) rfl ?_
    refine lv (v := .bool true) rfl (r_nn rfl un109 rfl rfl) rfl ?_
    refine wend ?_
    refine wthen ?_
    refine wcT rfl ?_
    refine wreg ?_
    refine lv (v := .pointer (some ⟨d, 0, none⟩)) rfl (r_mv rfl rfl) rfl ?_
    refine lv (v := .pointer (some ⟨d, 0, none⟩)) rfl (r_nilc rfl rfl) rfl ?_
    refine lv (v := .pointer (some ⟨d, 0, none⟩)) rfl (r_fa rfl fl106_0 rfl rfl) rfl ?_
    refine lv (v := (.map (some m))) rfl (r_ld rfl sc104 rfl hB.cel c_disk_Disk_0) rfl ?_
    refine lv (v := .string nm) rfl (r_mv rfl rfl) rfl ?_
    refine lv (v := .agg (c_disk_file Sv.nil Sv.nil).toArray) rfl (r_bz rfl ze112 bf112) rfl ?_
    refine le rfl (e_box (cs := (c_disk_file Sv.nil Sv.nil)) rfl rfl rfl) rfl ?_
    rintro _ w3 ⟨b1, rfl, hN2⟩
    have hA4 := hN2.ag
    have hgAhX_b1 := Nat.le_trans hX.size hN2.new
    replace hB := hB.keep0 hA4
    replace hM := hM.keep0 hA4
    replace hX := hX.step0 hA4
    have hB5 := hN2.blk
    refine lst rfl (e_mu0 rfl un104 un9 rfl rfl rfl hM hno) rfl ?_
    rintro w6 hMA
    obtain ⟨hM2, hAm⟩ := hMA
    have hOk : F.Ok 112 5 w6 ⟨nm, b1, Sv.nil, Sv.nil, [], []⟩ := ⟨hB5.keep hAm (fun e => hM.ne hB5 e.symm), Own.nil _ _ _, Own.nil _ _ _⟩
    replace hB := hB.keep hAm (fun e => hM.ne hB e.symm)
    replace hX := hX.step hAm (fun _ _ h => h)
    replace hB5 := hB5.keep hAm (fun e => hM.ne hB5 e.symm)
    replace hM := hM2
    have hZ := hK.add rfl rfl rfl ⟨nm, b1, Sv.nil, Sv.nil, [], []⟩ hX hM hOk hgAhX_b1 (by simp [F.rows, Sv.nil, Sv.v, Value.ownBlock]) (apart_nil _) (kv_ne hno)
    refine wend ?_
    refine wthen ?_
    refine wseq ?_
    refine wreg ?_
    refine lv (v := .pointer (some ⟨d, 0, none⟩)) rfl (r_mv rfl rfl) rfl ?_
    refine lv (v := .pointer (some ⟨d, 0, none⟩)) rfl (r_nilc rfl rfl) rfl ?_
    refine lv (v := .pointer (some ⟨d, 0, none⟩)) rfl (r_fa rfl fl106_0 rfl rfl) rfl ?_
    refine lv (v := (.map (some m))) rfl (r_ld rfl sc104 rfl hB.cel c_disk_Disk_0) rfl ?_
    refine lv (v := .string nm) rfl (r_mv rfl rfl) rfl ?_
    refine lv (v := .pointer (some ⟨b1, 0, none⟩)) rfl (r_lk1 (l := (fs.map F.kv ++ [(nm, .pointer (some ⟨b1, 0, none⟩))])) (l1 := (fs.map F.kv)) (l2 := []) (k := nm) (z := .pointer (some ⟨b1, 0, none⟩)) rfl un104 un9 rfl rfl hM rfl hno) rfl ?_
    refine lv (v := .pointer (some ⟨b1, 0, none⟩)) rfl (r_as rfl rfl) rfl ?_
    refine wend ?_
    refine wthen ?_
    refine wp_ret ?_
    refine fin1 rfl rfl ?_
    exact ⟨fs, ⟨nm, b1, Sv.nil, Sv.nil, [], []⟩, [], rfl, ⟨rfl, .inr ⟨rfl, rfl, rfl, rfl, kv_ne hno⟩⟩, hZ, hX⟩
theorem Append_spec {D S : Nat → Prop} {d m : Nat} {fs : List F} {acts : Int} {nm : ByteArray} {s : Sv} {bs : List UInt8} {w : World} (hK : Dk 106 112 5 w d m S fs false acts) (ha : 0 ≤ acts ∧ acts ≤ 1000000000000) (hR : Row D w s 1 (brow bs)) (hD : ∀ k, D k → ¬ S k) (hsz : fsz fs + bs.length ≤ 4194304) :
    Calls Try.prog 13 #[.pointer (some ⟨d, 0, none⟩), .string nm, s.v] w fun e w' => e = .returned (.int .i64 0) ∧ ∃ fs', fs'.map F.abs = upA nm (fun x => (x.1, x.2 ++ bs)) (fs.map F.abs) ∧ Dk 106 112 5 w' d m (fun k => S k ∨ w.heap.size ≤ k) fs' false (acts + 1) ∧ Ag S w w' := by
  have hB : Blk w d (c_disk_Disk (.map (some m)) false acts 0 0) 106 := hK.blk
  have hM := hK.map
  have hX := Ag.refl S w
  have hsn0 := hR.len
  rw [brow_length] at hsn0
  have hbd0 := hR.bd
  refine enter (args := [.pointer (some ⟨d, 0, none⟩), .string nm, s.v]) Try.func13 rfl Try.ntmps13 (Nat.le_of_ble_eq_true rfl) ?_
  refine wseq ?_
  refine wreg ?_
  refine lv (v := .int .i64 0) rfl (r_as rfl rfl) rfl ?_
  refine wend ?_
  refine wthen ?_
  refine wseq ?_
  refine wseq ?_
  refine wreg ?_
  refine lv (v := .pointer (some ⟨d, 0, none⟩)) rfl (r_mv rfl rfl) rfl ?_
  refine lv (v := .bool true) rfl (r_pnn rfl un64 rfl rfl) rfl ?_
  refine lv (v := .bool true) rfl (r_mv rfl rfl) rfl ?_
  refine lv (v := .pointer (some ⟨d, 0, none⟩)) (by kernel_rfl) (r_mv rfl rfl) rfl ?_
  refine lv (v := .pointer (some ⟨d, 0, none⟩)) (by kernel_rfl) (r_nilc rfl rfl) rfl ?_
  refine lv (v := .pointer (some ⟨d, 1, none⟩)) (by kernel_rfl) (r_fa rfl fl106_1 rfl rfl) rfl ?_
  refine lv (v := .bool false) (by kernel_rfl) (r_ld rfl sc4 rfl hB.cel c_disk_Disk_1) rfl ?_
  refine lv (v := .bool true) (by kernel_rfl) (r_not (b := false) rfl rfl) rfl ?_
  refine lv (v := .bool true) rfl (r_pkT rfl rfl rfl) rfl ?_
  refine lv (v := .bool true) rfl (r_mv rfl rfl) rfl ?_
  refine lv (v := .pointer (some ⟨d, 0, none⟩)) (by kernel_rfl) (r_mv rfl rfl) rfl ?_
  refine lc fc43 (by kernel_rfl) rfl rfl ?_
  refine (size_spec hK (Nat.le_trans (Nat.le_trans (Nat.le_add_right _ _) hsz) (by decide))).mono ?_
  rintro e w1 ⟨rfl, hAz⟩
  replace hB := hB.keep0 hAz
  replace hK := hK.keep hAz (fun _ _ _ h => h)
  replace hR := hR.keep hAz (fun _ _ _ h => h)
  replace hX := hX.step0 hAz
  refine ⟨_, rfl, ?_⟩
  refine lv (v := s.v) (by kernel_rfl) (r_mv rfl rfl) rfl ?_
  refine lv (v := .int .i64 (s.n : Int)) (by kernel_rfl) (r_len rfl sl55 rfl) rfl ?_
  refine lv (v := .int .i64 (((fsz fs : Nat) : Int) + (s.n : Int))) (by kernel_rfl) (r_add rfl rfl rfl (by omega)) rfl ?_
  refine lv (v := .bool false) (by kernel_rfl) (r_gtr rfl rfl rfl (decide_eq_false (by omega))) rfl ?_
  refine lv (v := .bool false) rfl (r_pkT rfl rfl rfl) rfl ?_
  refine wend ?_
  refine wthen ?_
  refine wcF rfl ?_
  refine wp_skip ?_
  refine wthen ?_
  refine wseq ?_
  refine wreg ?_
  refine lv (v := .pointer (some ⟨d, 0, none⟩)) rfl (r_mv rfl rfl) rfl ?_
  refine lc fc44 rfl rfl rfl ?_
  refine (act_spec hK ha).mono ?_
  rintro e w2 ⟨rfl, hK2, hAa⟩
  have hSd := hK.inS
  replace hR := hR.keep hAa (fun k _ hd e => hD k hd (e ▸ hSd.1))
  replace hX := hX.step hAa (fun k _ e => e ▸ hSd.1)
  have hB : Blk w2 d (c_disk_Disk (.map (some m)) false (acts + 1) 0 0) 106 := hK2.blk
  have hM := hK2.map
  refine ⟨_, rfl, ?_⟩
  refine lv (v := .int .i64 0) rfl (r_as rfl rfl) rfl ?_
  refine wend ?_
  refine wthen ?_
  refine wseq ?_
  refine wseq ?_
  refine wreg ?_
  refine lv (v := .pointer (some ⟨d, 0, none⟩)) rfl (r_mv rfl rfl) rfl ?_
  refine lv (v := .bool false) rfl (r_pn rfl un64 rfl rfl) rfl ?_
  refine lv (v := .bool false) rfl (r_mv rfl rfl) rfl ?_
  refine lv (v := .pointer (some ⟨d, 0, none⟩)) (by kernel_rfl) (r_mv rfl rfl) rfl ?_
  refine lv (v := .pointer (some ⟨d, 0, none⟩)) (by kernel_rfl) (r_nilc rfl rfl) rfl ?_
  refine lv (v := .pointer (some ⟨d, 1, none⟩)) (by kernel_rfl) (r_fa rfl fl106_1 rfl rfl) rfl ?_
  refine lv (v := .bool false) (by kernel_rfl) (r_ld rfl sc4 rfl hB.cel c_disk_Disk_1) rfl ?_
  refine lv (v := .bool false) rfl (r_pkF rfl rfl rfl) rfl ?_
  refine wend ?_
  refine wthen ?_
  refine wcF rfl ?_
  refine wp_skip ?_
  refine wthen ?_
  refine wseq ?_
  refine wreg ?_
  refine lv (v := .pointer (some ⟨d, 0, none⟩)) rfl (r_mv rfl rfl) rfl ?_
  refine lv (v := .string nm) rfl (r_mv rfl rfl) rfl ?_
  have hX2 := hX
  have hsn := hR.len
  rw [brow_length] at hsn
  refine lc fc45 rfl rfl rfl ?_
  refine (file_spec (nm := nm) hK2).mono ?_
  rintro e w3 ⟨l1, fl, l2, rfl, hEns, hK3, hAf⟩
  replace hR := hR.keep hAf (fun k _ hd e => hD k hd (e ▸ hSd.2.1))
  replace hX := hX.step hAf (fun k _ e => e ▸ hSd.2.1)
  have hX4 := hX
  have hmem : fl ∈ l1 ++ fl :: l2 := by simp
  have hfo := hK3.ok fl hmem
  have hap := hK3.ap hmem
  have hF : Blk w3 fl.b (c_disk_file fl.s1 fl.s2) 112 := hfo.blk
  have hO1 := hfo.own1
  have hO2 := hfo.own2
  have hesz := hEns.sz
  have hn1 := hfo.n1
  have hn2 := hfo.n2
  have hX3 := Ag.refl (fun k => k = fl.b ∨ rowM fl.s1.v k ∨ rowM fl.s2.v k) w3
  refine ⟨_, rfl, ?_⟩
  refine lv (v := .pointer (some ⟨fl.b, 0, none⟩)) rfl (r_as rfl rfl) rfl ?_
  refine wend ?_
  refine wthen ?_
  refine wseq ?_
  refine wreg ?_
  refine lv (v := .pointer (some ⟨fl.b, 0, none⟩)) rfl (r_mv rfl rfl) rfl ?_
  refine lv (v := .pointer (some ⟨fl.b, 0, none⟩)) rfl (r_mv rfl rfl) rfl ?_
  refine lv (v := .pointer (some ⟨fl.b, 0, none⟩)) rfl (r_nilc rfl rfl) rfl ?_
  refine lv (v := .pointer (some ⟨fl.b, 1, none⟩)) rfl (r_fa rfl fl112_1 rfl rfl) rfl ?_
  refine lv (v := fl.s2.v) rfl (r_ld rfl sc55 rfl hF.cel c_disk_file_1) rfl ?_
  refine lv (v := s.v) rfl (r_mv rfl rfl) rfl ?_
  have hSrc := hR.src (by rw [brow_flat]; exact Ones_bvs _)
  rw [brow_flat] at hSrc
  refine le rfl (e_app (v := fl.s2.v) rfl sl55 inf5 rfl rfl hO2 hSrc (by rw [bvs_length, hsn, Nat.mul_one]) rfl (by omega) rfl) rfl ?_
  rintro _ w4 ⟨hO3, hA4, hloc⟩
  replace hX := hX
  replace hF := hF.keep hA4 (hO2.ne hF rfl)
  replace hO1 := hO1.keep hA4 (fun k h1 h2 => hap k h1 h2)
  replace hX3 := hX3.step hA4 (fun _ _ h => .inr (.inr h))
  obtain ⟨A1, c1, rfl⟩ := hO3.form
  refine lv (v := .pointer (some ⟨fl.b, 0, none⟩)) rfl (r_nilc rfl rfl) rfl ?_
  refine lv (v := .pointer (some ⟨fl.b, 1, none⟩)) rfl (r_fa rfl fl112_1 rfl rfl) rfl ?_
  refine lst rfl (e_st1 (v := (Sv.mk A1 (fl.a.length + s.n) c1).v) rfl sc55 rfl rfl rfl hF (by rw [c_disk_file_len]; rfl)) rfl ?_
  intro w6 hT5
  replace hX := hX
  replace hO1 := hO1.keep hT5.ag (fun k hk e => hO1.ne hF rfl (e ▸ hk))
  replace hX3 := hX3.step hT5.ag (fun _ _ h => .inl h)
  replace hO3 := hO3.keep hT5.ag (fun k hk e => hO3.ne hF rfl (e ▸ hk))
  replace hF := hT5.blk
  rw [(c_disk_file_set1 (Sv.mk A1 (fl.a.length + s.n) c1))] at hF
  refine wend ?_
  refine wthen ?_
  refine wseq ?_
  refine wseq ?_
  refine wreg ?_
  refine lv (v := .int .i64 0) rfl (r_mv rfl rfl) rfl ?_
  refine lv (v := .bool false) rfl (r_neq rfl rfl rfl (by decide)) rfl ?_
  refine wend ?_
  refine wthen ?_
  refine wcF rfl ?_
  refine wp_skip ?_
  refine wthen ?_
  refine wseq ?_
  refine wreg ?_
  refine lv (v := .int .i64 0) rfl (r_mv rfl rfl) rfl ?_
  refine lv (v := .int .i64 0) rfl (r_as rfl rfl) rfl ?_
  refine wend ?_
  refine wthen ?_
  refine wp_ret ?_
  refine fin1 rfl rfl ?_
  have hK4 := hK3.upd rfl rfl rfl { fl with s2 := ⟨A1, fl.a.length + s.n, c1⟩, a := fl.a ++ bs } hX3 (fun _ _ h => h) rfl rfl ⟨hF, hO1, (by rw [List.length_append, bvs_append, ← hsn]; exact hO3)⟩ (rows2 (fun k h => .inr (.inl h)) (fun k h => (loc_or hloc h).imp id .inr)) (fun k h1 h2 => (loc_or hloc h2).elim (fun h => absurd (hfo.own1.lt h1) (by omega)) (fun h => hap k h1 h))
  exact ⟨rfl, _, hEns.abs (u := fun x => (x.1, x.2 ++ bs)) hK.nms (by rw [F.abs]; exact congrArg (fun z => (z, fl.s, fl.a ++ bs)) hEns.1), hK4.mono (fun k _ h => h.elim (fun h => h.elim .inl (fun h => .inr (Nat.le_trans hX2.size h))) (fun h => .inr (Nat.le_trans hX4.size h))), hX4.step hX3 (fun k hk h => (hK3.inF hmem h).elim id (fun h => absurd hk (by have := hX2.size; omega)))⟩
theorem Sync_spec {S : Nat → Prop} {d m : Nat} {fs : List F} {acts : Int} {nm : ByteArray} {w : World} (hK : Dk 106 112 5 w d m S fs false acts) (ha : 0 ≤ acts ∧ acts ≤ 1000000000000) (hl : fsz fs ≤ LIM) :
    Calls Try.prog 15 #[.pointer (some ⟨d, 0, none⟩), .string nm] w fun e w' => e = .returned (.int .i64 0) ∧ ∃ fs', fs'.map F.abs = upA nm (fun x => (x.1 ++ x.2, [])) (fs.map F.abs) ∧ Dk 106 112 5 w' d m (fun k => S k ∨ w.heap.size ≤ k) fs' false (acts + 1) ∧ Ag S w w' := by
  have hB : Blk w d (c_disk_Disk (.map (some m)) false acts 0 0) 106 := hK.blk
  have hM := hK.map
  have hX := Ag.refl S w
  have hlim := LIM_le hl
  refine enter (args := [.pointer (some ⟨d, 0, none⟩), .string nm]) Try.func15 rfl Try.ntmps15 (Nat.le_of_ble_eq_true rfl) ?_
  refine wseq ?_
  refine wreg ?_
  refine lv (v := .int .i64 0) rfl (r_as rfl rfl) rfl ?_
  refine wend ?_
  refine wthen ?_
  refine wseq ?_
  refine wreg ?_
  refine lv (v := .pointer (some ⟨d, 0, none⟩)) rfl (r_mv rfl rfl) rfl ?_
  refine lc fc44 rfl rfl rfl ?_
  refine (act_spec hK ha).mono ?_
  rintro e w1 ⟨rfl, hK2, hAa⟩
  have hSd := hK.inS
  replace hX := hX.step hAa (fun k _ e => e ▸ hSd.1)
  have hB : Blk w1 d (c_disk_Disk (.map (some m)) false (acts + 1) 0 0) 106 := hK2.blk
  have hM := hK2.map
  refine ⟨_, rfl, ?_⟩
  refine lv (v := .int .i64 0) rfl (r_as rfl rfl) rfl ?_
  refine wend ?_
  refine wthen ?_
  refine wseq ?_
  refine wseq ?_
  refine wreg ?_
  refine lv (v := .pointer (some ⟨d, 0, none⟩)) rfl (r_mv rfl rfl) rfl ?_
  refine lv (v := .bool false) rfl (r_pn rfl un64 rfl rfl) rfl ?_
  refine lv (v := .bool false) rfl (r_mv rfl rfl) rfl ?_
  refine lv (v := .pointer (some ⟨d, 0, none⟩)) (by kernel_rfl) (r_mv rfl rfl) rfl ?_
  refine lv (v := .pointer (some ⟨d, 0, none⟩)) (by kernel_rfl) (r_nilc rfl rfl) rfl ?_
  refine lv (v := .pointer (some ⟨d, 1, none⟩)) (by kernel_rfl) (r_fa rfl fl106_1 rfl rfl) rfl ?_
  refine lv (v := .bool false) (by kernel_rfl) (r_ld rfl sc4 rfl hB.cel c_disk_Disk_1) rfl ?_
  refine lv (v := .bool false) rfl (r_pkF rfl rfl rfl) rfl ?_
  refine wend ?_
  refine wthen ?_
  refine wcF rfl ?_
  refine wp_skip ?_
  refine wthen ?_
  refine wseq ?_
  refine wseq ?_
  refine wreg ?_
  refine lv (v := .int .i64 0) rfl (r_mv rfl rfl) rfl ?_
  refine lv (v := .bool false) rfl (r_neq rfl rfl rfl (by decide)) rfl ?_
  refine wend ?_
  refine wthen ?_
  refine wcF rfl ?_
  refine wp_skip ?_
  refine wthen ?_
  refine wseq ?_
  refine wreg ?_
  refine lv (v := .pointer (some ⟨d, 0, none⟩)) rfl (r_mv rfl rfl) rfl ?_
  refine lv (v := .string nm) rfl (r_mv rfl rfl) rfl ?_
  have hX2 := hX
  refine lc fc45 rfl rfl rfl ?_
  refine (file_spec (nm := nm) hK2).mono ?_
  rintro e w2 ⟨l1, fl, l2, rfl, hEns, hK3, hAf⟩
  replace hX := hX.step hAf (fun k _ e => e ▸ hSd.2.1)
  have hX4 := hX
  have hmem : fl ∈ l1 ++ fl :: l2 := by simp
  have hfo := hK3.ok fl hmem
  have hap := hK3.ap hmem
  have hF : Blk w2 fl.b (c_disk_file fl.s1 fl.s2) 112 := hfo.blk
  have hO1 := hfo.own1
  have hO2 := hfo.own2
  have hesz := hEns.sz
  have hn1 := hfo.n1
  have hn2 := hfo.n2
  have hX3 := Ag.refl (fun k => k = fl.b ∨ rowM fl.s1.v k ∨ rowM fl.s2.v k) w2
  refine ⟨_, rfl, ?_⟩
  refine lv (v := .pointer (some ⟨fl.b, 0, none⟩)) rfl (r_as rfl rfl) rfl ?_
  refine wend ?_
  refine wthen ?_
  refine wseq ?_
  refine dstart (M := (rowM fl.s1.v)) [13, 16] mixed rfl (by repeat (first | exact Pan.body | refine Pan.then ?_ | refine Pan.inBlock ?_ | refine Pan.noGoto ?_)) ?_
  intro w3 hA4 hP5
  replace hX := hX.step0 hA4
  replace hF := hF.keep0 hA4
  replace hO1 := hO1.keep hA4 (fun _ _ h => h)
  replace hO2 := hO2.keep hA4 (fun _ _ h => h)
  replace hX3 := hX3.step0 hA4
  have hS6 : Ag (rowM fl.s1.v) w3 w3 := Ag.refl _ _
  have hX30 := hX3
  have rhF := hF
  refine dp (v := .pointer (some ⟨fl.b, 0, none⟩)) 0 (by kernel_rfl) rfl rfl (fun _ => r_mv rfl rfl) rfl hP5 ?_
  refine dp (v := .pointer (some ⟨fl.b, 0, none⟩)) 1 (by kernel_rfl) rfl rfl (fun _ => r_mv rfl rfl) rfl hP5 ?_
  refine dp (v := .pointer (some ⟨fl.b, 0, none⟩)) 2 (by kernel_rfl) rfl rfl (fun _ => r_mv rfl rfl) rfl hP5 ?_
  refine dp (v := .pointer (some ⟨fl.b, 0, none⟩)) 3 (by kernel_rfl) rfl rfl (fun _ => r_nilc rfl rfl) rfl hP5 ?_
  refine dp (v := .pointer (some ⟨fl.b, 0, none⟩)) 4 (by kernel_rfl) rfl rfl (fun _ => r_fa rfl fl112_0 rfl rfl) rfl hP5 ?_
  refine dp (v := .pointer (some ⟨fl.b, 0, none⟩)) 6 (by kernel_rfl) rfl rfl (fun _ => r_mv rfl rfl) rfl hP5 ?_
  refine dp (v := .pointer (some ⟨fl.b, 0, none⟩)) 7 (by kernel_rfl) rfl rfl (fun _ => r_nilc rfl rfl) rfl hP5 ?_
  refine dp (v := .pointer (some ⟨fl.b, 1, none⟩)) 8 (by kernel_rfl) rfl rfl (fun _ => r_fa rfl fl112_1 rfl rfl) rfl hP5 ?_
  refine dr (v := fl.s1.v) 5 (by kernel_rfl) rfl rfl hS6 (fun _ hs => r_ld rfl sc55 rfl (rhF.keep hs (hO1.ne hF rfl)).cel c_disk_file_0) rfl hP5 ?_
  refine dr (v := fl.s2.v) 9 (by kernel_rfl) rfl rfl hS6 (fun _ hs => r_ld rfl sc55 rfl (rhF.keep hs (hO1.ne hF rfl)).cel c_disk_file_1) rfl hP5 ?_
  have hSrc := hO2.src (Ones_bvs _)
  refine de 10 (by kernel_rfl) rfl rfl rfl (e_app (v := fl.s1.v) rfl sl55 inf5 rfl rfl hO1 hSrc (by rw [bvs_length, Nat.mul_one]) rfl (by omega) rfl) rfl ?_
  rintro _ w7 ⟨hO3, hA4, hloc⟩
  replace hX := hX
  replace hF := hF.keep hA4 (hO1.ne hF rfl)
  replace hX3 := hX3.step hA4 (fun _ _ h => .inr (.inl h))
  obtain ⟨A1, c1, rfl⟩ := hO3.form
  have hSw7 := hS6.step hA4 (fun _ _ h => h)
  refine ⟨hSw7, ?_⟩
  refine dp (v := .pointer (some ⟨fl.b, 0, none⟩)) 11 (by kernel_rfl) rfl rfl (fun _ => r_nilc rfl rfl) rfl hP5 ?_
  refine dp (v := .pointer (some ⟨fl.b, 0, none⟩)) 12 (by kernel_rfl) rfl rfl (fun _ => r_fa rfl fl112_0 rfl rfl) rfl hP5 ?_
  refine dsl 13 (by kernel_rfl) rfl rfl rfl (e_st1 (v := (Sv.mk A1 (fl.s.length + fl.a.length) c1).v) rfl sc55 rfl rfl rfl hF (by rw [c_disk_file_len]; rfl)) rfl ?_
  intro w9 hT8
  replace hX := hX
  replace hX3 := hX3.step hT8.ag (fun _ _ h => .inl h)
  replace hO3 := hO3.keep hT8.ag (fun k hk e => hO3.ne hF rfl (e ▸ hk))
  replace hF := hT8.blk
  rw [(c_disk_file_set0 (Sv.mk A1 (fl.s.length + fl.a.length) c1))] at hF
  refine dp (v := .pointer (some ⟨fl.b, 0, none⟩)) 14 (by kernel_rfl) rfl rfl (fun _ => r_nilc rfl rfl) rfl hP5 ?_
  refine dp (v := .pointer (some ⟨fl.b, 1, none⟩)) 15 (by kernel_rfl) rfl rfl (fun _ => r_fa rfl fl112_1 rfl rfl) rfl hP5 ?_
  refine dsl 16 (by kernel_rfl) rfl rfl rfl (e_st1 (v := Sv.nil.v) rfl sc55 rfl rfl rfl hF (by rw [c_disk_file_len]; rfl)) rfl ?_
  intro w11 hT10
  replace hX := hX
  replace hX3 := hX3.step hT10.ag (fun _ _ h => .inl h)
  replace hO3 := hO3.keep hT10.ag (fun k hk e => hO3.ne hF rfl (e ▸ hk))
  replace hF := hT10.blk
  rw [(c_disk_file_set1 Sv.nil)] at hF
  refine dend (by kernel_rfl) ?_
  refine wthen ?_
  refine wseq ?_
  refine wreg ?_
  refine lv (v := .int .i64 0) rfl (r_as rfl rfl) rfl ?_
  refine wend ?_
  refine wthen ?_
  refine wp_ret ?_
  refine fin1 rfl rfl ?_
  have hK4 := hK3.upd rfl rfl rfl { fl with s1 := ⟨A1, fl.s.length + fl.a.length, c1⟩, s2 := Sv.nil, s := fl.s ++ fl.a, a := [] } hX3 (fun _ _ h => h) rfl rfl ⟨hF, (by rw [List.length_append, bvs_append]; exact hO3), Own.nil _ _ _⟩ (rows2 (fun k h => (loc_or hloc h).imp (Nat.le_trans hX30.size) .inl) (fun k h => by cases h)) (apart_nil _)
  exact ⟨rfl, _, hEns.abs (u := fun x => (x.1 ++ x.2, [])) hK.nms (congrArg (fun z => (z, fl.s ++ fl.a, [])) hEns.1), hK4.mono (fun k _ h => h.elim (fun h => h.elim .inl (fun h => .inr (Nat.le_trans hX2.size h))) (fun h => .inr (Nat.le_trans hX4.size h))), hX4.step hX3 (fun k hk h => (hK3.inF hmem h).elim id (fun h => absurd hk (by have := hX2.size; omega)))⟩
theorem On_spec {S : Nat → Prop} {d m : Nat} {fs : List F} {acts : Int} {dn : Bool} {w : World} (hK : Dk 106 112 5 w d m S fs dn acts) :
    Calls Try.prog 42 #[.pointer (some ⟨d, 0, none⟩)] w fun e w' => e = .returned (.tuple #[]) ∧ Dk 106 112 5 w' d m S fs false acts ∧ Ag (fun k => k = d) w w' := by
  have hB : Blk w d (c_disk_Disk (.map (some m)) dn acts 0 0) 106 := hK.blk
  have hM := hK.map
  have hX := Ag.refl (fun k => k = d) w
  refine enter (args := [.pointer (some ⟨d, 0, none⟩)]) Try.func42 rfl Try.ntmps42 (Nat.le_of_ble_eq_true rfl) ?_
  refine wseq ?_
  refine wreg ?_
  refine lv (v := .pointer (some ⟨d, 0, none⟩)) rfl (r_mv rfl rfl) rfl ?_
  refine lv (v := .bool true) rfl (r_pnn rfl un64 rfl rfl) rfl ?_
  refine wend ?_
  refine wthen ?_
  refine wcT rfl ?_
  refine wreg ?_
  refine lv (v := .pointer (some ⟨d, 0, none⟩)) rfl (r_mv rfl rfl) rfl ?_
  refine lv (v := .pointer (some ⟨d, 0, none⟩)) rfl (r_nilc rfl rfl) rfl ?_
  refine lv (v := .pointer (some ⟨d, 1, none⟩)) rfl (r_fa rfl fl106_1 rfl rfl) rfl ?_
  refine lst rfl (e_st1 (v := .bool false) rfl sc4 rfl rfl rfl hB (by rw [c_disk_Disk_len]; rfl)) rfl ?_
  intro w2 hT1
  replace hX := hX.step hT1.ag (fun _ _ h => h)
  replace hB := hT1.blk
  rw [(c_disk_Disk_set1 false)] at hB
  refine wend ?_
  refine fin0 rfl ?_
  exact ⟨rfl, hK.flags rfl rfl rfl hX hB, hX⟩
theorem Read_spec {S : Nat → Prop} {d m : Nat} {fs : List F} {acts : Int} {nm : ByteArray} {w : World} (hK : Dk 106 112 5 w d m S fs false acts) {sb ab : List UInt8} (hx : (nm, sb, ab) ∈ fs.map F.abs) (hl : fsz fs ≤ LIM) :
    Calls Try.prog 16 #[.pointer (some ⟨d, 0, none⟩), .string nm] w fun e w' => ∃ s : Sv, e = .returned (.tuple #[s.v, .int .i64 0]) ∧ Row (fun k => w.heap.size ≤ k) w' s 1 (brow (sb ++ ab)) ∧ Ag M0 w w' := by
  have hB : Blk w d (c_disk_Disk (.map (some m)) false acts 0 0) 106 := hK.blk
  have hM := hK.map
  obtain ⟨l1, fl, l2, hfs, hnm, hno, hsb, hab⟩ := abs_mem hK.nms hx
  have hmem : fl ∈ fs := by rw [hfs]; simp
  have hfo := hK.ok fl hmem
  have hF : Blk w fl.b (c_disk_file fl.s1 fl.s2) 112 := hfo.blk
  have hO1 := hfo.own1
  have hO2 := hfo.own2
  have hesz := fsz_mem hmem
  have hlim := LIM_le hl
  have hX := Ag.refl M0 w
  refine enter (args := [.pointer (some ⟨d, 0, none⟩), .string nm]) Try.func16 rfl Try.ntmps16 (Nat.le_of_ble_eq_true rfl) ?_
  refine wseq ?_
  refine wreg ?_
  refine lv (v := .slice none 0 0) rfl (r_as rfl rfl) rfl ?_
  refine lv (v := .int .i64 0) rfl (r_as rfl rfl) rfl ?_
  refine wend ?_
  refine wthen ?_
  refine wseq ?_
  refine wp_block ?_
  refine wseq ?_
  refine wreg ?_
  refine lv (v := .pointer (some ⟨d, 0, none⟩)) rfl (r_mv rfl rfl) rfl ?_
  refine lv (v := .bool false) rfl (r_pn rfl un64 rfl rfl) rfl ?_
  refine lv (v := .bool false) rfl (r_as rfl rfl) rfl ?_
  refine wend ?_
  refine wthen ?_
  refine wcF rfl ?_
  refine wseq ?_
  refine wreg ?_
  refine lv (v := .pointer (some ⟨d, 0, none⟩)) rfl (r_mv rfl rfl) rfl ?_
  refine lv (v := .pointer (some ⟨d, 0, none⟩)) rfl (r_nilc rfl rfl) rfl ?_
  refine lv (v := .pointer (some ⟨d, 1, none⟩)) rfl (r_fa rfl fl106_1 rfl rfl) rfl ?_
  refine lv (v := .bool false) rfl (r_ld rfl sc4 rfl hB.cel c_disk_Disk_1) rfl ?_
  refine lv (v := .bool false) rfl (r_as rfl rfl) rfl ?_
  refine wend ?_
  refine wthen ?_
  refine wcF rfl ?_
  refine wseq ?_
  refine wreg ?_
  refine lv (v := .pointer (some ⟨d, 0, none⟩)) rfl (r_mv rfl rfl) rfl ?_
  refine lv (v := .pointer (some ⟨d, 0, none⟩)) rfl (r_nilc rfl rfl) rfl ?_
  refine lv (v := .pointer (some ⟨d, 0, none⟩)) rfl (r_fa rfl fl106_0 rfl rfl) rfl ?_
  refine lv (v := (.map (some m))) rfl (r_ld rfl sc104 rfl hB.cel c_disk_Disk_0) rfl ?_
  refine lv (v := .string nm) rfl (r_mv rfl rfl) rfl ?_
  refine lv (v := .pointer (some ⟨fl.b, 0, none⟩)) rfl (r_lk1 (l := (fs.map F.kv)) (l1 := (l1.map F.kv)) (l2 := (l2.map F.kv)) (k := nm) (z := .pointer (some ⟨fl.b, 0, none⟩)) rfl un104 un9 rfl rfl hM (by rw [hfs]; simp [F.kv, hnm]) hno) rfl ?_
  refine lv (v := .bool false) rfl (r_pn rfl un109 rfl rfl) rfl ?_
  refine lv (v := .bool false) rfl (r_as rfl rfl) rfl ?_
  refine wend ?_
  refine wthen ?_
  refine wcF rfl ?_
  refine wp_skip ?_
  refine inN ?_
  refine wthen ?_
  refine wseq ?_
  refine wreg ?_
  refine lv (v := .pointer (some ⟨d, 0, none⟩)) rfl (r_mv rfl rfl) rfl ?_
  refine lv (v := .pointer (some ⟨d, 0, none⟩)) rfl (r_nilc rfl rfl) rfl ?_
  refine lv (v := .pointer (some ⟨d, 0, none⟩)) rfl (r_fa rfl fl106_0 rfl rfl) rfl ?_
  refine lv (v := (.map (some m))) rfl (r_ld rfl sc104 rfl hB.cel c_disk_Disk_0) rfl ?_
  refine lv (v := .string nm) rfl (r_mv rfl rfl) rfl ?_
  refine lv (v := .pointer (some ⟨fl.b, 0, none⟩)) rfl (r_lk1 (l := (fs.map F.kv)) (l1 := (l1.map F.kv)) (l2 := (l2.map F.kv)) (k := nm) (z := .pointer (some ⟨fl.b, 0, none⟩)) rfl un104 un9 rfl rfl hM (by rw [hfs]; simp [F.kv, hnm]) hno) rfl ?_
  refine lv (v := .pointer (some ⟨fl.b, 0, none⟩)) rfl (r_as rfl rfl) rfl ?_
  refine wend ?_
  refine wthen ?_
  refine wseq ?_
  refine dstart (M := M0) [] mixed rfl (by repeat (first | exact Pan.body | refine Pan.then ?_ | refine Pan.inBlock ?_ | refine Pan.noGoto ?_)) ?_
  intro w1 hA2 hP3
  replace hB := hB.keep0 hA2
  replace hM := hM.keep0 hA2
  replace hX := hX.step0 hA2
  replace hF := hF.keep0 hA2
  replace hO1 := hO1.keep hA2 (fun _ _ h => h)
  replace hO2 := hO2.keep hA2 (fun _ _ h => h)
  have hS4 : Ag M0 w1 w1 := Ag.refl _ _
  have hX0r := hX
  have hXr := Ag.refl M0 w1
  have rhB := hB
  have rhF := hF
  refine dp (v := .pointer (some ⟨fl.b, 0, none⟩)) 1 (by kernel_rfl) rfl rfl (fun _ => r_mv rfl rfl) rfl hP3 ?_
  refine dp (v := .pointer (some ⟨fl.b, 0, none⟩)) 2 (by kernel_rfl) rfl rfl (fun _ => r_nilc rfl rfl) rfl hP3 ?_
  refine dp (v := .pointer (some ⟨fl.b, 0, none⟩)) 3 (by kernel_rfl) rfl rfl (fun _ => r_fa rfl fl112_0 rfl rfl) rfl hP3 ?_
  refine dp (v := .pointer (some ⟨fl.b, 0, none⟩)) 6 (by kernel_rfl) rfl rfl (fun _ => r_mv rfl rfl) rfl hP3 ?_
  refine dp (v := .pointer (some ⟨fl.b, 0, none⟩)) 7 (by kernel_rfl) rfl rfl (fun _ => r_nilc rfl rfl) rfl hP3 ?_
  refine dp (v := .pointer (some ⟨fl.b, 1, none⟩)) 8 (by kernel_rfl) rfl rfl (fun _ => r_fa rfl fl112_1 rfl rfl) rfl hP3 ?_
  refine dr (v := fl.s1.v) 4 (by kernel_rfl) rfl rfl hS4 (fun _ hs => r_ld rfl sc55 rfl (rhF.keep hs (fun h => h)).cel c_disk_file_0) rfl hP3 ?_
  refine dr (v := fl.s2.v) 9 (by kernel_rfl) rfl rfl hS4 (fun _ hs => r_ld rfl sc55 rfl (rhF.keep hs (fun h => h)).cel c_disk_file_1) rfl hP3 ?_
  refine de 0 (by kernel_rfl) rfl rfl rfl (e_bs0 rfl sl55) rfl ?_
  rintro _ w7 ⟨b5, rfl, hN6⟩
  have hA8 := hN6.ag
  have hgAhX_b5 := Nat.le_trans hX.size hN6.new
  have hgAhXr_b5 := Nat.le_trans hXr.size hN6.new
  replace hB := hB.keep0 hA8
  replace hM := hM.keep0 hA8
  replace hX := hX.step0 hA8
  replace hF := hF.keep0 hA8
  replace hO1 := hO1.keep hA8 (fun _ _ h => h)
  replace hO2 := hO2.keep hA8 (fun _ _ h => h)
  replace hXr := hXr.step0 hA8
  have hB9 := hN6.blk
  have hSw7 := hS4.step0 hN6.ag
  refine ⟨hSw7, ?_⟩
  have hOb := Own.mt hB9
  have hSrc := hO1.src (Ones_bvs _)
  have hgeb := hgAhXr_b5
  have hXb := hXr
  refine de 5 (by kernel_rfl) rfl rfl rfl (e_app (v := .slice (some ⟨b5, 0, none⟩) 0 0) (xs := []) (N := 0) rfl sl55 inf5 rfl rfl hOb hSrc (by rw [bvs_length, Nat.mul_one]) rfl (by omega) rfl) rfl ?_
  rintro _ w10 ⟨hO3, hA4, hloc⟩
  have hlk : ∀ k, rowM (.slice (some ⟨b5, 0, none⟩) 0 0) k → w1.heap.size ≤ k := fun k h => by cases h; exact hgeb
  replace hB := hB.keep hA4 (hOb.ne hB rfl)
  replace hM := hM.keep hA4 (hOb.neM hM)
  replace hX := hX.step hA4 (fun k hk h => absurd hk (Nat.not_lt.2 (Nat.le_trans hX0r.size (hlk k h))))
  replace hF := hF.keep hA4 (hOb.ne hF rfl)
  replace hO1 := hO1
  replace hO2 := hO2.keep hA4 (fun k hk h => absurd (hfo.own2.lt hk) (Nat.not_lt.2 (Nat.le_trans hX0r.size (hlk k h))))
  replace hXr := hXr.step hA4 (fun k hk h => absurd hk (Nat.not_lt.2 (hlk k h)))
  obtain ⟨A1, c1, rfl⟩ := hO3.form
  have hl3 : ∀ k, rowM (.slice A1 (0 + fl.s.length) c1) k → w1.heap.size ≤ k := fun k h => (loc_or hloc h).elim (Nat.le_trans hXb.size) (hlk k)
  have hSw10 := hSw7.step hA4 (fun k hk h => absurd hk (Nat.not_lt.2 (hlk k h)))
  refine ⟨hSw10, ?_⟩
  have hSrc2 := hO2.src (Ones_bvs _)
  have hXc := hXr
  refine de 10 (by kernel_rfl) rfl rfl rfl (e_app (v := .slice A1 (0 + fl.s.length) c1) rfl sl55 inf5 rfl rfl hO3 hSrc2 (by rw [bvs_length, Nat.mul_one]) rfl (by omega) rfl) rfl ?_
  rintro _ w11 ⟨hO4, hA5, hloc2⟩
  replace hB := hB.keep hA5 (hO3.ne hB rfl)
  replace hM := hM.keep hA5 (hO3.neM hM)
  replace hX := hX.step hA5 (fun k hk h => absurd hk (Nat.not_lt.2 (Nat.le_trans hX0r.size (hl3 k h))))
  replace hF := hF.keep hA5 (hO3.ne hF rfl)
  replace hXr := hXr.step hA5 (fun k hk h => absurd hk (Nat.not_lt.2 (hl3 k h)))
  obtain ⟨A2, c2, rfl⟩ := hO4.form
  have hl4 : ∀ k, rowM (.slice A2 (0 + fl.s.length + fl.a.length) c2) k → w.heap.size ≤ k := fun k h => Nat.le_trans hX0r.size ((loc_or hloc2 h).elim (Nat.le_trans hXc.size) (hl3 k))
  have hSw11 := hSw10.step hA5 (fun k hk h => absurd hk (Nat.not_lt.2 (hl3 k h)))
  refine ⟨hSw11, ?_⟩
  refine dp (v := .slice A2 (0 + fl.s.length + fl.a.length) c2) 11 (by kernel_rfl) rfl rfl (fun _ => r_as rfl rfl) rfl hP3 ?_
  refine dp (v := .int .i64 0) 12 (by kernel_rfl) rfl rfl (fun _ => r_as rfl rfl) rfl hP3 ?_
  refine dend (by kernel_rfl) ?_
  refine wthen ?_
  refine wp_ret ?_
  refine fin2 rfl rfl rfl ?_
  have hfl : [] ++ bvs fl.s ++ bvs fl.a = (brow (fl.s ++ fl.a)).flatten := by rw [brow_flat, bvs_append]; rfl
  rw [hfl] at hO4
  obtain ⟨s, hs, hRow⟩ := hO4.row (D := fun k => w.heap.size ≤ k) (fun cs hc => by obtain ⟨x, _, rfl⟩ := List.mem_map.1 hc; rfl) (by decide) hl4 (by omega)
  exact ⟨s, congrArg (fun z => Ending.returned (.tuple #[z, .int .i64 0])) hs, (by rw [← hsb, ← hab]; exact hRow), hX⟩
theorem Install_spec {D S : Nat → Prop} {d m : Nat} {fs : List F} {acts : Int} {nm : ByteArray} {s : Sv} {bs : List UInt8} {w : World} (hK : Dk 106 112 5 w d m S fs false acts) (ha : 0 ≤ acts ∧ acts ≤ 1000000000000) (hR : Row D w s 1 (brow bs)) (hD : ∀ k, D k → ¬ S k) (hsz : fsz fs + bs.length ≤ 4194304) :
    Calls Try.prog 14 #[.pointer (some ⟨d, 0, none⟩), .string nm, s.v] w fun e w' => e = .returned (.int .i64 0) ∧ ∃ fs', fs'.map F.abs = upA nm (fun _ => (bs, [])) (fs.map F.abs) ∧ Dk 106 112 5 w' d m (fun k => S k ∨ w.heap.size ≤ k) fs' false (acts + 1) ∧ Ag S w w' := by
  have hB : Blk w d (c_disk_Disk (.map (some m)) false acts 0 0) 106 := hK.blk
  have hM := hK.map
  have hX := Ag.refl S w
  have hsn0 := hR.len
  rw [brow_length] at hsn0
  have hbd0 := hR.bd
  refine enter (args := [.pointer (some ⟨d, 0, none⟩), .string nm, s.v]) Try.func14 rfl Try.ntmps14 (Nat.le_of_ble_eq_true rfl) ?_
  refine wseq ?_
  refine wreg ?_
  refine lv (v := .int .i64 0) rfl (r_as rfl rfl) rfl ?_
  refine wend ?_
  refine wthen ?_
  refine wseq ?_
  refine wseq ?_
  refine wreg ?_
  refine lv (v := .pointer (some ⟨d, 0, none⟩)) rfl (r_mv rfl rfl) rfl ?_
  refine lv (v := .bool true) rfl (r_pnn rfl un64 rfl rfl) rfl ?_
  refine lv (v := .bool true) rfl (r_mv rfl rfl) rfl ?_
  refine lv (v := .pointer (some ⟨d, 0, none⟩)) (by kernel_rfl) (r_mv rfl rfl) rfl ?_
  refine lv (v := .pointer (some ⟨d, 0, none⟩)) (by kernel_rfl) (r_nilc rfl rfl) rfl ?_
  refine lv (v := .pointer (some ⟨d, 1, none⟩)) (by kernel_rfl) (r_fa rfl fl106_1 rfl rfl) rfl ?_
  refine lv (v := .bool false) (by kernel_rfl) (r_ld rfl sc4 rfl hB.cel c_disk_Disk_1) rfl ?_
  refine lv (v := .bool true) (by kernel_rfl) (r_not (b := false) rfl rfl) rfl ?_
  refine lv (v := .bool true) rfl (r_pkT rfl rfl rfl) rfl ?_
  refine lv (v := .bool true) rfl (r_mv rfl rfl) rfl ?_
  refine lv (v := .pointer (some ⟨d, 0, none⟩)) (by kernel_rfl) (r_mv rfl rfl) rfl ?_
  refine lc fc43 (by kernel_rfl) rfl rfl ?_
  refine (size_spec hK (Nat.le_trans (Nat.le_trans (Nat.le_add_right _ _) hsz) (by decide))).mono ?_
  rintro e w1 ⟨rfl, hAz⟩
  replace hB := hB.keep0 hAz
  replace hK := hK.keep hAz (fun _ _ _ h => h)
  replace hR := hR.keep hAz (fun _ _ _ h => h)
  replace hX := hX.step0 hAz
  refine ⟨_, rfl, ?_⟩
  refine lv (v := s.v) (by kernel_rfl) (r_mv rfl rfl) rfl ?_
  refine lv (v := .int .i64 (s.n : Int)) (by kernel_rfl) (r_len rfl sl55 rfl) rfl ?_
  refine lv (v := .int .i64 (((fsz fs : Nat) : Int) + (s.n : Int))) (by kernel_rfl) (r_add rfl rfl rfl (by omega)) rfl ?_
  refine lv (v := .bool false) (by kernel_rfl) (r_gtr rfl rfl rfl (decide_eq_false (by omega))) rfl ?_
  refine lv (v := .bool false) rfl (r_pkT rfl rfl rfl) rfl ?_
  refine wend ?_
  refine wthen ?_
  refine wcF rfl ?_
  refine wp_skip ?_
  refine wthen ?_
  refine wseq ?_
  refine wreg ?_
  refine lv (v := .pointer (some ⟨d, 0, none⟩)) rfl (r_mv rfl rfl) rfl ?_
  refine lc fc44 rfl rfl rfl ?_
  refine (act_spec hK ha).mono ?_
  rintro e w2 ⟨rfl, hK2, hAa⟩
  have hSd := hK.inS
  replace hR := hR.keep hAa (fun k _ hd e => hD k hd (e ▸ hSd.1))
  replace hX := hX.step hAa (fun k _ e => e ▸ hSd.1)
  have hB : Blk w2 d (c_disk_Disk (.map (some m)) false (acts + 1) 0 0) 106 := hK2.blk
  have hM := hK2.map
  have hXq := Ag.refl (fun k => k = m) w2
  have hX2 := hX
  refine ⟨_, rfl, ?_⟩
  refine lv (v := .int .i64 0) rfl (r_as rfl rfl) rfl ?_
  refine wend ?_
  refine wthen ?_
  refine wseq ?_
  refine wseq ?_
  refine wreg ?_
  refine lv (v := .pointer (some ⟨d, 0, none⟩)) rfl (r_mv rfl rfl) rfl ?_
  refine lv (v := .bool false) rfl (r_pn rfl un64 rfl rfl) rfl ?_
  refine lv (v := .bool false) rfl (r_mv rfl rfl) rfl ?_
  refine lv (v := .pointer (some ⟨d, 0, none⟩)) (by kernel_rfl) (r_mv rfl rfl) rfl ?_
  refine lv (v := .pointer (some ⟨d, 0, none⟩)) (by kernel_rfl) (r_nilc rfl rfl) rfl ?_
  refine lv (v := .pointer (some ⟨d, 1, none⟩)) (by kernel_rfl) (r_fa rfl fl106_1 rfl rfl) rfl ?_
  refine lv (v := .bool false) (by kernel_rfl) (r_ld rfl sc4 rfl hB.cel c_disk_Disk_1) rfl ?_
  refine lv (v := .bool false) rfl (r_pkF rfl rfl rfl) rfl ?_
  refine wend ?_
  refine wthen ?_
  refine wcF rfl ?_
  refine wp_skip ?_
  refine wthen ?_
  refine wseq ?_
  refine wseq ?_
  refine wreg ?_
  refine lv (v := .int .i64 0) rfl (r_mv rfl rfl) rfl ?_
  refine lv (v := .bool false) rfl (r_neq rfl rfl rfl (by decide)) rfl ?_
  refine wend ?_
  refine wthen ?_
  refine wcF rfl ?_
  refine wp_skip ?_
  refine wthen ?_
  refine wseq ?_
  refine dstart (M := M0) [10] mixed rfl (by repeat (first | exact Pan.body | refine Pan.then ?_ | refine Pan.inBlock ?_ | refine Pan.noGoto ?_)) ?_
  intro w3 hA4 hP5
  replace hR := hR.keep hA4 (fun _ _ _ h => h)
  replace hX := hX.step0 hA4
  replace hB := hB.keep0 hA4
  replace hM := hM.keep0 hA4
  replace hXq := hXq.step0 hA4
  have hS6 : Ag M0 w3 w3 := Ag.refl _ _
  have hX0r := hXq
  have hX0s := hX
  have hXr := Ag.refl M0 w3
  have rhB := hB
  refine dp (v := .pointer (some ⟨d, 0, none⟩)) 0 (by kernel_rfl) rfl rfl (fun _ => r_mv rfl rfl) rfl hP5 ?_
  refine dp (v := .pointer (some ⟨d, 0, none⟩)) 1 (by kernel_rfl) rfl rfl (fun _ => r_nilc rfl rfl) rfl hP5 ?_
  refine dp (v := .pointer (some ⟨d, 0, none⟩)) 2 (by kernel_rfl) rfl rfl (fun _ => r_fa rfl fl106_0 rfl rfl) rfl hP5 ?_
  refine dp (v := .string nm) 4 (by kernel_rfl) rfl rfl (fun _ => r_mv rfl rfl) rfl hP5 ?_
  refine dp (v := s.v) 6 (by kernel_rfl) rfl rfl (fun _ => r_mv rfl rfl) rfl hP5 ?_
  refine dr (v := (.map (some m))) 3 (by kernel_rfl) rfl rfl hS6 (fun _ hs => r_ld rfl sc104 rfl (rhB.keep hs (fun h => h)).cel c_disk_Disk_0) rfl hP5 ?_
  refine de 5 (by kernel_rfl) rfl rfl rfl (e_bs0 rfl sl55) rfl ?_
  rintro _ w9 ⟨b7, rfl, hN8⟩
  have hA10 := hN8.ag
  have hgAhX_b7 := Nat.le_trans hX.size hN8.new
  have hgAhXq_b7 := Nat.le_trans hXq.size hN8.new
  have hgAhXr_b7 := Nat.le_trans hXr.size hN8.new
  replace hR := hR.keep hA10 (fun _ _ _ h => h)
  replace hX := hX.step0 hA10
  replace hB := hB.keep0 hA10
  replace hM := hM.keep0 hA10
  replace hXq := hXq.step0 hA10
  replace hXr := hXr.step0 hA10
  have hB11 := hN8.blk
  have hSw9 := hS6.step0 hN8.ag
  refine ⟨hSw9, ?_⟩
  have hSrc := hR.src (by rw [brow_flat]; exact Ones_bvs _)
  rw [brow_flat] at hSrc
  have hsn := hR.len
  rw [brow_length] at hsn
  have hOb := Own.mt hB11
  have hgeb := hgAhXr_b7
  have hXb := hXr
  refine de 7 (by kernel_rfl) rfl rfl rfl (e_app (v := .slice (some ⟨b7, 0, none⟩) 0 0) (xs := []) (N := 0) rfl sl55 inf5 rfl rfl hOb hSrc (by rw [bvs_length, hsn, Nat.mul_one]) rfl (by omega) rfl) rfl ?_
  rintro _ w12 ⟨hO3, hA4, hloc⟩
  have hlk : ∀ k, rowM (.slice (some ⟨b7, 0, none⟩) 0 0) k → w3.heap.size ≤ k := fun k h => by cases h; exact hgeb
  replace hX := hX.step hA4 (fun k hk h => absurd hk (Nat.not_lt.2 (Nat.le_trans hX0s.size (hlk k h))))
  replace hB := hB.keep hA4 (hOb.ne hB rfl)
  replace hM := hM.keep hA4 (hOb.neM hM)
  replace hXq := hXq.step hA4 (fun k hk h => absurd hk (Nat.not_lt.2 (Nat.le_trans hX0r.size (hlk k h))))
  replace hXr := hXr.step hA4 (fun k hk h => absurd hk (Nat.not_lt.2 (hlk k h)))
  obtain ⟨A1, c1, rfl⟩ := hO3.form
  have hl3 : ∀ k, rowM (.slice A1 (0 + s.n) c1) k → w2.heap.size ≤ k := fun k h => Nat.le_trans hX0r.size ((loc_or hloc h).elim (Nat.le_trans hXb.size) (hlk k))
  have hSw12 := hSw9.step hA4 (fun k hk h => absurd hk (Nat.not_lt.2 (hlk k h)))
  refine ⟨hSw12, ?_⟩
  refine dp (v := .agg (c_disk_file (Sv.mk A1 (0 + s.n) c1) Sv.nil).toArray) 8 (by kernel_rfl) rfl rfl (fun _ => r_bld (cs := (c_disk_file (Sv.mk A1 (0 + s.n) c1) Sv.nil)) (vs := [(0, .slice A1 (0 + s.n) c1)]) rfl ze112 bf112 rfl (by simp [Instr.fill, Value.cells, Dig.len, Sv.v, Sv.nil, List.foldl_cons, c_disk_file])) rfl hP5 ?_
  refine de 9 (by kernel_rfl) rfl rfl rfl (e_box (cs := (c_disk_file (Sv.mk A1 (0 + s.n) c1) Sv.nil)) rfl rfl rfl) rfl ?_
  rintro _ w15 ⟨b13, rfl, hN14⟩
  have hA16 := hN14.ag
  have hgAhX_b13 := Nat.le_trans hX.size hN14.new
  have hgAhXq_b13 := Nat.le_trans hXq.size hN14.new
  have hgAhXr_b13 := Nat.le_trans hXr.size hN14.new
  replace hX := hX.step0 hA16
  replace hB := hB.keep0 hA16
  replace hM := hM.keep0 hA16
  replace hXq := hXq.step0 hA16
  replace hXr := hXr.step0 hA16
  replace hO3 := hO3.keep hA16 (fun _ _ h => h)
  have hB17 := hN14.blk
  have hSw15 := hSw12.step0 hN14.ag
  refine ⟨hSw15, ?_⟩
  rcases fs_cases fs nm with ⟨l1, fl, l2, hfs, hnm, hno⟩ | hno
  · skip
    refine dsl 10 (by kernel_rfl) rfl rfl rfl (e_mu1 (l1 := l1.map F.kv) (l2 := l2.map F.kv) (v0 := .pointer (some ⟨fl.b, 0, none⟩)) rfl un104 un9 rfl rfl rfl hM (by rw [hfs]; simp [F.kv, hnm]) hno) rfl ?_
    rintro w18 hMA
    obtain ⟨hM2, hAm⟩ := hMA
    have hBk := hB17.keep hAm (fun e => hM.ne hB17 e.symm)
    have hOk2 := hO3.keep hAm (fun k hk e => hO3.neM hM (e ▸ hk))
    have hOk : F.Ok 112 5 w18 ⟨nm, b13, ⟨A1, 0 + s.n, c1⟩, Sv.nil, bs, []⟩ := ⟨hBk, (by show Own _ _ _ _ bs.length _; have h := hOk2; rw [Nat.zero_add, hsn, List.nil_append] at h; rw [Nat.zero_add, hsn]; exact h), Own.nil _ _ _⟩
    have hXz := hXq.step hAm (fun _ _ h => h)
    have hrw : ∀ v ∈ F.rows ⟨nm, b13, ⟨A1, 0 + s.n, c1⟩, Sv.nil, bs, []⟩, ∀ k, v.ownBlock = some k → w2.heap.size ≤ k := rows2 (fun k h => hl3 k h) (fun k h => by cases h)
    have hZ := (show Dk 106 112 5 _ _ _ _ (l1 ++ fl :: l2) _ _ from hfs ▸ hK2).repl rfl rfl rfl ⟨nm, b13, ⟨A1, 0 + s.n, c1⟩, Sv.nil, bs, []⟩ hXz hM2 hnm.symm hOk hgAhXq_b13 hrw (apart_nil _)
    have hE : Ens nm fs l1 fl l2 := ⟨hnm, .inl hfs⟩
    have hAB := hE.abs (f' := ⟨nm, b13, ⟨A1, 0 + s.n, c1⟩, Sv.nil, bs, []⟩) (u := fun _ => (bs, [])) hK.nms rfl
    replace hX := hX.step hAm (fun k _ e => e ▸ hSd.2.1)
    replace hB := hB.keep hAm (fun e => hM.ne hB e.symm)
    replace hXq := hXq.step hAm (fun _ _ h => h)
    replace hXr := hX
    refine dend (by kernel_rfl) ?_
    refine wthen ?_
    refine wseq ?_
    refine wreg ?_
    refine lv (v := .int .i64 0) rfl (r_as rfl rfl) rfl ?_
    refine wend ?_
    refine wthen ?_
    refine wp_ret ?_
    refine fin1 rfl rfl ?_
    exact ⟨rfl, _, hAB, hZ.mono (fun k _ h => h.imp id (Nat.le_trans hX2.size)), hX⟩
  · skip
    refine dsl 10 (by kernel_rfl) rfl rfl rfl (e_mu0 rfl un104 un9 rfl rfl rfl hM hno) rfl ?_
    rintro w18 hMA
    obtain ⟨hM2, hAm⟩ := hMA
    have hBk := hB17.keep hAm (fun e => hM.ne hB17 e.symm)
    have hOk2 := hO3.keep hAm (fun k hk e => hO3.neM hM (e ▸ hk))
    have hOk : F.Ok 112 5 w18 ⟨nm, b13, ⟨A1, 0 + s.n, c1⟩, Sv.nil, bs, []⟩ := ⟨hBk, (by show Own _ _ _ _ bs.length _; have h := hOk2; rw [Nat.zero_add, hsn, List.nil_append] at h; rw [Nat.zero_add, hsn]; exact h), Own.nil _ _ _⟩
    have hXz := hXq.step hAm (fun _ _ h => h)
    have hrw : ∀ v ∈ F.rows ⟨nm, b13, ⟨A1, 0 + s.n, c1⟩, Sv.nil, bs, []⟩, ∀ k, v.ownBlock = some k → w2.heap.size ≤ k := rows2 (fun k h => hl3 k h) (fun k h => by cases h)
    have hZ := hK2.add rfl rfl rfl ⟨nm, b13, ⟨A1, 0 + s.n, c1⟩, Sv.nil, bs, []⟩ hXz hM2 hOk hgAhXq_b13 hrw (apart_nil _) (kv_ne hno)
    have hE : Ens nm fs fs ⟨nm, 0, Sv.nil, Sv.nil, [], []⟩ [] := ⟨rfl, .inr ⟨rfl, rfl, rfl, rfl, kv_ne hno⟩⟩
    have hAB := hE.abs (f' := ⟨nm, b13, ⟨A1, 0 + s.n, c1⟩, Sv.nil, bs, []⟩) (u := fun _ => (bs, [])) hK.nms rfl
    replace hX := hX.step hAm (fun k _ e => e ▸ hSd.2.1)
    replace hB := hB.keep hAm (fun e => hM.ne hB e.symm)
    replace hXq := hXq.step hAm (fun _ _ h => h)
    replace hXr := hX
    refine dend (by kernel_rfl) ?_
    refine wthen ?_
    refine wseq ?_
    refine wreg ?_
    refine lv (v := .int .i64 0) rfl (r_as rfl rfl) rfl ?_
    refine wend ?_
    refine wthen ?_
    refine wp_ret ?_
    refine fin1 rfl rfl ?_
    exact ⟨rfl, _, hAB, hZ.mono (fun k _ h => h.imp id (Nat.le_trans hX2.size)), hX⟩
theorem Off_spec {S : Nat → Prop} {d m : Nat} {f0 : F} {acts : Int} {w : World} (hK : Dk 106 112 5 w d m S [f0] false acts) (hsz : f0.s.length + f0.a.length ≤ LIM) :
    Calls Try.prog 41 #[.pointer (some ⟨d, 0, none⟩), .int .i64 0] w fun e w' => ∃ f, e = .returned (.tuple #[]) ∧ Dk 106 112 5 w' d m (fun k => S k ∨ w.heap.size ≤ k) [f] true acts ∧ f.abs = (f0.nm, f0.s, []) ∧ Ag S w w' := by
  have hB : Blk w d (c_disk_Disk (.map (some m)) false acts 0 0) 106 := hK.blk
  have hM := hK.map
  have hX := Ag.refl S w
  have hSd0 := hK.inS.1
  refine enter (args := [.pointer (some ⟨d, 0, none⟩), .int .i64 0]) Try.func41 rfl Try.ntmps41 (Nat.le_of_ble_eq_true rfl) ?_
  refine wseq ?_
  refine wseq ?_
  refine wreg ?_
  refine lv (v := .pointer (some ⟨d, 0, none⟩)) rfl (r_mv rfl rfl) rfl ?_
  refine lv (v := .bool false) rfl (r_pn rfl un64 rfl rfl) rfl ?_
  refine lv (v := .bool false) rfl (r_mv rfl rfl) rfl ?_
  refine lv (v := .pointer (some ⟨d, 0, none⟩)) (by kernel_rfl) (r_mv rfl rfl) rfl ?_
  refine lv (v := .pointer (some ⟨d, 0, none⟩)) (by kernel_rfl) (r_nilc rfl rfl) rfl ?_
  refine lv (v := .pointer (some ⟨d, 1, none⟩)) (by kernel_rfl) (r_fa rfl fl106_1 rfl rfl) rfl ?_
  refine lv (v := .bool false) (by kernel_rfl) (r_ld rfl sc4 rfl hB.cel c_disk_Disk_1) rfl ?_
  refine lv (v := .bool false) rfl (r_pkF rfl rfl rfl) rfl ?_
  refine wend ?_
  refine wthen ?_
  refine wcF rfl ?_
  refine wp_skip ?_
  refine wthen ?_
  refine wseq ?_
  refine wseq ?_
  refine wreg ?_
  refine lv (v := .pointer (some ⟨d, 0, none⟩)) rfl (r_mv rfl rfl) rfl ?_
  refine lv (v := .pointer (some ⟨d, 0, none⟩)) rfl (r_nilc rfl rfl) rfl ?_
  refine lv (v := .pointer (some ⟨d, 0, none⟩)) rfl (r_fa rfl fl106_0 rfl rfl) rfl ?_
  refine lv (v := (.map (some m))) rfl (r_ld rfl sc104 rfl hB.cel c_disk_Disk_0) rfl ?_
  refine le rfl (e_rg rfl un104 rfl hM) rfl ?_
  rintro _ w1 ⟨r, rfl, hI, hrge, hAr⟩
  replace hB := hB.keep0 hAr
  replace hM := hM.keep0 hAr
  replace hK := hK.keep hAr (fun _ _ _ h => h)
  replace hX := hX.step0 hAr
  refine wend ?_
  refine wthen ?_
  refine wp_block ?_
  refine wloop (n := 55) (fun (s_ : List Nat × F) ρ w0 => match s_ with | (L, fl) => ρ 0 = .pointer (some ⟨d, 0, none⟩) ∧ ρ 1 = .int .i64 0 ∧ ρ 7 = .pointer (some ⟨d, 0, none⟩) ∧ ρ 8 = .bool false ∧ ρ 9 = .bool false ∧ ρ 10 = .pointer (some ⟨d, 0, none⟩) ∧ ρ 11 = .pointer (some ⟨d, 0, none⟩) ∧ ρ 12 = .pointer (some ⟨d, 1, none⟩) ∧ ρ 13 = .bool false ∧ ρ 14 = .bool false ∧ ρ 15 = .pointer (some ⟨d, 0, none⟩) ∧ ρ 16 = .pointer (some ⟨d, 0, none⟩) ∧ ρ 17 = .pointer (some ⟨d, 0, none⟩) ∧ ρ 18 = (.map (some m)) ∧ ρ 19 = .pointer (some ⟨r, 0, none⟩) ∧ (∀ j ∈ L, j = 0) ∧ (fl.b = f0.b ∧ fl.nm = f0.nm ∧ fl.s = f0.s ∧ (L = [] → fl.a = [])) ∧ (Dk 106 112 5 w0 d m (fun k => S k ∨ w.heap.size ≤ k) [fl] false acts) ∧ (Blk w0 d (c_disk_Disk (.map (some m)) false acts 0 0) 106) ∧ (Mp w0 m ([f0].map F.kv)) ∧ (It w0 r m ([f0].map F.kv) L) ∧ (Ag S w w0) ∧ (fl.s.length + fl.a.length ≤ LIM)) (fun (s_ : List Nat × F) => match s_ with | (L, fl) => L.length) (List.range 1, f0) ⟨rfl, rfl, rfl, rfl, rfl, rfl, rfl, rfl, rfl, rfl, rfl, rfl, rfl, rfl, rfl, (by simp), ⟨rfl, rfl, rfl, fun h => by cases h⟩, hK.mono (fun _ _ h => .inl h), hB, hM, hI, hX, hsz⟩ ?_
  rintro ⟨L, fl⟩ ρ3 w2 ⟨h0_0, h0_1, h0_7, h0_8, h0_9, h0_10, h0_11, h0_12, h0_13, h0_14, h0_15, h0_16, h0_17, h0_18, h0_19, hL, hfl, hK, hB, hM, hI, hX, hsz⟩
  have hXs := hX
  refine wseq ?_
  refine wreg ?_
  refine le rfl (e_nx rfl h0_19 hM hI) rfl ?_
  rintro _ w4 (⟨hL0, rfl, rfl⟩ | ⟨i, pr, hi, hp, rfl, hI2, hat, hA1⟩)
  · skip
    subst hL0
    refine lv (v := .bool false) rfl (r_ext rfl rfl rfl) rfl ?_
    refine wend ?_
    refine wthen ?_
    refine wseq ?_
    refine wcF rfl ?_
    refine wp_exit ?_
    refine thE ?_
    refine thE ?_
    refine inX ?_
    refine wthen ?_
    have hKz := hK
    have hSd := hSd0
    have hXd := Ag.refl (fun k => k = d) w4
    refine wreg ?_
    refine lv (v := .pointer (some ⟨d, 0, none⟩)) rfl (r_mv rfl h0_0) rfl ?_
    refine lv (v := .pointer (some ⟨d, 0, none⟩)) rfl (r_mv rfl h0_0) rfl ?_
    refine lv (v := .pointer (some ⟨d, 0, none⟩)) rfl (r_nilc rfl rfl) rfl ?_
    refine lv (v := .pointer (some ⟨d, 1, none⟩)) rfl (r_fa rfl fl106_1 rfl rfl) rfl ?_
    refine lst rfl (e_st1 (v := .bool true) rfl sc4 rfl rfl rfl hB (by rw [c_disk_Disk_len]; rfl)) rfl ?_
    intro w6 hT5
    replace hX := hX.step hT5.ag (fun k hk h => h ▸ hSd)
    replace hXd := hXd.step hT5.ag (fun _ _ h => h)
    replace hB := hT5.blk
    rw [(c_disk_Disk_set1 true)] at hB
    refine lv (v := .pointer (some ⟨d, 0, none⟩)) rfl (r_nilc rfl rfl) rfl ?_
    refine lv (v := .pointer (some ⟨d, 3, none⟩)) rfl (r_fa rfl fl106_3 rfl rfl) rfl ?_
    refine lst rfl (e_st1 (v := .int .i64 0) rfl sc3 rfl rfl rfl hB (by rw [c_disk_Disk_len]; rfl)) rfl ?_
    intro w8 hT7
    replace hX := hX.step hT7.ag (fun k hk h => h ▸ hSd)
    replace hXd := hXd.step hT7.ag (fun _ _ h => h)
    replace hB := hT7.blk
    rw [(c_disk_Disk_set3 0)] at hB
    refine wend ?_
    refine fin0 rfl ?_
    exact ⟨fl, rfl, (hKz.flags rfl rfl rfl hXd hB), (by rw [F.abs, hfl.2.1, hfl.2.2.1, hfl.2.2.2 rfl]), hX⟩
  · skip
    have hne := hI.ne' hM
    have hi0 := hL i hi
    subst hi0
    have hp2 : pr = F.kv fl := by have := hp; simp [F.kv] at this; rw [← this, F.kv, hfl.1, hfl.2.1]
    subst hp2
    replace hK := hK.keepI hI hA1
    replace hB := hB.keep hA1 (fun e => hI.ne hB e.symm)
    replace hM := hM.keep hA1 (fun h => hne h.symm)
    replace hX := hX.step hA1 (fun k hk h => absurd hk (by subst h; omega))
    replace hI := hI2
    refine lv (v := .bool true) rfl (r_ext rfl rfl rfl) rfl ?_
    refine wend ?_
    refine wthen ?_
    refine wseq ?_
    refine wcT rfl ?_
    refine wp_skip ?_
    refine wthen ?_
    refine wp_block ?_
    refine wseq ?_
    refine wreg ?_
    refine lv (v := .tuple #[.string fl.nm, .pointer (some ⟨fl.b, 0, none⟩)]) rfl (r_en (p := F.kv fl) rfl h0_19 hM hat (by simp [F.kv, hfl.1, hfl.2.1])) rfl ?_
    refine lv (v := .pointer (some ⟨fl.b, 0, none⟩)) rfl (r_ext rfl rfl rfl) rfl ?_
    refine lv (v := .pointer (some ⟨fl.b, 0, none⟩)) rfl (r_as rfl rfl) rfl ?_
    refine wend ?_
    refine wthen ?_
    refine wseq ?_
    have hXs := hX
    have hK0 := hK
    have hfo := hK.ok fl (by simp)
    have hF : Blk w4 fl.b (c_disk_file fl.s1 fl.s2) 112 := hfo.blk
    have hO1 := hfo.own1
    have hO2 := hfo.own2
    have hap := hK.ap (f := fl) (by simp)
    have hn2 := hfo.n2
    have hSd2 := hK.inS
    have hlim := LIM_le hsz
    have hX3 := Ag.refl (fun k => k = fl.b ∨ rowM fl.s1.v k ∨ rowM fl.s2.v k) w4
    refine wreg ?_
    refine lv (v := .int .i64 0) rfl (r_mv rfl h0_1) rfl ?_
    refine lv (v := .int .i64 0) rfl (r_max (c := 0) rfl rfl rfl rfl) rfl ?_
    refine lv (v := .pointer (some ⟨fl.b, 0, none⟩)) rfl (r_mv rfl rfl) rfl ?_
    refine lv (v := .pointer (some ⟨fl.b, 0, none⟩)) rfl (r_nilc rfl rfl) rfl ?_
    refine lv (v := .pointer (some ⟨fl.b, 1, none⟩)) rfl (r_fa rfl fl112_1 rfl rfl) rfl ?_
    refine lv (v := fl.s2.v) rfl (r_ld rfl sc55 rfl hF.cel c_disk_file_1) rfl ?_
    refine lv (v := .int .i64 (fl.s2.n : Int)) rfl (r_len rfl sl55 rfl) rfl ?_
    refine lv (v := .int .i64 0) rfl (r_min (c := 0) rfl rfl rfl (if_neg (by omega))) rfl ?_
    refine lv (v := .int .i64 0) rfl (r_as rfl rfl) rfl ?_
    refine wend ?_
    refine wthen ?_
    refine dstart (M := (rowM fl.s1.v)) [15, 18] mixed rfl (by repeat (first | exact Pan.body | refine Pan.then ?_ | refine Pan.inBlock ?_ | refine Pan.noGoto ?_)) ?_
    intro w5 hA6 hP7
    replace hB := hB.keep0 hA6
    replace hM := hM.keep0 hA6
    replace hX := hX.step0 hA6
    replace hI := hI.keep hA6 (fun h => h)
    replace hF := hF.keep0 hA6
    replace hO1 := hO1.keep hA6 (fun _ _ h => h)
    replace hX3 := hX3.step0 hA6
    have hS8 : Ag (rowM fl.s1.v) w5 w5 := Ag.refl _ _
    have hX30 := hX3
    have rhB := hB
    have rhF := hF
    refine dp (v := .pointer (some ⟨fl.b, 0, none⟩)) 0 (by kernel_rfl) rfl rfl (fun _ => r_mv rfl rfl) rfl hP7 ?_
    refine dp (v := .pointer (some ⟨fl.b, 0, none⟩)) 1 (by kernel_rfl) rfl rfl (fun _ => r_mv rfl rfl) rfl hP7 ?_
    refine dp (v := .pointer (some ⟨fl.b, 0, none⟩)) 2 (by kernel_rfl) rfl rfl (fun _ => r_mv rfl rfl) rfl hP7 ?_
    refine dp (v := .pointer (some ⟨fl.b, 0, none⟩)) 3 (by kernel_rfl) rfl rfl (fun _ => r_nilc rfl rfl) rfl hP7 ?_
    refine dp (v := .pointer (some ⟨fl.b, 0, none⟩)) 4 (by kernel_rfl) rfl rfl (fun _ => r_fa rfl fl112_0 rfl rfl) rfl hP7 ?_
    refine dp (v := .pointer (some ⟨fl.b, 0, none⟩)) 6 (by kernel_rfl) rfl rfl (fun _ => r_mv rfl rfl) rfl hP7 ?_
    refine dp (v := .pointer (some ⟨fl.b, 0, none⟩)) 7 (by kernel_rfl) rfl rfl (fun _ => r_nilc rfl rfl) rfl hP7 ?_
    refine dp (v := .pointer (some ⟨fl.b, 1, none⟩)) 8 (by kernel_rfl) rfl rfl (fun _ => r_fa rfl fl112_1 rfl rfl) rfl hP7 ?_
    refine dp (v := .int .i64 0) 10 (by kernel_rfl) rfl rfl (fun _ => r_mv rfl rfl) rfl hP7 ?_
    refine dr (v := fl.s1.v) 5 (by kernel_rfl) rfl rfl hS8 (fun _ hs => r_ld rfl sc55 rfl (rhF.keep hs (hO1.ne hF rfl)).cel c_disk_file_0) rfl hP7 ?_
    refine dr (v := fl.s2.v) 9 (by kernel_rfl) rfl rfl hS8 (fun _ hs => r_ld rfl sc55 rfl (rhF.keep hs (hO1.ne hF rfl)).cel c_disk_file_1) rfl hP7 ?_
    refine dp (v := (fl.s2.take (0 : Int).toNat).v) 11 (by kernel_rfl) rfl rfl (fun _ => r_slh (i := 0) (cap := fl.s2.c) rfl sl55 rfl rfl (by decide) (by omega)) rfl hP7 ?_
    refine de 12 (by kernel_rfl) rfl rfl rfl (e_app (v := fl.s1.v) (news := []) rfl sl55 inf5 rfl rfl hO1 (Src.z rfl) rfl rfl (by omega) rfl) rfl ?_
    rintro _ w9 ⟨hO3, hA4, hloc⟩
    replace hB := hB.keep hA4 (hO1.ne hB rfl)
    replace hM := hM.keep hA4 (hO1.neM hM)
    replace hX := hX.step hA4 (fun k hk h => (hK0.inF (by simp) (.inr (.inl h))).elim id (fun h => absurd hk (Nat.not_lt.2 h)))
    replace hI := hI.keep hA4 (fun h => hO1.neI hI h)
    replace hF := hF.keep hA4 (hO1.ne hF rfl)
    replace hX3 := hX3.step hA4 (fun _ _ h => .inr (.inl h))
    obtain ⟨A1, c1, rfl⟩ := hO3.form
    have hSw9 := hS8.step hA4 (fun _ _ h => h)
    refine ⟨hSw9, ?_⟩
    refine dp (v := .pointer (some ⟨fl.b, 0, none⟩)) 13 (by kernel_rfl) rfl rfl (fun _ => r_nilc rfl rfl) rfl hP7 ?_
    refine dp (v := .pointer (some ⟨fl.b, 0, none⟩)) 14 (by kernel_rfl) rfl rfl (fun _ => r_fa rfl fl112_0 rfl rfl) rfl hP7 ?_
    refine dsl 15 (by kernel_rfl) rfl rfl rfl (e_st1 (v := (Sv.mk A1 (fl.s.length + 0) c1).v) rfl sc55 rfl rfl rfl hF (by rw [c_disk_file_len]; rfl)) rfl ?_
    intro w11 hT10
    replace hB := hB.keep hT10.ag (fun e => hB.ne hF rfl e)
    replace hM := hM.keep hT10.ag (hM.ne hF)
    replace hX := hX.step hT10.ag (fun k hk h => (hK0.inF (by simp) (.inl h)).elim id (fun h => absurd hk (Nat.not_lt.2 h)))
    replace hI := hI.keep hT10.ag (fun h => hI.ne hF h)
    replace hX3 := hX3.step hT10.ag (fun _ _ h => .inl h)
    replace hO3 := hO3.keep hT10.ag (fun k hk e => hO3.ne hF rfl (e ▸ hk))
    replace hF := hT10.blk
    rw [(c_disk_file_set0 (Sv.mk A1 (fl.s.length + 0) c1))] at hF
    refine dp (v := .pointer (some ⟨fl.b, 0, none⟩)) 16 (by kernel_rfl) rfl rfl (fun _ => r_nilc rfl rfl) rfl hP7 ?_
    refine dp (v := .pointer (some ⟨fl.b, 1, none⟩)) 17 (by kernel_rfl) rfl rfl (fun _ => r_fa rfl fl112_1 rfl rfl) rfl hP7 ?_
    refine dsl 18 (by kernel_rfl) rfl rfl rfl (e_st1 (v := Sv.nil.v) rfl sc55 rfl rfl rfl hF (by rw [c_disk_file_len]; rfl)) rfl ?_
    intro w13 hT12
    replace hB := hB.keep hT12.ag (fun e => hB.ne hF rfl e)
    replace hM := hM.keep hT12.ag (hM.ne hF)
    replace hX := hX.step hT12.ag (fun k hk h => (hK0.inF (by simp) (.inl h)).elim id (fun h => absurd hk (Nat.not_lt.2 h)))
    replace hI := hI.keep hT12.ag (fun h => hI.ne hF h)
    replace hX3 := hX3.step hT12.ag (fun _ _ h => .inl h)
    replace hO3 := hO3.keep hT12.ag (fun k hk e => hO3.ne hF rfl (e ▸ hk))
    replace hF := hT12.blk
    rw [(c_disk_file_set1 Sv.nil)] at hF
    refine dend (by kernel_rfl) ?_
    refine inN ?_
    refine wthen ?_
    have hK4 : Dk 106 112 5 w13 d m (fun k => S k ∨ w.heap.size ≤ k) [{ fl with s1 := ⟨A1, fl.s.length + 0, c1⟩, s2 := Sv.nil, a := [] }] false acts := ((show Dk 106 112 5 _ _ _ _ ([] ++ fl :: []) _ _ from hK0).upd rfl rfl rfl { fl with s1 := ⟨A1, fl.s.length + 0, c1⟩, s2 := Sv.nil, a := [] } hX3 (fun _ _ h => h) rfl rfl ⟨hF, (by have h := hO3; rw [List.append_nil] at h; exact h), Own.nil _ _ _⟩ (rows2 (fun k h => (loc_or hloc h).imp (Nat.le_trans hX30.size) .inl) (fun k h => by cases h)) (apart_nil _)).mono (fun k _ h => h.elim id (fun h => .inr (Nat.le_trans hXs.size h)))
    exact ⟨(L.filter (· != 0), { fl with s1 := ⟨A1, fl.s.length + 0, c1⟩, s2 := Sv.nil, a := [] }), _, rfl, ⟨h0_0, h0_1, h0_7, h0_8, h0_9, h0_10, h0_11, h0_12, h0_13, h0_14, h0_15, h0_16, h0_17, h0_18, h0_19, (fun j hj => hL j (List.mem_filter.1 hj).1), ⟨hfl.1, hfl.2.1, hfl.2.2.1, fun _ => rfl⟩, hK4, hB, hM, hI, hX, (by have := hsz; simp only [List.length_nil]; omega)⟩, (filter_lt hi)⟩
end Go.Proofs.Ytofemaaikmhnlab.X
