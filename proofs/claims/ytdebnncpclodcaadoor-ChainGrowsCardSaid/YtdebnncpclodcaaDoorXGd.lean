/-
  Functions of the program: what each computes, and its walk. No condition beyond those that the lemmas name.
-/
import Derived.Test.YtdebnncpclodcaaDoorXPT
set_option linter.unusedSimpArgs false
set_option linter.unusedVariables false
set_option maxRecDepth 10000
namespace Go.Proofs.YtdebnncpclodcaaDoor.X
open Go.RowKit Go.Proofs.YtdebnncpclodcaaDoorW.PrintLast
noncomputable def M_wapentakeref12_Great (a0 : Block) (a1 : Int) : Option (Bool) := (if (40 : Int) < (a0.Requests.length : Int) then some true else ((forK (fun (i25 : Nat) (σ25 : Int) => (((a0.Requests[i25]?).bind fun x405 => ((forK (fun (i436 : Nat) (σ436 : Int) => ((((⟨[x405.Op.Key, x405.Op.Val, x405.Op.Old], rfl⟩ : Vec (List UInt8) 3).l[i436]?).bind fun x540 => (if a1 < (wI (σ436 + (x540.length : Int))) then ((((some true).map Sum.inr)).map Sum.inr) else some (.inl (wI (σ436 + (x540.length : Int)))))) : Option (Int ⊕ (Int ⊕ Bool)))) 3 0 (wI (σ25 + 100))).bind fun y => match y with | .inl σ436 => some (.inl σ436) | .inr r => some r)) : Option (Int ⊕ Bool))) a0.Requests.length 0 0).bind fun y => match y with | .inl σ25 => some (decide (a1 < σ25)) | .inr r => some r))
set_option maxHeartbeats 4000000 in
theorem spec_64 {w : World} {H : Hp} {a0 : Block} {a1 : Int} {s1 : Sv} {r : Bool} (hF : M_wapentakeref12_Great a0 a1 = some r) (hT : Tab H) (hG : Good w H []) (hs1 : Sl (Fl.ty fl_Request) H s1 a0.Requests) :
  Fine Tryd.prog 64 [.agg (flat [ckI a0.Epoch, ckI a0.Height, ckV flB a0.Prev, ckV flB a0.State, ckV flB a0.Next, ckL s1]).toArray, .int .i64 a1] w H [] (fun H' v L' => v = .bool r ∧ L' = []) := by
 unfold M_wapentakeref12_Great at hF
 unfold Fine
 obtain ⟨B, hB⟩ : ∃ B : Base, B = ⟨w, H, blks []⟩ := ⟨_, rfl⟩
 have hI : Inv B w H [] := by rw [hB]; exact Inv.start hG
 refine enter (n := 48) (args := [.agg (flat [ckI a0.Epoch, ckI a0.Height, ckV flB a0.Prev, ckV flB a0.State, ckV flB a0.Next, ckL s1]).toArray, .int .i64 a1]) Tryd.func64 rfl Tryd.ntmps64 (Nat.le_of_ble_eq_true rfl) ?_
 refine wseq ?_
 refine wreg ?_
 refine le rfl (l_box (cks := [ckI a0.Epoch, ckI a0.Height, ckV flB a0.Prev, ckV flB a0.State, ckV flB a0.Next, ckL s1]) hI rfl rfl rfl) rfl ?_
 rintro _ w3 ⟨g2, rfl, hI⟩
 replace hI : Inv B w3 H [.cb g2 [ckI a0.Epoch, ckI a0.Height, ckV flB a0.Prev, ckV flB a0.State, ckV flB a0.Next, ckL s1] 69] := hI
 refine lv (v := .bool false) rfl (r_as rfl rfl) rfl ?_
 refine wend ?_
 refine wthen ?_
 refine wren (fun ρ4 eρ4 => ?_)
 have h5 : opd ρ4 48 (.tmp 1) = .int .i64 a1 := eρ4 1
 have h6 : opd ρ4 48 (.tmp 2) = .pointer (some ⟨g2, 0 + 0, none⟩) := eρ4 2
 clear eρ4
 refine wseq ?_
 refine wreg ?_
 refine lv (v := .int .i64 0) rfl (r_as rfl rfl) rfl ?_
 refine wend ?_
 refine wthen ?_
 refine wren (fun ρ7 eρ7 => ?_)
 have h8 : opd ρ7 48 (.tmp 1) = .int .i64 a1 := (eρ7 1).trans h5
 have h9 : opd ρ7 48 (.tmp 2) = .pointer (some ⟨g2, 0 + 0, none⟩) := (eρ7 2).trans h6
 have h10 : opd ρ7 48 (.tmp 5) = .int .i64 0 := eρ7 5
 clear eρ7
 refine wseq ?_
 refine wseq ?_
 refine wreg ?_
 refine lv (v := .pointer (some ⟨g2, 0 + 98, none⟩)) rfl (l_fa (j := 0) (i := 0) rfl fl69_5 h9 rfl) rfl ?_
 refine lv (v := s1.v) rfl (r_cl1 (off := 98) (p := 5) (hI.good.ca 0 rfl) rfl sc67 rfl rfl rfl) rfl ?_
 refine lv (v := .int .i64 (a0.Requests.length : Int)) rfl (r_lenS rfl sl67 rfl hs1) rfl ?_
 refine lv (v := .bool (decide ((40 : Int) < (a0.Requests.length : Int)))) rfl (r_gtr rfl rfl rfl rfl) rfl ?_
 refine wend ?_
 refine wthen ?_
 refine wren (fun ρ11 eρ11 => ?_)
 have h12 : opd ρ11 48 (.tmp 1) = .int .i64 a1 := (eρ11 1).trans h8
 have h13 : opd ρ11 48 (.tmp 2) = .pointer (some ⟨g2, 0 + 0, none⟩) := (eρ11 2).trans h9
 have h14 : opd ρ11 48 (.tmp 5) = .int .i64 0 := (eρ11 5).trans h10
 have h15 : opd ρ11 48 (.tmp 13) = .bool (decide ((40 : Int) < (a0.Requests.length : Int))) := eρ11 13
 clear eρ11
 by_cases hc16 : (40 : Int) < (a0.Requests.length : Int)
 ·skip
  rw [if_pos hc16] at hF
  have hbhc16 : (decide ((40 : Int) < (a0.Requests.length : Int))) = true := decide_eq_true hc16
  refine wcT (h15.trans (congrArg Value.bool hbhc16)) ?_
  refine wseq ?_
  refine wreg ?_
  refine lv (v := .bool true) rfl (r_as rfl rfl) rfl ?_
  refine wend ?_
  refine wthen ?_
  refine wren (fun ρ17 eρ17 => ?_)
  have h18 : opd ρ17 48 (.tmp 4) = .bool true := eρ17 4
  clear eρ17
  refine wp_ret ?_
  refine thR ?_
  obtain rfl := Option.some.inj hF
  subst hB
  refine finR (rs := [.tmp 4]) (vs := [.bool true]) rfl ⟨h18, trivial⟩ ?_
  exact hI.fin 0 ⟨rfl, rfl⟩
 ·skip
  rw [if_neg hc16] at hF
  have hbhc16 : (decide ((40 : Int) < (a0.Requests.length : Int))) = false := decide_eq_false hc16
  refine wcF (h15.trans (congrArg Value.bool hbhc16)) ?_
  refine wp_skip ?_
  refine wthen ?_
  refine wseq ?_
  refine wseq ?_
  refine wreg ?_
  refine lv (v := .pointer (some ⟨g2, 0 + 98, none⟩)) rfl (l_fa (j := 0) (i := 0) rfl fl69_5 h13 rfl) rfl ?_
  refine lv (v := s1.v) rfl (r_cl1 (off := 98) (p := 5) (hI.good.ca 0 rfl) rfl sc67 rfl rfl rfl) rfl ?_
  refine lv (v := .int .i64 (a0.Requests.length : Int)) rfl (r_lenS rfl sl67 rfl hs1) rfl ?_
  refine lv (v := .int .i64 0) rfl (r_mv rfl rfl) rfl ?_
  refine wend ?_
  refine wthen ?_
  refine wren (fun ρ19 eρ19 => ?_)
  have h20 : opd ρ19 48 (.tmp 1) = .int .i64 a1 := (eρ19 1).trans h12
  have h21 : opd ρ19 48 (.tmp 5) = .int .i64 0 := (eρ19 5).trans h14
  have h22 : opd ρ19 48 (.tmp 15) = s1.v := eρ19 15
  have h23 : opd ρ19 48 (.tmp 16) = .int .i64 (a0.Requests.length : Int) := eρ19 16
  have h24 : opd ρ19 48 (.tmp 17) = .int .i64 0 := eρ19 17
  clear eρ19
  refine wp_block ?_
  have hbd25 := (hs1).bd
  rw [(hs1).n] at hbd25
  obtain ⟨y25, hy25, hF25⟩ := Option.bind_eq_some_iff.1 hF
  refine wfor (n := 48) a0.Requests.length _ (fun (i25 : Nat) (σ25 : Int) ρ' w' => ∃ (H390 : Hp), Hle H H390 ∧ opd ρ' 48 (.tmp 1) = .int .i64 a1 ∧ opd ρ' 48 (.tmp 5) = .int .i64 σ25 ∧ opd ρ' 48 (.tmp 15) = s1.v ∧ opd ρ' 48 (.tmp 16) = .int .i64 (a0.Requests.length : Int) ∧ opd ρ' 48 (.tmp 17) = .int .i64 (i25 : Int) ∧ Inv B w' H390 []) hy25 ⟨H, (Hle.refl _), h20, h21, h22, h23, h24, (hI.keep [false])⟩ ?_
  rintro k25 i25 σ25 ρ396 w397 hk25 ⟨H390, hleH390, h391, h392, h393, h394, h395, hI⟩ hy25
  refine wseq ?_
  refine wreg ?_
  refine lv (v := .bool (decide ((i25 : Int) < (a0.Requests.length : Int)))) rfl (r_lss rfl h395 h394 rfl) rfl ?_
  refine wend ?_
  refine wthen ?_
  refine wseq ?_
  by_cases hc398 : (i25 : Int) < (a0.Requests.length : Int)
  ·skip
   have hbhc398 : (decide ((i25 : Int) < (a0.Requests.length : Int))) = true := decide_eq_true hc398
   obtain ⟨k25, rfl⟩ : ∃ m, k25 = m + 1 := ⟨k25 - 1, by omega⟩
   obtain ⟨z25, hb25⟩ := forK_body hy25
   have hF := hb25
   have hlt25 : ((i25 : Nat) : Int) + 1 ≤ 9223372036854775807 := by omega
   refine wcT ((show opd _ _ _ = _ from rfl).trans (congrArg Value.bool hbhc398)) ?_
   refine wp_skip ?_
   refine wthen ?_
   refine wren (fun ρ399 eρ399 => ?_)
   have h400 : opd ρ399 48 (.tmp 1) = .int .i64 a1 := (eρ399 1).trans h391
   have h401 : opd ρ399 48 (.tmp 5) = .int .i64 σ25 := (eρ399 5).trans h392
   have h402 : opd ρ399 48 (.tmp 15) = s1.v := (eρ399 15).trans h393
   have h403 : opd ρ399 48 (.tmp 16) = .int .i64 (a0.Requests.length : Int) := (eρ399 16).trans h394
   have h404 : opd ρ399 48 (.tmp 17) = .int .i64 (i25 : Int) := (eρ399 17).trans h395
   clear eρ399
   refine wseq ?_
   refine wp_block ?_
   refine wseq ?_
   refine wreg ?_
   obtain ⟨x405, hx405, hF⟩ := Option.bind_eq_some_iff.1 hF
   obtain ⟨b406, j407, hix408, hil409, hA410⟩ := (hs1.mono hleH390).ixf hx405
   replace hA410 : At H390 b406 j407 [ckI x405.Client, ckI x405.Num, ckI x405.Op.Kind, ckS x405.Op.Key, ckS x405.Op.Val, ckS x405.Op.Old, ckI x405.Op.Change.Kind, ckI x405.Op.Change.Id, ckI x405.Op.Change.New, ckV flB x405.Op.Change.Key.Root, ckI x405.Op.Change.Key.Height] := hA410
   refine lv (v := .pointer (some ⟨b406, j407 + 0, none⟩)) rfl (r_ixt rfl sl67 h402 h404 rfl hix408 hil409) rfl ?_
   refine lv (v := .agg (flat [ckI x405.Client, ckI x405.Num, ckI x405.Op.Kind, ckS x405.Op.Key, ckS x405.Op.Val, ckS x405.Op.Old, ckI x405.Op.Change.Kind, ckI x405.Op.Change.Id, ckI x405.Op.Change.New, ckV flB x405.Op.Change.Key.Root, ckI x405.Op.Change.Key.Height]).toArray) rfl (r_cla (off := 0) (p := 0) (m := 11) (hA410.ca hI.good) rfl ag192 rfl rfl rfl) rfl ?_
   refine le rfl (l_al hI rfl ze192) rfl ?_
   rintro _ w412 ⟨g411, rfl, hI⟩
   replace hI : Inv B w412 H390 [.cb g411 [ckI 0, ckI 0, ckI 0, ckS [], ckS [], ckS [], ckI 0, ckI 0, ckI 0, ckV flB (Vec.rep 32 0), ckI 0] 192] := hI
   refine lst rfl (l_st (off := 0) (p := 0) (m := 11) (new := [ckI x405.Client, ckI x405.Num, ckI x405.Op.Kind, ckS x405.Op.Key, ckS x405.Op.Val, ckS x405.Op.Old, ckI x405.Op.Change.Kind, ckI x405.Op.Change.Id, ckI x405.Op.Change.New, ckV flB x405.Op.Change.Key.Root, ckI x405.Op.Change.Key.Height]) hI 0 rfl rfl sz192 rfl rfl rfl rfl rfl rfl) rfl ?_
   intro w413 hI
   replace hI : Inv B w413 H390 [.cb g411 [ckI x405.Client, ckI x405.Num, ckI x405.Op.Kind, ckS x405.Op.Key, ckS x405.Op.Val, ckS x405.Op.Old, ckI x405.Op.Change.Kind, ckI x405.Op.Change.Id, ckI x405.Op.Change.New, ckV flB x405.Op.Change.Key.Root, ckI x405.Op.Change.Key.Height] 192] := hI
   refine wend ?_
   refine wthen ?_
   refine wren (fun ρ414 eρ414 => ?_)
   have h415 : opd ρ414 48 (.tmp 1) = .int .i64 a1 := (eρ414 1).trans h400
   have h416 : opd ρ414 48 (.tmp 5) = .int .i64 σ25 := (eρ414 5).trans h401
   have h417 : opd ρ414 48 (.tmp 7) = .pointer (some ⟨g411, 0 + 0, none⟩) := eρ414 7
   have h418 : opd ρ414 48 (.tmp 15) = s1.v := (eρ414 15).trans h402
   have h419 : opd ρ414 48 (.tmp 16) = .int .i64 (a0.Requests.length : Int) := (eρ414 16).trans h403
   have h420 : opd ρ414 48 (.tmp 17) = .int .i64 (i25 : Int) := (eρ414 17).trans h404
   clear eρ414
   refine wseq ?_
   refine wreg ?_
   refine lv (v := .int .i64 σ25) rfl (r_mv rfl h416) rfl ?_
   refine lv (v := .int .i64 (wI (σ25 + 100))) rfl (r_addw rfl rfl rfl) rfl ?_
   refine lv (v := .int .i64 (wI (σ25 + 100))) rfl (r_as rfl rfl) rfl ?_
   refine wend ?_
   refine wthen ?_
   refine wren (fun ρ421 eρ421 => ?_)
   have h422 : opd ρ421 48 (.tmp 1) = .int .i64 a1 := (eρ421 1).trans h415
   have h423 : opd ρ421 48 (.tmp 5) = .int .i64 (wI (σ25 + 100)) := eρ421 5
   have h424 : opd ρ421 48 (.tmp 7) = .pointer (some ⟨g411, 0 + 0, none⟩) := (eρ421 7).trans h417
   have h425 : opd ρ421 48 (.tmp 15) = s1.v := (eρ421 15).trans h418
   have h426 : opd ρ421 48 (.tmp 16) = .int .i64 (a0.Requests.length : Int) := (eρ421 16).trans h419
   have h427 : opd ρ421 48 (.tmp 17) = .int .i64 (i25 : Int) := (eρ421 17).trans h420
   clear eρ421
   refine wseq ?_
   refine wreg ?_
   refine lv (v := .pointer (some ⟨g411, 0 + 2, none⟩)) rfl (l_fa (j := 0) (i := 0) rfl fl192_2 h424 rfl) rfl ?_
   refine lv (v := .pointer (some ⟨g411, 0 + 3, none⟩)) rfl (l_fa (j := 0) (i := 2) rfl fl190_1 rfl rfl) rfl ?_
   refine lv (v := strv x405.Op.Key) rfl (r_cl1 (off := 3) (p := 3) (hI.good.ca 0 rfl) rfl sc9 rfl rfl rfl) rfl ?_
   refine lv (v := .pointer (some ⟨g411, 0 + 2, none⟩)) rfl (l_fa (j := 0) (i := 0) rfl fl192_2 h424 rfl) rfl ?_
   refine lv (v := .pointer (some ⟨g411, 0 + 4, none⟩)) rfl (l_fa (j := 0) (i := 2) rfl fl190_2 rfl rfl) rfl ?_
   refine lv (v := strv x405.Op.Val) rfl (r_cl1 (off := 4) (p := 4) (hI.good.ca 0 rfl) rfl sc9 rfl rfl rfl) rfl ?_
   refine lv (v := .pointer (some ⟨g411, 0 + 2, none⟩)) rfl (l_fa (j := 0) (i := 0) rfl fl192_2 h424 rfl) rfl ?_
   refine lv (v := .pointer (some ⟨g411, 0 + 5, none⟩)) rfl (l_fa (j := 0) (i := 2) rfl fl190_3 rfl rfl) rfl ?_
   refine lv (v := strv x405.Op.Old) rfl (r_cl1 (off := 5) (p := 5) (hI.good.ca 0 rfl) rfl sc9 rfl rfl rfl) rfl ?_
   refine lv (v := .agg (flat [ckV flS (⟨[x405.Op.Key, x405.Op.Val, x405.Op.Old], rfl⟩ : Vec (List UInt8) 3)]).toArray) rfl (r_bldv (f := flS) (xs := [x405.Op.Key, x405.Op.Val, x405.Op.Old]) (vs := [strv x405.Op.Key, strv x405.Op.Val, strv x405.Op.Old]) rfl ze193 rfl ar193 rfl (argc rfl (argc rfl (argc rfl rfl))) rfl) rfl ?_
   refine lv (v := .int .i64 0) rfl (r_mv rfl rfl) rfl ?_
   refine wend ?_
   refine wthen ?_
   refine wren (fun ρ428 eρ428 => ?_)
   have h429 : opd ρ428 48 (.tmp 1) = .int .i64 a1 := (eρ428 1).trans h422
   have h430 : opd ρ428 48 (.tmp 5) = .int .i64 (wI (σ25 + 100)) := (eρ428 5).trans h423
   have h431 : opd ρ428 48 (.tmp 15) = s1.v := (eρ428 15).trans h425
   have h432 : opd ρ428 48 (.tmp 16) = .int .i64 (a0.Requests.length : Int) := (eρ428 16).trans h426
   have h433 : opd ρ428 48 (.tmp 17) = .int .i64 (i25 : Int) := (eρ428 17).trans h427
   have h434 : opd ρ428 48 (.tmp 32) = .agg (flat [ckV flS (⟨[x405.Op.Key, x405.Op.Val, x405.Op.Old], rfl⟩ : Vec (List UInt8) 3)]).toArray := eρ428 32
   have h435 : opd ρ428 48 (.tmp 33) = .int .i64 0 := eρ428 33
   clear eρ428
   refine wp_block ?_
   obtain ⟨y436, hy436, hF436⟩ := Option.bind_eq_some_iff.1 hF
   refine wfor (n := 48) 3 _ (fun (i436 : Nat) (σ436 : Int) ρ' w' => ∃ (H521 : Hp), Hle H390 H521 ∧ opd ρ' 48 (.tmp 1) = .int .i64 a1 ∧ opd ρ' 48 (.tmp 5) = .int .i64 σ436 ∧ opd ρ' 48 (.tmp 15) = s1.v ∧ opd ρ' 48 (.tmp 16) = .int .i64 (a0.Requests.length : Int) ∧ opd ρ' 48 (.tmp 17) = .int .i64 (i25 : Int) ∧ opd ρ' 48 (.tmp 32) = .agg (flat [ckV flS (⟨[x405.Op.Key, x405.Op.Val, x405.Op.Old], rfl⟩ : Vec (List UInt8) 3)]).toArray ∧ opd ρ' 48 (.tmp 33) = .int .i64 (i436 : Int) ∧ Inv B w' H521 []) hy436 ⟨H390, (Hle.refl _), h429, h430, h431, h432, h433, h434, h435, (hI.keep [false])⟩ ?_
   rintro k436 i436 σ436 ρ529 w530 hk436 ⟨H521, hleH521, h522, h523, h524, h525, h526, h527, h528, hI⟩ hy436
   refine wseq ?_
   refine wreg ?_
   refine lv (v := .bool (decide ((i436 : Int) < 3))) rfl (r_lss rfl h528 rfl rfl) rfl ?_
   refine wend ?_
   refine wthen ?_
   refine wseq ?_
   by_cases hc531 : (i436 : Int) < 3
   ·skip
    have hbhc531 : (decide ((i436 : Int) < 3)) = true := decide_eq_true hc531
    obtain ⟨k436, rfl⟩ : ∃ m, k436 = m + 1 := ⟨k436 - 1, by omega⟩
    obtain ⟨z436, hb436⟩ := forK_body hy436
    have hF := hb436
    have hlt436 : ((i436 : Nat) : Int) + 1 ≤ 9223372036854775807 := by omega
    refine wcT ((show opd _ _ _ = _ from rfl).trans (congrArg Value.bool hbhc531)) ?_
    refine wp_skip ?_
    refine wthen ?_
    refine wren (fun ρ532 eρ532 => ?_)
    have h533 : opd ρ532 48 (.tmp 1) = .int .i64 a1 := (eρ532 1).trans h522
    have h534 : opd ρ532 48 (.tmp 5) = .int .i64 σ436 := (eρ532 5).trans h523
    have h535 : opd ρ532 48 (.tmp 15) = s1.v := (eρ532 15).trans h524
    have h536 : opd ρ532 48 (.tmp 16) = .int .i64 (a0.Requests.length : Int) := (eρ532 16).trans h525
    have h537 : opd ρ532 48 (.tmp 17) = .int .i64 (i25 : Int) := (eρ532 17).trans h526
    have h538 : opd ρ532 48 (.tmp 32) = .agg (flat [ckV flS (⟨[x405.Op.Key, x405.Op.Val, x405.Op.Old], rfl⟩ : Vec (List UInt8) 3)]).toArray := (eρ532 32).trans h527
    have h539 : opd ρ532 48 (.tmp 33) = .int .i64 (i436 : Int) := (eρ532 33).trans h528
    clear eρ532
    refine wseq ?_
    refine wp_block ?_
    refine wseq ?_
    refine wreg ?_
    obtain ⟨x540, hx540, hF⟩ := Option.bind_eq_some_iff.1 hF
    refine lv (v := strv x540) rfl (r_ixv1 (f := flS) rfl ar193 sc9 h538 h539 rfl hx540 rfl) rfl ?_
    refine lv (v := strv x540) rfl (r_as rfl rfl) rfl ?_
    refine wend ?_
    refine wthen ?_
    refine wren (fun ρ541 eρ541 => ?_)
    have h542 : opd ρ541 48 (.tmp 1) = .int .i64 a1 := (eρ541 1).trans h533
    have h543 : opd ρ541 48 (.tmp 5) = .int .i64 σ436 := (eρ541 5).trans h534
    have h544 : opd ρ541 48 (.tmp 9) = strv x540 := eρ541 9
    have h545 : opd ρ541 48 (.tmp 15) = s1.v := (eρ541 15).trans h535
    have h546 : opd ρ541 48 (.tmp 16) = .int .i64 (a0.Requests.length : Int) := (eρ541 16).trans h536
    have h547 : opd ρ541 48 (.tmp 17) = .int .i64 (i25 : Int) := (eρ541 17).trans h537
    have h548 : opd ρ541 48 (.tmp 32) = .agg (flat [ckV flS (⟨[x405.Op.Key, x405.Op.Val, x405.Op.Old], rfl⟩ : Vec (List UInt8) 3)]).toArray := (eρ541 32).trans h538
    have h549 : opd ρ541 48 (.tmp 33) = .int .i64 (i436 : Int) := (eρ541 33).trans h539
    clear eρ541
    refine wseq ?_
    refine wreg ?_
    refine lv (v := .int .i64 σ436) rfl (r_mv rfl h543) rfl ?_
    refine lv (v := strv x540) rfl (r_mv rfl h544) rfl ?_
    refine lv (v := .int .i64 (x540.length : Int)) rfl (r_lenT rfl un9 rfl) rfl ?_
    refine lv (v := .int .i64 (wI (σ436 + (x540.length : Int)))) rfl (r_addw rfl rfl rfl) rfl ?_
    refine lv (v := .int .i64 (wI (σ436 + (x540.length : Int)))) rfl (r_as rfl rfl) rfl ?_
    refine wend ?_
    refine wthen ?_
    refine wren (fun ρ550 eρ550 => ?_)
    have h551 : opd ρ550 48 (.tmp 1) = .int .i64 a1 := (eρ550 1).trans h542
    have h552 : opd ρ550 48 (.tmp 5) = .int .i64 (wI (σ436 + (x540.length : Int))) := eρ550 5
    have h553 : opd ρ550 48 (.tmp 15) = s1.v := (eρ550 15).trans h545
    have h554 : opd ρ550 48 (.tmp 16) = .int .i64 (a0.Requests.length : Int) := (eρ550 16).trans h546
    have h555 : opd ρ550 48 (.tmp 17) = .int .i64 (i25 : Int) := (eρ550 17).trans h547
    have h556 : opd ρ550 48 (.tmp 32) = .agg (flat [ckV flS (⟨[x405.Op.Key, x405.Op.Val, x405.Op.Old], rfl⟩ : Vec (List UInt8) 3)]).toArray := (eρ550 32).trans h548
    have h557 : opd ρ550 48 (.tmp 33) = .int .i64 (i436 : Int) := (eρ550 33).trans h549
    clear eρ550
    refine wseq ?_
    refine wreg ?_
    refine lv (v := .int .i64 (wI (σ436 + (x540.length : Int)))) rfl (r_mv rfl h552) rfl ?_
    refine lv (v := .int .i64 a1) rfl (r_mv rfl h551) rfl ?_
    refine lv (v := .bool (decide (a1 < (wI (σ436 + (x540.length : Int)))))) rfl (r_gtr rfl rfl rfl rfl) rfl ?_
    refine wend ?_
    refine wthen ?_
    refine wren (fun ρ558 eρ558 => ?_)
    have h559 : opd ρ558 48 (.tmp 1) = .int .i64 a1 := (eρ558 1).trans h551
    have h560 : opd ρ558 48 (.tmp 5) = .int .i64 (wI (σ436 + (x540.length : Int))) := (eρ558 5).trans h552
    have h561 : opd ρ558 48 (.tmp 15) = s1.v := (eρ558 15).trans h553
    have h562 : opd ρ558 48 (.tmp 16) = .int .i64 (a0.Requests.length : Int) := (eρ558 16).trans h554
    have h563 : opd ρ558 48 (.tmp 17) = .int .i64 (i25 : Int) := (eρ558 17).trans h555
    have h564 : opd ρ558 48 (.tmp 32) = .agg (flat [ckV flS (⟨[x405.Op.Key, x405.Op.Val, x405.Op.Old], rfl⟩ : Vec (List UInt8) 3)]).toArray := (eρ558 32).trans h556
    have h565 : opd ρ558 48 (.tmp 33) = .int .i64 (i436 : Int) := (eρ558 33).trans h557
    have h566 : opd ρ558 48 (.tmp 42) = .bool (decide (a1 < (wI (σ436 + (x540.length : Int))))) := eρ558 42
    clear eρ558
    by_cases hc567 : a1 < (wI (σ436 + (x540.length : Int)))
    ·skip
     rw [if_pos hc567] at hF
     have hbhc567 : (decide (a1 < (wI (σ436 + (x540.length : Int))))) = true := decide_eq_true hc567
     refine wcT (h566.trans (congrArg Value.bool hbhc567)) ?_
     refine wseq ?_
     refine wreg ?_
     refine lv (v := .bool true) rfl (r_as rfl rfl) rfl ?_
     refine wend ?_
     refine wthen ?_
     refine wren (fun ρ568 eρ568 => ?_)
     have h569 : opd ρ568 48 (.tmp 4) = .bool true := eρ568 4
     clear eρ568
     refine wp_ret ?_
     refine inR ?_
     refine thR ?_
     refine thR ?_
     obtain ⟨q570, hFn, hzq570⟩ := Option.map_eq_some_iff.1 hF
     clear hF
     obtain rfl := forK_inr hy436 (hb436.trans (congrArg some hzq570.symm))
     have hF0 := hF436
     try dsimp only at hF0
     have hF := hFn.trans hF0
     clear hFn hF0
     refine inR ?_
     refine inR ?_
     refine thR ?_
     refine thR ?_
     obtain ⟨q571, hFn, hzq571⟩ := Option.map_eq_some_iff.1 hF
     clear hF
     obtain rfl := forK_inr hy25 (hb25.trans (congrArg some hzq571.symm))
     have hF0 := hF25
     try dsimp only at hF0
     have hF := hFn.trans hF0
     clear hFn hF0
     refine inR ?_
     refine thR ?_
     obtain rfl := Option.some.inj hF
     subst hB
     refine finR (rs := [.tmp 4]) (vs := [.bool true]) rfl ⟨h569, trivial⟩ ?_
     exact hI.fin 0 ⟨rfl, rfl⟩
    ·skip
     rw [if_neg hc567] at hF
     have hbhc567 : (decide (a1 < (wI (σ436 + (x540.length : Int))))) = false := decide_eq_false hc567
     refine wcF (h566.trans (congrArg Value.bool hbhc567)) ?_
     refine wp_skip ?_
     refine inN ?_
     refine wthen ?_
     refine wreg ?_
     refine lv (v := .int .i64 ((i436 + 1 : Nat) : Int)) rfl (r_addn rfl h565 rfl hlt436) rfl ?_
     refine lv (v := .int .i64 ((i436 + 1 : Nat) : Int)) rfl (r_mv rfl rfl) rfl ?_
     refine wend ?_
     obtain rfl := Option.some.inj hF
     exact ⟨k436, (wI (σ436 + (x540.length : Int))), _, rfl, rfl, ⟨H521, hleH521, h559, h560, h561, h562, h563, h564, rfl, hI⟩, forK_inl hy436 hb436⟩
   ·skip
    have hbhc531 : (decide ((i436 : Int) < 3)) = false := decide_eq_false hc531
    obtain rfl : k436 = 0 := by omega
    obtain rfl := forK_end hy436
    have hF := hF436
    try dsimp only at hF
    refine wcF ((show opd _ _ _ = _ from rfl).trans (congrArg Value.bool hbhc531)) ?_
    refine wp_exit ?_
    refine thE ?_
    refine thE ?_
    refine inX ?_
    refine inN ?_
    refine wthen ?_
    refine wren (fun ρ572 eρ572 => ?_)
    have h573 : opd ρ572 48 (.tmp 1) = .int .i64 a1 := (eρ572 1).trans h522
    have h574 : opd ρ572 48 (.tmp 5) = .int .i64 σ436 := (eρ572 5).trans h523
    have h575 : opd ρ572 48 (.tmp 15) = s1.v := (eρ572 15).trans h524
    have h576 : opd ρ572 48 (.tmp 16) = .int .i64 (a0.Requests.length : Int) := (eρ572 16).trans h525
    have h577 : opd ρ572 48 (.tmp 17) = .int .i64 (i25 : Int) := (eρ572 17).trans h526
    clear eρ572
    refine wreg ?_
    refine lv (v := .int .i64 ((i25 + 1 : Nat) : Int)) rfl (r_addn rfl h577 rfl hlt25) rfl ?_
    refine lv (v := .int .i64 ((i25 + 1 : Nat) : Int)) rfl (r_mv rfl rfl) rfl ?_
    refine wend ?_
    obtain rfl := Option.some.inj hF
    exact ⟨k25, σ436, _, rfl, rfl, ⟨H521, (hleH390.trans hleH521), h573, h574, h575, h576, rfl, hI⟩, forK_inl hy25 hb25⟩
  ·skip
   have hbhc398 : (decide ((i25 : Int) < (a0.Requests.length : Int))) = false := decide_eq_false hc398
   obtain rfl : k25 = 0 := by omega
   obtain rfl := forK_end hy25
   have hF := hF25
   try dsimp only at hF
   refine wcF ((show opd _ _ _ = _ from rfl).trans (congrArg Value.bool hbhc398)) ?_
   refine wp_exit ?_
   refine thE ?_
   refine thE ?_
   refine inX ?_
   refine wthen ?_
   refine wren (fun ρ578 eρ578 => ?_)
   have h579 : opd ρ578 48 (.tmp 1) = .int .i64 a1 := (eρ578 1).trans h391
   have h580 : opd ρ578 48 (.tmp 5) = .int .i64 σ25 := (eρ578 5).trans h392
   clear eρ578
   refine wseq ?_
   refine wreg ?_
   refine lv (v := .int .i64 σ25) rfl (r_mv rfl h580) rfl ?_
   refine lv (v := .int .i64 a1) rfl (r_mv rfl h579) rfl ?_
   refine lv (v := .bool (decide (a1 < σ25))) rfl (r_gtr rfl rfl rfl rfl) rfl ?_
   refine lv (v := .bool (decide (a1 < σ25))) rfl (r_as rfl rfl) rfl ?_
   refine wend ?_
   refine wthen ?_
   refine wren (fun ρ581 eρ581 => ?_)
   have h582 : opd ρ581 48 (.tmp 4) = .bool (decide (a1 < σ25)) := eρ581 4
   clear eρ581
   refine wp_ret ?_
   obtain rfl := Option.some.inj hF
   subst hB
   refine finR (rs := [.tmp 4]) (vs := [.bool (decide (a1 < σ25))]) rfl ⟨h582, trivial⟩ ?_
   exact hI.fin 0 ⟨rfl, rfl⟩
noncomputable def M_wapentakelaw15_great (a0 : Config) (a1 : List Link) : Option (Bool) := (if (20 : Int) < (a0.Members.length : Int) then some true else (if (6 : Int) < (a1.length : Int) then some true else ((forK (fun (i24 : Nat) (σ24 : Unit) => (((a1[i24]?).bind fun x241 => (if (20 : Int) < (x241.Config.Members.length : Int) then ((some true).map Sum.inr) else (if (12 : Int) < (x241.Cert.Votes.length : Int) then ((some true).map Sum.inr) else ((M_wapentakeref12_Great x241.Block 4096).bind fun x278 => (if x278 = true then ((some true).map Sum.inr) else ((forK (fun (i299 : Nat) (σ299 : Unit) => (((x241.Cert.Votes[i299]?).bind fun x381 => (if (200 : Int) < (x381.Sig.Once.Open.length : Int) then ((((some true).map Sum.inr)).map Sum.inr) else (if (200 : Int) < (x381.Sig.Once.Shut.length : Int) then ((((some true).map Sum.inr)).map Sum.inr) else (if (200 : Int) < (x381.Sig.Path.length : Int) then ((((some true).map Sum.inr)).map Sum.inr) else some (.inl ()))))) : Option (Unit ⊕ (Unit ⊕ Bool)))) x241.Cert.Votes.length 0 ()).bind fun y => match y with | .inl _ => some (.inl ()) | .inr r => some r)))))) : Option (Unit ⊕ Bool))) a1.length 0 ()).bind fun y => match y with | .inl _ => some false | .inr r => some r)))
set_option maxHeartbeats 4000000 in
theorem spec_30 {w : World} {H : Hp} {a0 : Config} {a1 : List Link} {s1 : Sv} {s2 : Sv} {r : Bool} (hF : M_wapentakelaw15_great a0 a1 = some r) (hT : Tab H) (hG : Good w H []) (hs1 : Sl (Fl.ty fl_Member) H s1 a0.Members) (hs2 : Sl ty_Link H s2 a1) :
  Fine Tryd.prog 30 [.agg (flat [ckI a0.Epoch, ckL s1]).toArray, s2.v] w H [] (fun H' v L' => v = .bool r ∧ L' = []) := by
 unfold M_wapentakelaw15_great at hF
 unfold Fine
 obtain ⟨B, hB⟩ : ∃ B : Base, B = ⟨w, H, blks []⟩ := ⟨_, rfl⟩
 have hI : Inv B w H [] := by rw [hB]; exact Inv.start hG
 refine enter (n := 72) (args := [.agg (flat [ckI a0.Epoch, ckL s1]).toArray, s2.v]) Tryd.func30 rfl Tryd.ntmps30 (Nat.le_of_ble_eq_true rfl) ?_
 refine wseq ?_
 refine wreg ?_
 refine le rfl (l_box (cks := [ckI a0.Epoch, ckL s1]) hI rfl rfl rfl) rfl ?_
 rintro _ w4 ⟨g3, rfl, hI⟩
 replace hI : Inv B w4 H [.cb g3 [ckI a0.Epoch, ckL s1] 64] := hI
 refine lv (v := .bool false) rfl (r_as rfl rfl) rfl ?_
 refine wend ?_
 refine wthen ?_
 refine wren (fun ρ5 eρ5 => ?_)
 have h6 : opd ρ5 72 (.tmp 1) = s2.v := eρ5 1
 have h7 : opd ρ5 72 (.tmp 2) = .pointer (some ⟨g3, 0 + 0, none⟩) := eρ5 2
 clear eρ5
 refine wseq ?_
 refine wseq ?_
 refine wreg ?_
 refine lv (v := .pointer (some ⟨g3, 0 + 1, none⟩)) rfl (l_fa (j := 0) (i := 0) rfl fl64_1 h7 rfl) rfl ?_
 refine lv (v := s1.v) rfl (r_cl1 (off := 1) (p := 1) (hI.good.ca 0 rfl) rfl sc62 rfl rfl rfl) rfl ?_
 refine lv (v := .int .i64 (a0.Members.length : Int)) rfl (r_lenS rfl sl62 rfl hs1) rfl ?_
 refine lv (v := .bool (decide ((20 : Int) < (a0.Members.length : Int)))) rfl (r_gtr rfl rfl rfl rfl) rfl ?_
 by_cases hc8 : (20 : Int) < (a0.Members.length : Int)
 ·skip
  rw [if_pos hc8] at hF
  have hbhc8 : (decide ((20 : Int) < (a0.Members.length : Int))) = true := decide_eq_true hc8
  refine lv (v := .bool true) rfl (r_mv rfl ((show opd _ _ _ = _ from rfl).trans (congrArg Value.bool hbhc8))) rfl ?_
  with_reducible refine lx (d := 14) (by kernel_rfl) (by kernel_rfl) ?_
  with_reducible refine lx (d := 15) (by kernel_rfl) (by kernel_rfl) ?_
  with_reducible refine lx (d := 16) (by kernel_rfl) (by kernel_rfl) ?_
  refine lv (v := .bool true) rfl (r_pkT rfl rfl rfl) rfl ?_
  refine wend ?_
  refine wthen ?_
  refine wren (fun ρ9 eρ9 => ?_)
  have h10 : opd ρ9 72 (.tmp 1) = s2.v := (eρ9 1).trans h6
  have h11 : opd ρ9 72 (.tmp 17) = .bool true := eρ9 17
  clear eρ9
  refine wcT h11 ?_
  refine wseq ?_
  refine wreg ?_
  refine lv (v := .bool true) rfl (r_as rfl rfl) rfl ?_
  refine wend ?_
  refine wthen ?_
  refine wren (fun ρ12 eρ12 => ?_)
  have h13 : opd ρ12 72 (.tmp 4) = .bool true := eρ12 4
  clear eρ12
  refine wp_ret ?_
  refine thR ?_
  obtain rfl := Option.some.inj hF
  subst hB
  refine finR (rs := [.tmp 4]) (vs := [.bool true]) rfl ⟨h13, trivial⟩ ?_
  exact hI.fin 0 ⟨rfl, rfl⟩
 ·skip
  rw [if_neg hc8] at hF
  have hbhc8 : (decide ((20 : Int) < (a0.Members.length : Int))) = false := decide_eq_false hc8
  refine lv (v := .bool false) rfl (r_mv rfl ((show opd _ _ _ = _ from rfl).trans (congrArg Value.bool hbhc8))) rfl ?_
  refine lv (v := s2.v) rfl (r_mv rfl h6) rfl ?_
  refine lv (v := .int .i64 (a1.length : Int)) rfl (r_lenS rfl sl65 rfl hs2) rfl ?_
  refine lv (v := .bool (decide ((6 : Int) < (a1.length : Int)))) rfl (r_gtr rfl rfl rfl rfl) rfl ?_
  refine lv (v := .bool (decide ((6 : Int) < (a1.length : Int)))) rfl (r_pkF rfl rfl rfl) rfl ?_
  refine wend ?_
  refine wthen ?_
  refine wren (fun ρ14 eρ14 => ?_)
  have h15 : opd ρ14 72 (.tmp 1) = s2.v := (eρ14 1).trans h6
  have h16 : opd ρ14 72 (.tmp 17) = .bool (decide ((6 : Int) < (a1.length : Int))) := eρ14 17
  clear eρ14
  by_cases hc17 : (6 : Int) < (a1.length : Int)
  ·skip
   rw [if_pos hc17] at hF
   have hbhc17 : (decide ((6 : Int) < (a1.length : Int))) = true := decide_eq_true hc17
   refine wcT (h16.trans (congrArg Value.bool hbhc17)) ?_
   refine wseq ?_
   refine wreg ?_
   refine lv (v := .bool true) rfl (r_as rfl rfl) rfl ?_
   refine wend ?_
   refine wthen ?_
   refine wren (fun ρ18 eρ18 => ?_)
   have h19 : opd ρ18 72 (.tmp 4) = .bool true := eρ18 4
   clear eρ18
   refine wp_ret ?_
   refine thR ?_
   obtain rfl := Option.some.inj hF
   subst hB
   refine finR (rs := [.tmp 4]) (vs := [.bool true]) rfl ⟨h19, trivial⟩ ?_
   exact hI.fin 0 ⟨rfl, rfl⟩
  ·skip
   rw [if_neg hc17] at hF
   have hbhc17 : (decide ((6 : Int) < (a1.length : Int))) = false := decide_eq_false hc17
   refine wcF (h16.trans (congrArg Value.bool hbhc17)) ?_
   refine wp_skip ?_
   refine wthen ?_
   refine wseq ?_
   refine wseq ?_
   refine wreg ?_
   refine lv (v := s2.v) rfl (r_mv rfl h15) rfl ?_
   refine lv (v := .int .i64 (a1.length : Int)) rfl (r_lenS rfl sl65 rfl hs2) rfl ?_
   refine lv (v := .int .i64 0) rfl (r_mv rfl rfl) rfl ?_
   refine wend ?_
   refine wthen ?_
   refine wren (fun ρ20 eρ20 => ?_)
   have h21 : opd ρ20 72 (.tmp 18) = s2.v := eρ20 18
   have h22 : opd ρ20 72 (.tmp 19) = .int .i64 (a1.length : Int) := eρ20 19
   have h23 : opd ρ20 72 (.tmp 20) = .int .i64 0 := eρ20 20
   clear eρ20
   refine wp_block ?_
   have hbd24 := (hs2).bd
   rw [(hs2).n] at hbd24
   obtain ⟨y24, hy24, hF24⟩ := Option.bind_eq_some_iff.1 hF
   refine wfor (n := 72) a1.length _ (fun (i24 : Nat) (σ24 : Unit) ρ' w' => ∃ (H230 : Hp), Hle H H230 ∧ opd ρ' 72 (.tmp 18) = s2.v ∧ opd ρ' 72 (.tmp 19) = .int .i64 (a1.length : Int) ∧ opd ρ' 72 (.tmp 20) = .int .i64 (i24 : Int) ∧ Inv B w' H230 []) hy24 ⟨H, (Hle.refl _), h21, h22, h23, (hI.keep [false])⟩ ?_
   rintro k24 i24 σ24 ρ234 w235 hk24 ⟨H230, hleH230, h231, h232, h233, hI⟩ hy24
   refine wseq ?_
   refine wreg ?_
   refine lv (v := .bool (decide ((i24 : Int) < (a1.length : Int)))) rfl (r_lss rfl h233 h232 rfl) rfl ?_
   refine wend ?_
   refine wthen ?_
   refine wseq ?_
   by_cases hc236 : (i24 : Int) < (a1.length : Int)
   ·skip
    have hbhc236 : (decide ((i24 : Int) < (a1.length : Int))) = true := decide_eq_true hc236
    obtain ⟨k24, rfl⟩ : ∃ m, k24 = m + 1 := ⟨k24 - 1, by omega⟩
    obtain ⟨z24, hb24⟩ := forK_body hy24
    have hF := hb24
    have hlt24 : ((i24 : Nat) : Int) + 1 ≤ 9223372036854775807 := by omega
    refine wcT ((show opd _ _ _ = _ from rfl).trans (congrArg Value.bool hbhc236)) ?_
    refine wp_skip ?_
    refine wthen ?_
    refine wren (fun ρ237 eρ237 => ?_)
    have h238 : opd ρ237 72 (.tmp 18) = s2.v := (eρ237 18).trans h231
    have h239 : opd ρ237 72 (.tmp 19) = .int .i64 (a1.length : Int) := (eρ237 19).trans h232
    have h240 : opd ρ237 72 (.tmp 20) = .int .i64 (i24 : Int) := (eρ237 20).trans h233
    clear eρ237
    refine wseq ?_
    refine wp_block ?_
    refine wseq ?_
    refine wreg ?_
    obtain ⟨x241, hx241, hF⟩ := Option.bind_eq_some_iff.1 hF
    obtain ⟨b242, j243, _, hix244, hil245, ⟨s247, s248, s249, rfl, hs247, hs248, hs249⟩, hA246⟩ := (hs2.mono hleH230).ix hx241
    replace hA246 : At H230 b242 j243 [ckI x241.Block.Epoch, ckI x241.Block.Height, ckV flB x241.Block.Prev, ckV flB x241.Block.State, ckV flB x241.Block.Next, ckL s247, ckI x241.Cert.Round, ckL s248, ckI x241.Config.Epoch, ckL s249] := hA246
    refine lv (v := .pointer (some ⟨b242, j243 + 0, none⟩)) rfl (r_ixt rfl sl65 h238 h240 rfl hix244 hil245) rfl ?_
    refine lv (v := .agg (flat [ckI x241.Block.Epoch, ckI x241.Block.Height, ckV flB x241.Block.Prev, ckV flB x241.Block.State, ckV flB x241.Block.Next, ckL s247, ckI x241.Cert.Round, ckL s248, ckI x241.Config.Epoch, ckL s249]).toArray) rfl (r_cla (off := 0) (p := 0) (m := 10) (hA246.ca hI.good) rfl ag73 rfl rfl rfl) rfl ?_
    refine le rfl (l_al hI rfl ze73) rfl ?_
    rintro _ w251 ⟨g250, rfl, hI⟩
    replace hI : Inv B w251 H230 [.cb g250 [ckI 0, ckI 0, ckV flB (Vec.rep 32 0), ckV flB (Vec.rep 32 0), ckV flB (Vec.rep 32 0), ckL Sv.nil, ckI 0, ckL Sv.nil, ckI 0, ckL Sv.nil] 73] := hI
    refine lst rfl (l_st (off := 0) (p := 0) (m := 10) (new := [ckI x241.Block.Epoch, ckI x241.Block.Height, ckV flB x241.Block.Prev, ckV flB x241.Block.State, ckV flB x241.Block.Next, ckL s247, ckI x241.Cert.Round, ckL s248, ckI x241.Config.Epoch, ckL s249]) hI 0 rfl rfl sz73 rfl rfl rfl rfl rfl rfl) rfl ?_
    intro w252 hI
    replace hI : Inv B w252 H230 [.cb g250 [ckI x241.Block.Epoch, ckI x241.Block.Height, ckV flB x241.Block.Prev, ckV flB x241.Block.State, ckV flB x241.Block.Next, ckL s247, ckI x241.Cert.Round, ckL s248, ckI x241.Config.Epoch, ckL s249] 73] := hI
    refine wend ?_
    refine wthen ?_
    refine wren (fun ρ253 eρ253 => ?_)
    have h254 : opd ρ253 72 (.tmp 6) = .pointer (some ⟨g250, 0 + 0, none⟩) := eρ253 6
    have h255 : opd ρ253 72 (.tmp 18) = s2.v := (eρ253 18).trans h238
    have h256 : opd ρ253 72 (.tmp 19) = .int .i64 (a1.length : Int) := (eρ253 19).trans h239
    have h257 : opd ρ253 72 (.tmp 20) = .int .i64 (i24 : Int) := (eρ253 20).trans h240
    clear eρ253
    refine wseq ?_
    refine wseq ?_
    refine wreg ?_
    refine lv (v := .pointer (some ⟨g250, 0 + 101, none⟩)) rfl (l_fa (j := 0) (i := 0) rfl fl73_2 h254 rfl) rfl ?_
    refine lv (v := .pointer (some ⟨g250, 0 + 102, none⟩)) rfl (l_fa (j := 0) (i := 101) rfl fl64_1 rfl rfl) rfl ?_
    refine lv (v := s249.v) rfl (r_cl1 (off := 102) (p := 9) (hI.good.ca 0 rfl) rfl sc62 rfl rfl rfl) rfl ?_
    refine lv (v := .int .i64 (x241.Config.Members.length : Int)) rfl (r_lenS rfl sl62 rfl hs249) rfl ?_
    refine lv (v := .bool (decide ((20 : Int) < (x241.Config.Members.length : Int)))) rfl (r_gtr rfl rfl rfl rfl) rfl ?_
    by_cases hc258 : (20 : Int) < (x241.Config.Members.length : Int)
    ·skip
     rw [if_pos hc258] at hF
     have hbhc258 : (decide ((20 : Int) < (x241.Config.Members.length : Int))) = true := decide_eq_true hc258
     refine lv (v := .bool true) rfl (r_mv rfl ((show opd _ _ _ = _ from rfl).trans (congrArg Value.bool hbhc258))) rfl ?_
     with_reducible refine lx (d := 30) (by kernel_rfl) (by kernel_rfl) ?_
     with_reducible refine lx (d := 31) (by kernel_rfl) (by kernel_rfl) ?_
     with_reducible refine lx (d := 32) (by kernel_rfl) (by kernel_rfl) ?_
     with_reducible refine lx (d := 33) (by kernel_rfl) (by kernel_rfl) ?_
     with_reducible refine lx (d := 34) (by kernel_rfl) (by kernel_rfl) ?_
     refine lv (v := .bool true) rfl (r_pkT rfl rfl rfl) rfl ?_
     refine lv (v := .bool true) rfl (r_mv rfl rfl) rfl ?_
     with_reducible refine lx (d := 37) (by kernel_rfl) (by kernel_rfl) ?_
     with_reducible refine lx (d := 38) (by kernel_rfl) (by kernel_rfl) ?_
     with_reducible refine lx (d := 39) (by kernel_rfl) (by kernel_rfl) ?_
     refine lv (v := .bool true) rfl (r_pkT rfl rfl rfl) rfl ?_
     refine wend ?_
     refine wthen ?_
     refine wren (fun ρ259 eρ259 => ?_)
     have h260 : opd ρ259 72 (.tmp 6) = .pointer (some ⟨g250, 0 + 0, none⟩) := (eρ259 6).trans h254
     have h261 : opd ρ259 72 (.tmp 18) = s2.v := (eρ259 18).trans h255
     have h262 : opd ρ259 72 (.tmp 19) = .int .i64 (a1.length : Int) := (eρ259 19).trans h256
     have h263 : opd ρ259 72 (.tmp 20) = .int .i64 (i24 : Int) := (eρ259 20).trans h257
     have h264 : opd ρ259 72 (.tmp 40) = .bool true := eρ259 40
     clear eρ259
     refine wcT h264 ?_
     refine wseq ?_
     refine wreg ?_
     refine lv (v := .bool true) rfl (r_as rfl rfl) rfl ?_
     refine wend ?_
     refine wthen ?_
     refine wren (fun ρ265 eρ265 => ?_)
     have h266 : opd ρ265 72 (.tmp 4) = .bool true := eρ265 4
     clear eρ265
     refine wp_ret ?_
     refine thR ?_
     refine inR ?_
     refine thR ?_
     refine thR ?_
     obtain ⟨q267, hFn, hzq267⟩ := Option.map_eq_some_iff.1 hF
     clear hF
     obtain rfl := forK_inr hy24 (hb24.trans (congrArg some hzq267.symm))
     have hF0 := hF24
     try dsimp only at hF0
     have hF := hFn.trans hF0
     clear hFn hF0
     refine inR ?_
     refine thR ?_
     obtain rfl := Option.some.inj hF
     subst hB
     refine finR (rs := [.tmp 4]) (vs := [.bool true]) rfl ⟨h266, trivial⟩ ?_
     exact hI.fin 0 ⟨rfl, rfl⟩
    ·skip
     rw [if_neg hc258] at hF
     have hbhc258 : (decide ((20 : Int) < (x241.Config.Members.length : Int))) = false := decide_eq_false hc258
     refine lv (v := .bool false) rfl (r_mv rfl ((show opd _ _ _ = _ from rfl).trans (congrArg Value.bool hbhc258))) rfl ?_
     refine lv (v := .pointer (some ⟨g250, 0 + 99, none⟩)) rfl (l_fa (j := 0) (i := 0) rfl fl73_1 h254 rfl) rfl ?_
     refine lv (v := .pointer (some ⟨g250, 0 + 100, none⟩)) rfl (l_fa (j := 0) (i := 99) rfl fl71_1 rfl rfl) rfl ?_
     refine lv (v := s248.v) rfl (r_cl1 (off := 100) (p := 7) (hI.good.ca 0 rfl) rfl sc22 rfl rfl rfl) rfl ?_
     refine lv (v := .int .i64 (x241.Cert.Votes.length : Int)) rfl (r_lenS rfl sl22 rfl hs248) rfl ?_
     refine lv (v := .bool (decide ((12 : Int) < (x241.Cert.Votes.length : Int)))) rfl (r_gtr rfl rfl rfl rfl) rfl ?_
     refine lv (v := .bool (decide ((12 : Int) < (x241.Cert.Votes.length : Int)))) rfl (r_pkF rfl rfl rfl) rfl ?_
     by_cases hc268 : (12 : Int) < (x241.Cert.Votes.length : Int)
     ·skip
      rw [if_pos hc268] at hF
      have hbhc268 : (decide ((12 : Int) < (x241.Cert.Votes.length : Int))) = true := decide_eq_true hc268
      refine lv (v := .bool true) rfl (r_mv rfl ((show opd _ _ _ = _ from rfl).trans (congrArg Value.bool hbhc268))) rfl ?_
      with_reducible refine lx (d := 37) (by kernel_rfl) (by kernel_rfl) ?_
      with_reducible refine lx (d := 38) (by kernel_rfl) (by kernel_rfl) ?_
      with_reducible refine lx (d := 39) (by kernel_rfl) (by kernel_rfl) ?_
      refine lv (v := .bool true) rfl (r_pkT rfl rfl rfl) rfl ?_
      refine wend ?_
      refine wthen ?_
      refine wren (fun ρ269 eρ269 => ?_)
      have h270 : opd ρ269 72 (.tmp 6) = .pointer (some ⟨g250, 0 + 0, none⟩) := (eρ269 6).trans h254
      have h271 : opd ρ269 72 (.tmp 18) = s2.v := (eρ269 18).trans h255
      have h272 : opd ρ269 72 (.tmp 19) = .int .i64 (a1.length : Int) := (eρ269 19).trans h256
      have h273 : opd ρ269 72 (.tmp 20) = .int .i64 (i24 : Int) := (eρ269 20).trans h257
      have h274 : opd ρ269 72 (.tmp 40) = .bool true := eρ269 40
      clear eρ269
      refine wcT h274 ?_
      refine wseq ?_
      refine wreg ?_
      refine lv (v := .bool true) rfl (r_as rfl rfl) rfl ?_
      refine wend ?_
      refine wthen ?_
      refine wren (fun ρ275 eρ275 => ?_)
      have h276 : opd ρ275 72 (.tmp 4) = .bool true := eρ275 4
      clear eρ275
      refine wp_ret ?_
      refine thR ?_
      refine inR ?_
      refine thR ?_
      refine thR ?_
      obtain ⟨q277, hFn, hzq277⟩ := Option.map_eq_some_iff.1 hF
      clear hF
      obtain rfl := forK_inr hy24 (hb24.trans (congrArg some hzq277.symm))
      have hF0 := hF24
      try dsimp only at hF0
      have hF := hFn.trans hF0
      clear hFn hF0
      refine inR ?_
      refine thR ?_
      obtain rfl := Option.some.inj hF
      subst hB
      refine finR (rs := [.tmp 4]) (vs := [.bool true]) rfl ⟨h276, trivial⟩ ?_
      exact hI.fin 0 ⟨rfl, rfl⟩
     ·skip
      rw [if_neg hc268] at hF
      have hbhc268 : (decide ((12 : Int) < (x241.Cert.Votes.length : Int))) = false := decide_eq_false hc268
      refine lv (v := .bool false) rfl (r_mv rfl ((show opd _ _ _ = _ from rfl).trans (congrArg Value.bool hbhc268))) rfl ?_
      refine lv (v := .pointer (some ⟨g250, 0 + 0, none⟩)) rfl (l_fa (j := 0) (i := 0) rfl fl73_0 h254 rfl) rfl ?_
      refine lv (v := .agg (flat [ckI x241.Block.Epoch, ckI x241.Block.Height, ckV flB x241.Block.Prev, ckV flB x241.Block.State, ckV flB x241.Block.Next, ckL s247]).toArray) rfl (r_cla (off := 0) (p := 0) (m := 6) (hI.good.ca 0 rfl) rfl ag69 rfl rfl rfl) rfl ?_
      obtain ⟨x278, hx278, hF⟩ := Option.bind_eq_some_iff.1 hF
      have hsp281 := spec_64 hx278 (hT.mono hleH230) (hI.part 0) hs247
      refine fc ([]) ([.cb g250 [ckI x241.Block.Epoch, ckI x241.Block.Height, ckV flB x241.Block.Prev, ckV flB x241.Block.State, ckV flB x241.Block.Next, ckL s247, ckI x241.Cert.Round, ckL s248, ckI x241.Config.Epoch, ckL s249] 73]) (args := [.agg (flat [ckI x241.Block.Epoch, ckI x241.Block.Height, ckV flB x241.Block.Prev, ckV flB x241.Block.State, ckV flB x241.Block.Next, ckL s247]).toArray, .int .i64 4096]) fc64 rfl rfl rfl hI (argc rfl (argc rfl rfl)) (hsp281) ?_
      rintro _ H279 _ w280 ⟨rfl, rfl⟩ hleH279 hI
      replace hI : Inv B w280 H279 [.cb g250 _ 73] := hI
      refine lv (v := .bool x278) rfl (r_pkF rfl rfl rfl) rfl ?_
      refine wend ?_
      refine wthen ?_
      refine wren (fun ρ282 eρ282 => ?_)
      have h283 : opd ρ282 72 (.tmp 6) = .pointer (some ⟨g250, 0 + 0, none⟩) := (eρ282 6).trans h254
      have h284 : opd ρ282 72 (.tmp 18) = s2.v := (eρ282 18).trans h255
      have h285 : opd ρ282 72 (.tmp 19) = .int .i64 (a1.length : Int) := (eρ282 19).trans h256
      have h286 : opd ρ282 72 (.tmp 20) = .int .i64 (i24 : Int) := (eρ282 20).trans h257
      have h287 : opd ρ282 72 (.tmp 40) = .bool x278 := eρ282 40
      clear eρ282
      by_cases hc288 : x278 = true
      ·skip
       rw [if_pos hc288] at hF
       have hbhc288 : x278 = true := hc288
       refine wcT (h287.trans (congrArg Value.bool hbhc288)) ?_
       refine wseq ?_
       refine wreg ?_
       refine lv (v := .bool true) rfl (r_as rfl rfl) rfl ?_
       refine wend ?_
       refine wthen ?_
       refine wren (fun ρ289 eρ289 => ?_)
       have h290 : opd ρ289 72 (.tmp 4) = .bool true := eρ289 4
       clear eρ289
       refine wp_ret ?_
       refine thR ?_
       refine inR ?_
       refine thR ?_
       refine thR ?_
       obtain ⟨q291, hFn, hzq291⟩ := Option.map_eq_some_iff.1 hF
       clear hF
       obtain rfl := forK_inr hy24 (hb24.trans (congrArg some hzq291.symm))
       have hF0 := hF24
       try dsimp only at hF0
       have hF := hFn.trans hF0
       clear hFn hF0
       refine inR ?_
       refine thR ?_
       obtain rfl := Option.some.inj hF
       subst hB
       refine finR (rs := [.tmp 4]) (vs := [.bool true]) rfl ⟨h290, trivial⟩ ?_
       exact hI.fin 0 ⟨rfl, rfl⟩
      ·skip
       rw [if_neg hc288] at hF
       have hbhc288 : x278 = false := (Bool.eq_false_iff.2 hc288)
       refine wcF (h287.trans (congrArg Value.bool hbhc288)) ?_
       refine wp_skip ?_
       refine wthen ?_
       refine wseq ?_
       refine wreg ?_
       refine lv (v := .pointer (some ⟨g250, 0 + 99, none⟩)) rfl (l_fa (j := 0) (i := 0) rfl fl73_1 h283 rfl) rfl ?_
       refine lv (v := .pointer (some ⟨g250, 0 + 100, none⟩)) rfl (l_fa (j := 0) (i := 99) rfl fl71_1 rfl rfl) rfl ?_
       refine lv (v := s248.v) rfl (r_cl1 (off := 100) (p := 7) (hI.good.ca 0 rfl) rfl sc22 rfl rfl rfl) rfl ?_
       refine lv (v := .int .i64 (x241.Cert.Votes.length : Int)) rfl (r_lenS rfl sl22 rfl (hs248.mono hleH279)) rfl ?_
       refine lv (v := .int .i64 0) rfl (r_mv rfl rfl) rfl ?_
       refine wend ?_
       refine wthen ?_
       refine wren (fun ρ292 eρ292 => ?_)
       have h293 : opd ρ292 72 (.tmp 18) = s2.v := (eρ292 18).trans h284
       have h294 : opd ρ292 72 (.tmp 19) = .int .i64 (a1.length : Int) := (eρ292 19).trans h285
       have h295 : opd ρ292 72 (.tmp 20) = .int .i64 (i24 : Int) := (eρ292 20).trans h286
       have h296 : opd ρ292 72 (.tmp 43) = s248.v := eρ292 43
       have h297 : opd ρ292 72 (.tmp 44) = .int .i64 (x241.Cert.Votes.length : Int) := eρ292 44
       have h298 : opd ρ292 72 (.tmp 45) = .int .i64 0 := eρ292 45
       clear eρ292
       refine wp_block ?_
       have hbd299 := ((hs248.mono hleH279)).bd
       rw [((hs248.mono hleH279)).n] at hbd299
       obtain ⟨y299, hy299, hF299⟩ := Option.bind_eq_some_iff.1 hF
       refine wfor (n := 72) x241.Cert.Votes.length _ (fun (i299 : Nat) (σ299 : Unit) ρ' w' => ∃ (H364 : Hp), Hle H279 H364 ∧ opd ρ' 72 (.tmp 18) = s2.v ∧ opd ρ' 72 (.tmp 19) = .int .i64 (a1.length : Int) ∧ opd ρ' 72 (.tmp 20) = .int .i64 (i24 : Int) ∧ opd ρ' 72 (.tmp 43) = s248.v ∧ opd ρ' 72 (.tmp 44) = .int .i64 (x241.Cert.Votes.length : Int) ∧ opd ρ' 72 (.tmp 45) = .int .i64 (i299 : Int) ∧ Inv B w' H364 []) hy299 ⟨H279, (Hle.refl _), h293, h294, h295, h296, h297, h298, (hI.keep [false])⟩ ?_
       rintro k299 i299 σ299 ρ371 w372 hk299 ⟨H364, hleH364, h365, h366, h367, h368, h369, h370, hI⟩ hy299
       refine wseq ?_
       refine wreg ?_
       refine lv (v := .bool (decide ((i299 : Int) < (x241.Cert.Votes.length : Int)))) rfl (r_lss rfl h370 h369 rfl) rfl ?_
       refine wend ?_
       refine wthen ?_
       refine wseq ?_
       by_cases hc373 : (i299 : Int) < (x241.Cert.Votes.length : Int)
       ·skip
        have hbhc373 : (decide ((i299 : Int) < (x241.Cert.Votes.length : Int))) = true := decide_eq_true hc373
        obtain ⟨k299, rfl⟩ : ∃ m, k299 = m + 1 := ⟨k299 - 1, by omega⟩
        obtain ⟨z299, hb299⟩ := forK_body hy299
        have hF := hb299
        have hlt299 : ((i299 : Nat) : Int) + 1 ≤ 9223372036854775807 := by omega
        refine wcT ((show opd _ _ _ = _ from rfl).trans (congrArg Value.bool hbhc373)) ?_
        refine wp_skip ?_
        refine wthen ?_
        refine wren (fun ρ374 eρ374 => ?_)
        have h375 : opd ρ374 72 (.tmp 18) = s2.v := (eρ374 18).trans h365
        have h376 : opd ρ374 72 (.tmp 19) = .int .i64 (a1.length : Int) := (eρ374 19).trans h366
        have h377 : opd ρ374 72 (.tmp 20) = .int .i64 (i24 : Int) := (eρ374 20).trans h367
        have h378 : opd ρ374 72 (.tmp 43) = s248.v := (eρ374 43).trans h368
        have h379 : opd ρ374 72 (.tmp 44) = .int .i64 (x241.Cert.Votes.length : Int) := (eρ374 44).trans h369
        have h380 : opd ρ374 72 (.tmp 45) = .int .i64 (i299 : Int) := (eρ374 45).trans h370
        clear eρ374
        refine wseq ?_
        refine wp_block ?_
        refine wseq ?_
        refine wreg ?_
        obtain ⟨x381, hx381, hF⟩ := Option.bind_eq_some_iff.1 hF
        obtain ⟨b382, j383, _, hix384, hil385, ⟨s387, s388, s389, rfl, hs387, hs388, hs389⟩, hA386⟩ := ((hs248.mono hleH279).mono hleH364).ix hx381
        replace hA386 : At H364 b382 j383 [ckI x381.Kind, ckI x381.Epoch, ckI x381.Height, ckI x381.Round, ckV flB x381.Digest, ckI x381.From, ckI x381.Sig.Leaf, ckL s387, ckL s388, ckL s389] := hA386
        refine lv (v := .pointer (some ⟨b382, j383 + 0, none⟩)) rfl (r_ixt rfl sl22 h378 h380 rfl hix384 hil385) rfl ?_
        refine lv (v := .agg (flat [ckI x381.Kind, ckI x381.Epoch, ckI x381.Height, ckI x381.Round, ckV flB x381.Digest, ckI x381.From, ckI x381.Sig.Leaf, ckL s387, ckL s388, ckL s389]).toArray) rfl (r_cla (off := 0) (p := 0) (m := 10) (hA386.ca hI.good) rfl ag35 rfl rfl rfl) rfl ?_
        refine le rfl (l_al hI rfl ze35) rfl ?_
        rintro _ w391 ⟨g390, rfl, hI⟩
        replace hI : Inv B w391 H364 [.cb g390 [ckI 0, ckI 0, ckI 0, ckI 0, ckV flB (Vec.rep 32 0), ckI 0, ckI 0, ckL Sv.nil, ckL Sv.nil, ckL Sv.nil] 35] := hI
        refine lst rfl (l_st (off := 0) (p := 0) (m := 10) (new := [ckI x381.Kind, ckI x381.Epoch, ckI x381.Height, ckI x381.Round, ckV flB x381.Digest, ckI x381.From, ckI x381.Sig.Leaf, ckL s387, ckL s388, ckL s389]) hI 0 rfl rfl sz35 rfl rfl rfl rfl rfl rfl) rfl ?_
        intro w392 hI
        replace hI : Inv B w392 H364 [.cb g390 [ckI x381.Kind, ckI x381.Epoch, ckI x381.Height, ckI x381.Round, ckV flB x381.Digest, ckI x381.From, ckI x381.Sig.Leaf, ckL s387, ckL s388, ckL s389] 35] := hI
        refine wend ?_
        refine wthen ?_
        refine wren (fun ρ393 eρ393 => ?_)
        have h394 : opd ρ393 72 (.tmp 8) = .pointer (some ⟨g390, 0 + 0, none⟩) := eρ393 8
        have h395 : opd ρ393 72 (.tmp 18) = s2.v := (eρ393 18).trans h375
        have h396 : opd ρ393 72 (.tmp 19) = .int .i64 (a1.length : Int) := (eρ393 19).trans h376
        have h397 : opd ρ393 72 (.tmp 20) = .int .i64 (i24 : Int) := (eρ393 20).trans h377
        have h398 : opd ρ393 72 (.tmp 43) = s248.v := (eρ393 43).trans h378
        have h399 : opd ρ393 72 (.tmp 44) = .int .i64 (x241.Cert.Votes.length : Int) := (eρ393 44).trans h379
        have h400 : opd ρ393 72 (.tmp 45) = .int .i64 (i299 : Int) := (eρ393 45).trans h380
        clear eρ393
        refine wseq ?_
        refine wreg ?_
        refine lv (v := .pointer (some ⟨g390, 0 + 37, none⟩)) rfl (l_fa (j := 0) (i := 0) rfl fl35_6 h394 rfl) rfl ?_
        refine lv (v := .pointer (some ⟨g390, 0 + 38, none⟩)) rfl (l_fa (j := 0) (i := 37) rfl fl33_1 rfl rfl) rfl ?_
        refine lv (v := .pointer (some ⟨g390, 0 + 38, none⟩)) rfl (l_fa (j := 0) (i := 38) rfl fl31_0 rfl rfl) rfl ?_
        refine lv (v := s387.v) rfl (r_cl1 (off := 38) (p := 7) (hI.good.ca 0 rfl) rfl sc27 rfl rfl rfl) rfl ?_
        refine lv (v := .int .i64 (x381.Sig.Once.Open.length : Int)) rfl (r_lenS rfl sl27 rfl hs387) rfl ?_
        refine lv (v := .bool (decide ((200 : Int) < (x381.Sig.Once.Open.length : Int)))) rfl (r_gtr rfl rfl rfl rfl) rfl ?_
        by_cases hc401 : (200 : Int) < (x381.Sig.Once.Open.length : Int)
        ·skip
         rw [if_pos hc401] at hF
         have hbhc401 : (decide ((200 : Int) < (x381.Sig.Once.Open.length : Int))) = true := decide_eq_true hc401
         refine lv (v := .bool true) rfl (r_mv rfl ((show opd _ _ _ = _ from rfl).trans (congrArg Value.bool hbhc401))) rfl ?_
         with_reducible refine lx (d := 56) (by kernel_rfl) (by kernel_rfl) ?_
         with_reducible refine lx (d := 57) (by kernel_rfl) (by kernel_rfl) ?_
         with_reducible refine lx (d := 58) (by kernel_rfl) (by kernel_rfl) ?_
         with_reducible refine lx (d := 59) (by kernel_rfl) (by kernel_rfl) ?_
         with_reducible refine lx (d := 60) (by kernel_rfl) (by kernel_rfl) ?_
         with_reducible refine lx (d := 61) (by kernel_rfl) (by kernel_rfl) ?_
         refine lv (v := .bool true) rfl (r_pkT rfl rfl rfl) rfl ?_
         refine lv (v := .bool true) rfl (r_mv rfl rfl) rfl ?_
         with_reducible refine lx (d := 64) (by kernel_rfl) (by kernel_rfl) ?_
         with_reducible refine lx (d := 65) (by kernel_rfl) (by kernel_rfl) ?_
         with_reducible refine lx (d := 66) (by kernel_rfl) (by kernel_rfl) ?_
         with_reducible refine lx (d := 67) (by kernel_rfl) (by kernel_rfl) ?_
         with_reducible refine lx (d := 68) (by kernel_rfl) (by kernel_rfl) ?_
         refine lv (v := .bool true) rfl (r_pkT rfl rfl rfl) rfl ?_
         refine wend ?_
         refine wthen ?_
         refine wren (fun ρ402 eρ402 => ?_)
         have h403 : opd ρ402 72 (.tmp 18) = s2.v := (eρ402 18).trans h395
         have h404 : opd ρ402 72 (.tmp 19) = .int .i64 (a1.length : Int) := (eρ402 19).trans h396
         have h405 : opd ρ402 72 (.tmp 20) = .int .i64 (i24 : Int) := (eρ402 20).trans h397
         have h406 : opd ρ402 72 (.tmp 43) = s248.v := (eρ402 43).trans h398
         have h407 : opd ρ402 72 (.tmp 44) = .int .i64 (x241.Cert.Votes.length : Int) := (eρ402 44).trans h399
         have h408 : opd ρ402 72 (.tmp 45) = .int .i64 (i299 : Int) := (eρ402 45).trans h400
         have h409 : opd ρ402 72 (.tmp 69) = .bool true := eρ402 69
         clear eρ402
         refine wcT h409 ?_
         refine wseq ?_
         refine wreg ?_
         refine lv (v := .bool true) rfl (r_as rfl rfl) rfl ?_
         refine wend ?_
         refine wthen ?_
         refine wren (fun ρ410 eρ410 => ?_)
         have h411 : opd ρ410 72 (.tmp 4) = .bool true := eρ410 4
         clear eρ410
         refine wp_ret ?_
         refine inR ?_
         refine thR ?_
         refine thR ?_
         obtain ⟨q412, hFn, hzq412⟩ := Option.map_eq_some_iff.1 hF
         clear hF
         obtain rfl := forK_inr hy299 (hb299.trans (congrArg some hzq412.symm))
         have hF0 := hF299
         try dsimp only at hF0
         have hF := hFn.trans hF0
         clear hFn hF0
         refine inR ?_
         refine inR ?_
         refine thR ?_
         refine thR ?_
         obtain ⟨q413, hFn, hzq413⟩ := Option.map_eq_some_iff.1 hF
         clear hF
         obtain rfl := forK_inr hy24 (hb24.trans (congrArg some hzq413.symm))
         have hF0 := hF24
         try dsimp only at hF0
         have hF := hFn.trans hF0
         clear hFn hF0
         refine inR ?_
         refine thR ?_
         obtain rfl := Option.some.inj hF
         subst hB
         refine finR (rs := [.tmp 4]) (vs := [.bool true]) rfl ⟨h411, trivial⟩ ?_
         exact hI.fin 0 ⟨rfl, rfl⟩
        ·skip
         rw [if_neg hc401] at hF
         have hbhc401 : (decide ((200 : Int) < (x381.Sig.Once.Open.length : Int))) = false := decide_eq_false hc401
         refine lv (v := .bool false) rfl (r_mv rfl ((show opd _ _ _ = _ from rfl).trans (congrArg Value.bool hbhc401))) rfl ?_
         refine lv (v := .pointer (some ⟨g390, 0 + 37, none⟩)) rfl (l_fa (j := 0) (i := 0) rfl fl35_6 h394 rfl) rfl ?_
         refine lv (v := .pointer (some ⟨g390, 0 + 38, none⟩)) rfl (l_fa (j := 0) (i := 37) rfl fl33_1 rfl rfl) rfl ?_
         refine lv (v := .pointer (some ⟨g390, 0 + 39, none⟩)) rfl (l_fa (j := 0) (i := 38) rfl fl31_1 rfl rfl) rfl ?_
         refine lv (v := s388.v) rfl (r_cl1 (off := 39) (p := 8) (hI.good.ca 0 rfl) rfl sc27 rfl rfl rfl) rfl ?_
         refine lv (v := .int .i64 (x381.Sig.Once.Shut.length : Int)) rfl (r_lenS rfl sl27 rfl hs388) rfl ?_
         refine lv (v := .bool (decide ((200 : Int) < (x381.Sig.Once.Shut.length : Int)))) rfl (r_gtr rfl rfl rfl rfl) rfl ?_
         refine lv (v := .bool (decide ((200 : Int) < (x381.Sig.Once.Shut.length : Int)))) rfl (r_pkF rfl rfl rfl) rfl ?_
         by_cases hc414 : (200 : Int) < (x381.Sig.Once.Shut.length : Int)
         ·skip
          rw [if_pos hc414] at hF
          have hbhc414 : (decide ((200 : Int) < (x381.Sig.Once.Shut.length : Int))) = true := decide_eq_true hc414
          refine lv (v := .bool true) rfl (r_mv rfl ((show opd _ _ _ = _ from rfl).trans (congrArg Value.bool hbhc414))) rfl ?_
          with_reducible refine lx (d := 64) (by kernel_rfl) (by kernel_rfl) ?_
          with_reducible refine lx (d := 65) (by kernel_rfl) (by kernel_rfl) ?_
          with_reducible refine lx (d := 66) (by kernel_rfl) (by kernel_rfl) ?_
          with_reducible refine lx (d := 67) (by kernel_rfl) (by kernel_rfl) ?_
          with_reducible refine lx (d := 68) (by kernel_rfl) (by kernel_rfl) ?_
          refine lv (v := .bool true) rfl (r_pkT rfl rfl rfl) rfl ?_
          refine wend ?_
          refine wthen ?_
          refine wren (fun ρ415 eρ415 => ?_)
          have h416 : opd ρ415 72 (.tmp 18) = s2.v := (eρ415 18).trans h395
          have h417 : opd ρ415 72 (.tmp 19) = .int .i64 (a1.length : Int) := (eρ415 19).trans h396
          have h418 : opd ρ415 72 (.tmp 20) = .int .i64 (i24 : Int) := (eρ415 20).trans h397
          have h419 : opd ρ415 72 (.tmp 43) = s248.v := (eρ415 43).trans h398
          have h420 : opd ρ415 72 (.tmp 44) = .int .i64 (x241.Cert.Votes.length : Int) := (eρ415 44).trans h399
          have h421 : opd ρ415 72 (.tmp 45) = .int .i64 (i299 : Int) := (eρ415 45).trans h400
          have h422 : opd ρ415 72 (.tmp 69) = .bool true := eρ415 69
          clear eρ415
          refine wcT h422 ?_
          refine wseq ?_
          refine wreg ?_
          refine lv (v := .bool true) rfl (r_as rfl rfl) rfl ?_
          refine wend ?_
          refine wthen ?_
          refine wren (fun ρ423 eρ423 => ?_)
          have h424 : opd ρ423 72 (.tmp 4) = .bool true := eρ423 4
          clear eρ423
          refine wp_ret ?_
          refine inR ?_
          refine thR ?_
          refine thR ?_
          obtain ⟨q425, hFn, hzq425⟩ := Option.map_eq_some_iff.1 hF
          clear hF
          obtain rfl := forK_inr hy299 (hb299.trans (congrArg some hzq425.symm))
          have hF0 := hF299
          try dsimp only at hF0
          have hF := hFn.trans hF0
          clear hFn hF0
          refine inR ?_
          refine inR ?_
          refine thR ?_
          refine thR ?_
          obtain ⟨q426, hFn, hzq426⟩ := Option.map_eq_some_iff.1 hF
          clear hF
          obtain rfl := forK_inr hy24 (hb24.trans (congrArg some hzq426.symm))
          have hF0 := hF24
          try dsimp only at hF0
          have hF := hFn.trans hF0
          clear hFn hF0
          refine inR ?_
          refine thR ?_
          obtain rfl := Option.some.inj hF
          subst hB
          refine finR (rs := [.tmp 4]) (vs := [.bool true]) rfl ⟨h424, trivial⟩ ?_
          exact hI.fin 0 ⟨rfl, rfl⟩
         ·skip
          rw [if_neg hc414] at hF
          have hbhc414 : (decide ((200 : Int) < (x381.Sig.Once.Shut.length : Int))) = false := decide_eq_false hc414
          refine lv (v := .bool false) rfl (r_mv rfl ((show opd _ _ _ = _ from rfl).trans (congrArg Value.bool hbhc414))) rfl ?_
          refine lv (v := .pointer (some ⟨g390, 0 + 37, none⟩)) rfl (l_fa (j := 0) (i := 0) rfl fl35_6 h394 rfl) rfl ?_
          refine lv (v := .pointer (some ⟨g390, 0 + 40, none⟩)) rfl (l_fa (j := 0) (i := 37) rfl fl33_2 rfl rfl) rfl ?_
          refine lv (v := s389.v) rfl (r_cl1 (off := 40) (p := 9) (hI.good.ca 0 rfl) rfl sc27 rfl rfl rfl) rfl ?_
          refine lv (v := .int .i64 (x381.Sig.Path.length : Int)) rfl (r_lenS rfl sl27 rfl hs389) rfl ?_
          refine lv (v := .bool (decide ((200 : Int) < (x381.Sig.Path.length : Int)))) rfl (r_gtr rfl rfl rfl rfl) rfl ?_
          refine lv (v := .bool (decide ((200 : Int) < (x381.Sig.Path.length : Int)))) rfl (r_pkF rfl rfl rfl) rfl ?_
          refine wend ?_
          refine wthen ?_
          refine wren (fun ρ427 eρ427 => ?_)
          have h428 : opd ρ427 72 (.tmp 18) = s2.v := (eρ427 18).trans h395
          have h429 : opd ρ427 72 (.tmp 19) = .int .i64 (a1.length : Int) := (eρ427 19).trans h396
          have h430 : opd ρ427 72 (.tmp 20) = .int .i64 (i24 : Int) := (eρ427 20).trans h397
          have h431 : opd ρ427 72 (.tmp 43) = s248.v := (eρ427 43).trans h398
          have h432 : opd ρ427 72 (.tmp 44) = .int .i64 (x241.Cert.Votes.length : Int) := (eρ427 44).trans h399
          have h433 : opd ρ427 72 (.tmp 45) = .int .i64 (i299 : Int) := (eρ427 45).trans h400
          have h434 : opd ρ427 72 (.tmp 69) = .bool (decide ((200 : Int) < (x381.Sig.Path.length : Int))) := eρ427 69
          clear eρ427
          by_cases hc435 : (200 : Int) < (x381.Sig.Path.length : Int)
          ·skip
           rw [if_pos hc435] at hF
           have hbhc435 : (decide ((200 : Int) < (x381.Sig.Path.length : Int))) = true := decide_eq_true hc435
           refine wcT (h434.trans (congrArg Value.bool hbhc435)) ?_
           refine wseq ?_
           refine wreg ?_
           refine lv (v := .bool true) rfl (r_as rfl rfl) rfl ?_
           refine wend ?_
           refine wthen ?_
           refine wren (fun ρ436 eρ436 => ?_)
           have h437 : opd ρ436 72 (.tmp 4) = .bool true := eρ436 4
           clear eρ436
           refine wp_ret ?_
           refine inR ?_
           refine thR ?_
           refine thR ?_
           obtain ⟨q438, hFn, hzq438⟩ := Option.map_eq_some_iff.1 hF
           clear hF
           obtain rfl := forK_inr hy299 (hb299.trans (congrArg some hzq438.symm))
           have hF0 := hF299
           try dsimp only at hF0
           have hF := hFn.trans hF0
           clear hFn hF0
           refine inR ?_
           refine inR ?_
           refine thR ?_
           refine thR ?_
           obtain ⟨q439, hFn, hzq439⟩ := Option.map_eq_some_iff.1 hF
           clear hF
           obtain rfl := forK_inr hy24 (hb24.trans (congrArg some hzq439.symm))
           have hF0 := hF24
           try dsimp only at hF0
           have hF := hFn.trans hF0
           clear hFn hF0
           refine inR ?_
           refine thR ?_
           obtain rfl := Option.some.inj hF
           subst hB
           refine finR (rs := [.tmp 4]) (vs := [.bool true]) rfl ⟨h437, trivial⟩ ?_
           exact hI.fin 0 ⟨rfl, rfl⟩
          ·skip
           rw [if_neg hc435] at hF
           have hbhc435 : (decide ((200 : Int) < (x381.Sig.Path.length : Int))) = false := decide_eq_false hc435
           refine wcF (h434.trans (congrArg Value.bool hbhc435)) ?_
           refine wp_skip ?_
           refine inN ?_
           refine wthen ?_
           refine wreg ?_
           refine lv (v := .int .i64 ((i299 + 1 : Nat) : Int)) rfl (r_addn rfl h433 rfl hlt299) rfl ?_
           refine lv (v := .int .i64 ((i299 + 1 : Nat) : Int)) rfl (r_mv rfl rfl) rfl ?_
           refine wend ?_
           obtain rfl := Option.some.inj hF
           exact ⟨k299, (), _, rfl, rfl, ⟨H364, hleH364, h428, h429, h430, h431, h432, rfl, (hI.keep [false])⟩, forK_inl hy299 hb299⟩
       ·skip
        have hbhc373 : (decide ((i299 : Int) < (x241.Cert.Votes.length : Int))) = false := decide_eq_false hc373
        obtain rfl : k299 = 0 := by omega
        obtain rfl := forK_end hy299
        have hF := hF299
        try dsimp only at hF
        refine wcF ((show opd _ _ _ = _ from rfl).trans (congrArg Value.bool hbhc373)) ?_
        refine wp_exit ?_
        refine thE ?_
        refine thE ?_
        refine inX ?_
        refine inN ?_
        refine wthen ?_
        refine wren (fun ρ440 eρ440 => ?_)
        have h441 : opd ρ440 72 (.tmp 18) = s2.v := (eρ440 18).trans h365
        have h442 : opd ρ440 72 (.tmp 19) = .int .i64 (a1.length : Int) := (eρ440 19).trans h366
        have h443 : opd ρ440 72 (.tmp 20) = .int .i64 (i24 : Int) := (eρ440 20).trans h367
        clear eρ440
        refine wreg ?_
        refine lv (v := .int .i64 ((i24 + 1 : Nat) : Int)) rfl (r_addn rfl h443 rfl hlt24) rfl ?_
        refine lv (v := .int .i64 ((i24 + 1 : Nat) : Int)) rfl (r_mv rfl rfl) rfl ?_
        refine wend ?_
        obtain rfl := Option.some.inj hF
        exact ⟨k24, (), _, rfl, rfl, ⟨H364, ((hleH230.trans hleH279).trans hleH364), h441, h442, rfl, hI⟩, forK_inl hy24 hb24⟩
   ·skip
    have hbhc236 : (decide ((i24 : Int) < (a1.length : Int))) = false := decide_eq_false hc236
    obtain rfl : k24 = 0 := by omega
    obtain rfl := forK_end hy24
    have hF := hF24
    try dsimp only at hF
    refine wcF ((show opd _ _ _ = _ from rfl).trans (congrArg Value.bool hbhc236)) ?_
    refine wp_exit ?_
    refine thE ?_
    refine thE ?_
    refine inX ?_
    refine wthen ?_
    refine wren (fun ρ444 eρ444 => ?_)
    clear eρ444
    refine wseq ?_
    refine wreg ?_
    refine lv (v := .bool false) rfl (r_as rfl rfl) rfl ?_
    refine wend ?_
    refine wthen ?_
    refine wren (fun ρ445 eρ445 => ?_)
    have h446 : opd ρ445 72 (.tmp 4) = .bool false := eρ445 4
    clear eρ445
    refine wp_ret ?_
    obtain rfl := Option.some.inj hF
    subst hB
    refine finR (rs := [.tmp 4]) (vs := [.bool false]) rfl ⟨h446, trivial⟩ ?_
    exact hI.fin 0 ⟨rfl, rfl⟩
noncomputable def M_wapentakeref08_Same (a0 : Config) (a1 : Config) : Option (Bool) := (if a0.Epoch ≠ a1.Epoch then some false else (if (a0.Members.length : Int) ≠ (a1.Members.length : Int) then some false else ((forK (fun (i29 : Nat) (σ29 : Unit) => (((a0.Members[i29]?).bind fun x87 => ((a1.Members[i29]?).bind fun x93 => (if x87 = x93 then some (.inl ()) else ((some false).map Sum.inr)))) : Option (Unit ⊕ Bool))) a0.Members.length 0 ()).bind fun y => match y with | .inl _ => some true | .inr r => some r)))
set_option maxHeartbeats 4000000 in
theorem spec_35 {w : World} {H : Hp} {a0 : Config} {a1 : Config} {s1 : Sv} {s2 : Sv} {r : Bool} (hF : M_wapentakeref08_Same a0 a1 = some r) (hT : Tab H) (hG : Good w H []) (hs1 : Sl (Fl.ty fl_Member) H s1 a0.Members) (hs2 : Sl (Fl.ty fl_Member) H s2 a1.Members) :
  Fine Tryd.prog 35 [.agg (flat [ckI a0.Epoch, ckL s1]).toArray, .agg (flat [ckI a1.Epoch, ckL s2]).toArray] w H [] (fun H' v L' => v = .bool r ∧ L' = []) := by
 unfold M_wapentakeref08_Same at hF
 unfold Fine
 obtain ⟨B, hB⟩ : ∃ B : Base, B = ⟨w, H, blks []⟩ := ⟨_, rfl⟩
 have hI : Inv B w H [] := by rw [hB]; exact Inv.start hG
 refine enter (n := 38) (args := [.agg (flat [ckI a0.Epoch, ckL s1]).toArray, .agg (flat [ckI a1.Epoch, ckL s2]).toArray]) Tryd.func35 rfl Tryd.ntmps35 (Nat.le_of_ble_eq_true rfl) ?_
 refine wseq ?_
 refine wreg ?_
 refine le rfl (l_box (cks := [ckI a0.Epoch, ckL s1]) hI rfl rfl rfl) rfl ?_
 rintro _ w4 ⟨g3, rfl, hI⟩
 replace hI : Inv B w4 H [.cb g3 [ckI a0.Epoch, ckL s1] 64] := hI
 refine le rfl (l_box (cks := [ckI a1.Epoch, ckL s2]) hI rfl rfl rfl) rfl ?_
 rintro _ w6 ⟨g5, rfl, hI⟩
 replace hI : Inv B w6 H [.cb g3 _ 64, .cb g5 [ckI a1.Epoch, ckL s2] 64] := hI
 refine lv (v := .bool false) rfl (r_as rfl rfl) rfl ?_
 refine wend ?_
 refine wthen ?_
 refine wren (fun ρ7 eρ7 => ?_)
 have h8 : opd ρ7 38 (.tmp 2) = .pointer (some ⟨g3, 0 + 0, none⟩) := eρ7 2
 have h9 : opd ρ7 38 (.tmp 3) = .pointer (some ⟨g5, 0 + 0, none⟩) := eρ7 3
 clear eρ7
 refine wseq ?_
 refine wseq ?_
 refine wreg ?_
 refine lv (v := .pointer (some ⟨g3, 0 + 0, none⟩)) rfl (l_fa (j := 0) (i := 0) rfl fl64_0 h8 rfl) rfl ?_
 refine lv (v := .int .i64 a0.Epoch) rfl (r_cl1 (off := 0) (p := 0) (hI.good.ca 0 rfl) rfl sc3 rfl rfl rfl) rfl ?_
 refine lv (v := .pointer (some ⟨g5, 0 + 0, none⟩)) rfl (l_fa (j := 0) (i := 0) rfl fl64_0 h9 rfl) rfl ?_
 refine lv (v := .int .i64 a1.Epoch) rfl (r_cl1 (off := 0) (p := 0) (hI.good.ca 1 rfl) rfl sc3 rfl rfl rfl) rfl ?_
 refine lv (v := .bool (decide (a0.Epoch ≠ a1.Epoch))) rfl (r_neq rfl rfl rfl rfl) rfl ?_
 by_cases hc10 : a0.Epoch ≠ a1.Epoch
 ·skip
  rw [if_pos hc10] at hF
  have hbhc10 : (decide (a0.Epoch ≠ a1.Epoch)) = true := decide_eq_true hc10
  refine lv (v := .bool true) rfl (r_mv rfl ((show opd _ _ _ = _ from rfl).trans (congrArg Value.bool hbhc10))) rfl ?_
  with_reducible refine lx (d := 12) (by kernel_rfl) (by kernel_rfl) ?_
  with_reducible refine lx (d := 13) (by kernel_rfl) (by kernel_rfl) ?_
  with_reducible refine lx (d := 14) (by kernel_rfl) (by kernel_rfl) ?_
  with_reducible refine lx (d := 15) (by kernel_rfl) (by kernel_rfl) ?_
  with_reducible refine lx (d := 16) (by kernel_rfl) (by kernel_rfl) ?_
  with_reducible refine lx (d := 17) (by kernel_rfl) (by kernel_rfl) ?_
  with_reducible refine lx (d := 18) (by kernel_rfl) (by kernel_rfl) ?_
  refine lv (v := .bool true) rfl (r_pkT rfl rfl rfl) rfl ?_
  refine wend ?_
  refine wthen ?_
  refine wren (fun ρ11 eρ11 => ?_)
  have h12 : opd ρ11 38 (.tmp 2) = .pointer (some ⟨g3, 0 + 0, none⟩) := (eρ11 2).trans h8
  have h13 : opd ρ11 38 (.tmp 3) = .pointer (some ⟨g5, 0 + 0, none⟩) := (eρ11 3).trans h9
  have h14 : opd ρ11 38 (.tmp 19) = .bool true := eρ11 19
  clear eρ11
  refine wcT h14 ?_
  refine wseq ?_
  refine wreg ?_
  refine lv (v := .bool false) rfl (r_as rfl rfl) rfl ?_
  refine wend ?_
  refine wthen ?_
  refine wren (fun ρ15 eρ15 => ?_)
  have h16 : opd ρ15 38 (.tmp 4) = .bool false := eρ15 4
  clear eρ15
  refine wp_ret ?_
  refine thR ?_
  obtain rfl := Option.some.inj hF
  subst hB
  refine finR (rs := [.tmp 4]) (vs := [.bool false]) rfl ⟨h16, trivial⟩ ?_
  exact hI.fin 0 ⟨rfl, rfl⟩
 ·skip
  rw [if_neg hc10] at hF
  have hbhc10 : (decide (a0.Epoch ≠ a1.Epoch)) = false := decide_eq_false hc10
  refine lv (v := .bool false) rfl (r_mv rfl ((show opd _ _ _ = _ from rfl).trans (congrArg Value.bool hbhc10))) rfl ?_
  refine lv (v := .pointer (some ⟨g3, 0 + 1, none⟩)) rfl (l_fa (j := 0) (i := 0) rfl fl64_1 h8 rfl) rfl ?_
  refine lv (v := s1.v) rfl (r_cl1 (off := 1) (p := 1) (hI.good.ca 0 rfl) rfl sc62 rfl rfl rfl) rfl ?_
  refine lv (v := .int .i64 (a0.Members.length : Int)) rfl (r_lenS rfl sl62 rfl hs1) rfl ?_
  refine lv (v := .pointer (some ⟨g5, 0 + 1, none⟩)) rfl (l_fa (j := 0) (i := 0) rfl fl64_1 h9 rfl) rfl ?_
  refine lv (v := s2.v) rfl (r_cl1 (off := 1) (p := 1) (hI.good.ca 1 rfl) rfl sc62 rfl rfl rfl) rfl ?_
  refine lv (v := .int .i64 (a1.Members.length : Int)) rfl (r_lenS rfl sl62 rfl hs2) rfl ?_
  refine lv (v := .bool (decide ((a0.Members.length : Int) ≠ (a1.Members.length : Int)))) rfl (r_neq rfl rfl rfl rfl) rfl ?_
  refine lv (v := .bool (decide ((a0.Members.length : Int) ≠ (a1.Members.length : Int)))) rfl (r_pkF rfl rfl rfl) rfl ?_
  refine wend ?_
  refine wthen ?_
  refine wren (fun ρ17 eρ17 => ?_)
  have h18 : opd ρ17 38 (.tmp 2) = .pointer (some ⟨g3, 0 + 0, none⟩) := (eρ17 2).trans h8
  have h19 : opd ρ17 38 (.tmp 3) = .pointer (some ⟨g5, 0 + 0, none⟩) := (eρ17 3).trans h9
  have h20 : opd ρ17 38 (.tmp 19) = .bool (decide ((a0.Members.length : Int) ≠ (a1.Members.length : Int))) := eρ17 19
  clear eρ17
  by_cases hc21 : (a0.Members.length : Int) ≠ (a1.Members.length : Int)
  ·skip
   rw [if_pos hc21] at hF
   have hbhc21 : (decide ((a0.Members.length : Int) ≠ (a1.Members.length : Int))) = true := decide_eq_true hc21
   refine wcT (h20.trans (congrArg Value.bool hbhc21)) ?_
   refine wseq ?_
   refine wreg ?_
   refine lv (v := .bool false) rfl (r_as rfl rfl) rfl ?_
   refine wend ?_
   refine wthen ?_
   refine wren (fun ρ22 eρ22 => ?_)
   have h23 : opd ρ22 38 (.tmp 4) = .bool false := eρ22 4
   clear eρ22
   refine wp_ret ?_
   refine thR ?_
   obtain rfl := Option.some.inj hF
   subst hB
   refine finR (rs := [.tmp 4]) (vs := [.bool false]) rfl ⟨h23, trivial⟩ ?_
   exact hI.fin 0 ⟨rfl, rfl⟩
  ·skip
   rw [if_neg hc21] at hF
   have hbhc21 : (decide ((a0.Members.length : Int) ≠ (a1.Members.length : Int))) = false := decide_eq_false hc21
   refine wcF (h20.trans (congrArg Value.bool hbhc21)) ?_
   refine wp_skip ?_
   refine wthen ?_
   refine wseq ?_
   refine wseq ?_
   refine wreg ?_
   refine lv (v := .pointer (some ⟨g3, 0 + 1, none⟩)) rfl (l_fa (j := 0) (i := 0) rfl fl64_1 h18 rfl) rfl ?_
   refine lv (v := s1.v) rfl (r_cl1 (off := 1) (p := 1) (hI.good.ca 0 rfl) rfl sc62 rfl rfl rfl) rfl ?_
   refine lv (v := .int .i64 (a0.Members.length : Int)) rfl (r_lenS rfl sl62 rfl hs1) rfl ?_
   refine lv (v := .int .i64 0) rfl (r_mv rfl rfl) rfl ?_
   refine wend ?_
   refine wthen ?_
   refine wren (fun ρ24 eρ24 => ?_)
   have h25 : opd ρ24 38 (.tmp 2) = .pointer (some ⟨g3, 0 + 0, none⟩) := (eρ24 2).trans h18
   have h26 : opd ρ24 38 (.tmp 3) = .pointer (some ⟨g5, 0 + 0, none⟩) := (eρ24 3).trans h19
   have h27 : opd ρ24 38 (.tmp 22) = .int .i64 (a0.Members.length : Int) := eρ24 22
   have h28 : opd ρ24 38 (.tmp 23) = .int .i64 0 := eρ24 23
   clear eρ24
   refine wp_block ?_
   have hbd29 := (hs1).bd
   rw [(hs1).n] at hbd29
   obtain ⟨y29, hy29, hF29⟩ := Option.bind_eq_some_iff.1 hF
   refine wfor (n := 38) a0.Members.length _ (fun (i29 : Nat) (σ29 : Unit) ρ' w' => ∃ (H67 : Hp), Hle H H67 ∧ opd ρ' 38 (.tmp 2) = .pointer (some ⟨g3, 0 + 0, none⟩) ∧ opd ρ' 38 (.tmp 3) = .pointer (some ⟨g5, 0 + 0, none⟩) ∧ opd ρ' 38 (.tmp 22) = .int .i64 (a0.Members.length : Int) ∧ opd ρ' 38 (.tmp 23) = .int .i64 (i29 : Int) ∧ Inv B w' H67 [.cb g3 [ckI a0.Epoch, ckL s1] 64, .cb g5 [ckI a1.Epoch, ckL s2] 64]) hy29 ⟨H, (Hle.refl _), h25, h26, h27, h28, hI⟩ ?_
   rintro k29 i29 σ29 ρ72 w73 hk29 ⟨H67, hleH67, h68, h69, h70, h71, hI⟩ hy29
   refine wseq ?_
   refine wreg ?_
   refine lv (v := .bool (decide ((i29 : Int) < (a0.Members.length : Int)))) rfl (r_lss rfl h71 h70 rfl) rfl ?_
   refine wend ?_
   refine wthen ?_
   refine wseq ?_
   by_cases hc74 : (i29 : Int) < (a0.Members.length : Int)
   ·skip
    have hbhc74 : (decide ((i29 : Int) < (a0.Members.length : Int))) = true := decide_eq_true hc74
    obtain ⟨k29, rfl⟩ : ∃ m, k29 = m + 1 := ⟨k29 - 1, by omega⟩
    obtain ⟨z29, hb29⟩ := forK_body hy29
    have hF := hb29
    have hlt29 : ((i29 : Nat) : Int) + 1 ≤ 9223372036854775807 := by omega
    refine wcT ((show opd _ _ _ = _ from rfl).trans (congrArg Value.bool hbhc74)) ?_
    refine wp_skip ?_
    refine wthen ?_
    refine wren (fun ρ75 eρ75 => ?_)
    have h76 : opd ρ75 38 (.tmp 2) = .pointer (some ⟨g3, 0 + 0, none⟩) := (eρ75 2).trans h68
    have h77 : opd ρ75 38 (.tmp 3) = .pointer (some ⟨g5, 0 + 0, none⟩) := (eρ75 3).trans h69
    have h78 : opd ρ75 38 (.tmp 22) = .int .i64 (a0.Members.length : Int) := (eρ75 22).trans h70
    have h79 : opd ρ75 38 (.tmp 23) = .int .i64 (i29 : Int) := (eρ75 23).trans h71
    clear eρ75
    refine wseq ?_
    refine wp_block ?_
    refine wseq ?_
    refine wreg ?_
    refine lv (v := .int .i64 (i29 : Int)) rfl (r_mv rfl h79) rfl ?_
    refine lv (v := .int .i64 (i29 : Int)) rfl (r_as rfl rfl) rfl ?_
    refine wend ?_
    refine wthen ?_
    refine wren (fun ρ80 eρ80 => ?_)
    have h81 : opd ρ80 38 (.tmp 2) = .pointer (some ⟨g3, 0 + 0, none⟩) := (eρ80 2).trans h76
    have h82 : opd ρ80 38 (.tmp 3) = .pointer (some ⟨g5, 0 + 0, none⟩) := (eρ80 3).trans h77
    have h83 : opd ρ80 38 (.tmp 5) = .int .i64 (i29 : Int) := eρ80 5
    have h84 : opd ρ80 38 (.tmp 22) = .int .i64 (a0.Members.length : Int) := (eρ80 22).trans h78
    have h85 : opd ρ80 38 (.tmp 23) = .int .i64 (i29 : Int) := (eρ80 23).trans h79
    clear eρ80
    refine wseq ?_
    refine dstG (H0 := H67) (L0 := keepL [true, true] [.cb g3 [ckI a0.Epoch, ckL s1] 64, .cb g5 [ckI a1.Epoch, ckL s2] 64]) [] mixed rfl (by repeat (first | exact Pan.body | refine Pan.then ?_ | refine Pan.inBlock ?_ | refine Pan.noGoto ?_ | refine Pan.pure ?_)) hI (hI.good.weakm _ (Hle.refl _) rfl) ?_
    intro w86 hI hP
    refine dp (v := .pointer (some ⟨g3, 0 + 1, none⟩)) 0 (by kernel_rfl) rfl rfl (fun _ => l_fa (j := 0) (i := 0) rfl fl64_1 h81 rfl) rfl hP ?_
    refine dp (v := .int .i64 (i29 : Int)) 2 (by kernel_rfl) rfl rfl (fun _ => r_mv rfl h83) rfl hP ?_
    refine dp (v := .pointer (some ⟨g5, 0 + 1, none⟩)) 5 (by kernel_rfl) rfl rfl (fun _ => l_fa (j := 0) (i := 0) rfl fl64_1 h82 rfl) rfl hP ?_
    refine dp (v := .int .i64 (i29 : Int)) 7 (by kernel_rfl) rfl rfl (fun _ => r_mv rfl h83) rfl hP ?_
    refine dr (v := s1.v) 1 (by kernel_rfl) rfl rfl (hI.good.weakm [true, true] (Hle.refl _) rfl) (fun _ hG => r_cl1 (off := 1) (p := 1) (hG.ca 0 rfl) rfl sc62 rfl rfl rfl) rfl hP ?_
    obtain ⟨x87, hx87, hF⟩ := Option.bind_eq_some_iff.1 hF
    obtain ⟨b88, j89, hix90, hil91, hA92⟩ := (hs1.mono hleH67).ixf hx87
    replace hA92 : At H67 b88 j89 [ckI x87.Id, ckV flB x87.Key.Root, ckI x87.Key.Height] := hA92
    refine dp (v := .pointer (some ⟨b88, j89 + 0, none⟩)) 3 (by kernel_rfl) rfl rfl (fun _ => r_ixt rfl sl62 rfl rfl rfl hix90 hil91) rfl hP ?_
    refine dr (v := .agg (flat [ckI x87.Id, ckV flB x87.Key.Root, ckI x87.Key.Height]).toArray) 4 (by kernel_rfl) rfl rfl (hI.good.weakm [true, true] (Hle.refl _) rfl) (fun _ hG => r_cla (off := 0) (p := 0) (m := 3) (hA92.ca hG) rfl ag114 rfl rfl rfl) rfl hP ?_
    refine dr (v := s2.v) 6 (by kernel_rfl) rfl rfl (hI.good.weakm [true, true] (Hle.refl _) rfl) (fun _ hG => r_cl1 (off := 1) (p := 1) (hG.ca 1 rfl) rfl sc62 rfl rfl rfl) rfl hP ?_
    obtain ⟨x93, hx93, hF⟩ := Option.bind_eq_some_iff.1 hF
    obtain ⟨b94, j95, hix96, hil97, hA98⟩ := (hs2.mono hleH67).ixf hx93
    replace hA98 : At H67 b94 j95 [ckI x93.Id, ckV flB x93.Key.Root, ckI x93.Key.Height] := hA98
    refine dp (v := .pointer (some ⟨b94, j95 + 0, none⟩)) 8 (by kernel_rfl) rfl rfl (fun _ => r_ixt rfl sl62 rfl rfl rfl hix96 hil97) rfl hP ?_
    refine dr (v := .agg (flat [ckI x93.Id, ckV flB x93.Key.Root, ckI x93.Key.Height]).toArray) 9 (by kernel_rfl) rfl rfl (hI.good.weakm [true, true] (Hle.refl _) rfl) (fun _ hG => r_cla (off := 0) (p := 0) (m := 3) (hA98.ca hG) rfl ag114 rfl rfl rfl) rfl hP ?_
    refine dp (v := .bool (!decide (x87 = x93))) 10 (by kernel_rfl) rfl rfl (fun _ => r_neT eqt114 rfl sb114 (fun _ => rfl) rfl rfl rfl) rfl hP ?_
    refine dend (by kernel_rfl) ?_
    refine wthen ?_
    refine wren (fun ρ99 eρ99 => ?_)
    have h100 : opd ρ99 38 (.tmp 2) = .pointer (some ⟨g3, 0 + 0, none⟩) := (eρ99 2).trans h81
    have h101 : opd ρ99 38 (.tmp 3) = .pointer (some ⟨g5, 0 + 0, none⟩) := (eρ99 3).trans h82
    have h102 : opd ρ99 38 (.tmp 22) = .int .i64 (a0.Members.length : Int) := (eρ99 22).trans h84
    have h103 : opd ρ99 38 (.tmp 23) = .int .i64 (i29 : Int) := (eρ99 23).trans h85
    have h104 : opd ρ99 38 (.tmp 36) = .bool (!decide (x87 = x93)) := eρ99 36
    clear eρ99
    by_cases hc105 : x87 = x93
    ·skip
     rw [if_pos hc105] at hF
     have hbhc105 : (!decide (x87 = x93)) = false := (by rw [decide_eq_true hc105]; rfl)
     refine wcF (h104.trans (congrArg Value.bool hbhc105)) ?_
     refine wp_skip ?_
     refine inN ?_
     refine wthen ?_
     refine wreg ?_
     refine lv (v := .int .i64 ((i29 + 1 : Nat) : Int)) rfl (r_addn rfl h103 rfl hlt29) rfl ?_
     refine lv (v := .int .i64 ((i29 + 1 : Nat) : Int)) rfl (r_mv rfl rfl) rfl ?_
     refine wend ?_
     obtain rfl := Option.some.inj hF
     exact ⟨k29, (), _, rfl, rfl, ⟨H67, hleH67, h100, h101, h102, rfl, hI⟩, forK_inl hy29 hb29⟩
    ·skip
     rw [if_neg hc105] at hF
     have hbhc105 : (!decide (x87 = x93)) = true := (by rw [decide_eq_false hc105]; rfl)
     refine wcT (h104.trans (congrArg Value.bool hbhc105)) ?_
     refine wseq ?_
     refine wreg ?_
     refine lv (v := .bool false) rfl (r_as rfl rfl) rfl ?_
     refine wend ?_
     refine wthen ?_
     refine wren (fun ρ106 eρ106 => ?_)
     have h107 : opd ρ106 38 (.tmp 4) = .bool false := eρ106 4
     clear eρ106
     refine wp_ret ?_
     refine inR ?_
     refine thR ?_
     refine thR ?_
     obtain ⟨q108, hFn, hzq108⟩ := Option.map_eq_some_iff.1 hF
     clear hF
     obtain rfl := forK_inr hy29 (hb29.trans (congrArg some hzq108.symm))
     have hF0 := hF29
     try dsimp only at hF0
     have hF := hFn.trans hF0
     clear hFn hF0
     refine inR ?_
     refine thR ?_
     obtain rfl := Option.some.inj hF
     subst hB
     refine finR (rs := [.tmp 4]) (vs := [.bool false]) rfl ⟨h107, trivial⟩ ?_
     exact hI.fin 0 ⟨rfl, rfl⟩
   ·skip
    have hbhc74 : (decide ((i29 : Int) < (a0.Members.length : Int))) = false := decide_eq_false hc74
    obtain rfl : k29 = 0 := by omega
    obtain rfl := forK_end hy29
    have hF := hF29
    try dsimp only at hF
    refine wcF ((show opd _ _ _ = _ from rfl).trans (congrArg Value.bool hbhc74)) ?_
    refine wp_exit ?_
    refine thE ?_
    refine thE ?_
    refine inX ?_
    refine wthen ?_
    refine wren (fun ρ109 eρ109 => ?_)
    clear eρ109
    refine wseq ?_
    refine wreg ?_
    refine lv (v := .bool true) rfl (r_as rfl rfl) rfl ?_
    refine wend ?_
    refine wthen ?_
    refine wren (fun ρ110 eρ110 => ?_)
    have h111 : opd ρ110 38 (.tmp 4) = .bool true := eρ110 4
    clear eρ110
    refine wp_ret ?_
    obtain rfl := Option.some.inj hF
    subst hB
    refine finR (rs := [.tmp 4]) (vs := [.bool true]) rfl ⟨h111, trivial⟩ ?_
    exact hI.fin 0 ⟨rfl, rfl⟩
end Go.Proofs.YtdebnncpclodcaaDoor.X
