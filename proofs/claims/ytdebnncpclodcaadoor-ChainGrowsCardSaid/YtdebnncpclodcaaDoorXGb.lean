/-
  Functions of the program: what each computes, and its walk. No condition beyond those that the lemmas name.
-/
import Derived.Test.YtdebnncpclodcaaDoorXPT
import Derived.Test.YtdebnncpclodcaaDoorXGa
set_option linter.unusedSimpArgs false
set_option linter.unusedVariables false
set_option maxRecDepth 10000
namespace Go.Proofs.YtdebnncpclodcaaDoor.X
open Go.RowKit Go.Proofs.YtdebnncpclodcaaDoorW.PrintLast
noncomputable def M_once_whole (a0 : List (Vec UInt8 32)) : Option ((Vec UInt8 32)) := ((M_code_Writer_Digest (⟨[]⟩ : Code_Writer) a0).bind fun x14 => ((M_code_Writer_Bytes x14).bind fun x23 => ((M_sha_Of [x23.1]).bind fun x33 => some x33)))
set_option maxHeartbeats 1000000 in
theorem spec_106 {w : World} {H : Hp} {a0 : List (Vec UInt8 32)} {s1 : Sv} {r : (Vec UInt8 32)} (hF : M_once_whole a0 = some r) (hT : Tab H) (hG : Good w H []) (hs1 : Sl (Fl.ty (flV flB 32)) H s1 a0) :
  Fine Tryd.prog 106 [s1.v] w H [] (fun H' v L' => v = .agg (flat [ckV flB r]).toArray ∧ L' = []) := by
 unfold M_once_whole at hF
 unfold Fine
 obtain ⟨B, hB⟩ : ∃ B : Base, B = ⟨w, H, blks []⟩ := ⟨_, rfl⟩
 have hI : Inv B w H [] := by rw [hB]; exact Inv.start hG
 refine enter (n := 13) (args := [s1.v]) Tryd.func106 rfl Tryd.ntmps106 (Nat.le_of_ble_eq_true rfl) ?_
 refine wseq ?_
 refine wreg ?_
 refine le rfl (l_al hI rfl ze29) rfl ?_
 rintro _ w3 ⟨g2, rfl, hI⟩
 replace hI : Inv B w3 H [.cb g2 [ckV flB (Vec.rep 32 0)] 29] := hI
 refine wend ?_
 refine wthen ?_
 refine wren (fun ρ4 eρ4 => ?_)
 have h5 : opd ρ4 13 (.tmp 0) = s1.v := eρ4 0
 have h6 : opd ρ4 13 (.tmp 2) = .pointer (some ⟨g2, 0 + 0, none⟩) := eρ4 2
 clear eρ4
 refine wseq ?_
 refine wreg ?_
 refine lv (v := .agg (flat [ckL Sv.nil]).toArray) rfl (r_bldk (z := [[ckL Sv.nil]]) (pc := []) rfl zg175 bf175 rfl rfl rfl rfl) rfl ?_
 refine le rfl (l_box (cks := [ckL Sv.nil]) hI rfl rfl rfl) rfl ?_
 rintro _ w8 ⟨g7, rfl, hI⟩
 replace hI : Inv B w8 H [.cb g2 _ 29, .cb g7 [ckL Sv.nil] 175] := hI
 refine lv (v := .pointer (some ⟨g7, 0 + 0, none⟩)) rfl (r_as rfl rfl) rfl ?_
 refine wend ?_
 refine wthen ?_
 refine wren (fun ρ9 eρ9 => ?_)
 have h10 : opd ρ9 13 (.tmp 0) = s1.v := (eρ9 0).trans h5
 have h11 : opd ρ9 13 (.tmp 2) = .pointer (some ⟨g2, 0 + 0, none⟩) := (eρ9 2).trans h6
 have h12 : opd ρ9 13 (.tmp 3) = .pointer (some ⟨g7, 0 + 0, none⟩) := eρ9 3
 clear eρ9
 refine wseq ?_
 refine wreg ?_
 refine lv (v := .pointer (some ⟨g7, 0 + 0, none⟩)) rfl (r_mv rfl h12) rfl ?_
 refine lv (v := s1.v) rfl (r_mv rfl h10) rfl ?_
 replace hI := Inv.full (e := 5) (sz := 1) hI (show Sv.nil.n = Sv.nil.c from rfl)
 replace hI : Inv B w8 H [.cb g2 _ 29, .cb g7 [ckL Sv.nil] 175, .own Sv.nil 5 1 none] := hI
 replace hI := hI.bring 2 rfl
 replace hI := hI.bring 2 rfl
 replace hI : Inv B w8 H [.cb g7 [ckL Sv.nil] 175, .own Sv.nil 5 1 none, .cb g2 _ 29] := hI
 obtain ⟨x14, hx14, hF⟩ := Option.bind_eq_some_iff.1 hF
 have hsp17 := spec_125 hx14 hT (hI.part 2) (Sl.nil _ _) hs1
 refine fc ([.cb g7 [ckL Sv.nil] 175, .own Sv.nil 5 1 none]) ([.cb g2 [ckV flB (Vec.rep 32 0)] 29]) (args := [.pointer (some ⟨g7, 0 + 0, none⟩), s1.v]) fc125 rfl rfl rfl hI (argc rfl (argc rfl rfl)) (hsp17) ?_
 rintro _ H15 _ w16 ⟨s18, gg19, rfl, hs18, rfl⟩ hleH15 hI
 replace hI : Inv B w16 H15 [.cb g7 [ckL s18] 175, .own s18 5 1 gg19, .cb g2 _ 29] := hI
 refine wend ?_
 refine wthen ?_
 refine wren (fun ρ20 eρ20 => ?_)
 have h21 : opd ρ20 13 (.tmp 2) = .pointer (some ⟨g2, 0 + 0, none⟩) := (eρ20 2).trans h11
 have h22 : opd ρ20 13 (.tmp 3) = .pointer (some ⟨g7, 0 + 0, none⟩) := (eρ20 3).trans h12
 clear eρ20
 refine wseq ?_
 refine wreg ?_
 refine lv (v := .pointer (some ⟨g7, 0 + 0, none⟩)) rfl (r_mv rfl h22) rfl ?_
 obtain ⟨x23, hx23, hF⟩ := Option.bind_eq_some_iff.1 hF
 have hsp26 := spec_100 hx23 (hT.mono hleH15) (hI.part 2) hs18
 refine fc ([.cb g7 [ckL s18] 175, .own s18 5 1 gg19]) ([.cb g2 [ckV flB (Vec.rep 32 0)] 29]) (args := [.pointer (some ⟨g7, 0 + 0, none⟩)]) fc100 rfl rfl rfl hI (argc rfl rfl) (hsp26) ?_
 rintro _ H24 _ w25 ⟨s27, s28, gg29, rfl, hs27, hs28, rfl⟩ hleH24 hI
 replace hI : Inv B w25 H24 [.cb g7 [ckL s28] 175, .own s28 5 1 gg29, .cb g2 _ 29] := hI
 refine le rfl (l_bs (t := (Ty.sl (Fl.ty flB))) (vs := [s27.v]) (xs := [x23.1]) hI rfl sl228 inf158 rfl rfl (argc rfl rfl) (.cons rfl ⟨s27, rfl, hs27⟩ .nil) rfl) rfl ?_
 rintro _ w32 ⟨s30, H31, rfl, hI, hleH31, hs30, hfs30, hgs30⟩
 obtain ⟨x33, hx33, hF⟩ := Option.bind_eq_some_iff.1 hF
 have hsp36 := spec_99 hx33 (((hT.mono hleH15).mono hleH24).mono hleH31) (hI.part 0) hs30
 refine fc ([]) ([.cb g7 [ckL s28] 175, .own s28 5 1 gg29, .cb g2 [ckV flB (Vec.rep 32 0)] 29]) (args := [s30.v]) fc99 rfl rfl rfl hI (argc rfl rfl) (hsp36) ?_
 rintro _ H34 _ w35 ⟨rfl, rfl⟩ hleH34 hI
 replace hI : Inv B w35 H34 [.cb g7 [ckL s28] 175, .own s28 5 1 gg29, .cb g2 _ 29] := hI
 refine lst rfl (l_st (off := 0) (p := 0) (m := 1) (new := [ckV flB x33]) hI 2 rfl rfl sz29 h21 rfl rfl rfl rfl rfl) rfl ?_
 intro w37 hI
 replace hI : Inv B w37 H34 [.cb g7 [ckL s28] 175, .own s28 5 1 gg29, .cb g2 [ckV flB x33] 29] := hI
 refine wend ?_
 refine wthen ?_
 refine wren (fun ρ38 eρ38 => ?_)
 have h39 : opd ρ38 13 (.tmp 2) = .pointer (some ⟨g2, 0 + 0, none⟩) := (eρ38 2).trans h21
 clear eρ38
 refine wp_ret ?_
 obtain rfl := Option.some.inj hF
 subst hB
 refine finR (rs := [.cell 2 29]) (vs := [.agg (flat [ckV flB x33]).toArray]) rfl ⟨⟨_, h39, ld_agg (hI.good.ca 2 rfl) ag29 rfl⟩, trivial⟩ ?_
 exact hI.fin 0 ⟨rfl, rfl⟩
noncomputable def M_once_Of (a0 : Vec UInt8 32) (a1 : Once) : Option ((Vec UInt8 32) × Bool) := (if (a1.Open.length : Int) ≠ 32 then some ((Vec.rep 32 0), false) else (if (a1.Shut.length : Int) ≠ 32 then some ((Vec.rep 32 0), false) else ((forK (fun (i44 : Nat) (σ44 : (List (Vec UInt8 32))) => (((((a1.Open[i44]?).bind fun x351 => ((a1.Shut[i44]?).bind fun x357 => ((M_once_shut x351).bind fun x363 => some (⟨[x363, x357], rfl⟩ : Vec (Vec UInt8 32) 2))))).bind fun (x336 : (Vec (Vec UInt8 32) 2)) => ((M_once_bit a0 (i44 : Int)).bind fun x377 => ((ixI x336.l x377).bind fun x390 => ((ixI x336.l (wI ((1 : Int) - x377))).bind fun x392 => ((appI 32 σ44 [x390, x392]).bind fun x397 => some (.inl x397)))))) : Option ((List (Vec UInt8 32)) ⊕ ((Vec UInt8 32) × Bool)))) 32 0 []).bind fun y => match y with | .inl σ44 => ((M_once_whole σ44).bind fun x411 => some (x411, true)) | .inr r => some r)))
set_option maxHeartbeats 4000000 in
theorem spec_59 {w : World} {H : Hp} {a0 : Vec UInt8 32} {a1 : Once} {s1 : Sv} {s2 : Sv} {r : (Vec UInt8 32) × Bool} (hF : M_once_Of a0 a1 = some r) (hT : Tab H) (hG : Good w H []) (hs1 : Sl (Fl.ty (flV flB 32)) H s1 a1.Open) (hs2 : Sl (Fl.ty (flV flB 32)) H s2 a1.Shut) :
  Fine Tryd.prog 59 [.agg (flat [ckV flB a0]).toArray, .agg (flat [ckL s1, ckL s2]).toArray] w H [] (fun H' v L' => v = .tuple #[.agg (flat [ckV flB r.1]).toArray, .bool r.2] ∧ L' = []) := by
 unfold M_once_Of at hF
 unfold Fine
 obtain ⟨B, hB⟩ : ∃ B : Base, B = ⟨w, H, blks []⟩ := ⟨_, rfl⟩
 have hI : Inv B w H [] := by rw [hB]; exact Inv.start hG
 refine enter (n := 52) (args := [.agg (flat [ckV flB a0]).toArray, .agg (flat [ckL s1, ckL s2]).toArray]) Tryd.func59 rfl Tryd.ntmps59 (Nat.le_of_ble_eq_true rfl) ?_
 refine wseq ?_
 refine wreg ?_
 refine le rfl (l_box (cks := [ckV flB a0]) hI rfl rfl rfl) rfl ?_
 rintro _ w4 ⟨g3, rfl, hI⟩
 replace hI : Inv B w4 H [.cb g3 [ckV flB a0] 29] := hI
 refine le rfl (l_box (cks := [ckL s1, ckL s2]) hI rfl rfl rfl) rfl ?_
 rintro _ w6 ⟨g5, rfl, hI⟩
 replace hI : Inv B w6 H [.cb g3 [ckV flB a0] 29, .cb g5 [ckL s1, ckL s2] 31] := hI
 refine le rfl (l_al hI rfl ze29) rfl ?_
 rintro _ w8 ⟨g7, rfl, hI⟩
 replace hI : Inv B w8 H [.cb g3 [ckV flB a0] 29, .cb g5 _ 31, .cb g7 [ckV flB (Vec.rep 32 0)] 29] := hI
 refine lv (v := .bool false) rfl (r_as rfl rfl) rfl ?_
 refine wend ?_
 refine wthen ?_
 refine wren (fun ρ9 eρ9 => ?_)
 have h10 : opd ρ9 52 (.tmp 2) = .pointer (some ⟨g3, 0 + 0, none⟩) := eρ9 2
 have h11 : opd ρ9 52 (.tmp 3) = .pointer (some ⟨g5, 0 + 0, none⟩) := eρ9 3
 have h12 : opd ρ9 52 (.tmp 4) = .pointer (some ⟨g7, 0 + 0, none⟩) := eρ9 4
 clear eρ9
 refine wseq ?_
 refine wseq ?_
 refine wreg ?_
 refine lv (v := .pointer (some ⟨g5, 0 + 0, none⟩)) rfl (l_fa (j := 0) (i := 0) rfl fl31_0 h11 rfl) rfl ?_
 refine lv (v := s1.v) rfl (r_cl1 (off := 0) (p := 0) (hI.good.ca 1 rfl) rfl sc27 rfl rfl rfl) rfl ?_
 refine lv (v := .int .i64 (a1.Open.length : Int)) rfl (r_lenS rfl sl27 rfl hs1) rfl ?_
 refine lv (v := .bool (decide ((a1.Open.length : Int) ≠ 32))) rfl (r_neq rfl rfl rfl rfl) rfl ?_
 by_cases hc13 : (a1.Open.length : Int) ≠ 32
 ·skip
  rw [if_pos hc13] at hF
  have hbhc13 : (decide ((a1.Open.length : Int) ≠ 32)) = true := decide_eq_true hc13
  refine lv (v := .bool true) rfl (r_mv rfl ((show opd _ _ _ = _ from rfl).trans (congrArg Value.bool hbhc13))) rfl ?_
  with_reducible refine lx (d := 15) (by kernel_rfl) (by kernel_rfl) ?_
  with_reducible refine lx (d := 16) (by kernel_rfl) (by kernel_rfl) ?_
  with_reducible refine lx (d := 17) (by kernel_rfl) (by kernel_rfl) ?_
  with_reducible refine lx (d := 18) (by kernel_rfl) (by kernel_rfl) ?_
  refine lv (v := .bool true) rfl (r_pkT rfl rfl rfl) rfl ?_
  refine wend ?_
  refine wthen ?_
  refine wren (fun ρ14 eρ14 => ?_)
  have h15 : opd ρ14 52 (.tmp 2) = .pointer (some ⟨g3, 0 + 0, none⟩) := (eρ14 2).trans h10
  have h16 : opd ρ14 52 (.tmp 3) = .pointer (some ⟨g5, 0 + 0, none⟩) := (eρ14 3).trans h11
  have h17 : opd ρ14 52 (.tmp 4) = .pointer (some ⟨g7, 0 + 0, none⟩) := (eρ14 4).trans h12
  have h18 : opd ρ14 52 (.tmp 19) = .bool true := eρ14 19
  clear eρ14
  refine wcT h18 ?_
  refine wseq ?_
  refine wreg ?_
  refine lv (v := .agg (flat [ckV flB (Vec.rep 32 0)]).toArray) rfl (r_bza rfl ze29 ar29) rfl ?_
  refine lst rfl (l_st (off := 0) (p := 0) (m := 1) (new := [ckV flB (Vec.rep 32 0)]) hI 2 rfl rfl sz29 h17 rfl rfl rfl rfl rfl) rfl ?_
  intro w19 hI
  replace hI : Inv B w19 H [.cb g3 [ckV flB a0] 29, .cb g5 _ 31, .cb g7 _ 29] := hI
  refine lv (v := .bool false) rfl (r_as rfl rfl) rfl ?_
  refine wend ?_
  refine wthen ?_
  refine wren (fun ρ20 eρ20 => ?_)
  have h21 : opd ρ20 52 (.tmp 4) = .pointer (some ⟨g7, 0 + 0, none⟩) := (eρ20 4).trans h17
  have h22 : opd ρ20 52 (.tmp 5) = .bool false := eρ20 5
  clear eρ20
  refine wp_ret ?_
  refine thR ?_
  obtain rfl := Option.some.inj hF
  subst hB
  refine finR (rs := [.cell 4 29, .tmp 5]) (vs := [.agg (flat [ckV flB (Vec.rep 32 0)]).toArray, .bool false]) rfl ⟨⟨_, h21, ld_agg (hI.good.ca 2 rfl) ag29 rfl⟩, h22, trivial⟩ ?_
  exact hI.fin 0 ⟨rfl, rfl⟩
 ·skip
  rw [if_neg hc13] at hF
  have hbhc13 : (decide ((a1.Open.length : Int) ≠ 32)) = false := decide_eq_false hc13
  refine lv (v := .bool false) rfl (r_mv rfl ((show opd _ _ _ = _ from rfl).trans (congrArg Value.bool hbhc13))) rfl ?_
  refine lv (v := .pointer (some ⟨g5, 0 + 1, none⟩)) rfl (l_fa (j := 0) (i := 0) rfl fl31_1 h11 rfl) rfl ?_
  refine lv (v := s2.v) rfl (r_cl1 (off := 1) (p := 1) (hI.good.ca 1 rfl) rfl sc27 rfl rfl rfl) rfl ?_
  refine lv (v := .int .i64 (a1.Shut.length : Int)) rfl (r_lenS rfl sl27 rfl hs2) rfl ?_
  refine lv (v := .bool (decide ((a1.Shut.length : Int) ≠ 32))) rfl (r_neq rfl rfl rfl rfl) rfl ?_
  refine lv (v := .bool (decide ((a1.Shut.length : Int) ≠ 32))) rfl (r_pkF rfl rfl rfl) rfl ?_
  refine wend ?_
  refine wthen ?_
  refine wren (fun ρ23 eρ23 => ?_)
  have h24 : opd ρ23 52 (.tmp 2) = .pointer (some ⟨g3, 0 + 0, none⟩) := (eρ23 2).trans h10
  have h25 : opd ρ23 52 (.tmp 3) = .pointer (some ⟨g5, 0 + 0, none⟩) := (eρ23 3).trans h11
  have h26 : opd ρ23 52 (.tmp 4) = .pointer (some ⟨g7, 0 + 0, none⟩) := (eρ23 4).trans h12
  have h27 : opd ρ23 52 (.tmp 19) = .bool (decide ((a1.Shut.length : Int) ≠ 32)) := eρ23 19
  clear eρ23
  by_cases hc28 : (a1.Shut.length : Int) ≠ 32
  ·skip
   rw [if_pos hc28] at hF
   have hbhc28 : (decide ((a1.Shut.length : Int) ≠ 32)) = true := decide_eq_true hc28
   refine wcT (h27.trans (congrArg Value.bool hbhc28)) ?_
   refine wseq ?_
   refine wreg ?_
   refine lv (v := .agg (flat [ckV flB (Vec.rep 32 0)]).toArray) rfl (r_bza rfl ze29 ar29) rfl ?_
   refine lst rfl (l_st (off := 0) (p := 0) (m := 1) (new := [ckV flB (Vec.rep 32 0)]) hI 2 rfl rfl sz29 h26 rfl rfl rfl rfl rfl) rfl ?_
   intro w29 hI
   replace hI : Inv B w29 H [.cb g3 [ckV flB a0] 29, .cb g5 _ 31, .cb g7 _ 29] := hI
   refine lv (v := .bool false) rfl (r_as rfl rfl) rfl ?_
   refine wend ?_
   refine wthen ?_
   refine wren (fun ρ30 eρ30 => ?_)
   have h31 : opd ρ30 52 (.tmp 4) = .pointer (some ⟨g7, 0 + 0, none⟩) := (eρ30 4).trans h26
   have h32 : opd ρ30 52 (.tmp 5) = .bool false := eρ30 5
   clear eρ30
   refine wp_ret ?_
   refine thR ?_
   obtain rfl := Option.some.inj hF
   subst hB
   refine finR (rs := [.cell 4 29, .tmp 5]) (vs := [.agg (flat [ckV flB (Vec.rep 32 0)]).toArray, .bool false]) rfl ⟨⟨_, h31, ld_agg (hI.good.ca 2 rfl) ag29 rfl⟩, h32, trivial⟩ ?_
   exact hI.fin 0 ⟨rfl, rfl⟩
  ·skip
   rw [if_neg hc28] at hF
   have hbhc28 : (decide ((a1.Shut.length : Int) ≠ 32)) = false := decide_eq_false hc28
   refine wcF (h27.trans (congrArg Value.bool hbhc28)) ?_
   refine wp_skip ?_
   refine wthen ?_
   refine wseq ?_
   refine wreg ?_
   refine lv (v := Sv.nil.v) rfl (r_as rfl rfl) rfl ?_
   refine wend ?_
   refine wthen ?_
   refine wren (fun ρ33 eρ33 => ?_)
   have h34 : opd ρ33 52 (.tmp 2) = .pointer (some ⟨g3, 0 + 0, none⟩) := (eρ33 2).trans h24
   have h35 : opd ρ33 52 (.tmp 3) = .pointer (some ⟨g5, 0 + 0, none⟩) := (eρ33 3).trans h25
   have h36 : opd ρ33 52 (.tmp 4) = .pointer (some ⟨g7, 0 + 0, none⟩) := (eρ33 4).trans h26
   have h37 : opd ρ33 52 (.tmp 6) = Sv.nil.v := eρ33 6
   clear eρ33
   refine wseq ?_
   refine wseq ?_
   refine wreg ?_
   refine lv (v := .int .i64 0) rfl (r_mv rfl rfl) rfl ?_
   refine wend ?_
   refine wthen ?_
   refine wren (fun ρ38 eρ38 => ?_)
   have h39 : opd ρ38 52 (.tmp 2) = .pointer (some ⟨g3, 0 + 0, none⟩) := (eρ38 2).trans h34
   have h40 : opd ρ38 52 (.tmp 3) = .pointer (some ⟨g5, 0 + 0, none⟩) := (eρ38 3).trans h35
   have h41 : opd ρ38 52 (.tmp 4) = .pointer (some ⟨g7, 0 + 0, none⟩) := (eρ38 4).trans h36
   have h42 : opd ρ38 52 (.tmp 6) = Sv.nil.v := (eρ38 6).trans h37
   have h43 : opd ρ38 52 (.tmp 21) = .int .i64 0 := eρ38 21
   clear eρ38
   refine wp_block ?_
   replace hI := Inv.full (e := 29) (sz := 32) hI (show Sv.nil.n = Sv.nil.c from rfl)
   replace hI : Inv B w8 H [.cb g3 [ckV flB a0] 29, .cb g5 _ 31, .cb g7 _ 29, .own Sv.nil 29 32 none] := hI
   obtain ⟨y44, hy44, hF44⟩ := Option.bind_eq_some_iff.1 hF
   refine wfor (n := 52) 32 _ (fun (i44 : Nat) (σ44 : (List (Vec UInt8 32))) ρ' w' => ∃ (H312 : Hp) (s310 : Sv) (gg311 : Option Nat), Hle H H312 ∧ opd ρ' 52 (.tmp 2) = .pointer (some ⟨g3, 0 + 0, none⟩) ∧ opd ρ' 52 (.tmp 3) = .pointer (some ⟨g5, 0 + 0, none⟩) ∧ opd ρ' 52 (.tmp 4) = .pointer (some ⟨g7, 0 + 0, none⟩) ∧ opd ρ' 52 (.tmp 6) = s310.v ∧ opd ρ' 52 (.tmp 21) = .int .i64 (i44 : Int) ∧ Sl (Fl.ty (flV flB 32)) H312 s310 σ44 ∧ Inv B w' H312 [.cb g3 [ckV flB a0] 29, .cb g5 [ckL s1, ckL s2] 31, .cb g7 [ckV flB (Vec.rep 32 0)] 29, .own s310 29 32 gg311]) hy44 ⟨H, Sv.nil, none, (Hle.refl _), h39, h40, h41, h42, h43, (Sl.nil _ _), hI⟩ ?_
   rintro k44 i44 σ44 ρ318 w319 hk44 ⟨H312, s310, gg311, hleH312, h313, h314, h315, h316, h317, hs310, hI⟩ hy44
   refine wseq ?_
   refine wreg ?_
   refine lv (v := .bool (decide ((i44 : Int) < 32))) rfl (r_lss rfl h317 rfl rfl) rfl ?_
   refine wend ?_
   refine wthen ?_
   refine wseq ?_
   by_cases hc320 : (i44 : Int) < 32
   ·skip
    have hbhc320 : (decide ((i44 : Int) < 32)) = true := decide_eq_true hc320
    obtain ⟨k44, rfl⟩ : ∃ m, k44 = m + 1 := ⟨k44 - 1, by omega⟩
    obtain ⟨z44, hb44⟩ := forK_body hy44
    have hF := hb44
    have hlt44 : ((i44 : Nat) : Int) + 1 ≤ 9223372036854775807 := by omega
    refine wcT ((show opd _ _ _ = _ from rfl).trans (congrArg Value.bool hbhc320)) ?_
    refine wp_skip ?_
    refine wthen ?_
    refine wren (fun ρ321 eρ321 => ?_)
    have h322 : opd ρ321 52 (.tmp 2) = .pointer (some ⟨g3, 0 + 0, none⟩) := (eρ321 2).trans h313
    have h323 : opd ρ321 52 (.tmp 3) = .pointer (some ⟨g5, 0 + 0, none⟩) := (eρ321 3).trans h314
    have h324 : opd ρ321 52 (.tmp 4) = .pointer (some ⟨g7, 0 + 0, none⟩) := (eρ321 4).trans h315
    have h325 : opd ρ321 52 (.tmp 6) = s310.v := (eρ321 6).trans h316
    have h326 : opd ρ321 52 (.tmp 21) = .int .i64 (i44 : Int) := (eρ321 21).trans h317
    clear eρ321
    refine wseq ?_
    refine wp_block ?_
    refine wseq ?_
    refine wreg ?_
    refine lv (v := .int .i64 (i44 : Int)) rfl (r_mv rfl h326) rfl ?_
    refine lv (v := .int .i64 (i44 : Int)) rfl (r_as rfl rfl) rfl ?_
    refine wend ?_
    refine wthen ?_
    refine wren (fun ρ327 eρ327 => ?_)
    have h328 : opd ρ327 52 (.tmp 2) = .pointer (some ⟨g3, 0 + 0, none⟩) := (eρ327 2).trans h322
    have h329 : opd ρ327 52 (.tmp 3) = .pointer (some ⟨g5, 0 + 0, none⟩) := (eρ327 3).trans h323
    have h330 : opd ρ327 52 (.tmp 4) = .pointer (some ⟨g7, 0 + 0, none⟩) := (eρ327 4).trans h324
    have h331 : opd ρ327 52 (.tmp 6) = s310.v := (eρ327 6).trans h325
    have h332 : opd ρ327 52 (.tmp 7) = .int .i64 (i44 : Int) := eρ327 7
    have h333 : opd ρ327 52 (.tmp 21) = .int .i64 (i44 : Int) := (eρ327 21).trans h326
    clear eρ327
    obtain ⟨x336, hx336, hF⟩ := Option.bind_eq_some_iff.1 hF
    refine wcut (fun ρ' w' => ∃ (H337 : Hp) (gg340 : Option Nat) (g339 : Nat), Hle H312 H337 ∧ opd ρ' 52 (.tmp 2) = .pointer (some ⟨g3, 0 + 0, none⟩) ∧ opd ρ' 52 (.tmp 3) = .pointer (some ⟨g5, 0 + 0, none⟩) ∧ opd ρ' 52 (.tmp 4) = .pointer (some ⟨g7, 0 + 0, none⟩) ∧ opd ρ' 52 (.tmp 6) = s310.v ∧ opd ρ' 52 (.tmp 7) = .int .i64 (i44 : Int) ∧ opd ρ' 52 (.tmp 8) = .pointer (some ⟨g339, 0 + 0, none⟩) ∧ opd ρ' 52 (.tmp 21) = .int .i64 (i44 : Int) ∧ Inv B w' H337 [.cb g3 [ckV flB a0] 29, .cb g5 [ckL s1, ckL s2] 31, .cb g7 [ckV flB (Vec.rep 32 0)] 29, .own s310 29 32 gg340, .cb g339 [ckV (flV flB 32) x336] 182]) ?_ ?_
    ·skip
     replace hF := hx336
     refine dstG (H0 := H312) (L0 := keepL [true, true, true, true] [.cb g3 [ckV flB a0] 29, .cb g5 [ckL s1, ckL s2] 31, .cb g7 [ckV flB (Vec.rep 32 0)] 29, .own s310 29 32 gg311]) [13] mixed rfl (by repeat (first | exact Pan.body | refine Pan.then ?_ | refine Pan.inBlock ?_ | refine Pan.noGoto ?_ | refine Pan.pure ?_)) hI (hI.good.weakm _ (Hle.refl _) rfl) ?_
     intro w350 hI hP
     refine dp (v := .pointer (some ⟨g5, 0 + 0, none⟩)) 0 (by kernel_rfl) rfl rfl (fun _ => l_fa (j := 0) (i := 0) rfl fl31_0 h329 rfl) rfl hP ?_
     refine dp (v := .int .i64 (i44 : Int)) 2 (by kernel_rfl) rfl rfl (fun _ => r_mv rfl h332) rfl hP ?_
     refine dp (v := .pointer (some ⟨g5, 0 + 1, none⟩)) 6 (by kernel_rfl) rfl rfl (fun _ => l_fa (j := 0) (i := 0) rfl fl31_1 h329 rfl) rfl hP ?_
     refine dp (v := .int .i64 (i44 : Int)) 8 (by kernel_rfl) rfl rfl (fun _ => r_mv rfl h332) rfl hP ?_
     refine dr (v := s1.v) 1 (by kernel_rfl) rfl rfl (hI.good.weakm [true, true, true, true] (Hle.refl _) rfl) (fun _ hG => r_cl1 (off := 0) (p := 0) (hG.ca 1 rfl) rfl sc27 rfl rfl rfl) rfl hP ?_
     obtain ⟨x351, hx351, hF⟩ := Option.bind_eq_some_iff.1 hF
     obtain ⟨b352, j353, hix354, hil355, hA356⟩ := (hs1.mono hleH312).ixf hx351
     replace hA356 : At H312 b352 j353 [ckV flB x351] := hA356
     refine dp (v := .pointer (some ⟨b352, j353 + 0, none⟩)) 3 (by kernel_rfl) rfl rfl (fun _ => r_ixt rfl sl27 rfl rfl rfl hix354 hil355) rfl hP ?_
     refine dr (v := .agg (flat [ckV flB x351]).toArray) 4 (by kernel_rfl) rfl rfl (hI.good.weakm [true, true, true, true] (Hle.refl _) rfl) (fun _ hG => r_cla (off := 0) (p := 0) (m := 1) (hA356.ca hG) rfl ag29 rfl rfl rfl) rfl hP ?_
     refine dr (v := s2.v) 7 (by kernel_rfl) rfl rfl (hI.good.weakm [true, true, true, true] (Hle.refl _) rfl) (fun _ hG => r_cl1 (off := 1) (p := 1) (hG.ca 1 rfl) rfl sc27 rfl rfl rfl) rfl hP ?_
     obtain ⟨x357, hx357, hF⟩ := Option.bind_eq_some_iff.1 hF
     obtain ⟨b358, j359, hix360, hil361, hA362⟩ := (hs2.mono hleH312).ixf hx357
     replace hA362 : At H312 b358 j359 [ckV flB x357] := hA362
     refine dp (v := .pointer (some ⟨b358, j359 + 0, none⟩)) 9 (by kernel_rfl) rfl rfl (fun _ => r_ixt rfl sl27 rfl rfl rfl hix360 hil361) rfl hP ?_
     refine dr (v := .agg (flat [ckV flB x357]).toArray) 10 (by kernel_rfl) rfl rfl (hI.good.weakm [true, true, true, true] (Hle.refl _) rfl) (fun _ hG => r_cla (off := 0) (p := 0) (m := 1) (hA362.ca hG) rfl ag29 rfl rfl rfl) rfl hP ?_
     refine dtwo 5 12 (by kernel_rfl) ?_ ?_
     ·skip
      obtain ⟨x363, hx363, hF⟩ := Option.bind_eq_some_iff.1 hF
      have hsp366 := spec_104 hx363 (hT.mono hleH312) (hI.part 0) 
      refine do_fc ([]) ([.cb g3 [ckV flB a0] 29, .cb g5 [ckL s1, ckL s2] 31, .cb g7 [ckV flB (Vec.rep 32 0)] 29, .own s310 29 32 gg311]) (args := [.agg (flat [ckV flB x351]).toArray]) fc104 rfl rfl rfl rfl hI (argc rfl rfl) (hsp366) ?_
      rintro _ H364 _ w365 ⟨rfl, rfl⟩ hleH364 hI
      replace hI : Inv B w365 H364 [.cb g3 [ckV flB a0] 29, .cb g5 _ 31, .cb g7 _ 29, .own s310 29 32 gg311] := hI
      refine ⟨(hI.good.weakm [true, true, true, true] hleH364 rfl), ?_⟩
      refine dp (v := .agg (flat [ckV (flV flB 32) (⟨[x363, x357], rfl⟩ : Vec (Vec UInt8 32) 2)]).toArray) 11 (by kernel_rfl) rfl rfl (fun _ => r_bldv (f := (flV flB 32)) (xs := [x363, x357]) (vs := [.agg (flat [ckV flB x363]).toArray, .agg (flat [ckV flB x357]).toArray]) rfl ze182 rfl ar182 rfl (argc rfl (argc rfl rfl)) rfl) rfl hP ?_
      refine de 12 (by kernel_rfl) rfl rfl rfl (l_al hI rfl ze182) rfl ?_
      rintro _ w368 ⟨g367, rfl, hI⟩
      replace hI : Inv B w368 H364 [.cb g3 [ckV flB a0] 29, .cb g5 _ 31, .cb g7 _ 29, .own s310 29 32 gg311, .cb g367 [ckV (flV flB 32) (Vec.rep 2 (Vec.rep 32 0))] 182] := hI
      refine ⟨(hI.good.weakm [true, true, true, true, false] hleH364 rfl), ?_⟩
      refine dsl 13 (by kernel_rfl) rfl rfl rfl (l_st (off := 0) (p := 0) (m := 1) (new := [ckV (flV flB 32) (⟨[x363, x357], rfl⟩ : Vec (Vec UInt8 32) 2)]) hI 4 rfl rfl sz182 rfl rfl rfl rfl rfl rfl) rfl ?_
      intro w369 hI
      replace hI : Inv B w369 H364 [.cb g3 [ckV flB a0] 29, .cb g5 _ 31, .cb g7 _ 29, .own s310 29 32 gg311, .cb g367 [ckV (flV flB 32) (⟨[x363, x357], rfl⟩ : Vec (Vec UInt8 32) 2)] 182] := hI
      refine dend (by kernel_rfl) ?_
      obtain rfl := Option.some.inj hF
      exact wmid ⟨H364, gg311, g367, hleH364, h328, h329, h330, h331, h332, rfl, h333, hI⟩
     ·skip
      refine do_e rfl rfl (l_al hI rfl ze182) rfl ?_
      rintro _ w371 ⟨g370, rfl, hI⟩
      replace hI : Inv B w371 H312 [.cb g3 [ckV flB a0] 29, .cb g5 _ 31, .cb g7 _ 29, .own s310 29 32 gg311, .cb g370 [ckV (flV flB 32) (Vec.rep 2 (Vec.rep 32 0))] 182] := hI
      refine ⟨(hI.good.weakm [true, true, true, true, false] (Hle.refl _) rfl), ?_⟩
      obtain ⟨x372, hx372, hF⟩ := Option.bind_eq_some_iff.1 hF
      have hsp375 := spec_104 hx372 (hT.mono hleH312) (hI.part 0) 
      refine dfc 5 ([]) ([.cb g3 [ckV flB a0] 29, .cb g5 [ckL s1, ckL s2] 31, .cb g7 [ckV flB (Vec.rep 32 0)] 29, .own s310 29 32 gg311, .cb g370 [ckV (flV flB 32) (Vec.rep 2 (Vec.rep 32 0))] 182]) (args := [.agg (flat [ckV flB x351]).toArray]) fc104 (by kernel_rfl) rfl rfl rfl rfl rfl hI (argc rfl rfl) (hsp375) ?_
      rintro _ H373 _ w374 ⟨rfl, rfl⟩ hleH373 hI
      replace hI : Inv B w374 H373 [.cb g3 [ckV flB a0] 29, .cb g5 _ 31, .cb g7 _ 29, .own s310 29 32 gg311, .cb g370 _ 182] := hI
      refine ⟨(hI.good.weakm [true, true, true, true, false] hleH373 rfl), ?_⟩
      refine dp (v := .agg (flat [ckV (flV flB 32) (⟨[x372, x357], rfl⟩ : Vec (Vec UInt8 32) 2)]).toArray) 11 (by kernel_rfl) rfl rfl (fun _ => r_bldv (f := (flV flB 32)) (xs := [x372, x357]) (vs := [.agg (flat [ckV flB x372]).toArray, .agg (flat [ckV flB x357]).toArray]) rfl ze182 rfl ar182 rfl (argc rfl (argc rfl rfl)) rfl) rfl hP ?_
      refine dsl 13 (by kernel_rfl) rfl rfl rfl (l_st (off := 0) (p := 0) (m := 1) (new := [ckV (flV flB 32) (⟨[x372, x357], rfl⟩ : Vec (Vec UInt8 32) 2)]) hI 4 rfl rfl sz182 rfl rfl rfl rfl rfl rfl) rfl ?_
      intro w376 hI
      replace hI : Inv B w376 H373 [.cb g3 [ckV flB a0] 29, .cb g5 _ 31, .cb g7 _ 29, .own s310 29 32 gg311, .cb g370 [ckV (flV flB 32) (⟨[x372, x357], rfl⟩ : Vec (Vec UInt8 32) 2)] 182] := hI
      refine dend (by kernel_rfl) ?_
      obtain rfl := Option.some.inj hF
      exact wmid ⟨H373, gg311, g370, hleH373, h328, h329, h330, h331, h332, rfl, h333, hI⟩
    rintro ρ341 w338 ⟨H337, gg340, g339, hleH337, h342, h343, h344, h345, h346, h347, h348, hI⟩
    refine wseq ?_
    refine wreg ?_
    refine lv (v := .agg (flat [ckV flB a0]).toArray) rfl (r_cla (off := 0) (p := 0) (m := 1) (hI.good.ca 0 rfl) rfl ag29 h342 rfl rfl) rfl ?_
    refine lv (v := .int .i64 (i44 : Int)) rfl (r_mv rfl h346) rfl ?_
    obtain ⟨x377, hx377, hF⟩ := Option.bind_eq_some_iff.1 hF
    have hsp380 := spec_105 hx377 ((hT.mono hleH312).mono hleH337) (hI.part 0) 
    refine fc ([]) ([.cb g3 [ckV flB a0] 29, .cb g5 [ckL s1, ckL s2] 31, .cb g7 [ckV flB (Vec.rep 32 0)] 29, .own s310 29 32 gg340, .cb g339 [ckV (flV flB 32) x336] 182]) (args := [.agg (flat [ckV flB a0]).toArray, .int .i64 (i44 : Int)]) fc105 rfl rfl rfl hI (argc rfl (argc rfl rfl)) (hsp380) ?_
    rintro _ H378 _ w379 ⟨rfl, rfl⟩ hleH378 hI
    replace hI : Inv B w379 H378 [.cb g3 [ckV flB a0] 29, .cb g5 _ 31, .cb g7 _ 29, .own s310 29 32 gg340, .cb g339 [ckV (flV flB 32) x336] 182] := hI
    refine lv (v := .int .i64 x377) rfl (r_as rfl rfl) rfl ?_
    refine wend ?_
    refine wthen ?_
    refine wren (fun ρ381 eρ381 => ?_)
    have h382 : opd ρ381 52 (.tmp 2) = .pointer (some ⟨g3, 0 + 0, none⟩) := (eρ381 2).trans h342
    have h383 : opd ρ381 52 (.tmp 3) = .pointer (some ⟨g5, 0 + 0, none⟩) := (eρ381 3).trans h343
    have h384 : opd ρ381 52 (.tmp 4) = .pointer (some ⟨g7, 0 + 0, none⟩) := (eρ381 4).trans h344
    have h385 : opd ρ381 52 (.tmp 6) = s310.v := (eρ381 6).trans h345
    have h386 : opd ρ381 52 (.tmp 8) = .pointer (some ⟨g339, 0 + 0, none⟩) := (eρ381 8).trans h347
    have h387 : opd ρ381 52 (.tmp 9) = .int .i64 x377 := eρ381 9
    have h388 : opd ρ381 52 (.tmp 21) = .int .i64 (i44 : Int) := (eρ381 21).trans h348
    clear eρ381
    refine dstG (H0 := H378) (L0 := keepL [true, true, true, true, true] [.cb g3 [ckV flB a0] 29, .cb g5 [ckL s1, ckL s2] 31, .cb g7 [ckV flB (Vec.rep 32 0)] 29, .own s310 29 32 gg340, .cb g339 [ckV (flV flB 32) x336] 182]) [9] mixed rfl (by repeat (first | exact Pan.body | refine Pan.then ?_ | refine Pan.inBlock ?_ | refine Pan.noGoto ?_ | refine Pan.pure ?_)) hI (hI.good.weakm _ (Hle.refl _) rfl) ?_
    intro w389 hI hP
    refine dp (v := s310.v) 0 (by kernel_rfl) rfl rfl (fun _ => r_mv rfl h385) rfl hP ?_
    refine dp (v := .int .i64 x377) 1 (by kernel_rfl) rfl rfl (fun _ => r_mv rfl h387) rfl hP ?_
    obtain ⟨x390, hx390, hF⟩ := Option.bind_eq_some_iff.1 hF
    obtain ⟨q391, eq391⟩ : ∃ z, z = 0 + 0 + ((x377 : Int).toNat) * 32 := ⟨_, rfl⟩
    refine dp (v := .pointer (some ⟨g339, q391 + 0, none⟩)) 2 (by kernel_rfl) rfl rfl (fun _ => r_ixq rfl ar182 h386 rfl (ixI_some hx390).2 (Vec.lt (ixI_some hx390).1) eq391) rfl hP ?_
    refine dp (v := .int .i64 x377) 4 (by kernel_rfl) rfl rfl (fun _ => r_mv rfl h387) rfl hP ?_
    refine dp (v := .int .i64 (wI ((1 : Int) - x377))) 5 (by kernel_rfl) rfl rfl (fun _ => r_subw rfl rfl rfl) rfl hP ?_
    obtain ⟨x392, hx392, hF⟩ := Option.bind_eq_some_iff.1 hF
    obtain ⟨q393, eq393⟩ : ∃ z, z = 0 + 0 + ((wI ((1 : Int) - x377) : Int).toNat) * 32 := ⟨_, rfl⟩
    refine dp (v := .pointer (some ⟨g339, q393 + 0, none⟩)) 6 (by kernel_rfl) rfl rfl (fun _ => r_ixq rfl ar182 h386 rfl (ixI_some hx392).2 (Vec.lt (ixI_some hx392).1) eq393) rfl hP ?_
    refine dr (v := .agg (flat [ckV flB x390]).toArray) 3 (by kernel_rfl) rfl rfl (hI.good.weakm [true, true, true, true, true] (Hle.refl _) rfl) (fun _ hG => r_cla (off := 0) (p := 0) (m := 1) (CA.el (f := (flV flB 32)) (m := 2) (off := 0) (p := 0) (hG.ca 4 rfl) rfl rfl (ixI_some hx390).1 eq391) rfl ag29 rfl rfl rfl) rfl hP ?_
    refine dr (v := .agg (flat [ckV flB x392]).toArray) 7 (by kernel_rfl) rfl rfl (hI.good.weakm [true, true, true, true, true] (Hle.refl _) rfl) (fun _ hG => r_cla (off := 0) (p := 0) (m := 1) (CA.el (f := (flV flB 32)) (m := 2) (off := 0) (p := 0) (hG.ca 4 rfl) rfl rfl (ixI_some hx392).1 eq393) rfl ag29 rfl rfl rfl) rfl hP ?_
    refine de 8 (by kernel_rfl) rfl rfl rfl (l_bs (t := (Fl.ty (flV flB 32))) (vs := [.agg (flat [ckV flB x390]).toArray, .agg (flat [ckV flB x392]).toArray]) (xs := [x390, x392]) hI rfl sl27 inf29 rfl rfl (argc rfl (argc rfl rfl)) (.cons rfl rfl (.cons rfl rfl .nil)) rfl) rfl ?_
    rintro _ w396 ⟨s394, H395, rfl, hI, hleH395, hs394, hfs394, hgs394⟩
    refine ⟨(hI.good.weakm [true, true, true, true, true] hleH395 rfl), ?_⟩
    obtain ⟨x397, hx397, hF⟩ := Option.bind_eq_some_iff.1 hF
    refine del 9 (by kernel_rfl) rfl rfl rfl (l_app (t := (Fl.ty (flV flB 32))) hI 3 rfl rfl sl27 inf29 rfl rfl rfl rfl (((hs310.mono hleH337).mono hleH378).mono hleH395) hs394 (appI_some hx397).1) rfl ?_
    rintro _ w401 ⟨s398, H399, gg400, rfl, hI, hleH399, hs398⟩
    rw [← (appI_some hx397).2] at hs398
    replace hI : Inv B w401 H399 [.cb g3 [ckV flB a0] 29, .cb g5 _ 31, .cb g7 _ 29, .own s398 29 32 gg400, .cb g339 _ 182] := hI
    refine dp (v := s398.v) 10 (by kernel_rfl) rfl rfl (fun _ => r_as rfl rfl) rfl hP ?_
    refine dend (by kernel_rfl) ?_
    refine inN ?_
    refine wthen ?_
    refine wren (fun ρ402 eρ402 => ?_)
    have h403 : opd ρ402 52 (.tmp 2) = .pointer (some ⟨g3, 0 + 0, none⟩) := (eρ402 2).trans h382
    have h404 : opd ρ402 52 (.tmp 3) = .pointer (some ⟨g5, 0 + 0, none⟩) := (eρ402 3).trans h383
    have h405 : opd ρ402 52 (.tmp 4) = .pointer (some ⟨g7, 0 + 0, none⟩) := (eρ402 4).trans h384
    have h406 : opd ρ402 52 (.tmp 6) = s398.v := eρ402 6
    have h407 : opd ρ402 52 (.tmp 21) = .int .i64 (i44 : Int) := (eρ402 21).trans h388
    clear eρ402
    refine wreg ?_
    refine lv (v := .int .i64 ((i44 + 1 : Nat) : Int)) rfl (r_addn rfl h407 rfl hlt44) rfl ?_
    refine lv (v := .int .i64 ((i44 + 1 : Nat) : Int)) rfl (r_mv rfl rfl) rfl ?_
    refine wend ?_
    obtain rfl := Option.some.inj hF
    exact ⟨k44, x397, _, rfl, rfl, ⟨H399, s398, gg400, ((((hleH312.trans hleH337).trans hleH378).trans hleH395).trans hleH399), h403, h404, h405, h406, rfl, hs398, (hI.keep [true, true, true, true, false])⟩, forK_inl hy44 hb44⟩
   ·skip
    have hbhc320 : (decide ((i44 : Int) < 32)) = false := decide_eq_false hc320
    obtain rfl : k44 = 0 := by omega
    obtain rfl := forK_end hy44
    have hF := hF44
    try dsimp only at hF
    refine wcF ((show opd _ _ _ = _ from rfl).trans (congrArg Value.bool hbhc320)) ?_
    refine wp_exit ?_
    refine thE ?_
    refine thE ?_
    refine inX ?_
    refine wthen ?_
    refine wren (fun ρ408 eρ408 => ?_)
    have h409 : opd ρ408 52 (.tmp 4) = .pointer (some ⟨g7, 0 + 0, none⟩) := (eρ408 4).trans h315
    have h410 : opd ρ408 52 (.tmp 6) = s310.v := (eρ408 6).trans h316
    clear eρ408
    refine wseq ?_
    refine wreg ?_
    refine lv (v := s310.v) rfl (r_mv rfl h410) rfl ?_
    obtain ⟨x411, hx411, hF⟩ := Option.bind_eq_some_iff.1 hF
    have hsp414 := spec_106 hx411 (hT.mono hleH312) (hI.part 0) hs310
    refine fc ([]) ([.cb g3 [ckV flB a0] 29, .cb g5 [ckL s1, ckL s2] 31, .cb g7 [ckV flB (Vec.rep 32 0)] 29, .own s310 29 32 gg311]) (args := [s310.v]) fc106 rfl rfl rfl hI (argc rfl rfl) (hsp414) ?_
    rintro _ H412 _ w413 ⟨rfl, rfl⟩ hleH412 hI
    replace hI : Inv B w413 H412 [.cb g3 [ckV flB a0] 29, .cb g5 _ 31, .cb g7 _ 29, .own s310 29 32 gg311] := hI
    refine lst rfl (l_st (off := 0) (p := 0) (m := 1) (new := [ckV flB x411]) hI 2 rfl rfl sz29 h409 rfl rfl rfl rfl rfl) rfl ?_
    intro w415 hI
    replace hI : Inv B w415 H412 [.cb g3 [ckV flB a0] 29, .cb g5 _ 31, .cb g7 [ckV flB x411] 29, .own s310 29 32 gg311] := hI
    refine lv (v := .bool true) rfl (r_as rfl rfl) rfl ?_
    refine wend ?_
    refine wthen ?_
    refine wren (fun ρ416 eρ416 => ?_)
    have h417 : opd ρ416 52 (.tmp 4) = .pointer (some ⟨g7, 0 + 0, none⟩) := (eρ416 4).trans h409
    have h418 : opd ρ416 52 (.tmp 5) = .bool true := eρ416 5
    clear eρ416
    refine wp_ret ?_
    obtain rfl := Option.some.inj hF
    subst hB
    refine finR (rs := [.cell 4 29, .tmp 5]) (vs := [.agg (flat [ckV flB x411]).toArray, .bool true]) rfl ⟨⟨_, h417, ld_agg (hI.good.ca 2 rfl) ag29 rfl⟩, h418, trivial⟩ ?_
    exact hI.fin 0 ⟨rfl, rfl⟩
noncomputable def M_sha_Pair (a0 : UInt8) (a1 : Vec UInt8 32) (a2 : Vec UInt8 32) : Option ((Vec UInt8 32)) := ((M_sha_Of [[a0], a1.l, a2.l]).bind fun x25 => some x25)
set_option maxHeartbeats 1000000 in
theorem spec_107 {w : World} {H : Hp} {a0 : UInt8} {a1 : Vec UInt8 32} {a2 : Vec UInt8 32}  {r : (Vec UInt8 32)} (hF : M_sha_Pair a0 a1 a2 = some r) (hT : Tab H) (hG : Good w H [])  :
  Fine Tryd.prog 107 [bv a0, .agg (flat [ckV flB a1]).toArray, .agg (flat [ckV flB a2]).toArray] w H [] (fun H' v L' => v = .agg (flat [ckV flB r]).toArray ∧ L' = []) := by
 unfold M_sha_Pair at hF
 unfold Fine
 obtain ⟨B, hB⟩ : ∃ B : Base, B = ⟨w, H, blks []⟩ := ⟨_, rfl⟩
 have hI : Inv B w H [] := by rw [hB]; exact Inv.start hG
 refine enter (n := 13) (args := [bv a0, .agg (flat [ckV flB a1]).toArray, .agg (flat [ckV flB a2]).toArray]) Tryd.func107 rfl Tryd.ntmps107 (Nat.le_of_ble_eq_true rfl) ?_
 refine wseq ?_
 refine wreg ?_
 refine le rfl (l_box (cks := [ckV flB a1]) hI rfl rfl rfl) rfl ?_
 rintro _ w2 ⟨g1, rfl, hI⟩
 replace hI : Inv B w2 H [.cb g1 [ckV flB a1] 29] := hI
 refine le rfl (l_box (cks := [ckV flB a2]) hI rfl rfl rfl) rfl ?_
 rintro _ w4 ⟨g3, rfl, hI⟩
 replace hI : Inv B w4 H [.cb g1 [ckV flB a1] 29, .cb g3 [ckV flB a2] 29] := hI
 refine le rfl (l_al hI rfl ze29) rfl ?_
 rintro _ w6 ⟨g5, rfl, hI⟩
 replace hI : Inv B w6 H [.cb g1 [ckV flB a1] 29, .cb g3 [ckV flB a2] 29, .cb g5 [ckV flB (Vec.rep 32 0)] 29] := hI
 refine wend ?_
 refine wthen ?_
 refine wren (fun ρ7 eρ7 => ?_)
 have h8 : opd ρ7 13 (.tmp 0) = bv a0 := eρ7 0
 have h9 : opd ρ7 13 (.tmp 4) = .pointer (some ⟨g1, 0 + 0, none⟩) := eρ7 4
 have h10 : opd ρ7 13 (.tmp 5) = .pointer (some ⟨g3, 0 + 0, none⟩) := eρ7 5
 have h11 : opd ρ7 13 (.tmp 6) = .pointer (some ⟨g5, 0 + 0, none⟩) := eρ7 6
 clear eρ7
 refine wseq ?_
 refine dstG (H0 := H) (L0 := keepL [false, false, true] [.cb g1 [ckV flB a1] 29, .cb g3 [ckV flB a2] 29, .cb g5 [ckV flB (Vec.rep 32 0)] 29]) [6] mixed rfl (by repeat (first | exact Pan.body | refine Pan.then ?_ | refine Pan.inBlock ?_ | refine Pan.noGoto ?_ | refine Pan.pure ?_)) hI (hI.good.weakm _ (Hle.refl _) rfl) ?_
 intro w12 hI hP
 refine dp (v := bv a0) 0 (by kernel_rfl) rfl rfl (fun _ => r_mv rfl h8) rfl hP ?_
 obtain ⟨H13, hI, hleH13, hA14⟩ := hI.freeze' 0 rfl
 replace hI : Inv B w12 H13 [.cb g3 [ckV flB a2] 29, .cb g5 _ 29] := hI
 replace hA14 : At H13 g1 0 [ckV flB a1] := hA14
 have hs15 := At.sl (f := flB) (m := 32) (off := 0) (p := 0) hA14 rfl rfl rfl
 obtain ⟨s15, es15⟩ : ∃ z : Sv, z = ⟨some ⟨g1, 0 + 0, none⟩, 32, 32⟩ := ⟨_, rfl⟩
 rw [← es15] at hs15
 have hfs15 : s15.n = s15.c := by rw [es15]
 refine dp (v := s15.v) 2 (by kernel_rfl) rfl rfl (fun _ => (by rw [es15]; exact r_sla' rfl ar29 h9)) rfl hP ?_
 obtain ⟨H16, hI, hleH16, hA17⟩ := hI.freeze' 0 rfl
 replace hI : Inv B w12 H16 [.cb g5 _ 29] := hI
 replace hA17 : At H16 g3 0 [ckV flB a2] := hA17
 have hs18 := At.sl (f := flB) (m := 32) (off := 0) (p := 0) hA17 rfl rfl rfl
 obtain ⟨s18, es18⟩ : ∃ z : Sv, z = ⟨some ⟨g3, 0 + 0, none⟩, 32, 32⟩ := ⟨_, rfl⟩
 rw [← es18] at hs18
 have hfs18 : s18.n = s18.c := by rw [es18]
 refine dp (v := s18.v) 3 (by kernel_rfl) rfl rfl (fun _ => (by rw [es18]; exact r_sla' rfl ar29 h10)) rfl hP ?_
 refine de 1 (by kernel_rfl) rfl rfl rfl (l_bs (t := (Fl.ty flB)) (vs := [bv a0]) (xs := [a0]) hI rfl sl158 inf5 rfl rfl (argc rfl rfl) (.cons rfl rfl .nil) rfl) rfl ?_
 rintro _ w21 ⟨s19, H20, rfl, hI, hleH20, hs19, hfs19, hgs19⟩
 refine ⟨(hI.good.weakm [true] ((hleH13.trans hleH16).trans hleH20) rfl), ?_⟩
 refine de 4 (by kernel_rfl) rfl rfl rfl (l_bs (t := (Ty.sl (Fl.ty flB))) (vs := [s19.v, s15.v, s18.v]) (xs := [[a0], a1.l, a2.l]) hI rfl sl228 inf158 rfl rfl (argc rfl (argc rfl (argc rfl rfl))) (.cons rfl ⟨s19, rfl, hs19⟩ (.cons rfl ⟨s15, rfl, ((hs15.mono hleH16).mono hleH20)⟩ (.cons rfl ⟨s18, rfl, (hs18.mono hleH20)⟩ .nil))) rfl) rfl ?_
 rintro _ w24 ⟨s22, H23, rfl, hI, hleH23, hs22, hfs22, hgs22⟩
 refine ⟨(hI.good.weakm [true] (((hleH13.trans hleH16).trans hleH20).trans hleH23) rfl), ?_⟩
 obtain ⟨x25, hx25, hF⟩ := Option.bind_eq_some_iff.1 hF
 have hsp28 := spec_99 hx25 ((((hT.mono hleH13).mono hleH16).mono hleH20).mono hleH23) (hI.part 0) hs22
 refine dfc 5 ([]) ([.cb g5 [ckV flB (Vec.rep 32 0)] 29]) (args := [s22.v]) fc99 (by kernel_rfl) rfl rfl rfl rfl rfl hI (argc rfl rfl) (hsp28) ?_
 rintro _ H26 _ w27 ⟨rfl, rfl⟩ hleH26 hI
 replace hI : Inv B w27 H26 [.cb g5 _ 29] := hI
 refine ⟨(hI.good.weakm [true] ((((hleH13.trans hleH16).trans hleH20).trans hleH23).trans hleH26) rfl), ?_⟩
 refine dsl 6 (by kernel_rfl) rfl rfl rfl (l_st (off := 0) (p := 0) (m := 1) (new := [ckV flB x25]) hI 0 rfl rfl sz29 h11 rfl rfl rfl rfl rfl) rfl ?_
 intro w29 hI
 replace hI : Inv B w29 H26 [.cb g5 [ckV flB x25] 29] := hI
 refine dend (by kernel_rfl) ?_
 refine wthen ?_
 refine wren (fun ρ30 eρ30 => ?_)
 have h31 : opd ρ30 13 (.tmp 6) = .pointer (some ⟨g5, 0 + 0, none⟩) := (eρ30 6).trans h11
 clear eρ30
 refine wp_ret ?_
 obtain rfl := Option.some.inj hF
 subst hB
 refine finR (rs := [.cell 6 29]) (vs := [.agg (flat [ckV flB x25]).toArray]) rfl ⟨⟨_, h31, ld_agg (hI.good.ca 0 rfl) ag29 rfl⟩, trivial⟩ ?_
 exact hI.fin 0 ⟨rfl, rfl⟩
noncomputable def M_tree_Check (a0 : Vec UInt8 32) (a1 : Vec UInt8 32) (a2 : Int) (a3 : Int) (a4 : List (Vec UInt8 32)) : Option (Bool) := (if a2 < 0 then some false else (if a3 ≤ a2 then some false else (runL (fun (σ32 : Int × Int × (List (Vec UInt8 32)) × (Vec UInt8 32)) => ((if (1 : Int) < σ32.2.1 then (((if σ32.2.1 ≤ (bits .xor .i64 σ32.1 1) then some (.inl (σ32.2.2.1, σ32.2.2.2)) else (if (σ32.2.2.1.length : Int) = 0 then ((((some false).map Sum.inr)).map Sum.inr) else (if (bits .xor .i64 σ32.1 1) < σ32.1 then ((σ32.2.2.1[0]?).bind fun x298 => ((M_sha_Pair 1 x298 σ32.2.2.2).bind fun x304 => ((cutI σ32.2.2.1 1 (σ32.2.2.1.length : Int)).bind fun x315 => some (.inl (x315, x304))))) else ((σ32.2.2.1[0]?).bind fun x318 => ((M_sha_Pair 1 σ32.2.2.2 x318).bind fun x324 => ((cutI σ32.2.2.1 1 (σ32.2.2.1.length : Int)).bind fun x335 => some (.inl (x335, x324)))))))) : Option (((List (Vec UInt8 32)) × (Vec UInt8 32)) ⊕ ((Int × Int × (List (Vec UInt8 32)) × (Vec UInt8 32)) ⊕ Bool))).bind fun y => match y with | .inl x249 => some (.inl (wI (Int.tdiv σ32.1 2), wI ((wI (Int.tdiv (wI (σ32.2.1 - 1)) 2)) + 1), x249.1, x249.2)) | .inr r => some r) else (((if (σ32.2.2.1.length : Int) = 0 then some (decide (σ32.2.2.2 = a0)) else some false)).map Sum.inr)) : Option ((Int × Int × (List (Vec UInt8 32)) × (Vec UInt8 32)) ⊕ Bool))) (a2, a3, a4, a1))))
set_option maxHeartbeats 4000000 in
theorem spec_60 {w : World} {H : Hp} {a0 : Vec UInt8 32} {a1 : Vec UInt8 32} {a2 : Int} {a3 : Int} {a4 : List (Vec UInt8 32)} {s1 : Sv} {r : Bool} (hF : M_tree_Check a0 a1 a2 a3 a4 = some r) (hT : Tab H) (hG : Good w H []) (hs1 : Sl (Fl.ty (flV flB 32)) H s1 a4) :
  Fine Tryd.prog 60 [.agg (flat [ckV flB a0]).toArray, .agg (flat [ckV flB a1]).toArray, .int .i64 a2, .int .i64 a3, s1.v] w H [] (fun H' v L' => v = .bool r ∧ L' = []) := by
 unfold M_tree_Check at hF
 unfold Fine
 obtain ⟨B, hB⟩ : ∃ B : Base, B = ⟨w, H, blks []⟩ := ⟨_, rfl⟩
 have hI : Inv B w H [] := by rw [hB]; exact Inv.start hG
 refine enter (n := 58) (args := [.agg (flat [ckV flB a0]).toArray, .agg (flat [ckV flB a1]).toArray, .int .i64 a2, .int .i64 a3, s1.v]) Tryd.func60 rfl Tryd.ntmps60 (Nat.le_of_ble_eq_true rfl) ?_
 refine wseq ?_
 refine wreg ?_
 refine le rfl (l_box (cks := [ckV flB a0]) hI rfl rfl rfl) rfl ?_
 rintro _ w3 ⟨g2, rfl, hI⟩
 replace hI : Inv B w3 H [.cb g2 [ckV flB a0] 29] := hI
 refine le rfl (l_box (cks := [ckV flB a1]) hI rfl rfl rfl) rfl ?_
 rintro _ w5 ⟨g4, rfl, hI⟩
 replace hI : Inv B w5 H [.cb g2 [ckV flB a0] 29, .cb g4 [ckV flB a1] 29] := hI
 refine lv (v := .bool false) rfl (r_as rfl rfl) rfl ?_
 refine wend ?_
 refine wthen ?_
 refine wren (fun ρ6 eρ6 => ?_)
 have h7 : opd ρ6 58 (.tmp 2) = .int .i64 a2 := eρ6 2
 have h8 : opd ρ6 58 (.tmp 3) = .int .i64 a3 := eρ6 3
 have h9 : opd ρ6 58 (.tmp 4) = s1.v := eρ6 4
 have h10 : opd ρ6 58 (.tmp 5) = .pointer (some ⟨g2, 0 + 0, none⟩) := eρ6 5
 have h11 : opd ρ6 58 (.tmp 6) = .pointer (some ⟨g4, 0 + 0, none⟩) := eρ6 6
 clear eρ6
 refine wseq ?_
 refine wseq ?_
 refine wreg ?_
 refine lv (v := .int .i64 a2) rfl (r_mv rfl h7) rfl ?_
 refine lv (v := .bool (decide (a2 < 0))) rfl (r_lss rfl rfl rfl rfl) rfl ?_
 by_cases hc12 : a2 < 0
 ·skip
  rw [if_pos hc12] at hF
  have hbhc12 : (decide (a2 < 0)) = true := decide_eq_true hc12
  refine lv (v := .bool true) rfl (r_mv rfl ((show opd _ _ _ = _ from rfl).trans (congrArg Value.bool hbhc12))) rfl ?_
  with_reducible refine lx (d := 15) (by kernel_rfl) (by kernel_rfl) ?_
  with_reducible refine lx (d := 16) (by kernel_rfl) (by kernel_rfl) ?_
  with_reducible refine lx (d := 17) (by kernel_rfl) (by kernel_rfl) ?_
  refine lv (v := .bool true) rfl (r_pkT rfl rfl rfl) rfl ?_
  refine wend ?_
  refine wthen ?_
  refine wren (fun ρ13 eρ13 => ?_)
  have h14 : opd ρ13 58 (.tmp 2) = .int .i64 a2 := (eρ13 2).trans h7
  have h15 : opd ρ13 58 (.tmp 3) = .int .i64 a3 := (eρ13 3).trans h8
  have h16 : opd ρ13 58 (.tmp 4) = s1.v := (eρ13 4).trans h9
  have h17 : opd ρ13 58 (.tmp 5) = .pointer (some ⟨g2, 0 + 0, none⟩) := (eρ13 5).trans h10
  have h18 : opd ρ13 58 (.tmp 6) = .pointer (some ⟨g4, 0 + 0, none⟩) := (eρ13 6).trans h11
  have h19 : opd ρ13 58 (.tmp 18) = .bool true := eρ13 18
  clear eρ13
  refine wcT h19 ?_
  refine wseq ?_
  refine wreg ?_
  refine lv (v := .bool false) rfl (r_as rfl rfl) rfl ?_
  refine wend ?_
  refine wthen ?_
  refine wren (fun ρ20 eρ20 => ?_)
  have h21 : opd ρ20 58 (.tmp 10) = .bool false := eρ20 10
  clear eρ20
  refine wp_ret ?_
  refine thR ?_
  obtain rfl := Option.some.inj hF
  subst hB
  refine finR (rs := [.tmp 10]) (vs := [.bool false]) rfl ⟨h21, trivial⟩ ?_
  exact hI.fin 0 ⟨rfl, rfl⟩
 ·skip
  rw [if_neg hc12] at hF
  have hbhc12 : (decide (a2 < 0)) = false := decide_eq_false hc12
  refine lv (v := .bool false) rfl (r_mv rfl ((show opd _ _ _ = _ from rfl).trans (congrArg Value.bool hbhc12))) rfl ?_
  refine lv (v := .int .i64 a2) rfl (r_mv rfl h7) rfl ?_
  refine lv (v := .int .i64 a3) rfl (r_mv rfl h8) rfl ?_
  refine lv (v := .bool (decide (a3 ≤ a2))) rfl (r_geq rfl rfl rfl rfl) rfl ?_
  refine lv (v := .bool (decide (a3 ≤ a2))) rfl (r_pkF rfl rfl rfl) rfl ?_
  refine wend ?_
  refine wthen ?_
  refine wren (fun ρ22 eρ22 => ?_)
  have h23 : opd ρ22 58 (.tmp 2) = .int .i64 a2 := (eρ22 2).trans h7
  have h24 : opd ρ22 58 (.tmp 3) = .int .i64 a3 := (eρ22 3).trans h8
  have h25 : opd ρ22 58 (.tmp 4) = s1.v := (eρ22 4).trans h9
  have h26 : opd ρ22 58 (.tmp 5) = .pointer (some ⟨g2, 0 + 0, none⟩) := (eρ22 5).trans h10
  have h27 : opd ρ22 58 (.tmp 6) = .pointer (some ⟨g4, 0 + 0, none⟩) := (eρ22 6).trans h11
  have h28 : opd ρ22 58 (.tmp 18) = .bool (decide (a3 ≤ a2)) := eρ22 18
  clear eρ22
  by_cases hc29 : a3 ≤ a2
  ·skip
   rw [if_pos hc29] at hF
   have hbhc29 : (decide (a3 ≤ a2)) = true := decide_eq_true hc29
   refine wcT (h28.trans (congrArg Value.bool hbhc29)) ?_
   refine wseq ?_
   refine wreg ?_
   refine lv (v := .bool false) rfl (r_as rfl rfl) rfl ?_
   refine wend ?_
   refine wthen ?_
   refine wren (fun ρ30 eρ30 => ?_)
   have h31 : opd ρ30 58 (.tmp 10) = .bool false := eρ30 10
   clear eρ30
   refine wp_ret ?_
   refine thR ?_
   obtain rfl := Option.some.inj hF
   subst hB
   refine finR (rs := [.tmp 10]) (vs := [.bool false]) rfl ⟨h31, trivial⟩ ?_
   exact hI.fin 0 ⟨rfl, rfl⟩
  ·skip
   rw [if_neg hc29] at hF
   have hbhc29 : (decide (a3 ≤ a2)) = false := decide_eq_false hc29
   refine wcF (h28.trans (congrArg Value.bool hbhc29)) ?_
   refine wp_skip ?_
   refine wthen ?_
   refine wseq ?_
   refine wp_block ?_
   refine wrun (n := 58) _ (fun (σ32 : Int × Int × (List (Vec UInt8 32)) × (Vec UInt8 32)) ρ' w' => ∃ (H231 : Hp) (s230 : Sv), Hle H H231 ∧ opd ρ' 58 (.tmp 2) = .int .i64 σ32.1 ∧ opd ρ' 58 (.tmp 3) = .int .i64 σ32.2.1 ∧ opd ρ' 58 (.tmp 4) = s230.v ∧ opd ρ' 58 (.tmp 5) = .pointer (some ⟨g2, 0 + 0, none⟩) ∧ opd ρ' 58 (.tmp 6) = .pointer (some ⟨g4, 0 + 0, none⟩) ∧ Sl (Fl.ty (flV flB 32)) H231 s230 σ32.2.2.1 ∧ Inv B w' H231 [.cb g2 [ckV flB a0] 29, .cb g4 [ckV flB σ32.2.2.2] 29]) hF ⟨H, s1, (Hle.refl _), h23, h24, h25, h26, h27, hs1, hI⟩ ?_
   rintro k32 σ32 ρ237 w238 ⟨H231, s230, hleH231, h232, h233, h234, h235, h236, hs230, hI⟩ hy32
   obtain ⟨z32, hb32⟩ := iterK_body hy32
   have hF := hb32
   refine wseq ?_
   refine wseq ?_
   refine wreg ?_
   refine lv (v := .int .i64 σ32.2.1) rfl (r_mv rfl h233) rfl ?_
   refine lv (v := .bool (decide ((1 : Int) < σ32.2.1))) rfl (r_gtr rfl rfl rfl rfl) rfl ?_
   refine wend ?_
   refine wthen ?_
   refine wren (fun ρ239 eρ239 => ?_)
   have h240 : opd ρ239 58 (.tmp 2) = .int .i64 σ32.1 := (eρ239 2).trans h232
   have h241 : opd ρ239 58 (.tmp 3) = .int .i64 σ32.2.1 := (eρ239 3).trans h233
   have h242 : opd ρ239 58 (.tmp 4) = s230.v := (eρ239 4).trans h234
   have h243 : opd ρ239 58 (.tmp 5) = .pointer (some ⟨g2, 0 + 0, none⟩) := (eρ239 5).trans h235
   have h244 : opd ρ239 58 (.tmp 6) = .pointer (some ⟨g4, 0 + 0, none⟩) := (eρ239 6).trans h236
   have h245 : opd ρ239 58 (.tmp 20) = .bool (decide ((1 : Int) < σ32.2.1)) := eρ239 20
   clear eρ239
   by_cases hc246 : (1 : Int) < σ32.2.1
   ·skip
    rw [if_pos hc246] at hF
    have hbhc246 : (decide ((1 : Int) < σ32.2.1)) = true := decide_eq_true hc246
    refine wcT (h245.trans (congrArg Value.bool hbhc246)) ?_
    refine wp_skip ?_
    refine wthen ?_
    obtain ⟨y259, hx249, hFy259⟩ := Option.bind_eq_some_iff.1 hF
    refine wcut (fun ρ' w' => ∃ (x249 : (List (Vec UInt8 32)) × (Vec UInt8 32)), y259 = .inl x249 ∧ ∃ (H250 : Hp) (s252 : Sv), Hle H231 H250 ∧ opd ρ' 58 (.tmp 2) = .int .i64 σ32.1 ∧ opd ρ' 58 (.tmp 3) = .int .i64 σ32.2.1 ∧ opd ρ' 58 (.tmp 4) = s252.v ∧ opd ρ' 58 (.tmp 5) = .pointer (some ⟨g2, 0 + 0, none⟩) ∧ opd ρ' 58 (.tmp 6) = .pointer (some ⟨g4, 0 + 0, none⟩) ∧ Sl (Fl.ty (flV flB 32)) H250 s252 x249.1 ∧ Inv B w' H250 [.cb g2 [ckV flB a0] 29, .cb g4 [ckV flB x249.2] 29]) ?_ ?_
    ·skip
     have hF := hx249
     refine wp_block ?_
     refine wseq ?_
     refine wreg ?_
     refine lv (v := .int .i64 σ32.1) rfl (r_mv rfl h240) rfl ?_
     refine lv (v := .int .i64 (bits .xor .i64 σ32.1 1)) rfl (r_xor rfl rfl rfl) rfl ?_
     refine lv (v := .int .i64 (bits .xor .i64 σ32.1 1)) rfl (r_as rfl rfl) rfl ?_
     refine wend ?_
     refine wthen ?_
     refine wren (fun ρ260 eρ260 => ?_)
     have h261 : opd ρ260 58 (.tmp 2) = .int .i64 σ32.1 := (eρ260 2).trans h240
     have h262 : opd ρ260 58 (.tmp 3) = .int .i64 σ32.2.1 := (eρ260 3).trans h241
     have h263 : opd ρ260 58 (.tmp 4) = s230.v := (eρ260 4).trans h242
     have h264 : opd ρ260 58 (.tmp 5) = .pointer (some ⟨g2, 0 + 0, none⟩) := (eρ260 5).trans h243
     have h265 : opd ρ260 58 (.tmp 6) = .pointer (some ⟨g4, 0 + 0, none⟩) := (eρ260 6).trans h244
     have h266 : opd ρ260 58 (.tmp 11) = .int .i64 (bits .xor .i64 σ32.1 1) := eρ260 11
     clear eρ260
     refine wseq ?_
     refine wseq ?_
     refine wreg ?_
     refine lv (v := .int .i64 (bits .xor .i64 σ32.1 1)) rfl (r_mv rfl h266) rfl ?_
     refine lv (v := .int .i64 σ32.2.1) rfl (r_mv rfl h262) rfl ?_
     refine lv (v := .bool (decide (σ32.2.1 ≤ (bits .xor .i64 σ32.1 1)))) rfl (r_geq rfl rfl rfl rfl) rfl ?_
     refine wend ?_
     refine wthen ?_
     refine wren (fun ρ267 eρ267 => ?_)
     have h268 : opd ρ267 58 (.tmp 2) = .int .i64 σ32.1 := (eρ267 2).trans h261
     have h269 : opd ρ267 58 (.tmp 3) = .int .i64 σ32.2.1 := (eρ267 3).trans h262
     have h270 : opd ρ267 58 (.tmp 4) = s230.v := (eρ267 4).trans h263
     have h271 : opd ρ267 58 (.tmp 5) = .pointer (some ⟨g2, 0 + 0, none⟩) := (eρ267 5).trans h264
     have h272 : opd ρ267 58 (.tmp 6) = .pointer (some ⟨g4, 0 + 0, none⟩) := (eρ267 6).trans h265
     have h273 : opd ρ267 58 (.tmp 11) = .int .i64 (bits .xor .i64 σ32.1 1) := (eρ267 11).trans h266
     have h274 : opd ρ267 58 (.tmp 31) = .bool (decide (σ32.2.1 ≤ (bits .xor .i64 σ32.1 1))) := eρ267 31
     clear eρ267
     by_cases hc275 : σ32.2.1 ≤ (bits .xor .i64 σ32.1 1)
     ·skip
      rw [if_pos hc275] at hF
      have hbhc275 : (decide (σ32.2.1 ≤ (bits .xor .i64 σ32.1 1))) = true := decide_eq_true hc275
      refine wcT (h274.trans (congrArg Value.bool hbhc275)) ?_
      refine wp_exit ?_
      refine thE ?_
      refine inX ?_
      have hF0 := hFy259
      obtain rfl := Option.some.inj hF
      exact wmid ⟨_, rfl, H231, s230, (Hle.refl _), h268, h269, h270, h271, h272, hs230, hI⟩
     ·skip
      rw [if_neg hc275] at hF
      have hbhc275 : (decide (σ32.2.1 ≤ (bits .xor .i64 σ32.1 1))) = false := decide_eq_false hc275
      refine wcF (h274.trans (congrArg Value.bool hbhc275)) ?_
      refine wp_skip ?_
      refine wthen ?_
      refine wseq ?_
      refine wseq ?_
      refine wreg ?_
      refine lv (v := s230.v) rfl (r_mv rfl h270) rfl ?_
      refine lv (v := .int .i64 (σ32.2.2.1.length : Int)) rfl (r_lenS rfl sl27 rfl hs230) rfl ?_
      refine lv (v := .bool (decide ((σ32.2.2.1.length : Int) = 0))) rfl (r_eql rfl rfl rfl rfl) rfl ?_
      refine wend ?_
      refine wthen ?_
      refine wren (fun ρ276 eρ276 => ?_)
      have h277 : opd ρ276 58 (.tmp 2) = .int .i64 σ32.1 := (eρ276 2).trans h268
      have h278 : opd ρ276 58 (.tmp 3) = .int .i64 σ32.2.1 := (eρ276 3).trans h269
      have h279 : opd ρ276 58 (.tmp 4) = s230.v := (eρ276 4).trans h270
      have h280 : opd ρ276 58 (.tmp 5) = .pointer (some ⟨g2, 0 + 0, none⟩) := (eρ276 5).trans h271
      have h281 : opd ρ276 58 (.tmp 6) = .pointer (some ⟨g4, 0 + 0, none⟩) := (eρ276 6).trans h272
      have h282 : opd ρ276 58 (.tmp 11) = .int .i64 (bits .xor .i64 σ32.1 1) := (eρ276 11).trans h273
      have h283 : opd ρ276 58 (.tmp 34) = .bool (decide ((σ32.2.2.1.length : Int) = 0)) := eρ276 34
      clear eρ276
      by_cases hc284 : (σ32.2.2.1.length : Int) = 0
      ·skip
       rw [if_pos hc284] at hF
       have hbhc284 : (decide ((σ32.2.2.1.length : Int) = 0)) = true := decide_eq_true hc284
       refine wcT (h283.trans (congrArg Value.bool hbhc284)) ?_
       refine wseq ?_
       refine wreg ?_
       refine lv (v := .bool false) rfl (r_as rfl rfl) rfl ?_
       refine wend ?_
       refine wthen ?_
       refine wren (fun ρ285 eρ285 => ?_)
       have h286 : opd ρ285 58 (.tmp 10) = .bool false := eρ285 10
       clear eρ285
       refine wp_ret ?_
       refine thR ?_
       refine inR ?_
       refine thR ?_
       obtain ⟨q287, hFn, hzq287⟩ := Option.map_eq_some_iff.1 hF
       clear hF
       subst hzq287
       have hF0 := hFy259
       try dsimp only at hF0
       have hF := hFn.trans hF0
       clear hFn hF0
       refine thR ?_
       obtain ⟨q288, hFn, hzq288⟩ := Option.map_eq_some_iff.1 hF
       clear hF
       have hy0 := iterK_inr hy32 (hb32.trans (congrArg some hzq288.symm))
       rw [← hy0] at hFn
       have hF := hFn
       clear hFn
       refine inR ?_
       refine thR ?_
       obtain rfl := Option.some.inj hF
       subst hB
       refine finR (rs := [.tmp 10]) (vs := [.bool false]) rfl ⟨h286, trivial⟩ ?_
       exact hI.fin 0 ⟨rfl, rfl⟩
      ·skip
       rw [if_neg hc284] at hF
       have hbhc284 : (decide ((σ32.2.2.1.length : Int) = 0)) = false := decide_eq_false hc284
       refine wcF (h283.trans (congrArg Value.bool hbhc284)) ?_
       refine wp_skip ?_
       refine wthen ?_
       refine wseq ?_
       refine wseq ?_
       refine wreg ?_
       refine lv (v := .int .i64 (bits .xor .i64 σ32.1 1)) rfl (r_mv rfl h282) rfl ?_
       refine lv (v := .int .i64 σ32.1) rfl (r_mv rfl h277) rfl ?_
       refine lv (v := .bool (decide ((bits .xor .i64 σ32.1 1) < σ32.1))) rfl (r_lss rfl rfl rfl rfl) rfl ?_
       refine wend ?_
       refine wthen ?_
       refine wren (fun ρ289 eρ289 => ?_)
       have h290 : opd ρ289 58 (.tmp 2) = .int .i64 σ32.1 := (eρ289 2).trans h277
       have h291 : opd ρ289 58 (.tmp 3) = .int .i64 σ32.2.1 := (eρ289 3).trans h278
       have h292 : opd ρ289 58 (.tmp 4) = s230.v := (eρ289 4).trans h279
       have h293 : opd ρ289 58 (.tmp 5) = .pointer (some ⟨g2, 0 + 0, none⟩) := (eρ289 5).trans h280
       have h294 : opd ρ289 58 (.tmp 6) = .pointer (some ⟨g4, 0 + 0, none⟩) := (eρ289 6).trans h281
       have h295 : opd ρ289 58 (.tmp 37) = .bool (decide ((bits .xor .i64 σ32.1 1) < σ32.1)) := eρ289 37
       clear eρ289
       by_cases hc296 : (bits .xor .i64 σ32.1 1) < σ32.1
       ·skip
        rw [if_pos hc296] at hF
        have hbhc296 : (decide ((bits .xor .i64 σ32.1 1) < σ32.1)) = true := decide_eq_true hc296
        refine wcT (h295.trans (congrArg Value.bool hbhc296)) ?_
        refine dstG (H0 := H231) (L0 := keepL [true, true] [.cb g2 [ckV flB a0] 29, .cb g4 [ckV flB σ32.2.2.2] 29]) [5] mixed rfl (by repeat (first | exact Pan.body | refine Pan.then ?_ | refine Pan.inBlock ?_ | refine Pan.noGoto ?_ | refine Pan.pure ?_)) hI (hI.good.weakm _ (Hle.refl _) rfl) ?_
        intro w297 hI hP
        refine dp (v := s230.v) 0 (by kernel_rfl) rfl rfl (fun _ => r_mv rfl h292) rfl hP ?_
        obtain ⟨x298, hx298, hF⟩ := Option.bind_eq_some_iff.1 hF
        obtain ⟨b299, j300, hix301, hil302, hA303⟩ := hs230.ixf hx298
        replace hA303 : At H231 b299 j300 [ckV flB x298] := hA303
        refine dp (v := .pointer (some ⟨b299, j300 + 0, none⟩)) 1 (by kernel_rfl) rfl rfl (fun _ => r_ixt rfl sl27 rfl rfl rfl hix301 hil302) rfl hP ?_
        refine dr (v := .agg (flat [ckV flB x298]).toArray) 2 (by kernel_rfl) rfl rfl (hI.good.weakm [true, true] (Hle.refl _) rfl) (fun _ hG => r_cla (off := 0) (p := 0) (m := 1) (hA303.ca hG) rfl ag29 rfl rfl rfl) rfl hP ?_
        refine dr (v := .agg (flat [ckV flB σ32.2.2.2]).toArray) 3 (by kernel_rfl) rfl rfl (hI.good.weakm [true, true] (Hle.refl _) rfl) (fun _ hG => r_cla (off := 0) (p := 0) (m := 1) (hG.ca 1 rfl) rfl ag29 h294 rfl rfl) rfl hP ?_
        obtain ⟨x304, hx304, hF⟩ := Option.bind_eq_some_iff.1 hF
        have hsp307 := spec_107 hx304 (hT.mono hleH231) (hI.part 0) 
        refine dfc 4 ([]) ([.cb g2 [ckV flB a0] 29, .cb g4 [ckV flB σ32.2.2.2] 29]) (args := [bv 1, .agg (flat [ckV flB x298]).toArray, .agg (flat [ckV flB σ32.2.2.2]).toArray]) fc107 (by kernel_rfl) rfl rfl rfl rfl rfl hI (argc rfl (argc rfl (argc rfl rfl))) (hsp307) ?_
        rintro _ H305 _ w306 ⟨rfl, rfl⟩ hleH305 hI
        replace hI : Inv B w306 H305 [.cb g2 [ckV flB a0] 29, .cb g4 [ckV flB σ32.2.2.2] 29] := hI
        refine ⟨(hI.good.weakm [true, true] hleH305 rfl), ?_⟩
        refine dsl 5 (by kernel_rfl) rfl rfl rfl (l_st (off := 0) (p := 0) (m := 1) (new := [ckV flB x304]) hI 1 rfl rfl sz29 h294 rfl rfl rfl rfl rfl) rfl ?_
        intro w308 hI
        replace hI : Inv B w308 H305 [.cb g2 [ckV flB a0] 29, .cb g4 [ckV flB x304] 29] := hI
        refine dend (by kernel_rfl) ?_
        refine wthen ?_
        refine wren (fun ρ309 eρ309 => ?_)
        have h310 : opd ρ309 58 (.tmp 2) = .int .i64 σ32.1 := (eρ309 2).trans h290
        have h311 : opd ρ309 58 (.tmp 3) = .int .i64 σ32.2.1 := (eρ309 3).trans h291
        have h312 : opd ρ309 58 (.tmp 4) = s230.v := (eρ309 4).trans h292
        have h313 : opd ρ309 58 (.tmp 5) = .pointer (some ⟨g2, 0 + 0, none⟩) := (eρ309 5).trans h293
        have h314 : opd ρ309 58 (.tmp 6) = .pointer (some ⟨g4, 0 + 0, none⟩) := (eρ309 6).trans h294
        clear eρ309
        refine wreg ?_
        refine lv (v := s230.v) rfl (r_mv rfl h312) rfl ?_
        obtain ⟨x315, hx315, hF⟩ := Option.bind_eq_some_iff.1 hF
        obtain ⟨s316, es316⟩ : ∃ z : Sv, z = s230.cut (1 : Int).toNat s230.n 32 := ⟨_, rfl⟩
        have es316' : s316 = s230.cut (1 : Int).toNat (σ32.2.2.1.length : Int).toNat 32 := by rw [es316, (hs230.mono hleH305).n, (Int.toNat_natCast _ : (σ32.2.2.1.length : Int).toNat = _)]
        have hs316 := Sl.cutI (hs230.mono hleH305) hx315 es316'
        refine lv (v := s316.v) rfl (s_sll rfl sl27 rfl rfl (hs230.mono hleH305) hx315 es316) rfl ?_
        refine lv (v := s316.v) rfl (r_as rfl rfl) rfl ?_
        refine wend ?_
        refine inN ?_
        have hF0 := hFy259
        obtain rfl := Option.some.inj hF
        exact wmid ⟨_, rfl, H305, s316, hleH305, h310, h311, rfl, h313, h314, hs316, hI⟩
       ·skip
        rw [if_neg hc296] at hF
        have hbhc296 : (decide ((bits .xor .i64 σ32.1 1) < σ32.1)) = false := decide_eq_false hc296
        refine wcF (h295.trans (congrArg Value.bool hbhc296)) ?_
        refine dstG (H0 := H231) (L0 := keepL [true, true] [.cb g2 [ckV flB a0] 29, .cb g4 [ckV flB σ32.2.2.2] 29]) [5] mixed rfl (by repeat (first | exact Pan.body | refine Pan.then ?_ | refine Pan.inBlock ?_ | refine Pan.noGoto ?_ | refine Pan.pure ?_)) hI (hI.good.weakm _ (Hle.refl _) rfl) ?_
        intro w317 hI hP
        refine dp (v := s230.v) 1 (by kernel_rfl) rfl rfl (fun _ => r_mv rfl h292) rfl hP ?_
        obtain ⟨x318, hx318, hF⟩ := Option.bind_eq_some_iff.1 hF
        obtain ⟨b319, j320, hix321, hil322, hA323⟩ := hs230.ixf hx318
        replace hA323 : At H231 b319 j320 [ckV flB x318] := hA323
        refine dp (v := .pointer (some ⟨b319, j320 + 0, none⟩)) 2 (by kernel_rfl) rfl rfl (fun _ => r_ixt rfl sl27 rfl rfl rfl hix321 hil322) rfl hP ?_
        refine dr (v := .agg (flat [ckV flB σ32.2.2.2]).toArray) 0 (by kernel_rfl) rfl rfl (hI.good.weakm [true, true] (Hle.refl _) rfl) (fun _ hG => r_cla (off := 0) (p := 0) (m := 1) (hG.ca 1 rfl) rfl ag29 h294 rfl rfl) rfl hP ?_
        refine dr (v := .agg (flat [ckV flB x318]).toArray) 3 (by kernel_rfl) rfl rfl (hI.good.weakm [true, true] (Hle.refl _) rfl) (fun _ hG => r_cla (off := 0) (p := 0) (m := 1) (hA323.ca hG) rfl ag29 rfl rfl rfl) rfl hP ?_
        obtain ⟨x324, hx324, hF⟩ := Option.bind_eq_some_iff.1 hF
        have hsp327 := spec_107 hx324 (hT.mono hleH231) (hI.part 0) 
        refine dfc 4 ([]) ([.cb g2 [ckV flB a0] 29, .cb g4 [ckV flB σ32.2.2.2] 29]) (args := [bv 1, .agg (flat [ckV flB σ32.2.2.2]).toArray, .agg (flat [ckV flB x318]).toArray]) fc107 (by kernel_rfl) rfl rfl rfl rfl rfl hI (argc rfl (argc rfl (argc rfl rfl))) (hsp327) ?_
        rintro _ H325 _ w326 ⟨rfl, rfl⟩ hleH325 hI
        replace hI : Inv B w326 H325 [.cb g2 [ckV flB a0] 29, .cb g4 _ 29] := hI
        refine ⟨(hI.good.weakm [true, true] hleH325 rfl), ?_⟩
        refine dsl 5 (by kernel_rfl) rfl rfl rfl (l_st (off := 0) (p := 0) (m := 1) (new := [ckV flB x324]) hI 1 rfl rfl sz29 h294 rfl rfl rfl rfl rfl) rfl ?_
        intro w328 hI
        replace hI : Inv B w328 H325 [.cb g2 [ckV flB a0] 29, .cb g4 [ckV flB x324] 29] := hI
        refine dend (by kernel_rfl) ?_
        refine wthen ?_
        refine wren (fun ρ329 eρ329 => ?_)
        have h330 : opd ρ329 58 (.tmp 2) = .int .i64 σ32.1 := (eρ329 2).trans h290
        have h331 : opd ρ329 58 (.tmp 3) = .int .i64 σ32.2.1 := (eρ329 3).trans h291
        have h332 : opd ρ329 58 (.tmp 4) = s230.v := (eρ329 4).trans h292
        have h333 : opd ρ329 58 (.tmp 5) = .pointer (some ⟨g2, 0 + 0, none⟩) := (eρ329 5).trans h293
        have h334 : opd ρ329 58 (.tmp 6) = .pointer (some ⟨g4, 0 + 0, none⟩) := (eρ329 6).trans h294
        clear eρ329
        refine wreg ?_
        refine lv (v := s230.v) rfl (r_mv rfl h332) rfl ?_
        obtain ⟨x335, hx335, hF⟩ := Option.bind_eq_some_iff.1 hF
        obtain ⟨s336, es336⟩ : ∃ z : Sv, z = s230.cut (1 : Int).toNat s230.n 32 := ⟨_, rfl⟩
        have es336' : s336 = s230.cut (1 : Int).toNat (σ32.2.2.1.length : Int).toNat 32 := by rw [es336, (hs230.mono hleH325).n, (Int.toNat_natCast _ : (σ32.2.2.1.length : Int).toNat = _)]
        have hs336 := Sl.cutI (hs230.mono hleH325) hx335 es336'
        refine lv (v := s336.v) rfl (s_sll rfl sl27 rfl rfl (hs230.mono hleH325) hx335 es336) rfl ?_
        refine lv (v := s336.v) rfl (r_as rfl rfl) rfl ?_
        refine wend ?_
        refine inN ?_
        have hF0 := hFy259
        obtain rfl := Option.some.inj hF
        exact wmid ⟨_, rfl, H325, s336, hleH325, h330, h331, rfl, h333, h334, hs336, hI⟩
    rintro ρ253 w251 ⟨x249, rfl, H250, s252, hleH250, h254, h255, h256, h257, h258, hs252, hI⟩
    have hF := hFy259
    try dsimp only at hF
    refine wreg ?_
    refine lv (v := .int .i64 σ32.1) rfl (r_mv rfl h254) rfl ?_
    refine lv (v := .int .i64 (wI (Int.tdiv σ32.1 2))) rfl (r_quo rfl rfl rfl (by decide)) rfl ?_
    refine lv (v := .int .i64 σ32.2.1) rfl (r_mv rfl h255) rfl ?_
    refine lv (v := .int .i64 (wI (σ32.2.1 - 1))) rfl (r_subw rfl rfl rfl) rfl ?_
    refine lv (v := .int .i64 (wI (Int.tdiv (wI (σ32.2.1 - 1)) 2))) rfl (r_quo rfl rfl rfl (by decide)) rfl ?_
    refine lv (v := .int .i64 (wI ((wI (Int.tdiv (wI (σ32.2.1 - 1)) 2)) + 1))) rfl (r_addw rfl rfl rfl) rfl ?_
    refine lv (v := .int .i64 (wI (Int.tdiv σ32.1 2))) rfl (r_as rfl rfl) rfl ?_
    refine lv (v := .int .i64 (wI ((wI (Int.tdiv (wI (σ32.2.1 - 1)) 2)) + 1))) rfl (r_as rfl rfl) rfl ?_
    refine wend ?_
    obtain rfl := Option.some.inj hF
    exact ⟨(wI (Int.tdiv σ32.1 2), wI ((wI (Int.tdiv (wI (σ32.2.1 - 1)) 2)) + 1), x249.1, x249.2), _, rfl, ⟨H250, s252, (hleH231.trans hleH250), rfl, rfl, h256, h257, h258, hs252, hI⟩, iterK_inl hy32 hb32⟩
   ·skip
    rw [if_neg hc246] at hF
    have hbhc246 : (decide ((1 : Int) < σ32.2.1)) = false := decide_eq_false hc246
    refine wcF (h245.trans (congrArg Value.bool hbhc246)) ?_
    refine wp_exit ?_
    refine thE ?_
    refine thE ?_
    obtain ⟨q337, hFn, hzq337⟩ := Option.map_eq_some_iff.1 hF
    clear hF
    have hy0 := iterK_inr hy32 (hb32.trans (congrArg some hzq337.symm))
    rw [← hy0] at hFn
    have hF := hFn
    clear hFn
    refine inX ?_
    refine wthen ?_
    refine wseq ?_
    refine wreg ?_
    refine lv (v := s230.v) rfl (r_mv rfl h242) rfl ?_
    refine lv (v := .int .i64 (σ32.2.2.1.length : Int)) rfl (r_lenS rfl sl27 rfl hs230) rfl ?_
    refine lv (v := .bool (decide ((σ32.2.2.1.length : Int) = 0))) rfl (r_eql rfl rfl rfl rfl) rfl ?_
    by_cases hc338 : (σ32.2.2.1.length : Int) = 0
    ·skip
     rw [if_pos hc338] at hF
     have hbhc338 : (decide ((σ32.2.2.1.length : Int) = 0)) = true := decide_eq_true hc338
     refine lv (v := .bool true) rfl (r_mv rfl ((show opd _ _ _ = _ from rfl).trans (congrArg Value.bool hbhc338))) rfl ?_
     refine lv (v := .agg (flat [ckV flB σ32.2.2.2]).toArray) rfl (r_cla (off := 0) (p := 0) (m := 1) (hI.good.ca 1 rfl) rfl ag29 h244 rfl rfl) rfl ?_
     refine lv (v := .agg (flat [ckV flB a0]).toArray) rfl (r_cla (off := 0) (p := 0) (m := 1) (hI.good.ca 0 rfl) rfl ag29 h243 rfl rfl) rfl ?_
     refine lv (v := .bool (decide (σ32.2.2.2 = a0))) rfl (r_eqb rfl ba29 rfl rfl) rfl ?_
     refine lv (v := .bool (decide (σ32.2.2.2 = a0))) rfl (r_pkT rfl rfl rfl) rfl ?_
     refine lv (v := .bool (decide (σ32.2.2.2 = a0))) rfl (r_as rfl rfl) rfl ?_
     refine wend ?_
     refine wthen ?_
     refine wren (fun ρ339 eρ339 => ?_)
     have h340 : opd ρ339 58 (.tmp 10) = .bool (decide (σ32.2.2.2 = a0)) := eρ339 10
     clear eρ339
     refine wp_ret ?_
     obtain rfl := Option.some.inj hF
     subst hB
     refine finR (rs := [.tmp 10]) (vs := [.bool (decide (σ32.2.2.2 = a0))]) rfl ⟨h340, trivial⟩ ?_
     exact hI.fin 0 ⟨rfl, rfl⟩
    ·skip
     rw [if_neg hc338] at hF
     have hbhc338 : (decide ((σ32.2.2.1.length : Int) = 0)) = false := decide_eq_false hc338
     refine lv (v := .bool false) rfl (r_mv rfl ((show opd _ _ _ = _ from rfl).trans (congrArg Value.bool hbhc338))) rfl ?_
     with_reducible refine lx (d := 54) (by kernel_rfl) (by kernel_rfl) ?_
     with_reducible refine lx (d := 55) (by kernel_rfl) (by kernel_rfl) ?_
     with_reducible refine lx (d := 56) (by kernel_rfl) (by kernel_rfl) ?_
     refine lv (v := .bool false) rfl (r_pkF rfl rfl rfl) rfl ?_
     refine lv (v := .bool false) rfl (r_as rfl rfl) rfl ?_
     refine wend ?_
     refine wthen ?_
     refine wren (fun ρ341 eρ341 => ?_)
     have h342 : opd ρ341 58 (.tmp 10) = .bool false := eρ341 10
     clear eρ341
     refine wp_ret ?_
     obtain rfl := Option.some.inj hF
     subst hB
     refine finR (rs := [.tmp 10]) (vs := [.bool false]) rfl ⟨h342, trivial⟩ ?_
     exact hI.fin 0 ⟨rfl, rfl⟩
noncomputable def M_tree_Leaf (a0 : List UInt8) : Option ((Vec UInt8 32)) := ((M_sha_Of [[0], a0]).bind fun x13 => some x13)
set_option maxHeartbeats 1000000 in
theorem spec_108 {w : World} {H : Hp} {a0 : List UInt8} {s1 : Sv} {r : (Vec UInt8 32)} (hF : M_tree_Leaf a0 = some r) (hT : Tab H) (hG : Good w H []) (hs1 : Sl (Fl.ty flB) H s1 a0) :
  Fine Tryd.prog 108 [s1.v] w H [] (fun H' v L' => v = .agg (flat [ckV flB r]).toArray ∧ L' = []) := by
 unfold M_tree_Leaf at hF
 unfold Fine
 obtain ⟨B, hB⟩ : ∃ B : Base, B = ⟨w, H, blks []⟩ := ⟨_, rfl⟩
 have hI : Inv B w H [] := by rw [hB]; exact Inv.start hG
 refine enter (n := 7) (args := [s1.v]) Tryd.func108 rfl Tryd.ntmps108 (Nat.le_of_ble_eq_true rfl) ?_
 refine wseq ?_
 refine wreg ?_
 refine le rfl (l_al hI rfl ze29) rfl ?_
 rintro _ w3 ⟨g2, rfl, hI⟩
 replace hI : Inv B w3 H [.cb g2 [ckV flB (Vec.rep 32 0)] 29] := hI
 refine wend ?_
 refine wthen ?_
 refine wren (fun ρ4 eρ4 => ?_)
 have h5 : opd ρ4 7 (.tmp 0) = s1.v := eρ4 0
 have h6 : opd ρ4 7 (.tmp 2) = .pointer (some ⟨g2, 0 + 0, none⟩) := eρ4 2
 clear eρ4
 refine wseq ?_
 refine wreg ?_
 refine le rfl (l_bs (t := (Fl.ty flB)) (vs := [bv 0]) (xs := [0]) hI rfl sl158 inf5 rfl rfl (argc rfl rfl) (.cons rfl rfl .nil) rfl) rfl ?_
 rintro _ w9 ⟨s7, H8, rfl, hI, hleH8, hs7, hfs7, hgs7⟩
 refine lv (v := s1.v) rfl (r_mv rfl h5) rfl ?_
 refine le rfl (l_bs (t := (Ty.sl (Fl.ty flB))) (vs := [s7.v, s1.v]) (xs := [[0], a0]) hI rfl sl228 inf158 rfl rfl (argc rfl (argc rfl rfl)) (.cons rfl ⟨s7, rfl, hs7⟩ (.cons rfl ⟨s1, rfl, (hs1.mono hleH8)⟩ .nil)) rfl) rfl ?_
 rintro _ w12 ⟨s10, H11, rfl, hI, hleH11, hs10, hfs10, hgs10⟩
 obtain ⟨x13, hx13, hF⟩ := Option.bind_eq_some_iff.1 hF
 have hsp16 := spec_99 hx13 ((hT.mono hleH8).mono hleH11) (hI.part 0) hs10
 refine fc ([]) ([.cb g2 [ckV flB (Vec.rep 32 0)] 29]) (args := [s10.v]) fc99 rfl rfl rfl hI (argc rfl rfl) (hsp16) ?_
 rintro _ H14 _ w15 ⟨rfl, rfl⟩ hleH14 hI
 replace hI : Inv B w15 H14 [.cb g2 _ 29] := hI
 refine lst rfl (l_st (off := 0) (p := 0) (m := 1) (new := [ckV flB x13]) hI 0 rfl rfl sz29 h6 rfl rfl rfl rfl rfl) rfl ?_
 intro w17 hI
 replace hI : Inv B w17 H14 [.cb g2 [ckV flB x13] 29] := hI
 refine wend ?_
 refine wthen ?_
 refine wren (fun ρ18 eρ18 => ?_)
 have h19 : opd ρ18 7 (.tmp 2) = .pointer (some ⟨g2, 0 + 0, none⟩) := (eρ18 2).trans h6
 clear eρ18
 refine wp_ret ?_
 obtain rfl := Option.some.inj hF
 subst hB
 refine finR (rs := [.cell 2 29]) (vs := [.agg (flat [ckV flB x13]).toArray]) rfl ⟨⟨_, h19, ld_agg (hI.good.ca 0 rfl) ag29 rfl⟩, trivial⟩ ?_
 exact hI.fin 0 ⟨rfl, rfl⟩
noncomputable def M_keys_leaf (a0 : Vec UInt8 32) : Option ((Vec UInt8 32)) := ((M_tree_Leaf a0.l).bind fun x11 => some x11)
set_option maxHeartbeats 1000000 in
theorem spec_61 {w : World} {H : Hp} {a0 : Vec UInt8 32}  {r : (Vec UInt8 32)} (hF : M_keys_leaf a0 = some r) (hT : Tab H) (hG : Good w H [])  :
  Fine Tryd.prog 61 [.agg (flat [ckV flB a0]).toArray] w H [] (fun H' v L' => v = .agg (flat [ckV flB r]).toArray ∧ L' = []) := by
 unfold M_keys_leaf at hF
 unfold Fine
 obtain ⟨B, hB⟩ : ∃ B : Base, B = ⟨w, H, blks []⟩ := ⟨_, rfl⟩
 have hI : Inv B w H [] := by rw [hB]; exact Inv.start hG
 refine enter (n := 5) (args := [.agg (flat [ckV flB a0]).toArray]) Tryd.func61 rfl Tryd.ntmps61 (Nat.le_of_ble_eq_true rfl) ?_
 refine wseq ?_
 refine wreg ?_
 refine le rfl (l_box (cks := [ckV flB a0]) hI rfl rfl rfl) rfl ?_
 rintro _ w2 ⟨g1, rfl, hI⟩
 replace hI : Inv B w2 H [.cb g1 [ckV flB a0] 29] := hI
 refine le rfl (l_al hI rfl ze29) rfl ?_
 rintro _ w4 ⟨g3, rfl, hI⟩
 replace hI : Inv B w4 H [.cb g1 [ckV flB a0] 29, .cb g3 [ckV flB (Vec.rep 32 0)] 29] := hI
 refine wend ?_
 refine wthen ?_
 refine wren (fun ρ5 eρ5 => ?_)
 have h6 : opd ρ5 5 (.tmp 1) = .pointer (some ⟨g1, 0 + 0, none⟩) := eρ5 1
 have h7 : opd ρ5 5 (.tmp 2) = .pointer (some ⟨g3, 0 + 0, none⟩) := eρ5 2
 clear eρ5
 refine wseq ?_
 refine wreg ?_
 obtain ⟨H8, hI, hleH8, hA9⟩ := hI.freeze' 0 rfl
 replace hI : Inv B w4 H8 [.cb g3 _ 29] := hI
 replace hA9 : At H8 g1 0 [ckV flB a0] := hA9
 have hs10 := At.sl (f := flB) (m := 32) (off := 0) (p := 0) hA9 rfl rfl rfl
 obtain ⟨s10, es10⟩ : ∃ z : Sv, z = ⟨some ⟨g1, 0 + 0, none⟩, 32, 32⟩ := ⟨_, rfl⟩
 rw [← es10] at hs10
 have hfs10 : s10.n = s10.c := by rw [es10]
 refine lv (v := s10.v) rfl (by rw [es10]; exact r_sla' rfl ar29 h6) rfl ?_
 obtain ⟨x11, hx11, hF⟩ := Option.bind_eq_some_iff.1 hF
 have hsp14 := spec_108 hx11 (hT.mono hleH8) (hI.part 0) hs10
 refine fc ([]) ([.cb g3 [ckV flB (Vec.rep 32 0)] 29]) (args := [s10.v]) fc108 rfl rfl rfl hI (argc rfl rfl) (hsp14) ?_
 rintro _ H12 _ w13 ⟨rfl, rfl⟩ hleH12 hI
 replace hI : Inv B w13 H12 [.cb g3 _ 29] := hI
 refine lst rfl (l_st (off := 0) (p := 0) (m := 1) (new := [ckV flB x11]) hI 0 rfl rfl sz29 h7 rfl rfl rfl rfl rfl) rfl ?_
 intro w15 hI
 replace hI : Inv B w15 H12 [.cb g3 [ckV flB x11] 29] := hI
 refine wend ?_
 refine wthen ?_
 refine wren (fun ρ16 eρ16 => ?_)
 have h17 : opd ρ16 5 (.tmp 2) = .pointer (some ⟨g3, 0 + 0, none⟩) := (eρ16 2).trans h7
 clear eρ16
 refine wp_ret ?_
 obtain rfl := Option.some.inj hF
 subst hB
 refine finR (rs := [.cell 2 29]) (vs := [.agg (flat [ckV flB x11]).toArray]) rfl ⟨⟨_, h17, ld_agg (hI.good.ca 0 rfl) ag29 rfl⟩, trivial⟩ ?_
 exact hI.fin 0 ⟨rfl, rfl⟩
noncomputable def M_keys_Check (a0 : Key) (a1 : Vec UInt8 32) (a2 : Sig) : Option (Bool) := ((M_once_Of a1 a2.Once).bind fun x14 => (if x14.2 = true then (if (0 : Int) ≤ a0.Height then (if a0.Height ≤ 6 then (if (0 : Int) ≤ a0.Height then ((M_keys_leaf x14.1).bind fun x31 => ((M_tree_Check a0.Root x31 a2.Leaf (shlI (1 : Int) a0.Height) a2.Path).bind fun x35 => some x35)) else none) else some false) else some false) else some false))
set_option maxHeartbeats 4000000 in
theorem spec_26 {w : World} {H : Hp} {a0 : Key} {a1 : Vec UInt8 32} {a2 : Sig} {s1 : Sv} {s2 : Sv} {s3 : Sv} {r : Bool} (hF : M_keys_Check a0 a1 a2 = some r) (hT : Tab H) (hG : Good w H []) (hs1 : Sl (Fl.ty (flV flB 32)) H s1 a2.Once.Open) (hs2 : Sl (Fl.ty (flV flB 32)) H s2 a2.Once.Shut) (hs3 : Sl (Fl.ty (flV flB 32)) H s3 a2.Path) :
  Fine Tryd.prog 26 [.agg (flat [ckV flB a0.Root, ckI a0.Height]).toArray, .agg (flat [ckV flB a1]).toArray, .agg (flat [ckI a2.Leaf, ckL s1, ckL s2, ckL s3]).toArray] w H [] (fun H' v L' => v = .bool r ∧ L' = []) := by
 unfold M_keys_Check at hF
 unfold Fine
 obtain ⟨B, hB⟩ : ∃ B : Base, B = ⟨w, H, blks []⟩ := ⟨_, rfl⟩
 have hI : Inv B w H [] := by rw [hB]; exact Inv.start hG
 refine enter (n := 41) (args := [.agg (flat [ckV flB a0.Root, ckI a0.Height]).toArray, .agg (flat [ckV flB a1]).toArray, .agg (flat [ckI a2.Leaf, ckL s1, ckL s2, ckL s3]).toArray]) Tryd.func26 rfl Tryd.ntmps26 (Nat.le_of_ble_eq_true rfl) ?_
 refine wseq ?_
 refine wreg ?_
 refine le rfl (l_box (cks := [ckV flB a0.Root, ckI a0.Height]) hI rfl rfl rfl) rfl ?_
 rintro _ w5 ⟨g4, rfl, hI⟩
 replace hI : Inv B w5 H [.cb g4 [ckV flB a0.Root, ckI a0.Height] 49] := hI
 refine le rfl (l_box (cks := [ckV flB a1]) hI rfl rfl rfl) rfl ?_
 rintro _ w7 ⟨g6, rfl, hI⟩
 replace hI : Inv B w7 H [.cb g4 _ 49, .cb g6 [ckV flB a1] 29] := hI
 refine le rfl (l_box (cks := [ckI a2.Leaf, ckL s1, ckL s2, ckL s3]) hI rfl rfl rfl) rfl ?_
 rintro _ w9 ⟨g8, rfl, hI⟩
 replace hI : Inv B w9 H [.cb g4 _ 49, .cb g6 [ckV flB a1] 29, .cb g8 [ckI a2.Leaf, ckL s1, ckL s2, ckL s3] 33] := hI
 refine lv (v := .bool false) rfl (r_as rfl rfl) rfl ?_
 refine wend ?_
 refine wthen ?_
 refine wren (fun ρ10 eρ10 => ?_)
 have h11 : opd ρ10 41 (.tmp 3) = .pointer (some ⟨g4, 0 + 0, none⟩) := eρ10 3
 have h12 : opd ρ10 41 (.tmp 4) = .pointer (some ⟨g6, 0 + 0, none⟩) := eρ10 4
 have h13 : opd ρ10 41 (.tmp 5) = .pointer (some ⟨g8, 0 + 0, none⟩) := eρ10 5
 clear eρ10
 refine wseq ?_
 refine wreg ?_
 refine lv (v := .agg (flat [ckV flB a1]).toArray) rfl (r_cla (off := 0) (p := 0) (m := 1) (hI.good.ca 1 rfl) rfl ag29 h12 rfl rfl) rfl ?_
 refine lv (v := .pointer (some ⟨g8, 0 + 1, none⟩)) rfl (l_fa (j := 0) (i := 0) rfl fl33_1 h13 rfl) rfl ?_
 refine lv (v := .agg (flat [ckL s1, ckL s2]).toArray) rfl (r_cla (off := 1) (p := 1) (m := 2) (hI.good.ca 2 rfl) rfl ag31 rfl rfl rfl) rfl ?_
 obtain ⟨x14, hx14, hF⟩ := Option.bind_eq_some_iff.1 hF
 have hsp17 := spec_59 hx14 hT (hI.part 0) hs1 hs2
 refine fc ([]) ([.cb g4 [ckV flB a0.Root, ckI a0.Height] 49, .cb g6 [ckV flB a1] 29, .cb g8 [ckI a2.Leaf, ckL s1, ckL s2, ckL s3] 33]) (args := [.agg (flat [ckV flB a1]).toArray, .agg (flat [ckL s1, ckL s2]).toArray]) fc59 rfl rfl rfl hI (argc rfl (argc rfl rfl)) (hsp17) ?_
 rintro _ H15 _ w16 ⟨rfl, rfl⟩ hleH15 hI
 replace hI : Inv B w16 H15 [.cb g4 _ 49, .cb g6 [ckV flB a1] 29, .cb g8 _ 33] := hI
 refine lv (v := .tuple #[.agg (flat [ckV flB x14.1]).toArray, .bool x14.2]) rfl (r_mv rfl rfl) rfl ?_
 refine lv (v := .agg (flat [ckV flB x14.1]).toArray) rfl (r_ext rfl rfl rfl) rfl ?_
 refine lv (v := .bool x14.2) rfl (r_ext rfl rfl rfl) rfl ?_
 refine le rfl (l_al hI rfl ze29) rfl ?_
 rintro _ w19 ⟨g18, rfl, hI⟩
 replace hI : Inv B w19 H15 [.cb g4 _ 49, .cb g6 [ckV flB a1] 29, .cb g8 _ 33, .cb g18 [ckV flB (Vec.rep 32 0)] 29] := hI
 refine lst rfl (l_st (off := 0) (p := 0) (m := 1) (new := [ckV flB x14.1]) hI 3 rfl rfl sz29 rfl rfl rfl rfl rfl rfl) rfl ?_
 intro w20 hI
 replace hI : Inv B w20 H15 [.cb g4 _ 49, .cb g6 [ckV flB a1] 29, .cb g8 _ 33, .cb g18 [ckV flB x14.1] 29] := hI
 refine lv (v := .bool x14.2) rfl (r_as rfl rfl) rfl ?_
 refine wend ?_
 refine wthen ?_
 refine wren (fun ρ21 eρ21 => ?_)
 have h22 : opd ρ21 41 (.tmp 3) = .pointer (some ⟨g4, 0 + 0, none⟩) := (eρ21 3).trans h11
 have h23 : opd ρ21 41 (.tmp 5) = .pointer (some ⟨g8, 0 + 0, none⟩) := (eρ21 5).trans h13
 have h24 : opd ρ21 41 (.tmp 7) = .pointer (some ⟨g18, 0 + 0, none⟩) := eρ21 7
 have h25 : opd ρ21 41 (.tmp 8) = .bool x14.2 := eρ21 8
 clear eρ21
 refine wseq ?_
 refine dstG (H0 := H15) (L0 := keepL [true, true, true, true] [.cb g4 [ckV flB a0.Root, ckI a0.Height] 49, .cb g6 [ckV flB a1] 29, .cb g8 [ckI a2.Leaf, ckL s1, ckL s2, ckL s3] 33, .cb g18 [ckV flB x14.1] 29]) [] mixed rfl (by repeat (first | exact Pan.body | refine Pan.then ?_ | refine Pan.inBlock ?_ | refine Pan.noGoto ?_ | refine Pan.pure ?_)) hI (hI.good.weakm _ (Hle.refl _) rfl) ?_
 intro w26 hI hP
 refine dp (v := .bool x14.2) 0 (by kernel_rfl) rfl rfl (fun _ => r_mv rfl h25) rfl hP ?_
 by_cases hc27 : x14.2 = true
 ·skip
  rw [if_pos hc27] at hF
  have hbhc27 : x14.2 = true := hc27
  refine dp (v := .bool true) 1 (by kernel_rfl) rfl rfl (fun _ => r_mv rfl ((show opd _ _ _ = _ from rfl).trans (congrArg Value.bool hbhc27))) rfl hP ?_
  refine dp (v := .pointer (some ⟨g4, 0 + 32, none⟩)) 2 (by kernel_rfl) rfl rfl (fun _ => l_fa (j := 0) (i := 0) rfl fl49_1 h22 rfl) rfl hP ?_
  refine dr (v := .int .i64 a0.Height) 3 (by kernel_rfl) rfl rfl (hI.good.weakm [true, true, true, true] (Hle.refl _) rfl) (fun _ hG => r_cl1 (off := 32) (p := 1) (hG.ca 0 rfl) rfl sc3 rfl rfl rfl) rfl hP ?_
  refine dp (v := .bool (decide ((0 : Int) ≤ a0.Height))) 4 (by kernel_rfl) rfl rfl (fun _ => r_geq rfl rfl rfl rfl) rfl hP ?_
  refine dp (v := .bool (decide ((0 : Int) ≤ a0.Height))) 5 (by kernel_rfl) rfl rfl (fun _ => r_pkT rfl rfl rfl) rfl hP ?_
  by_cases hc28 : (0 : Int) ≤ a0.Height
  ·skip
   rw [if_pos hc28] at hF
   have hbhc28 : (decide ((0 : Int) ≤ a0.Height)) = true := decide_eq_true hc28
   refine dp (v := .bool true) 6 (by kernel_rfl) rfl rfl (fun _ => r_mv rfl ((show opd _ _ _ = _ from rfl).trans (congrArg Value.bool hbhc28))) rfl hP ?_
   refine dp (v := .pointer (some ⟨g4, 0 + 32, none⟩)) 7 (by kernel_rfl) rfl rfl (fun _ => l_fa (j := 0) (i := 0) rfl fl49_1 h22 rfl) rfl hP ?_
   refine dr (v := .int .i64 a0.Height) 8 (by kernel_rfl) rfl rfl (hI.good.weakm [true, true, true, true] (Hle.refl _) rfl) (fun _ hG => r_cl1 (off := 32) (p := 1) (hG.ca 0 rfl) rfl sc3 rfl rfl rfl) rfl hP ?_
   refine dp (v := .bool (decide (a0.Height ≤ 6))) 9 (by kernel_rfl) rfl rfl (fun _ => r_leq rfl rfl rfl rfl) rfl hP ?_
   refine dp (v := .bool (decide (a0.Height ≤ 6))) 10 (by kernel_rfl) rfl rfl (fun _ => r_pkT rfl rfl rfl) rfl hP ?_
   by_cases hc29 : a0.Height ≤ 6
   ·skip
    rw [if_pos hc29] at hF
    have hbhc29 : (decide (a0.Height ≤ 6)) = true := decide_eq_true hc29
    refine dp (v := .bool true) 11 (by kernel_rfl) rfl rfl (fun _ => r_mv rfl ((show opd _ _ _ = _ from rfl).trans (congrArg Value.bool hbhc29))) rfl hP ?_
    refine dp (v := .pointer (some ⟨g4, 0 + 0, none⟩)) 12 (by kernel_rfl) rfl rfl (fun _ => l_fa (j := 0) (i := 0) rfl fl49_0 h22 rfl) rfl hP ?_
    refine dp (v := .pointer (some ⟨g8, 0 + 0, none⟩)) 16 (by kernel_rfl) rfl rfl (fun _ => l_fa (j := 0) (i := 0) rfl fl33_0 h23 rfl) rfl hP ?_
    refine dp (v := .pointer (some ⟨g4, 0 + 32, none⟩)) 18 (by kernel_rfl) rfl rfl (fun _ => l_fa (j := 0) (i := 0) rfl fl49_1 h22 rfl) rfl hP ?_
    refine dp (v := .pointer (some ⟨g8, 0 + 3, none⟩)) 21 (by kernel_rfl) rfl rfl (fun _ => l_fa (j := 0) (i := 0) rfl fl33_2 h23 rfl) rfl hP ?_
    refine dr (v := .agg (flat [ckV flB a0.Root]).toArray) 13 (by kernel_rfl) rfl rfl (hI.good.weakm [true, true, true, true] (Hle.refl _) rfl) (fun _ hG => r_cla (off := 0) (p := 0) (m := 1) (hG.ca 0 rfl) rfl ag29 rfl rfl rfl) rfl hP ?_
    refine dr (v := .agg (flat [ckV flB x14.1]).toArray) 14 (by kernel_rfl) rfl rfl (hI.good.weakm [true, true, true, true] (Hle.refl _) rfl) (fun _ hG => r_cla (off := 0) (p := 0) (m := 1) (hG.ca 3 rfl) rfl ag29 h24 rfl rfl) rfl hP ?_
    refine dr (v := .int .i64 a2.Leaf) 17 (by kernel_rfl) rfl rfl (hI.good.weakm [true, true, true, true] (Hle.refl _) rfl) (fun _ hG => r_cl1 (off := 0) (p := 0) (hG.ca 2 rfl) rfl sc3 rfl rfl rfl) rfl hP ?_
    refine dr (v := .int .i64 a0.Height) 19 (by kernel_rfl) rfl rfl (hI.good.weakm [true, true, true, true] (Hle.refl _) rfl) (fun _ hG => r_cl1 (off := 32) (p := 1) (hG.ca 0 rfl) rfl sc3 rfl rfl rfl) rfl hP ?_
    by_cases hc30 : (0 : Int) ≤ a0.Height
    ·rw [if_pos hc30] at hF
     refine dp (v := .int .i64 (shlI (1 : Int) a0.Height)) 20 (by kernel_rfl) rfl rfl (fun _ => r_shlI rfl rfl rfl hc30) rfl hP ?_
     refine dr (v := s3.v) 22 (by kernel_rfl) rfl rfl (hI.good.weakm [true, true, true, true] (Hle.refl _) rfl) (fun _ hG => r_cl1 (off := 3) (p := 3) (hG.ca 2 rfl) rfl sc27 rfl rfl rfl) rfl hP ?_
     obtain ⟨x31, hx31, hF⟩ := Option.bind_eq_some_iff.1 hF
     have hsp34 := spec_61 hx31 (hT.mono hleH15) (hI.part 0) 
     refine dfc 15 ([]) ([.cb g4 [ckV flB a0.Root, ckI a0.Height] 49, .cb g6 [ckV flB a1] 29, .cb g8 [ckI a2.Leaf, ckL s1, ckL s2, ckL s3] 33, .cb g18 [ckV flB x14.1] 29]) (args := [.agg (flat [ckV flB x14.1]).toArray]) fc61 (by kernel_rfl) rfl rfl rfl rfl rfl hI (argc rfl rfl) (hsp34) ?_
     rintro _ H32 _ w33 ⟨rfl, rfl⟩ hleH32 hI
     replace hI : Inv B w33 H32 [.cb g4 _ 49, .cb g6 [ckV flB a1] 29, .cb g8 _ 33, .cb g18 _ 29] := hI
     refine ⟨(hI.good.weakm [true, true, true, true] hleH32 rfl), ?_⟩
     obtain ⟨x35, hx35, hF⟩ := Option.bind_eq_some_iff.1 hF
     have hsp38 := spec_60 hx35 ((hT.mono hleH15).mono hleH32) (hI.part 0) ((hs3.mono hleH15).mono hleH32)
     refine dfc 23 ([]) ([.cb g4 [ckV flB a0.Root, ckI a0.Height] 49, .cb g6 [ckV flB a1] 29, .cb g8 [ckI a2.Leaf, ckL s1, ckL s2, ckL s3] 33, .cb g18 [ckV flB x14.1] 29]) (args := [.agg (flat [ckV flB a0.Root]).toArray, .agg (flat [ckV flB x31]).toArray, .int .i64 a2.Leaf, .int .i64 (shlI (1 : Int) a0.Height), s3.v]) fc60 (by kernel_rfl) rfl rfl rfl rfl rfl hI (argc rfl (argc rfl (argc rfl (argc rfl (argc rfl rfl))))) (hsp38) ?_
     rintro _ H36 _ w37 ⟨rfl, rfl⟩ hleH36 hI
     replace hI : Inv B w37 H36 [.cb g4 _ 49, .cb g6 [ckV flB a1] 29, .cb g8 _ 33, .cb g18 _ 29] := hI
     refine ⟨(hI.good.weakm [true, true, true, true] (hleH32.trans hleH36) rfl), ?_⟩
     refine dp (v := .bool x35) 24 (by kernel_rfl) rfl rfl (fun _ => r_pkT rfl rfl rfl) rfl hP ?_
     refine dp (v := .bool x35) 25 (by kernel_rfl) rfl rfl (fun _ => r_as rfl rfl) rfl hP ?_
     refine dend (by kernel_rfl) ?_
     refine wthen ?_
     refine wren (fun ρ39 eρ39 => ?_)
     have h40 : opd ρ39 41 (.tmp 6) = .bool x35 := eρ39 6
     clear eρ39
     refine wp_ret ?_
     obtain rfl := Option.some.inj hF
     subst hB
     refine finR (rs := [.tmp 6]) (vs := [.bool x35]) rfl ⟨h40, trivial⟩ ?_
     exact hI.fin 0 ⟨rfl, rfl⟩
    ·rw [if_neg hc30] at hF; cases hF
   ·skip
    rw [if_neg hc29] at hF
    have hbhc29 : (decide (a0.Height ≤ 6)) = false := decide_eq_false hc29
    refine dp (v := .bool false) 11 (by kernel_rfl) rfl rfl (fun _ => r_mv rfl ((show opd _ _ _ = _ from rfl).trans (congrArg Value.bool hbhc29))) rfl hP ?_
    refine dx 12 (by kernel_rfl) rfl (by kernel_rfl) rfl hP ?_
    refine dx 13 (by kernel_rfl) rfl (by kernel_rfl) rfl hP ?_
    refine dx 14 (by kernel_rfl) rfl (by kernel_rfl) rfl hP ?_
    refine dx 15 (by kernel_rfl) rfl (by kernel_rfl) rfl hP ?_
    refine dx 16 (by kernel_rfl) rfl (by kernel_rfl) rfl hP ?_
    refine dx 17 (by kernel_rfl) rfl (by kernel_rfl) rfl hP ?_
    refine dx 18 (by kernel_rfl) rfl (by kernel_rfl) rfl hP ?_
    refine dx 19 (by kernel_rfl) rfl (by kernel_rfl) rfl hP ?_
    refine dx 20 (by kernel_rfl) rfl (by kernel_rfl) rfl hP ?_
    refine dx 21 (by kernel_rfl) rfl (by kernel_rfl) rfl hP ?_
    refine dx 22 (by kernel_rfl) rfl (by kernel_rfl) rfl hP ?_
    refine dx 23 (by kernel_rfl) rfl (by kernel_rfl) rfl hP ?_
    refine dp (v := .bool false) 24 (by kernel_rfl) rfl rfl (fun _ => r_pkF rfl rfl rfl) rfl hP ?_
    refine dp (v := .bool false) 25 (by kernel_rfl) rfl rfl (fun _ => r_as rfl rfl) rfl hP ?_
    refine dend (by kernel_rfl) ?_
    refine wthen ?_
    refine wren (fun ρ41 eρ41 => ?_)
    have h42 : opd ρ41 41 (.tmp 6) = .bool false := eρ41 6
    clear eρ41
    refine wp_ret ?_
    obtain rfl := Option.some.inj hF
    subst hB
    refine finR (rs := [.tmp 6]) (vs := [.bool false]) rfl ⟨h42, trivial⟩ ?_
    exact hI.fin 0 ⟨rfl, rfl⟩
  ·skip
   rw [if_neg hc28] at hF
   have hbhc28 : (decide ((0 : Int) ≤ a0.Height)) = false := decide_eq_false hc28
   refine dp (v := .bool false) 6 (by kernel_rfl) rfl rfl (fun _ => r_mv rfl ((show opd _ _ _ = _ from rfl).trans (congrArg Value.bool hbhc28))) rfl hP ?_
   refine dx 7 (by kernel_rfl) rfl (by kernel_rfl) rfl hP ?_
   refine dx 8 (by kernel_rfl) rfl (by kernel_rfl) rfl hP ?_
   refine dx 9 (by kernel_rfl) rfl (by kernel_rfl) rfl hP ?_
   refine dp (v := .bool false) 10 (by kernel_rfl) rfl rfl (fun _ => r_pkF rfl rfl rfl) rfl hP ?_
   refine dp (v := .bool false) 11 (by kernel_rfl) rfl rfl (fun _ => r_mv rfl rfl) rfl hP ?_
   refine dx 12 (by kernel_rfl) rfl (by kernel_rfl) rfl hP ?_
   refine dx 13 (by kernel_rfl) rfl (by kernel_rfl) rfl hP ?_
   refine dx 14 (by kernel_rfl) rfl (by kernel_rfl) rfl hP ?_
   refine dx 15 (by kernel_rfl) rfl (by kernel_rfl) rfl hP ?_
   refine dx 16 (by kernel_rfl) rfl (by kernel_rfl) rfl hP ?_
   refine dx 17 (by kernel_rfl) rfl (by kernel_rfl) rfl hP ?_
   refine dx 18 (by kernel_rfl) rfl (by kernel_rfl) rfl hP ?_
   refine dx 19 (by kernel_rfl) rfl (by kernel_rfl) rfl hP ?_
   refine dx 20 (by kernel_rfl) rfl (by kernel_rfl) rfl hP ?_
   refine dx 21 (by kernel_rfl) rfl (by kernel_rfl) rfl hP ?_
   refine dx 22 (by kernel_rfl) rfl (by kernel_rfl) rfl hP ?_
   refine dx 23 (by kernel_rfl) rfl (by kernel_rfl) rfl hP ?_
   refine dp (v := .bool false) 24 (by kernel_rfl) rfl rfl (fun _ => r_pkF rfl rfl rfl) rfl hP ?_
   refine dp (v := .bool false) 25 (by kernel_rfl) rfl rfl (fun _ => r_as rfl rfl) rfl hP ?_
   refine dend (by kernel_rfl) ?_
   refine wthen ?_
   refine wren (fun ρ43 eρ43 => ?_)
   have h44 : opd ρ43 41 (.tmp 6) = .bool false := eρ43 6
   clear eρ43
   refine wp_ret ?_
   obtain rfl := Option.some.inj hF
   subst hB
   refine finR (rs := [.tmp 6]) (vs := [.bool false]) rfl ⟨h44, trivial⟩ ?_
   exact hI.fin 0 ⟨rfl, rfl⟩
 ·skip
  rw [if_neg hc27] at hF
  have hbhc27 : x14.2 = false := (Bool.eq_false_iff.2 hc27)
  refine dp (v := .bool false) 1 (by kernel_rfl) rfl rfl (fun _ => r_mv rfl ((show opd _ _ _ = _ from rfl).trans (congrArg Value.bool hbhc27))) rfl hP ?_
  refine dx 2 (by kernel_rfl) rfl (by kernel_rfl) rfl hP ?_
  refine dx 3 (by kernel_rfl) rfl (by kernel_rfl) rfl hP ?_
  refine dx 4 (by kernel_rfl) rfl (by kernel_rfl) rfl hP ?_
  refine dp (v := .bool false) 5 (by kernel_rfl) rfl rfl (fun _ => r_pkF rfl rfl rfl) rfl hP ?_
  refine dp (v := .bool false) 6 (by kernel_rfl) rfl rfl (fun _ => r_mv rfl rfl) rfl hP ?_
  refine dx 7 (by kernel_rfl) rfl (by kernel_rfl) rfl hP ?_
  refine dx 8 (by kernel_rfl) rfl (by kernel_rfl) rfl hP ?_
  refine dx 9 (by kernel_rfl) rfl (by kernel_rfl) rfl hP ?_
  refine dp (v := .bool false) 10 (by kernel_rfl) rfl rfl (fun _ => r_pkF rfl rfl rfl) rfl hP ?_
  refine dp (v := .bool false) 11 (by kernel_rfl) rfl rfl (fun _ => r_mv rfl rfl) rfl hP ?_
  refine dx 12 (by kernel_rfl) rfl (by kernel_rfl) rfl hP ?_
  refine dx 13 (by kernel_rfl) rfl (by kernel_rfl) rfl hP ?_
  refine dx 14 (by kernel_rfl) rfl (by kernel_rfl) rfl hP ?_
  refine dx 15 (by kernel_rfl) rfl (by kernel_rfl) rfl hP ?_
  refine dx 16 (by kernel_rfl) rfl (by kernel_rfl) rfl hP ?_
  refine dx 17 (by kernel_rfl) rfl (by kernel_rfl) rfl hP ?_
  refine dx 18 (by kernel_rfl) rfl (by kernel_rfl) rfl hP ?_
  refine dx 19 (by kernel_rfl) rfl (by kernel_rfl) rfl hP ?_
  refine dx 20 (by kernel_rfl) rfl (by kernel_rfl) rfl hP ?_
  refine dx 21 (by kernel_rfl) rfl (by kernel_rfl) rfl hP ?_
  refine dx 22 (by kernel_rfl) rfl (by kernel_rfl) rfl hP ?_
  refine dx 23 (by kernel_rfl) rfl (by kernel_rfl) rfl hP ?_
  refine dp (v := .bool false) 24 (by kernel_rfl) rfl rfl (fun _ => r_pkF rfl rfl rfl) rfl hP ?_
  refine dp (v := .bool false) 25 (by kernel_rfl) rfl rfl (fun _ => r_as rfl rfl) rfl hP ?_
  refine dend (by kernel_rfl) ?_
  refine wthen ?_
  refine wren (fun ρ45 eρ45 => ?_)
  have h46 : opd ρ45 41 (.tmp 6) = .bool false := eρ45 6
  clear eρ45
  refine wp_ret ?_
  obtain rfl := Option.some.inj hF
  subst hB
  refine finR (rs := [.tmp 6]) (vs := [.bool false]) rfl ⟨h46, trivial⟩ ?_
  exact hI.fin 0 ⟨rfl, rfl⟩
noncomputable def M_code_Writer_Num (a0 : Code_Writer) (a1 : List Int) : Option (Code_Writer) := ((forK (fun (i12 : Nat) (σ12 : (List UInt8)) => (((a1[i12]?).bind fun x356 => (runL (fun (σ375 : Int × (List UInt8)) => ((if (0 : Int) ≤ σ375.1 then (if (0 : Int) ≤ σ375.1 then ((appI 1 σ375.2 [u8I ((shrQ (u64I x356) σ375.1).toNat : Int)]).bind fun x474 => some (.inl (wI (σ375.1 - 8), x474))) else none) else ((some (.inl σ375.2)).map Sum.inr)) : Option ((Int × (List UInt8)) ⊕ ((List UInt8) ⊕ Code_Writer)))) (56, σ12))) : Option ((List UInt8) ⊕ Code_Writer))) a1.length 0 a0.b_).bind fun y => match y with | .inl σ12 => some (⟨σ12⟩ : Code_Writer) | .inr r => some r)
set_option maxHeartbeats 4000000 in
theorem spec_124 {w : World} {H : Hp} {a0 : Code_Writer} {a1 : List Int} {gg_0_0 : Option Nat} {g_0 : Nat} {s1 : Sv} {s2 : Sv} {r : Code_Writer} (hF : M_code_Writer_Num a0 a1 = some r) (hT : Tab H) (hG : Good w H [.cb g_0 [ckL s1] 175, .own s1 5 1 gg_0_0]) (hs1 : Sl (Fl.ty flB) H s1 a0.b_) (hs2 : Sl (Fl.ty flI) H s2 a1) :
  Fine Tryd.prog 124 [.pointer (some ⟨g_0, 0, none⟩), s2.v] w H [.cb g_0 [ckL s1] 175, .own s1 5 1 gg_0_0] (fun H' v L' => ∃ s900 : Sv, ∃ gg901 : Option Nat, v = .tuple #[] ∧ Sl (Fl.ty flB) H' s900 r.b_ ∧ L' = [.cb g_0 [ckL s900] 175, .own s900 5 1 gg901]) := by
 unfold M_code_Writer_Num at hF
 unfold Fine
 obtain ⟨B, hB⟩ : ∃ B : Base, B = ⟨w, H, blks [.cb g_0 [ckL s1] 175, .own s1 5 1 gg_0_0]⟩ := ⟨_, rfl⟩
 have hI : Inv B w H [.cb g_0 [ckL s1] 175, .own s1 5 1 gg_0_0] := by rw [hB]; exact Inv.start hG
 refine enter (n := 34) (args := [.pointer (some ⟨g_0, 0, none⟩), s2.v]) Tryd.func124 rfl Tryd.ntmps124 (Nat.le_of_ble_eq_true rfl) ?_
 refine wseq ?_
 refine wseq ?_
 refine wreg ?_
 refine lv (v := .pointer (some ⟨g_0, 0 + 0, none⟩)) rfl (r_mv rfl rfl) rfl ?_
 refine lv (v := .bool false) rfl (r_pn rfl un173 rfl rfl) rfl ?_
 refine wend ?_
 refine wthen ?_
 refine wren (fun ρ3 eρ3 => ?_)
 have h4 : opd ρ3 34 (.tmp 0) = .pointer (some ⟨g_0, 0 + 0, none⟩) := eρ3 0
 have h5 : opd ρ3 34 (.tmp 1) = s2.v := eρ3 1
 have h6 : opd ρ3 34 (.tmp 8) = .bool false := eρ3 8
 clear eρ3
 refine wcF h6 ?_
 refine wp_skip ?_
 refine wthen ?_
 refine wseq ?_
 refine wreg ?_
 refine lv (v := s2.v) rfl (r_mv rfl h5) rfl ?_
 refine lv (v := .int .i64 (a1.length : Int)) rfl (r_lenS rfl sl59 rfl hs2) rfl ?_
 refine lv (v := .int .i64 0) rfl (r_mv rfl rfl) rfl ?_
 refine wend ?_
 refine wthen ?_
 refine wren (fun ρ7 eρ7 => ?_)
 have h8 : opd ρ7 34 (.tmp 0) = .pointer (some ⟨g_0, 0 + 0, none⟩) := (eρ7 0).trans h4
 have h9 : opd ρ7 34 (.tmp 9) = s2.v := eρ7 9
 have h10 : opd ρ7 34 (.tmp 10) = .int .i64 (a1.length : Int) := eρ7 10
 have h11 : opd ρ7 34 (.tmp 11) = .int .i64 0 := eρ7 11
 clear eρ7
 refine wp_block ?_
 have hbd12 := (hs2).bd
 rw [(hs2).n] at hbd12
 obtain ⟨y12, hy12, hF12⟩ := Option.bind_eq_some_iff.1 hF
 refine wfor (n := 34) a1.length _ (fun (i12 : Nat) (σ12 : (List UInt8)) ρ' w' => ∃ (H343 : Hp) (s341 : Sv) (gg342 : Option Nat), Hle H H343 ∧ opd ρ' 34 (.tmp 0) = .pointer (some ⟨g_0, 0 + 0, none⟩) ∧ opd ρ' 34 (.tmp 9) = s2.v ∧ opd ρ' 34 (.tmp 10) = .int .i64 (a1.length : Int) ∧ opd ρ' 34 (.tmp 11) = .int .i64 (i12 : Int) ∧ Sl (Fl.ty flB) H343 s341 σ12 ∧ Inv B w' H343 [.cb g_0 [ckL s341] 175, .own s341 5 1 gg342]) hy12 ⟨H, s1, gg_0_0, (Hle.refl _), h8, h9, h10, h11, hs1, hI⟩ ?_
 rintro k12 i12 σ12 ρ348 w349 hk12 ⟨H343, s341, gg342, hleH343, h344, h345, h346, h347, hs341, hI⟩ hy12
 refine wseq ?_
 refine wreg ?_
 refine lv (v := .bool (decide ((i12 : Int) < (a1.length : Int)))) rfl (r_lss rfl h347 h346 rfl) rfl ?_
 refine wend ?_
 refine wthen ?_
 refine wseq ?_
 by_cases hc350 : (i12 : Int) < (a1.length : Int)
 ·skip
  have hbhc350 : (decide ((i12 : Int) < (a1.length : Int))) = true := decide_eq_true hc350
  obtain ⟨k12, rfl⟩ : ∃ m, k12 = m + 1 := ⟨k12 - 1, by omega⟩
  obtain ⟨z12, hb12⟩ := forK_body hy12
  have hF := hb12
  have hlt12 : ((i12 : Nat) : Int) + 1 ≤ 9223372036854775807 := by omega
  refine wcT ((show opd _ _ _ = _ from rfl).trans (congrArg Value.bool hbhc350)) ?_
  refine wp_skip ?_
  refine wthen ?_
  refine wren (fun ρ351 eρ351 => ?_)
  have h352 : opd ρ351 34 (.tmp 0) = .pointer (some ⟨g_0, 0 + 0, none⟩) := (eρ351 0).trans h344
  have h353 : opd ρ351 34 (.tmp 9) = s2.v := (eρ351 9).trans h345
  have h354 : opd ρ351 34 (.tmp 10) = .int .i64 (a1.length : Int) := (eρ351 10).trans h346
  have h355 : opd ρ351 34 (.tmp 11) = .int .i64 (i12 : Int) := (eρ351 11).trans h347
  clear eρ351
  refine wseq ?_
  refine wp_block ?_
  refine wseq ?_
  refine wreg ?_
  obtain ⟨x356, hx356, hF⟩ := Option.bind_eq_some_iff.1 hF
  obtain ⟨b357, j358, hix359, hil360, hA361⟩ := (hs2.mono hleH343).ixf hx356
  replace hA361 : At H343 b357 j358 [ckI x356] := hA361
  refine lv (v := .pointer (some ⟨b357, j358 + 0, none⟩)) rfl (r_ixt rfl sl59 h353 h355 rfl hix359 hil360) rfl ?_
  refine lv (v := .int .i64 x356) rfl (r_cl1 (off := 0) (p := 0) (hA361.ca hI.good) rfl sc3 rfl rfl rfl) rfl ?_
  refine lv (v := .int .i64 x356) rfl (r_as rfl rfl) rfl ?_
  refine wend ?_
  refine wthen ?_
  refine wren (fun ρ362 eρ362 => ?_)
  have h363 : opd ρ362 34 (.tmp 0) = .pointer (some ⟨g_0, 0 + 0, none⟩) := (eρ362 0).trans h352
  have h364 : opd ρ362 34 (.tmp 5) = .int .i64 x356 := eρ362 5
  have h365 : opd ρ362 34 (.tmp 9) = s2.v := (eρ362 9).trans h353
  have h366 : opd ρ362 34 (.tmp 10) = .int .i64 (a1.length : Int) := (eρ362 10).trans h354
  have h367 : opd ρ362 34 (.tmp 11) = .int .i64 (i12 : Int) := (eρ362 11).trans h355
  clear eρ362
  refine wseq ?_
  refine wreg ?_
  refine lv (v := .int .i64 56) rfl (r_as rfl rfl) rfl ?_
  refine wend ?_
  refine wthen ?_
  refine wren (fun ρ368 eρ368 => ?_)
  have h369 : opd ρ368 34 (.tmp 0) = .pointer (some ⟨g_0, 0 + 0, none⟩) := (eρ368 0).trans h363
  have h370 : opd ρ368 34 (.tmp 5) = .int .i64 x356 := (eρ368 5).trans h364
  have h371 : opd ρ368 34 (.tmp 6) = .int .i64 56 := eρ368 6
  have h372 : opd ρ368 34 (.tmp 9) = s2.v := (eρ368 9).trans h365
  have h373 : opd ρ368 34 (.tmp 10) = .int .i64 (a1.length : Int) := (eρ368 10).trans h366
  have h374 : opd ρ368 34 (.tmp 11) = .int .i64 (i12 : Int) := (eρ368 11).trans h367
  clear eρ368
  refine wp_block ?_
  refine wrun (n := 34) _ (fun (σ375 : Int × (List UInt8)) ρ' w' => ∃ (H451 : Hp) (s449 : Sv) (gg450 : Option Nat), Hle H343 H451 ∧ opd ρ' 34 (.tmp 0) = .pointer (some ⟨g_0, 0 + 0, none⟩) ∧ opd ρ' 34 (.tmp 5) = .int .i64 x356 ∧ opd ρ' 34 (.tmp 6) = .int .i64 σ375.1 ∧ opd ρ' 34 (.tmp 9) = s2.v ∧ opd ρ' 34 (.tmp 10) = .int .i64 (a1.length : Int) ∧ opd ρ' 34 (.tmp 11) = .int .i64 (i12 : Int) ∧ Sl (Fl.ty flB) H451 s449 σ375.2 ∧ Inv B w' H451 [.cb g_0 [ckL s449] 175, .own s449 5 1 gg450]) hF ⟨H343, s341, gg342, (Hle.refl _), h369, h370, h371, h372, h373, h374, hs341, hI⟩ ?_
  rintro k375 σ375 ρ458 w459 ⟨H451, s449, gg450, hleH451, h452, h453, h454, h455, h456, h457, hs449, hI⟩ hy375
  obtain ⟨z375, hb375⟩ := iterK_body hy375
  have hF := hb375
  refine wseq ?_
  refine wseq ?_
  refine wreg ?_
  refine lv (v := .int .i64 σ375.1) rfl (r_mv rfl h454) rfl ?_
  refine lv (v := .bool (decide ((0 : Int) ≤ σ375.1))) rfl (r_geq rfl rfl rfl rfl) rfl ?_
  refine wend ?_
  refine wthen ?_
  refine wren (fun ρ460 eρ460 => ?_)
  have h461 : opd ρ460 34 (.tmp 0) = .pointer (some ⟨g_0, 0 + 0, none⟩) := (eρ460 0).trans h452
  have h462 : opd ρ460 34 (.tmp 5) = .int .i64 x356 := (eρ460 5).trans h453
  have h463 : opd ρ460 34 (.tmp 6) = .int .i64 σ375.1 := (eρ460 6).trans h454
  have h464 : opd ρ460 34 (.tmp 9) = s2.v := (eρ460 9).trans h455
  have h465 : opd ρ460 34 (.tmp 10) = .int .i64 (a1.length : Int) := (eρ460 10).trans h456
  have h466 : opd ρ460 34 (.tmp 11) = .int .i64 (i12 : Int) := (eρ460 11).trans h457
  have h467 : opd ρ460 34 (.tmp 16) = .bool (decide ((0 : Int) ≤ σ375.1)) := eρ460 16
  clear eρ460
  by_cases hc468 : (0 : Int) ≤ σ375.1
  ·skip
   rw [if_pos hc468] at hF
   have hbhc468 : (decide ((0 : Int) ≤ σ375.1)) = true := decide_eq_true hc468
   refine wcT (h467.trans (congrArg Value.bool hbhc468)) ?_
   refine wp_skip ?_
   refine wthen ?_
   refine wseq ?_
   refine wp_block ?_
   refine dstG (H0 := H451) (L0 := keepL [true, true] [.cb g_0 [ckL s449] 175, .own s449 5 1 gg450]) [11, 14] mixed rfl (by repeat (first | exact Pan.body | refine Pan.then ?_ | refine Pan.inBlock ?_ | refine Pan.noGoto ?_ | refine Pan.pure ?_)) hI (hI.good.weakm _ (Hle.refl _) rfl) ?_
   intro w469 hI hP
   refine dp (v := .pointer (some ⟨g_0, 0 + 0, none⟩)) 0 (by kernel_rfl) rfl rfl (fun _ => r_mv rfl h461) rfl hP ?_
   refine dp (v := .pointer (some ⟨g_0, 0 + 0, none⟩)) 1 (by kernel_rfl) rfl rfl (fun _ => r_mv rfl h461) rfl hP ?_
   refine dp (v := .pointer (some ⟨g_0, 0 + 0, none⟩)) 2 (by kernel_rfl) rfl rfl (fun _ => r_nilc rfl rfl) rfl hP ?_
   refine dp (v := .pointer (some ⟨g_0, 0 + 0, none⟩)) 3 (by kernel_rfl) rfl rfl (fun _ => l_fa (j := 0) (i := 0) rfl fl175_0 rfl rfl) rfl hP ?_
   refine dp (v := .int .i64 x356) 5 (by kernel_rfl) rfl rfl (fun _ => r_mv rfl h462) rfl hP ?_
   refine dp (v := u64v (u64I x356)) 6 (by kernel_rfl) rfl rfl (fun _ => c_u64 rfl un3 un234 rfl) rfl hP ?_
   refine dp (v := .int .i64 σ375.1) 7 (by kernel_rfl) rfl rfl (fun _ => r_mv rfl h463) rfl hP ?_
   by_cases hc470 : (0 : Int) ≤ σ375.1
   ·rw [if_pos hc470] at hF
    refine dp (v := u64v (shrQ (u64I x356) σ375.1)) 8 (by kernel_rfl) rfl rfl (fun _ => r_shrQ rfl rfl rfl hc470) rfl hP ?_
    refine dp (v := bv (u8I ((shrQ (u64I x356) σ375.1).toNat : Int))) 9 (by kernel_rfl) rfl rfl (fun _ => c_i8 rfl un234 un5 rfl) rfl hP ?_
    refine dr (v := s449.v) 4 (by kernel_rfl) rfl rfl (hI.good.weakm [true, true] (Hle.refl _) rfl) (fun _ hG => r_cl1 (off := 0) (p := 0) (hG.ca 0 rfl) rfl sc158 rfl rfl rfl) rfl hP ?_
    refine de 10 (by kernel_rfl) rfl rfl rfl (l_bs (t := (Fl.ty flB)) (vs := [bv (u8I ((shrQ (u64I x356) σ375.1).toNat : Int))]) (xs := [u8I ((shrQ (u64I x356) σ375.1).toNat : Int)]) hI rfl sl158 inf5 rfl rfl (argc rfl rfl) (.cons rfl rfl .nil) rfl) rfl ?_
    rintro _ w473 ⟨s471, H472, rfl, hI, hleH472, hs471, hfs471, hgs471⟩
    refine ⟨(hI.good.weakm [true, true] hleH472 rfl), ?_⟩
    obtain ⟨x474, hx474, hF⟩ := Option.bind_eq_some_iff.1 hF
    refine del 11 (by kernel_rfl) rfl rfl rfl (l_app (t := (Fl.ty flB)) hI 1 rfl rfl sl158 inf5 rfl rfl rfl rfl (hs449.mono hleH472) hs471 (appI_some hx474).1) rfl ?_
    rintro _ w478 ⟨s475, H476, gg477, rfl, hI, hleH476, hs475⟩
    rw [← (appI_some hx474).2] at hs475
    replace hI : Inv B w478 H476 [.cb g_0 [ckL s449] 175, .own s475 5 1 gg477] := hI
    refine dp (v := .pointer (some ⟨g_0, 0 + 0, none⟩)) 12 (by kernel_rfl) rfl rfl (fun _ => r_nilc rfl rfl) rfl hP ?_
    refine dp (v := .pointer (some ⟨g_0, 0 + 0, none⟩)) 13 (by kernel_rfl) rfl rfl (fun _ => l_fa (j := 0) (i := 0) rfl fl175_0 rfl rfl) rfl hP ?_
    refine dsl 14 (by kernel_rfl) rfl rfl rfl (l_st (off := 0) (p := 0) (m := 1) (new := [ckL s475]) hI 0 rfl rfl sz158 rfl rfl rfl rfl rfl rfl) rfl ?_
    intro w479 hI
    replace hI : Inv B w479 H476 [.cb g_0 [ckL s475] 175, .own s475 5 1 gg477] := hI
    refine dend (by kernel_rfl) ?_
    refine inN ?_
    refine wthen ?_
    refine wren (fun ρ480 eρ480 => ?_)
    have h481 : opd ρ480 34 (.tmp 0) = .pointer (some ⟨g_0, 0 + 0, none⟩) := (eρ480 0).trans h461
    have h482 : opd ρ480 34 (.tmp 5) = .int .i64 x356 := (eρ480 5).trans h462
    have h483 : opd ρ480 34 (.tmp 6) = .int .i64 σ375.1 := (eρ480 6).trans h463
    have h484 : opd ρ480 34 (.tmp 9) = s2.v := (eρ480 9).trans h464
    have h485 : opd ρ480 34 (.tmp 10) = .int .i64 (a1.length : Int) := (eρ480 10).trans h465
    have h486 : opd ρ480 34 (.tmp 11) = .int .i64 (i12 : Int) := (eρ480 11).trans h466
    clear eρ480
    refine wreg ?_
    refine lv (v := .int .i64 σ375.1) rfl (r_mv rfl h483) rfl ?_
    refine lv (v := .int .i64 (wI (σ375.1 - 8))) rfl (r_subw rfl rfl rfl) rfl ?_
    refine lv (v := .int .i64 (wI (σ375.1 - 8))) rfl (r_as rfl rfl) rfl ?_
    refine wend ?_
    obtain rfl := Option.some.inj hF
    exact ⟨(wI (σ375.1 - 8), x474), _, rfl, ⟨H476, s475, gg477, ((hleH451.trans hleH472).trans hleH476), h481, h482, rfl, h484, h485, h486, hs475, hI⟩, iterK_inl hy375 hb375⟩
   ·rw [if_neg hc470] at hF; cases hF
  ·skip
   rw [if_neg hc468] at hF
   have hbhc468 : (decide ((0 : Int) ≤ σ375.1)) = false := decide_eq_false hc468
   refine wcF (h467.trans (congrArg Value.bool hbhc468)) ?_
   refine wp_exit ?_
   refine thE ?_
   refine thE ?_
   obtain ⟨q487, hFn, hzq487⟩ := Option.map_eq_some_iff.1 hF
   clear hF
   have hy0 := iterK_inr hy375 (hb375.trans (congrArg some hzq487.symm))
   rw [← hy0] at hFn
   have hF := hFn
   clear hFn
   refine inX ?_
   refine inN ?_
   refine wthen ?_
   refine wreg ?_
   refine lv (v := .int .i64 ((i12 + 1 : Nat) : Int)) rfl (r_addn rfl h466 rfl hlt12) rfl ?_
   refine lv (v := .int .i64 ((i12 + 1 : Nat) : Int)) rfl (r_mv rfl rfl) rfl ?_
   refine wend ?_
   obtain rfl := Option.some.inj hF
   exact ⟨k12, σ375.2, _, rfl, rfl, ⟨H451, s449, gg450, (hleH343.trans hleH451), h461, h464, h465, rfl, hs449, hI⟩, forK_inl hy12 hb12⟩
 ·skip
  have hbhc350 : (decide ((i12 : Int) < (a1.length : Int))) = false := decide_eq_false hc350
  obtain rfl : k12 = 0 := by omega
  obtain rfl := forK_end hy12
  have hF := hF12
  try dsimp only at hF
  refine wcF ((show opd _ _ _ = _ from rfl).trans (congrArg Value.bool hbhc350)) ?_
  refine wp_exit ?_
  refine thE ?_
  refine thE ?_
  refine inX ?_
  obtain rfl := Option.some.inj hF
  subst hB
  refine finN (rs := []) (vs := []) rfl trivial ?_
  exact hI.fin 2 ⟨s341, gg342, rfl, hs341, rfl⟩
noncomputable def M_vote_head (a0 : Code_Writer) (a1 : Vote) : Option (Code_Writer) := ((M_code_Writer_Num a0 [a1.Kind, a1.Epoch, a1.Height, a1.Round, a1.From]).bind fun x13 => ((M_code_Writer_Digest x13 [a1.Digest]).bind fun x25 => some x25))
set_option maxHeartbeats 1000000 in
theorem spec_98 {w : World} {H : Hp} {a0 : Code_Writer} {a1 : Vote} {gg_0_0 : Option Nat} {g_0 : Nat} {s1 : Sv} {s2 : Sv} {s3 : Sv} {s4 : Sv} {r : Code_Writer} (hF : M_vote_head a0 a1 = some r) (hT : Tab H) (hG : Good w H [.cb g_0 [ckL s1] 175, .own s1 5 1 gg_0_0]) (hs1 : Sl (Fl.ty flB) H s1 a0.b_) (hs2 : Sl (Fl.ty (flV flB 32)) H s2 a1.Sig.Once.Open) (hs3 : Sl (Fl.ty (flV flB 32)) H s3 a1.Sig.Once.Shut) (hs4 : Sl (Fl.ty (flV flB 32)) H s4 a1.Sig.Path) :
  Fine Tryd.prog 98 [.pointer (some ⟨g_0, 0, none⟩), .agg (flat [ckI a1.Kind, ckI a1.Epoch, ckI a1.Height, ckI a1.Round, ckV flB a1.Digest, ckI a1.From, ckI a1.Sig.Leaf, ckL s2, ckL s3, ckL s4]).toArray] w H [.cb g_0 [ckL s1] 175, .own s1 5 1 gg_0_0] (fun H' v L' => ∃ s900 : Sv, ∃ gg901 : Option Nat, v = .tuple #[] ∧ Sl (Fl.ty flB) H' s900 r.b_ ∧ L' = [.cb g_0 [ckL s900] 175, .own s900 5 1 gg901]) := by
 unfold M_vote_head at hF
 unfold Fine
 obtain ⟨B, hB⟩ : ∃ B : Base, B = ⟨w, H, blks [.cb g_0 [ckL s1] 175, .own s1 5 1 gg_0_0]⟩ := ⟨_, rfl⟩
 have hI : Inv B w H [.cb g_0 [ckL s1] 175, .own s1 5 1 gg_0_0] := by rw [hB]; exact Inv.start hG
 refine enter (n := 22) (args := [.pointer (some ⟨g_0, 0, none⟩), .agg (flat [ckI a1.Kind, ckI a1.Epoch, ckI a1.Height, ckI a1.Round, ckV flB a1.Digest, ckI a1.From, ckI a1.Sig.Leaf, ckL s2, ckL s3, ckL s4]).toArray]) Tryd.func98 rfl Tryd.ntmps98 (Nat.le_of_ble_eq_true rfl) ?_
 refine wseq ?_
 refine wreg ?_
 refine le rfl (l_box (cks := [ckI a1.Kind, ckI a1.Epoch, ckI a1.Height, ckI a1.Round, ckV flB a1.Digest, ckI a1.From, ckI a1.Sig.Leaf, ckL s2, ckL s3, ckL s4]) hI rfl rfl rfl) rfl ?_
 rintro _ w6 ⟨g5, rfl, hI⟩
 replace hI : Inv B w6 H [.cb g_0 [ckL s1] 175, .own s1 5 1 gg_0_0, .cb g5 [ckI a1.Kind, ckI a1.Epoch, ckI a1.Height, ckI a1.Round, ckV flB a1.Digest, ckI a1.From, ckI a1.Sig.Leaf, ckL s2, ckL s3, ckL s4] 35] := hI
 refine wend ?_
 refine wthen ?_
 refine wren (fun ρ7 eρ7 => ?_)
 have h8 : opd ρ7 22 (.tmp 0) = .pointer (some ⟨g_0, 0 + 0, none⟩) := eρ7 0
 have h9 : opd ρ7 22 (.tmp 3) = .pointer (some ⟨g5, 0 + 0, none⟩) := eρ7 3
 clear eρ7
 refine wseq ?_
 refine wreg ?_
 refine lv (v := .pointer (some ⟨g_0, 0 + 0, none⟩)) rfl (r_mv rfl h8) rfl ?_
 refine lv (v := .pointer (some ⟨g5, 0 + 0, none⟩)) rfl (l_fa (j := 0) (i := 0) rfl fl35_0 h9 rfl) rfl ?_
 refine lv (v := .int .i64 a1.Kind) rfl (r_cl1 (off := 0) (p := 0) (hI.good.ca 2 rfl) rfl sc3 rfl rfl rfl) rfl ?_
 refine lv (v := .pointer (some ⟨g5, 0 + 1, none⟩)) rfl (l_fa (j := 0) (i := 0) rfl fl35_1 h9 rfl) rfl ?_
 refine lv (v := .int .i64 a1.Epoch) rfl (r_cl1 (off := 1) (p := 1) (hI.good.ca 2 rfl) rfl sc3 rfl rfl rfl) rfl ?_
 refine lv (v := .pointer (some ⟨g5, 0 + 2, none⟩)) rfl (l_fa (j := 0) (i := 0) rfl fl35_2 h9 rfl) rfl ?_
 refine lv (v := .int .i64 a1.Height) rfl (r_cl1 (off := 2) (p := 2) (hI.good.ca 2 rfl) rfl sc3 rfl rfl rfl) rfl ?_
 refine lv (v := .pointer (some ⟨g5, 0 + 3, none⟩)) rfl (l_fa (j := 0) (i := 0) rfl fl35_3 h9 rfl) rfl ?_
 refine lv (v := .int .i64 a1.Round) rfl (r_cl1 (off := 3) (p := 3) (hI.good.ca 2 rfl) rfl sc3 rfl rfl rfl) rfl ?_
 refine lv (v := .pointer (some ⟨g5, 0 + 36, none⟩)) rfl (l_fa (j := 0) (i := 0) rfl fl35_5 h9 rfl) rfl ?_
 refine lv (v := .int .i64 a1.From) rfl (r_cl1 (off := 36) (p := 5) (hI.good.ca 2 rfl) rfl sc3 rfl rfl rfl) rfl ?_
 refine le rfl (l_bs (t := (Fl.ty flI)) (vs := [.int .i64 a1.Kind, .int .i64 a1.Epoch, .int .i64 a1.Height, .int .i64 a1.Round, .int .i64 a1.From]) (xs := [a1.Kind, a1.Epoch, a1.Height, a1.Round, a1.From]) hI rfl sl59 inf3 rfl rfl (argc rfl (argc rfl (argc rfl (argc rfl (argc rfl rfl))))) (.cons rfl rfl (.cons rfl rfl (.cons rfl rfl (.cons rfl rfl (.cons rfl rfl .nil))))) rfl) rfl ?_
 rintro _ w12 ⟨s10, H11, rfl, hI, hleH11, hs10, hfs10, hgs10⟩
 obtain ⟨x13, hx13, hF⟩ := Option.bind_eq_some_iff.1 hF
 have hsp16 := spec_124 hx13 (hT.mono hleH11) (hI.part 2) (hs1.mono hleH11) hs10
 refine fc ([.cb g_0 [ckL s1] 175, .own s1 5 1 gg_0_0]) ([.cb g5 [ckI a1.Kind, ckI a1.Epoch, ckI a1.Height, ckI a1.Round, ckV flB a1.Digest, ckI a1.From, ckI a1.Sig.Leaf, ckL s2, ckL s3, ckL s4] 35]) (args := [.pointer (some ⟨g_0, 0 + 0, none⟩), s10.v]) fc124 rfl rfl rfl hI (argc rfl (argc rfl rfl)) (hsp16) ?_
 rintro _ H14 _ w15 ⟨s17, gg18, rfl, hs17, rfl⟩ hleH14 hI
 replace hI : Inv B w15 H14 [.cb g_0 [ckL s17] 175, .own s17 5 1 gg18, .cb g5 _ 35] := hI
 refine wend ?_
 refine wthen ?_
 refine wren (fun ρ19 eρ19 => ?_)
 have h20 : opd ρ19 22 (.tmp 0) = .pointer (some ⟨g_0, 0 + 0, none⟩) := (eρ19 0).trans h8
 have h21 : opd ρ19 22 (.tmp 3) = .pointer (some ⟨g5, 0 + 0, none⟩) := (eρ19 3).trans h9
 clear eρ19
 refine wreg ?_
 refine lv (v := .pointer (some ⟨g_0, 0 + 0, none⟩)) rfl (r_mv rfl h20) rfl ?_
 refine lv (v := .pointer (some ⟨g5, 0 + 4, none⟩)) rfl (l_fa (j := 0) (i := 0) rfl fl35_4 h21 rfl) rfl ?_
 refine lv (v := .agg (flat [ckV flB a1.Digest]).toArray) rfl (r_cla (off := 4) (p := 4) (m := 1) (hI.good.ca 2 rfl) rfl ag29 rfl rfl rfl) rfl ?_
 refine le rfl (l_bs (t := (Fl.ty (flV flB 32))) (vs := [.agg (flat [ckV flB a1.Digest]).toArray]) (xs := [a1.Digest]) hI rfl sl27 inf29 rfl rfl (argc rfl rfl) (.cons rfl rfl .nil) rfl) rfl ?_
 rintro _ w24 ⟨s22, H23, rfl, hI, hleH23, hs22, hfs22, hgs22⟩
 obtain ⟨x25, hx25, hF⟩ := Option.bind_eq_some_iff.1 hF
 have hsp28 := spec_125 hx25 (((hT.mono hleH11).mono hleH14).mono hleH23) (hI.part 2) (hs17.mono hleH23) hs22
 refine fc ([.cb g_0 [ckL s17] 175, .own s17 5 1 gg18]) ([.cb g5 [ckI a1.Kind, ckI a1.Epoch, ckI a1.Height, ckI a1.Round, ckV flB a1.Digest, ckI a1.From, ckI a1.Sig.Leaf, ckL s2, ckL s3, ckL s4] 35]) (args := [.pointer (some ⟨g_0, 0 + 0, none⟩), s22.v]) fc125 rfl rfl rfl hI (argc rfl (argc rfl rfl)) (hsp28) ?_
 rintro _ H26 _ w27 ⟨s29, gg30, rfl, hs29, rfl⟩ hleH26 hI
 replace hI : Inv B w27 H26 [.cb g_0 [ckL s29] 175, .own s29 5 1 gg30, .cb g5 _ 35] := hI
 refine wend ?_
 obtain rfl := Option.some.inj hF
 subst hB
 refine finN (rs := []) (vs := []) rfl trivial ?_
 exact hI.fin 2 ⟨s29, gg30, rfl, hs29, rfl⟩
noncomputable def M_vote_Signs (a0 : Vote) : Option ((Vec UInt8 32)) := ((M_vote_head (⟨[]⟩ : Code_Writer) a0).bind fun x18 => ((M_code_Writer_Bytes x18).bind fun x31 => ((M_sha_Of [[118, 111, 116, 101], x31.1]).bind fun x41 => some x41)))
set_option maxHeartbeats 1000000 in
theorem spec_54 {w : World} {H : Hp} {a0 : Vote} {s1 : Sv} {s2 : Sv} {s3 : Sv} {r : (Vec UInt8 32)} (hF : M_vote_Signs a0 = some r) (hT : Tab H) (hG : Good w H []) (hs1 : Sl (Fl.ty (flV flB 32)) H s1 a0.Sig.Once.Open) (hs2 : Sl (Fl.ty (flV flB 32)) H s2 a0.Sig.Once.Shut) (hs3 : Sl (Fl.ty (flV flB 32)) H s3 a0.Sig.Path) :
  Fine Tryd.prog 54 [.agg (flat [ckI a0.Kind, ckI a0.Epoch, ckI a0.Height, ckI a0.Round, ckV flB a0.Digest, ckI a0.From, ckI a0.Sig.Leaf, ckL s1, ckL s2, ckL s3]).toArray] w H [] (fun H' v L' => v = .agg (flat [ckV flB r]).toArray ∧ L' = []) := by
 unfold M_vote_Signs at hF
 unfold Fine
 obtain ⟨B, hB⟩ : ∃ B : Base, B = ⟨w, H, blks []⟩ := ⟨_, rfl⟩
 have hI : Inv B w H [] := by rw [hB]; exact Inv.start hG
 refine enter (n := 15) (args := [.agg (flat [ckI a0.Kind, ckI a0.Epoch, ckI a0.Height, ckI a0.Round, ckV flB a0.Digest, ckI a0.From, ckI a0.Sig.Leaf, ckL s1, ckL s2, ckL s3]).toArray]) Tryd.func54 rfl Tryd.ntmps54 (Nat.le_of_ble_eq_true rfl) ?_
 refine wseq ?_
 refine wreg ?_
 refine le rfl (l_box (cks := [ckI a0.Kind, ckI a0.Epoch, ckI a0.Height, ckI a0.Round, ckV flB a0.Digest, ckI a0.From, ckI a0.Sig.Leaf, ckL s1, ckL s2, ckL s3]) hI rfl rfl rfl) rfl ?_
 rintro _ w5 ⟨g4, rfl, hI⟩
 replace hI : Inv B w5 H [.cb g4 [ckI a0.Kind, ckI a0.Epoch, ckI a0.Height, ckI a0.Round, ckV flB a0.Digest, ckI a0.From, ckI a0.Sig.Leaf, ckL s1, ckL s2, ckL s3] 35] := hI
 refine le rfl (l_al hI rfl ze29) rfl ?_
 rintro _ w7 ⟨g6, rfl, hI⟩
 replace hI : Inv B w7 H [.cb g4 _ 35, .cb g6 [ckV flB (Vec.rep 32 0)] 29] := hI
 refine wend ?_
 refine wthen ?_
 refine wren (fun ρ8 eρ8 => ?_)
 have h9 : opd ρ8 15 (.tmp 1) = .pointer (some ⟨g4, 0 + 0, none⟩) := eρ8 1
 have h10 : opd ρ8 15 (.tmp 2) = .pointer (some ⟨g6, 0 + 0, none⟩) := eρ8 2
 clear eρ8
 refine wseq ?_
 refine wreg ?_
 refine lv (v := .agg (flat [ckL Sv.nil]).toArray) rfl (r_bldk (z := [[ckL Sv.nil]]) (pc := []) rfl zg175 bf175 rfl rfl rfl rfl) rfl ?_
 refine le rfl (l_box (cks := [ckL Sv.nil]) hI rfl rfl rfl) rfl ?_
 rintro _ w12 ⟨g11, rfl, hI⟩
 replace hI : Inv B w12 H [.cb g4 _ 35, .cb g6 _ 29, .cb g11 [ckL Sv.nil] 175] := hI
 refine lv (v := .pointer (some ⟨g11, 0 + 0, none⟩)) rfl (r_as rfl rfl) rfl ?_
 refine wend ?_
 refine wthen ?_
 refine wren (fun ρ13 eρ13 => ?_)
 have h14 : opd ρ13 15 (.tmp 1) = .pointer (some ⟨g4, 0 + 0, none⟩) := (eρ13 1).trans h9
 have h15 : opd ρ13 15 (.tmp 2) = .pointer (some ⟨g6, 0 + 0, none⟩) := (eρ13 2).trans h10
 have h16 : opd ρ13 15 (.tmp 3) = .pointer (some ⟨g11, 0 + 0, none⟩) := eρ13 3
 clear eρ13
 refine wseq ?_
 refine wreg ?_
 refine lv (v := .pointer (some ⟨g11, 0 + 0, none⟩)) rfl (r_mv rfl h16) rfl ?_
 refine lv (v := .agg (flat [ckI a0.Kind, ckI a0.Epoch, ckI a0.Height, ckI a0.Round, ckV flB a0.Digest, ckI a0.From, ckI a0.Sig.Leaf, ckL s1, ckL s2, ckL s3]).toArray) rfl (r_cla (off := 0) (p := 0) (m := 10) (hI.good.ca 0 rfl) rfl ag35 h14 rfl rfl) rfl ?_
 replace hI := Inv.full (e := 5) (sz := 1) hI (show Sv.nil.n = Sv.nil.c from rfl)
 replace hI : Inv B w12 H [.cb g4 _ 35, .cb g6 _ 29, .cb g11 [ckL Sv.nil] 175, .own Sv.nil 5 1 none] := hI
 replace hI := hI.bring 3 rfl
 replace hI := hI.bring 3 rfl
 replace hI : Inv B w12 H [.cb g11 [ckL Sv.nil] 175, .own Sv.nil 5 1 none, .cb g4 _ 35, .cb g6 _ 29] := hI
 obtain ⟨x18, hx18, hF⟩ := Option.bind_eq_some_iff.1 hF
 have hsp21 := spec_98 hx18 hT (hI.part 2) (Sl.nil _ _) hs1 hs2 hs3
 refine fc ([.cb g11 [ckL Sv.nil] 175, .own Sv.nil 5 1 none]) ([.cb g4 [ckI a0.Kind, ckI a0.Epoch, ckI a0.Height, ckI a0.Round, ckV flB a0.Digest, ckI a0.From, ckI a0.Sig.Leaf, ckL s1, ckL s2, ckL s3] 35, .cb g6 [ckV flB (Vec.rep 32 0)] 29]) (args := [.pointer (some ⟨g11, 0 + 0, none⟩), .agg (flat [ckI a0.Kind, ckI a0.Epoch, ckI a0.Height, ckI a0.Round, ckV flB a0.Digest, ckI a0.From, ckI a0.Sig.Leaf, ckL s1, ckL s2, ckL s3]).toArray]) fc98 rfl rfl rfl hI (argc rfl (argc rfl rfl)) (hsp21) ?_
 rintro _ H19 _ w20 ⟨s22, gg23, rfl, hs22, rfl⟩ hleH19 hI
 replace hI : Inv B w20 H19 [.cb g11 [ckL s22] 175, .own s22 5 1 gg23, .cb g4 _ 35, .cb g6 _ 29] := hI
 refine wend ?_
 refine wthen ?_
 refine wren (fun ρ24 eρ24 => ?_)
 have h25 : opd ρ24 15 (.tmp 2) = .pointer (some ⟨g6, 0 + 0, none⟩) := (eρ24 2).trans h15
 have h26 : opd ρ24 15 (.tmp 3) = .pointer (some ⟨g11, 0 + 0, none⟩) := (eρ24 3).trans h16
 clear eρ24
 refine wseq ?_
 refine wreg ?_
 refine le rfl (l_bs (t := (Fl.ty flB)) (vs := [bv 118, bv 111, bv 116, bv 101]) (xs := [118, 111, 116, 101]) hI rfl sl158 inf5 rfl rfl (argc rfl (argc rfl (argc rfl (argc rfl rfl)))) (.cons rfl rfl (.cons rfl rfl (.cons rfl rfl (.cons rfl rfl .nil)))) rfl) rfl ?_
 rintro _ w29 ⟨s27, H28, rfl, hI, hleH28, hs27, hfs27, hgs27⟩
 refine le rfl (l_cvc (t := flB.ty) hI rfl un158 un5 rfl hs27 hgs27) rfl ?_
 rintro _ w30 ⟨rfl, hI⟩
 replace hI : Inv B w30 H28 [.cb g11 [ckL s22] 175, .own s22 5 1 gg23, .cb g4 _ 35, .cb g6 _ 29] := hI
 refine lv (v := .pointer (some ⟨g11, 0 + 0, none⟩)) rfl (r_mv rfl h26) rfl ?_
 obtain ⟨x31, hx31, hF⟩ := Option.bind_eq_some_iff.1 hF
 have hsp34 := spec_100 hx31 ((hT.mono hleH19).mono hleH28) (hI.part 2) (hs22.mono hleH28)
 refine fc ([.cb g11 [ckL s22] 175, .own s22 5 1 gg23]) ([.cb g4 [ckI a0.Kind, ckI a0.Epoch, ckI a0.Height, ckI a0.Round, ckV flB a0.Digest, ckI a0.From, ckI a0.Sig.Leaf, ckL s1, ckL s2, ckL s3] 35, .cb g6 [ckV flB (Vec.rep 32 0)] 29]) (args := [.pointer (some ⟨g11, 0 + 0, none⟩)]) fc100 rfl rfl rfl hI (argc rfl rfl) (hsp34) ?_
 rintro _ H32 _ w33 ⟨s35, s36, gg37, rfl, hs35, hs36, rfl⟩ hleH32 hI
 replace hI : Inv B w33 H32 [.cb g11 [ckL s36] 175, .own s36 5 1 gg37, .cb g4 _ 35, .cb g6 _ 29] := hI
 refine le rfl (l_bs (t := (Ty.sl (Fl.ty flB))) (vs := [s27.v, s35.v]) (xs := [[118, 111, 116, 101], x31.1]) hI rfl sl228 inf158 rfl rfl (argc rfl (argc rfl rfl)) (.cons rfl ⟨s27, rfl, (hs27.mono hleH32)⟩ (.cons rfl ⟨s35, rfl, hs35⟩ .nil)) rfl) rfl ?_
 rintro _ w40 ⟨s38, H39, rfl, hI, hleH39, hs38, hfs38, hgs38⟩
 obtain ⟨x41, hx41, hF⟩ := Option.bind_eq_some_iff.1 hF
 have hsp44 := spec_99 hx41 ((((hT.mono hleH19).mono hleH28).mono hleH32).mono hleH39) (hI.part 0) hs38
 refine fc ([]) ([.cb g11 [ckL s36] 175, .own s36 5 1 gg37, .cb g4 [ckI a0.Kind, ckI a0.Epoch, ckI a0.Height, ckI a0.Round, ckV flB a0.Digest, ckI a0.From, ckI a0.Sig.Leaf, ckL s1, ckL s2, ckL s3] 35, .cb g6 [ckV flB (Vec.rep 32 0)] 29]) (args := [s38.v]) fc99 rfl rfl rfl hI (argc rfl rfl) (hsp44) ?_
 rintro _ H42 _ w43 ⟨rfl, rfl⟩ hleH42 hI
 replace hI : Inv B w43 H42 [.cb g11 [ckL s36] 175, .own s36 5 1 gg37, .cb g4 _ 35, .cb g6 _ 29] := hI
 refine lst rfl (l_st (off := 0) (p := 0) (m := 1) (new := [ckV flB x41]) hI 3 rfl rfl sz29 h25 rfl rfl rfl rfl rfl) rfl ?_
 intro w45 hI
 replace hI : Inv B w45 H42 [.cb g11 [ckL s36] 175, .own s36 5 1 gg37, .cb g4 _ 35, .cb g6 [ckV flB x41] 29] := hI
 refine wend ?_
 refine wthen ?_
 refine wren (fun ρ46 eρ46 => ?_)
 have h47 : opd ρ46 15 (.tmp 2) = .pointer (some ⟨g6, 0 + 0, none⟩) := (eρ46 2).trans h25
 clear eρ46
 refine wp_ret ?_
 obtain rfl := Option.some.inj hF
 subst hB
 refine finR (rs := [.cell 2 29]) (vs := [.agg (flat [ckV flB x41]).toArray]) rfl ⟨⟨_, h47, ld_agg (hI.good.ca 3 rfl) ag29 rfl⟩, trivial⟩ ?_
 exact hI.fin 0 ⟨rfl, rfl⟩
noncomputable def M_vote_Right (a0 : Config) (a1 : Vote) : Option (Bool) := ((M_config_Find a0 a1.From).bind fun x12 => (if x12.2.2 = true then ((M_vote_Good a1).bind fun x26 => (if x26 = true then (if a1.Epoch = a0.Epoch then ((M_vote_Signs a1).bind fun x32 => ((M_keys_Check x12.1.Key x32 a1.Sig).bind fun x36 => some x36)) else some false) else some false)) else some false))
set_option maxHeartbeats 4000000 in
theorem spec_55 {w : World} {H : Hp} {a0 : Config} {a1 : Vote} {s1 : Sv} {s2 : Sv} {s3 : Sv} {s4 : Sv} {r : Bool} (hF : M_vote_Right a0 a1 = some r) (hT : Tab H) (hG : Good w H []) (hs1 : Sl (Fl.ty fl_Member) H s1 a0.Members) (hs2 : Sl (Fl.ty (flV flB 32)) H s2 a1.Sig.Once.Open) (hs3 : Sl (Fl.ty (flV flB 32)) H s3 a1.Sig.Once.Shut) (hs4 : Sl (Fl.ty (flV flB 32)) H s4 a1.Sig.Path) :
  Fine Tryd.prog 55 [.agg (flat [ckI a0.Epoch, ckL s1]).toArray, .agg (flat [ckI a1.Kind, ckI a1.Epoch, ckI a1.Height, ckI a1.Round, ckV flB a1.Digest, ckI a1.From, ckI a1.Sig.Leaf, ckL s2, ckL s3, ckL s4]).toArray] w H [] (fun H' v L' => v = .bool r ∧ L' = []) := by
 unfold M_vote_Right at hF
 unfold Fine
 obtain ⟨B, hB⟩ : ∃ B : Base, B = ⟨w, H, blks []⟩ := ⟨_, rfl⟩
 have hI : Inv B w H [] := by rw [hB]; exact Inv.start hG
 refine enter (n := 37) (args := [.agg (flat [ckI a0.Epoch, ckL s1]).toArray, .agg (flat [ckI a1.Kind, ckI a1.Epoch, ckI a1.Height, ckI a1.Round, ckV flB a1.Digest, ckI a1.From, ckI a1.Sig.Leaf, ckL s2, ckL s3, ckL s4]).toArray]) Tryd.func55 rfl Tryd.ntmps55 (Nat.le_of_ble_eq_true rfl) ?_
 refine wseq ?_
 refine wreg ?_
 refine le rfl (l_box (cks := [ckI a0.Epoch, ckL s1]) hI rfl rfl rfl) rfl ?_
 rintro _ w6 ⟨g5, rfl, hI⟩
 replace hI : Inv B w6 H [.cb g5 [ckI a0.Epoch, ckL s1] 64] := hI
 refine le rfl (l_box (cks := [ckI a1.Kind, ckI a1.Epoch, ckI a1.Height, ckI a1.Round, ckV flB a1.Digest, ckI a1.From, ckI a1.Sig.Leaf, ckL s2, ckL s3, ckL s4]) hI rfl rfl rfl) rfl ?_
 rintro _ w8 ⟨g7, rfl, hI⟩
 replace hI : Inv B w8 H [.cb g5 _ 64, .cb g7 [ckI a1.Kind, ckI a1.Epoch, ckI a1.Height, ckI a1.Round, ckV flB a1.Digest, ckI a1.From, ckI a1.Sig.Leaf, ckL s2, ckL s3, ckL s4] 35] := hI
 refine lv (v := .bool false) rfl (r_as rfl rfl) rfl ?_
 refine wend ?_
 refine wthen ?_
 refine wren (fun ρ9 eρ9 => ?_)
 have h10 : opd ρ9 37 (.tmp 2) = .pointer (some ⟨g5, 0 + 0, none⟩) := eρ9 2
 have h11 : opd ρ9 37 (.tmp 3) = .pointer (some ⟨g7, 0 + 0, none⟩) := eρ9 3
 clear eρ9
 refine wseq ?_
 refine wreg ?_
 refine lv (v := .agg (flat [ckI a0.Epoch, ckL s1]).toArray) rfl (r_cla (off := 0) (p := 0) (m := 2) (hI.good.ca 0 rfl) rfl ag64 h10 rfl rfl) rfl ?_
 refine lv (v := .pointer (some ⟨g7, 0 + 36, none⟩)) rfl (l_fa (j := 0) (i := 0) rfl fl35_5 h11 rfl) rfl ?_
 refine lv (v := .int .i64 a1.From) rfl (r_cl1 (off := 36) (p := 5) (hI.good.ca 1 rfl) rfl sc3 rfl rfl rfl) rfl ?_
 obtain ⟨x12, hx12, hF⟩ := Option.bind_eq_some_iff.1 hF
 have hsp15 := spec_101 hx12 hT (hI.part 0) hs1
 refine fc ([]) ([.cb g5 [ckI a0.Epoch, ckL s1] 64, .cb g7 [ckI a1.Kind, ckI a1.Epoch, ckI a1.Height, ckI a1.Round, ckV flB a1.Digest, ckI a1.From, ckI a1.Sig.Leaf, ckL s2, ckL s3, ckL s4] 35]) (args := [.agg (flat [ckI a0.Epoch, ckL s1]).toArray, .int .i64 a1.From]) fc101 rfl rfl rfl hI (argc rfl (argc rfl rfl)) (hsp15) ?_
 rintro _ H13 _ w14 ⟨rfl, rfl⟩ hleH13 hI
 replace hI : Inv B w14 H13 [.cb g5 _ 64, .cb g7 _ 35] := hI
 refine lv (v := .tuple #[.agg (flat [ckI x12.1.Id, ckV flB x12.1.Key.Root, ckI x12.1.Key.Height]).toArray, .int .i64 x12.2.1, .bool x12.2.2]) rfl (r_mv rfl rfl) rfl ?_
 refine lv (v := .agg (flat [ckI x12.1.Id, ckV flB x12.1.Key.Root, ckI x12.1.Key.Height]).toArray) rfl (r_ext rfl rfl rfl) rfl ?_
 refine lv (v := .int .i64 x12.2.1) rfl (r_ext rfl rfl rfl) rfl ?_
 refine lv (v := .bool x12.2.2) rfl (r_ext rfl rfl rfl) rfl ?_
 refine le rfl (l_al hI rfl ze114) rfl ?_
 rintro _ w17 ⟨g16, rfl, hI⟩
 replace hI : Inv B w17 H13 [.cb g5 _ 64, .cb g7 _ 35, .cb g16 [ckI 0, ckV flB (Vec.rep 32 0), ckI 0] 114] := hI
 refine lst rfl (l_st (off := 0) (p := 0) (m := 3) (new := [ckI x12.1.Id, ckV flB x12.1.Key.Root, ckI x12.1.Key.Height]) hI 2 rfl rfl sz114 rfl rfl rfl rfl rfl rfl) rfl ?_
 intro w18 hI
 replace hI : Inv B w18 H13 [.cb g5 _ 64, .cb g7 _ 35, .cb g16 [ckI x12.1.Id, ckV flB x12.1.Key.Root, ckI x12.1.Key.Height] 114] := hI
 refine lv (v := .int .i64 x12.2.1) rfl (r_as rfl rfl) rfl ?_
 refine lv (v := .bool x12.2.2) rfl (r_as rfl rfl) rfl ?_
 refine wend ?_
 refine wthen ?_
 refine wren (fun ρ19 eρ19 => ?_)
 have h20 : opd ρ19 37 (.tmp 2) = .pointer (some ⟨g5, 0 + 0, none⟩) := (eρ19 2).trans h10
 have h21 : opd ρ19 37 (.tmp 3) = .pointer (some ⟨g7, 0 + 0, none⟩) := (eρ19 3).trans h11
 have h22 : opd ρ19 37 (.tmp 5) = .pointer (some ⟨g16, 0 + 0, none⟩) := eρ19 5
 have h23 : opd ρ19 37 (.tmp 7) = .bool x12.2.2 := eρ19 7
 clear eρ19
 refine wseq ?_
 refine dstG (H0 := H13) (L0 := keepL [true, true, true] [.cb g5 [ckI a0.Epoch, ckL s1] 64, .cb g7 [ckI a1.Kind, ckI a1.Epoch, ckI a1.Height, ckI a1.Round, ckV flB a1.Digest, ckI a1.From, ckI a1.Sig.Leaf, ckL s2, ckL s3, ckL s4] 35, .cb g16 [ckI x12.1.Id, ckV flB x12.1.Key.Root, ckI x12.1.Key.Height] 114]) [] mixed rfl (by repeat (first | exact Pan.body | refine Pan.then ?_ | refine Pan.inBlock ?_ | refine Pan.noGoto ?_ | refine Pan.pure ?_)) hI (hI.good.weakm _ (Hle.refl _) rfl) ?_
 intro w24 hI hP
 refine dp (v := .bool x12.2.2) 0 (by kernel_rfl) rfl rfl (fun _ => r_mv rfl h23) rfl hP ?_
 by_cases hc25 : x12.2.2 = true
 ·skip
  rw [if_pos hc25] at hF
  have hbhc25 : x12.2.2 = true := hc25
  refine dp (v := .bool true) 1 (by kernel_rfl) rfl rfl (fun _ => r_mv rfl ((show opd _ _ _ = _ from rfl).trans (congrArg Value.bool hbhc25))) rfl hP ?_
  refine dr (v := .agg (flat [ckI a1.Kind, ckI a1.Epoch, ckI a1.Height, ckI a1.Round, ckV flB a1.Digest, ckI a1.From, ckI a1.Sig.Leaf, ckL s2, ckL s3, ckL s4]).toArray) 2 (by kernel_rfl) rfl rfl (hI.good.weakm [true, true, true] (Hle.refl _) rfl) (fun _ hG => r_cla (off := 0) (p := 0) (m := 10) (hG.ca 1 rfl) rfl ag35 h21 rfl rfl) rfl hP ?_
  obtain ⟨x26, hx26, hF⟩ := Option.bind_eq_some_iff.1 hF
  have hsp29 := spec_102 hx26 (hT.mono hleH13) (hI.part 0) (hs2.mono hleH13) (hs3.mono hleH13) (hs4.mono hleH13)
  refine dfc 3 ([]) ([.cb g5 [ckI a0.Epoch, ckL s1] 64, .cb g7 [ckI a1.Kind, ckI a1.Epoch, ckI a1.Height, ckI a1.Round, ckV flB a1.Digest, ckI a1.From, ckI a1.Sig.Leaf, ckL s2, ckL s3, ckL s4] 35, .cb g16 [ckI x12.1.Id, ckV flB x12.1.Key.Root, ckI x12.1.Key.Height] 114]) (args := [.agg (flat [ckI a1.Kind, ckI a1.Epoch, ckI a1.Height, ckI a1.Round, ckV flB a1.Digest, ckI a1.From, ckI a1.Sig.Leaf, ckL s2, ckL s3, ckL s4]).toArray]) fc102 (by kernel_rfl) rfl rfl rfl rfl rfl hI (argc rfl rfl) (hsp29) ?_
  rintro _ H27 _ w28 ⟨rfl, rfl⟩ hleH27 hI
  replace hI : Inv B w28 H27 [.cb g5 _ 64, .cb g7 _ 35, .cb g16 _ 114] := hI
  refine ⟨(hI.good.weakm [true, true, true] hleH27 rfl), ?_⟩
  refine dp (v := .bool x26) 4 (by kernel_rfl) rfl rfl (fun _ => r_pkT rfl rfl rfl) rfl hP ?_
  by_cases hc30 : x26 = true
  ·skip
   rw [if_pos hc30] at hF
   have hbhc30 : x26 = true := hc30
   refine dp (v := .bool true) 5 (by kernel_rfl) rfl rfl (fun _ => r_mv rfl ((show opd _ _ _ = _ from rfl).trans (congrArg Value.bool hbhc30))) rfl hP ?_
   refine dp (v := .pointer (some ⟨g7, 0 + 1, none⟩)) 6 (by kernel_rfl) rfl rfl (fun _ => l_fa (j := 0) (i := 0) rfl fl35_1 h21 rfl) rfl hP ?_
   refine dp (v := .pointer (some ⟨g5, 0 + 0, none⟩)) 8 (by kernel_rfl) rfl rfl (fun _ => l_fa (j := 0) (i := 0) rfl fl64_0 h20 rfl) rfl hP ?_
   refine dr (v := .int .i64 a1.Epoch) 7 (by kernel_rfl) rfl rfl (hI.good.weakm [true, true, true] hleH27 rfl) (fun _ hG => r_cl1 (off := 1) (p := 1) (hG.ca 1 rfl) rfl sc3 rfl rfl rfl) rfl hP ?_
   refine dr (v := .int .i64 a0.Epoch) 9 (by kernel_rfl) rfl rfl (hI.good.weakm [true, true, true] hleH27 rfl) (fun _ hG => r_cl1 (off := 0) (p := 0) (hG.ca 0 rfl) rfl sc3 rfl rfl rfl) rfl hP ?_
   refine dp (v := .bool (decide (a1.Epoch = a0.Epoch))) 10 (by kernel_rfl) rfl rfl (fun _ => r_eql rfl rfl rfl rfl) rfl hP ?_
   refine dp (v := .bool (decide (a1.Epoch = a0.Epoch))) 11 (by kernel_rfl) rfl rfl (fun _ => r_pkT rfl rfl rfl) rfl hP ?_
   by_cases hc31 : a1.Epoch = a0.Epoch
   ·skip
    rw [if_pos hc31] at hF
    have hbhc31 : (decide (a1.Epoch = a0.Epoch)) = true := decide_eq_true hc31
    refine dp (v := .bool true) 12 (by kernel_rfl) rfl rfl (fun _ => r_mv rfl ((show opd _ _ _ = _ from rfl).trans (congrArg Value.bool hbhc31))) rfl hP ?_
    refine dp (v := .pointer (some ⟨g16, 0 + 1, none⟩)) 13 (by kernel_rfl) rfl rfl (fun _ => l_fa (j := 0) (i := 0) rfl fl114_1 h22 rfl) rfl hP ?_
    refine dp (v := .pointer (some ⟨g7, 0 + 37, none⟩)) 17 (by kernel_rfl) rfl rfl (fun _ => l_fa (j := 0) (i := 0) rfl fl35_6 h21 rfl) rfl hP ?_
    refine dr (v := .agg (flat [ckV flB x12.1.Key.Root, ckI x12.1.Key.Height]).toArray) 14 (by kernel_rfl) rfl rfl (hI.good.weakm [true, true, true] hleH27 rfl) (fun _ hG => r_cla (off := 1) (p := 1) (m := 2) (hG.ca 2 rfl) rfl ag49 rfl rfl rfl) rfl hP ?_
    refine dr (v := .agg (flat [ckI a1.Kind, ckI a1.Epoch, ckI a1.Height, ckI a1.Round, ckV flB a1.Digest, ckI a1.From, ckI a1.Sig.Leaf, ckL s2, ckL s3, ckL s4]).toArray) 15 (by kernel_rfl) rfl rfl (hI.good.weakm [true, true, true] hleH27 rfl) (fun _ hG => r_cla (off := 0) (p := 0) (m := 10) (hG.ca 1 rfl) rfl ag35 h21 rfl rfl) rfl hP ?_
    refine dr (v := .agg (flat [ckI a1.Sig.Leaf, ckL s2, ckL s3, ckL s4]).toArray) 18 (by kernel_rfl) rfl rfl (hI.good.weakm [true, true, true] hleH27 rfl) (fun _ hG => r_cla (off := 37) (p := 6) (m := 4) (hG.ca 1 rfl) rfl ag33 rfl rfl rfl) rfl hP ?_
    obtain ⟨x32, hx32, hF⟩ := Option.bind_eq_some_iff.1 hF
    have hsp35 := spec_54 hx32 ((hT.mono hleH13).mono hleH27) (hI.part 0) ((hs2.mono hleH13).mono hleH27) ((hs3.mono hleH13).mono hleH27) ((hs4.mono hleH13).mono hleH27)
    refine dfc 16 ([]) ([.cb g5 [ckI a0.Epoch, ckL s1] 64, .cb g7 [ckI a1.Kind, ckI a1.Epoch, ckI a1.Height, ckI a1.Round, ckV flB a1.Digest, ckI a1.From, ckI a1.Sig.Leaf, ckL s2, ckL s3, ckL s4] 35, .cb g16 [ckI x12.1.Id, ckV flB x12.1.Key.Root, ckI x12.1.Key.Height] 114]) (args := [.agg (flat [ckI a1.Kind, ckI a1.Epoch, ckI a1.Height, ckI a1.Round, ckV flB a1.Digest, ckI a1.From, ckI a1.Sig.Leaf, ckL s2, ckL s3, ckL s4]).toArray]) fc54 (by kernel_rfl) rfl rfl rfl rfl rfl hI (argc rfl rfl) (hsp35) ?_
    rintro _ H33 _ w34 ⟨rfl, rfl⟩ hleH33 hI
    replace hI : Inv B w34 H33 [.cb g5 _ 64, .cb g7 _ 35, .cb g16 _ 114] := hI
    refine ⟨(hI.good.weakm [true, true, true] (hleH27.trans hleH33) rfl), ?_⟩
    obtain ⟨x36, hx36, hF⟩ := Option.bind_eq_some_iff.1 hF
    have hsp39 := spec_26 hx36 (((hT.mono hleH13).mono hleH27).mono hleH33) (hI.part 0) (((hs2.mono hleH13).mono hleH27).mono hleH33) (((hs3.mono hleH13).mono hleH27).mono hleH33) (((hs4.mono hleH13).mono hleH27).mono hleH33)
    refine dfc 19 ([]) ([.cb g5 [ckI a0.Epoch, ckL s1] 64, .cb g7 [ckI a1.Kind, ckI a1.Epoch, ckI a1.Height, ckI a1.Round, ckV flB a1.Digest, ckI a1.From, ckI a1.Sig.Leaf, ckL s2, ckL s3, ckL s4] 35, .cb g16 [ckI x12.1.Id, ckV flB x12.1.Key.Root, ckI x12.1.Key.Height] 114]) (args := [.agg (flat [ckV flB x12.1.Key.Root, ckI x12.1.Key.Height]).toArray, .agg (flat [ckV flB x32]).toArray, .agg (flat [ckI a1.Sig.Leaf, ckL s2, ckL s3, ckL s4]).toArray]) fc26 (by kernel_rfl) rfl rfl rfl rfl rfl hI (argc rfl (argc rfl (argc rfl rfl))) (hsp39) ?_
    rintro _ H37 _ w38 ⟨rfl, rfl⟩ hleH37 hI
    replace hI : Inv B w38 H37 [.cb g5 _ 64, .cb g7 _ 35, .cb g16 _ 114] := hI
    refine ⟨(hI.good.weakm [true, true, true] ((hleH27.trans hleH33).trans hleH37) rfl), ?_⟩
    refine dp (v := .bool x36) 20 (by kernel_rfl) rfl rfl (fun _ => r_pkT rfl rfl rfl) rfl hP ?_
    refine dp (v := .bool x36) 21 (by kernel_rfl) rfl rfl (fun _ => r_as rfl rfl) rfl hP ?_
    refine dend (by kernel_rfl) ?_
    refine wthen ?_
    refine wren (fun ρ40 eρ40 => ?_)
    have h41 : opd ρ40 37 (.tmp 4) = .bool x36 := eρ40 4
    clear eρ40
    refine wp_ret ?_
    obtain rfl := Option.some.inj hF
    subst hB
    refine finR (rs := [.tmp 4]) (vs := [.bool x36]) rfl ⟨h41, trivial⟩ ?_
    exact hI.fin 0 ⟨rfl, rfl⟩
   ·skip
    rw [if_neg hc31] at hF
    have hbhc31 : (decide (a1.Epoch = a0.Epoch)) = false := decide_eq_false hc31
    refine dp (v := .bool false) 12 (by kernel_rfl) rfl rfl (fun _ => r_mv rfl ((show opd _ _ _ = _ from rfl).trans (congrArg Value.bool hbhc31))) rfl hP ?_
    refine dx 13 (by kernel_rfl) rfl (by kernel_rfl) rfl hP ?_
    refine dx 14 (by kernel_rfl) rfl (by kernel_rfl) rfl hP ?_
    refine dx 15 (by kernel_rfl) rfl (by kernel_rfl) rfl hP ?_
    refine dx 16 (by kernel_rfl) rfl (by kernel_rfl) rfl hP ?_
    refine dx 17 (by kernel_rfl) rfl (by kernel_rfl) rfl hP ?_
    refine dx 18 (by kernel_rfl) rfl (by kernel_rfl) rfl hP ?_
    refine dx 19 (by kernel_rfl) rfl (by kernel_rfl) rfl hP ?_
    refine dp (v := .bool false) 20 (by kernel_rfl) rfl rfl (fun _ => r_pkF rfl rfl rfl) rfl hP ?_
    refine dp (v := .bool false) 21 (by kernel_rfl) rfl rfl (fun _ => r_as rfl rfl) rfl hP ?_
    refine dend (by kernel_rfl) ?_
    refine wthen ?_
    refine wren (fun ρ42 eρ42 => ?_)
    have h43 : opd ρ42 37 (.tmp 4) = .bool false := eρ42 4
    clear eρ42
    refine wp_ret ?_
    obtain rfl := Option.some.inj hF
    subst hB
    refine finR (rs := [.tmp 4]) (vs := [.bool false]) rfl ⟨h43, trivial⟩ ?_
    exact hI.fin 0 ⟨rfl, rfl⟩
  ·skip
   rw [if_neg hc30] at hF
   have hbhc30 : x26 = false := (Bool.eq_false_iff.2 hc30)
   refine dp (v := .bool false) 5 (by kernel_rfl) rfl rfl (fun _ => r_mv rfl ((show opd _ _ _ = _ from rfl).trans (congrArg Value.bool hbhc30))) rfl hP ?_
   refine dx 6 (by kernel_rfl) rfl (by kernel_rfl) rfl hP ?_
   refine dx 7 (by kernel_rfl) rfl (by kernel_rfl) rfl hP ?_
   refine dx 8 (by kernel_rfl) rfl (by kernel_rfl) rfl hP ?_
   refine dx 9 (by kernel_rfl) rfl (by kernel_rfl) rfl hP ?_
   refine dx 10 (by kernel_rfl) rfl (by kernel_rfl) rfl hP ?_
   refine dp (v := .bool false) 11 (by kernel_rfl) rfl rfl (fun _ => r_pkF rfl rfl rfl) rfl hP ?_
   refine dp (v := .bool false) 12 (by kernel_rfl) rfl rfl (fun _ => r_mv rfl rfl) rfl hP ?_
   refine dx 13 (by kernel_rfl) rfl (by kernel_rfl) rfl hP ?_
   refine dx 14 (by kernel_rfl) rfl (by kernel_rfl) rfl hP ?_
   refine dx 15 (by kernel_rfl) rfl (by kernel_rfl) rfl hP ?_
   refine dx 16 (by kernel_rfl) rfl (by kernel_rfl) rfl hP ?_
   refine dx 17 (by kernel_rfl) rfl (by kernel_rfl) rfl hP ?_
   refine dx 18 (by kernel_rfl) rfl (by kernel_rfl) rfl hP ?_
   refine dx 19 (by kernel_rfl) rfl (by kernel_rfl) rfl hP ?_
   refine dp (v := .bool false) 20 (by kernel_rfl) rfl rfl (fun _ => r_pkF rfl rfl rfl) rfl hP ?_
   refine dp (v := .bool false) 21 (by kernel_rfl) rfl rfl (fun _ => r_as rfl rfl) rfl hP ?_
   refine dend (by kernel_rfl) ?_
   refine wthen ?_
   refine wren (fun ρ44 eρ44 => ?_)
   have h45 : opd ρ44 37 (.tmp 4) = .bool false := eρ44 4
   clear eρ44
   refine wp_ret ?_
   obtain rfl := Option.some.inj hF
   subst hB
   refine finR (rs := [.tmp 4]) (vs := [.bool false]) rfl ⟨h45, trivial⟩ ?_
   exact hI.fin 0 ⟨rfl, rfl⟩
 ·skip
  rw [if_neg hc25] at hF
  have hbhc25 : x12.2.2 = false := (Bool.eq_false_iff.2 hc25)
  refine dp (v := .bool false) 1 (by kernel_rfl) rfl rfl (fun _ => r_mv rfl ((show opd _ _ _ = _ from rfl).trans (congrArg Value.bool hbhc25))) rfl hP ?_
  refine dx 2 (by kernel_rfl) rfl (by kernel_rfl) rfl hP ?_
  refine dx 3 (by kernel_rfl) rfl (by kernel_rfl) rfl hP ?_
  refine dp (v := .bool false) 4 (by kernel_rfl) rfl rfl (fun _ => r_pkF rfl rfl rfl) rfl hP ?_
  refine dp (v := .bool false) 5 (by kernel_rfl) rfl rfl (fun _ => r_mv rfl rfl) rfl hP ?_
  refine dx 6 (by kernel_rfl) rfl (by kernel_rfl) rfl hP ?_
  refine dx 7 (by kernel_rfl) rfl (by kernel_rfl) rfl hP ?_
  refine dx 8 (by kernel_rfl) rfl (by kernel_rfl) rfl hP ?_
  refine dx 9 (by kernel_rfl) rfl (by kernel_rfl) rfl hP ?_
  refine dx 10 (by kernel_rfl) rfl (by kernel_rfl) rfl hP ?_
  refine dp (v := .bool false) 11 (by kernel_rfl) rfl rfl (fun _ => r_pkF rfl rfl rfl) rfl hP ?_
  refine dp (v := .bool false) 12 (by kernel_rfl) rfl rfl (fun _ => r_mv rfl rfl) rfl hP ?_
  refine dx 13 (by kernel_rfl) rfl (by kernel_rfl) rfl hP ?_
  refine dx 14 (by kernel_rfl) rfl (by kernel_rfl) rfl hP ?_
  refine dx 15 (by kernel_rfl) rfl (by kernel_rfl) rfl hP ?_
  refine dx 16 (by kernel_rfl) rfl (by kernel_rfl) rfl hP ?_
  refine dx 17 (by kernel_rfl) rfl (by kernel_rfl) rfl hP ?_
  refine dx 18 (by kernel_rfl) rfl (by kernel_rfl) rfl hP ?_
  refine dx 19 (by kernel_rfl) rfl (by kernel_rfl) rfl hP ?_
  refine dp (v := .bool false) 20 (by kernel_rfl) rfl rfl (fun _ => r_pkF rfl rfl rfl) rfl hP ?_
  refine dp (v := .bool false) 21 (by kernel_rfl) rfl rfl (fun _ => r_as rfl rfl) rfl hP ?_
  refine dend (by kernel_rfl) ?_
  refine wthen ?_
  refine wren (fun ρ46 eρ46 => ?_)
  have h47 : opd ρ46 37 (.tmp 4) = .bool false := eρ46 4
  clear eρ46
  refine wp_ret ?_
  obtain rfl := Option.some.inj hF
  subst hB
  refine finR (rs := [.tmp 4]) (vs := [.bool false]) rfl ⟨h47, trivial⟩ ?_
  exact hI.fin 0 ⟨rfl, rfl⟩
noncomputable def M_config_right (a0 : Member) : Option (Bool) := (if (1 : Int) ≤ a0.Id then (if a0.Id ≤ 63 then (if (0 : Int) ≤ a0.Key.Height then some (decide (a0.Key.Height ≤ 6)) else some false) else some false) else some false)
set_option maxHeartbeats 1000000 in
theorem spec_109 {w : World} {H : Hp} {a0 : Member}  {r : Bool} (hF : M_config_right a0 = some r) (hT : Tab H) (hG : Good w H [])  :
  Fine Tryd.prog 109 [.agg (flat [ckI a0.Id, ckV flB a0.Key.Root, ckI a0.Key.Height]).toArray] w H [] (fun H' v L' => v = .bool r ∧ L' = []) := by
 unfold M_config_right at hF
 unfold Fine
 obtain ⟨B, hB⟩ : ∃ B : Base, B = ⟨w, H, blks []⟩ := ⟨_, rfl⟩
 have hI : Inv B w H [] := by rw [hB]; exact Inv.start hG
 refine enter (n := 23) (args := [.agg (flat [ckI a0.Id, ckV flB a0.Key.Root, ckI a0.Key.Height]).toArray]) Tryd.func109 rfl Tryd.ntmps109 (Nat.le_of_ble_eq_true rfl) ?_
 refine wseq ?_
 refine wreg ?_
 refine le rfl (l_box (cks := [ckI a0.Id, ckV flB a0.Key.Root, ckI a0.Key.Height]) hI rfl rfl rfl) rfl ?_
 rintro _ w2 ⟨g1, rfl, hI⟩
 replace hI : Inv B w2 H [.cb g1 [ckI a0.Id, ckV flB a0.Key.Root, ckI a0.Key.Height] 114] := hI
 refine lv (v := .bool false) rfl (r_as rfl rfl) rfl ?_
 refine wend ?_
 refine wthen ?_
 refine wren (fun ρ3 eρ3 => ?_)
 have h4 : opd ρ3 23 (.tmp 1) = .pointer (some ⟨g1, 0 + 0, none⟩) := eρ3 1
 clear eρ3
 refine wseq ?_
 refine wreg ?_
 refine lv (v := .pointer (some ⟨g1, 0 + 0, none⟩)) rfl (l_fa (j := 0) (i := 0) rfl fl114_0 h4 rfl) rfl ?_
 refine lv (v := .int .i64 a0.Id) rfl (r_cl1 (off := 0) (p := 0) (hI.good.ca 0 rfl) rfl sc3 rfl rfl rfl) rfl ?_
 refine lv (v := .bool (decide ((1 : Int) ≤ a0.Id))) rfl (r_geq rfl rfl rfl rfl) rfl ?_
 by_cases hc5 : (1 : Int) ≤ a0.Id
 ·skip
  rw [if_pos hc5] at hF
  have hbhc5 : (decide ((1 : Int) ≤ a0.Id)) = true := decide_eq_true hc5
  refine lv (v := .bool true) rfl (r_mv rfl ((show opd _ _ _ = _ from rfl).trans (congrArg Value.bool hbhc5))) rfl ?_
  refine lv (v := .pointer (some ⟨g1, 0 + 0, none⟩)) rfl (l_fa (j := 0) (i := 0) rfl fl114_0 h4 rfl) rfl ?_
  refine lv (v := .int .i64 a0.Id) rfl (r_cl1 (off := 0) (p := 0) (hI.good.ca 0 rfl) rfl sc3 rfl rfl rfl) rfl ?_
  refine lv (v := .bool (decide (a0.Id ≤ 63))) rfl (r_leq rfl rfl rfl rfl) rfl ?_
  refine lv (v := .bool (decide (a0.Id ≤ 63))) rfl (r_pkT rfl rfl rfl) rfl ?_
  by_cases hc6 : a0.Id ≤ 63
  ·skip
   rw [if_pos hc6] at hF
   have hbhc6 : (decide (a0.Id ≤ 63)) = true := decide_eq_true hc6
   refine lv (v := .bool true) rfl (r_mv rfl ((show opd _ _ _ = _ from rfl).trans (congrArg Value.bool hbhc6))) rfl ?_
   refine lv (v := .pointer (some ⟨g1, 0 + 1, none⟩)) rfl (l_fa (j := 0) (i := 0) rfl fl114_1 h4 rfl) rfl ?_
   refine lv (v := .pointer (some ⟨g1, 0 + 33, none⟩)) rfl (l_fa (j := 0) (i := 1) rfl fl49_1 rfl rfl) rfl ?_
   refine lv (v := .int .i64 a0.Key.Height) rfl (r_cl1 (off := 33) (p := 2) (hI.good.ca 0 rfl) rfl sc3 rfl rfl rfl) rfl ?_
   refine lv (v := .bool (decide ((0 : Int) ≤ a0.Key.Height))) rfl (r_geq rfl rfl rfl rfl) rfl ?_
   refine lv (v := .bool (decide ((0 : Int) ≤ a0.Key.Height))) rfl (r_pkT rfl rfl rfl) rfl ?_
   by_cases hc7 : (0 : Int) ≤ a0.Key.Height
   ·skip
    rw [if_pos hc7] at hF
    have hbhc7 : (decide ((0 : Int) ≤ a0.Key.Height)) = true := decide_eq_true hc7
    refine lv (v := .bool true) rfl (r_mv rfl ((show opd _ _ _ = _ from rfl).trans (congrArg Value.bool hbhc7))) rfl ?_
    refine lv (v := .pointer (some ⟨g1, 0 + 1, none⟩)) rfl (l_fa (j := 0) (i := 0) rfl fl114_1 h4 rfl) rfl ?_
    refine lv (v := .pointer (some ⟨g1, 0 + 33, none⟩)) rfl (l_fa (j := 0) (i := 1) rfl fl49_1 rfl rfl) rfl ?_
    refine lv (v := .int .i64 a0.Key.Height) rfl (r_cl1 (off := 33) (p := 2) (hI.good.ca 0 rfl) rfl sc3 rfl rfl rfl) rfl ?_
    refine lv (v := .bool (decide (a0.Key.Height ≤ 6))) rfl (r_leq rfl rfl rfl rfl) rfl ?_
    refine lv (v := .bool (decide (a0.Key.Height ≤ 6))) rfl (r_pkT rfl rfl rfl) rfl ?_
    refine lv (v := .bool (decide (a0.Key.Height ≤ 6))) rfl (r_as rfl rfl) rfl ?_
    refine wend ?_
    refine wthen ?_
    refine wren (fun ρ8 eρ8 => ?_)
    have h9 : opd ρ8 23 (.tmp 2) = .bool (decide (a0.Key.Height ≤ 6)) := eρ8 2
    clear eρ8
    refine wp_ret ?_
    obtain rfl := Option.some.inj hF
    subst hB
    refine finR (rs := [.tmp 2]) (vs := [.bool (decide (a0.Key.Height ≤ 6))]) rfl ⟨h9, trivial⟩ ?_
    exact hI.fin 0 ⟨rfl, rfl⟩
   ·skip
    rw [if_neg hc7] at hF
    have hbhc7 : (decide ((0 : Int) ≤ a0.Key.Height)) = false := decide_eq_false hc7
    refine lv (v := .bool false) rfl (r_mv rfl ((show opd _ _ _ = _ from rfl).trans (congrArg Value.bool hbhc7))) rfl ?_
    with_reducible refine lx (d := 18) (by kernel_rfl) (by kernel_rfl) ?_
    with_reducible refine lx (d := 19) (by kernel_rfl) (by kernel_rfl) ?_
    with_reducible refine lx (d := 20) (by kernel_rfl) (by kernel_rfl) ?_
    with_reducible refine lx (d := 21) (by kernel_rfl) (by kernel_rfl) ?_
    refine lv (v := .bool false) rfl (r_pkF rfl rfl rfl) rfl ?_
    refine lv (v := .bool false) rfl (r_as rfl rfl) rfl ?_
    refine wend ?_
    refine wthen ?_
    refine wren (fun ρ10 eρ10 => ?_)
    have h11 : opd ρ10 23 (.tmp 2) = .bool false := eρ10 2
    clear eρ10
    refine wp_ret ?_
    obtain rfl := Option.some.inj hF
    subst hB
    refine finR (rs := [.tmp 2]) (vs := [.bool false]) rfl ⟨h11, trivial⟩ ?_
    exact hI.fin 0 ⟨rfl, rfl⟩
  ·skip
   rw [if_neg hc6] at hF
   have hbhc6 : (decide (a0.Id ≤ 63)) = false := decide_eq_false hc6
   refine lv (v := .bool false) rfl (r_mv rfl ((show opd _ _ _ = _ from rfl).trans (congrArg Value.bool hbhc6))) rfl ?_
   with_reducible refine lx (d := 12) (by kernel_rfl) (by kernel_rfl) ?_
   with_reducible refine lx (d := 13) (by kernel_rfl) (by kernel_rfl) ?_
   with_reducible refine lx (d := 14) (by kernel_rfl) (by kernel_rfl) ?_
   with_reducible refine lx (d := 15) (by kernel_rfl) (by kernel_rfl) ?_
   refine lv (v := .bool false) rfl (r_pkF rfl rfl rfl) rfl ?_
   refine lv (v := .bool false) rfl (r_mv rfl rfl) rfl ?_
   with_reducible refine lx (d := 18) (by kernel_rfl) (by kernel_rfl) ?_
   with_reducible refine lx (d := 19) (by kernel_rfl) (by kernel_rfl) ?_
   with_reducible refine lx (d := 20) (by kernel_rfl) (by kernel_rfl) ?_
   with_reducible refine lx (d := 21) (by kernel_rfl) (by kernel_rfl) ?_
   refine lv (v := .bool false) rfl (r_pkF rfl rfl rfl) rfl ?_
   refine lv (v := .bool false) rfl (r_as rfl rfl) rfl ?_
   refine wend ?_
   refine wthen ?_
   refine wren (fun ρ12 eρ12 => ?_)
   have h13 : opd ρ12 23 (.tmp 2) = .bool false := eρ12 2
   clear eρ12
   refine wp_ret ?_
   obtain rfl := Option.some.inj hF
   subst hB
   refine finR (rs := [.tmp 2]) (vs := [.bool false]) rfl ⟨h13, trivial⟩ ?_
   exact hI.fin 0 ⟨rfl, rfl⟩
 ·skip
  rw [if_neg hc5] at hF
  have hbhc5 : (decide ((1 : Int) ≤ a0.Id)) = false := decide_eq_false hc5
  refine lv (v := .bool false) rfl (r_mv rfl ((show opd _ _ _ = _ from rfl).trans (congrArg Value.bool hbhc5))) rfl ?_
  with_reducible refine lx (d := 7) (by kernel_rfl) (by kernel_rfl) ?_
  with_reducible refine lx (d := 8) (by kernel_rfl) (by kernel_rfl) ?_
  with_reducible refine lx (d := 9) (by kernel_rfl) (by kernel_rfl) ?_
  refine lv (v := .bool false) rfl (r_pkF rfl rfl rfl) rfl ?_
  refine lv (v := .bool false) rfl (r_mv rfl rfl) rfl ?_
  with_reducible refine lx (d := 12) (by kernel_rfl) (by kernel_rfl) ?_
  with_reducible refine lx (d := 13) (by kernel_rfl) (by kernel_rfl) ?_
  with_reducible refine lx (d := 14) (by kernel_rfl) (by kernel_rfl) ?_
  with_reducible refine lx (d := 15) (by kernel_rfl) (by kernel_rfl) ?_
  refine lv (v := .bool false) rfl (r_pkF rfl rfl rfl) rfl ?_
  refine lv (v := .bool false) rfl (r_mv rfl rfl) rfl ?_
  with_reducible refine lx (d := 18) (by kernel_rfl) (by kernel_rfl) ?_
  with_reducible refine lx (d := 19) (by kernel_rfl) (by kernel_rfl) ?_
  with_reducible refine lx (d := 20) (by kernel_rfl) (by kernel_rfl) ?_
  with_reducible refine lx (d := 21) (by kernel_rfl) (by kernel_rfl) ?_
  refine lv (v := .bool false) rfl (r_pkF rfl rfl rfl) rfl ?_
  refine lv (v := .bool false) rfl (r_as rfl rfl) rfl ?_
  refine wend ?_
  refine wthen ?_
  refine wren (fun ρ14 eρ14 => ?_)
  have h15 : opd ρ14 23 (.tmp 2) = .bool false := eρ14 2
  clear eρ14
  refine wp_ret ?_
  obtain rfl := Option.some.inj hF
  subst hB
  refine finR (rs := [.tmp 2]) (vs := [.bool false]) rfl ⟨h15, trivial⟩ ?_
  exact hI.fin 0 ⟨rfl, rfl⟩
noncomputable def M_config_Good (a0 : Config) : Option (Bool) := (if a0.Epoch < 0 then some false else (if (1073741824 : Int) < a0.Epoch then some false else (if (a0.Members.length : Int) = 0 then some false else (if (10 : Int) < (a0.Members.length : Int) then some false else ((forK (fun (i35 : Nat) (σ35 : Unit) => (((a0.Members[i35]?).bind fun x110 => ((M_config_right x110).bind fun x127 => (if x127 = true then (if (0 : Int) < (i35 : Int) then ((ixI a0.Members (wI ((i35 : Int) - 1))).bind fun x133 => (if x110.Id ≤ x133.Id then ((some false).map Sum.inr) else some (.inl ()))) else some (.inl ())) else ((some false).map Sum.inr)))) : Option (Unit ⊕ Bool))) a0.Members.length 0 ()).bind fun y => match y with | .inl _ => some true | .inr r => some r)))))
set_option maxHeartbeats 4000000 in
theorem spec_65 {w : World} {H : Hp} {a0 : Config} {s1 : Sv} {r : Bool} (hF : M_config_Good a0 = some r) (hT : Tab H) (hG : Good w H []) (hs1 : Sl (Fl.ty fl_Member) H s1 a0.Members) :
  Fine Tryd.prog 65 [.agg (flat [ckI a0.Epoch, ckL s1]).toArray] w H [] (fun H' v L' => v = .bool r ∧ L' = []) := by
 unfold M_config_Good at hF
 unfold Fine
 obtain ⟨B, hB⟩ : ∃ B : Base, B = ⟨w, H, blks []⟩ := ⟨_, rfl⟩
 have hI : Inv B w H [] := by rw [hB]; exact Inv.start hG
 refine enter (n := 53) (args := [.agg (flat [ckI a0.Epoch, ckL s1]).toArray]) Tryd.func65 rfl Tryd.ntmps65 (Nat.le_of_ble_eq_true rfl) ?_
 refine wseq ?_
 refine wreg ?_
 refine le rfl (l_box (cks := [ckI a0.Epoch, ckL s1]) hI rfl rfl rfl) rfl ?_
 rintro _ w3 ⟨g2, rfl, hI⟩
 replace hI : Inv B w3 H [.cb g2 [ckI a0.Epoch, ckL s1] 64] := hI
 refine lv (v := .bool false) rfl (r_as rfl rfl) rfl ?_
 refine wend ?_
 refine wthen ?_
 refine wren (fun ρ4 eρ4 => ?_)
 have h5 : opd ρ4 53 (.tmp 1) = .pointer (some ⟨g2, 0 + 0, none⟩) := eρ4 1
 clear eρ4
 refine wseq ?_
 refine wseq ?_
 refine wreg ?_
 refine lv (v := .pointer (some ⟨g2, 0 + 0, none⟩)) rfl (l_fa (j := 0) (i := 0) rfl fl64_0 h5 rfl) rfl ?_
 refine lv (v := .int .i64 a0.Epoch) rfl (r_cl1 (off := 0) (p := 0) (hI.good.ca 0 rfl) rfl sc3 rfl rfl rfl) rfl ?_
 refine lv (v := .bool (decide (a0.Epoch < 0))) rfl (r_lss rfl rfl rfl rfl) rfl ?_
 by_cases hc6 : a0.Epoch < 0
 ·skip
  rw [if_pos hc6] at hF
  have hbhc6 : (decide (a0.Epoch < 0)) = true := decide_eq_true hc6
  refine lv (v := .bool true) rfl (r_mv rfl ((show opd _ _ _ = _ from rfl).trans (congrArg Value.bool hbhc6))) rfl ?_
  with_reducible refine lx (d := 9) (by kernel_rfl) (by kernel_rfl) ?_
  with_reducible refine lx (d := 10) (by kernel_rfl) (by kernel_rfl) ?_
  with_reducible refine lx (d := 11) (by kernel_rfl) (by kernel_rfl) ?_
  refine lv (v := .bool true) rfl (r_pkT rfl rfl rfl) rfl ?_
  refine lv (v := .bool true) rfl (r_mv rfl rfl) rfl ?_
  with_reducible refine lx (d := 14) (by kernel_rfl) (by kernel_rfl) ?_
  with_reducible refine lx (d := 15) (by kernel_rfl) (by kernel_rfl) ?_
  with_reducible refine lx (d := 16) (by kernel_rfl) (by kernel_rfl) ?_
  with_reducible refine lx (d := 17) (by kernel_rfl) (by kernel_rfl) ?_
  refine lv (v := .bool true) rfl (r_pkT rfl rfl rfl) rfl ?_
  refine lv (v := .bool true) rfl (r_mv rfl rfl) rfl ?_
  with_reducible refine lx (d := 20) (by kernel_rfl) (by kernel_rfl) ?_
  with_reducible refine lx (d := 21) (by kernel_rfl) (by kernel_rfl) ?_
  with_reducible refine lx (d := 22) (by kernel_rfl) (by kernel_rfl) ?_
  with_reducible refine lx (d := 23) (by kernel_rfl) (by kernel_rfl) ?_
  refine lv (v := .bool true) rfl (r_pkT rfl rfl rfl) rfl ?_
  refine wend ?_
  refine wthen ?_
  refine wren (fun ρ7 eρ7 => ?_)
  have h8 : opd ρ7 53 (.tmp 1) = .pointer (some ⟨g2, 0 + 0, none⟩) := (eρ7 1).trans h5
  have h9 : opd ρ7 53 (.tmp 24) = .bool true := eρ7 24
  clear eρ7
  refine wcT h9 ?_
  refine wseq ?_
  refine wreg ?_
  refine lv (v := .bool false) rfl (r_as rfl rfl) rfl ?_
  refine wend ?_
  refine wthen ?_
  refine wren (fun ρ10 eρ10 => ?_)
  have h11 : opd ρ10 53 (.tmp 2) = .bool false := eρ10 2
  clear eρ10
  refine wp_ret ?_
  refine thR ?_
  obtain rfl := Option.some.inj hF
  subst hB
  refine finR (rs := [.tmp 2]) (vs := [.bool false]) rfl ⟨h11, trivial⟩ ?_
  exact hI.fin 0 ⟨rfl, rfl⟩
 ·skip
  rw [if_neg hc6] at hF
  have hbhc6 : (decide (a0.Epoch < 0)) = false := decide_eq_false hc6
  refine lv (v := .bool false) rfl (r_mv rfl ((show opd _ _ _ = _ from rfl).trans (congrArg Value.bool hbhc6))) rfl ?_
  refine lv (v := .pointer (some ⟨g2, 0 + 0, none⟩)) rfl (l_fa (j := 0) (i := 0) rfl fl64_0 h5 rfl) rfl ?_
  refine lv (v := .int .i64 a0.Epoch) rfl (r_cl1 (off := 0) (p := 0) (hI.good.ca 0 rfl) rfl sc3 rfl rfl rfl) rfl ?_
  refine lv (v := .bool (decide ((1073741824 : Int) < a0.Epoch))) rfl (r_gtr rfl rfl rfl rfl) rfl ?_
  refine lv (v := .bool (decide ((1073741824 : Int) < a0.Epoch))) rfl (r_pkF rfl rfl rfl) rfl ?_
  by_cases hc12 : (1073741824 : Int) < a0.Epoch
  ·skip
   rw [if_pos hc12] at hF
   have hbhc12 : (decide ((1073741824 : Int) < a0.Epoch)) = true := decide_eq_true hc12
   refine lv (v := .bool true) rfl (r_mv rfl ((show opd _ _ _ = _ from rfl).trans (congrArg Value.bool hbhc12))) rfl ?_
   with_reducible refine lx (d := 14) (by kernel_rfl) (by kernel_rfl) ?_
   with_reducible refine lx (d := 15) (by kernel_rfl) (by kernel_rfl) ?_
   with_reducible refine lx (d := 16) (by kernel_rfl) (by kernel_rfl) ?_
   with_reducible refine lx (d := 17) (by kernel_rfl) (by kernel_rfl) ?_
   refine lv (v := .bool true) rfl (r_pkT rfl rfl rfl) rfl ?_
   refine lv (v := .bool true) rfl (r_mv rfl rfl) rfl ?_
   with_reducible refine lx (d := 20) (by kernel_rfl) (by kernel_rfl) ?_
   with_reducible refine lx (d := 21) (by kernel_rfl) (by kernel_rfl) ?_
   with_reducible refine lx (d := 22) (by kernel_rfl) (by kernel_rfl) ?_
   with_reducible refine lx (d := 23) (by kernel_rfl) (by kernel_rfl) ?_
   refine lv (v := .bool true) rfl (r_pkT rfl rfl rfl) rfl ?_
   refine wend ?_
   refine wthen ?_
   refine wren (fun ρ13 eρ13 => ?_)
   have h14 : opd ρ13 53 (.tmp 1) = .pointer (some ⟨g2, 0 + 0, none⟩) := (eρ13 1).trans h5
   have h15 : opd ρ13 53 (.tmp 24) = .bool true := eρ13 24
   clear eρ13
   refine wcT h15 ?_
   refine wseq ?_
   refine wreg ?_
   refine lv (v := .bool false) rfl (r_as rfl rfl) rfl ?_
   refine wend ?_
   refine wthen ?_
   refine wren (fun ρ16 eρ16 => ?_)
   have h17 : opd ρ16 53 (.tmp 2) = .bool false := eρ16 2
   clear eρ16
   refine wp_ret ?_
   refine thR ?_
   obtain rfl := Option.some.inj hF
   subst hB
   refine finR (rs := [.tmp 2]) (vs := [.bool false]) rfl ⟨h17, trivial⟩ ?_
   exact hI.fin 0 ⟨rfl, rfl⟩
  ·skip
   rw [if_neg hc12] at hF
   have hbhc12 : (decide ((1073741824 : Int) < a0.Epoch)) = false := decide_eq_false hc12
   refine lv (v := .bool false) rfl (r_mv rfl ((show opd _ _ _ = _ from rfl).trans (congrArg Value.bool hbhc12))) rfl ?_
   refine lv (v := .pointer (some ⟨g2, 0 + 1, none⟩)) rfl (l_fa (j := 0) (i := 0) rfl fl64_1 h5 rfl) rfl ?_
   refine lv (v := s1.v) rfl (r_cl1 (off := 1) (p := 1) (hI.good.ca 0 rfl) rfl sc62 rfl rfl rfl) rfl ?_
   refine lv (v := .int .i64 (a0.Members.length : Int)) rfl (r_lenS rfl sl62 rfl hs1) rfl ?_
   refine lv (v := .bool (decide ((a0.Members.length : Int) = 0))) rfl (r_eql rfl rfl rfl rfl) rfl ?_
   refine lv (v := .bool (decide ((a0.Members.length : Int) = 0))) rfl (r_pkF rfl rfl rfl) rfl ?_
   by_cases hc18 : (a0.Members.length : Int) = 0
   ·skip
    rw [if_pos hc18] at hF
    have hbhc18 : (decide ((a0.Members.length : Int) = 0)) = true := decide_eq_true hc18
    refine lv (v := .bool true) rfl (r_mv rfl ((show opd _ _ _ = _ from rfl).trans (congrArg Value.bool hbhc18))) rfl ?_
    with_reducible refine lx (d := 20) (by kernel_rfl) (by kernel_rfl) ?_
    with_reducible refine lx (d := 21) (by kernel_rfl) (by kernel_rfl) ?_
    with_reducible refine lx (d := 22) (by kernel_rfl) (by kernel_rfl) ?_
    with_reducible refine lx (d := 23) (by kernel_rfl) (by kernel_rfl) ?_
    refine lv (v := .bool true) rfl (r_pkT rfl rfl rfl) rfl ?_
    refine wend ?_
    refine wthen ?_
    refine wren (fun ρ19 eρ19 => ?_)
    have h20 : opd ρ19 53 (.tmp 1) = .pointer (some ⟨g2, 0 + 0, none⟩) := (eρ19 1).trans h5
    have h21 : opd ρ19 53 (.tmp 24) = .bool true := eρ19 24
    clear eρ19
    refine wcT h21 ?_
    refine wseq ?_
    refine wreg ?_
    refine lv (v := .bool false) rfl (r_as rfl rfl) rfl ?_
    refine wend ?_
    refine wthen ?_
    refine wren (fun ρ22 eρ22 => ?_)
    have h23 : opd ρ22 53 (.tmp 2) = .bool false := eρ22 2
    clear eρ22
    refine wp_ret ?_
    refine thR ?_
    obtain rfl := Option.some.inj hF
    subst hB
    refine finR (rs := [.tmp 2]) (vs := [.bool false]) rfl ⟨h23, trivial⟩ ?_
    exact hI.fin 0 ⟨rfl, rfl⟩
   ·skip
    rw [if_neg hc18] at hF
    have hbhc18 : (decide ((a0.Members.length : Int) = 0)) = false := decide_eq_false hc18
    refine lv (v := .bool false) rfl (r_mv rfl ((show opd _ _ _ = _ from rfl).trans (congrArg Value.bool hbhc18))) rfl ?_
    refine lv (v := .pointer (some ⟨g2, 0 + 1, none⟩)) rfl (l_fa (j := 0) (i := 0) rfl fl64_1 h5 rfl) rfl ?_
    refine lv (v := s1.v) rfl (r_cl1 (off := 1) (p := 1) (hI.good.ca 0 rfl) rfl sc62 rfl rfl rfl) rfl ?_
    refine lv (v := .int .i64 (a0.Members.length : Int)) rfl (r_lenS rfl sl62 rfl hs1) rfl ?_
    refine lv (v := .bool (decide ((10 : Int) < (a0.Members.length : Int)))) rfl (r_gtr rfl rfl rfl rfl) rfl ?_
    refine lv (v := .bool (decide ((10 : Int) < (a0.Members.length : Int)))) rfl (r_pkF rfl rfl rfl) rfl ?_
    refine wend ?_
    refine wthen ?_
    refine wren (fun ρ24 eρ24 => ?_)
    have h25 : opd ρ24 53 (.tmp 1) = .pointer (some ⟨g2, 0 + 0, none⟩) := (eρ24 1).trans h5
    have h26 : opd ρ24 53 (.tmp 24) = .bool (decide ((10 : Int) < (a0.Members.length : Int))) := eρ24 24
    clear eρ24
    by_cases hc27 : (10 : Int) < (a0.Members.length : Int)
    ·skip
     rw [if_pos hc27] at hF
     have hbhc27 : (decide ((10 : Int) < (a0.Members.length : Int))) = true := decide_eq_true hc27
     refine wcT (h26.trans (congrArg Value.bool hbhc27)) ?_
     refine wseq ?_
     refine wreg ?_
     refine lv (v := .bool false) rfl (r_as rfl rfl) rfl ?_
     refine wend ?_
     refine wthen ?_
     refine wren (fun ρ28 eρ28 => ?_)
     have h29 : opd ρ28 53 (.tmp 2) = .bool false := eρ28 2
     clear eρ28
     refine wp_ret ?_
     refine thR ?_
     obtain rfl := Option.some.inj hF
     subst hB
     refine finR (rs := [.tmp 2]) (vs := [.bool false]) rfl ⟨h29, trivial⟩ ?_
     exact hI.fin 0 ⟨rfl, rfl⟩
    ·skip
     rw [if_neg hc27] at hF
     have hbhc27 : (decide ((10 : Int) < (a0.Members.length : Int))) = false := decide_eq_false hc27
     refine wcF (h26.trans (congrArg Value.bool hbhc27)) ?_
     refine wp_skip ?_
     refine wthen ?_
     refine wseq ?_
     refine wseq ?_
     refine wreg ?_
     refine lv (v := .pointer (some ⟨g2, 0 + 1, none⟩)) rfl (l_fa (j := 0) (i := 0) rfl fl64_1 h25 rfl) rfl ?_
     refine lv (v := s1.v) rfl (r_cl1 (off := 1) (p := 1) (hI.good.ca 0 rfl) rfl sc62 rfl rfl rfl) rfl ?_
     refine lv (v := .int .i64 (a0.Members.length : Int)) rfl (r_lenS rfl sl62 rfl hs1) rfl ?_
     refine lv (v := .int .i64 0) rfl (r_mv rfl rfl) rfl ?_
     refine wend ?_
     refine wthen ?_
     refine wren (fun ρ30 eρ30 => ?_)
     have h31 : opd ρ30 53 (.tmp 1) = .pointer (some ⟨g2, 0 + 0, none⟩) := (eρ30 1).trans h25
     have h32 : opd ρ30 53 (.tmp 26) = s1.v := eρ30 26
     have h33 : opd ρ30 53 (.tmp 27) = .int .i64 (a0.Members.length : Int) := eρ30 27
     have h34 : opd ρ30 53 (.tmp 28) = .int .i64 0 := eρ30 28
     clear eρ30
     refine wp_block ?_
     have hbd35 := (hs1).bd
     rw [(hs1).n] at hbd35
     obtain ⟨y35, hy35, hF35⟩ := Option.bind_eq_some_iff.1 hF
     refine wfor (n := 53) a0.Members.length _ (fun (i35 : Nat) (σ35 : Unit) ρ' w' => ∃ (H97 : Hp), Hle H H97 ∧ opd ρ' 53 (.tmp 1) = .pointer (some ⟨g2, 0 + 0, none⟩) ∧ opd ρ' 53 (.tmp 26) = s1.v ∧ opd ρ' 53 (.tmp 27) = .int .i64 (a0.Members.length : Int) ∧ opd ρ' 53 (.tmp 28) = .int .i64 (i35 : Int) ∧ Inv B w' H97 [.cb g2 [ckI a0.Epoch, ckL s1] 64]) hy35 ⟨H, (Hle.refl _), h31, h32, h33, h34, hI⟩ ?_
     rintro k35 i35 σ35 ρ102 w103 hk35 ⟨H97, hleH97, h98, h99, h100, h101, hI⟩ hy35
     refine wseq ?_
     refine wreg ?_
     refine lv (v := .bool (decide ((i35 : Int) < (a0.Members.length : Int)))) rfl (r_lss rfl h101 h100 rfl) rfl ?_
     refine wend ?_
     refine wthen ?_
     refine wseq ?_
     by_cases hc104 : (i35 : Int) < (a0.Members.length : Int)
     ·skip
      have hbhc104 : (decide ((i35 : Int) < (a0.Members.length : Int))) = true := decide_eq_true hc104
      obtain ⟨k35, rfl⟩ : ∃ m, k35 = m + 1 := ⟨k35 - 1, by omega⟩
      obtain ⟨z35, hb35⟩ := forK_body hy35
      have hF := hb35
      have hlt35 : ((i35 : Nat) : Int) + 1 ≤ 9223372036854775807 := by omega
      refine wcT ((show opd _ _ _ = _ from rfl).trans (congrArg Value.bool hbhc104)) ?_
      refine wp_skip ?_
      refine wthen ?_
      refine wren (fun ρ105 eρ105 => ?_)
      have h106 : opd ρ105 53 (.tmp 1) = .pointer (some ⟨g2, 0 + 0, none⟩) := (eρ105 1).trans h98
      have h107 : opd ρ105 53 (.tmp 26) = s1.v := (eρ105 26).trans h99
      have h108 : opd ρ105 53 (.tmp 27) = .int .i64 (a0.Members.length : Int) := (eρ105 27).trans h100
      have h109 : opd ρ105 53 (.tmp 28) = .int .i64 (i35 : Int) := (eρ105 28).trans h101
      clear eρ105
      refine wseq ?_
      refine wp_block ?_
      refine wseq ?_
      refine wreg ?_
      refine lv (v := .int .i64 (i35 : Int)) rfl (r_mv rfl h109) rfl ?_
      obtain ⟨x110, hx110, hF⟩ := Option.bind_eq_some_iff.1 hF
      obtain ⟨b111, j112, hix113, hil114, hA115⟩ := (hs1.mono hleH97).ixf hx110
      replace hA115 : At H97 b111 j112 [ckI x110.Id, ckV flB x110.Key.Root, ckI x110.Key.Height] := hA115
      refine lv (v := .pointer (some ⟨b111, j112 + 0, none⟩)) rfl (r_ixt rfl sl62 h107 h109 rfl hix113 hil114) rfl ?_
      refine lv (v := .agg (flat [ckI x110.Id, ckV flB x110.Key.Root, ckI x110.Key.Height]).toArray) rfl (r_cla (off := 0) (p := 0) (m := 3) (hA115.ca hI.good) rfl ag114 rfl rfl rfl) rfl ?_
      refine le rfl (l_al hI rfl ze114) rfl ?_
      rintro _ w117 ⟨g116, rfl, hI⟩
      replace hI : Inv B w117 H97 [.cb g2 _ 64, .cb g116 [ckI 0, ckV flB (Vec.rep 32 0), ckI 0] 114] := hI
      refine lv (v := .int .i64 (i35 : Int)) rfl (r_as rfl rfl) rfl ?_
      refine lst rfl (l_st (off := 0) (p := 0) (m := 3) (new := [ckI x110.Id, ckV flB x110.Key.Root, ckI x110.Key.Height]) hI 1 rfl rfl sz114 rfl rfl rfl rfl rfl rfl) rfl ?_
      intro w118 hI
      replace hI : Inv B w118 H97 [.cb g2 _ 64, .cb g116 [ckI x110.Id, ckV flB x110.Key.Root, ckI x110.Key.Height] 114] := hI
      refine wend ?_
      refine wthen ?_
      refine wren (fun ρ119 eρ119 => ?_)
      have h120 : opd ρ119 53 (.tmp 1) = .pointer (some ⟨g2, 0 + 0, none⟩) := (eρ119 1).trans h106
      have h121 : opd ρ119 53 (.tmp 3) = .int .i64 (i35 : Int) := eρ119 3
      have h122 : opd ρ119 53 (.tmp 4) = .pointer (some ⟨g116, 0 + 0, none⟩) := eρ119 4
      have h123 : opd ρ119 53 (.tmp 26) = s1.v := (eρ119 26).trans h107
      have h124 : opd ρ119 53 (.tmp 27) = .int .i64 (a0.Members.length : Int) := (eρ119 27).trans h108
      have h125 : opd ρ119 53 (.tmp 28) = .int .i64 (i35 : Int) := (eρ119 28).trans h109
      clear eρ119
      refine wseq ?_
      refine dstG (H0 := H97) (L0 := keepL [true, true] [.cb g2 [ckI a0.Epoch, ckL s1] 64, .cb g116 [ckI x110.Id, ckV flB x110.Key.Root, ckI x110.Key.Height] 114]) [] mixed rfl (by repeat (first | exact Pan.body | refine Pan.then ?_ | refine Pan.inBlock ?_ | refine Pan.noGoto ?_ | refine Pan.pure ?_)) hI (hI.good.weakm _ (Hle.refl _) rfl) ?_
      intro w126 hI hP
      refine dr (v := .agg (flat [ckI x110.Id, ckV flB x110.Key.Root, ckI x110.Key.Height]).toArray) 0 (by kernel_rfl) rfl rfl (hI.good.weakm [true, true] (Hle.refl _) rfl) (fun _ hG => r_cla (off := 0) (p := 0) (m := 3) (hG.ca 1 rfl) rfl ag114 h122 rfl rfl) rfl hP ?_
      obtain ⟨x127, hx127, hF⟩ := Option.bind_eq_some_iff.1 hF
      have hsp130 := spec_109 hx127 (hT.mono hleH97) (hI.part 0) 
      refine dfc 1 ([]) ([.cb g2 [ckI a0.Epoch, ckL s1] 64, .cb g116 [ckI x110.Id, ckV flB x110.Key.Root, ckI x110.Key.Height] 114]) (args := [.agg (flat [ckI x110.Id, ckV flB x110.Key.Root, ckI x110.Key.Height]).toArray]) fc109 (by kernel_rfl) rfl rfl rfl rfl rfl hI (argc rfl rfl) (hsp130) ?_
      rintro _ H128 _ w129 ⟨rfl, rfl⟩ hleH128 hI
      replace hI : Inv B w129 H128 [.cb g2 _ 64, .cb g116 _ 114] := hI
      refine ⟨(hI.good.weakm [true, true] hleH128 rfl), ?_⟩
      refine dp (v := .bool (!x127)) 2 (by kernel_rfl) rfl rfl (fun _ => r_not rfl rfl) rfl hP ?_
      by_cases hc131 : x127 = true
      ·skip
       rw [if_pos hc131] at hF
       have hbhc131 : (!x127) = false := (by rw [hc131]; rfl)
       refine dp (v := .bool false) 3 (by kernel_rfl) rfl rfl (fun _ => r_mv rfl ((show opd _ _ _ = _ from rfl).trans (congrArg Value.bool hbhc131))) rfl hP ?_
       refine dp (v := .int .i64 (i35 : Int)) 4 (by kernel_rfl) rfl rfl (fun _ => r_mv rfl h121) rfl hP ?_
       refine dp (v := .bool (decide ((0 : Int) < (i35 : Int)))) 5 (by kernel_rfl) rfl rfl (fun _ => r_gtr rfl rfl rfl rfl) rfl hP ?_
       by_cases hc132 : (0 : Int) < (i35 : Int)
       ·skip
        rw [if_pos hc132] at hF
        have hbhc132 : (decide ((0 : Int) < (i35 : Int))) = true := decide_eq_true hc132
        refine dp (v := .bool true) 6 (by kernel_rfl) rfl rfl (fun _ => r_mv rfl ((show opd _ _ _ = _ from rfl).trans (congrArg Value.bool hbhc132))) rfl hP ?_
        refine dp (v := .pointer (some ⟨g2, 0 + 1, none⟩)) 7 (by kernel_rfl) rfl rfl (fun _ => l_fa (j := 0) (i := 0) rfl fl64_1 h120 rfl) rfl hP ?_
        refine dp (v := .int .i64 (i35 : Int)) 9 (by kernel_rfl) rfl rfl (fun _ => r_mv rfl h121) rfl hP ?_
        refine dp (v := .int .i64 (wI ((i35 : Int) - 1))) 10 (by kernel_rfl) rfl rfl (fun _ => r_subw rfl rfl rfl) rfl hP ?_
        refine dp (v := .pointer (some ⟨g116, 0 + 0, none⟩)) 14 (by kernel_rfl) rfl rfl (fun _ => l_fa (j := 0) (i := 0) rfl fl114_0 h122 rfl) rfl hP ?_
        refine dr (v := s1.v) 8 (by kernel_rfl) rfl rfl (hI.good.weakm [true, true] hleH128 rfl) (fun _ hG => r_cl1 (off := 1) (p := 1) (hG.ca 0 rfl) rfl sc62 rfl rfl rfl) rfl hP ?_
        obtain ⟨x133, hx133, hF⟩ := Option.bind_eq_some_iff.1 hF
        obtain ⟨b134, j135, hix136, hil137, hA138⟩ := (hs1.mono hleH97).ixf (ixI_some hx133).1
        replace hA138 : At H97 b134 j135 [ckI x133.Id, ckV flB x133.Key.Root, ckI x133.Key.Height] := hA138
        refine dp (v := .pointer (some ⟨b134, j135 + 0, none⟩)) 11 (by kernel_rfl) rfl rfl (fun _ => r_ixt rfl sl62 rfl rfl (ixI_some hx133).2 hix136 hil137) rfl hP ?_
        refine dp (v := .pointer (some ⟨b134, j135 + 0, none⟩)) 12 (by kernel_rfl) rfl rfl (fun _ => l_fa (j := j135) (i := 0) rfl fl114_0 rfl rfl) rfl hP ?_
        refine dr (v := .int .i64 x133.Id) 13 (by kernel_rfl) rfl rfl (hI.good.weakm [true, true] hleH128 rfl) (fun _ hG => r_cl1 (off := 0) (p := 0) (hA138.ca hG) rfl sc3 rfl rfl rfl) rfl hP ?_
        refine dr (v := .int .i64 x110.Id) 15 (by kernel_rfl) rfl rfl (hI.good.weakm [true, true] hleH128 rfl) (fun _ hG => r_cl1 (off := 0) (p := 0) (hG.ca 1 rfl) rfl sc3 rfl rfl rfl) rfl hP ?_
        refine dp (v := .bool (decide (x110.Id ≤ x133.Id))) 16 (by kernel_rfl) rfl rfl (fun _ => r_geq rfl rfl rfl rfl) rfl hP ?_
        refine dp (v := .bool (decide (x110.Id ≤ x133.Id))) 17 (by kernel_rfl) rfl rfl (fun _ => r_pkT rfl rfl rfl) rfl hP ?_
        refine dp (v := .bool (decide (x110.Id ≤ x133.Id))) 18 (by kernel_rfl) rfl rfl (fun _ => r_pkF rfl rfl rfl) rfl hP ?_
        refine dend (by kernel_rfl) ?_
        refine wthen ?_
        refine wren (fun ρ139 eρ139 => ?_)
        have h140 : opd ρ139 53 (.tmp 1) = .pointer (some ⟨g2, 0 + 0, none⟩) := (eρ139 1).trans h120
        have h141 : opd ρ139 53 (.tmp 26) = s1.v := (eρ139 26).trans h123
        have h142 : opd ρ139 53 (.tmp 27) = .int .i64 (a0.Members.length : Int) := (eρ139 27).trans h124
        have h143 : opd ρ139 53 (.tmp 28) = .int .i64 (i35 : Int) := (eρ139 28).trans h125
        have h144 : opd ρ139 53 (.tmp 51) = .bool (decide (x110.Id ≤ x133.Id)) := eρ139 51
        clear eρ139
        by_cases hc145 : x110.Id ≤ x133.Id
        ·skip
         rw [if_pos hc145] at hF
         have hbhc145 : (decide (x110.Id ≤ x133.Id)) = true := decide_eq_true hc145
         refine wcT (h144.trans (congrArg Value.bool hbhc145)) ?_
         refine wseq ?_
         refine wreg ?_
         refine lv (v := .bool false) rfl (r_as rfl rfl) rfl ?_
         refine wend ?_
         refine wthen ?_
         refine wren (fun ρ146 eρ146 => ?_)
         have h147 : opd ρ146 53 (.tmp 2) = .bool false := eρ146 2
         clear eρ146
         refine wp_ret ?_
         refine inR ?_
         refine thR ?_
         refine thR ?_
         obtain ⟨q148, hFn, hzq148⟩ := Option.map_eq_some_iff.1 hF
         clear hF
         obtain rfl := forK_inr hy35 (hb35.trans (congrArg some hzq148.symm))
         have hF0 := hF35
         try dsimp only at hF0
         have hF := hFn.trans hF0
         clear hFn hF0
         refine inR ?_
         refine thR ?_
         obtain rfl := Option.some.inj hF
         subst hB
         refine finR (rs := [.tmp 2]) (vs := [.bool false]) rfl ⟨h147, trivial⟩ ?_
         exact hI.fin 0 ⟨rfl, rfl⟩
        ·skip
         rw [if_neg hc145] at hF
         have hbhc145 : (decide (x110.Id ≤ x133.Id)) = false := decide_eq_false hc145
         refine wcF (h144.trans (congrArg Value.bool hbhc145)) ?_
         refine wp_skip ?_
         refine inN ?_
         refine wthen ?_
         refine wreg ?_
         refine lv (v := .int .i64 ((i35 + 1 : Nat) : Int)) rfl (r_addn rfl h143 rfl hlt35) rfl ?_
         refine lv (v := .int .i64 ((i35 + 1 : Nat) : Int)) rfl (r_mv rfl rfl) rfl ?_
         refine wend ?_
         obtain rfl := Option.some.inj hF
         exact ⟨k35, (), _, rfl, rfl, ⟨H128, (hleH97.trans hleH128), h140, h141, h142, rfl, (hI.keep [true, false])⟩, forK_inl hy35 hb35⟩
       ·skip
        rw [if_neg hc132] at hF
        have hbhc132 : (decide ((0 : Int) < (i35 : Int))) = false := decide_eq_false hc132
        refine dp (v := .bool false) 6 (by kernel_rfl) rfl rfl (fun _ => r_mv rfl ((show opd _ _ _ = _ from rfl).trans (congrArg Value.bool hbhc132))) rfl hP ?_
        refine dx 7 (by kernel_rfl) rfl (by kernel_rfl) rfl hP ?_
        refine dx 8 (by kernel_rfl) rfl (by kernel_rfl) rfl hP ?_
        refine dx 9 (by kernel_rfl) rfl (by kernel_rfl) rfl hP ?_
        refine dx 10 (by kernel_rfl) rfl (by kernel_rfl) rfl hP ?_
        refine dx 11 (by kernel_rfl) rfl (by kernel_rfl) rfl hP ?_
        refine dx 12 (by kernel_rfl) rfl (by kernel_rfl) rfl hP ?_
        refine dx 13 (by kernel_rfl) rfl (by kernel_rfl) rfl hP ?_
        refine dx 14 (by kernel_rfl) rfl (by kernel_rfl) rfl hP ?_
        refine dx 15 (by kernel_rfl) rfl (by kernel_rfl) rfl hP ?_
        refine dx 16 (by kernel_rfl) rfl (by kernel_rfl) rfl hP ?_
        refine dp (v := .bool false) 17 (by kernel_rfl) rfl rfl (fun _ => r_pkF rfl rfl rfl) rfl hP ?_
        refine dp (v := .bool false) 18 (by kernel_rfl) rfl rfl (fun _ => r_pkF rfl rfl rfl) rfl hP ?_
        refine dend (by kernel_rfl) ?_
        refine wthen ?_
        refine wren (fun ρ149 eρ149 => ?_)
        have h150 : opd ρ149 53 (.tmp 1) = .pointer (some ⟨g2, 0 + 0, none⟩) := (eρ149 1).trans h120
        have h151 : opd ρ149 53 (.tmp 26) = s1.v := (eρ149 26).trans h123
        have h152 : opd ρ149 53 (.tmp 27) = .int .i64 (a0.Members.length : Int) := (eρ149 27).trans h124
        have h153 : opd ρ149 53 (.tmp 28) = .int .i64 (i35 : Int) := (eρ149 28).trans h125
        have h154 : opd ρ149 53 (.tmp 51) = .bool false := eρ149 51
        clear eρ149
        refine wcF h154 ?_
        refine wp_skip ?_
        refine inN ?_
        refine wthen ?_
        refine wreg ?_
        refine lv (v := .int .i64 ((i35 + 1 : Nat) : Int)) rfl (r_addn rfl h153 rfl hlt35) rfl ?_
        refine lv (v := .int .i64 ((i35 + 1 : Nat) : Int)) rfl (r_mv rfl rfl) rfl ?_
        refine wend ?_
        obtain rfl := Option.some.inj hF
        exact ⟨k35, (), _, rfl, rfl, ⟨H128, (hleH97.trans hleH128), h150, h151, h152, rfl, (hI.keep [true, false])⟩, forK_inl hy35 hb35⟩
      ·skip
       rw [if_neg hc131] at hF
       have hbhc131 : (!x127) = true := (by rw [(Bool.eq_false_iff.2 hc131)]; rfl)
       refine dp (v := .bool true) 3 (by kernel_rfl) rfl rfl (fun _ => r_mv rfl ((show opd _ _ _ = _ from rfl).trans (congrArg Value.bool hbhc131))) rfl hP ?_
       refine dx 4 (by kernel_rfl) rfl (by kernel_rfl) rfl hP ?_
       refine dx 5 (by kernel_rfl) rfl (by kernel_rfl) rfl hP ?_
       refine dx 6 (by kernel_rfl) rfl (by kernel_rfl) rfl hP ?_
       refine dx 7 (by kernel_rfl) rfl (by kernel_rfl) rfl hP ?_
       refine dx 8 (by kernel_rfl) rfl (by kernel_rfl) rfl hP ?_
       refine dx 9 (by kernel_rfl) rfl (by kernel_rfl) rfl hP ?_
       refine dx 10 (by kernel_rfl) rfl (by kernel_rfl) rfl hP ?_
       refine dx 11 (by kernel_rfl) rfl (by kernel_rfl) rfl hP ?_
       refine dx 12 (by kernel_rfl) rfl (by kernel_rfl) rfl hP ?_
       refine dx 13 (by kernel_rfl) rfl (by kernel_rfl) rfl hP ?_
       refine dx 14 (by kernel_rfl) rfl (by kernel_rfl) rfl hP ?_
       refine dx 15 (by kernel_rfl) rfl (by kernel_rfl) rfl hP ?_
       refine dx 16 (by kernel_rfl) rfl (by kernel_rfl) rfl hP ?_
       refine dx 17 (by kernel_rfl) rfl (by kernel_rfl) rfl hP ?_
       refine dp (v := .bool true) 18 (by kernel_rfl) rfl rfl (fun _ => r_pkT rfl rfl rfl) rfl hP ?_
       refine dend (by kernel_rfl) ?_
       refine wthen ?_
       refine wren (fun ρ155 eρ155 => ?_)
       have h156 : opd ρ155 53 (.tmp 1) = .pointer (some ⟨g2, 0 + 0, none⟩) := (eρ155 1).trans h120
       have h157 : opd ρ155 53 (.tmp 26) = s1.v := (eρ155 26).trans h123
       have h158 : opd ρ155 53 (.tmp 27) = .int .i64 (a0.Members.length : Int) := (eρ155 27).trans h124
       have h159 : opd ρ155 53 (.tmp 28) = .int .i64 (i35 : Int) := (eρ155 28).trans h125
       have h160 : opd ρ155 53 (.tmp 51) = .bool true := eρ155 51
       clear eρ155
       refine wcT h160 ?_
       refine wseq ?_
       refine wreg ?_
       refine lv (v := .bool false) rfl (r_as rfl rfl) rfl ?_
       refine wend ?_
       refine wthen ?_
       refine wren (fun ρ161 eρ161 => ?_)
       have h162 : opd ρ161 53 (.tmp 2) = .bool false := eρ161 2
       clear eρ161
       refine wp_ret ?_
       refine inR ?_
       refine thR ?_
       refine thR ?_
       obtain ⟨q163, hFn, hzq163⟩ := Option.map_eq_some_iff.1 hF
       clear hF
       obtain rfl := forK_inr hy35 (hb35.trans (congrArg some hzq163.symm))
       have hF0 := hF35
       try dsimp only at hF0
       have hF := hFn.trans hF0
       clear hFn hF0
       refine inR ?_
       refine thR ?_
       obtain rfl := Option.some.inj hF
       subst hB
       refine finR (rs := [.tmp 2]) (vs := [.bool false]) rfl ⟨h162, trivial⟩ ?_
       exact hI.fin 0 ⟨rfl, rfl⟩
     ·skip
      have hbhc104 : (decide ((i35 : Int) < (a0.Members.length : Int))) = false := decide_eq_false hc104
      obtain rfl : k35 = 0 := by omega
      obtain rfl := forK_end hy35
      have hF := hF35
      try dsimp only at hF
      refine wcF ((show opd _ _ _ = _ from rfl).trans (congrArg Value.bool hbhc104)) ?_
      refine wp_exit ?_
      refine thE ?_
      refine thE ?_
      refine inX ?_
      refine wthen ?_
      refine wren (fun ρ164 eρ164 => ?_)
      clear eρ164
      refine wseq ?_
      refine wreg ?_
      refine lv (v := .bool true) rfl (r_as rfl rfl) rfl ?_
      refine wend ?_
      refine wthen ?_
      refine wren (fun ρ165 eρ165 => ?_)
      have h166 : opd ρ165 53 (.tmp 2) = .bool true := eρ165 2
      clear eρ165
      refine wp_ret ?_
      obtain rfl := Option.some.inj hF
      subst hB
      refine finR (rs := [.tmp 2]) (vs := [.bool true]) rfl ⟨h166, trivial⟩ ?_
      exact hI.fin 0 ⟨rfl, rfl⟩
noncomputable def M_code_Writer_Text (a0 : Code_Writer) (a1 : List (List UInt8)) : Option (Code_Writer) := ((forK (fun (i12 : Nat) (σ12 : (List UInt8)) => (((a1[i12]?).bind fun x170 => ((appI 1 σ12 [u8I (shrI (x170.length : Int) 24), u8I (shrI (x170.length : Int) 16), u8I (shrI (x170.length : Int) 8), u8I (x170.length : Int)]).bind fun x192 => ((appI 1 x192 x170).bind fun x204 => some (.inl x204)))) : Option ((List UInt8) ⊕ Code_Writer))) a1.length 0 a0.b_).bind fun y => match y with | .inl σ12 => some (⟨σ12⟩ : Code_Writer) | .inr r => some r)
set_option maxHeartbeats 4000000 in
theorem spec_126 {w : World} {H : Hp} {a0 : Code_Writer} {a1 : List (List UInt8)} {gg_0_0 : Option Nat} {g_0 : Nat} {s1 : Sv} {s2 : Sv} {r : Code_Writer} (hF : M_code_Writer_Text a0 a1 = some r) (hT : Tab H) (hG : Good w H [.cb g_0 [ckL s1] 175, .own s1 5 1 gg_0_0]) (hs1 : Sl (Fl.ty flB) H s1 a0.b_) (hs2 : Sl (Fl.ty flS) H s2 a1) :
  Fine Tryd.prog 126 [.pointer (some ⟨g_0, 0, none⟩), s2.v] w H [.cb g_0 [ckL s1] 175, .own s1 5 1 gg_0_0] (fun H' v L' => ∃ s900 : Sv, ∃ gg901 : Option Nat, v = .tuple #[] ∧ Sl (Fl.ty flB) H' s900 r.b_ ∧ L' = [.cb g_0 [ckL s900] 175, .own s900 5 1 gg901]) := by
 unfold M_code_Writer_Text at hF
 unfold Fine
 obtain ⟨B, hB⟩ : ∃ B : Base, B = ⟨w, H, blks [.cb g_0 [ckL s1] 175, .own s1 5 1 gg_0_0]⟩ := ⟨_, rfl⟩
 have hI : Inv B w H [.cb g_0 [ckL s1] 175, .own s1 5 1 gg_0_0] := by rw [hB]; exact Inv.start hG
 refine enter (n := 47) (args := [.pointer (some ⟨g_0, 0, none⟩), s2.v]) Tryd.func126 rfl Tryd.ntmps126 (Nat.le_of_ble_eq_true rfl) ?_
 refine wseq ?_
 refine wseq ?_
 refine wreg ?_
 refine lv (v := .pointer (some ⟨g_0, 0 + 0, none⟩)) rfl (r_mv rfl rfl) rfl ?_
 refine lv (v := .bool false) rfl (r_pn rfl un173 rfl rfl) rfl ?_
 refine wend ?_
 refine wthen ?_
 refine wren (fun ρ3 eρ3 => ?_)
 have h4 : opd ρ3 47 (.tmp 0) = .pointer (some ⟨g_0, 0 + 0, none⟩) := eρ3 0
 have h5 : opd ρ3 47 (.tmp 1) = s2.v := eρ3 1
 have h6 : opd ρ3 47 (.tmp 8) = .bool false := eρ3 8
 clear eρ3
 refine wcF h6 ?_
 refine wp_skip ?_
 refine wthen ?_
 refine wseq ?_
 refine wreg ?_
 refine lv (v := s2.v) rfl (r_mv rfl h5) rfl ?_
 refine lv (v := .int .i64 (a1.length : Int)) rfl (r_lenS rfl sl199 rfl hs2) rfl ?_
 refine lv (v := .int .i64 0) rfl (r_mv rfl rfl) rfl ?_
 refine wend ?_
 refine wthen ?_
 refine wren (fun ρ7 eρ7 => ?_)
 have h8 : opd ρ7 47 (.tmp 0) = .pointer (some ⟨g_0, 0 + 0, none⟩) := (eρ7 0).trans h4
 have h9 : opd ρ7 47 (.tmp 9) = s2.v := eρ7 9
 have h10 : opd ρ7 47 (.tmp 10) = .int .i64 (a1.length : Int) := eρ7 10
 have h11 : opd ρ7 47 (.tmp 11) = .int .i64 0 := eρ7 11
 clear eρ7
 refine wp_block ?_
 have hbd12 := (hs2).bd
 rw [(hs2).n] at hbd12
 obtain ⟨y12, hy12, hF12⟩ := Option.bind_eq_some_iff.1 hF
 refine wfor (n := 47) a1.length _ (fun (i12 : Nat) (σ12 : (List UInt8)) ρ' w' => ∃ (H157 : Hp) (s155 : Sv) (gg156 : Option Nat), Hle H H157 ∧ opd ρ' 47 (.tmp 0) = .pointer (some ⟨g_0, 0 + 0, none⟩) ∧ opd ρ' 47 (.tmp 9) = s2.v ∧ opd ρ' 47 (.tmp 10) = .int .i64 (a1.length : Int) ∧ opd ρ' 47 (.tmp 11) = .int .i64 (i12 : Int) ∧ Sl (Fl.ty flB) H157 s155 σ12 ∧ Inv B w' H157 [.cb g_0 [ckL s155] 175, .own s155 5 1 gg156]) hy12 ⟨H, s1, gg_0_0, (Hle.refl _), h8, h9, h10, h11, hs1, hI⟩ ?_
 rintro k12 i12 σ12 ρ162 w163 hk12 ⟨H157, s155, gg156, hleH157, h158, h159, h160, h161, hs155, hI⟩ hy12
 refine wseq ?_
 refine wreg ?_
 refine lv (v := .bool (decide ((i12 : Int) < (a1.length : Int)))) rfl (r_lss rfl h161 h160 rfl) rfl ?_
 refine wend ?_
 refine wthen ?_
 refine wseq ?_
 by_cases hc164 : (i12 : Int) < (a1.length : Int)
 ·skip
  have hbhc164 : (decide ((i12 : Int) < (a1.length : Int))) = true := decide_eq_true hc164
  obtain ⟨k12, rfl⟩ : ∃ m, k12 = m + 1 := ⟨k12 - 1, by omega⟩
  obtain ⟨z12, hb12⟩ := forK_body hy12
  have hF := hb12
  have hlt12 : ((i12 : Nat) : Int) + 1 ≤ 9223372036854775807 := by omega
  refine wcT ((show opd _ _ _ = _ from rfl).trans (congrArg Value.bool hbhc164)) ?_
  refine wp_skip ?_
  refine wthen ?_
  refine wren (fun ρ165 eρ165 => ?_)
  have h166 : opd ρ165 47 (.tmp 0) = .pointer (some ⟨g_0, 0 + 0, none⟩) := (eρ165 0).trans h158
  have h167 : opd ρ165 47 (.tmp 9) = s2.v := (eρ165 9).trans h159
  have h168 : opd ρ165 47 (.tmp 10) = .int .i64 (a1.length : Int) := (eρ165 10).trans h160
  have h169 : opd ρ165 47 (.tmp 11) = .int .i64 (i12 : Int) := (eρ165 11).trans h161
  clear eρ165
  refine wseq ?_
  refine wp_block ?_
  refine wseq ?_
  refine wreg ?_
  obtain ⟨x170, hx170, hF⟩ := Option.bind_eq_some_iff.1 hF
  obtain ⟨b171, j172, hix173, hil174, hA175⟩ := (hs2.mono hleH157).ixf hx170
  replace hA175 : At H157 b171 j172 [ckS x170] := hA175
  refine lv (v := .pointer (some ⟨b171, j172 + 0, none⟩)) rfl (r_ixt rfl sl199 h167 h169 rfl hix173 hil174) rfl ?_
  refine lv (v := strv x170) rfl (r_cl1 (off := 0) (p := 0) (hA175.ca hI.good) rfl sc9 rfl rfl rfl) rfl ?_
  refine lv (v := strv x170) rfl (r_as rfl rfl) rfl ?_
  refine wend ?_
  refine wthen ?_
  refine wren (fun ρ176 eρ176 => ?_)
  have h177 : opd ρ176 47 (.tmp 0) = .pointer (some ⟨g_0, 0 + 0, none⟩) := (eρ176 0).trans h166
  have h178 : opd ρ176 47 (.tmp 5) = strv x170 := eρ176 5
  have h179 : opd ρ176 47 (.tmp 9) = s2.v := (eρ176 9).trans h167
  have h180 : opd ρ176 47 (.tmp 10) = .int .i64 (a1.length : Int) := (eρ176 10).trans h168
  have h181 : opd ρ176 47 (.tmp 11) = .int .i64 (i12 : Int) := (eρ176 11).trans h169
  clear eρ176
  refine wseq ?_
  refine wreg ?_
  refine lv (v := strv x170) rfl (r_mv rfl h178) rfl ?_
  refine lv (v := .int .i64 (x170.length : Int)) rfl (r_lenT rfl un9 rfl) rfl ?_
  refine lv (v := .int .i64 (x170.length : Int)) rfl (r_as rfl rfl) rfl ?_
  refine wend ?_
  refine wthen ?_
  refine wren (fun ρ182 eρ182 => ?_)
  have h183 : opd ρ182 47 (.tmp 0) = .pointer (some ⟨g_0, 0 + 0, none⟩) := (eρ182 0).trans h177
  have h184 : opd ρ182 47 (.tmp 5) = strv x170 := (eρ182 5).trans h178
  have h185 : opd ρ182 47 (.tmp 6) = .int .i64 (x170.length : Int) := eρ182 6
  have h186 : opd ρ182 47 (.tmp 9) = s2.v := (eρ182 9).trans h179
  have h187 : opd ρ182 47 (.tmp 10) = .int .i64 (a1.length : Int) := (eρ182 10).trans h180
  have h188 : opd ρ182 47 (.tmp 11) = .int .i64 (i12 : Int) := (eρ182 11).trans h181
  clear eρ182
  refine wseq ?_
  refine wreg ?_
  refine lv (v := .pointer (some ⟨g_0, 0 + 0, none⟩)) rfl (r_mv rfl h183) rfl ?_
  refine lv (v := .pointer (some ⟨g_0, 0 + 0, none⟩)) rfl (r_mv rfl h183) rfl ?_
  refine lv (v := .pointer (some ⟨g_0, 0 + 0, none⟩)) rfl (r_nilc rfl rfl) rfl ?_
  refine lv (v := .pointer (some ⟨g_0, 0 + 0, none⟩)) rfl (l_fa (j := 0) (i := 0) rfl fl175_0 rfl rfl) rfl ?_
  refine lv (v := s155.v) rfl (r_cl1 (off := 0) (p := 0) (hI.good.ca 0 rfl) rfl sc158 rfl rfl rfl) rfl ?_
  refine lv (v := .int .i64 (x170.length : Int)) rfl (r_mv rfl h185) rfl ?_
  refine lv (v := .int .i64 (shrI (x170.length : Int) 24)) rfl (r_shrI (b := 24) rfl rfl rfl (by decide)) rfl ?_
  refine lv (v := bv (u8I (shrI (x170.length : Int) 24))) rfl (c_i8 rfl un3 un5 rfl) rfl ?_
  refine lv (v := .int .i64 (x170.length : Int)) rfl (r_mv rfl h185) rfl ?_
  refine lv (v := .int .i64 (shrI (x170.length : Int) 16)) rfl (r_shrI (b := 16) rfl rfl rfl (by decide)) rfl ?_
  refine lv (v := bv (u8I (shrI (x170.length : Int) 16))) rfl (c_i8 rfl un3 un5 rfl) rfl ?_
  refine lv (v := .int .i64 (x170.length : Int)) rfl (r_mv rfl h185) rfl ?_
  refine lv (v := .int .i64 (shrI (x170.length : Int) 8)) rfl (r_shrI (b := 8) rfl rfl rfl (by decide)) rfl ?_
  refine lv (v := bv (u8I (shrI (x170.length : Int) 8))) rfl (c_i8 rfl un3 un5 rfl) rfl ?_
  refine lv (v := .int .i64 (x170.length : Int)) rfl (r_mv rfl h185) rfl ?_
  refine lv (v := bv (u8I (x170.length : Int))) rfl (c_i8 rfl un3 un5 rfl) rfl ?_
  refine le rfl (l_bs (t := (Fl.ty flB)) (vs := [bv (u8I (shrI (x170.length : Int) 24)), bv (u8I (shrI (x170.length : Int) 16)), bv (u8I (shrI (x170.length : Int) 8)), bv (u8I (x170.length : Int))]) (xs := [u8I (shrI (x170.length : Int) 24), u8I (shrI (x170.length : Int) 16), u8I (shrI (x170.length : Int) 8), u8I (x170.length : Int)]) hI rfl sl158 inf5 rfl rfl (argc rfl (argc rfl (argc rfl (argc rfl rfl)))) (.cons rfl rfl (.cons rfl rfl (.cons rfl rfl (.cons rfl rfl .nil)))) rfl) rfl ?_
  rintro _ w191 ⟨s189, H190, rfl, hI, hleH190, hs189, hfs189, hgs189⟩
  obtain ⟨x192, hx192, hF⟩ := Option.bind_eq_some_iff.1 hF
  refine le rfl (l_app (t := (Fl.ty flB)) hI 1 rfl rfl sl158 inf5 rfl rfl rfl rfl (hs155.mono hleH190) hs189 (appI_some hx192).1) rfl ?_
  rintro _ w196 ⟨s193, H194, gg195, rfl, hI, hleH194, hs193⟩
  rw [← (appI_some hx192).2] at hs193
  replace hI : Inv B w196 H194 [.cb g_0 [ckL s155] 175, .own s193 5 1 gg195] := hI
  refine lv (v := .pointer (some ⟨g_0, 0 + 0, none⟩)) rfl (r_nilc rfl rfl) rfl ?_
  refine lv (v := .pointer (some ⟨g_0, 0 + 0, none⟩)) rfl (l_fa (j := 0) (i := 0) rfl fl175_0 rfl rfl) rfl ?_
  refine lst rfl (l_st (off := 0) (p := 0) (m := 1) (new := [ckL s193]) hI 0 rfl rfl sz158 rfl rfl rfl rfl rfl rfl) rfl ?_
  intro w197 hI
  replace hI : Inv B w197 H194 [.cb g_0 [ckL s193] 175, .own s193 5 1 gg195] := hI
  refine wend ?_
  refine wthen ?_
  refine wren (fun ρ198 eρ198 => ?_)
  have h199 : opd ρ198 47 (.tmp 0) = .pointer (some ⟨g_0, 0 + 0, none⟩) := (eρ198 0).trans h183
  have h200 : opd ρ198 47 (.tmp 5) = strv x170 := (eρ198 5).trans h184
  have h201 : opd ρ198 47 (.tmp 9) = s2.v := (eρ198 9).trans h186
  have h202 : opd ρ198 47 (.tmp 10) = .int .i64 (a1.length : Int) := (eρ198 10).trans h187
  have h203 : opd ρ198 47 (.tmp 11) = .int .i64 (i12 : Int) := (eρ198 11).trans h188
  clear eρ198
  refine wreg ?_
  refine lv (v := .pointer (some ⟨g_0, 0 + 0, none⟩)) rfl (r_mv rfl h199) rfl ?_
  refine lv (v := .pointer (some ⟨g_0, 0 + 0, none⟩)) rfl (r_mv rfl h199) rfl ?_
  refine lv (v := .pointer (some ⟨g_0, 0 + 0, none⟩)) rfl (r_nilc rfl rfl) rfl ?_
  refine lv (v := .pointer (some ⟨g_0, 0 + 0, none⟩)) rfl (l_fa (j := 0) (i := 0) rfl fl175_0 rfl rfl) rfl ?_
  refine lv (v := s193.v) rfl (r_cl1 (off := 0) (p := 0) (hI.good.ca 0 rfl) rfl sc158 rfl rfl rfl) rfl ?_
  refine lv (v := strv x170) rfl (r_mv rfl h200) rfl ?_
  obtain ⟨x204, hx204, hF⟩ := Option.bind_eq_some_iff.1 hF
  refine le rfl (l_apps hI 1 rfl rfl sl158 un9 inf5 rfl rfl hs193 (appI_some hx204).1) rfl ?_
  rintro _ w208 ⟨s205, H206, gg207, rfl, hI, hleH206, hs205⟩
  rw [← (appI_some hx204).2] at hs205
  replace hI : Inv B w208 H206 [.cb g_0 [ckL s193] 175, .own s205 5 1 gg207] := hI
  refine lv (v := .pointer (some ⟨g_0, 0 + 0, none⟩)) rfl (r_nilc rfl rfl) rfl ?_
  refine lv (v := .pointer (some ⟨g_0, 0 + 0, none⟩)) rfl (l_fa (j := 0) (i := 0) rfl fl175_0 rfl rfl) rfl ?_
  refine lst rfl (l_st (off := 0) (p := 0) (m := 1) (new := [ckL s205]) hI 0 rfl rfl sz158 rfl rfl rfl rfl rfl rfl) rfl ?_
  intro w209 hI
  replace hI : Inv B w209 H206 [.cb g_0 [ckL s205] 175, .own s205 5 1 gg207] := hI
  refine wend ?_
  refine inN ?_
  refine wthen ?_
  refine wren (fun ρ210 eρ210 => ?_)
  have h211 : opd ρ210 47 (.tmp 0) = .pointer (some ⟨g_0, 0 + 0, none⟩) := (eρ210 0).trans h199
  have h212 : opd ρ210 47 (.tmp 9) = s2.v := (eρ210 9).trans h201
  have h213 : opd ρ210 47 (.tmp 10) = .int .i64 (a1.length : Int) := (eρ210 10).trans h202
  have h214 : opd ρ210 47 (.tmp 11) = .int .i64 (i12 : Int) := (eρ210 11).trans h203
  clear eρ210
  refine wreg ?_
  refine lv (v := .int .i64 ((i12 + 1 : Nat) : Int)) rfl (r_addn rfl h214 rfl hlt12) rfl ?_
  refine lv (v := .int .i64 ((i12 + 1 : Nat) : Int)) rfl (r_mv rfl rfl) rfl ?_
  refine wend ?_
  obtain rfl := Option.some.inj hF
  exact ⟨k12, x204, _, rfl, rfl, ⟨H206, s205, gg207, (((hleH157.trans hleH190).trans hleH194).trans hleH206), h211, h212, h213, rfl, hs205, hI⟩, forK_inl hy12 hb12⟩
 ·skip
  have hbhc164 : (decide ((i12 : Int) < (a1.length : Int))) = false := decide_eq_false hc164
  obtain rfl : k12 = 0 := by omega
  obtain rfl := forK_end hy12
  have hF := hF12
  try dsimp only at hF
  refine wcF ((show opd _ _ _ = _ from rfl).trans (congrArg Value.bool hbhc164)) ?_
  refine wp_exit ?_
  refine thE ?_
  refine thE ?_
  refine inX ?_
  obtain rfl := Option.some.inj hF
  subst hB
  refine finN (rs := []) (vs := []) rfl trivial ?_
  exact hI.fin 2 ⟨s155, gg156, rfl, hs155, rfl⟩
noncomputable def M_request_Write (a0 : Code_Writer) (a1 : Request) : Option (Code_Writer) := ((M_code_Writer_Num a0 [a1.Client, a1.Num, a1.Op.Kind]).bind fun x17 => ((M_code_Writer_Text x17 [a1.Op.Key, a1.Op.Val, a1.Op.Old]).bind fun x30 => ((M_code_Writer_Num x30 [a1.Op.Change.Kind, a1.Op.Change.Id, a1.Op.Change.New, a1.Op.Change.Key.Height]).bind fun x42 => ((M_code_Writer_Digest x42 [a1.Op.Change.Key.Root]).bind fun x54 => some x54))))
set_option maxHeartbeats 1000000 in
theorem spec_159 {w : World} {H : Hp} {a0 : Code_Writer} {a1 : Request} {gg_0_0 : Option Nat} {g_0 : Nat} {s1 : Sv} {r : Code_Writer} (hF : M_request_Write a0 a1 = some r) (hT : Tab H) (hG : Good w H [.cb g_0 [ckL s1] 175, .own s1 5 1 gg_0_0]) (hs1 : Sl (Fl.ty flB) H s1 a0.b_) :
  Fine Tryd.prog 159 [.pointer (some ⟨g_0, 0, none⟩), .agg (flat [ckI a1.Client, ckI a1.Num, ckI a1.Op.Kind, ckS a1.Op.Key, ckS a1.Op.Val, ckS a1.Op.Old, ckI a1.Op.Change.Kind, ckI a1.Op.Change.Id, ckI a1.Op.Change.New, ckV flB a1.Op.Change.Key.Root, ckI a1.Op.Change.Key.Height]).toArray] w H [.cb g_0 [ckL s1] 175, .own s1 5 1 gg_0_0] (fun H' v L' => ∃ s900 : Sv, ∃ gg901 : Option Nat, v = .tuple #[] ∧ Sl (Fl.ty flB) H' s900 r.b_ ∧ L' = [.cb g_0 [ckL s900] 175, .own s900 5 1 gg901]) := by
 unfold M_request_Write at hF
 unfold Fine
 obtain ⟨B, hB⟩ : ∃ B : Base, B = ⟨w, H, blks [.cb g_0 [ckL s1] 175, .own s1 5 1 gg_0_0]⟩ := ⟨_, rfl⟩
 have hI : Inv B w H [.cb g_0 [ckL s1] 175, .own s1 5 1 gg_0_0] := by rw [hB]; exact Inv.start hG
 refine enter (n := 48) (args := [.pointer (some ⟨g_0, 0, none⟩), .agg (flat [ckI a1.Client, ckI a1.Num, ckI a1.Op.Kind, ckS a1.Op.Key, ckS a1.Op.Val, ckS a1.Op.Old, ckI a1.Op.Change.Kind, ckI a1.Op.Change.Id, ckI a1.Op.Change.New, ckV flB a1.Op.Change.Key.Root, ckI a1.Op.Change.Key.Height]).toArray]) Tryd.func159 rfl Tryd.ntmps159 (Nat.le_of_ble_eq_true rfl) ?_
 refine wseq ?_
 refine wreg ?_
 refine le rfl (l_box (cks := [ckI a1.Client, ckI a1.Num, ckI a1.Op.Kind, ckS a1.Op.Key, ckS a1.Op.Val, ckS a1.Op.Old, ckI a1.Op.Change.Kind, ckI a1.Op.Change.Id, ckI a1.Op.Change.New, ckV flB a1.Op.Change.Key.Root, ckI a1.Op.Change.Key.Height]) hI rfl rfl rfl) rfl ?_
 rintro _ w3 ⟨g2, rfl, hI⟩
 replace hI : Inv B w3 H [.cb g_0 [ckL s1] 175, .own s1 5 1 gg_0_0, .cb g2 [ckI a1.Client, ckI a1.Num, ckI a1.Op.Kind, ckS a1.Op.Key, ckS a1.Op.Val, ckS a1.Op.Old, ckI a1.Op.Change.Kind, ckI a1.Op.Change.Id, ckI a1.Op.Change.New, ckV flB a1.Op.Change.Key.Root, ckI a1.Op.Change.Key.Height] 192] := hI
 refine wend ?_
 refine wthen ?_
 refine wren (fun ρ4 eρ4 => ?_)
 have h5 : opd ρ4 48 (.tmp 0) = .pointer (some ⟨g_0, 0 + 0, none⟩) := eρ4 0
 have h6 : opd ρ4 48 (.tmp 3) = .pointer (some ⟨g2, 0 + 0, none⟩) := eρ4 3
 clear eρ4
 refine wseq ?_
 refine wreg ?_
 refine lv (v := .pointer (some ⟨g2, 0 + 2, none⟩)) rfl (l_fa (j := 0) (i := 0) rfl fl192_2 h6 rfl) rfl ?_
 refine lv (v := .pointer (some ⟨g2, 0 + 6, none⟩)) rfl (l_fa (j := 0) (i := 2) rfl fl190_4 rfl rfl) rfl ?_
 refine lv (v := .agg (flat [ckI a1.Op.Change.Kind, ckI a1.Op.Change.Id, ckI a1.Op.Change.New, ckV flB a1.Op.Change.Key.Root, ckI a1.Op.Change.Key.Height]).toArray) rfl (r_cla (off := 6) (p := 6) (m := 5) (hI.good.ca 2 rfl) rfl ag188 rfl rfl rfl) rfl ?_
 refine le rfl (l_al hI rfl ze188) rfl ?_
 rintro _ w8 ⟨g7, rfl, hI⟩
 replace hI : Inv B w8 H [.cb g_0 [ckL s1] 175, .own s1 5 1 gg_0_0, .cb g2 _ 192, .cb g7 [ckI 0, ckI 0, ckI 0, ckV flB (Vec.rep 32 0), ckI 0] 188] := hI
 refine lst rfl (l_st (off := 0) (p := 0) (m := 5) (new := [ckI a1.Op.Change.Kind, ckI a1.Op.Change.Id, ckI a1.Op.Change.New, ckV flB a1.Op.Change.Key.Root, ckI a1.Op.Change.Key.Height]) hI 3 rfl rfl sz188 rfl rfl rfl rfl rfl rfl) rfl ?_
 intro w9 hI
 replace hI : Inv B w9 H [.cb g_0 [ckL s1] 175, .own s1 5 1 gg_0_0, .cb g2 _ 192, .cb g7 [ckI a1.Op.Change.Kind, ckI a1.Op.Change.Id, ckI a1.Op.Change.New, ckV flB a1.Op.Change.Key.Root, ckI a1.Op.Change.Key.Height] 188] := hI
 refine wend ?_
 refine wthen ?_
 refine wren (fun ρ10 eρ10 => ?_)
 have h11 : opd ρ10 48 (.tmp 0) = .pointer (some ⟨g_0, 0 + 0, none⟩) := (eρ10 0).trans h5
 have h12 : opd ρ10 48 (.tmp 3) = .pointer (some ⟨g2, 0 + 0, none⟩) := (eρ10 3).trans h6
 have h13 : opd ρ10 48 (.tmp 4) = .pointer (some ⟨g7, 0 + 0, none⟩) := eρ10 4
 clear eρ10
 refine wseq ?_
 refine wreg ?_
 refine lv (v := .pointer (some ⟨g_0, 0 + 0, none⟩)) rfl (r_mv rfl h11) rfl ?_
 refine lv (v := .pointer (some ⟨g2, 0 + 0, none⟩)) rfl (l_fa (j := 0) (i := 0) rfl fl192_0 h12 rfl) rfl ?_
 refine lv (v := .int .i64 a1.Client) rfl (r_cl1 (off := 0) (p := 0) (hI.good.ca 2 rfl) rfl sc3 rfl rfl rfl) rfl ?_
 refine lv (v := .pointer (some ⟨g2, 0 + 1, none⟩)) rfl (l_fa (j := 0) (i := 0) rfl fl192_1 h12 rfl) rfl ?_
 refine lv (v := .int .i64 a1.Num) rfl (r_cl1 (off := 1) (p := 1) (hI.good.ca 2 rfl) rfl sc3 rfl rfl rfl) rfl ?_
 refine lv (v := .pointer (some ⟨g2, 0 + 2, none⟩)) rfl (l_fa (j := 0) (i := 0) rfl fl192_2 h12 rfl) rfl ?_
 refine lv (v := .pointer (some ⟨g2, 0 + 2, none⟩)) rfl (l_fa (j := 0) (i := 2) rfl fl190_0 rfl rfl) rfl ?_
 refine lv (v := .int .i64 a1.Op.Kind) rfl (r_cl1 (off := 2) (p := 2) (hI.good.ca 2 rfl) rfl sc3 rfl rfl rfl) rfl ?_
 refine le rfl (l_bs (t := (Fl.ty flI)) (vs := [.int .i64 a1.Client, .int .i64 a1.Num, .int .i64 a1.Op.Kind]) (xs := [a1.Client, a1.Num, a1.Op.Kind]) hI rfl sl59 inf3 rfl rfl (argc rfl (argc rfl (argc rfl rfl))) (.cons rfl rfl (.cons rfl rfl (.cons rfl rfl .nil))) rfl) rfl ?_
 rintro _ w16 ⟨s14, H15, rfl, hI, hleH15, hs14, hfs14, hgs14⟩
 obtain ⟨x17, hx17, hF⟩ := Option.bind_eq_some_iff.1 hF
 have hsp20 := spec_124 hx17 (hT.mono hleH15) (hI.part 2) (hs1.mono hleH15) hs14
 refine fc ([.cb g_0 [ckL s1] 175, .own s1 5 1 gg_0_0]) ([.cb g2 [ckI a1.Client, ckI a1.Num, ckI a1.Op.Kind, ckS a1.Op.Key, ckS a1.Op.Val, ckS a1.Op.Old, ckI a1.Op.Change.Kind, ckI a1.Op.Change.Id, ckI a1.Op.Change.New, ckV flB a1.Op.Change.Key.Root, ckI a1.Op.Change.Key.Height] 192, .cb g7 [ckI a1.Op.Change.Kind, ckI a1.Op.Change.Id, ckI a1.Op.Change.New, ckV flB a1.Op.Change.Key.Root, ckI a1.Op.Change.Key.Height] 188]) (args := [.pointer (some ⟨g_0, 0 + 0, none⟩), s14.v]) fc124 rfl rfl rfl hI (argc rfl (argc rfl rfl)) (hsp20) ?_
 rintro _ H18 _ w19 ⟨s21, gg22, rfl, hs21, rfl⟩ hleH18 hI
 replace hI : Inv B w19 H18 [.cb g_0 [ckL s21] 175, .own s21 5 1 gg22, .cb g2 _ 192, .cb g7 _ 188] := hI
 refine wend ?_
 refine wthen ?_
 refine wren (fun ρ23 eρ23 => ?_)
 have h24 : opd ρ23 48 (.tmp 0) = .pointer (some ⟨g_0, 0 + 0, none⟩) := (eρ23 0).trans h11
 have h25 : opd ρ23 48 (.tmp 3) = .pointer (some ⟨g2, 0 + 0, none⟩) := (eρ23 3).trans h12
 have h26 : opd ρ23 48 (.tmp 4) = .pointer (some ⟨g7, 0 + 0, none⟩) := (eρ23 4).trans h13
 clear eρ23
 refine wseq ?_
 refine wreg ?_
 refine lv (v := .pointer (some ⟨g_0, 0 + 0, none⟩)) rfl (r_mv rfl h24) rfl ?_
 refine lv (v := .pointer (some ⟨g2, 0 + 2, none⟩)) rfl (l_fa (j := 0) (i := 0) rfl fl192_2 h25 rfl) rfl ?_
 refine lv (v := .pointer (some ⟨g2, 0 + 3, none⟩)) rfl (l_fa (j := 0) (i := 2) rfl fl190_1 rfl rfl) rfl ?_
 refine lv (v := strv a1.Op.Key) rfl (r_cl1 (off := 3) (p := 3) (hI.good.ca 2 rfl) rfl sc9 rfl rfl rfl) rfl ?_
 refine lv (v := .pointer (some ⟨g2, 0 + 2, none⟩)) rfl (l_fa (j := 0) (i := 0) rfl fl192_2 h25 rfl) rfl ?_
 refine lv (v := .pointer (some ⟨g2, 0 + 4, none⟩)) rfl (l_fa (j := 0) (i := 2) rfl fl190_2 rfl rfl) rfl ?_
 refine lv (v := strv a1.Op.Val) rfl (r_cl1 (off := 4) (p := 4) (hI.good.ca 2 rfl) rfl sc9 rfl rfl rfl) rfl ?_
 refine lv (v := .pointer (some ⟨g2, 0 + 2, none⟩)) rfl (l_fa (j := 0) (i := 0) rfl fl192_2 h25 rfl) rfl ?_
 refine lv (v := .pointer (some ⟨g2, 0 + 5, none⟩)) rfl (l_fa (j := 0) (i := 2) rfl fl190_3 rfl rfl) rfl ?_
 refine lv (v := strv a1.Op.Old) rfl (r_cl1 (off := 5) (p := 5) (hI.good.ca 2 rfl) rfl sc9 rfl rfl rfl) rfl ?_
 refine le rfl (l_bs (t := (Fl.ty flS)) (vs := [strv a1.Op.Key, strv a1.Op.Val, strv a1.Op.Old]) (xs := [a1.Op.Key, a1.Op.Val, a1.Op.Old]) hI rfl sl199 inf9 rfl rfl (argc rfl (argc rfl (argc rfl rfl))) (.cons rfl rfl (.cons rfl rfl (.cons rfl rfl .nil))) rfl) rfl ?_
 rintro _ w29 ⟨s27, H28, rfl, hI, hleH28, hs27, hfs27, hgs27⟩
 obtain ⟨x30, hx30, hF⟩ := Option.bind_eq_some_iff.1 hF
 have hsp33 := spec_126 hx30 (((hT.mono hleH15).mono hleH18).mono hleH28) (hI.part 2) (hs21.mono hleH28) hs27
 refine fc ([.cb g_0 [ckL s21] 175, .own s21 5 1 gg22]) ([.cb g2 [ckI a1.Client, ckI a1.Num, ckI a1.Op.Kind, ckS a1.Op.Key, ckS a1.Op.Val, ckS a1.Op.Old, ckI a1.Op.Change.Kind, ckI a1.Op.Change.Id, ckI a1.Op.Change.New, ckV flB a1.Op.Change.Key.Root, ckI a1.Op.Change.Key.Height] 192, .cb g7 [ckI a1.Op.Change.Kind, ckI a1.Op.Change.Id, ckI a1.Op.Change.New, ckV flB a1.Op.Change.Key.Root, ckI a1.Op.Change.Key.Height] 188]) (args := [.pointer (some ⟨g_0, 0 + 0, none⟩), s27.v]) fc126 rfl rfl rfl hI (argc rfl (argc rfl rfl)) (hsp33) ?_
 rintro _ H31 _ w32 ⟨s34, gg35, rfl, hs34, rfl⟩ hleH31 hI
 replace hI : Inv B w32 H31 [.cb g_0 [ckL s34] 175, .own s34 5 1 gg35, .cb g2 _ 192, .cb g7 _ 188] := hI
 refine wend ?_
 refine wthen ?_
 refine wren (fun ρ36 eρ36 => ?_)
 have h37 : opd ρ36 48 (.tmp 0) = .pointer (some ⟨g_0, 0 + 0, none⟩) := (eρ36 0).trans h24
 have h38 : opd ρ36 48 (.tmp 4) = .pointer (some ⟨g7, 0 + 0, none⟩) := (eρ36 4).trans h26
 clear eρ36
 refine wseq ?_
 refine wreg ?_
 refine lv (v := .pointer (some ⟨g_0, 0 + 0, none⟩)) rfl (r_mv rfl h37) rfl ?_
 refine lv (v := .pointer (some ⟨g7, 0 + 0, none⟩)) rfl (l_fa (j := 0) (i := 0) rfl fl188_0 h38 rfl) rfl ?_
 refine lv (v := .int .i64 a1.Op.Change.Kind) rfl (r_cl1 (off := 0) (p := 0) (hI.good.ca 3 rfl) rfl sc3 rfl rfl rfl) rfl ?_
 refine lv (v := .pointer (some ⟨g7, 0 + 1, none⟩)) rfl (l_fa (j := 0) (i := 0) rfl fl188_1 h38 rfl) rfl ?_
 refine lv (v := .int .i64 a1.Op.Change.Id) rfl (r_cl1 (off := 1) (p := 1) (hI.good.ca 3 rfl) rfl sc3 rfl rfl rfl) rfl ?_
 refine lv (v := .pointer (some ⟨g7, 0 + 2, none⟩)) rfl (l_fa (j := 0) (i := 0) rfl fl188_2 h38 rfl) rfl ?_
 refine lv (v := .int .i64 a1.Op.Change.New) rfl (r_cl1 (off := 2) (p := 2) (hI.good.ca 3 rfl) rfl sc3 rfl rfl rfl) rfl ?_
 refine lv (v := .pointer (some ⟨g7, 0 + 3, none⟩)) rfl (l_fa (j := 0) (i := 0) rfl fl188_3 h38 rfl) rfl ?_
 refine lv (v := .pointer (some ⟨g7, 0 + 35, none⟩)) rfl (l_fa (j := 0) (i := 3) rfl fl49_1 rfl rfl) rfl ?_
 refine lv (v := .int .i64 a1.Op.Change.Key.Height) rfl (r_cl1 (off := 35) (p := 4) (hI.good.ca 3 rfl) rfl sc3 rfl rfl rfl) rfl ?_
 refine le rfl (l_bs (t := (Fl.ty flI)) (vs := [.int .i64 a1.Op.Change.Kind, .int .i64 a1.Op.Change.Id, .int .i64 a1.Op.Change.New, .int .i64 a1.Op.Change.Key.Height]) (xs := [a1.Op.Change.Kind, a1.Op.Change.Id, a1.Op.Change.New, a1.Op.Change.Key.Height]) hI rfl sl59 inf3 rfl rfl (argc rfl (argc rfl (argc rfl (argc rfl rfl)))) (.cons rfl rfl (.cons rfl rfl (.cons rfl rfl (.cons rfl rfl .nil)))) rfl) rfl ?_
 rintro _ w41 ⟨s39, H40, rfl, hI, hleH40, hs39, hfs39, hgs39⟩
 obtain ⟨x42, hx42, hF⟩ := Option.bind_eq_some_iff.1 hF
 have hsp45 := spec_124 hx42 (((((hT.mono hleH15).mono hleH18).mono hleH28).mono hleH31).mono hleH40) (hI.part 2) (hs34.mono hleH40) hs39
 refine fc ([.cb g_0 [ckL s34] 175, .own s34 5 1 gg35]) ([.cb g2 [ckI a1.Client, ckI a1.Num, ckI a1.Op.Kind, ckS a1.Op.Key, ckS a1.Op.Val, ckS a1.Op.Old, ckI a1.Op.Change.Kind, ckI a1.Op.Change.Id, ckI a1.Op.Change.New, ckV flB a1.Op.Change.Key.Root, ckI a1.Op.Change.Key.Height] 192, .cb g7 [ckI a1.Op.Change.Kind, ckI a1.Op.Change.Id, ckI a1.Op.Change.New, ckV flB a1.Op.Change.Key.Root, ckI a1.Op.Change.Key.Height] 188]) (args := [.pointer (some ⟨g_0, 0 + 0, none⟩), s39.v]) fc124 rfl rfl rfl hI (argc rfl (argc rfl rfl)) (hsp45) ?_
 rintro _ H43 _ w44 ⟨s46, gg47, rfl, hs46, rfl⟩ hleH43 hI
 replace hI : Inv B w44 H43 [.cb g_0 [ckL s46] 175, .own s46 5 1 gg47, .cb g2 _ 192, .cb g7 _ 188] := hI
 refine wend ?_
 refine wthen ?_
 refine wren (fun ρ48 eρ48 => ?_)
 have h49 : opd ρ48 48 (.tmp 0) = .pointer (some ⟨g_0, 0 + 0, none⟩) := (eρ48 0).trans h37
 have h50 : opd ρ48 48 (.tmp 4) = .pointer (some ⟨g7, 0 + 0, none⟩) := (eρ48 4).trans h38
 clear eρ48
 refine wreg ?_
 refine lv (v := .pointer (some ⟨g_0, 0 + 0, none⟩)) rfl (r_mv rfl h49) rfl ?_
 refine lv (v := .pointer (some ⟨g7, 0 + 3, none⟩)) rfl (l_fa (j := 0) (i := 0) rfl fl188_3 h50 rfl) rfl ?_
 refine lv (v := .pointer (some ⟨g7, 0 + 3, none⟩)) rfl (l_fa (j := 0) (i := 3) rfl fl49_0 rfl rfl) rfl ?_
 refine lv (v := .agg (flat [ckV flB a1.Op.Change.Key.Root]).toArray) rfl (r_cla (off := 3) (p := 3) (m := 1) (hI.good.ca 3 rfl) rfl ag29 rfl rfl rfl) rfl ?_
 refine le rfl (l_bs (t := (Fl.ty (flV flB 32))) (vs := [.agg (flat [ckV flB a1.Op.Change.Key.Root]).toArray]) (xs := [a1.Op.Change.Key.Root]) hI rfl sl27 inf29 rfl rfl (argc rfl rfl) (.cons rfl rfl .nil) rfl) rfl ?_
 rintro _ w53 ⟨s51, H52, rfl, hI, hleH52, hs51, hfs51, hgs51⟩
 obtain ⟨x54, hx54, hF⟩ := Option.bind_eq_some_iff.1 hF
 have hsp57 := spec_125 hx54 (((((((hT.mono hleH15).mono hleH18).mono hleH28).mono hleH31).mono hleH40).mono hleH43).mono hleH52) (hI.part 2) (hs46.mono hleH52) hs51
 refine fc ([.cb g_0 [ckL s46] 175, .own s46 5 1 gg47]) ([.cb g2 [ckI a1.Client, ckI a1.Num, ckI a1.Op.Kind, ckS a1.Op.Key, ckS a1.Op.Val, ckS a1.Op.Old, ckI a1.Op.Change.Kind, ckI a1.Op.Change.Id, ckI a1.Op.Change.New, ckV flB a1.Op.Change.Key.Root, ckI a1.Op.Change.Key.Height] 192, .cb g7 [ckI a1.Op.Change.Kind, ckI a1.Op.Change.Id, ckI a1.Op.Change.New, ckV flB a1.Op.Change.Key.Root, ckI a1.Op.Change.Key.Height] 188]) (args := [.pointer (some ⟨g_0, 0 + 0, none⟩), s51.v]) fc125 rfl rfl rfl hI (argc rfl (argc rfl rfl)) (hsp57) ?_
 rintro _ H55 _ w56 ⟨s58, gg59, rfl, hs58, rfl⟩ hleH55 hI
 replace hI : Inv B w56 H55 [.cb g_0 [ckL s58] 175, .own s58 5 1 gg59, .cb g2 _ 192, .cb g7 _ 188] := hI
 refine wend ?_
 obtain rfl := Option.some.inj hF
 subst hB
 refine finN (rs := []) (vs := []) rfl trivial ?_
 exact hI.fin 2 ⟨s58, gg59, rfl, hs58, rfl⟩
noncomputable def M_block_Write (a0 : Code_Writer) (a1 : Block) : Option (Code_Writer) := ((M_code_Writer_Num a0 [a1.Epoch, a1.Height]).bind fun x11 => ((M_code_Writer_Digest x11 [a1.Prev, a1.State, a1.Next]).bind fun x23 => ((M_code_Writer_Num x23 [(a1.Requests.length : Int)]).bind fun x35 => ((forK (fun (i49 : Nat) (σ49 : (List UInt8)) => (((a1.Requests[i49]?).bind fun x162 => ((M_request_Write (⟨σ49⟩ : Code_Writer) x162).bind fun x177 => some (.inl x177.b_))) : Option ((List UInt8) ⊕ Code_Writer))) a1.Requests.length 0 x35.b_).bind fun y => match y with | .inl σ49 => some (⟨σ49⟩ : Code_Writer) | .inr r => some r))))
set_option maxHeartbeats 4000000 in
theorem spec_135 {w : World} {H : Hp} {a0 : Code_Writer} {a1 : Block} {gg_0_0 : Option Nat} {g_0 : Nat} {s1 : Sv} {s2 : Sv} {r : Code_Writer} (hF : M_block_Write a0 a1 = some r) (hT : Tab H) (hG : Good w H [.cb g_0 [ckL s1] 175, .own s1 5 1 gg_0_0]) (hs1 : Sl (Fl.ty flB) H s1 a0.b_) (hs2 : Sl (Fl.ty fl_Request) H s2 a1.Requests) :
  Fine Tryd.prog 135 [.pointer (some ⟨g_0, 0, none⟩), .agg (flat [ckI a1.Epoch, ckI a1.Height, ckV flB a1.Prev, ckV flB a1.State, ckV flB a1.Next, ckL s2]).toArray] w H [.cb g_0 [ckL s1] 175, .own s1 5 1 gg_0_0] (fun H' v L' => ∃ s900 : Sv, ∃ gg901 : Option Nat, v = .tuple #[] ∧ Sl (Fl.ty flB) H' s900 r.b_ ∧ L' = [.cb g_0 [ckL s900] 175, .own s900 5 1 gg901]) := by
 unfold M_block_Write at hF
 unfold Fine
 obtain ⟨B, hB⟩ : ∃ B : Base, B = ⟨w, H, blks [.cb g_0 [ckL s1] 175, .own s1 5 1 gg_0_0]⟩ := ⟨_, rfl⟩
 have hI : Inv B w H [.cb g_0 [ckL s1] 175, .own s1 5 1 gg_0_0] := by rw [hB]; exact Inv.start hG
 refine enter (n := 39) (args := [.pointer (some ⟨g_0, 0, none⟩), .agg (flat [ckI a1.Epoch, ckI a1.Height, ckV flB a1.Prev, ckV flB a1.State, ckV flB a1.Next, ckL s2]).toArray]) Tryd.func135 rfl Tryd.ntmps135 (Nat.le_of_ble_eq_true rfl) ?_
 refine wseq ?_
 refine wreg ?_
 refine le rfl (l_box (cks := [ckI a1.Epoch, ckI a1.Height, ckV flB a1.Prev, ckV flB a1.State, ckV flB a1.Next, ckL s2]) hI rfl rfl rfl) rfl ?_
 rintro _ w4 ⟨g3, rfl, hI⟩
 replace hI : Inv B w4 H [.cb g_0 [ckL s1] 175, .own s1 5 1 gg_0_0, .cb g3 [ckI a1.Epoch, ckI a1.Height, ckV flB a1.Prev, ckV flB a1.State, ckV flB a1.Next, ckL s2] 69] := hI
 refine wend ?_
 refine wthen ?_
 refine wren (fun ρ5 eρ5 => ?_)
 have h6 : opd ρ5 39 (.tmp 0) = .pointer (some ⟨g_0, 0 + 0, none⟩) := eρ5 0
 have h7 : opd ρ5 39 (.tmp 3) = .pointer (some ⟨g3, 0 + 0, none⟩) := eρ5 3
 clear eρ5
 refine wseq ?_
 refine wreg ?_
 refine lv (v := .pointer (some ⟨g_0, 0 + 0, none⟩)) rfl (r_mv rfl h6) rfl ?_
 refine lv (v := .pointer (some ⟨g3, 0 + 0, none⟩)) rfl (l_fa (j := 0) (i := 0) rfl fl69_0 h7 rfl) rfl ?_
 refine lv (v := .int .i64 a1.Epoch) rfl (r_cl1 (off := 0) (p := 0) (hI.good.ca 2 rfl) rfl sc3 rfl rfl rfl) rfl ?_
 refine lv (v := .pointer (some ⟨g3, 0 + 1, none⟩)) rfl (l_fa (j := 0) (i := 0) rfl fl69_1 h7 rfl) rfl ?_
 refine lv (v := .int .i64 a1.Height) rfl (r_cl1 (off := 1) (p := 1) (hI.good.ca 2 rfl) rfl sc3 rfl rfl rfl) rfl ?_
 refine le rfl (l_bs (t := (Fl.ty flI)) (vs := [.int .i64 a1.Epoch, .int .i64 a1.Height]) (xs := [a1.Epoch, a1.Height]) hI rfl sl59 inf3 rfl rfl (argc rfl (argc rfl rfl)) (.cons rfl rfl (.cons rfl rfl .nil)) rfl) rfl ?_
 rintro _ w10 ⟨s8, H9, rfl, hI, hleH9, hs8, hfs8, hgs8⟩
 obtain ⟨x11, hx11, hF⟩ := Option.bind_eq_some_iff.1 hF
 have hsp14 := spec_124 hx11 (hT.mono hleH9) (hI.part 2) (hs1.mono hleH9) hs8
 refine fc ([.cb g_0 [ckL s1] 175, .own s1 5 1 gg_0_0]) ([.cb g3 [ckI a1.Epoch, ckI a1.Height, ckV flB a1.Prev, ckV flB a1.State, ckV flB a1.Next, ckL s2] 69]) (args := [.pointer (some ⟨g_0, 0 + 0, none⟩), s8.v]) fc124 rfl rfl rfl hI (argc rfl (argc rfl rfl)) (hsp14) ?_
 rintro _ H12 _ w13 ⟨s15, gg16, rfl, hs15, rfl⟩ hleH12 hI
 replace hI : Inv B w13 H12 [.cb g_0 [ckL s15] 175, .own s15 5 1 gg16, .cb g3 _ 69] := hI
 refine wend ?_
 refine wthen ?_
 refine wren (fun ρ17 eρ17 => ?_)
 have h18 : opd ρ17 39 (.tmp 0) = .pointer (some ⟨g_0, 0 + 0, none⟩) := (eρ17 0).trans h6
 have h19 : opd ρ17 39 (.tmp 3) = .pointer (some ⟨g3, 0 + 0, none⟩) := (eρ17 3).trans h7
 clear eρ17
 refine wseq ?_
 refine wreg ?_
 refine lv (v := .pointer (some ⟨g_0, 0 + 0, none⟩)) rfl (r_mv rfl h18) rfl ?_
 refine lv (v := .pointer (some ⟨g3, 0 + 2, none⟩)) rfl (l_fa (j := 0) (i := 0) rfl fl69_2 h19 rfl) rfl ?_
 refine lv (v := .agg (flat [ckV flB a1.Prev]).toArray) rfl (r_cla (off := 2) (p := 2) (m := 1) (hI.good.ca 2 rfl) rfl ag29 rfl rfl rfl) rfl ?_
 refine lv (v := .pointer (some ⟨g3, 0 + 34, none⟩)) rfl (l_fa (j := 0) (i := 0) rfl fl69_3 h19 rfl) rfl ?_
 refine lv (v := .agg (flat [ckV flB a1.State]).toArray) rfl (r_cla (off := 34) (p := 3) (m := 1) (hI.good.ca 2 rfl) rfl ag29 rfl rfl rfl) rfl ?_
 refine lv (v := .pointer (some ⟨g3, 0 + 66, none⟩)) rfl (l_fa (j := 0) (i := 0) rfl fl69_4 h19 rfl) rfl ?_
 refine lv (v := .agg (flat [ckV flB a1.Next]).toArray) rfl (r_cla (off := 66) (p := 4) (m := 1) (hI.good.ca 2 rfl) rfl ag29 rfl rfl rfl) rfl ?_
 refine le rfl (l_bs (t := (Fl.ty (flV flB 32))) (vs := [.agg (flat [ckV flB a1.Prev]).toArray, .agg (flat [ckV flB a1.State]).toArray, .agg (flat [ckV flB a1.Next]).toArray]) (xs := [a1.Prev, a1.State, a1.Next]) hI rfl sl27 inf29 rfl rfl (argc rfl (argc rfl (argc rfl rfl))) (.cons rfl rfl (.cons rfl rfl (.cons rfl rfl .nil))) rfl) rfl ?_
 rintro _ w22 ⟨s20, H21, rfl, hI, hleH21, hs20, hfs20, hgs20⟩
 obtain ⟨x23, hx23, hF⟩ := Option.bind_eq_some_iff.1 hF
 have hsp26 := spec_125 hx23 (((hT.mono hleH9).mono hleH12).mono hleH21) (hI.part 2) (hs15.mono hleH21) hs20
 refine fc ([.cb g_0 [ckL s15] 175, .own s15 5 1 gg16]) ([.cb g3 [ckI a1.Epoch, ckI a1.Height, ckV flB a1.Prev, ckV flB a1.State, ckV flB a1.Next, ckL s2] 69]) (args := [.pointer (some ⟨g_0, 0 + 0, none⟩), s20.v]) fc125 rfl rfl rfl hI (argc rfl (argc rfl rfl)) (hsp26) ?_
 rintro _ H24 _ w25 ⟨s27, gg28, rfl, hs27, rfl⟩ hleH24 hI
 replace hI : Inv B w25 H24 [.cb g_0 [ckL s27] 175, .own s27 5 1 gg28, .cb g3 _ 69] := hI
 refine wend ?_
 refine wthen ?_
 refine wren (fun ρ29 eρ29 => ?_)
 have h30 : opd ρ29 39 (.tmp 0) = .pointer (some ⟨g_0, 0 + 0, none⟩) := (eρ29 0).trans h18
 have h31 : opd ρ29 39 (.tmp 3) = .pointer (some ⟨g3, 0 + 0, none⟩) := (eρ29 3).trans h19
 clear eρ29
 refine wseq ?_
 refine wreg ?_
 refine lv (v := .pointer (some ⟨g_0, 0 + 0, none⟩)) rfl (r_mv rfl h30) rfl ?_
 refine lv (v := .pointer (some ⟨g3, 0 + 98, none⟩)) rfl (l_fa (j := 0) (i := 0) rfl fl69_5 h31 rfl) rfl ?_
 refine lv (v := s2.v) rfl (r_cl1 (off := 98) (p := 5) (hI.good.ca 2 rfl) rfl sc67 rfl rfl rfl) rfl ?_
 refine lv (v := .int .i64 (a1.Requests.length : Int)) rfl (r_lenS rfl sl67 rfl ((((hs2.mono hleH9).mono hleH12).mono hleH21).mono hleH24)) rfl ?_
 refine le rfl (l_bs (t := (Fl.ty flI)) (vs := [.int .i64 (a1.Requests.length : Int)]) (xs := [(a1.Requests.length : Int)]) hI rfl sl59 inf3 rfl rfl (argc rfl rfl) (.cons rfl rfl .nil) rfl) rfl ?_
 rintro _ w34 ⟨s32, H33, rfl, hI, hleH33, hs32, hfs32, hgs32⟩
 obtain ⟨x35, hx35, hF⟩ := Option.bind_eq_some_iff.1 hF
 have hsp38 := spec_124 hx35 (((((hT.mono hleH9).mono hleH12).mono hleH21).mono hleH24).mono hleH33) (hI.part 2) (hs27.mono hleH33) hs32
 refine fc ([.cb g_0 [ckL s27] 175, .own s27 5 1 gg28]) ([.cb g3 [ckI a1.Epoch, ckI a1.Height, ckV flB a1.Prev, ckV flB a1.State, ckV flB a1.Next, ckL s2] 69]) (args := [.pointer (some ⟨g_0, 0 + 0, none⟩), s32.v]) fc124 rfl rfl rfl hI (argc rfl (argc rfl rfl)) (hsp38) ?_
 rintro _ H36 _ w37 ⟨s39, gg40, rfl, hs39, rfl⟩ hleH36 hI
 replace hI : Inv B w37 H36 [.cb g_0 [ckL s39] 175, .own s39 5 1 gg40, .cb g3 _ 69] := hI
 refine wend ?_
 refine wthen ?_
 refine wren (fun ρ41 eρ41 => ?_)
 have h42 : opd ρ41 39 (.tmp 0) = .pointer (some ⟨g_0, 0 + 0, none⟩) := (eρ41 0).trans h30
 have h43 : opd ρ41 39 (.tmp 3) = .pointer (some ⟨g3, 0 + 0, none⟩) := (eρ41 3).trans h31
 clear eρ41
 refine wseq ?_
 refine wreg ?_
 refine lv (v := .pointer (some ⟨g3, 0 + 98, none⟩)) rfl (l_fa (j := 0) (i := 0) rfl fl69_5 h43 rfl) rfl ?_
 refine lv (v := s2.v) rfl (r_cl1 (off := 98) (p := 5) (hI.good.ca 2 rfl) rfl sc67 rfl rfl rfl) rfl ?_
 refine lv (v := .int .i64 (a1.Requests.length : Int)) rfl (r_lenS rfl sl67 rfl ((((((hs2.mono hleH9).mono hleH12).mono hleH21).mono hleH24).mono hleH33).mono hleH36)) rfl ?_
 refine lv (v := .int .i64 0) rfl (r_mv rfl rfl) rfl ?_
 refine wend ?_
 refine wthen ?_
 refine wren (fun ρ44 eρ44 => ?_)
 have h45 : opd ρ44 39 (.tmp 0) = .pointer (some ⟨g_0, 0 + 0, none⟩) := (eρ44 0).trans h42
 have h46 : opd ρ44 39 (.tmp 29) = s2.v := eρ44 29
 have h47 : opd ρ44 39 (.tmp 30) = .int .i64 (a1.Requests.length : Int) := eρ44 30
 have h48 : opd ρ44 39 (.tmp 31) = .int .i64 0 := eρ44 31
 clear eρ44
 refine wp_block ?_
 have hbd49 := (((((((hs2.mono hleH9).mono hleH12).mono hleH21).mono hleH24).mono hleH33).mono hleH36)).bd
 rw [(((((((hs2.mono hleH9).mono hleH12).mono hleH21).mono hleH24).mono hleH33).mono hleH36)).n] at hbd49
 obtain ⟨y49, hy49, hF49⟩ := Option.bind_eq_some_iff.1 hF
 refine wfor (n := 39) a1.Requests.length _ (fun (i49 : Nat) (σ49 : (List UInt8)) ρ' w' => ∃ (H149 : Hp) (s147 : Sv) (gg148 : Option Nat), Hle H36 H149 ∧ opd ρ' 39 (.tmp 0) = .pointer (some ⟨g_0, 0 + 0, none⟩) ∧ opd ρ' 39 (.tmp 29) = s2.v ∧ opd ρ' 39 (.tmp 30) = .int .i64 (a1.Requests.length : Int) ∧ opd ρ' 39 (.tmp 31) = .int .i64 (i49 : Int) ∧ Sl (Fl.ty flB) H149 s147 σ49 ∧ Inv B w' H149 [.cb g_0 [ckL s147] 175, .own s147 5 1 gg148]) hy49 ⟨H36, s39, gg40, (Hle.refl _), h45, h46, h47, h48, hs39, (hI.keep [true, true, false])⟩ ?_
 rintro k49 i49 σ49 ρ154 w155 hk49 ⟨H149, s147, gg148, hleH149, h150, h151, h152, h153, hs147, hI⟩ hy49
 refine wseq ?_
 refine wreg ?_
 refine lv (v := .bool (decide ((i49 : Int) < (a1.Requests.length : Int)))) rfl (r_lss rfl h153 h152 rfl) rfl ?_
 refine wend ?_
 refine wthen ?_
 refine wseq ?_
 by_cases hc156 : (i49 : Int) < (a1.Requests.length : Int)
 ·skip
  have hbhc156 : (decide ((i49 : Int) < (a1.Requests.length : Int))) = true := decide_eq_true hc156
  obtain ⟨k49, rfl⟩ : ∃ m, k49 = m + 1 := ⟨k49 - 1, by omega⟩
  obtain ⟨z49, hb49⟩ := forK_body hy49
  have hF := hb49
  have hlt49 : ((i49 : Nat) : Int) + 1 ≤ 9223372036854775807 := by omega
  refine wcT ((show opd _ _ _ = _ from rfl).trans (congrArg Value.bool hbhc156)) ?_
  refine wp_skip ?_
  refine wthen ?_
  refine wren (fun ρ157 eρ157 => ?_)
  have h158 : opd ρ157 39 (.tmp 0) = .pointer (some ⟨g_0, 0 + 0, none⟩) := (eρ157 0).trans h150
  have h159 : opd ρ157 39 (.tmp 29) = s2.v := (eρ157 29).trans h151
  have h160 : opd ρ157 39 (.tmp 30) = .int .i64 (a1.Requests.length : Int) := (eρ157 30).trans h152
  have h161 : opd ρ157 39 (.tmp 31) = .int .i64 (i49 : Int) := (eρ157 31).trans h153
  clear eρ157
  refine wseq ?_
  refine wp_block ?_
  refine wseq ?_
  refine wreg ?_
  obtain ⟨x162, hx162, hF⟩ := Option.bind_eq_some_iff.1 hF
  obtain ⟨b163, j164, hix165, hil166, hA167⟩ := (((((((hs2.mono hleH9).mono hleH12).mono hleH21).mono hleH24).mono hleH33).mono hleH36).mono hleH149).ixf hx162
  replace hA167 : At H149 b163 j164 [ckI x162.Client, ckI x162.Num, ckI x162.Op.Kind, ckS x162.Op.Key, ckS x162.Op.Val, ckS x162.Op.Old, ckI x162.Op.Change.Kind, ckI x162.Op.Change.Id, ckI x162.Op.Change.New, ckV flB x162.Op.Change.Key.Root, ckI x162.Op.Change.Key.Height] := hA167
  refine lv (v := .pointer (some ⟨b163, j164 + 0, none⟩)) rfl (r_ixt rfl sl67 h159 h161 rfl hix165 hil166) rfl ?_
  refine lv (v := .agg (flat [ckI x162.Client, ckI x162.Num, ckI x162.Op.Kind, ckS x162.Op.Key, ckS x162.Op.Val, ckS x162.Op.Old, ckI x162.Op.Change.Kind, ckI x162.Op.Change.Id, ckI x162.Op.Change.New, ckV flB x162.Op.Change.Key.Root, ckI x162.Op.Change.Key.Height]).toArray) rfl (r_cla (off := 0) (p := 0) (m := 11) (hA167.ca hI.good) rfl ag192 rfl rfl rfl) rfl ?_
  refine le rfl (l_al hI rfl ze192) rfl ?_
  rintro _ w169 ⟨g168, rfl, hI⟩
  replace hI : Inv B w169 H149 [.cb g_0 [ckL s147] 175, .own s147 5 1 gg148, .cb g168 [ckI 0, ckI 0, ckI 0, ckS [], ckS [], ckS [], ckI 0, ckI 0, ckI 0, ckV flB (Vec.rep 32 0), ckI 0] 192] := hI
  refine lst rfl (l_st (off := 0) (p := 0) (m := 11) (new := [ckI x162.Client, ckI x162.Num, ckI x162.Op.Kind, ckS x162.Op.Key, ckS x162.Op.Val, ckS x162.Op.Old, ckI x162.Op.Change.Kind, ckI x162.Op.Change.Id, ckI x162.Op.Change.New, ckV flB x162.Op.Change.Key.Root, ckI x162.Op.Change.Key.Height]) hI 2 rfl rfl sz192 rfl rfl rfl rfl rfl rfl) rfl ?_
  intro w170 hI
  replace hI : Inv B w170 H149 [.cb g_0 [ckL s147] 175, .own s147 5 1 gg148, .cb g168 [ckI x162.Client, ckI x162.Num, ckI x162.Op.Kind, ckS x162.Op.Key, ckS x162.Op.Val, ckS x162.Op.Old, ckI x162.Op.Change.Kind, ckI x162.Op.Change.Id, ckI x162.Op.Change.New, ckV flB x162.Op.Change.Key.Root, ckI x162.Op.Change.Key.Height] 192] := hI
  refine wend ?_
  refine wthen ?_
  refine wren (fun ρ171 eρ171 => ?_)
  have h172 : opd ρ171 39 (.tmp 0) = .pointer (some ⟨g_0, 0 + 0, none⟩) := (eρ171 0).trans h158
  have h173 : opd ρ171 39 (.tmp 5) = .pointer (some ⟨g168, 0 + 0, none⟩) := eρ171 5
  have h174 : opd ρ171 39 (.tmp 29) = s2.v := (eρ171 29).trans h159
  have h175 : opd ρ171 39 (.tmp 30) = .int .i64 (a1.Requests.length : Int) := (eρ171 30).trans h160
  have h176 : opd ρ171 39 (.tmp 31) = .int .i64 (i49 : Int) := (eρ171 31).trans h161
  clear eρ171
  refine wreg ?_
  refine lv (v := .pointer (some ⟨g_0, 0 + 0, none⟩)) rfl (r_mv rfl h172) rfl ?_
  refine lv (v := .agg (flat [ckI x162.Client, ckI x162.Num, ckI x162.Op.Kind, ckS x162.Op.Key, ckS x162.Op.Val, ckS x162.Op.Old, ckI x162.Op.Change.Kind, ckI x162.Op.Change.Id, ckI x162.Op.Change.New, ckV flB x162.Op.Change.Key.Root, ckI x162.Op.Change.Key.Height]).toArray) rfl (r_cla (off := 0) (p := 0) (m := 11) (hI.good.ca 2 rfl) rfl ag192 h173 rfl rfl) rfl ?_
  obtain ⟨x177, hx177, hF⟩ := Option.bind_eq_some_iff.1 hF
  have hsp180 := spec_159 hx177 (((((((hT.mono hleH9).mono hleH12).mono hleH21).mono hleH24).mono hleH33).mono hleH36).mono hleH149) (hI.part 2) hs147
  refine fc ([.cb g_0 [ckL s147] 175, .own s147 5 1 gg148]) ([.cb g168 [ckI x162.Client, ckI x162.Num, ckI x162.Op.Kind, ckS x162.Op.Key, ckS x162.Op.Val, ckS x162.Op.Old, ckI x162.Op.Change.Kind, ckI x162.Op.Change.Id, ckI x162.Op.Change.New, ckV flB x162.Op.Change.Key.Root, ckI x162.Op.Change.Key.Height] 192]) (args := [.pointer (some ⟨g_0, 0 + 0, none⟩), .agg (flat [ckI x162.Client, ckI x162.Num, ckI x162.Op.Kind, ckS x162.Op.Key, ckS x162.Op.Val, ckS x162.Op.Old, ckI x162.Op.Change.Kind, ckI x162.Op.Change.Id, ckI x162.Op.Change.New, ckV flB x162.Op.Change.Key.Root, ckI x162.Op.Change.Key.Height]).toArray]) fc159 rfl rfl rfl hI (argc rfl (argc rfl rfl)) (hsp180) ?_
  rintro _ H178 _ w179 ⟨s181, gg182, rfl, hs181, rfl⟩ hleH178 hI
  replace hI : Inv B w179 H178 [.cb g_0 [ckL s181] 175, .own s181 5 1 gg182, .cb g168 _ 192] := hI
  refine wend ?_
  refine inN ?_
  refine wthen ?_
  refine wren (fun ρ183 eρ183 => ?_)
  have h184 : opd ρ183 39 (.tmp 0) = .pointer (some ⟨g_0, 0 + 0, none⟩) := (eρ183 0).trans h172
  have h185 : opd ρ183 39 (.tmp 29) = s2.v := (eρ183 29).trans h174
  have h186 : opd ρ183 39 (.tmp 30) = .int .i64 (a1.Requests.length : Int) := (eρ183 30).trans h175
  have h187 : opd ρ183 39 (.tmp 31) = .int .i64 (i49 : Int) := (eρ183 31).trans h176
  clear eρ183
  refine wreg ?_
  refine lv (v := .int .i64 ((i49 + 1 : Nat) : Int)) rfl (r_addn rfl h187 rfl hlt49) rfl ?_
  refine lv (v := .int .i64 ((i49 + 1 : Nat) : Int)) rfl (r_mv rfl rfl) rfl ?_
  refine wend ?_
  obtain rfl := Option.some.inj hF
  exact ⟨k49, x177.b_, _, rfl, rfl, ⟨H178, s181, gg182, (hleH149.trans hleH178), h184, h185, h186, rfl, hs181, (hI.keep [true, true, false])⟩, forK_inl hy49 hb49⟩
 ·skip
  have hbhc156 : (decide ((i49 : Int) < (a1.Requests.length : Int))) = false := decide_eq_false hc156
  obtain rfl : k49 = 0 := by omega
  obtain rfl := forK_end hy49
  have hF := hF49
  try dsimp only at hF
  refine wcF ((show opd _ _ _ = _ from rfl).trans (congrArg Value.bool hbhc156)) ?_
  refine wp_exit ?_
  refine thE ?_
  refine thE ?_
  refine inX ?_
  obtain rfl := Option.some.inj hF
  subst hB
  refine finN (rs := []) (vs := []) rfl trivial ?_
  exact hI.fin 2 ⟨s147, gg148, rfl, hs147, rfl⟩
end Go.Proofs.YtdebnncpclodcaaDoor.X
