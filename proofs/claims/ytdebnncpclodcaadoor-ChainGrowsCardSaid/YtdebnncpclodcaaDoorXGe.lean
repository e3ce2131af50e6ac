/-
  Functions of the program: what each computes, and its walk. No condition beyond those that the lemmas name.
-/
import Derived.Test.YtdebnncpclodcaaDoorXPT
import Derived.Test.YtdebnncpclodcaaDoorXGc
import Derived.Test.YtdebnncpclodcaaDoorXGd
import Derived.Test.YtdebnncpclodcaaDoorXStepJ
set_option linter.unusedSimpArgs false
set_option linter.unusedVariables false
set_option maxRecDepth 10000
namespace Go.Proofs.YtdebnncpclodcaaDoor.X
open Go.RowKit Go.Proofs.YtdebnncpclodcaaDoorW.PrintLast
noncomputable def M_wapentakelaw15_ChainGrows (a0 : Config) (a1 : List Link) (a2 : Link) : Option (Bool) := ((M_wapentakelaw15_alive).bind fun x14 => (if x14 = true then ((M_wapentakelaw15_great a0 a1).bind fun x24 => (if x24 = true then some true else ((M_wapentakelaw15_great a0 [a2]).bind fun x39 => (if x39 = true then some true else (if (5 : Int) < (a1.length : Int) then some true else ((M_chain_Check a0 a1).bind fun x59 => (if x59.2.2 ≠ 0 then some true else (if (0 : Int) < x59.2.1 then ((ixI a1 (wI (x59.2.1 - 1))).bind fun x100 => ((((appI 200 ([] : List Link) a1).bind fun x137 => ((appI 200 x137 [a2]).bind fun x145 => ((M_chain_Check a0 x145).bind fun x150 => some (x150.2.1, x150.2.2, x150.1.Epoch, x150.1.Members))))).bind fun (x118 : Int × Int × Int × (List Member)) => ((M_chain_Step x59.1 x100.Block.Height a2).bind fun x454 => (if x118.2.1 = x454 then (if x454 ≠ 0 then (if x118.1 = x59.2.1 then some true else (if x454 = 0 then (if x118.1 = (wI (x59.2.1 + 1)) then ((M_wapentakeref08_Same (⟨x118.2.2.1, x118.2.2.2⟩ : Config) a2.Config).bind fun x472 => some x472) else some false) else some false)) else (if x454 = 0 then (if x118.1 = (wI (x59.2.1 + 1)) then ((M_wapentakeref08_Same (⟨x118.2.2.1, x118.2.2.2⟩ : Config) a2.Config).bind fun x484 => some x484) else some false) else some false)) else some false)))) else ((((appI 200 ([] : List Link) a1).bind fun x517 => ((appI 200 x517 [a2]).bind fun x525 => ((M_chain_Check a0 x525).bind fun x530 => some (x530.2.1, x530.2.2, x530.1.Epoch, x530.1.Members))))).bind fun (x498 : Int × Int × Int × (List Member)) => ((M_chain_Step x59.1 0 a2).bind fun x834 => (if x498.2.1 = x834 then (if x834 ≠ 0 then (if x498.1 = x59.2.1 then some true else (if x834 = 0 then (if x498.1 = (wI (x59.2.1 + 1)) then ((M_wapentakeref08_Same (⟨x498.2.2.1, x498.2.2.2⟩ : Config) a2.Config).bind fun x852 => some x852) else some false) else some false)) else (if x834 = 0 then (if x498.1 = (wI (x59.2.1 + 1)) then ((M_wapentakeref08_Same (⟨x498.2.2.1, x498.2.2.2⟩ : Config) a2.Config).bind fun x864 => some x864) else some false) else some false)) else some false))))))))))) else some false))
set_option maxHeartbeats 4000000 in
theorem spec_7 {w : World} {H : Hp} {a0 : Config} {a1 : List Link} {a2 : Link} {s1 : Sv} {s2 : Sv} {s3 : Sv} {s4 : Sv} {s5 : Sv} {r : Bool} (hF : M_wapentakelaw15_ChainGrows a0 a1 a2 = some r) (hT : Tab H) (hG : Good w H []) (hs1 : Sl (Fl.ty fl_Member) H s1 a0.Members) (hs2 : Sl ty_Link H s2 a1) (hs3 : Sl (Fl.ty fl_Request) H s3 a2.Block.Requests) (hs4 : Sl ty_Vote H s4 a2.Cert.Votes) (hs5 : Sl (Fl.ty fl_Member) H s5 a2.Config.Members) :
  Fine Tryd.prog 7 [.agg (flat [ckI a0.Epoch, ckL s1]).toArray, s2.v, .agg (flat [ckI a2.Block.Epoch, ckI a2.Block.Height, ckV flB a2.Block.Prev, ckV flB a2.Block.State, ckV flB a2.Block.Next, ckL s3, ckI a2.Cert.Round, ckL s4, ckI a2.Config.Epoch, ckL s5]).toArray] w H [] (fun H' v L' => v = .bool r ∧ L' = []) := by
 unfold M_wapentakelaw15_ChainGrows at hF
 unfold Fine
 obtain ⟨B, hB⟩ : ∃ B : Base, B = ⟨w, H, blks []⟩ := ⟨_, rfl⟩
 have hI : Inv B w H [] := by rw [hB]; exact Inv.start hG
 refine enter (n := 93) (args := [.agg (flat [ckI a0.Epoch, ckL s1]).toArray, s2.v, .agg (flat [ckI a2.Block.Epoch, ckI a2.Block.Height, ckV flB a2.Block.Prev, ckV flB a2.Block.State, ckV flB a2.Block.Next, ckL s3, ckI a2.Cert.Round, ckL s4, ckI a2.Config.Epoch, ckL s5]).toArray]) Tryd.func7 rfl Tryd.ntmps7 (Nat.le_of_ble_eq_true rfl) ?_
 refine wseq ?_
 refine wreg ?_
 refine le rfl (l_box (cks := [ckI a0.Epoch, ckL s1]) hI rfl rfl rfl) rfl ?_
 rintro _ w7 ⟨g6, rfl, hI⟩
 replace hI : Inv B w7 H [.cb g6 [ckI a0.Epoch, ckL s1] 64] := hI
 refine le rfl (l_box (cks := [ckI a2.Block.Epoch, ckI a2.Block.Height, ckV flB a2.Block.Prev, ckV flB a2.Block.State, ckV flB a2.Block.Next, ckL s3, ckI a2.Cert.Round, ckL s4, ckI a2.Config.Epoch, ckL s5]) hI rfl rfl rfl) rfl ?_
 rintro _ w9 ⟨g8, rfl, hI⟩
 replace hI : Inv B w9 H [.cb g6 _ 64, .cb g8 [ckI a2.Block.Epoch, ckI a2.Block.Height, ckV flB a2.Block.Prev, ckV flB a2.Block.State, ckV flB a2.Block.Next, ckL s3, ckI a2.Cert.Round, ckL s4, ckI a2.Config.Epoch, ckL s5] 73] := hI
 refine lv (v := .bool false) rfl (r_as rfl rfl) rfl ?_
 refine wend ?_
 refine wthen ?_
 refine wren (fun ρ10 eρ10 => ?_)
 have h11 : opd ρ10 93 (.tmp 1) = s2.v := eρ10 1
 have h12 : opd ρ10 93 (.tmp 3) = .pointer (some ⟨g6, 0 + 0, none⟩) := eρ10 3
 have h13 : opd ρ10 93 (.tmp 5) = .pointer (some ⟨g8, 0 + 0, none⟩) := eρ10 5
 clear eρ10
 refine wseq ?_
 refine wseq ?_
 refine wreg ?_
 obtain ⟨x14, hx14, hF⟩ := Option.bind_eq_some_iff.1 hF
 have hsp17 := spec_29 hx14 hT (hI.part 0) 
 refine fc ([]) ([.cb g6 [ckI a0.Epoch, ckL s1] 64, .cb g8 [ckI a2.Block.Epoch, ckI a2.Block.Height, ckV flB a2.Block.Prev, ckV flB a2.Block.State, ckV flB a2.Block.Next, ckL s3, ckI a2.Cert.Round, ckL s4, ckI a2.Config.Epoch, ckL s5] 73]) (args := []) fc29 rfl rfl rfl hI rfl (hsp17) ?_
 rintro _ H15 _ w16 ⟨rfl, rfl⟩ hleH15 hI
 replace hI : Inv B w16 H15 [.cb g6 _ 64, .cb g8 _ 73] := hI
 refine lv (v := .bool (!x14)) rfl (r_not rfl rfl) rfl ?_
 refine wend ?_
 refine wthen ?_
 refine wren (fun ρ18 eρ18 => ?_)
 have h19 : opd ρ18 93 (.tmp 1) = s2.v := (eρ18 1).trans h11
 have h20 : opd ρ18 93 (.tmp 3) = .pointer (some ⟨g6, 0 + 0, none⟩) := (eρ18 3).trans h12
 have h21 : opd ρ18 93 (.tmp 5) = .pointer (some ⟨g8, 0 + 0, none⟩) := (eρ18 5).trans h13
 have h22 : opd ρ18 93 (.tmp 16) = .bool (!x14) := eρ18 16
 clear eρ18
 by_cases hc23 : x14 = true
 ·skip
  rw [if_pos hc23] at hF
  have hbhc23 : (!x14) = false := (by rw [hc23]; rfl)
  refine wcF (h22.trans (congrArg Value.bool hbhc23)) ?_
  refine wp_skip ?_
  refine wthen ?_
  refine wseq ?_
  refine wseq ?_
  refine wreg ?_
  refine lv (v := .agg (flat [ckI a0.Epoch, ckL s1]).toArray) rfl (r_cla (off := 0) (p := 0) (m := 2) (hI.good.ca 0 rfl) rfl ag64 h20 rfl rfl) rfl ?_
  refine lv (v := s2.v) rfl (r_mv rfl h19) rfl ?_
  obtain ⟨x24, hx24, hF⟩ := Option.bind_eq_some_iff.1 hF
  have hsp27 := spec_30 hx24 (hT.mono hleH15) (hI.part 0) (hs1.mono hleH15) (hs2.mono hleH15)
  refine fc ([]) ([.cb g6 [ckI a0.Epoch, ckL s1] 64, .cb g8 [ckI a2.Block.Epoch, ckI a2.Block.Height, ckV flB a2.Block.Prev, ckV flB a2.Block.State, ckV flB a2.Block.Next, ckL s3, ckI a2.Cert.Round, ckL s4, ckI a2.Config.Epoch, ckL s5] 73]) (args := [.agg (flat [ckI a0.Epoch, ckL s1]).toArray, s2.v]) fc30 rfl rfl rfl hI (argc rfl (argc rfl rfl)) (hsp27) ?_
  rintro _ H25 _ w26 ⟨rfl, rfl⟩ hleH25 hI
  replace hI : Inv B w26 H25 [.cb g6 _ 64, .cb g8 _ 73] := hI
  by_cases hc28 : x24 = true
  ·skip
   rw [if_pos hc28] at hF
   have hbhc28 : x24 = true := hc28
   refine lv (v := .bool true) rfl (r_mv rfl ((show opd _ _ _ = _ from rfl).trans (congrArg Value.bool hbhc28))) rfl ?_
   with_reducible refine lx (d := 21) (by kernel_rfl) (by kernel_rfl) ?_
   with_reducible refine lx (d := 22) (by kernel_rfl) (by kernel_rfl) ?_
   with_reducible refine lx (d := 23) (by kernel_rfl) (by kernel_rfl) ?_
   with_reducible refine lx (d := 24) (by kernel_rfl) (by kernel_rfl) ?_
   refine lv (v := .bool true) rfl (r_pkT rfl rfl rfl) rfl ?_
   refine lv (v := .bool true) rfl (r_mv rfl rfl) rfl ?_
   with_reducible refine lx (d := 27) (by kernel_rfl) (by kernel_rfl) ?_
   with_reducible refine lx (d := 28) (by kernel_rfl) (by kernel_rfl) ?_
   with_reducible refine lx (d := 29) (by kernel_rfl) (by kernel_rfl) ?_
   refine lv (v := .bool true) rfl (r_pkT rfl rfl rfl) rfl ?_
   refine wend ?_
   refine wthen ?_
   refine wren (fun ρ29 eρ29 => ?_)
   have h30 : opd ρ29 93 (.tmp 1) = s2.v := (eρ29 1).trans h19
   have h31 : opd ρ29 93 (.tmp 3) = .pointer (some ⟨g6, 0 + 0, none⟩) := (eρ29 3).trans h20
   have h32 : opd ρ29 93 (.tmp 5) = .pointer (some ⟨g8, 0 + 0, none⟩) := (eρ29 5).trans h21
   have h33 : opd ρ29 93 (.tmp 30) = .bool true := eρ29 30
   clear eρ29
   refine wcT h33 ?_
   refine wseq ?_
   refine wreg ?_
   refine lv (v := .bool true) rfl (r_as rfl rfl) rfl ?_
   refine wend ?_
   refine wthen ?_
   refine wren (fun ρ34 eρ34 => ?_)
   have h35 : opd ρ34 93 (.tmp 6) = .bool true := eρ34 6
   clear eρ34
   refine wp_ret ?_
   refine thR ?_
   obtain rfl := Option.some.inj hF
   subst hB
   refine finR (rs := [.tmp 6]) (vs := [.bool true]) rfl ⟨h35, trivial⟩ ?_
   exact hI.fin 0 ⟨rfl, rfl⟩
  ·skip
   rw [if_neg hc28] at hF
   have hbhc28 : x24 = false := (Bool.eq_false_iff.2 hc28)
   refine lv (v := .bool false) rfl (r_mv rfl ((show opd _ _ _ = _ from rfl).trans (congrArg Value.bool hbhc28))) rfl ?_
   refine lv (v := .agg (flat [ckI a0.Epoch, ckL s1]).toArray) rfl (r_cla (off := 0) (p := 0) (m := 2) (hI.good.ca 0 rfl) rfl ag64 h20 rfl rfl) rfl ?_
   refine lv (v := .agg (flat [ckI a2.Block.Epoch, ckI a2.Block.Height, ckV flB a2.Block.Prev, ckV flB a2.Block.State, ckV flB a2.Block.Next, ckL s3, ckI a2.Cert.Round, ckL s4, ckI a2.Config.Epoch, ckL s5]).toArray) rfl (r_cla (off := 0) (p := 0) (m := 10) (hI.good.ca 1 rfl) rfl ag73 h21 rfl rfl) rfl ?_
   refine le rfl (l_bs (t := ty_Link) (vs := [.agg (flat [ckI a2.Block.Epoch, ckI a2.Block.Height, ckV flB a2.Block.Prev, ckV flB a2.Block.State, ckV flB a2.Block.Next, ckL s3, ckI a2.Cert.Round, ckL s4, ckI a2.Config.Epoch, ckL s5]).toArray]) (xs := [a2]) hI rfl sl65 inf73 rfl rfl (argc rfl rfl) (.cons rfl ⟨s3, s4, s5, rfl, ((hs3.mono hleH15).mono hleH25), ((hs4.mono hleH15).mono hleH25), ((hs5.mono hleH15).mono hleH25)⟩ .nil) rfl) rfl ?_
   rintro _ w38 ⟨s36, H37, rfl, hI, hleH37, hs36, hfs36, hgs36⟩
   obtain ⟨x39, hx39, hF⟩ := Option.bind_eq_some_iff.1 hF
   have hsp42 := spec_30 hx39 (((hT.mono hleH15).mono hleH25).mono hleH37) (hI.part 0) (((hs1.mono hleH15).mono hleH25).mono hleH37) hs36
   refine fc ([]) ([.cb g6 [ckI a0.Epoch, ckL s1] 64, .cb g8 [ckI a2.Block.Epoch, ckI a2.Block.Height, ckV flB a2.Block.Prev, ckV flB a2.Block.State, ckV flB a2.Block.Next, ckL s3, ckI a2.Cert.Round, ckL s4, ckI a2.Config.Epoch, ckL s5] 73]) (args := [.agg (flat [ckI a0.Epoch, ckL s1]).toArray, s36.v]) fc30 rfl rfl rfl hI (argc rfl (argc rfl rfl)) (hsp42) ?_
   rintro _ H40 _ w41 ⟨rfl, rfl⟩ hleH40 hI
   replace hI : Inv B w41 H40 [.cb g6 _ 64, .cb g8 _ 73] := hI
   refine lv (v := .bool x39) rfl (r_pkF rfl rfl rfl) rfl ?_
   by_cases hc43 : x39 = true
   ·skip
    rw [if_pos hc43] at hF
    have hbhc43 : x39 = true := hc43
    refine lv (v := .bool true) rfl (r_mv rfl ((show opd _ _ _ = _ from rfl).trans (congrArg Value.bool hbhc43))) rfl ?_
    with_reducible refine lx (d := 27) (by kernel_rfl) (by kernel_rfl) ?_
    with_reducible refine lx (d := 28) (by kernel_rfl) (by kernel_rfl) ?_
    with_reducible refine lx (d := 29) (by kernel_rfl) (by kernel_rfl) ?_
    refine lv (v := .bool true) rfl (r_pkT rfl rfl rfl) rfl ?_
    refine wend ?_
    refine wthen ?_
    refine wren (fun ρ44 eρ44 => ?_)
    have h45 : opd ρ44 93 (.tmp 1) = s2.v := (eρ44 1).trans h19
    have h46 : opd ρ44 93 (.tmp 3) = .pointer (some ⟨g6, 0 + 0, none⟩) := (eρ44 3).trans h20
    have h47 : opd ρ44 93 (.tmp 5) = .pointer (some ⟨g8, 0 + 0, none⟩) := (eρ44 5).trans h21
    have h48 : opd ρ44 93 (.tmp 30) = .bool true := eρ44 30
    clear eρ44
    refine wcT h48 ?_
    refine wseq ?_
    refine wreg ?_
    refine lv (v := .bool true) rfl (r_as rfl rfl) rfl ?_
    refine wend ?_
    refine wthen ?_
    refine wren (fun ρ49 eρ49 => ?_)
    have h50 : opd ρ49 93 (.tmp 6) = .bool true := eρ49 6
    clear eρ49
    refine wp_ret ?_
    refine thR ?_
    obtain rfl := Option.some.inj hF
    subst hB
    refine finR (rs := [.tmp 6]) (vs := [.bool true]) rfl ⟨h50, trivial⟩ ?_
    exact hI.fin 0 ⟨rfl, rfl⟩
   ·skip
    rw [if_neg hc43] at hF
    have hbhc43 : x39 = false := (Bool.eq_false_iff.2 hc43)
    refine lv (v := .bool false) rfl (r_mv rfl ((show opd _ _ _ = _ from rfl).trans (congrArg Value.bool hbhc43))) rfl ?_
    refine lv (v := s2.v) rfl (r_mv rfl h19) rfl ?_
    refine lv (v := .int .i64 (a1.length : Int)) rfl (r_lenS rfl sl65 rfl ((((hs2.mono hleH15).mono hleH25).mono hleH37).mono hleH40)) rfl ?_
    refine lv (v := .bool (decide ((5 : Int) < (a1.length : Int)))) rfl (r_gtr rfl rfl rfl rfl) rfl ?_
    refine lv (v := .bool (decide ((5 : Int) < (a1.length : Int)))) rfl (r_pkF rfl rfl rfl) rfl ?_
    refine wend ?_
    refine wthen ?_
    refine wren (fun ρ51 eρ51 => ?_)
    have h52 : opd ρ51 93 (.tmp 1) = s2.v := (eρ51 1).trans h19
    have h53 : opd ρ51 93 (.tmp 3) = .pointer (some ⟨g6, 0 + 0, none⟩) := (eρ51 3).trans h20
    have h54 : opd ρ51 93 (.tmp 5) = .pointer (some ⟨g8, 0 + 0, none⟩) := (eρ51 5).trans h21
    have h55 : opd ρ51 93 (.tmp 30) = .bool (decide ((5 : Int) < (a1.length : Int))) := eρ51 30
    clear eρ51
    by_cases hc56 : (5 : Int) < (a1.length : Int)
    ·skip
     rw [if_pos hc56] at hF
     have hbhc56 : (decide ((5 : Int) < (a1.length : Int))) = true := decide_eq_true hc56
     refine wcT (h55.trans (congrArg Value.bool hbhc56)) ?_
     refine wseq ?_
     refine wreg ?_
     refine lv (v := .bool true) rfl (r_as rfl rfl) rfl ?_
     refine wend ?_
     refine wthen ?_
     refine wren (fun ρ57 eρ57 => ?_)
     have h58 : opd ρ57 93 (.tmp 6) = .bool true := eρ57 6
     clear eρ57
     refine wp_ret ?_
     refine thR ?_
     obtain rfl := Option.some.inj hF
     subst hB
     refine finR (rs := [.tmp 6]) (vs := [.bool true]) rfl ⟨h58, trivial⟩ ?_
     exact hI.fin 0 ⟨rfl, rfl⟩
    ·skip
     rw [if_neg hc56] at hF
     have hbhc56 : (decide ((5 : Int) < (a1.length : Int))) = false := decide_eq_false hc56
     refine wcF (h55.trans (congrArg Value.bool hbhc56)) ?_
     refine wp_skip ?_
     refine wthen ?_
     refine wseq ?_
     refine wreg ?_
     refine lv (v := .agg (flat [ckI a0.Epoch, ckL s1]).toArray) rfl (r_cla (off := 0) (p := 0) (m := 2) (hI.good.ca 0 rfl) rfl ag64 h53 rfl rfl) rfl ?_
     refine lv (v := s2.v) rfl (r_mv rfl h52) rfl ?_
     obtain ⟨x59, hx59, hF⟩ := Option.bind_eq_some_iff.1 hF
     have hsp62 := spec_33 hx59 ((((hT.mono hleH15).mono hleH25).mono hleH37).mono hleH40) (hI.part 0) ((((hs1.mono hleH15).mono hleH25).mono hleH37).mono hleH40) ((((hs2.mono hleH15).mono hleH25).mono hleH37).mono hleH40)
     refine fc ([]) ([.cb g6 [ckI a0.Epoch, ckL s1] 64, .cb g8 [ckI a2.Block.Epoch, ckI a2.Block.Height, ckV flB a2.Block.Prev, ckV flB a2.Block.State, ckV flB a2.Block.Next, ckL s3, ckI a2.Cert.Round, ckL s4, ckI a2.Config.Epoch, ckL s5] 73]) (args := [.agg (flat [ckI a0.Epoch, ckL s1]).toArray, s2.v]) fc33 rfl rfl rfl hI (argc rfl (argc rfl rfl)) (hsp62) ?_
     rintro _ H60 _ w61 ⟨s63, rfl, hs63, rfl⟩ hleH60 hI
     replace hI : Inv B w61 H60 [.cb g6 _ 64, .cb g8 _ 73] := hI
     refine lv (v := .tuple #[.agg (flat [ckI x59.1.Epoch, ckL s63]).toArray, .int .i64 x59.2.1, .int .i64 x59.2.2]) rfl (r_mv rfl rfl) rfl ?_
     refine lv (v := .agg (flat [ckI x59.1.Epoch, ckL s63]).toArray) rfl (r_ext rfl rfl rfl) rfl ?_
     refine lv (v := .int .i64 x59.2.1) rfl (r_ext rfl rfl rfl) rfl ?_
     refine lv (v := .int .i64 x59.2.2) rfl (r_ext rfl rfl rfl) rfl ?_
     refine le rfl (l_al hI rfl ze64) rfl ?_
     rintro _ w65 ⟨g64, rfl, hI⟩
     replace hI : Inv B w65 H60 [.cb g6 _ 64, .cb g8 _ 73, .cb g64 [ckI 0, ckL Sv.nil] 64] := hI
     refine lst rfl (l_st (off := 0) (p := 0) (m := 2) (new := [ckI x59.1.Epoch, ckL s63]) hI 2 rfl rfl sz64 rfl rfl rfl rfl rfl rfl) rfl ?_
     intro w66 hI
     replace hI : Inv B w66 H60 [.cb g6 _ 64, .cb g8 _ 73, .cb g64 [ckI x59.1.Epoch, ckL s63] 64] := hI
     refine lv (v := .int .i64 x59.2.1) rfl (r_as rfl rfl) rfl ?_
     refine lv (v := .int .i64 x59.2.2) rfl (r_as rfl rfl) rfl ?_
     refine wend ?_
     refine wthen ?_
     refine wren (fun ρ67 eρ67 => ?_)
     have h68 : opd ρ67 93 (.tmp 1) = s2.v := (eρ67 1).trans h52
     have h69 : opd ρ67 93 (.tmp 3) = .pointer (some ⟨g6, 0 + 0, none⟩) := (eρ67 3).trans h53
     have h70 : opd ρ67 93 (.tmp 5) = .pointer (some ⟨g8, 0 + 0, none⟩) := (eρ67 5).trans h54
     have h71 : opd ρ67 93 (.tmp 7) = .pointer (some ⟨g64, 0 + 0, none⟩) := eρ67 7
     have h72 : opd ρ67 93 (.tmp 8) = .int .i64 x59.2.1 := eρ67 8
     have h73 : opd ρ67 93 (.tmp 9) = .int .i64 x59.2.2 := eρ67 9
     clear eρ67
     refine wseq ?_
     refine wseq ?_
     refine wreg ?_
     refine lv (v := .int .i64 x59.2.2) rfl (r_mv rfl h73) rfl ?_
     refine lv (v := .bool (decide (x59.2.2 ≠ 0))) rfl (r_neq rfl rfl rfl rfl) rfl ?_
     refine wend ?_
     refine wthen ?_
     refine wren (fun ρ74 eρ74 => ?_)
     have h75 : opd ρ74 93 (.tmp 1) = s2.v := (eρ74 1).trans h68
     have h76 : opd ρ74 93 (.tmp 3) = .pointer (some ⟨g6, 0 + 0, none⟩) := (eρ74 3).trans h69
     have h77 : opd ρ74 93 (.tmp 5) = .pointer (some ⟨g8, 0 + 0, none⟩) := (eρ74 5).trans h70
     have h78 : opd ρ74 93 (.tmp 7) = .pointer (some ⟨g64, 0 + 0, none⟩) := (eρ74 7).trans h71
     have h79 : opd ρ74 93 (.tmp 8) = .int .i64 x59.2.1 := (eρ74 8).trans h72
     have h80 : opd ρ74 93 (.tmp 39) = .bool (decide (x59.2.2 ≠ 0)) := eρ74 39
     clear eρ74
     by_cases hc81 : x59.2.2 ≠ 0
     ·skip
      rw [if_pos hc81] at hF
      have hbhc81 : (decide (x59.2.2 ≠ 0)) = true := decide_eq_true hc81
      refine wcT (h80.trans (congrArg Value.bool hbhc81)) ?_
      refine wseq ?_
      refine wreg ?_
      refine lv (v := .bool true) rfl (r_as rfl rfl) rfl ?_
      refine wend ?_
      refine wthen ?_
      refine wren (fun ρ82 eρ82 => ?_)
      have h83 : opd ρ82 93 (.tmp 6) = .bool true := eρ82 6
      clear eρ82
      refine wp_ret ?_
      refine thR ?_
      obtain rfl := Option.some.inj hF
      subst hB
      refine finR (rs := [.tmp 6]) (vs := [.bool true]) rfl ⟨h83, trivial⟩ ?_
      exact hI.fin 0 ⟨rfl, rfl⟩
     ·skip
      rw [if_neg hc81] at hF
      have hbhc81 : (decide (x59.2.2 ≠ 0)) = false := decide_eq_false hc81
      refine wcF (h80.trans (congrArg Value.bool hbhc81)) ?_
      refine wp_skip ?_
      refine wthen ?_
      refine wseq ?_
      refine wreg ?_
      refine lv (v := .int .i64 0) rfl (r_as rfl rfl) rfl ?_
      refine wend ?_
      refine wthen ?_
      refine wren (fun ρ84 eρ84 => ?_)
      have h85 : opd ρ84 93 (.tmp 1) = s2.v := (eρ84 1).trans h75
      have h86 : opd ρ84 93 (.tmp 3) = .pointer (some ⟨g6, 0 + 0, none⟩) := (eρ84 3).trans h76
      have h87 : opd ρ84 93 (.tmp 5) = .pointer (some ⟨g8, 0 + 0, none⟩) := (eρ84 5).trans h77
      have h88 : opd ρ84 93 (.tmp 7) = .pointer (some ⟨g64, 0 + 0, none⟩) := (eρ84 7).trans h78
      have h89 : opd ρ84 93 (.tmp 8) = .int .i64 x59.2.1 := (eρ84 8).trans h79
      have h90 : opd ρ84 93 (.tmp 10) = .int .i64 0 := eρ84 10
      clear eρ84
      refine wseq ?_
      refine wseq ?_
      refine wreg ?_
      refine lv (v := .int .i64 x59.2.1) rfl (r_mv rfl h89) rfl ?_
      refine lv (v := .bool (decide ((0 : Int) < x59.2.1))) rfl (r_gtr rfl rfl rfl rfl) rfl ?_
      refine wend ?_
      refine wthen ?_
      refine wren (fun ρ91 eρ91 => ?_)
      have h92 : opd ρ91 93 (.tmp 1) = s2.v := (eρ91 1).trans h85
      have h93 : opd ρ91 93 (.tmp 3) = .pointer (some ⟨g6, 0 + 0, none⟩) := (eρ91 3).trans h86
      have h94 : opd ρ91 93 (.tmp 5) = .pointer (some ⟨g8, 0 + 0, none⟩) := (eρ91 5).trans h87
      have h95 : opd ρ91 93 (.tmp 7) = .pointer (some ⟨g64, 0 + 0, none⟩) := (eρ91 7).trans h88
      have h96 : opd ρ91 93 (.tmp 8) = .int .i64 x59.2.1 := (eρ91 8).trans h89
      have h97 : opd ρ91 93 (.tmp 10) = .int .i64 0 := (eρ91 10).trans h90
      have h98 : opd ρ91 93 (.tmp 41) = .bool (decide ((0 : Int) < x59.2.1)) := eρ91 41
      clear eρ91
      by_cases hc99 : (0 : Int) < x59.2.1
      ·skip
       rw [if_pos hc99] at hF
       have hbhc99 : (decide ((0 : Int) < x59.2.1)) = true := decide_eq_true hc99
       refine wcT (h98.trans (congrArg Value.bool hbhc99)) ?_
       refine wreg ?_
       refine lv (v := s2.v) rfl (r_mv rfl h92) rfl ?_
       refine lv (v := .int .i64 x59.2.1) rfl (r_mv rfl h96) rfl ?_
       refine lv (v := .int .i64 (wI (x59.2.1 - 1))) rfl (r_subw rfl rfl rfl) rfl ?_
       obtain ⟨x100, hx100, hF⟩ := Option.bind_eq_some_iff.1 hF
       obtain ⟨b101, j102, _, hix103, hil104, ⟨s106, s107, s108, rfl, hs106, hs107, hs108⟩, hA105⟩ := (((((hs2.mono hleH15).mono hleH25).mono hleH37).mono hleH40).mono hleH60).ix (ixI_some hx100).1
       replace hA105 : At H60 b101 j102 [ckI x100.Block.Epoch, ckI x100.Block.Height, ckV flB x100.Block.Prev, ckV flB x100.Block.State, ckV flB x100.Block.Next, ckL s106, ckI x100.Cert.Round, ckL s107, ckI x100.Config.Epoch, ckL s108] := hA105
       refine lv (v := .pointer (some ⟨b101, j102 + 0, none⟩)) rfl (r_ixt rfl sl65 rfl rfl (ixI_some hx100).2 hix103 hil104) rfl ?_
       refine lv (v := .pointer (some ⟨b101, j102 + 0, none⟩)) rfl (l_fa (j := j102) (i := 0) rfl fl73_0 rfl rfl) rfl ?_
       refine lv (v := .pointer (some ⟨b101, j102 + 1, none⟩)) rfl (l_fa (j := j102) (i := 0) rfl fl69_1 rfl rfl) rfl ?_
       refine lv (v := .int .i64 x100.Block.Height) rfl (r_cl1 (off := 1) (p := 1) (hA105.ca hI.good) rfl sc3 rfl rfl rfl) rfl ?_
       refine lv (v := .int .i64 x100.Block.Height) rfl (r_as rfl rfl) rfl ?_
       refine wend ?_
       refine wthen ?_
       refine wren (fun ρ109 eρ109 => ?_)
       have h110 : opd ρ109 93 (.tmp 1) = s2.v := (eρ109 1).trans h92
       have h111 : opd ρ109 93 (.tmp 3) = .pointer (some ⟨g6, 0 + 0, none⟩) := (eρ109 3).trans h93
       have h112 : opd ρ109 93 (.tmp 5) = .pointer (some ⟨g8, 0 + 0, none⟩) := (eρ109 5).trans h94
       have h113 : opd ρ109 93 (.tmp 7) = .pointer (some ⟨g64, 0 + 0, none⟩) := (eρ109 7).trans h95
       have h114 : opd ρ109 93 (.tmp 8) = .int .i64 x59.2.1 := (eρ109 8).trans h96
       have h115 : opd ρ109 93 (.tmp 10) = .int .i64 x100.Block.Height := eρ109 10
       clear eρ109
       obtain ⟨x118, hx118, hF⟩ := Option.bind_eq_some_iff.1 hF
       refine wcut (fun ρ' w' => ∃ (H119 : Hp) (s121 : Sv) (g122 : Nat), Hle H60 H119 ∧ opd ρ' 93 (.tmp 5) = .pointer (some ⟨g8, 0 + 0, none⟩) ∧ opd ρ' 93 (.tmp 7) = .pointer (some ⟨g64, 0 + 0, none⟩) ∧ opd ρ' 93 (.tmp 8) = .int .i64 x59.2.1 ∧ opd ρ' 93 (.tmp 10) = .int .i64 x100.Block.Height ∧ opd ρ' 93 (.tmp 11) = .pointer (some ⟨g122, 0 + 0, none⟩) ∧ opd ρ' 93 (.tmp 12) = .int .i64 x118.1 ∧ opd ρ' 93 (.tmp 13) = .int .i64 x118.2.1 ∧ Sl (Fl.ty fl_Member) H119 s121 x118.2.2.2 ∧ Inv B w' H119 [.cb g8 [ckI a2.Block.Epoch, ckI a2.Block.Height, ckV flB a2.Block.Prev, ckV flB a2.Block.State, ckV flB a2.Block.Next, ckL s3, ckI a2.Cert.Round, ckL s4, ckI a2.Config.Epoch, ckL s5] 73, .cb g64 [ckI x59.1.Epoch, ckL s63] 64, .cb g122 [ckI x118.2.2.1, ckL s121] 64]) ?_ ?_
       ·skip
        replace hF := hx118
        refine dstG (H0 := H60) (L0 := keepL [true, true, true] [.cb g6 [ckI a0.Epoch, ckL s1] 64, .cb g8 [ckI a2.Block.Epoch, ckI a2.Block.Height, ckV flB a2.Block.Prev, ckV flB a2.Block.State, ckV flB a2.Block.Next, ckL s3, ckI a2.Cert.Round, ckL s4, ckI a2.Config.Epoch, ckL s5] 73, .cb g64 [ckI x59.1.Epoch, ckL s63] 64]) [13] mixed rfl (by repeat (first | exact Pan.body | refine Pan.then ?_ | refine Pan.inBlock ?_ | refine Pan.noGoto ?_ | refine Pan.pure ?_)) hI (hI.good.weakm _ (Hle.refl _) rfl) ?_
        intro w132 hI hP
        refine dp (v := s2.v) 2 (by kernel_rfl) rfl rfl (fun _ => r_mv rfl h110) rfl hP ?_
        refine dr (v := .agg (flat [ckI a0.Epoch, ckL s1]).toArray) 0 (by kernel_rfl) rfl rfl (hI.good.weakm [true, true, true] (Hle.refl _) rfl) (fun _ hG => r_cla (off := 0) (p := 0) (m := 2) (hG.ca 0 rfl) rfl ag64 h111 rfl rfl) rfl hP ?_
        refine dr (v := .agg (flat [ckI a2.Block.Epoch, ckI a2.Block.Height, ckV flB a2.Block.Prev, ckV flB a2.Block.State, ckV flB a2.Block.Next, ckL s3, ckI a2.Cert.Round, ckL s4, ckI a2.Config.Epoch, ckL s5]).toArray) 4 (by kernel_rfl) rfl rfl (hI.good.weakm [true, true, true] (Hle.refl _) rfl) (fun _ hG => r_cla (off := 0) (p := 0) (m := 10) (hG.ca 1 rfl) rfl ag73 h112 rfl rfl) rfl hP ?_
        refine dthree 1 5 12 (by kernel_rfl) ?_ ?_ ?_
        ·skip
         refine do_e rfl rfl (l_bs (t := ty_Link) (vs := []) (xs := []) hI rfl sl65 inf73 rfl rfl rfl .nil rfl) rfl ?_
         rintro _ w135 ⟨s133, H134, rfl, hI, hleH134, hs133, hfs133, hgs133⟩
         refine ⟨(hI.good.weakm [true, true, true] hleH134 rfl), ?_⟩
         refine dthree 3 5 12 (by kernel_rfl) ?_ ?_ ?_
         ·skip
          replace hI := Inv.full (e := 73) (sz := 103) hI (show s133.n = s133.c from hfs133)
          replace hI : Inv B w135 H134 [.cb g6 _ 64, .cb g8 _ 73, .cb g64 _ 64, .own s133 73 103 none] := hI
          obtain ⟨x137, hx137, hF⟩ := Option.bind_eq_some_iff.1 hF
          refine do_e rfl rfl (l_app (t := ty_Link) hI 3 rfl rfl sl65 inf73 rfl rfl rfl rfl hs133 ((((((hs2.mono hleH15).mono hleH25).mono hleH37).mono hleH40).mono hleH60).mono hleH134) (appI_some hx137).1) rfl ?_
          rintro _ w141 ⟨s138, H139, gg140, rfl, hI, hleH139, hs138⟩
          rw [← (appI_some hx137).2] at hs138
          replace hI : Inv B w141 H139 [.cb g6 _ 64, .cb g8 _ 73, .cb g64 _ 64, .own s138 73 103 gg140] := hI
          refine ⟨(hI.good.weakm [true, true, true, false] (hleH134.trans hleH139) rfl), ?_⟩
          refine dtwo 5 12 (by kernel_rfl) ?_ ?_
          ·skip
           refine do_e rfl rfl (l_bs (t := ty_Link) (vs := [.agg (flat [ckI a2.Block.Epoch, ckI a2.Block.Height, ckV flB a2.Block.Prev, ckV flB a2.Block.State, ckV flB a2.Block.Next, ckL s3, ckI a2.Cert.Round, ckL s4, ckI a2.Config.Epoch, ckL s5]).toArray]) (xs := [a2]) hI rfl sl65 inf73 rfl rfl (argc rfl rfl) (.cons rfl ⟨s3, s4, s5, rfl, (((((((hs3.mono hleH15).mono hleH25).mono hleH37).mono hleH40).mono hleH60).mono hleH134).mono hleH139), (((((((hs4.mono hleH15).mono hleH25).mono hleH37).mono hleH40).mono hleH60).mono hleH134).mono hleH139), (((((((hs5.mono hleH15).mono hleH25).mono hleH37).mono hleH40).mono hleH60).mono hleH134).mono hleH139)⟩ .nil) rfl) rfl ?_
           rintro _ w144 ⟨s142, H143, rfl, hI, hleH143, hs142, hfs142, hgs142⟩
           refine ⟨(hI.good.weakm [true, true, true, false] ((hleH134.trans hleH139).trans hleH143) rfl), ?_⟩
           refine dtwo 6 12 (by kernel_rfl) ?_ ?_
           ·skip
            obtain ⟨x145, hx145, hF⟩ := Option.bind_eq_some_iff.1 hF
            refine do_e rfl rfl (l_app (t := ty_Link) hI 3 rfl rfl sl65 inf73 rfl rfl rfl rfl (hs138.mono hleH143) hs142 (appI_some hx145).1) rfl ?_
            rintro _ w149 ⟨s146, H147, gg148, rfl, hI, hleH147, hs146⟩
            rw [← (appI_some hx145).2] at hs146
            replace hI : Inv B w149 H147 [.cb g6 _ 64, .cb g8 _ 73, .cb g64 _ 64, .own s146 73 103 gg148] := hI
            refine ⟨(hI.good.weakm [true, true, true, false] (((hleH134.trans hleH139).trans hleH143).trans hleH147) rfl), ?_⟩
            refine dtwo 7 12 (by kernel_rfl) ?_ ?_
            ·skip
             obtain ⟨x150, hx150, hF⟩ := Option.bind_eq_some_iff.1 hF
             have hsp153 := spec_33 hx150 (((((((((hT.mono hleH15).mono hleH25).mono hleH37).mono hleH40).mono hleH60).mono hleH134).mono hleH139).mono hleH143).mono hleH147) (hI.part 0) (((((((((hs1.mono hleH15).mono hleH25).mono hleH37).mono hleH40).mono hleH60).mono hleH134).mono hleH139).mono hleH143).mono hleH147) hs146
             refine do_fc ([]) ([.cb g6 [ckI a0.Epoch, ckL s1] 64, .cb g8 [ckI a2.Block.Epoch, ckI a2.Block.Height, ckV flB a2.Block.Prev, ckV flB a2.Block.State, ckV flB a2.Block.Next, ckL s3, ckI a2.Cert.Round, ckL s4, ckI a2.Config.Epoch, ckL s5] 73, .cb g64 [ckI x59.1.Epoch, ckL s63] 64, .own s146 73 103 gg148]) (args := [.agg (flat [ckI a0.Epoch, ckL s1]).toArray, s146.v]) fc33 rfl rfl rfl rfl hI (argc rfl (argc rfl rfl)) (hsp153) ?_
             rintro _ H151 _ w152 ⟨s154, rfl, hs154, rfl⟩ hleH151 hI
             replace hI : Inv B w152 H151 [.cb g6 _ 64, .cb g8 _ 73, .cb g64 _ 64, .own s146 73 103 gg148] := hI
             refine ⟨(hI.good.weakm [true, true, true, false] ((((hleH134.trans hleH139).trans hleH143).trans hleH147).trans hleH151) rfl), ?_⟩
             refine dp (v := .tuple #[.agg (flat [ckI x150.1.Epoch, ckL s154]).toArray, .int .i64 x150.2.1, .int .i64 x150.2.2]) 8 (by kernel_rfl) rfl rfl (fun _ => r_mv rfl rfl) rfl hP ?_
             refine dp (v := .agg (flat [ckI x150.1.Epoch, ckL s154]).toArray) 9 (by kernel_rfl) rfl rfl (fun _ => r_ext rfl rfl rfl) rfl hP ?_
             refine dp (v := .int .i64 x150.2.1) 10 (by kernel_rfl) rfl rfl (fun _ => r_ext rfl rfl rfl) rfl hP ?_
             refine dp (v := .int .i64 x150.2.2) 11 (by kernel_rfl) rfl rfl (fun _ => r_ext rfl rfl rfl) rfl hP ?_
             refine de 12 (by kernel_rfl) rfl rfl rfl (l_al hI rfl ze64) rfl ?_
             rintro _ w156 ⟨g155, rfl, hI⟩
             replace hI : Inv B w156 H151 [.cb g6 _ 64, .cb g8 _ 73, .cb g64 _ 64, .own s146 73 103 gg148, .cb g155 [ckI 0, ckL Sv.nil] 64] := hI
             refine ⟨(hI.good.weakm [true, true, true, false, false] ((((hleH134.trans hleH139).trans hleH143).trans hleH147).trans hleH151) rfl), ?_⟩
             refine dsl 13 (by kernel_rfl) rfl rfl rfl (l_st (off := 0) (p := 0) (m := 2) (new := [ckI x150.1.Epoch, ckL s154]) hI 4 rfl rfl sz64 rfl rfl rfl rfl rfl rfl) rfl ?_
             intro w157 hI
             replace hI : Inv B w157 H151 [.cb g6 _ 64, .cb g8 _ 73, .cb g64 _ 64, .own s146 73 103 gg148, .cb g155 [ckI x150.1.Epoch, ckL s154] 64] := hI
             refine dp (v := .int .i64 x150.2.1) 14 (by kernel_rfl) rfl rfl (fun _ => r_as rfl rfl) rfl hP ?_
             refine dp (v := .int .i64 x150.2.2) 15 (by kernel_rfl) rfl rfl (fun _ => r_as rfl rfl) rfl hP ?_
             refine dend (by kernel_rfl) ?_
             obtain rfl := Option.some.inj hF
             exact wmid ⟨H151, s154, g155, ((((hleH134.trans hleH139).trans hleH143).trans hleH147).trans hleH151), h112, h113, h114, h115, rfl, rfl, rfl, hs154, (hI.keep [false, true, true, false, true])⟩
            ·skip
             refine do_e rfl rfl (l_al hI rfl ze64) rfl ?_
             rintro _ w159 ⟨g158, rfl, hI⟩
             replace hI : Inv B w159 H147 [.cb g6 _ 64, .cb g8 _ 73, .cb g64 _ 64, .own s146 73 103 gg148, .cb g158 [ckI 0, ckL Sv.nil] 64] := hI
             refine ⟨(hI.good.weakm [true, true, true, false, false] (((hleH134.trans hleH139).trans hleH143).trans hleH147) rfl), ?_⟩
             obtain ⟨x160, hx160, hF⟩ := Option.bind_eq_some_iff.1 hF
             have hsp163 := spec_33 hx160 (((((((((hT.mono hleH15).mono hleH25).mono hleH37).mono hleH40).mono hleH60).mono hleH134).mono hleH139).mono hleH143).mono hleH147) (hI.part 0) (((((((((hs1.mono hleH15).mono hleH25).mono hleH37).mono hleH40).mono hleH60).mono hleH134).mono hleH139).mono hleH143).mono hleH147) hs146
             refine dfc 7 ([]) ([.cb g6 [ckI a0.Epoch, ckL s1] 64, .cb g8 [ckI a2.Block.Epoch, ckI a2.Block.Height, ckV flB a2.Block.Prev, ckV flB a2.Block.State, ckV flB a2.Block.Next, ckL s3, ckI a2.Cert.Round, ckL s4, ckI a2.Config.Epoch, ckL s5] 73, .cb g64 [ckI x59.1.Epoch, ckL s63] 64, .own s146 73 103 gg148, .cb g158 [ckI 0, ckL Sv.nil] 64]) (args := [.agg (flat [ckI a0.Epoch, ckL s1]).toArray, s146.v]) fc33 (by kernel_rfl) rfl rfl rfl rfl rfl hI (argc rfl (argc rfl rfl)) (hsp163) ?_
             rintro _ H161 _ w162 ⟨s164, rfl, hs164, rfl⟩ hleH161 hI
             replace hI : Inv B w162 H161 [.cb g6 _ 64, .cb g8 _ 73, .cb g64 _ 64, .own s146 73 103 gg148, .cb g158 _ 64] := hI
             refine ⟨(hI.good.weakm [true, true, true, false, false] ((((hleH134.trans hleH139).trans hleH143).trans hleH147).trans hleH161) rfl), ?_⟩
             refine dp (v := .tuple #[.agg (flat [ckI x160.1.Epoch, ckL s164]).toArray, .int .i64 x160.2.1, .int .i64 x160.2.2]) 8 (by kernel_rfl) rfl rfl (fun _ => r_mv rfl rfl) rfl hP ?_
             refine dp (v := .agg (flat [ckI x160.1.Epoch, ckL s164]).toArray) 9 (by kernel_rfl) rfl rfl (fun _ => r_ext rfl rfl rfl) rfl hP ?_
             refine dp (v := .int .i64 x160.2.1) 10 (by kernel_rfl) rfl rfl (fun _ => r_ext rfl rfl rfl) rfl hP ?_
             refine dp (v := .int .i64 x160.2.2) 11 (by kernel_rfl) rfl rfl (fun _ => r_ext rfl rfl rfl) rfl hP ?_
             refine dsl 13 (by kernel_rfl) rfl rfl rfl (l_st (off := 0) (p := 0) (m := 2) (new := [ckI x160.1.Epoch, ckL s164]) hI 4 rfl rfl sz64 rfl rfl rfl rfl rfl rfl) rfl ?_
             intro w165 hI
             replace hI : Inv B w165 H161 [.cb g6 _ 64, .cb g8 _ 73, .cb g64 _ 64, .own s146 73 103 gg148, .cb g158 [ckI x160.1.Epoch, ckL s164] 64] := hI
             refine dp (v := .int .i64 x160.2.1) 14 (by kernel_rfl) rfl rfl (fun _ => r_as rfl rfl) rfl hP ?_
             refine dp (v := .int .i64 x160.2.2) 15 (by kernel_rfl) rfl rfl (fun _ => r_as rfl rfl) rfl hP ?_
             refine dend (by kernel_rfl) ?_
             obtain rfl := Option.some.inj hF
             exact wmid ⟨H161, s164, g158, ((((hleH134.trans hleH139).trans hleH143).trans hleH147).trans hleH161), h112, h113, h114, h115, rfl, rfl, rfl, hs164, (hI.keep [false, true, true, false, true])⟩
           ·skip
            refine do_e rfl rfl (l_al hI rfl ze64) rfl ?_
            rintro _ w167 ⟨g166, rfl, hI⟩
            replace hI : Inv B w167 H143 [.cb g6 _ 64, .cb g8 _ 73, .cb g64 _ 64, .own s138 73 103 gg140, .cb g166 [ckI 0, ckL Sv.nil] 64] := hI
            refine ⟨(hI.good.weakm [true, true, true, false, false] ((hleH134.trans hleH139).trans hleH143) rfl), ?_⟩
            obtain ⟨x168, hx168, hF⟩ := Option.bind_eq_some_iff.1 hF
            refine de 6 (by kernel_rfl) rfl rfl rfl (l_app (t := ty_Link) hI 3 rfl rfl sl65 inf73 rfl rfl rfl rfl (hs138.mono hleH143) hs142 (appI_some hx168).1) rfl ?_
            rintro _ w172 ⟨s169, H170, gg171, rfl, hI, hleH170, hs169⟩
            rw [← (appI_some hx168).2] at hs169
            replace hI : Inv B w172 H170 [.cb g6 _ 64, .cb g8 _ 73, .cb g64 _ 64, .own s169 73 103 gg171, .cb g166 _ 64] := hI
            refine ⟨(hI.good.weakm [true, true, true, false, false] (((hleH134.trans hleH139).trans hleH143).trans hleH170) rfl), ?_⟩
            obtain ⟨x173, hx173, hF⟩ := Option.bind_eq_some_iff.1 hF
            have hsp176 := spec_33 hx173 (((((((((hT.mono hleH15).mono hleH25).mono hleH37).mono hleH40).mono hleH60).mono hleH134).mono hleH139).mono hleH143).mono hleH170) (hI.part 0) (((((((((hs1.mono hleH15).mono hleH25).mono hleH37).mono hleH40).mono hleH60).mono hleH134).mono hleH139).mono hleH143).mono hleH170) hs169
            refine dfc 7 ([]) ([.cb g6 [ckI a0.Epoch, ckL s1] 64, .cb g8 [ckI a2.Block.Epoch, ckI a2.Block.Height, ckV flB a2.Block.Prev, ckV flB a2.Block.State, ckV flB a2.Block.Next, ckL s3, ckI a2.Cert.Round, ckL s4, ckI a2.Config.Epoch, ckL s5] 73, .cb g64 [ckI x59.1.Epoch, ckL s63] 64, .own s169 73 103 gg171, .cb g166 [ckI 0, ckL Sv.nil] 64]) (args := [.agg (flat [ckI a0.Epoch, ckL s1]).toArray, s169.v]) fc33 (by kernel_rfl) rfl rfl rfl rfl rfl hI (argc rfl (argc rfl rfl)) (hsp176) ?_
            rintro _ H174 _ w175 ⟨s177, rfl, hs177, rfl⟩ hleH174 hI
            replace hI : Inv B w175 H174 [.cb g6 _ 64, .cb g8 _ 73, .cb g64 _ 64, .own s169 73 103 gg171, .cb g166 _ 64] := hI
            refine ⟨(hI.good.weakm [true, true, true, false, false] ((((hleH134.trans hleH139).trans hleH143).trans hleH170).trans hleH174) rfl), ?_⟩
            refine dp (v := .tuple #[.agg (flat [ckI x173.1.Epoch, ckL s177]).toArray, .int .i64 x173.2.1, .int .i64 x173.2.2]) 8 (by kernel_rfl) rfl rfl (fun _ => r_mv rfl rfl) rfl hP ?_
            refine dp (v := .agg (flat [ckI x173.1.Epoch, ckL s177]).toArray) 9 (by kernel_rfl) rfl rfl (fun _ => r_ext rfl rfl rfl) rfl hP ?_
            refine dp (v := .int .i64 x173.2.1) 10 (by kernel_rfl) rfl rfl (fun _ => r_ext rfl rfl rfl) rfl hP ?_
            refine dp (v := .int .i64 x173.2.2) 11 (by kernel_rfl) rfl rfl (fun _ => r_ext rfl rfl rfl) rfl hP ?_
            refine dsl 13 (by kernel_rfl) rfl rfl rfl (l_st (off := 0) (p := 0) (m := 2) (new := [ckI x173.1.Epoch, ckL s177]) hI 4 rfl rfl sz64 rfl rfl rfl rfl rfl rfl) rfl ?_
            intro w178 hI
            replace hI : Inv B w178 H174 [.cb g6 _ 64, .cb g8 _ 73, .cb g64 _ 64, .own s169 73 103 gg171, .cb g166 [ckI x173.1.Epoch, ckL s177] 64] := hI
            refine dp (v := .int .i64 x173.2.1) 14 (by kernel_rfl) rfl rfl (fun _ => r_as rfl rfl) rfl hP ?_
            refine dp (v := .int .i64 x173.2.2) 15 (by kernel_rfl) rfl rfl (fun _ => r_as rfl rfl) rfl hP ?_
            refine dend (by kernel_rfl) ?_
            obtain rfl := Option.some.inj hF
            exact wmid ⟨H174, s177, g166, ((((hleH134.trans hleH139).trans hleH143).trans hleH170).trans hleH174), h112, h113, h114, h115, rfl, rfl, rfl, hs177, (hI.keep [false, true, true, false, true])⟩
          ·skip
           refine do_e rfl rfl (l_al hI rfl ze64) rfl ?_
           rintro _ w180 ⟨g179, rfl, hI⟩
           replace hI : Inv B w180 H139 [.cb g6 _ 64, .cb g8 _ 73, .cb g64 _ 64, .own s138 73 103 gg140, .cb g179 [ckI 0, ckL Sv.nil] 64] := hI
           refine ⟨(hI.good.weakm [true, true, true, false, false] (hleH134.trans hleH139) rfl), ?_⟩
           refine de 5 (by kernel_rfl) rfl rfl rfl (l_bs (t := ty_Link) (vs := [.agg (flat [ckI a2.Block.Epoch, ckI a2.Block.Height, ckV flB a2.Block.Prev, ckV flB a2.Block.State, ckV flB a2.Block.Next, ckL s3, ckI a2.Cert.Round, ckL s4, ckI a2.Config.Epoch, ckL s5]).toArray]) (xs := [a2]) hI rfl sl65 inf73 rfl rfl (argc rfl rfl) (.cons rfl ⟨s3, s4, s5, rfl, (((((((hs3.mono hleH15).mono hleH25).mono hleH37).mono hleH40).mono hleH60).mono hleH134).mono hleH139), (((((((hs4.mono hleH15).mono hleH25).mono hleH37).mono hleH40).mono hleH60).mono hleH134).mono hleH139), (((((((hs5.mono hleH15).mono hleH25).mono hleH37).mono hleH40).mono hleH60).mono hleH134).mono hleH139)⟩ .nil) rfl) rfl ?_
           rintro _ w183 ⟨s181, H182, rfl, hI, hleH182, hs181, hfs181, hgs181⟩
           refine ⟨(hI.good.weakm [true, true, true, false, false] ((hleH134.trans hleH139).trans hleH182) rfl), ?_⟩
           obtain ⟨x184, hx184, hF⟩ := Option.bind_eq_some_iff.1 hF
           refine de 6 (by kernel_rfl) rfl rfl rfl (l_app (t := ty_Link) hI 3 rfl rfl sl65 inf73 rfl rfl rfl rfl (hs138.mono hleH182) hs181 (appI_some hx184).1) rfl ?_
           rintro _ w188 ⟨s185, H186, gg187, rfl, hI, hleH186, hs185⟩
           rw [← (appI_some hx184).2] at hs185
           replace hI : Inv B w188 H186 [.cb g6 _ 64, .cb g8 _ 73, .cb g64 _ 64, .own s185 73 103 gg187, .cb g179 _ 64] := hI
           refine ⟨(hI.good.weakm [true, true, true, false, false] (((hleH134.trans hleH139).trans hleH182).trans hleH186) rfl), ?_⟩
           obtain ⟨x189, hx189, hF⟩ := Option.bind_eq_some_iff.1 hF
           have hsp192 := spec_33 hx189 (((((((((hT.mono hleH15).mono hleH25).mono hleH37).mono hleH40).mono hleH60).mono hleH134).mono hleH139).mono hleH182).mono hleH186) (hI.part 0) (((((((((hs1.mono hleH15).mono hleH25).mono hleH37).mono hleH40).mono hleH60).mono hleH134).mono hleH139).mono hleH182).mono hleH186) hs185
           refine dfc 7 ([]) ([.cb g6 [ckI a0.Epoch, ckL s1] 64, .cb g8 [ckI a2.Block.Epoch, ckI a2.Block.Height, ckV flB a2.Block.Prev, ckV flB a2.Block.State, ckV flB a2.Block.Next, ckL s3, ckI a2.Cert.Round, ckL s4, ckI a2.Config.Epoch, ckL s5] 73, .cb g64 [ckI x59.1.Epoch, ckL s63] 64, .own s185 73 103 gg187, .cb g179 [ckI 0, ckL Sv.nil] 64]) (args := [.agg (flat [ckI a0.Epoch, ckL s1]).toArray, s185.v]) fc33 (by kernel_rfl) rfl rfl rfl rfl rfl hI (argc rfl (argc rfl rfl)) (hsp192) ?_
           rintro _ H190 _ w191 ⟨s193, rfl, hs193, rfl⟩ hleH190 hI
           replace hI : Inv B w191 H190 [.cb g6 _ 64, .cb g8 _ 73, .cb g64 _ 64, .own s185 73 103 gg187, .cb g179 _ 64] := hI
           refine ⟨(hI.good.weakm [true, true, true, false, false] ((((hleH134.trans hleH139).trans hleH182).trans hleH186).trans hleH190) rfl), ?_⟩
           refine dp (v := .tuple #[.agg (flat [ckI x189.1.Epoch, ckL s193]).toArray, .int .i64 x189.2.1, .int .i64 x189.2.2]) 8 (by kernel_rfl) rfl rfl (fun _ => r_mv rfl rfl) rfl hP ?_
           refine dp (v := .agg (flat [ckI x189.1.Epoch, ckL s193]).toArray) 9 (by kernel_rfl) rfl rfl (fun _ => r_ext rfl rfl rfl) rfl hP ?_
           refine dp (v := .int .i64 x189.2.1) 10 (by kernel_rfl) rfl rfl (fun _ => r_ext rfl rfl rfl) rfl hP ?_
           refine dp (v := .int .i64 x189.2.2) 11 (by kernel_rfl) rfl rfl (fun _ => r_ext rfl rfl rfl) rfl hP ?_
           refine dsl 13 (by kernel_rfl) rfl rfl rfl (l_st (off := 0) (p := 0) (m := 2) (new := [ckI x189.1.Epoch, ckL s193]) hI 4 rfl rfl sz64 rfl rfl rfl rfl rfl rfl) rfl ?_
           intro w194 hI
           replace hI : Inv B w194 H190 [.cb g6 _ 64, .cb g8 _ 73, .cb g64 _ 64, .own s185 73 103 gg187, .cb g179 [ckI x189.1.Epoch, ckL s193] 64] := hI
           refine dp (v := .int .i64 x189.2.1) 14 (by kernel_rfl) rfl rfl (fun _ => r_as rfl rfl) rfl hP ?_
           refine dp (v := .int .i64 x189.2.2) 15 (by kernel_rfl) rfl rfl (fun _ => r_as rfl rfl) rfl hP ?_
           refine dend (by kernel_rfl) ?_
           obtain rfl := Option.some.inj hF
           exact wmid ⟨H190, s193, g179, ((((hleH134.trans hleH139).trans hleH182).trans hleH186).trans hleH190), h112, h113, h114, h115, rfl, rfl, rfl, hs193, (hI.keep [false, true, true, false, true])⟩
         ·skip
          refine do_e rfl rfl (l_bs (t := ty_Link) (vs := [.agg (flat [ckI a2.Block.Epoch, ckI a2.Block.Height, ckV flB a2.Block.Prev, ckV flB a2.Block.State, ckV flB a2.Block.Next, ckL s3, ckI a2.Cert.Round, ckL s4, ckI a2.Config.Epoch, ckL s5]).toArray]) (xs := [a2]) hI rfl sl65 inf73 rfl rfl (argc rfl rfl) (.cons rfl ⟨s3, s4, s5, rfl, ((((((hs3.mono hleH15).mono hleH25).mono hleH37).mono hleH40).mono hleH60).mono hleH134), ((((((hs4.mono hleH15).mono hleH25).mono hleH37).mono hleH40).mono hleH60).mono hleH134), ((((((hs5.mono hleH15).mono hleH25).mono hleH37).mono hleH40).mono hleH60).mono hleH134)⟩ .nil) rfl) rfl ?_
          rintro _ w197 ⟨s195, H196, rfl, hI, hleH196, hs195, hfs195, hgs195⟩
          refine ⟨(hI.good.weakm [true, true, true] (hleH134.trans hleH196) rfl), ?_⟩
          refine dtwo 3 12 (by kernel_rfl) ?_ ?_
          ·skip
           replace hI := Inv.full (e := 73) (sz := 103) hI (show s133.n = s133.c from hfs133)
           replace hI : Inv B w197 H196 [.cb g6 _ 64, .cb g8 _ 73, .cb g64 _ 64, .own s133 73 103 none] := hI
           obtain ⟨x199, hx199, hF⟩ := Option.bind_eq_some_iff.1 hF
           refine do_e rfl rfl (l_app (t := ty_Link) hI 3 rfl rfl sl65 inf73 rfl rfl rfl rfl (hs133.mono hleH196) (((((((hs2.mono hleH15).mono hleH25).mono hleH37).mono hleH40).mono hleH60).mono hleH134).mono hleH196) (appI_some hx199).1) rfl ?_
           rintro _ w203 ⟨s200, H201, gg202, rfl, hI, hleH201, hs200⟩
           rw [← (appI_some hx199).2] at hs200
           replace hI : Inv B w203 H201 [.cb g6 _ 64, .cb g8 _ 73, .cb g64 _ 64, .own s200 73 103 gg202] := hI
           refine ⟨(hI.good.weakm [true, true, true, false] ((hleH134.trans hleH196).trans hleH201) rfl), ?_⟩
           refine dtwo 6 12 (by kernel_rfl) ?_ ?_
           ·skip
            obtain ⟨x204, hx204, hF⟩ := Option.bind_eq_some_iff.1 hF
            refine do_e rfl rfl (l_app (t := ty_Link) hI 3 rfl rfl sl65 inf73 rfl rfl rfl rfl hs200 (hs195.mono hleH201) (appI_some hx204).1) rfl ?_
            rintro _ w208 ⟨s205, H206, gg207, rfl, hI, hleH206, hs205⟩
            rw [← (appI_some hx204).2] at hs205
            replace hI : Inv B w208 H206 [.cb g6 _ 64, .cb g8 _ 73, .cb g64 _ 64, .own s205 73 103 gg207] := hI
            refine ⟨(hI.good.weakm [true, true, true, false] (((hleH134.trans hleH196).trans hleH201).trans hleH206) rfl), ?_⟩
            refine dtwo 7 12 (by kernel_rfl) ?_ ?_
            ·skip
             obtain ⟨x209, hx209, hF⟩ := Option.bind_eq_some_iff.1 hF
             have hsp212 := spec_33 hx209 (((((((((hT.mono hleH15).mono hleH25).mono hleH37).mono hleH40).mono hleH60).mono hleH134).mono hleH196).mono hleH201).mono hleH206) (hI.part 0) (((((((((hs1.mono hleH15).mono hleH25).mono hleH37).mono hleH40).mono hleH60).mono hleH134).mono hleH196).mono hleH201).mono hleH206) hs205
             refine do_fc ([]) ([.cb g6 [ckI a0.Epoch, ckL s1] 64, .cb g8 [ckI a2.Block.Epoch, ckI a2.Block.Height, ckV flB a2.Block.Prev, ckV flB a2.Block.State, ckV flB a2.Block.Next, ckL s3, ckI a2.Cert.Round, ckL s4, ckI a2.Config.Epoch, ckL s5] 73, .cb g64 [ckI x59.1.Epoch, ckL s63] 64, .own s205 73 103 gg207]) (args := [.agg (flat [ckI a0.Epoch, ckL s1]).toArray, s205.v]) fc33 rfl rfl rfl rfl hI (argc rfl (argc rfl rfl)) (hsp212) ?_
             rintro _ H210 _ w211 ⟨s213, rfl, hs213, rfl⟩ hleH210 hI
             replace hI : Inv B w211 H210 [.cb g6 _ 64, .cb g8 _ 73, .cb g64 _ 64, .own s205 73 103 gg207] := hI
             refine ⟨(hI.good.weakm [true, true, true, false] ((((hleH134.trans hleH196).trans hleH201).trans hleH206).trans hleH210) rfl), ?_⟩
             refine dp (v := .tuple #[.agg (flat [ckI x209.1.Epoch, ckL s213]).toArray, .int .i64 x209.2.1, .int .i64 x209.2.2]) 8 (by kernel_rfl) rfl rfl (fun _ => r_mv rfl rfl) rfl hP ?_
             refine dp (v := .agg (flat [ckI x209.1.Epoch, ckL s213]).toArray) 9 (by kernel_rfl) rfl rfl (fun _ => r_ext rfl rfl rfl) rfl hP ?_
             refine dp (v := .int .i64 x209.2.1) 10 (by kernel_rfl) rfl rfl (fun _ => r_ext rfl rfl rfl) rfl hP ?_
             refine dp (v := .int .i64 x209.2.2) 11 (by kernel_rfl) rfl rfl (fun _ => r_ext rfl rfl rfl) rfl hP ?_
             refine de 12 (by kernel_rfl) rfl rfl rfl (l_al hI rfl ze64) rfl ?_
             rintro _ w215 ⟨g214, rfl, hI⟩
             replace hI : Inv B w215 H210 [.cb g6 _ 64, .cb g8 _ 73, .cb g64 _ 64, .own s205 73 103 gg207, .cb g214 [ckI 0, ckL Sv.nil] 64] := hI
             refine ⟨(hI.good.weakm [true, true, true, false, false] ((((hleH134.trans hleH196).trans hleH201).trans hleH206).trans hleH210) rfl), ?_⟩
             refine dsl 13 (by kernel_rfl) rfl rfl rfl (l_st (off := 0) (p := 0) (m := 2) (new := [ckI x209.1.Epoch, ckL s213]) hI 4 rfl rfl sz64 rfl rfl rfl rfl rfl rfl) rfl ?_
             intro w216 hI
             replace hI : Inv B w216 H210 [.cb g6 _ 64, .cb g8 _ 73, .cb g64 _ 64, .own s205 73 103 gg207, .cb g214 [ckI x209.1.Epoch, ckL s213] 64] := hI
             refine dp (v := .int .i64 x209.2.1) 14 (by kernel_rfl) rfl rfl (fun _ => r_as rfl rfl) rfl hP ?_
             refine dp (v := .int .i64 x209.2.2) 15 (by kernel_rfl) rfl rfl (fun _ => r_as rfl rfl) rfl hP ?_
             refine dend (by kernel_rfl) ?_
             obtain rfl := Option.some.inj hF
             exact wmid ⟨H210, s213, g214, ((((hleH134.trans hleH196).trans hleH201).trans hleH206).trans hleH210), h112, h113, h114, h115, rfl, rfl, rfl, hs213, (hI.keep [false, true, true, false, true])⟩
            ·skip
             refine do_e rfl rfl (l_al hI rfl ze64) rfl ?_
             rintro _ w218 ⟨g217, rfl, hI⟩
             replace hI : Inv B w218 H206 [.cb g6 _ 64, .cb g8 _ 73, .cb g64 _ 64, .own s205 73 103 gg207, .cb g217 [ckI 0, ckL Sv.nil] 64] := hI
             refine ⟨(hI.good.weakm [true, true, true, false, false] (((hleH134.trans hleH196).trans hleH201).trans hleH206) rfl), ?_⟩
             obtain ⟨x219, hx219, hF⟩ := Option.bind_eq_some_iff.1 hF
             have hsp222 := spec_33 hx219 (((((((((hT.mono hleH15).mono hleH25).mono hleH37).mono hleH40).mono hleH60).mono hleH134).mono hleH196).mono hleH201).mono hleH206) (hI.part 0) (((((((((hs1.mono hleH15).mono hleH25).mono hleH37).mono hleH40).mono hleH60).mono hleH134).mono hleH196).mono hleH201).mono hleH206) hs205
             refine dfc 7 ([]) ([.cb g6 [ckI a0.Epoch, ckL s1] 64, .cb g8 [ckI a2.Block.Epoch, ckI a2.Block.Height, ckV flB a2.Block.Prev, ckV flB a2.Block.State, ckV flB a2.Block.Next, ckL s3, ckI a2.Cert.Round, ckL s4, ckI a2.Config.Epoch, ckL s5] 73, .cb g64 [ckI x59.1.Epoch, ckL s63] 64, .own s205 73 103 gg207, .cb g217 [ckI 0, ckL Sv.nil] 64]) (args := [.agg (flat [ckI a0.Epoch, ckL s1]).toArray, s205.v]) fc33 (by kernel_rfl) rfl rfl rfl rfl rfl hI (argc rfl (argc rfl rfl)) (hsp222) ?_
             rintro _ H220 _ w221 ⟨s223, rfl, hs223, rfl⟩ hleH220 hI
             replace hI : Inv B w221 H220 [.cb g6 _ 64, .cb g8 _ 73, .cb g64 _ 64, .own s205 73 103 gg207, .cb g217 _ 64] := hI
             refine ⟨(hI.good.weakm [true, true, true, false, false] ((((hleH134.trans hleH196).trans hleH201).trans hleH206).trans hleH220) rfl), ?_⟩
             refine dp (v := .tuple #[.agg (flat [ckI x219.1.Epoch, ckL s223]).toArray, .int .i64 x219.2.1, .int .i64 x219.2.2]) 8 (by kernel_rfl) rfl rfl (fun _ => r_mv rfl rfl) rfl hP ?_
             refine dp (v := .agg (flat [ckI x219.1.Epoch, ckL s223]).toArray) 9 (by kernel_rfl) rfl rfl (fun _ => r_ext rfl rfl rfl) rfl hP ?_
             refine dp (v := .int .i64 x219.2.1) 10 (by kernel_rfl) rfl rfl (fun _ => r_ext rfl rfl rfl) rfl hP ?_
             refine dp (v := .int .i64 x219.2.2) 11 (by kernel_rfl) rfl rfl (fun _ => r_ext rfl rfl rfl) rfl hP ?_
             refine dsl 13 (by kernel_rfl) rfl rfl rfl (l_st (off := 0) (p := 0) (m := 2) (new := [ckI x219.1.Epoch, ckL s223]) hI 4 rfl rfl sz64 rfl rfl rfl rfl rfl rfl) rfl ?_
             intro w224 hI
             replace hI : Inv B w224 H220 [.cb g6 _ 64, .cb g8 _ 73, .cb g64 _ 64, .own s205 73 103 gg207, .cb g217 [ckI x219.1.Epoch, ckL s223] 64] := hI
             refine dp (v := .int .i64 x219.2.1) 14 (by kernel_rfl) rfl rfl (fun _ => r_as rfl rfl) rfl hP ?_
             refine dp (v := .int .i64 x219.2.2) 15 (by kernel_rfl) rfl rfl (fun _ => r_as rfl rfl) rfl hP ?_
             refine dend (by kernel_rfl) ?_
             obtain rfl := Option.some.inj hF
             exact wmid ⟨H220, s223, g217, ((((hleH134.trans hleH196).trans hleH201).trans hleH206).trans hleH220), h112, h113, h114, h115, rfl, rfl, rfl, hs223, (hI.keep [false, true, true, false, true])⟩
           ·skip
            refine do_e rfl rfl (l_al hI rfl ze64) rfl ?_
            rintro _ w226 ⟨g225, rfl, hI⟩
            replace hI : Inv B w226 H201 [.cb g6 _ 64, .cb g8 _ 73, .cb g64 _ 64, .own s200 73 103 gg202, .cb g225 [ckI 0, ckL Sv.nil] 64] := hI
            refine ⟨(hI.good.weakm [true, true, true, false, false] ((hleH134.trans hleH196).trans hleH201) rfl), ?_⟩
            obtain ⟨x227, hx227, hF⟩ := Option.bind_eq_some_iff.1 hF
            refine de 6 (by kernel_rfl) rfl rfl rfl (l_app (t := ty_Link) hI 3 rfl rfl sl65 inf73 rfl rfl rfl rfl hs200 (hs195.mono hleH201) (appI_some hx227).1) rfl ?_
            rintro _ w231 ⟨s228, H229, gg230, rfl, hI, hleH229, hs228⟩
            rw [← (appI_some hx227).2] at hs228
            replace hI : Inv B w231 H229 [.cb g6 _ 64, .cb g8 _ 73, .cb g64 _ 64, .own s228 73 103 gg230, .cb g225 _ 64] := hI
            refine ⟨(hI.good.weakm [true, true, true, false, false] (((hleH134.trans hleH196).trans hleH201).trans hleH229) rfl), ?_⟩
            obtain ⟨x232, hx232, hF⟩ := Option.bind_eq_some_iff.1 hF
            have hsp235 := spec_33 hx232 (((((((((hT.mono hleH15).mono hleH25).mono hleH37).mono hleH40).mono hleH60).mono hleH134).mono hleH196).mono hleH201).mono hleH229) (hI.part 0) (((((((((hs1.mono hleH15).mono hleH25).mono hleH37).mono hleH40).mono hleH60).mono hleH134).mono hleH196).mono hleH201).mono hleH229) hs228
            refine dfc 7 ([]) ([.cb g6 [ckI a0.Epoch, ckL s1] 64, .cb g8 [ckI a2.Block.Epoch, ckI a2.Block.Height, ckV flB a2.Block.Prev, ckV flB a2.Block.State, ckV flB a2.Block.Next, ckL s3, ckI a2.Cert.Round, ckL s4, ckI a2.Config.Epoch, ckL s5] 73, .cb g64 [ckI x59.1.Epoch, ckL s63] 64, .own s228 73 103 gg230, .cb g225 [ckI 0, ckL Sv.nil] 64]) (args := [.agg (flat [ckI a0.Epoch, ckL s1]).toArray, s228.v]) fc33 (by kernel_rfl) rfl rfl rfl rfl rfl hI (argc rfl (argc rfl rfl)) (hsp235) ?_
            rintro _ H233 _ w234 ⟨s236, rfl, hs236, rfl⟩ hleH233 hI
            replace hI : Inv B w234 H233 [.cb g6 _ 64, .cb g8 _ 73, .cb g64 _ 64, .own s228 73 103 gg230, .cb g225 _ 64] := hI
            refine ⟨(hI.good.weakm [true, true, true, false, false] ((((hleH134.trans hleH196).trans hleH201).trans hleH229).trans hleH233) rfl), ?_⟩
            refine dp (v := .tuple #[.agg (flat [ckI x232.1.Epoch, ckL s236]).toArray, .int .i64 x232.2.1, .int .i64 x232.2.2]) 8 (by kernel_rfl) rfl rfl (fun _ => r_mv rfl rfl) rfl hP ?_
            refine dp (v := .agg (flat [ckI x232.1.Epoch, ckL s236]).toArray) 9 (by kernel_rfl) rfl rfl (fun _ => r_ext rfl rfl rfl) rfl hP ?_
            refine dp (v := .int .i64 x232.2.1) 10 (by kernel_rfl) rfl rfl (fun _ => r_ext rfl rfl rfl) rfl hP ?_
            refine dp (v := .int .i64 x232.2.2) 11 (by kernel_rfl) rfl rfl (fun _ => r_ext rfl rfl rfl) rfl hP ?_
            refine dsl 13 (by kernel_rfl) rfl rfl rfl (l_st (off := 0) (p := 0) (m := 2) (new := [ckI x232.1.Epoch, ckL s236]) hI 4 rfl rfl sz64 rfl rfl rfl rfl rfl rfl) rfl ?_
            intro w237 hI
            replace hI : Inv B w237 H233 [.cb g6 _ 64, .cb g8 _ 73, .cb g64 _ 64, .own s228 73 103 gg230, .cb g225 [ckI x232.1.Epoch, ckL s236] 64] := hI
            refine dp (v := .int .i64 x232.2.1) 14 (by kernel_rfl) rfl rfl (fun _ => r_as rfl rfl) rfl hP ?_
            refine dp (v := .int .i64 x232.2.2) 15 (by kernel_rfl) rfl rfl (fun _ => r_as rfl rfl) rfl hP ?_
            refine dend (by kernel_rfl) ?_
            obtain rfl := Option.some.inj hF
            exact wmid ⟨H233, s236, g225, ((((hleH134.trans hleH196).trans hleH201).trans hleH229).trans hleH233), h112, h113, h114, h115, rfl, rfl, rfl, hs236, (hI.keep [false, true, true, false, true])⟩
          ·skip
           refine do_e rfl rfl (l_al hI rfl ze64) rfl ?_
           rintro _ w239 ⟨g238, rfl, hI⟩
           replace hI : Inv B w239 H196 [.cb g6 _ 64, .cb g8 _ 73, .cb g64 _ 64, .cb g238 [ckI 0, ckL Sv.nil] 64] := hI
           refine ⟨(hI.good.weakm [true, true, true, false] (hleH134.trans hleH196) rfl), ?_⟩
           replace hI := Inv.full (e := 73) (sz := 103) hI (show s133.n = s133.c from hfs133)
           replace hI : Inv B w239 H196 [.cb g6 _ 64, .cb g8 _ 73, .cb g64 _ 64, .cb g238 _ 64, .own s133 73 103 none] := hI
           obtain ⟨x241, hx241, hF⟩ := Option.bind_eq_some_iff.1 hF
           refine de 3 (by kernel_rfl) rfl rfl rfl (l_app (t := ty_Link) hI 4 rfl rfl sl65 inf73 rfl rfl rfl rfl (hs133.mono hleH196) (((((((hs2.mono hleH15).mono hleH25).mono hleH37).mono hleH40).mono hleH60).mono hleH134).mono hleH196) (appI_some hx241).1) rfl ?_
           rintro _ w245 ⟨s242, H243, gg244, rfl, hI, hleH243, hs242⟩
           rw [← (appI_some hx241).2] at hs242
           replace hI : Inv B w245 H243 [.cb g6 _ 64, .cb g8 _ 73, .cb g64 _ 64, .cb g238 _ 64, .own s242 73 103 gg244] := hI
           refine ⟨(hI.good.weakm [true, true, true, false, false] ((hleH134.trans hleH196).trans hleH243) rfl), ?_⟩
           obtain ⟨x246, hx246, hF⟩ := Option.bind_eq_some_iff.1 hF
           refine de 6 (by kernel_rfl) rfl rfl rfl (l_app (t := ty_Link) hI 4 rfl rfl sl65 inf73 rfl rfl rfl rfl hs242 (hs195.mono hleH243) (appI_some hx246).1) rfl ?_
           rintro _ w250 ⟨s247, H248, gg249, rfl, hI, hleH248, hs247⟩
           rw [← (appI_some hx246).2] at hs247
           replace hI : Inv B w250 H248 [.cb g6 _ 64, .cb g8 _ 73, .cb g64 _ 64, .cb g238 _ 64, .own s247 73 103 gg249] := hI
           refine ⟨(hI.good.weakm [true, true, true, false, false] (((hleH134.trans hleH196).trans hleH243).trans hleH248) rfl), ?_⟩
           obtain ⟨x251, hx251, hF⟩ := Option.bind_eq_some_iff.1 hF
           have hsp254 := spec_33 hx251 (((((((((hT.mono hleH15).mono hleH25).mono hleH37).mono hleH40).mono hleH60).mono hleH134).mono hleH196).mono hleH243).mono hleH248) (hI.part 0) (((((((((hs1.mono hleH15).mono hleH25).mono hleH37).mono hleH40).mono hleH60).mono hleH134).mono hleH196).mono hleH243).mono hleH248) hs247
           refine dfc 7 ([]) ([.cb g6 [ckI a0.Epoch, ckL s1] 64, .cb g8 [ckI a2.Block.Epoch, ckI a2.Block.Height, ckV flB a2.Block.Prev, ckV flB a2.Block.State, ckV flB a2.Block.Next, ckL s3, ckI a2.Cert.Round, ckL s4, ckI a2.Config.Epoch, ckL s5] 73, .cb g64 [ckI x59.1.Epoch, ckL s63] 64, .cb g238 [ckI 0, ckL Sv.nil] 64, .own s247 73 103 gg249]) (args := [.agg (flat [ckI a0.Epoch, ckL s1]).toArray, s247.v]) fc33 (by kernel_rfl) rfl rfl rfl rfl rfl hI (argc rfl (argc rfl rfl)) (hsp254) ?_
           rintro _ H252 _ w253 ⟨s255, rfl, hs255, rfl⟩ hleH252 hI
           replace hI : Inv B w253 H252 [.cb g6 _ 64, .cb g8 _ 73, .cb g64 _ 64, .cb g238 _ 64, .own s247 73 103 gg249] := hI
           refine ⟨(hI.good.weakm [true, true, true, false, false] ((((hleH134.trans hleH196).trans hleH243).trans hleH248).trans hleH252) rfl), ?_⟩
           refine dp (v := .tuple #[.agg (flat [ckI x251.1.Epoch, ckL s255]).toArray, .int .i64 x251.2.1, .int .i64 x251.2.2]) 8 (by kernel_rfl) rfl rfl (fun _ => r_mv rfl rfl) rfl hP ?_
           refine dp (v := .agg (flat [ckI x251.1.Epoch, ckL s255]).toArray) 9 (by kernel_rfl) rfl rfl (fun _ => r_ext rfl rfl rfl) rfl hP ?_
           refine dp (v := .int .i64 x251.2.1) 10 (by kernel_rfl) rfl rfl (fun _ => r_ext rfl rfl rfl) rfl hP ?_
           refine dp (v := .int .i64 x251.2.2) 11 (by kernel_rfl) rfl rfl (fun _ => r_ext rfl rfl rfl) rfl hP ?_
           refine dsl 13 (by kernel_rfl) rfl rfl rfl (l_st (off := 0) (p := 0) (m := 2) (new := [ckI x251.1.Epoch, ckL s255]) hI 3 rfl rfl sz64 rfl rfl rfl rfl rfl rfl) rfl ?_
           intro w256 hI
           replace hI : Inv B w256 H252 [.cb g6 _ 64, .cb g8 _ 73, .cb g64 _ 64, .cb g238 [ckI x251.1.Epoch, ckL s255] 64, .own s247 73 103 gg249] := hI
           refine dp (v := .int .i64 x251.2.1) 14 (by kernel_rfl) rfl rfl (fun _ => r_as rfl rfl) rfl hP ?_
           refine dp (v := .int .i64 x251.2.2) 15 (by kernel_rfl) rfl rfl (fun _ => r_as rfl rfl) rfl hP ?_
           refine dend (by kernel_rfl) ?_
           obtain rfl := Option.some.inj hF
           exact wmid ⟨H252, s255, g238, ((((hleH134.trans hleH196).trans hleH243).trans hleH248).trans hleH252), h112, h113, h114, h115, rfl, rfl, rfl, hs255, (hI.keep [false, true, true, true, false])⟩
         ·skip
          refine do_e rfl rfl (l_al hI rfl ze64) rfl ?_
          rintro _ w258 ⟨g257, rfl, hI⟩
          replace hI : Inv B w258 H134 [.cb g6 _ 64, .cb g8 _ 73, .cb g64 _ 64, .cb g257 [ckI 0, ckL Sv.nil] 64] := hI
          refine ⟨(hI.good.weakm [true, true, true, false] hleH134 rfl), ?_⟩
          refine dtwo 3 5 (by kernel_rfl) ?_ ?_
          ·skip
           replace hI := Inv.full (e := 73) (sz := 103) hI (show s133.n = s133.c from hfs133)
           replace hI : Inv B w258 H134 [.cb g6 _ 64, .cb g8 _ 73, .cb g64 _ 64, .cb g257 _ 64, .own s133 73 103 none] := hI
           obtain ⟨x260, hx260, hF⟩ := Option.bind_eq_some_iff.1 hF
           refine do_e rfl rfl (l_app (t := ty_Link) hI 4 rfl rfl sl65 inf73 rfl rfl rfl rfl hs133 ((((((hs2.mono hleH15).mono hleH25).mono hleH37).mono hleH40).mono hleH60).mono hleH134) (appI_some hx260).1) rfl ?_
           rintro _ w264 ⟨s261, H262, gg263, rfl, hI, hleH262, hs261⟩
           rw [← (appI_some hx260).2] at hs261
           replace hI : Inv B w264 H262 [.cb g6 _ 64, .cb g8 _ 73, .cb g64 _ 64, .cb g257 _ 64, .own s261 73 103 gg263] := hI
           refine ⟨(hI.good.weakm [true, true, true, false, false] (hleH134.trans hleH262) rfl), ?_⟩
           refine de 5 (by kernel_rfl) rfl rfl rfl (l_bs (t := ty_Link) (vs := [.agg (flat [ckI a2.Block.Epoch, ckI a2.Block.Height, ckV flB a2.Block.Prev, ckV flB a2.Block.State, ckV flB a2.Block.Next, ckL s3, ckI a2.Cert.Round, ckL s4, ckI a2.Config.Epoch, ckL s5]).toArray]) (xs := [a2]) hI rfl sl65 inf73 rfl rfl (argc rfl rfl) (.cons rfl ⟨s3, s4, s5, rfl, (((((((hs3.mono hleH15).mono hleH25).mono hleH37).mono hleH40).mono hleH60).mono hleH134).mono hleH262), (((((((hs4.mono hleH15).mono hleH25).mono hleH37).mono hleH40).mono hleH60).mono hleH134).mono hleH262), (((((((hs5.mono hleH15).mono hleH25).mono hleH37).mono hleH40).mono hleH60).mono hleH134).mono hleH262)⟩ .nil) rfl) rfl ?_
           rintro _ w267 ⟨s265, H266, rfl, hI, hleH266, hs265, hfs265, hgs265⟩
           refine ⟨(hI.good.weakm [true, true, true, false, false] ((hleH134.trans hleH262).trans hleH266) rfl), ?_⟩
           obtain ⟨x268, hx268, hF⟩ := Option.bind_eq_some_iff.1 hF
           refine de 6 (by kernel_rfl) rfl rfl rfl (l_app (t := ty_Link) hI 4 rfl rfl sl65 inf73 rfl rfl rfl rfl (hs261.mono hleH266) hs265 (appI_some hx268).1) rfl ?_
           rintro _ w272 ⟨s269, H270, gg271, rfl, hI, hleH270, hs269⟩
           rw [← (appI_some hx268).2] at hs269
           replace hI : Inv B w272 H270 [.cb g6 _ 64, .cb g8 _ 73, .cb g64 _ 64, .cb g257 _ 64, .own s269 73 103 gg271] := hI
           refine ⟨(hI.good.weakm [true, true, true, false, false] (((hleH134.trans hleH262).trans hleH266).trans hleH270) rfl), ?_⟩
           obtain ⟨x273, hx273, hF⟩ := Option.bind_eq_some_iff.1 hF
           have hsp276 := spec_33 hx273 (((((((((hT.mono hleH15).mono hleH25).mono hleH37).mono hleH40).mono hleH60).mono hleH134).mono hleH262).mono hleH266).mono hleH270) (hI.part 0) (((((((((hs1.mono hleH15).mono hleH25).mono hleH37).mono hleH40).mono hleH60).mono hleH134).mono hleH262).mono hleH266).mono hleH270) hs269
           refine dfc 7 ([]) ([.cb g6 [ckI a0.Epoch, ckL s1] 64, .cb g8 [ckI a2.Block.Epoch, ckI a2.Block.Height, ckV flB a2.Block.Prev, ckV flB a2.Block.State, ckV flB a2.Block.Next, ckL s3, ckI a2.Cert.Round, ckL s4, ckI a2.Config.Epoch, ckL s5] 73, .cb g64 [ckI x59.1.Epoch, ckL s63] 64, .cb g257 [ckI 0, ckL Sv.nil] 64, .own s269 73 103 gg271]) (args := [.agg (flat [ckI a0.Epoch, ckL s1]).toArray, s269.v]) fc33 (by kernel_rfl) rfl rfl rfl rfl rfl hI (argc rfl (argc rfl rfl)) (hsp276) ?_
           rintro _ H274 _ w275 ⟨s277, rfl, hs277, rfl⟩ hleH274 hI
           replace hI : Inv B w275 H274 [.cb g6 _ 64, .cb g8 _ 73, .cb g64 _ 64, .cb g257 _ 64, .own s269 73 103 gg271] := hI
           refine ⟨(hI.good.weakm [true, true, true, false, false] ((((hleH134.trans hleH262).trans hleH266).trans hleH270).trans hleH274) rfl), ?_⟩
           refine dp (v := .tuple #[.agg (flat [ckI x273.1.Epoch, ckL s277]).toArray, .int .i64 x273.2.1, .int .i64 x273.2.2]) 8 (by kernel_rfl) rfl rfl (fun _ => r_mv rfl rfl) rfl hP ?_
           refine dp (v := .agg (flat [ckI x273.1.Epoch, ckL s277]).toArray) 9 (by kernel_rfl) rfl rfl (fun _ => r_ext rfl rfl rfl) rfl hP ?_
           refine dp (v := .int .i64 x273.2.1) 10 (by kernel_rfl) rfl rfl (fun _ => r_ext rfl rfl rfl) rfl hP ?_
           refine dp (v := .int .i64 x273.2.2) 11 (by kernel_rfl) rfl rfl (fun _ => r_ext rfl rfl rfl) rfl hP ?_
           refine dsl 13 (by kernel_rfl) rfl rfl rfl (l_st (off := 0) (p := 0) (m := 2) (new := [ckI x273.1.Epoch, ckL s277]) hI 3 rfl rfl sz64 rfl rfl rfl rfl rfl rfl) rfl ?_
           intro w278 hI
           replace hI : Inv B w278 H274 [.cb g6 _ 64, .cb g8 _ 73, .cb g64 _ 64, .cb g257 [ckI x273.1.Epoch, ckL s277] 64, .own s269 73 103 gg271] := hI
           refine dp (v := .int .i64 x273.2.1) 14 (by kernel_rfl) rfl rfl (fun _ => r_as rfl rfl) rfl hP ?_
           refine dp (v := .int .i64 x273.2.2) 15 (by kernel_rfl) rfl rfl (fun _ => r_as rfl rfl) rfl hP ?_
           refine dend (by kernel_rfl) ?_
           obtain rfl := Option.some.inj hF
           exact wmid ⟨H274, s277, g257, ((((hleH134.trans hleH262).trans hleH266).trans hleH270).trans hleH274), h112, h113, h114, h115, rfl, rfl, rfl, hs277, (hI.keep [false, true, true, true, false])⟩
          ·skip
           refine do_e rfl rfl (l_bs (t := ty_Link) (vs := [.agg (flat [ckI a2.Block.Epoch, ckI a2.Block.Height, ckV flB a2.Block.Prev, ckV flB a2.Block.State, ckV flB a2.Block.Next, ckL s3, ckI a2.Cert.Round, ckL s4, ckI a2.Config.Epoch, ckL s5]).toArray]) (xs := [a2]) hI rfl sl65 inf73 rfl rfl (argc rfl rfl) (.cons rfl ⟨s3, s4, s5, rfl, ((((((hs3.mono hleH15).mono hleH25).mono hleH37).mono hleH40).mono hleH60).mono hleH134), ((((((hs4.mono hleH15).mono hleH25).mono hleH37).mono hleH40).mono hleH60).mono hleH134), ((((((hs5.mono hleH15).mono hleH25).mono hleH37).mono hleH40).mono hleH60).mono hleH134)⟩ .nil) rfl) rfl ?_
           rintro _ w281 ⟨s279, H280, rfl, hI, hleH280, hs279, hfs279, hgs279⟩
           refine ⟨(hI.good.weakm [true, true, true, false] (hleH134.trans hleH280) rfl), ?_⟩
           replace hI := Inv.full (e := 73) (sz := 103) hI (show s133.n = s133.c from hfs133)
           replace hI : Inv B w281 H280 [.cb g6 _ 64, .cb g8 _ 73, .cb g64 _ 64, .cb g257 _ 64, .own s133 73 103 none] := hI
           obtain ⟨x283, hx283, hF⟩ := Option.bind_eq_some_iff.1 hF
           refine de 3 (by kernel_rfl) rfl rfl rfl (l_app (t := ty_Link) hI 4 rfl rfl sl65 inf73 rfl rfl rfl rfl (hs133.mono hleH280) (((((((hs2.mono hleH15).mono hleH25).mono hleH37).mono hleH40).mono hleH60).mono hleH134).mono hleH280) (appI_some hx283).1) rfl ?_
           rintro _ w287 ⟨s284, H285, gg286, rfl, hI, hleH285, hs284⟩
           rw [← (appI_some hx283).2] at hs284
           replace hI : Inv B w287 H285 [.cb g6 _ 64, .cb g8 _ 73, .cb g64 _ 64, .cb g257 _ 64, .own s284 73 103 gg286] := hI
           refine ⟨(hI.good.weakm [true, true, true, false, false] ((hleH134.trans hleH280).trans hleH285) rfl), ?_⟩
           obtain ⟨x288, hx288, hF⟩ := Option.bind_eq_some_iff.1 hF
           refine de 6 (by kernel_rfl) rfl rfl rfl (l_app (t := ty_Link) hI 4 rfl rfl sl65 inf73 rfl rfl rfl rfl hs284 (hs279.mono hleH285) (appI_some hx288).1) rfl ?_
           rintro _ w292 ⟨s289, H290, gg291, rfl, hI, hleH290, hs289⟩
           rw [← (appI_some hx288).2] at hs289
           replace hI : Inv B w292 H290 [.cb g6 _ 64, .cb g8 _ 73, .cb g64 _ 64, .cb g257 _ 64, .own s289 73 103 gg291] := hI
           refine ⟨(hI.good.weakm [true, true, true, false, false] (((hleH134.trans hleH280).trans hleH285).trans hleH290) rfl), ?_⟩
           obtain ⟨x293, hx293, hF⟩ := Option.bind_eq_some_iff.1 hF
           have hsp296 := spec_33 hx293 (((((((((hT.mono hleH15).mono hleH25).mono hleH37).mono hleH40).mono hleH60).mono hleH134).mono hleH280).mono hleH285).mono hleH290) (hI.part 0) (((((((((hs1.mono hleH15).mono hleH25).mono hleH37).mono hleH40).mono hleH60).mono hleH134).mono hleH280).mono hleH285).mono hleH290) hs289
           refine dfc 7 ([]) ([.cb g6 [ckI a0.Epoch, ckL s1] 64, .cb g8 [ckI a2.Block.Epoch, ckI a2.Block.Height, ckV flB a2.Block.Prev, ckV flB a2.Block.State, ckV flB a2.Block.Next, ckL s3, ckI a2.Cert.Round, ckL s4, ckI a2.Config.Epoch, ckL s5] 73, .cb g64 [ckI x59.1.Epoch, ckL s63] 64, .cb g257 [ckI 0, ckL Sv.nil] 64, .own s289 73 103 gg291]) (args := [.agg (flat [ckI a0.Epoch, ckL s1]).toArray, s289.v]) fc33 (by kernel_rfl) rfl rfl rfl rfl rfl hI (argc rfl (argc rfl rfl)) (hsp296) ?_
           rintro _ H294 _ w295 ⟨s297, rfl, hs297, rfl⟩ hleH294 hI
           replace hI : Inv B w295 H294 [.cb g6 _ 64, .cb g8 _ 73, .cb g64 _ 64, .cb g257 _ 64, .own s289 73 103 gg291] := hI
           refine ⟨(hI.good.weakm [true, true, true, false, false] ((((hleH134.trans hleH280).trans hleH285).trans hleH290).trans hleH294) rfl), ?_⟩
           refine dp (v := .tuple #[.agg (flat [ckI x293.1.Epoch, ckL s297]).toArray, .int .i64 x293.2.1, .int .i64 x293.2.2]) 8 (by kernel_rfl) rfl rfl (fun _ => r_mv rfl rfl) rfl hP ?_
           refine dp (v := .agg (flat [ckI x293.1.Epoch, ckL s297]).toArray) 9 (by kernel_rfl) rfl rfl (fun _ => r_ext rfl rfl rfl) rfl hP ?_
           refine dp (v := .int .i64 x293.2.1) 10 (by kernel_rfl) rfl rfl (fun _ => r_ext rfl rfl rfl) rfl hP ?_
           refine dp (v := .int .i64 x293.2.2) 11 (by kernel_rfl) rfl rfl (fun _ => r_ext rfl rfl rfl) rfl hP ?_
           refine dsl 13 (by kernel_rfl) rfl rfl rfl (l_st (off := 0) (p := 0) (m := 2) (new := [ckI x293.1.Epoch, ckL s297]) hI 3 rfl rfl sz64 rfl rfl rfl rfl rfl rfl) rfl ?_
           intro w298 hI
           replace hI : Inv B w298 H294 [.cb g6 _ 64, .cb g8 _ 73, .cb g64 _ 64, .cb g257 [ckI x293.1.Epoch, ckL s297] 64, .own s289 73 103 gg291] := hI
           refine dp (v := .int .i64 x293.2.1) 14 (by kernel_rfl) rfl rfl (fun _ => r_as rfl rfl) rfl hP ?_
           refine dp (v := .int .i64 x293.2.2) 15 (by kernel_rfl) rfl rfl (fun _ => r_as rfl rfl) rfl hP ?_
           refine dend (by kernel_rfl) ?_
           obtain rfl := Option.some.inj hF
           exact wmid ⟨H294, s297, g257, ((((hleH134.trans hleH280).trans hleH285).trans hleH290).trans hleH294), h112, h113, h114, h115, rfl, rfl, rfl, hs297, (hI.keep [false, true, true, true, false])⟩
        ·skip
         refine do_e rfl rfl (l_bs (t := ty_Link) (vs := [.agg (flat [ckI a2.Block.Epoch, ckI a2.Block.Height, ckV flB a2.Block.Prev, ckV flB a2.Block.State, ckV flB a2.Block.Next, ckL s3, ckI a2.Cert.Round, ckL s4, ckI a2.Config.Epoch, ckL s5]).toArray]) (xs := [a2]) hI rfl sl65 inf73 rfl rfl (argc rfl rfl) (.cons rfl ⟨s3, s4, s5, rfl, (((((hs3.mono hleH15).mono hleH25).mono hleH37).mono hleH40).mono hleH60), (((((hs4.mono hleH15).mono hleH25).mono hleH37).mono hleH40).mono hleH60), (((((hs5.mono hleH15).mono hleH25).mono hleH37).mono hleH40).mono hleH60)⟩ .nil) rfl) rfl ?_
         rintro _ w301 ⟨s299, H300, rfl, hI, hleH300, hs299, hfs299, hgs299⟩
         refine ⟨(hI.good.weakm [true, true, true] hleH300 rfl), ?_⟩
         refine dtwo 1 12 (by kernel_rfl) ?_ ?_
         ·skip
          refine do_e rfl rfl (l_bs (t := ty_Link) (vs := []) (xs := []) hI rfl sl65 inf73 rfl rfl rfl .nil rfl) rfl ?_
          rintro _ w304 ⟨s302, H303, rfl, hI, hleH303, hs302, hfs302, hgs302⟩
          refine ⟨(hI.good.weakm [true, true, true] (hleH300.trans hleH303) rfl), ?_⟩
          refine dtwo 3 12 (by kernel_rfl) ?_ ?_
          ·skip
           replace hI := Inv.full (e := 73) (sz := 103) hI (show s302.n = s302.c from hfs302)
           replace hI : Inv B w304 H303 [.cb g6 _ 64, .cb g8 _ 73, .cb g64 _ 64, .own s302 73 103 none] := hI
           obtain ⟨x306, hx306, hF⟩ := Option.bind_eq_some_iff.1 hF
           refine do_e rfl rfl (l_app (t := ty_Link) hI 3 rfl rfl sl65 inf73 rfl rfl rfl rfl hs302 (((((((hs2.mono hleH15).mono hleH25).mono hleH37).mono hleH40).mono hleH60).mono hleH300).mono hleH303) (appI_some hx306).1) rfl ?_
           rintro _ w310 ⟨s307, H308, gg309, rfl, hI, hleH308, hs307⟩
           rw [← (appI_some hx306).2] at hs307
           replace hI : Inv B w310 H308 [.cb g6 _ 64, .cb g8 _ 73, .cb g64 _ 64, .own s307 73 103 gg309] := hI
           refine ⟨(hI.good.weakm [true, true, true, false] ((hleH300.trans hleH303).trans hleH308) rfl), ?_⟩
           refine dtwo 6 12 (by kernel_rfl) ?_ ?_
           ·skip
            obtain ⟨x311, hx311, hF⟩ := Option.bind_eq_some_iff.1 hF
            refine do_e rfl rfl (l_app (t := ty_Link) hI 3 rfl rfl sl65 inf73 rfl rfl rfl rfl hs307 ((hs299.mono hleH303).mono hleH308) (appI_some hx311).1) rfl ?_
            rintro _ w315 ⟨s312, H313, gg314, rfl, hI, hleH313, hs312⟩
            rw [← (appI_some hx311).2] at hs312
            replace hI : Inv B w315 H313 [.cb g6 _ 64, .cb g8 _ 73, .cb g64 _ 64, .own s312 73 103 gg314] := hI
            refine ⟨(hI.good.weakm [true, true, true, false] (((hleH300.trans hleH303).trans hleH308).trans hleH313) rfl), ?_⟩
            refine dtwo 7 12 (by kernel_rfl) ?_ ?_
            ·skip
             obtain ⟨x316, hx316, hF⟩ := Option.bind_eq_some_iff.1 hF
             have hsp319 := spec_33 hx316 (((((((((hT.mono hleH15).mono hleH25).mono hleH37).mono hleH40).mono hleH60).mono hleH300).mono hleH303).mono hleH308).mono hleH313) (hI.part 0) (((((((((hs1.mono hleH15).mono hleH25).mono hleH37).mono hleH40).mono hleH60).mono hleH300).mono hleH303).mono hleH308).mono hleH313) hs312
             refine do_fc ([]) ([.cb g6 [ckI a0.Epoch, ckL s1] 64, .cb g8 [ckI a2.Block.Epoch, ckI a2.Block.Height, ckV flB a2.Block.Prev, ckV flB a2.Block.State, ckV flB a2.Block.Next, ckL s3, ckI a2.Cert.Round, ckL s4, ckI a2.Config.Epoch, ckL s5] 73, .cb g64 [ckI x59.1.Epoch, ckL s63] 64, .own s312 73 103 gg314]) (args := [.agg (flat [ckI a0.Epoch, ckL s1]).toArray, s312.v]) fc33 rfl rfl rfl rfl hI (argc rfl (argc rfl rfl)) (hsp319) ?_
             rintro _ H317 _ w318 ⟨s320, rfl, hs320, rfl⟩ hleH317 hI
             replace hI : Inv B w318 H317 [.cb g6 _ 64, .cb g8 _ 73, .cb g64 _ 64, .own s312 73 103 gg314] := hI
             refine ⟨(hI.good.weakm [true, true, true, false] ((((hleH300.trans hleH303).trans hleH308).trans hleH313).trans hleH317) rfl), ?_⟩
             refine dp (v := .tuple #[.agg (flat [ckI x316.1.Epoch, ckL s320]).toArray, .int .i64 x316.2.1, .int .i64 x316.2.2]) 8 (by kernel_rfl) rfl rfl (fun _ => r_mv rfl rfl) rfl hP ?_
             refine dp (v := .agg (flat [ckI x316.1.Epoch, ckL s320]).toArray) 9 (by kernel_rfl) rfl rfl (fun _ => r_ext rfl rfl rfl) rfl hP ?_
             refine dp (v := .int .i64 x316.2.1) 10 (by kernel_rfl) rfl rfl (fun _ => r_ext rfl rfl rfl) rfl hP ?_
             refine dp (v := .int .i64 x316.2.2) 11 (by kernel_rfl) rfl rfl (fun _ => r_ext rfl rfl rfl) rfl hP ?_
             refine de 12 (by kernel_rfl) rfl rfl rfl (l_al hI rfl ze64) rfl ?_
             rintro _ w322 ⟨g321, rfl, hI⟩
             replace hI : Inv B w322 H317 [.cb g6 _ 64, .cb g8 _ 73, .cb g64 _ 64, .own s312 73 103 gg314, .cb g321 [ckI 0, ckL Sv.nil] 64] := hI
             refine ⟨(hI.good.weakm [true, true, true, false, false] ((((hleH300.trans hleH303).trans hleH308).trans hleH313).trans hleH317) rfl), ?_⟩
             refine dsl 13 (by kernel_rfl) rfl rfl rfl (l_st (off := 0) (p := 0) (m := 2) (new := [ckI x316.1.Epoch, ckL s320]) hI 4 rfl rfl sz64 rfl rfl rfl rfl rfl rfl) rfl ?_
             intro w323 hI
             replace hI : Inv B w323 H317 [.cb g6 _ 64, .cb g8 _ 73, .cb g64 _ 64, .own s312 73 103 gg314, .cb g321 [ckI x316.1.Epoch, ckL s320] 64] := hI
             refine dp (v := .int .i64 x316.2.1) 14 (by kernel_rfl) rfl rfl (fun _ => r_as rfl rfl) rfl hP ?_
             refine dp (v := .int .i64 x316.2.2) 15 (by kernel_rfl) rfl rfl (fun _ => r_as rfl rfl) rfl hP ?_
             refine dend (by kernel_rfl) ?_
             obtain rfl := Option.some.inj hF
             exact wmid ⟨H317, s320, g321, ((((hleH300.trans hleH303).trans hleH308).trans hleH313).trans hleH317), h112, h113, h114, h115, rfl, rfl, rfl, hs320, (hI.keep [false, true, true, false, true])⟩
            ·skip
             refine do_e rfl rfl (l_al hI rfl ze64) rfl ?_
             rintro _ w325 ⟨g324, rfl, hI⟩
             replace hI : Inv B w325 H313 [.cb g6 _ 64, .cb g8 _ 73, .cb g64 _ 64, .own s312 73 103 gg314, .cb g324 [ckI 0, ckL Sv.nil] 64] := hI
             refine ⟨(hI.good.weakm [true, true, true, false, false] (((hleH300.trans hleH303).trans hleH308).trans hleH313) rfl), ?_⟩
             obtain ⟨x326, hx326, hF⟩ := Option.bind_eq_some_iff.1 hF
             have hsp329 := spec_33 hx326 (((((((((hT.mono hleH15).mono hleH25).mono hleH37).mono hleH40).mono hleH60).mono hleH300).mono hleH303).mono hleH308).mono hleH313) (hI.part 0) (((((((((hs1.mono hleH15).mono hleH25).mono hleH37).mono hleH40).mono hleH60).mono hleH300).mono hleH303).mono hleH308).mono hleH313) hs312
             refine dfc 7 ([]) ([.cb g6 [ckI a0.Epoch, ckL s1] 64, .cb g8 [ckI a2.Block.Epoch, ckI a2.Block.Height, ckV flB a2.Block.Prev, ckV flB a2.Block.State, ckV flB a2.Block.Next, ckL s3, ckI a2.Cert.Round, ckL s4, ckI a2.Config.Epoch, ckL s5] 73, .cb g64 [ckI x59.1.Epoch, ckL s63] 64, .own s312 73 103 gg314, .cb g324 [ckI 0, ckL Sv.nil] 64]) (args := [.agg (flat [ckI a0.Epoch, ckL s1]).toArray, s312.v]) fc33 (by kernel_rfl) rfl rfl rfl rfl rfl hI (argc rfl (argc rfl rfl)) (hsp329) ?_
             rintro _ H327 _ w328 ⟨s330, rfl, hs330, rfl⟩ hleH327 hI
             replace hI : Inv B w328 H327 [.cb g6 _ 64, .cb g8 _ 73, .cb g64 _ 64, .own s312 73 103 gg314, .cb g324 _ 64] := hI
             refine ⟨(hI.good.weakm [true, true, true, false, false] ((((hleH300.trans hleH303).trans hleH308).trans hleH313).trans hleH327) rfl), ?_⟩
             refine dp (v := .tuple #[.agg (flat [ckI x326.1.Epoch, ckL s330]).toArray, .int .i64 x326.2.1, .int .i64 x326.2.2]) 8 (by kernel_rfl) rfl rfl (fun _ => r_mv rfl rfl) rfl hP ?_
             refine dp (v := .agg (flat [ckI x326.1.Epoch, ckL s330]).toArray) 9 (by kernel_rfl) rfl rfl (fun _ => r_ext rfl rfl rfl) rfl hP ?_
             refine dp (v := .int .i64 x326.2.1) 10 (by kernel_rfl) rfl rfl (fun _ => r_ext rfl rfl rfl) rfl hP ?_
             refine dp (v := .int .i64 x326.2.2) 11 (by kernel_rfl) rfl rfl (fun _ => r_ext rfl rfl rfl) rfl hP ?_
             refine dsl 13 (by kernel_rfl) rfl rfl rfl (l_st (off := 0) (p := 0) (m := 2) (new := [ckI x326.1.Epoch, ckL s330]) hI 4 rfl rfl sz64 rfl rfl rfl rfl rfl rfl) rfl ?_
             intro w331 hI
             replace hI : Inv B w331 H327 [.cb g6 _ 64, .cb g8 _ 73, .cb g64 _ 64, .own s312 73 103 gg314, .cb g324 [ckI x326.1.Epoch, ckL s330] 64] := hI
             refine dp (v := .int .i64 x326.2.1) 14 (by kernel_rfl) rfl rfl (fun _ => r_as rfl rfl) rfl hP ?_
             refine dp (v := .int .i64 x326.2.2) 15 (by kernel_rfl) rfl rfl (fun _ => r_as rfl rfl) rfl hP ?_
             refine dend (by kernel_rfl) ?_
             obtain rfl := Option.some.inj hF
             exact wmid ⟨H327, s330, g324, ((((hleH300.trans hleH303).trans hleH308).trans hleH313).trans hleH327), h112, h113, h114, h115, rfl, rfl, rfl, hs330, (hI.keep [false, true, true, false, true])⟩
           ·skip
            refine do_e rfl rfl (l_al hI rfl ze64) rfl ?_
            rintro _ w333 ⟨g332, rfl, hI⟩
            replace hI : Inv B w333 H308 [.cb g6 _ 64, .cb g8 _ 73, .cb g64 _ 64, .own s307 73 103 gg309, .cb g332 [ckI 0, ckL Sv.nil] 64] := hI
            refine ⟨(hI.good.weakm [true, true, true, false, false] ((hleH300.trans hleH303).trans hleH308) rfl), ?_⟩
            obtain ⟨x334, hx334, hF⟩ := Option.bind_eq_some_iff.1 hF
            refine de 6 (by kernel_rfl) rfl rfl rfl (l_app (t := ty_Link) hI 3 rfl rfl sl65 inf73 rfl rfl rfl rfl hs307 ((hs299.mono hleH303).mono hleH308) (appI_some hx334).1) rfl ?_
            rintro _ w338 ⟨s335, H336, gg337, rfl, hI, hleH336, hs335⟩
            rw [← (appI_some hx334).2] at hs335
            replace hI : Inv B w338 H336 [.cb g6 _ 64, .cb g8 _ 73, .cb g64 _ 64, .own s335 73 103 gg337, .cb g332 _ 64] := hI
            refine ⟨(hI.good.weakm [true, true, true, false, false] (((hleH300.trans hleH303).trans hleH308).trans hleH336) rfl), ?_⟩
            obtain ⟨x339, hx339, hF⟩ := Option.bind_eq_some_iff.1 hF
            have hsp342 := spec_33 hx339 (((((((((hT.mono hleH15).mono hleH25).mono hleH37).mono hleH40).mono hleH60).mono hleH300).mono hleH303).mono hleH308).mono hleH336) (hI.part 0) (((((((((hs1.mono hleH15).mono hleH25).mono hleH37).mono hleH40).mono hleH60).mono hleH300).mono hleH303).mono hleH308).mono hleH336) hs335
            refine dfc 7 ([]) ([.cb g6 [ckI a0.Epoch, ckL s1] 64, .cb g8 [ckI a2.Block.Epoch, ckI a2.Block.Height, ckV flB a2.Block.Prev, ckV flB a2.Block.State, ckV flB a2.Block.Next, ckL s3, ckI a2.Cert.Round, ckL s4, ckI a2.Config.Epoch, ckL s5] 73, .cb g64 [ckI x59.1.Epoch, ckL s63] 64, .own s335 73 103 gg337, .cb g332 [ckI 0, ckL Sv.nil] 64]) (args := [.agg (flat [ckI a0.Epoch, ckL s1]).toArray, s335.v]) fc33 (by kernel_rfl) rfl rfl rfl rfl rfl hI (argc rfl (argc rfl rfl)) (hsp342) ?_
            rintro _ H340 _ w341 ⟨s343, rfl, hs343, rfl⟩ hleH340 hI
            replace hI : Inv B w341 H340 [.cb g6 _ 64, .cb g8 _ 73, .cb g64 _ 64, .own s335 73 103 gg337, .cb g332 _ 64] := hI
            refine ⟨(hI.good.weakm [true, true, true, false, false] ((((hleH300.trans hleH303).trans hleH308).trans hleH336).trans hleH340) rfl), ?_⟩
            refine dp (v := .tuple #[.agg (flat [ckI x339.1.Epoch, ckL s343]).toArray, .int .i64 x339.2.1, .int .i64 x339.2.2]) 8 (by kernel_rfl) rfl rfl (fun _ => r_mv rfl rfl) rfl hP ?_
            refine dp (v := .agg (flat [ckI x339.1.Epoch, ckL s343]).toArray) 9 (by kernel_rfl) rfl rfl (fun _ => r_ext rfl rfl rfl) rfl hP ?_
            refine dp (v := .int .i64 x339.2.1) 10 (by kernel_rfl) rfl rfl (fun _ => r_ext rfl rfl rfl) rfl hP ?_
            refine dp (v := .int .i64 x339.2.2) 11 (by kernel_rfl) rfl rfl (fun _ => r_ext rfl rfl rfl) rfl hP ?_
            refine dsl 13 (by kernel_rfl) rfl rfl rfl (l_st (off := 0) (p := 0) (m := 2) (new := [ckI x339.1.Epoch, ckL s343]) hI 4 rfl rfl sz64 rfl rfl rfl rfl rfl rfl) rfl ?_
            intro w344 hI
            replace hI : Inv B w344 H340 [.cb g6 _ 64, .cb g8 _ 73, .cb g64 _ 64, .own s335 73 103 gg337, .cb g332 [ckI x339.1.Epoch, ckL s343] 64] := hI
            refine dp (v := .int .i64 x339.2.1) 14 (by kernel_rfl) rfl rfl (fun _ => r_as rfl rfl) rfl hP ?_
            refine dp (v := .int .i64 x339.2.2) 15 (by kernel_rfl) rfl rfl (fun _ => r_as rfl rfl) rfl hP ?_
            refine dend (by kernel_rfl) ?_
            obtain rfl := Option.some.inj hF
            exact wmid ⟨H340, s343, g332, ((((hleH300.trans hleH303).trans hleH308).trans hleH336).trans hleH340), h112, h113, h114, h115, rfl, rfl, rfl, hs343, (hI.keep [false, true, true, false, true])⟩
          ·skip
           refine do_e rfl rfl (l_al hI rfl ze64) rfl ?_
           rintro _ w346 ⟨g345, rfl, hI⟩
           replace hI : Inv B w346 H303 [.cb g6 _ 64, .cb g8 _ 73, .cb g64 _ 64, .cb g345 [ckI 0, ckL Sv.nil] 64] := hI
           refine ⟨(hI.good.weakm [true, true, true, false] (hleH300.trans hleH303) rfl), ?_⟩
           replace hI := Inv.full (e := 73) (sz := 103) hI (show s302.n = s302.c from hfs302)
           replace hI : Inv B w346 H303 [.cb g6 _ 64, .cb g8 _ 73, .cb g64 _ 64, .cb g345 _ 64, .own s302 73 103 none] := hI
           obtain ⟨x348, hx348, hF⟩ := Option.bind_eq_some_iff.1 hF
           refine de 3 (by kernel_rfl) rfl rfl rfl (l_app (t := ty_Link) hI 4 rfl rfl sl65 inf73 rfl rfl rfl rfl hs302 (((((((hs2.mono hleH15).mono hleH25).mono hleH37).mono hleH40).mono hleH60).mono hleH300).mono hleH303) (appI_some hx348).1) rfl ?_
           rintro _ w352 ⟨s349, H350, gg351, rfl, hI, hleH350, hs349⟩
           rw [← (appI_some hx348).2] at hs349
           replace hI : Inv B w352 H350 [.cb g6 _ 64, .cb g8 _ 73, .cb g64 _ 64, .cb g345 _ 64, .own s349 73 103 gg351] := hI
           refine ⟨(hI.good.weakm [true, true, true, false, false] ((hleH300.trans hleH303).trans hleH350) rfl), ?_⟩
           obtain ⟨x353, hx353, hF⟩ := Option.bind_eq_some_iff.1 hF
           refine de 6 (by kernel_rfl) rfl rfl rfl (l_app (t := ty_Link) hI 4 rfl rfl sl65 inf73 rfl rfl rfl rfl hs349 ((hs299.mono hleH303).mono hleH350) (appI_some hx353).1) rfl ?_
           rintro _ w357 ⟨s354, H355, gg356, rfl, hI, hleH355, hs354⟩
           rw [← (appI_some hx353).2] at hs354
           replace hI : Inv B w357 H355 [.cb g6 _ 64, .cb g8 _ 73, .cb g64 _ 64, .cb g345 _ 64, .own s354 73 103 gg356] := hI
           refine ⟨(hI.good.weakm [true, true, true, false, false] (((hleH300.trans hleH303).trans hleH350).trans hleH355) rfl), ?_⟩
           obtain ⟨x358, hx358, hF⟩ := Option.bind_eq_some_iff.1 hF
           have hsp361 := spec_33 hx358 (((((((((hT.mono hleH15).mono hleH25).mono hleH37).mono hleH40).mono hleH60).mono hleH300).mono hleH303).mono hleH350).mono hleH355) (hI.part 0) (((((((((hs1.mono hleH15).mono hleH25).mono hleH37).mono hleH40).mono hleH60).mono hleH300).mono hleH303).mono hleH350).mono hleH355) hs354
           refine dfc 7 ([]) ([.cb g6 [ckI a0.Epoch, ckL s1] 64, .cb g8 [ckI a2.Block.Epoch, ckI a2.Block.Height, ckV flB a2.Block.Prev, ckV flB a2.Block.State, ckV flB a2.Block.Next, ckL s3, ckI a2.Cert.Round, ckL s4, ckI a2.Config.Epoch, ckL s5] 73, .cb g64 [ckI x59.1.Epoch, ckL s63] 64, .cb g345 [ckI 0, ckL Sv.nil] 64, .own s354 73 103 gg356]) (args := [.agg (flat [ckI a0.Epoch, ckL s1]).toArray, s354.v]) fc33 (by kernel_rfl) rfl rfl rfl rfl rfl hI (argc rfl (argc rfl rfl)) (hsp361) ?_
           rintro _ H359 _ w360 ⟨s362, rfl, hs362, rfl⟩ hleH359 hI
           replace hI : Inv B w360 H359 [.cb g6 _ 64, .cb g8 _ 73, .cb g64 _ 64, .cb g345 _ 64, .own s354 73 103 gg356] := hI
           refine ⟨(hI.good.weakm [true, true, true, false, false] ((((hleH300.trans hleH303).trans hleH350).trans hleH355).trans hleH359) rfl), ?_⟩
           refine dp (v := .tuple #[.agg (flat [ckI x358.1.Epoch, ckL s362]).toArray, .int .i64 x358.2.1, .int .i64 x358.2.2]) 8 (by kernel_rfl) rfl rfl (fun _ => r_mv rfl rfl) rfl hP ?_
           refine dp (v := .agg (flat [ckI x358.1.Epoch, ckL s362]).toArray) 9 (by kernel_rfl) rfl rfl (fun _ => r_ext rfl rfl rfl) rfl hP ?_
           refine dp (v := .int .i64 x358.2.1) 10 (by kernel_rfl) rfl rfl (fun _ => r_ext rfl rfl rfl) rfl hP ?_
           refine dp (v := .int .i64 x358.2.2) 11 (by kernel_rfl) rfl rfl (fun _ => r_ext rfl rfl rfl) rfl hP ?_
           refine dsl 13 (by kernel_rfl) rfl rfl rfl (l_st (off := 0) (p := 0) (m := 2) (new := [ckI x358.1.Epoch, ckL s362]) hI 3 rfl rfl sz64 rfl rfl rfl rfl rfl rfl) rfl ?_
           intro w363 hI
           replace hI : Inv B w363 H359 [.cb g6 _ 64, .cb g8 _ 73, .cb g64 _ 64, .cb g345 [ckI x358.1.Epoch, ckL s362] 64, .own s354 73 103 gg356] := hI
           refine dp (v := .int .i64 x358.2.1) 14 (by kernel_rfl) rfl rfl (fun _ => r_as rfl rfl) rfl hP ?_
           refine dp (v := .int .i64 x358.2.2) 15 (by kernel_rfl) rfl rfl (fun _ => r_as rfl rfl) rfl hP ?_
           refine dend (by kernel_rfl) ?_
           obtain rfl := Option.some.inj hF
           exact wmid ⟨H359, s362, g345, ((((hleH300.trans hleH303).trans hleH350).trans hleH355).trans hleH359), h112, h113, h114, h115, rfl, rfl, rfl, hs362, (hI.keep [false, true, true, true, false])⟩
         ·skip
          refine do_e rfl rfl (l_al hI rfl ze64) rfl ?_
          rintro _ w365 ⟨g364, rfl, hI⟩
          replace hI : Inv B w365 H300 [.cb g6 _ 64, .cb g8 _ 73, .cb g64 _ 64, .cb g364 [ckI 0, ckL Sv.nil] 64] := hI
          refine ⟨(hI.good.weakm [true, true, true, false] hleH300 rfl), ?_⟩
          refine de 1 (by kernel_rfl) rfl rfl rfl (l_bs (t := ty_Link) (vs := []) (xs := []) hI rfl sl65 inf73 rfl rfl rfl .nil rfl) rfl ?_
          rintro _ w368 ⟨s366, H367, rfl, hI, hleH367, hs366, hfs366, hgs366⟩
          refine ⟨(hI.good.weakm [true, true, true, false] (hleH300.trans hleH367) rfl), ?_⟩
          replace hI := Inv.full (e := 73) (sz := 103) hI (show s366.n = s366.c from hfs366)
          replace hI : Inv B w368 H367 [.cb g6 _ 64, .cb g8 _ 73, .cb g64 _ 64, .cb g364 _ 64, .own s366 73 103 none] := hI
          obtain ⟨x370, hx370, hF⟩ := Option.bind_eq_some_iff.1 hF
          refine de 3 (by kernel_rfl) rfl rfl rfl (l_app (t := ty_Link) hI 4 rfl rfl sl65 inf73 rfl rfl rfl rfl hs366 (((((((hs2.mono hleH15).mono hleH25).mono hleH37).mono hleH40).mono hleH60).mono hleH300).mono hleH367) (appI_some hx370).1) rfl ?_
          rintro _ w374 ⟨s371, H372, gg373, rfl, hI, hleH372, hs371⟩
          rw [← (appI_some hx370).2] at hs371
          replace hI : Inv B w374 H372 [.cb g6 _ 64, .cb g8 _ 73, .cb g64 _ 64, .cb g364 _ 64, .own s371 73 103 gg373] := hI
          refine ⟨(hI.good.weakm [true, true, true, false, false] ((hleH300.trans hleH367).trans hleH372) rfl), ?_⟩
          obtain ⟨x375, hx375, hF⟩ := Option.bind_eq_some_iff.1 hF
          refine de 6 (by kernel_rfl) rfl rfl rfl (l_app (t := ty_Link) hI 4 rfl rfl sl65 inf73 rfl rfl rfl rfl hs371 ((hs299.mono hleH367).mono hleH372) (appI_some hx375).1) rfl ?_
          rintro _ w379 ⟨s376, H377, gg378, rfl, hI, hleH377, hs376⟩
          rw [← (appI_some hx375).2] at hs376
          replace hI : Inv B w379 H377 [.cb g6 _ 64, .cb g8 _ 73, .cb g64 _ 64, .cb g364 _ 64, .own s376 73 103 gg378] := hI
          refine ⟨(hI.good.weakm [true, true, true, false, false] (((hleH300.trans hleH367).trans hleH372).trans hleH377) rfl), ?_⟩
          obtain ⟨x380, hx380, hF⟩ := Option.bind_eq_some_iff.1 hF
          have hsp383 := spec_33 hx380 (((((((((hT.mono hleH15).mono hleH25).mono hleH37).mono hleH40).mono hleH60).mono hleH300).mono hleH367).mono hleH372).mono hleH377) (hI.part 0) (((((((((hs1.mono hleH15).mono hleH25).mono hleH37).mono hleH40).mono hleH60).mono hleH300).mono hleH367).mono hleH372).mono hleH377) hs376
          refine dfc 7 ([]) ([.cb g6 [ckI a0.Epoch, ckL s1] 64, .cb g8 [ckI a2.Block.Epoch, ckI a2.Block.Height, ckV flB a2.Block.Prev, ckV flB a2.Block.State, ckV flB a2.Block.Next, ckL s3, ckI a2.Cert.Round, ckL s4, ckI a2.Config.Epoch, ckL s5] 73, .cb g64 [ckI x59.1.Epoch, ckL s63] 64, .cb g364 [ckI 0, ckL Sv.nil] 64, .own s376 73 103 gg378]) (args := [.agg (flat [ckI a0.Epoch, ckL s1]).toArray, s376.v]) fc33 (by kernel_rfl) rfl rfl rfl rfl rfl hI (argc rfl (argc rfl rfl)) (hsp383) ?_
          rintro _ H381 _ w382 ⟨s384, rfl, hs384, rfl⟩ hleH381 hI
          replace hI : Inv B w382 H381 [.cb g6 _ 64, .cb g8 _ 73, .cb g64 _ 64, .cb g364 _ 64, .own s376 73 103 gg378] := hI
          refine ⟨(hI.good.weakm [true, true, true, false, false] ((((hleH300.trans hleH367).trans hleH372).trans hleH377).trans hleH381) rfl), ?_⟩
          refine dp (v := .tuple #[.agg (flat [ckI x380.1.Epoch, ckL s384]).toArray, .int .i64 x380.2.1, .int .i64 x380.2.2]) 8 (by kernel_rfl) rfl rfl (fun _ => r_mv rfl rfl) rfl hP ?_
          refine dp (v := .agg (flat [ckI x380.1.Epoch, ckL s384]).toArray) 9 (by kernel_rfl) rfl rfl (fun _ => r_ext rfl rfl rfl) rfl hP ?_
          refine dp (v := .int .i64 x380.2.1) 10 (by kernel_rfl) rfl rfl (fun _ => r_ext rfl rfl rfl) rfl hP ?_
          refine dp (v := .int .i64 x380.2.2) 11 (by kernel_rfl) rfl rfl (fun _ => r_ext rfl rfl rfl) rfl hP ?_
          refine dsl 13 (by kernel_rfl) rfl rfl rfl (l_st (off := 0) (p := 0) (m := 2) (new := [ckI x380.1.Epoch, ckL s384]) hI 3 rfl rfl sz64 rfl rfl rfl rfl rfl rfl) rfl ?_
          intro w385 hI
          replace hI : Inv B w385 H381 [.cb g6 _ 64, .cb g8 _ 73, .cb g64 _ 64, .cb g364 [ckI x380.1.Epoch, ckL s384] 64, .own s376 73 103 gg378] := hI
          refine dp (v := .int .i64 x380.2.1) 14 (by kernel_rfl) rfl rfl (fun _ => r_as rfl rfl) rfl hP ?_
          refine dp (v := .int .i64 x380.2.2) 15 (by kernel_rfl) rfl rfl (fun _ => r_as rfl rfl) rfl hP ?_
          refine dend (by kernel_rfl) ?_
          obtain rfl := Option.some.inj hF
          exact wmid ⟨H381, s384, g364, ((((hleH300.trans hleH367).trans hleH372).trans hleH377).trans hleH381), h112, h113, h114, h115, rfl, rfl, rfl, hs384, (hI.keep [false, true, true, true, false])⟩
        ·skip
         refine do_e rfl rfl (l_al hI rfl ze64) rfl ?_
         rintro _ w387 ⟨g386, rfl, hI⟩
         replace hI : Inv B w387 H60 [.cb g6 _ 64, .cb g8 _ 73, .cb g64 _ 64, .cb g386 [ckI 0, ckL Sv.nil] 64] := hI
         refine ⟨(hI.good.weakm [true, true, true, false] (Hle.refl _) rfl), ?_⟩
         refine dtwo 1 5 (by kernel_rfl) ?_ ?_
         ·skip
          refine do_e rfl rfl (l_bs (t := ty_Link) (vs := []) (xs := []) hI rfl sl65 inf73 rfl rfl rfl .nil rfl) rfl ?_
          rintro _ w390 ⟨s388, H389, rfl, hI, hleH389, hs388, hfs388, hgs388⟩
          refine ⟨(hI.good.weakm [true, true, true, false] hleH389 rfl), ?_⟩
          refine dtwo 3 5 (by kernel_rfl) ?_ ?_
          ·skip
           replace hI := Inv.full (e := 73) (sz := 103) hI (show s388.n = s388.c from hfs388)
           replace hI : Inv B w390 H389 [.cb g6 _ 64, .cb g8 _ 73, .cb g64 _ 64, .cb g386 _ 64, .own s388 73 103 none] := hI
           obtain ⟨x392, hx392, hF⟩ := Option.bind_eq_some_iff.1 hF
           refine do_e rfl rfl (l_app (t := ty_Link) hI 4 rfl rfl sl65 inf73 rfl rfl rfl rfl hs388 ((((((hs2.mono hleH15).mono hleH25).mono hleH37).mono hleH40).mono hleH60).mono hleH389) (appI_some hx392).1) rfl ?_
           rintro _ w396 ⟨s393, H394, gg395, rfl, hI, hleH394, hs393⟩
           rw [← (appI_some hx392).2] at hs393
           replace hI : Inv B w396 H394 [.cb g6 _ 64, .cb g8 _ 73, .cb g64 _ 64, .cb g386 _ 64, .own s393 73 103 gg395] := hI
           refine ⟨(hI.good.weakm [true, true, true, false, false] (hleH389.trans hleH394) rfl), ?_⟩
           refine de 5 (by kernel_rfl) rfl rfl rfl (l_bs (t := ty_Link) (vs := [.agg (flat [ckI a2.Block.Epoch, ckI a2.Block.Height, ckV flB a2.Block.Prev, ckV flB a2.Block.State, ckV flB a2.Block.Next, ckL s3, ckI a2.Cert.Round, ckL s4, ckI a2.Config.Epoch, ckL s5]).toArray]) (xs := [a2]) hI rfl sl65 inf73 rfl rfl (argc rfl rfl) (.cons rfl ⟨s3, s4, s5, rfl, (((((((hs3.mono hleH15).mono hleH25).mono hleH37).mono hleH40).mono hleH60).mono hleH389).mono hleH394), (((((((hs4.mono hleH15).mono hleH25).mono hleH37).mono hleH40).mono hleH60).mono hleH389).mono hleH394), (((((((hs5.mono hleH15).mono hleH25).mono hleH37).mono hleH40).mono hleH60).mono hleH389).mono hleH394)⟩ .nil) rfl) rfl ?_
           rintro _ w399 ⟨s397, H398, rfl, hI, hleH398, hs397, hfs397, hgs397⟩
           refine ⟨(hI.good.weakm [true, true, true, false, false] ((hleH389.trans hleH394).trans hleH398) rfl), ?_⟩
           obtain ⟨x400, hx400, hF⟩ := Option.bind_eq_some_iff.1 hF
           refine de 6 (by kernel_rfl) rfl rfl rfl (l_app (t := ty_Link) hI 4 rfl rfl sl65 inf73 rfl rfl rfl rfl (hs393.mono hleH398) hs397 (appI_some hx400).1) rfl ?_
           rintro _ w404 ⟨s401, H402, gg403, rfl, hI, hleH402, hs401⟩
           rw [← (appI_some hx400).2] at hs401
           replace hI : Inv B w404 H402 [.cb g6 _ 64, .cb g8 _ 73, .cb g64 _ 64, .cb g386 _ 64, .own s401 73 103 gg403] := hI
           refine ⟨(hI.good.weakm [true, true, true, false, false] (((hleH389.trans hleH394).trans hleH398).trans hleH402) rfl), ?_⟩
           obtain ⟨x405, hx405, hF⟩ := Option.bind_eq_some_iff.1 hF
           have hsp408 := spec_33 hx405 (((((((((hT.mono hleH15).mono hleH25).mono hleH37).mono hleH40).mono hleH60).mono hleH389).mono hleH394).mono hleH398).mono hleH402) (hI.part 0) (((((((((hs1.mono hleH15).mono hleH25).mono hleH37).mono hleH40).mono hleH60).mono hleH389).mono hleH394).mono hleH398).mono hleH402) hs401
           refine dfc 7 ([]) ([.cb g6 [ckI a0.Epoch, ckL s1] 64, .cb g8 [ckI a2.Block.Epoch, ckI a2.Block.Height, ckV flB a2.Block.Prev, ckV flB a2.Block.State, ckV flB a2.Block.Next, ckL s3, ckI a2.Cert.Round, ckL s4, ckI a2.Config.Epoch, ckL s5] 73, .cb g64 [ckI x59.1.Epoch, ckL s63] 64, .cb g386 [ckI 0, ckL Sv.nil] 64, .own s401 73 103 gg403]) (args := [.agg (flat [ckI a0.Epoch, ckL s1]).toArray, s401.v]) fc33 (by kernel_rfl) rfl rfl rfl rfl rfl hI (argc rfl (argc rfl rfl)) (hsp408) ?_
           rintro _ H406 _ w407 ⟨s409, rfl, hs409, rfl⟩ hleH406 hI
           replace hI : Inv B w407 H406 [.cb g6 _ 64, .cb g8 _ 73, .cb g64 _ 64, .cb g386 _ 64, .own s401 73 103 gg403] := hI
           refine ⟨(hI.good.weakm [true, true, true, false, false] ((((hleH389.trans hleH394).trans hleH398).trans hleH402).trans hleH406) rfl), ?_⟩
           refine dp (v := .tuple #[.agg (flat [ckI x405.1.Epoch, ckL s409]).toArray, .int .i64 x405.2.1, .int .i64 x405.2.2]) 8 (by kernel_rfl) rfl rfl (fun _ => r_mv rfl rfl) rfl hP ?_
           refine dp (v := .agg (flat [ckI x405.1.Epoch, ckL s409]).toArray) 9 (by kernel_rfl) rfl rfl (fun _ => r_ext rfl rfl rfl) rfl hP ?_
           refine dp (v := .int .i64 x405.2.1) 10 (by kernel_rfl) rfl rfl (fun _ => r_ext rfl rfl rfl) rfl hP ?_
           refine dp (v := .int .i64 x405.2.2) 11 (by kernel_rfl) rfl rfl (fun _ => r_ext rfl rfl rfl) rfl hP ?_
           refine dsl 13 (by kernel_rfl) rfl rfl rfl (l_st (off := 0) (p := 0) (m := 2) (new := [ckI x405.1.Epoch, ckL s409]) hI 3 rfl rfl sz64 rfl rfl rfl rfl rfl rfl) rfl ?_
           intro w410 hI
           replace hI : Inv B w410 H406 [.cb g6 _ 64, .cb g8 _ 73, .cb g64 _ 64, .cb g386 [ckI x405.1.Epoch, ckL s409] 64, .own s401 73 103 gg403] := hI
           refine dp (v := .int .i64 x405.2.1) 14 (by kernel_rfl) rfl rfl (fun _ => r_as rfl rfl) rfl hP ?_
           refine dp (v := .int .i64 x405.2.2) 15 (by kernel_rfl) rfl rfl (fun _ => r_as rfl rfl) rfl hP ?_
           refine dend (by kernel_rfl) ?_
           obtain rfl := Option.some.inj hF
           exact wmid ⟨H406, s409, g386, ((((hleH389.trans hleH394).trans hleH398).trans hleH402).trans hleH406), h112, h113, h114, h115, rfl, rfl, rfl, hs409, (hI.keep [false, true, true, true, false])⟩
          ·skip
           refine do_e rfl rfl (l_bs (t := ty_Link) (vs := [.agg (flat [ckI a2.Block.Epoch, ckI a2.Block.Height, ckV flB a2.Block.Prev, ckV flB a2.Block.State, ckV flB a2.Block.Next, ckL s3, ckI a2.Cert.Round, ckL s4, ckI a2.Config.Epoch, ckL s5]).toArray]) (xs := [a2]) hI rfl sl65 inf73 rfl rfl (argc rfl rfl) (.cons rfl ⟨s3, s4, s5, rfl, ((((((hs3.mono hleH15).mono hleH25).mono hleH37).mono hleH40).mono hleH60).mono hleH389), ((((((hs4.mono hleH15).mono hleH25).mono hleH37).mono hleH40).mono hleH60).mono hleH389), ((((((hs5.mono hleH15).mono hleH25).mono hleH37).mono hleH40).mono hleH60).mono hleH389)⟩ .nil) rfl) rfl ?_
           rintro _ w413 ⟨s411, H412, rfl, hI, hleH412, hs411, hfs411, hgs411⟩
           refine ⟨(hI.good.weakm [true, true, true, false] (hleH389.trans hleH412) rfl), ?_⟩
           replace hI := Inv.full (e := 73) (sz := 103) hI (show s388.n = s388.c from hfs388)
           replace hI : Inv B w413 H412 [.cb g6 _ 64, .cb g8 _ 73, .cb g64 _ 64, .cb g386 _ 64, .own s388 73 103 none] := hI
           obtain ⟨x415, hx415, hF⟩ := Option.bind_eq_some_iff.1 hF
           refine de 3 (by kernel_rfl) rfl rfl rfl (l_app (t := ty_Link) hI 4 rfl rfl sl65 inf73 rfl rfl rfl rfl (hs388.mono hleH412) (((((((hs2.mono hleH15).mono hleH25).mono hleH37).mono hleH40).mono hleH60).mono hleH389).mono hleH412) (appI_some hx415).1) rfl ?_
           rintro _ w419 ⟨s416, H417, gg418, rfl, hI, hleH417, hs416⟩
           rw [← (appI_some hx415).2] at hs416
           replace hI : Inv B w419 H417 [.cb g6 _ 64, .cb g8 _ 73, .cb g64 _ 64, .cb g386 _ 64, .own s416 73 103 gg418] := hI
           refine ⟨(hI.good.weakm [true, true, true, false, false] ((hleH389.trans hleH412).trans hleH417) rfl), ?_⟩
           obtain ⟨x420, hx420, hF⟩ := Option.bind_eq_some_iff.1 hF
           refine de 6 (by kernel_rfl) rfl rfl rfl (l_app (t := ty_Link) hI 4 rfl rfl sl65 inf73 rfl rfl rfl rfl hs416 (hs411.mono hleH417) (appI_some hx420).1) rfl ?_
           rintro _ w424 ⟨s421, H422, gg423, rfl, hI, hleH422, hs421⟩
           rw [← (appI_some hx420).2] at hs421
           replace hI : Inv B w424 H422 [.cb g6 _ 64, .cb g8 _ 73, .cb g64 _ 64, .cb g386 _ 64, .own s421 73 103 gg423] := hI
           refine ⟨(hI.good.weakm [true, true, true, false, false] (((hleH389.trans hleH412).trans hleH417).trans hleH422) rfl), ?_⟩
           obtain ⟨x425, hx425, hF⟩ := Option.bind_eq_some_iff.1 hF
           have hsp428 := spec_33 hx425 (((((((((hT.mono hleH15).mono hleH25).mono hleH37).mono hleH40).mono hleH60).mono hleH389).mono hleH412).mono hleH417).mono hleH422) (hI.part 0) (((((((((hs1.mono hleH15).mono hleH25).mono hleH37).mono hleH40).mono hleH60).mono hleH389).mono hleH412).mono hleH417).mono hleH422) hs421
           refine dfc 7 ([]) ([.cb g6 [ckI a0.Epoch, ckL s1] 64, .cb g8 [ckI a2.Block.Epoch, ckI a2.Block.Height, ckV flB a2.Block.Prev, ckV flB a2.Block.State, ckV flB a2.Block.Next, ckL s3, ckI a2.Cert.Round, ckL s4, ckI a2.Config.Epoch, ckL s5] 73, .cb g64 [ckI x59.1.Epoch, ckL s63] 64, .cb g386 [ckI 0, ckL Sv.nil] 64, .own s421 73 103 gg423]) (args := [.agg (flat [ckI a0.Epoch, ckL s1]).toArray, s421.v]) fc33 (by kernel_rfl) rfl rfl rfl rfl rfl hI (argc rfl (argc rfl rfl)) (hsp428) ?_
           rintro _ H426 _ w427 ⟨s429, rfl, hs429, rfl⟩ hleH426 hI
           replace hI : Inv B w427 H426 [.cb g6 _ 64, .cb g8 _ 73, .cb g64 _ 64, .cb g386 _ 64, .own s421 73 103 gg423] := hI
           refine ⟨(hI.good.weakm [true, true, true, false, false] ((((hleH389.trans hleH412).trans hleH417).trans hleH422).trans hleH426) rfl), ?_⟩
           refine dp (v := .tuple #[.agg (flat [ckI x425.1.Epoch, ckL s429]).toArray, .int .i64 x425.2.1, .int .i64 x425.2.2]) 8 (by kernel_rfl) rfl rfl (fun _ => r_mv rfl rfl) rfl hP ?_
           refine dp (v := .agg (flat [ckI x425.1.Epoch, ckL s429]).toArray) 9 (by kernel_rfl) rfl rfl (fun _ => r_ext rfl rfl rfl) rfl hP ?_
           refine dp (v := .int .i64 x425.2.1) 10 (by kernel_rfl) rfl rfl (fun _ => r_ext rfl rfl rfl) rfl hP ?_
           refine dp (v := .int .i64 x425.2.2) 11 (by kernel_rfl) rfl rfl (fun _ => r_ext rfl rfl rfl) rfl hP ?_
           refine dsl 13 (by kernel_rfl) rfl rfl rfl (l_st (off := 0) (p := 0) (m := 2) (new := [ckI x425.1.Epoch, ckL s429]) hI 3 rfl rfl sz64 rfl rfl rfl rfl rfl rfl) rfl ?_
           intro w430 hI
           replace hI : Inv B w430 H426 [.cb g6 _ 64, .cb g8 _ 73, .cb g64 _ 64, .cb g386 [ckI x425.1.Epoch, ckL s429] 64, .own s421 73 103 gg423] := hI
           refine dp (v := .int .i64 x425.2.1) 14 (by kernel_rfl) rfl rfl (fun _ => r_as rfl rfl) rfl hP ?_
           refine dp (v := .int .i64 x425.2.2) 15 (by kernel_rfl) rfl rfl (fun _ => r_as rfl rfl) rfl hP ?_
           refine dend (by kernel_rfl) ?_
           obtain rfl := Option.some.inj hF
           exact wmid ⟨H426, s429, g386, ((((hleH389.trans hleH412).trans hleH417).trans hleH422).trans hleH426), h112, h113, h114, h115, rfl, rfl, rfl, hs429, (hI.keep [false, true, true, true, false])⟩
         ·skip
          refine do_e rfl rfl (l_bs (t := ty_Link) (vs := [.agg (flat [ckI a2.Block.Epoch, ckI a2.Block.Height, ckV flB a2.Block.Prev, ckV flB a2.Block.State, ckV flB a2.Block.Next, ckL s3, ckI a2.Cert.Round, ckL s4, ckI a2.Config.Epoch, ckL s5]).toArray]) (xs := [a2]) hI rfl sl65 inf73 rfl rfl (argc rfl rfl) (.cons rfl ⟨s3, s4, s5, rfl, (((((hs3.mono hleH15).mono hleH25).mono hleH37).mono hleH40).mono hleH60), (((((hs4.mono hleH15).mono hleH25).mono hleH37).mono hleH40).mono hleH60), (((((hs5.mono hleH15).mono hleH25).mono hleH37).mono hleH40).mono hleH60)⟩ .nil) rfl) rfl ?_
          rintro _ w433 ⟨s431, H432, rfl, hI, hleH432, hs431, hfs431, hgs431⟩
          refine ⟨(hI.good.weakm [true, true, true, false] hleH432 rfl), ?_⟩
          refine de 1 (by kernel_rfl) rfl rfl rfl (l_bs (t := ty_Link) (vs := []) (xs := []) hI rfl sl65 inf73 rfl rfl rfl .nil rfl) rfl ?_
          rintro _ w436 ⟨s434, H435, rfl, hI, hleH435, hs434, hfs434, hgs434⟩
          refine ⟨(hI.good.weakm [true, true, true, false] (hleH432.trans hleH435) rfl), ?_⟩
          replace hI := Inv.full (e := 73) (sz := 103) hI (show s434.n = s434.c from hfs434)
          replace hI : Inv B w436 H435 [.cb g6 _ 64, .cb g8 _ 73, .cb g64 _ 64, .cb g386 _ 64, .own s434 73 103 none] := hI
          obtain ⟨x438, hx438, hF⟩ := Option.bind_eq_some_iff.1 hF
          refine de 3 (by kernel_rfl) rfl rfl rfl (l_app (t := ty_Link) hI 4 rfl rfl sl65 inf73 rfl rfl rfl rfl hs434 (((((((hs2.mono hleH15).mono hleH25).mono hleH37).mono hleH40).mono hleH60).mono hleH432).mono hleH435) (appI_some hx438).1) rfl ?_
          rintro _ w442 ⟨s439, H440, gg441, rfl, hI, hleH440, hs439⟩
          rw [← (appI_some hx438).2] at hs439
          replace hI : Inv B w442 H440 [.cb g6 _ 64, .cb g8 _ 73, .cb g64 _ 64, .cb g386 _ 64, .own s439 73 103 gg441] := hI
          refine ⟨(hI.good.weakm [true, true, true, false, false] ((hleH432.trans hleH435).trans hleH440) rfl), ?_⟩
          obtain ⟨x443, hx443, hF⟩ := Option.bind_eq_some_iff.1 hF
          refine de 6 (by kernel_rfl) rfl rfl rfl (l_app (t := ty_Link) hI 4 rfl rfl sl65 inf73 rfl rfl rfl rfl hs439 ((hs431.mono hleH435).mono hleH440) (appI_some hx443).1) rfl ?_
          rintro _ w447 ⟨s444, H445, gg446, rfl, hI, hleH445, hs444⟩
          rw [← (appI_some hx443).2] at hs444
          replace hI : Inv B w447 H445 [.cb g6 _ 64, .cb g8 _ 73, .cb g64 _ 64, .cb g386 _ 64, .own s444 73 103 gg446] := hI
          refine ⟨(hI.good.weakm [true, true, true, false, false] (((hleH432.trans hleH435).trans hleH440).trans hleH445) rfl), ?_⟩
          obtain ⟨x448, hx448, hF⟩ := Option.bind_eq_some_iff.1 hF
          have hsp451 := spec_33 hx448 (((((((((hT.mono hleH15).mono hleH25).mono hleH37).mono hleH40).mono hleH60).mono hleH432).mono hleH435).mono hleH440).mono hleH445) (hI.part 0) (((((((((hs1.mono hleH15).mono hleH25).mono hleH37).mono hleH40).mono hleH60).mono hleH432).mono hleH435).mono hleH440).mono hleH445) hs444
          refine dfc 7 ([]) ([.cb g6 [ckI a0.Epoch, ckL s1] 64, .cb g8 [ckI a2.Block.Epoch, ckI a2.Block.Height, ckV flB a2.Block.Prev, ckV flB a2.Block.State, ckV flB a2.Block.Next, ckL s3, ckI a2.Cert.Round, ckL s4, ckI a2.Config.Epoch, ckL s5] 73, .cb g64 [ckI x59.1.Epoch, ckL s63] 64, .cb g386 [ckI 0, ckL Sv.nil] 64, .own s444 73 103 gg446]) (args := [.agg (flat [ckI a0.Epoch, ckL s1]).toArray, s444.v]) fc33 (by kernel_rfl) rfl rfl rfl rfl rfl hI (argc rfl (argc rfl rfl)) (hsp451) ?_
          rintro _ H449 _ w450 ⟨s452, rfl, hs452, rfl⟩ hleH449 hI
          replace hI : Inv B w450 H449 [.cb g6 _ 64, .cb g8 _ 73, .cb g64 _ 64, .cb g386 _ 64, .own s444 73 103 gg446] := hI
          refine ⟨(hI.good.weakm [true, true, true, false, false] ((((hleH432.trans hleH435).trans hleH440).trans hleH445).trans hleH449) rfl), ?_⟩
          refine dp (v := .tuple #[.agg (flat [ckI x448.1.Epoch, ckL s452]).toArray, .int .i64 x448.2.1, .int .i64 x448.2.2]) 8 (by kernel_rfl) rfl rfl (fun _ => r_mv rfl rfl) rfl hP ?_
          refine dp (v := .agg (flat [ckI x448.1.Epoch, ckL s452]).toArray) 9 (by kernel_rfl) rfl rfl (fun _ => r_ext rfl rfl rfl) rfl hP ?_
          refine dp (v := .int .i64 x448.2.1) 10 (by kernel_rfl) rfl rfl (fun _ => r_ext rfl rfl rfl) rfl hP ?_
          refine dp (v := .int .i64 x448.2.2) 11 (by kernel_rfl) rfl rfl (fun _ => r_ext rfl rfl rfl) rfl hP ?_
          refine dsl 13 (by kernel_rfl) rfl rfl rfl (l_st (off := 0) (p := 0) (m := 2) (new := [ckI x448.1.Epoch, ckL s452]) hI 3 rfl rfl sz64 rfl rfl rfl rfl rfl rfl) rfl ?_
          intro w453 hI
          replace hI : Inv B w453 H449 [.cb g6 _ 64, .cb g8 _ 73, .cb g64 _ 64, .cb g386 [ckI x448.1.Epoch, ckL s452] 64, .own s444 73 103 gg446] := hI
          refine dp (v := .int .i64 x448.2.1) 14 (by kernel_rfl) rfl rfl (fun _ => r_as rfl rfl) rfl hP ?_
          refine dp (v := .int .i64 x448.2.2) 15 (by kernel_rfl) rfl rfl (fun _ => r_as rfl rfl) rfl hP ?_
          refine dend (by kernel_rfl) ?_
          obtain rfl := Option.some.inj hF
          exact wmid ⟨H449, s452, g386, ((((hleH432.trans hleH435).trans hleH440).trans hleH445).trans hleH449), h112, h113, h114, h115, rfl, rfl, rfl, hs452, (hI.keep [false, true, true, true, false])⟩
       rintro ρ123 w120 ⟨H119, s121, g122, hleH119, h124, h125, h126, h127, h128, h129, h130, hs121, hI⟩
       refine wseq ?_
       refine wreg ?_
       refine lv (v := .agg (flat [ckI x59.1.Epoch, ckL s63]).toArray) rfl (r_cla (off := 0) (p := 0) (m := 2) (hI.good.ca 1 rfl) rfl ag64 h125 rfl rfl) rfl ?_
       refine lv (v := .int .i64 x100.Block.Height) rfl (r_mv rfl h127) rfl ?_
       refine lv (v := .agg (flat [ckI a2.Block.Epoch, ckI a2.Block.Height, ckV flB a2.Block.Prev, ckV flB a2.Block.State, ckV flB a2.Block.Next, ckL s3, ckI a2.Cert.Round, ckL s4, ckI a2.Config.Epoch, ckL s5]).toArray) rfl (r_cla (off := 0) (p := 0) (m := 10) (hI.good.ca 0 rfl) rfl ag73 h124 rfl rfl) rfl ?_
       obtain ⟨x454, hx454, hF⟩ := Option.bind_eq_some_iff.1 hF
       have hsp457 := spec_31 hx454 ((((((hT.mono hleH15).mono hleH25).mono hleH37).mono hleH40).mono hleH60).mono hleH119) (hI.part 0) (hs63.mono hleH119) ((((((hs3.mono hleH15).mono hleH25).mono hleH37).mono hleH40).mono hleH60).mono hleH119) ((((((hs4.mono hleH15).mono hleH25).mono hleH37).mono hleH40).mono hleH60).mono hleH119) ((((((hs5.mono hleH15).mono hleH25).mono hleH37).mono hleH40).mono hleH60).mono hleH119)
       refine fc ([]) ([.cb g8 [ckI a2.Block.Epoch, ckI a2.Block.Height, ckV flB a2.Block.Prev, ckV flB a2.Block.State, ckV flB a2.Block.Next, ckL s3, ckI a2.Cert.Round, ckL s4, ckI a2.Config.Epoch, ckL s5] 73, .cb g64 [ckI x59.1.Epoch, ckL s63] 64, .cb g122 [ckI x118.2.2.1, ckL s121] 64]) (args := [.agg (flat [ckI x59.1.Epoch, ckL s63]).toArray, .int .i64 x100.Block.Height, .agg (flat [ckI a2.Block.Epoch, ckI a2.Block.Height, ckV flB a2.Block.Prev, ckV flB a2.Block.State, ckV flB a2.Block.Next, ckL s3, ckI a2.Cert.Round, ckL s4, ckI a2.Config.Epoch, ckL s5]).toArray]) fc31 rfl rfl rfl hI (argc rfl (argc rfl (argc rfl rfl))) (hsp457) ?_
       rintro _ H455 _ w456 ⟨rfl, rfl⟩ hleH455 hI
       replace hI : Inv B w456 H455 [.cb g8 _ 73, .cb g64 _ 64, .cb g122 [ckI x118.2.2.1, ckL s121] 64] := hI
       refine lv (v := .int .i64 x454) rfl (r_as rfl rfl) rfl ?_
       refine wend ?_
       refine wthen ?_
       refine wren (fun ρ458 eρ458 => ?_)
       have h459 : opd ρ458 93 (.tmp 5) = .pointer (some ⟨g8, 0 + 0, none⟩) := (eρ458 5).trans h124
       have h460 : opd ρ458 93 (.tmp 8) = .int .i64 x59.2.1 := (eρ458 8).trans h126
       have h461 : opd ρ458 93 (.tmp 11) = .pointer (some ⟨g122, 0 + 0, none⟩) := (eρ458 11).trans h128
       have h462 : opd ρ458 93 (.tmp 12) = .int .i64 x118.1 := (eρ458 12).trans h129
       have h463 : opd ρ458 93 (.tmp 13) = .int .i64 x118.2.1 := (eρ458 13).trans h130
       have h464 : opd ρ458 93 (.tmp 14) = .int .i64 x454 := eρ458 14
       clear eρ458
       refine wseq ?_
       refine wreg ?_
       refine lv (v := .int .i64 x118.2.1) rfl (r_mv rfl h463) rfl ?_
       refine lv (v := .int .i64 x454) rfl (r_mv rfl h464) rfl ?_
       refine lv (v := .bool (decide (x118.2.1 = x454))) rfl (r_eql rfl rfl rfl rfl) rfl ?_
       by_cases hc465 : x118.2.1 = x454
       ·skip
        rw [if_pos hc465] at hF
        have hbhc465 : (decide (x118.2.1 = x454)) = true := decide_eq_true hc465
        refine lv (v := .bool true) rfl (r_mv rfl ((show opd _ _ _ = _ from rfl).trans (congrArg Value.bool hbhc465))) rfl ?_
        refine lv (v := .int .i64 x454) rfl (r_mv rfl h464) rfl ?_
        refine lv (v := .bool (decide (x454 ≠ 0))) rfl (r_neq rfl rfl rfl rfl) rfl ?_
        by_cases hc466 : x454 ≠ 0
        ·skip
         rw [if_pos hc466] at hF
         have hbhc466 : (decide (x454 ≠ 0)) = true := decide_eq_true hc466
         refine lv (v := .bool true) rfl (r_mv rfl ((show opd _ _ _ = _ from rfl).trans (congrArg Value.bool hbhc466))) rfl ?_
         refine lv (v := .int .i64 x118.1) rfl (r_mv rfl h462) rfl ?_
         refine lv (v := .int .i64 x59.2.1) rfl (r_mv rfl h460) rfl ?_
         refine lv (v := .bool (decide (x118.1 = x59.2.1))) rfl (r_eql rfl rfl rfl rfl) rfl ?_
         refine lv (v := .bool (decide (x118.1 = x59.2.1))) rfl (r_pkT rfl rfl rfl) rfl ?_
         by_cases hc467 : x118.1 = x59.2.1
         ·skip
          rw [if_pos hc467] at hF
          have hbhc467 : (decide (x118.1 = x59.2.1)) = true := decide_eq_true hc467
          refine lv (v := .bool true) rfl (r_mv rfl ((show opd _ _ _ = _ from rfl).trans (congrArg Value.bool hbhc467))) rfl ?_
          with_reducible refine lx (d := 77) (by kernel_rfl) (by kernel_rfl) ?_
          with_reducible refine lx (d := 78) (by kernel_rfl) (by kernel_rfl) ?_
          with_reducible refine lx (d := 79) (by kernel_rfl) (by kernel_rfl) ?_
          with_reducible refine lx (d := 80) (by kernel_rfl) (by kernel_rfl) ?_
          with_reducible refine lx (d := 81) (by kernel_rfl) (by kernel_rfl) ?_
          with_reducible refine lx (d := 82) (by kernel_rfl) (by kernel_rfl) ?_
          with_reducible refine lx (d := 83) (by kernel_rfl) (by kernel_rfl) ?_
          with_reducible refine lx (d := 84) (by kernel_rfl) (by kernel_rfl) ?_
          with_reducible refine lx (d := 85) (by kernel_rfl) (by kernel_rfl) ?_
          with_reducible refine lx (d := 86) (by kernel_rfl) (by kernel_rfl) ?_
          with_reducible refine lx (d := 87) (by kernel_rfl) (by kernel_rfl) ?_
          with_reducible refine lx (d := 88) (by kernel_rfl) (by kernel_rfl) ?_
          with_reducible refine lx (d := 89) (by kernel_rfl) (by kernel_rfl) ?_
          with_reducible refine lx (d := 90) (by kernel_rfl) (by kernel_rfl) ?_
          refine lv (v := .bool true) rfl (r_pkT rfl rfl rfl) rfl ?_
          refine lv (v := .bool true) rfl (r_pkT rfl rfl rfl) rfl ?_
          refine lv (v := .bool true) rfl (r_as rfl rfl) rfl ?_
          refine wend ?_
          refine wthen ?_
          refine wren (fun ρ468 eρ468 => ?_)
          have h469 : opd ρ468 93 (.tmp 6) = .bool true := eρ468 6
          clear eρ468
          refine wp_ret ?_
          obtain rfl := Option.some.inj hF
          subst hB
          refine finR (rs := [.tmp 6]) (vs := [.bool true]) rfl ⟨h469, trivial⟩ ?_
          exact hI.fin 0 ⟨rfl, rfl⟩
         ·skip
          rw [if_neg hc467] at hF
          have hbhc467 : (decide (x118.1 = x59.2.1)) = false := decide_eq_false hc467
          refine lv (v := .bool false) rfl (r_mv rfl ((show opd _ _ _ = _ from rfl).trans (congrArg Value.bool hbhc467))) rfl ?_
          refine lv (v := .int .i64 x454) rfl (r_mv rfl h464) rfl ?_
          refine lv (v := .bool (decide (x454 = 0))) rfl (r_eql rfl rfl rfl rfl) rfl ?_
          by_cases hc470 : x454 = 0
          ·skip
           rw [if_pos hc470] at hF
           have hbhc470 : (decide (x454 = 0)) = true := decide_eq_true hc470
           refine lv (v := .bool true) rfl (r_mv rfl ((show opd _ _ _ = _ from rfl).trans (congrArg Value.bool hbhc470))) rfl ?_
           refine lv (v := .int .i64 x118.1) rfl (r_mv rfl h462) rfl ?_
           refine lv (v := .int .i64 x59.2.1) rfl (r_mv rfl h460) rfl ?_
           refine lv (v := .int .i64 (wI (x59.2.1 + 1))) rfl (r_addw rfl rfl rfl) rfl ?_
           refine lv (v := .bool (decide (x118.1 = (wI (x59.2.1 + 1))))) rfl (r_eql rfl rfl rfl rfl) rfl ?_
           refine lv (v := .bool (decide (x118.1 = (wI (x59.2.1 + 1))))) rfl (r_pkT rfl rfl rfl) rfl ?_
           by_cases hc471 : x118.1 = (wI (x59.2.1 + 1))
           ·skip
            rw [if_pos hc471] at hF
            have hbhc471 : (decide (x118.1 = (wI (x59.2.1 + 1)))) = true := decide_eq_true hc471
            refine lv (v := .bool true) rfl (r_mv rfl ((show opd _ _ _ = _ from rfl).trans (congrArg Value.bool hbhc471))) rfl ?_
            refine lv (v := .agg (flat [ckI x118.2.2.1, ckL s121]).toArray) rfl (r_cla (off := 0) (p := 0) (m := 2) (hI.good.ca 2 rfl) rfl ag64 h461 rfl rfl) rfl ?_
            refine lv (v := .pointer (some ⟨g8, 0 + 101, none⟩)) rfl (l_fa (j := 0) (i := 0) rfl fl73_2 h459 rfl) rfl ?_
            refine lv (v := .agg (flat [ckI a2.Config.Epoch, ckL s5]).toArray) rfl (r_cla (off := 101) (p := 8) (m := 2) (hI.good.ca 0 rfl) rfl ag64 rfl rfl rfl) rfl ?_
            obtain ⟨x472, hx472, hF⟩ := Option.bind_eq_some_iff.1 hF
            have hsp475 := spec_35 hx472 (((((((hT.mono hleH15).mono hleH25).mono hleH37).mono hleH40).mono hleH60).mono hleH119).mono hleH455) (hI.part 0) (hs121.mono hleH455) (((((((hs5.mono hleH15).mono hleH25).mono hleH37).mono hleH40).mono hleH60).mono hleH119).mono hleH455)
            refine fc ([]) ([.cb g8 [ckI a2.Block.Epoch, ckI a2.Block.Height, ckV flB a2.Block.Prev, ckV flB a2.Block.State, ckV flB a2.Block.Next, ckL s3, ckI a2.Cert.Round, ckL s4, ckI a2.Config.Epoch, ckL s5] 73, .cb g64 [ckI x59.1.Epoch, ckL s63] 64, .cb g122 [ckI x118.2.2.1, ckL s121] 64]) (args := [.agg (flat [ckI x118.2.2.1, ckL s121]).toArray, .agg (flat [ckI a2.Config.Epoch, ckL s5]).toArray]) fc35 rfl rfl rfl hI (argc rfl (argc rfl rfl)) (hsp475) ?_
            rintro _ H473 _ w474 ⟨rfl, rfl⟩ hleH473 hI
            replace hI : Inv B w474 H473 [.cb g8 _ 73, .cb g64 _ 64, .cb g122 _ 64] := hI
            refine lv (v := .bool x472) rfl (r_pkT rfl rfl rfl) rfl ?_
            refine lv (v := .bool x472) rfl (r_pkF rfl rfl rfl) rfl ?_
            refine lv (v := .bool x472) rfl (r_pkT rfl rfl rfl) rfl ?_
            refine lv (v := .bool x472) rfl (r_as rfl rfl) rfl ?_
            refine wend ?_
            refine wthen ?_
            refine wren (fun ρ476 eρ476 => ?_)
            have h477 : opd ρ476 93 (.tmp 6) = .bool x472 := eρ476 6
            clear eρ476
            refine wp_ret ?_
            obtain rfl := Option.some.inj hF
            subst hB
            refine finR (rs := [.tmp 6]) (vs := [.bool x472]) rfl ⟨h477, trivial⟩ ?_
            exact hI.fin 0 ⟨rfl, rfl⟩
           ·skip
            rw [if_neg hc471] at hF
            have hbhc471 : (decide (x118.1 = (wI (x59.2.1 + 1)))) = false := decide_eq_false hc471
            refine lv (v := .bool false) rfl (r_mv rfl ((show opd _ _ _ = _ from rfl).trans (congrArg Value.bool hbhc471))) rfl ?_
            with_reducible refine lx (d := 86) (by kernel_rfl) (by kernel_rfl) ?_
            with_reducible refine lx (d := 87) (by kernel_rfl) (by kernel_rfl) ?_
            with_reducible refine lx (d := 88) (by kernel_rfl) (by kernel_rfl) ?_
            with_reducible refine lx (d := 89) (by kernel_rfl) (by kernel_rfl) ?_
            refine lv (v := .bool false) rfl (r_pkF rfl rfl rfl) rfl ?_
            refine lv (v := .bool false) rfl (r_pkF rfl rfl rfl) rfl ?_
            refine lv (v := .bool false) rfl (r_pkT rfl rfl rfl) rfl ?_
            refine lv (v := .bool false) rfl (r_as rfl rfl) rfl ?_
            refine wend ?_
            refine wthen ?_
            refine wren (fun ρ478 eρ478 => ?_)
            have h479 : opd ρ478 93 (.tmp 6) = .bool false := eρ478 6
            clear eρ478
            refine wp_ret ?_
            obtain rfl := Option.some.inj hF
            subst hB
            refine finR (rs := [.tmp 6]) (vs := [.bool false]) rfl ⟨h479, trivial⟩ ?_
            exact hI.fin 0 ⟨rfl, rfl⟩
          ·skip
           rw [if_neg hc470] at hF
           have hbhc470 : (decide (x454 = 0)) = false := decide_eq_false hc470
           refine lv (v := .bool false) rfl (r_mv rfl ((show opd _ _ _ = _ from rfl).trans (congrArg Value.bool hbhc470))) rfl ?_
           with_reducible refine lx (d := 80) (by kernel_rfl) (by kernel_rfl) ?_
           with_reducible refine lx (d := 81) (by kernel_rfl) (by kernel_rfl) ?_
           with_reducible refine lx (d := 82) (by kernel_rfl) (by kernel_rfl) ?_
           with_reducible refine lx (d := 83) (by kernel_rfl) (by kernel_rfl) ?_
           refine lv (v := .bool false) rfl (r_pkF rfl rfl rfl) rfl ?_
           refine lv (v := .bool false) rfl (r_mv rfl rfl) rfl ?_
           with_reducible refine lx (d := 86) (by kernel_rfl) (by kernel_rfl) ?_
           with_reducible refine lx (d := 87) (by kernel_rfl) (by kernel_rfl) ?_
           with_reducible refine lx (d := 88) (by kernel_rfl) (by kernel_rfl) ?_
           with_reducible refine lx (d := 89) (by kernel_rfl) (by kernel_rfl) ?_
           refine lv (v := .bool false) rfl (r_pkF rfl rfl rfl) rfl ?_
           refine lv (v := .bool false) rfl (r_pkF rfl rfl rfl) rfl ?_
           refine lv (v := .bool false) rfl (r_pkT rfl rfl rfl) rfl ?_
           refine lv (v := .bool false) rfl (r_as rfl rfl) rfl ?_
           refine wend ?_
           refine wthen ?_
           refine wren (fun ρ480 eρ480 => ?_)
           have h481 : opd ρ480 93 (.tmp 6) = .bool false := eρ480 6
           clear eρ480
           refine wp_ret ?_
           obtain rfl := Option.some.inj hF
           subst hB
           refine finR (rs := [.tmp 6]) (vs := [.bool false]) rfl ⟨h481, trivial⟩ ?_
           exact hI.fin 0 ⟨rfl, rfl⟩
        ·skip
         rw [if_neg hc466] at hF
         have hbhc466 : (decide (x454 ≠ 0)) = false := decide_eq_false hc466
         refine lv (v := .bool false) rfl (r_mv rfl ((show opd _ _ _ = _ from rfl).trans (congrArg Value.bool hbhc466))) rfl ?_
         with_reducible refine lx (d := 72) (by kernel_rfl) (by kernel_rfl) ?_
         with_reducible refine lx (d := 73) (by kernel_rfl) (by kernel_rfl) ?_
         with_reducible refine lx (d := 74) (by kernel_rfl) (by kernel_rfl) ?_
         refine lv (v := .bool false) rfl (r_pkF rfl rfl rfl) rfl ?_
         refine lv (v := .bool false) rfl (r_mv rfl rfl) rfl ?_
         refine lv (v := .int .i64 x454) rfl (r_mv rfl h464) rfl ?_
         refine lv (v := .bool (decide (x454 = 0))) rfl (r_eql rfl rfl rfl rfl) rfl ?_
         by_cases hc482 : x454 = 0
         ·skip
          rw [if_pos hc482] at hF
          have hbhc482 : (decide (x454 = 0)) = true := decide_eq_true hc482
          refine lv (v := .bool true) rfl (r_mv rfl ((show opd _ _ _ = _ from rfl).trans (congrArg Value.bool hbhc482))) rfl ?_
          refine lv (v := .int .i64 x118.1) rfl (r_mv rfl h462) rfl ?_
          refine lv (v := .int .i64 x59.2.1) rfl (r_mv rfl h460) rfl ?_
          refine lv (v := .int .i64 (wI (x59.2.1 + 1))) rfl (r_addw rfl rfl rfl) rfl ?_
          refine lv (v := .bool (decide (x118.1 = (wI (x59.2.1 + 1))))) rfl (r_eql rfl rfl rfl rfl) rfl ?_
          refine lv (v := .bool (decide (x118.1 = (wI (x59.2.1 + 1))))) rfl (r_pkT rfl rfl rfl) rfl ?_
          by_cases hc483 : x118.1 = (wI (x59.2.1 + 1))
          ·skip
           rw [if_pos hc483] at hF
           have hbhc483 : (decide (x118.1 = (wI (x59.2.1 + 1)))) = true := decide_eq_true hc483
           refine lv (v := .bool true) rfl (r_mv rfl ((show opd _ _ _ = _ from rfl).trans (congrArg Value.bool hbhc483))) rfl ?_
           refine lv (v := .agg (flat [ckI x118.2.2.1, ckL s121]).toArray) rfl (r_cla (off := 0) (p := 0) (m := 2) (hI.good.ca 2 rfl) rfl ag64 h461 rfl rfl) rfl ?_
           refine lv (v := .pointer (some ⟨g8, 0 + 101, none⟩)) rfl (l_fa (j := 0) (i := 0) rfl fl73_2 h459 rfl) rfl ?_
           refine lv (v := .agg (flat [ckI a2.Config.Epoch, ckL s5]).toArray) rfl (r_cla (off := 101) (p := 8) (m := 2) (hI.good.ca 0 rfl) rfl ag64 rfl rfl rfl) rfl ?_
           obtain ⟨x484, hx484, hF⟩ := Option.bind_eq_some_iff.1 hF
           have hsp487 := spec_35 hx484 (((((((hT.mono hleH15).mono hleH25).mono hleH37).mono hleH40).mono hleH60).mono hleH119).mono hleH455) (hI.part 0) (hs121.mono hleH455) (((((((hs5.mono hleH15).mono hleH25).mono hleH37).mono hleH40).mono hleH60).mono hleH119).mono hleH455)
           refine fc ([]) ([.cb g8 [ckI a2.Block.Epoch, ckI a2.Block.Height, ckV flB a2.Block.Prev, ckV flB a2.Block.State, ckV flB a2.Block.Next, ckL s3, ckI a2.Cert.Round, ckL s4, ckI a2.Config.Epoch, ckL s5] 73, .cb g64 [ckI x59.1.Epoch, ckL s63] 64, .cb g122 [ckI x118.2.2.1, ckL s121] 64]) (args := [.agg (flat [ckI x118.2.2.1, ckL s121]).toArray, .agg (flat [ckI a2.Config.Epoch, ckL s5]).toArray]) fc35 rfl rfl rfl hI (argc rfl (argc rfl rfl)) (hsp487) ?_
           rintro _ H485 _ w486 ⟨rfl, rfl⟩ hleH485 hI
           replace hI : Inv B w486 H485 [.cb g8 _ 73, .cb g64 _ 64, .cb g122 _ 64] := hI
           refine lv (v := .bool x484) rfl (r_pkT rfl rfl rfl) rfl ?_
           refine lv (v := .bool x484) rfl (r_pkF rfl rfl rfl) rfl ?_
           refine lv (v := .bool x484) rfl (r_pkT rfl rfl rfl) rfl ?_
           refine lv (v := .bool x484) rfl (r_as rfl rfl) rfl ?_
           refine wend ?_
           refine wthen ?_
           refine wren (fun ρ488 eρ488 => ?_)
           have h489 : opd ρ488 93 (.tmp 6) = .bool x484 := eρ488 6
           clear eρ488
           refine wp_ret ?_
           obtain rfl := Option.some.inj hF
           subst hB
           refine finR (rs := [.tmp 6]) (vs := [.bool x484]) rfl ⟨h489, trivial⟩ ?_
           exact hI.fin 0 ⟨rfl, rfl⟩
          ·skip
           rw [if_neg hc483] at hF
           have hbhc483 : (decide (x118.1 = (wI (x59.2.1 + 1)))) = false := decide_eq_false hc483
           refine lv (v := .bool false) rfl (r_mv rfl ((show opd _ _ _ = _ from rfl).trans (congrArg Value.bool hbhc483))) rfl ?_
           with_reducible refine lx (d := 86) (by kernel_rfl) (by kernel_rfl) ?_
           with_reducible refine lx (d := 87) (by kernel_rfl) (by kernel_rfl) ?_
           with_reducible refine lx (d := 88) (by kernel_rfl) (by kernel_rfl) ?_
           with_reducible refine lx (d := 89) (by kernel_rfl) (by kernel_rfl) ?_
           refine lv (v := .bool false) rfl (r_pkF rfl rfl rfl) rfl ?_
           refine lv (v := .bool false) rfl (r_pkF rfl rfl rfl) rfl ?_
           refine lv (v := .bool false) rfl (r_pkT rfl rfl rfl) rfl ?_
           refine lv (v := .bool false) rfl (r_as rfl rfl) rfl ?_
           refine wend ?_
           refine wthen ?_
           refine wren (fun ρ490 eρ490 => ?_)
           have h491 : opd ρ490 93 (.tmp 6) = .bool false := eρ490 6
           clear eρ490
           refine wp_ret ?_
           obtain rfl := Option.some.inj hF
           subst hB
           refine finR (rs := [.tmp 6]) (vs := [.bool false]) rfl ⟨h491, trivial⟩ ?_
           exact hI.fin 0 ⟨rfl, rfl⟩
         ·skip
          rw [if_neg hc482] at hF
          have hbhc482 : (decide (x454 = 0)) = false := decide_eq_false hc482
          refine lv (v := .bool false) rfl (r_mv rfl ((show opd _ _ _ = _ from rfl).trans (congrArg Value.bool hbhc482))) rfl ?_
          with_reducible refine lx (d := 80) (by kernel_rfl) (by kernel_rfl) ?_
          with_reducible refine lx (d := 81) (by kernel_rfl) (by kernel_rfl) ?_
          with_reducible refine lx (d := 82) (by kernel_rfl) (by kernel_rfl) ?_
          with_reducible refine lx (d := 83) (by kernel_rfl) (by kernel_rfl) ?_
          refine lv (v := .bool false) rfl (r_pkF rfl rfl rfl) rfl ?_
          refine lv (v := .bool false) rfl (r_mv rfl rfl) rfl ?_
          with_reducible refine lx (d := 86) (by kernel_rfl) (by kernel_rfl) ?_
          with_reducible refine lx (d := 87) (by kernel_rfl) (by kernel_rfl) ?_
          with_reducible refine lx (d := 88) (by kernel_rfl) (by kernel_rfl) ?_
          with_reducible refine lx (d := 89) (by kernel_rfl) (by kernel_rfl) ?_
          refine lv (v := .bool false) rfl (r_pkF rfl rfl rfl) rfl ?_
          refine lv (v := .bool false) rfl (r_pkF rfl rfl rfl) rfl ?_
          refine lv (v := .bool false) rfl (r_pkT rfl rfl rfl) rfl ?_
          refine lv (v := .bool false) rfl (r_as rfl rfl) rfl ?_
          refine wend ?_
          refine wthen ?_
          refine wren (fun ρ492 eρ492 => ?_)
          have h493 : opd ρ492 93 (.tmp 6) = .bool false := eρ492 6
          clear eρ492
          refine wp_ret ?_
          obtain rfl := Option.some.inj hF
          subst hB
          refine finR (rs := [.tmp 6]) (vs := [.bool false]) rfl ⟨h493, trivial⟩ ?_
          exact hI.fin 0 ⟨rfl, rfl⟩
       ·skip
        rw [if_neg hc465] at hF
        have hbhc465 : (decide (x118.2.1 = x454)) = false := decide_eq_false hc465
        refine lv (v := .bool false) rfl (r_mv rfl ((show opd _ _ _ = _ from rfl).trans (congrArg Value.bool hbhc465))) rfl ?_
        with_reducible refine lx (d := 69) (by kernel_rfl) (by kernel_rfl) ?_
        with_reducible refine lx (d := 70) (by kernel_rfl) (by kernel_rfl) ?_
        with_reducible refine lx (d := 71) (by kernel_rfl) (by kernel_rfl) ?_
        with_reducible refine lx (d := 72) (by kernel_rfl) (by kernel_rfl) ?_
        with_reducible refine lx (d := 73) (by kernel_rfl) (by kernel_rfl) ?_
        with_reducible refine lx (d := 74) (by kernel_rfl) (by kernel_rfl) ?_
        with_reducible refine lx (d := 75) (by kernel_rfl) (by kernel_rfl) ?_
        with_reducible refine lx (d := 76) (by kernel_rfl) (by kernel_rfl) ?_
        with_reducible refine lx (d := 77) (by kernel_rfl) (by kernel_rfl) ?_
        with_reducible refine lx (d := 78) (by kernel_rfl) (by kernel_rfl) ?_
        with_reducible refine lx (d := 79) (by kernel_rfl) (by kernel_rfl) ?_
        with_reducible refine lx (d := 80) (by kernel_rfl) (by kernel_rfl) ?_
        with_reducible refine lx (d := 81) (by kernel_rfl) (by kernel_rfl) ?_
        with_reducible refine lx (d := 82) (by kernel_rfl) (by kernel_rfl) ?_
        with_reducible refine lx (d := 83) (by kernel_rfl) (by kernel_rfl) ?_
        with_reducible refine lx (d := 84) (by kernel_rfl) (by kernel_rfl) ?_
        with_reducible refine lx (d := 85) (by kernel_rfl) (by kernel_rfl) ?_
        with_reducible refine lx (d := 86) (by kernel_rfl) (by kernel_rfl) ?_
        with_reducible refine lx (d := 87) (by kernel_rfl) (by kernel_rfl) ?_
        with_reducible refine lx (d := 88) (by kernel_rfl) (by kernel_rfl) ?_
        with_reducible refine lx (d := 89) (by kernel_rfl) (by kernel_rfl) ?_
        with_reducible refine lx (d := 90) (by kernel_rfl) (by kernel_rfl) ?_
        with_reducible refine lx (d := 91) (by kernel_rfl) (by kernel_rfl) ?_
        refine lv (v := .bool false) rfl (r_pkF rfl rfl rfl) rfl ?_
        refine lv (v := .bool false) rfl (r_as rfl rfl) rfl ?_
        refine wend ?_
        refine wthen ?_
        refine wren (fun ρ494 eρ494 => ?_)
        have h495 : opd ρ494 93 (.tmp 6) = .bool false := eρ494 6
        clear eρ494
        refine wp_ret ?_
        obtain rfl := Option.some.inj hF
        subst hB
        refine finR (rs := [.tmp 6]) (vs := [.bool false]) rfl ⟨h495, trivial⟩ ?_
        exact hI.fin 0 ⟨rfl, rfl⟩
      ·skip
       rw [if_neg hc99] at hF
       have hbhc99 : (decide ((0 : Int) < x59.2.1)) = false := decide_eq_false hc99
       refine wcF (h98.trans (congrArg Value.bool hbhc99)) ?_
       refine wp_skip ?_
       refine wthen ?_
       obtain ⟨x498, hx498, hF⟩ := Option.bind_eq_some_iff.1 hF
       refine wcut (fun ρ' w' => ∃ (H499 : Hp) (s501 : Sv) (g502 : Nat), Hle H60 H499 ∧ opd ρ' 93 (.tmp 5) = .pointer (some ⟨g8, 0 + 0, none⟩) ∧ opd ρ' 93 (.tmp 7) = .pointer (some ⟨g64, 0 + 0, none⟩) ∧ opd ρ' 93 (.tmp 8) = .int .i64 x59.2.1 ∧ opd ρ' 93 (.tmp 10) = .int .i64 0 ∧ opd ρ' 93 (.tmp 11) = .pointer (some ⟨g502, 0 + 0, none⟩) ∧ opd ρ' 93 (.tmp 12) = .int .i64 x498.1 ∧ opd ρ' 93 (.tmp 13) = .int .i64 x498.2.1 ∧ Sl (Fl.ty fl_Member) H499 s501 x498.2.2.2 ∧ Inv B w' H499 [.cb g8 [ckI a2.Block.Epoch, ckI a2.Block.Height, ckV flB a2.Block.Prev, ckV flB a2.Block.State, ckV flB a2.Block.Next, ckL s3, ckI a2.Cert.Round, ckL s4, ckI a2.Config.Epoch, ckL s5] 73, .cb g64 [ckI x59.1.Epoch, ckL s63] 64, .cb g502 [ckI x498.2.2.1, ckL s501] 64]) ?_ ?_
       ·skip
        replace hF := hx498
        refine dstG (H0 := H60) (L0 := keepL [true, true, true] [.cb g6 [ckI a0.Epoch, ckL s1] 64, .cb g8 [ckI a2.Block.Epoch, ckI a2.Block.Height, ckV flB a2.Block.Prev, ckV flB a2.Block.State, ckV flB a2.Block.Next, ckL s3, ckI a2.Cert.Round, ckL s4, ckI a2.Config.Epoch, ckL s5] 73, .cb g64 [ckI x59.1.Epoch, ckL s63] 64]) [13] mixed rfl (by repeat (first | exact Pan.body | refine Pan.then ?_ | refine Pan.inBlock ?_ | refine Pan.noGoto ?_ | refine Pan.pure ?_)) hI (hI.good.weakm _ (Hle.refl _) rfl) ?_
        intro w512 hI hP
        refine dp (v := s2.v) 2 (by kernel_rfl) rfl rfl (fun _ => r_mv rfl h92) rfl hP ?_
        refine dr (v := .agg (flat [ckI a0.Epoch, ckL s1]).toArray) 0 (by kernel_rfl) rfl rfl (hI.good.weakm [true, true, true] (Hle.refl _) rfl) (fun _ hG => r_cla (off := 0) (p := 0) (m := 2) (hG.ca 0 rfl) rfl ag64 h93 rfl rfl) rfl hP ?_
        refine dr (v := .agg (flat [ckI a2.Block.Epoch, ckI a2.Block.Height, ckV flB a2.Block.Prev, ckV flB a2.Block.State, ckV flB a2.Block.Next, ckL s3, ckI a2.Cert.Round, ckL s4, ckI a2.Config.Epoch, ckL s5]).toArray) 4 (by kernel_rfl) rfl rfl (hI.good.weakm [true, true, true] (Hle.refl _) rfl) (fun _ hG => r_cla (off := 0) (p := 0) (m := 10) (hG.ca 1 rfl) rfl ag73 h94 rfl rfl) rfl hP ?_
        refine dthree 1 5 12 (by kernel_rfl) ?_ ?_ ?_
        ·skip
         refine do_e rfl rfl (l_bs (t := ty_Link) (vs := []) (xs := []) hI rfl sl65 inf73 rfl rfl rfl .nil rfl) rfl ?_
         rintro _ w515 ⟨s513, H514, rfl, hI, hleH514, hs513, hfs513, hgs513⟩
         refine ⟨(hI.good.weakm [true, true, true] hleH514 rfl), ?_⟩
         refine dthree 3 5 12 (by kernel_rfl) ?_ ?_ ?_
         ·skip
          replace hI := Inv.full (e := 73) (sz := 103) hI (show s513.n = s513.c from hfs513)
          replace hI : Inv B w515 H514 [.cb g6 _ 64, .cb g8 _ 73, .cb g64 _ 64, .own s513 73 103 none] := hI
          obtain ⟨x517, hx517, hF⟩ := Option.bind_eq_some_iff.1 hF
          refine do_e rfl rfl (l_app (t := ty_Link) hI 3 rfl rfl sl65 inf73 rfl rfl rfl rfl hs513 ((((((hs2.mono hleH15).mono hleH25).mono hleH37).mono hleH40).mono hleH60).mono hleH514) (appI_some hx517).1) rfl ?_
          rintro _ w521 ⟨s518, H519, gg520, rfl, hI, hleH519, hs518⟩
          rw [← (appI_some hx517).2] at hs518
          replace hI : Inv B w521 H519 [.cb g6 _ 64, .cb g8 _ 73, .cb g64 _ 64, .own s518 73 103 gg520] := hI
          refine ⟨(hI.good.weakm [true, true, true, false] (hleH514.trans hleH519) rfl), ?_⟩
          refine dtwo 5 12 (by kernel_rfl) ?_ ?_
          ·skip
           refine do_e rfl rfl (l_bs (t := ty_Link) (vs := [.agg (flat [ckI a2.Block.Epoch, ckI a2.Block.Height, ckV flB a2.Block.Prev, ckV flB a2.Block.State, ckV flB a2.Block.Next, ckL s3, ckI a2.Cert.Round, ckL s4, ckI a2.Config.Epoch, ckL s5]).toArray]) (xs := [a2]) hI rfl sl65 inf73 rfl rfl (argc rfl rfl) (.cons rfl ⟨s3, s4, s5, rfl, (((((((hs3.mono hleH15).mono hleH25).mono hleH37).mono hleH40).mono hleH60).mono hleH514).mono hleH519), (((((((hs4.mono hleH15).mono hleH25).mono hleH37).mono hleH40).mono hleH60).mono hleH514).mono hleH519), (((((((hs5.mono hleH15).mono hleH25).mono hleH37).mono hleH40).mono hleH60).mono hleH514).mono hleH519)⟩ .nil) rfl) rfl ?_
           rintro _ w524 ⟨s522, H523, rfl, hI, hleH523, hs522, hfs522, hgs522⟩
           refine ⟨(hI.good.weakm [true, true, true, false] ((hleH514.trans hleH519).trans hleH523) rfl), ?_⟩
           refine dtwo 6 12 (by kernel_rfl) ?_ ?_
           ·skip
            obtain ⟨x525, hx525, hF⟩ := Option.bind_eq_some_iff.1 hF
            refine do_e rfl rfl (l_app (t := ty_Link) hI 3 rfl rfl sl65 inf73 rfl rfl rfl rfl (hs518.mono hleH523) hs522 (appI_some hx525).1) rfl ?_
            rintro _ w529 ⟨s526, H527, gg528, rfl, hI, hleH527, hs526⟩
            rw [← (appI_some hx525).2] at hs526
            replace hI : Inv B w529 H527 [.cb g6 _ 64, .cb g8 _ 73, .cb g64 _ 64, .own s526 73 103 gg528] := hI
            refine ⟨(hI.good.weakm [true, true, true, false] (((hleH514.trans hleH519).trans hleH523).trans hleH527) rfl), ?_⟩
            refine dtwo 7 12 (by kernel_rfl) ?_ ?_
            ·skip
             obtain ⟨x530, hx530, hF⟩ := Option.bind_eq_some_iff.1 hF
             have hsp533 := spec_33 hx530 (((((((((hT.mono hleH15).mono hleH25).mono hleH37).mono hleH40).mono hleH60).mono hleH514).mono hleH519).mono hleH523).mono hleH527) (hI.part 0) (((((((((hs1.mono hleH15).mono hleH25).mono hleH37).mono hleH40).mono hleH60).mono hleH514).mono hleH519).mono hleH523).mono hleH527) hs526
             refine do_fc ([]) ([.cb g6 [ckI a0.Epoch, ckL s1] 64, .cb g8 [ckI a2.Block.Epoch, ckI a2.Block.Height, ckV flB a2.Block.Prev, ckV flB a2.Block.State, ckV flB a2.Block.Next, ckL s3, ckI a2.Cert.Round, ckL s4, ckI a2.Config.Epoch, ckL s5] 73, .cb g64 [ckI x59.1.Epoch, ckL s63] 64, .own s526 73 103 gg528]) (args := [.agg (flat [ckI a0.Epoch, ckL s1]).toArray, s526.v]) fc33 rfl rfl rfl rfl hI (argc rfl (argc rfl rfl)) (hsp533) ?_
             rintro _ H531 _ w532 ⟨s534, rfl, hs534, rfl⟩ hleH531 hI
             replace hI : Inv B w532 H531 [.cb g6 _ 64, .cb g8 _ 73, .cb g64 _ 64, .own s526 73 103 gg528] := hI
             refine ⟨(hI.good.weakm [true, true, true, false] ((((hleH514.trans hleH519).trans hleH523).trans hleH527).trans hleH531) rfl), ?_⟩
             refine dp (v := .tuple #[.agg (flat [ckI x530.1.Epoch, ckL s534]).toArray, .int .i64 x530.2.1, .int .i64 x530.2.2]) 8 (by kernel_rfl) rfl rfl (fun _ => r_mv rfl rfl) rfl hP ?_
             refine dp (v := .agg (flat [ckI x530.1.Epoch, ckL s534]).toArray) 9 (by kernel_rfl) rfl rfl (fun _ => r_ext rfl rfl rfl) rfl hP ?_
             refine dp (v := .int .i64 x530.2.1) 10 (by kernel_rfl) rfl rfl (fun _ => r_ext rfl rfl rfl) rfl hP ?_
             refine dp (v := .int .i64 x530.2.2) 11 (by kernel_rfl) rfl rfl (fun _ => r_ext rfl rfl rfl) rfl hP ?_
             refine de 12 (by kernel_rfl) rfl rfl rfl (l_al hI rfl ze64) rfl ?_
             rintro _ w536 ⟨g535, rfl, hI⟩
             replace hI : Inv B w536 H531 [.cb g6 _ 64, .cb g8 _ 73, .cb g64 _ 64, .own s526 73 103 gg528, .cb g535 [ckI 0, ckL Sv.nil] 64] := hI
             refine ⟨(hI.good.weakm [true, true, true, false, false] ((((hleH514.trans hleH519).trans hleH523).trans hleH527).trans hleH531) rfl), ?_⟩
             refine dsl 13 (by kernel_rfl) rfl rfl rfl (l_st (off := 0) (p := 0) (m := 2) (new := [ckI x530.1.Epoch, ckL s534]) hI 4 rfl rfl sz64 rfl rfl rfl rfl rfl rfl) rfl ?_
             intro w537 hI
             replace hI : Inv B w537 H531 [.cb g6 _ 64, .cb g8 _ 73, .cb g64 _ 64, .own s526 73 103 gg528, .cb g535 [ckI x530.1.Epoch, ckL s534] 64] := hI
             refine dp (v := .int .i64 x530.2.1) 14 (by kernel_rfl) rfl rfl (fun _ => r_as rfl rfl) rfl hP ?_
             refine dp (v := .int .i64 x530.2.2) 15 (by kernel_rfl) rfl rfl (fun _ => r_as rfl rfl) rfl hP ?_
             refine dend (by kernel_rfl) ?_
             obtain rfl := Option.some.inj hF
             exact wmid ⟨H531, s534, g535, ((((hleH514.trans hleH519).trans hleH523).trans hleH527).trans hleH531), h94, h95, h96, h97, rfl, rfl, rfl, hs534, (hI.keep [false, true, true, false, true])⟩
            ·skip
             refine do_e rfl rfl (l_al hI rfl ze64) rfl ?_
             rintro _ w539 ⟨g538, rfl, hI⟩
             replace hI : Inv B w539 H527 [.cb g6 _ 64, .cb g8 _ 73, .cb g64 _ 64, .own s526 73 103 gg528, .cb g538 [ckI 0, ckL Sv.nil] 64] := hI
             refine ⟨(hI.good.weakm [true, true, true, false, false] (((hleH514.trans hleH519).trans hleH523).trans hleH527) rfl), ?_⟩
             obtain ⟨x540, hx540, hF⟩ := Option.bind_eq_some_iff.1 hF
             have hsp543 := spec_33 hx540 (((((((((hT.mono hleH15).mono hleH25).mono hleH37).mono hleH40).mono hleH60).mono hleH514).mono hleH519).mono hleH523).mono hleH527) (hI.part 0) (((((((((hs1.mono hleH15).mono hleH25).mono hleH37).mono hleH40).mono hleH60).mono hleH514).mono hleH519).mono hleH523).mono hleH527) hs526
             refine dfc 7 ([]) ([.cb g6 [ckI a0.Epoch, ckL s1] 64, .cb g8 [ckI a2.Block.Epoch, ckI a2.Block.Height, ckV flB a2.Block.Prev, ckV flB a2.Block.State, ckV flB a2.Block.Next, ckL s3, ckI a2.Cert.Round, ckL s4, ckI a2.Config.Epoch, ckL s5] 73, .cb g64 [ckI x59.1.Epoch, ckL s63] 64, .own s526 73 103 gg528, .cb g538 [ckI 0, ckL Sv.nil] 64]) (args := [.agg (flat [ckI a0.Epoch, ckL s1]).toArray, s526.v]) fc33 (by kernel_rfl) rfl rfl rfl rfl rfl hI (argc rfl (argc rfl rfl)) (hsp543) ?_
             rintro _ H541 _ w542 ⟨s544, rfl, hs544, rfl⟩ hleH541 hI
             replace hI : Inv B w542 H541 [.cb g6 _ 64, .cb g8 _ 73, .cb g64 _ 64, .own s526 73 103 gg528, .cb g538 _ 64] := hI
             refine ⟨(hI.good.weakm [true, true, true, false, false] ((((hleH514.trans hleH519).trans hleH523).trans hleH527).trans hleH541) rfl), ?_⟩
             refine dp (v := .tuple #[.agg (flat [ckI x540.1.Epoch, ckL s544]).toArray, .int .i64 x540.2.1, .int .i64 x540.2.2]) 8 (by kernel_rfl) rfl rfl (fun _ => r_mv rfl rfl) rfl hP ?_
             refine dp (v := .agg (flat [ckI x540.1.Epoch, ckL s544]).toArray) 9 (by kernel_rfl) rfl rfl (fun _ => r_ext rfl rfl rfl) rfl hP ?_
             refine dp (v := .int .i64 x540.2.1) 10 (by kernel_rfl) rfl rfl (fun _ => r_ext rfl rfl rfl) rfl hP ?_
             refine dp (v := .int .i64 x540.2.2) 11 (by kernel_rfl) rfl rfl (fun _ => r_ext rfl rfl rfl) rfl hP ?_
             refine dsl 13 (by kernel_rfl) rfl rfl rfl (l_st (off := 0) (p := 0) (m := 2) (new := [ckI x540.1.Epoch, ckL s544]) hI 4 rfl rfl sz64 rfl rfl rfl rfl rfl rfl) rfl ?_
             intro w545 hI
             replace hI : Inv B w545 H541 [.cb g6 _ 64, .cb g8 _ 73, .cb g64 _ 64, .own s526 73 103 gg528, .cb g538 [ckI x540.1.Epoch, ckL s544] 64] := hI
             refine dp (v := .int .i64 x540.2.1) 14 (by kernel_rfl) rfl rfl (fun _ => r_as rfl rfl) rfl hP ?_
             refine dp (v := .int .i64 x540.2.2) 15 (by kernel_rfl) rfl rfl (fun _ => r_as rfl rfl) rfl hP ?_
             refine dend (by kernel_rfl) ?_
             obtain rfl := Option.some.inj hF
             exact wmid ⟨H541, s544, g538, ((((hleH514.trans hleH519).trans hleH523).trans hleH527).trans hleH541), h94, h95, h96, h97, rfl, rfl, rfl, hs544, (hI.keep [false, true, true, false, true])⟩
           ·skip
            refine do_e rfl rfl (l_al hI rfl ze64) rfl ?_
            rintro _ w547 ⟨g546, rfl, hI⟩
            replace hI : Inv B w547 H523 [.cb g6 _ 64, .cb g8 _ 73, .cb g64 _ 64, .own s518 73 103 gg520, .cb g546 [ckI 0, ckL Sv.nil] 64] := hI
            refine ⟨(hI.good.weakm [true, true, true, false, false] ((hleH514.trans hleH519).trans hleH523) rfl), ?_⟩
            obtain ⟨x548, hx548, hF⟩ := Option.bind_eq_some_iff.1 hF
            refine de 6 (by kernel_rfl) rfl rfl rfl (l_app (t := ty_Link) hI 3 rfl rfl sl65 inf73 rfl rfl rfl rfl (hs518.mono hleH523) hs522 (appI_some hx548).1) rfl ?_
            rintro _ w552 ⟨s549, H550, gg551, rfl, hI, hleH550, hs549⟩
            rw [← (appI_some hx548).2] at hs549
            replace hI : Inv B w552 H550 [.cb g6 _ 64, .cb g8 _ 73, .cb g64 _ 64, .own s549 73 103 gg551, .cb g546 _ 64] := hI
            refine ⟨(hI.good.weakm [true, true, true, false, false] (((hleH514.trans hleH519).trans hleH523).trans hleH550) rfl), ?_⟩
            obtain ⟨x553, hx553, hF⟩ := Option.bind_eq_some_iff.1 hF
            have hsp556 := spec_33 hx553 (((((((((hT.mono hleH15).mono hleH25).mono hleH37).mono hleH40).mono hleH60).mono hleH514).mono hleH519).mono hleH523).mono hleH550) (hI.part 0) (((((((((hs1.mono hleH15).mono hleH25).mono hleH37).mono hleH40).mono hleH60).mono hleH514).mono hleH519).mono hleH523).mono hleH550) hs549
            refine dfc 7 ([]) ([.cb g6 [ckI a0.Epoch, ckL s1] 64, .cb g8 [ckI a2.Block.Epoch, ckI a2.Block.Height, ckV flB a2.Block.Prev, ckV flB a2.Block.State, ckV flB a2.Block.Next, ckL s3, ckI a2.Cert.Round, ckL s4, ckI a2.Config.Epoch, ckL s5] 73, .cb g64 [ckI x59.1.Epoch, ckL s63] 64, .own s549 73 103 gg551, .cb g546 [ckI 0, ckL Sv.nil] 64]) (args := [.agg (flat [ckI a0.Epoch, ckL s1]).toArray, s549.v]) fc33 (by kernel_rfl) rfl rfl rfl rfl rfl hI (argc rfl (argc rfl rfl)) (hsp556) ?_
            rintro _ H554 _ w555 ⟨s557, rfl, hs557, rfl⟩ hleH554 hI
            replace hI : Inv B w555 H554 [.cb g6 _ 64, .cb g8 _ 73, .cb g64 _ 64, .own s549 73 103 gg551, .cb g546 _ 64] := hI
            refine ⟨(hI.good.weakm [true, true, true, false, false] ((((hleH514.trans hleH519).trans hleH523).trans hleH550).trans hleH554) rfl), ?_⟩
            refine dp (v := .tuple #[.agg (flat [ckI x553.1.Epoch, ckL s557]).toArray, .int .i64 x553.2.1, .int .i64 x553.2.2]) 8 (by kernel_rfl) rfl rfl (fun _ => r_mv rfl rfl) rfl hP ?_
            refine dp (v := .agg (flat [ckI x553.1.Epoch, ckL s557]).toArray) 9 (by kernel_rfl) rfl rfl (fun _ => r_ext rfl rfl rfl) rfl hP ?_
            refine dp (v := .int .i64 x553.2.1) 10 (by kernel_rfl) rfl rfl (fun _ => r_ext rfl rfl rfl) rfl hP ?_
            refine dp (v := .int .i64 x553.2.2) 11 (by kernel_rfl) rfl rfl (fun _ => r_ext rfl rfl rfl) rfl hP ?_
            refine dsl 13 (by kernel_rfl) rfl rfl rfl (l_st (off := 0) (p := 0) (m := 2) (new := [ckI x553.1.Epoch, ckL s557]) hI 4 rfl rfl sz64 rfl rfl rfl rfl rfl rfl) rfl ?_
            intro w558 hI
            replace hI : Inv B w558 H554 [.cb g6 _ 64, .cb g8 _ 73, .cb g64 _ 64, .own s549 73 103 gg551, .cb g546 [ckI x553.1.Epoch, ckL s557] 64] := hI
            refine dp (v := .int .i64 x553.2.1) 14 (by kernel_rfl) rfl rfl (fun _ => r_as rfl rfl) rfl hP ?_
            refine dp (v := .int .i64 x553.2.2) 15 (by kernel_rfl) rfl rfl (fun _ => r_as rfl rfl) rfl hP ?_
            refine dend (by kernel_rfl) ?_
            obtain rfl := Option.some.inj hF
            exact wmid ⟨H554, s557, g546, ((((hleH514.trans hleH519).trans hleH523).trans hleH550).trans hleH554), h94, h95, h96, h97, rfl, rfl, rfl, hs557, (hI.keep [false, true, true, false, true])⟩
          ·skip
           refine do_e rfl rfl (l_al hI rfl ze64) rfl ?_
           rintro _ w560 ⟨g559, rfl, hI⟩
           replace hI : Inv B w560 H519 [.cb g6 _ 64, .cb g8 _ 73, .cb g64 _ 64, .own s518 73 103 gg520, .cb g559 [ckI 0, ckL Sv.nil] 64] := hI
           refine ⟨(hI.good.weakm [true, true, true, false, false] (hleH514.trans hleH519) rfl), ?_⟩
           refine de 5 (by kernel_rfl) rfl rfl rfl (l_bs (t := ty_Link) (vs := [.agg (flat [ckI a2.Block.Epoch, ckI a2.Block.Height, ckV flB a2.Block.Prev, ckV flB a2.Block.State, ckV flB a2.Block.Next, ckL s3, ckI a2.Cert.Round, ckL s4, ckI a2.Config.Epoch, ckL s5]).toArray]) (xs := [a2]) hI rfl sl65 inf73 rfl rfl (argc rfl rfl) (.cons rfl ⟨s3, s4, s5, rfl, (((((((hs3.mono hleH15).mono hleH25).mono hleH37).mono hleH40).mono hleH60).mono hleH514).mono hleH519), (((((((hs4.mono hleH15).mono hleH25).mono hleH37).mono hleH40).mono hleH60).mono hleH514).mono hleH519), (((((((hs5.mono hleH15).mono hleH25).mono hleH37).mono hleH40).mono hleH60).mono hleH514).mono hleH519)⟩ .nil) rfl) rfl ?_
           rintro _ w563 ⟨s561, H562, rfl, hI, hleH562, hs561, hfs561, hgs561⟩
           refine ⟨(hI.good.weakm [true, true, true, false, false] ((hleH514.trans hleH519).trans hleH562) rfl), ?_⟩
           obtain ⟨x564, hx564, hF⟩ := Option.bind_eq_some_iff.1 hF
           refine de 6 (by kernel_rfl) rfl rfl rfl (l_app (t := ty_Link) hI 3 rfl rfl sl65 inf73 rfl rfl rfl rfl (hs518.mono hleH562) hs561 (appI_some hx564).1) rfl ?_
           rintro _ w568 ⟨s565, H566, gg567, rfl, hI, hleH566, hs565⟩
           rw [← (appI_some hx564).2] at hs565
           replace hI : Inv B w568 H566 [.cb g6 _ 64, .cb g8 _ 73, .cb g64 _ 64, .own s565 73 103 gg567, .cb g559 _ 64] := hI
           refine ⟨(hI.good.weakm [true, true, true, false, false] (((hleH514.trans hleH519).trans hleH562).trans hleH566) rfl), ?_⟩
           obtain ⟨x569, hx569, hF⟩ := Option.bind_eq_some_iff.1 hF
           have hsp572 := spec_33 hx569 (((((((((hT.mono hleH15).mono hleH25).mono hleH37).mono hleH40).mono hleH60).mono hleH514).mono hleH519).mono hleH562).mono hleH566) (hI.part 0) (((((((((hs1.mono hleH15).mono hleH25).mono hleH37).mono hleH40).mono hleH60).mono hleH514).mono hleH519).mono hleH562).mono hleH566) hs565
           refine dfc 7 ([]) ([.cb g6 [ckI a0.Epoch, ckL s1] 64, .cb g8 [ckI a2.Block.Epoch, ckI a2.Block.Height, ckV flB a2.Block.Prev, ckV flB a2.Block.State, ckV flB a2.Block.Next, ckL s3, ckI a2.Cert.Round, ckL s4, ckI a2.Config.Epoch, ckL s5] 73, .cb g64 [ckI x59.1.Epoch, ckL s63] 64, .own s565 73 103 gg567, .cb g559 [ckI 0, ckL Sv.nil] 64]) (args := [.agg (flat [ckI a0.Epoch, ckL s1]).toArray, s565.v]) fc33 (by kernel_rfl) rfl rfl rfl rfl rfl hI (argc rfl (argc rfl rfl)) (hsp572) ?_
           rintro _ H570 _ w571 ⟨s573, rfl, hs573, rfl⟩ hleH570 hI
           replace hI : Inv B w571 H570 [.cb g6 _ 64, .cb g8 _ 73, .cb g64 _ 64, .own s565 73 103 gg567, .cb g559 _ 64] := hI
           refine ⟨(hI.good.weakm [true, true, true, false, false] ((((hleH514.trans hleH519).trans hleH562).trans hleH566).trans hleH570) rfl), ?_⟩
           refine dp (v := .tuple #[.agg (flat [ckI x569.1.Epoch, ckL s573]).toArray, .int .i64 x569.2.1, .int .i64 x569.2.2]) 8 (by kernel_rfl) rfl rfl (fun _ => r_mv rfl rfl) rfl hP ?_
           refine dp (v := .agg (flat [ckI x569.1.Epoch, ckL s573]).toArray) 9 (by kernel_rfl) rfl rfl (fun _ => r_ext rfl rfl rfl) rfl hP ?_
           refine dp (v := .int .i64 x569.2.1) 10 (by kernel_rfl) rfl rfl (fun _ => r_ext rfl rfl rfl) rfl hP ?_
           refine dp (v := .int .i64 x569.2.2) 11 (by kernel_rfl) rfl rfl (fun _ => r_ext rfl rfl rfl) rfl hP ?_
           refine dsl 13 (by kernel_rfl) rfl rfl rfl (l_st (off := 0) (p := 0) (m := 2) (new := [ckI x569.1.Epoch, ckL s573]) hI 4 rfl rfl sz64 rfl rfl rfl rfl rfl rfl) rfl ?_
           intro w574 hI
           replace hI : Inv B w574 H570 [.cb g6 _ 64, .cb g8 _ 73, .cb g64 _ 64, .own s565 73 103 gg567, .cb g559 [ckI x569.1.Epoch, ckL s573] 64] := hI
           refine dp (v := .int .i64 x569.2.1) 14 (by kernel_rfl) rfl rfl (fun _ => r_as rfl rfl) rfl hP ?_
           refine dp (v := .int .i64 x569.2.2) 15 (by kernel_rfl) rfl rfl (fun _ => r_as rfl rfl) rfl hP ?_
           refine dend (by kernel_rfl) ?_
           obtain rfl := Option.some.inj hF
           exact wmid ⟨H570, s573, g559, ((((hleH514.trans hleH519).trans hleH562).trans hleH566).trans hleH570), h94, h95, h96, h97, rfl, rfl, rfl, hs573, (hI.keep [false, true, true, false, true])⟩
         ·skip
          refine do_e rfl rfl (l_bs (t := ty_Link) (vs := [.agg (flat [ckI a2.Block.Epoch, ckI a2.Block.Height, ckV flB a2.Block.Prev, ckV flB a2.Block.State, ckV flB a2.Block.Next, ckL s3, ckI a2.Cert.Round, ckL s4, ckI a2.Config.Epoch, ckL s5]).toArray]) (xs := [a2]) hI rfl sl65 inf73 rfl rfl (argc rfl rfl) (.cons rfl ⟨s3, s4, s5, rfl, ((((((hs3.mono hleH15).mono hleH25).mono hleH37).mono hleH40).mono hleH60).mono hleH514), ((((((hs4.mono hleH15).mono hleH25).mono hleH37).mono hleH40).mono hleH60).mono hleH514), ((((((hs5.mono hleH15).mono hleH25).mono hleH37).mono hleH40).mono hleH60).mono hleH514)⟩ .nil) rfl) rfl ?_
          rintro _ w577 ⟨s575, H576, rfl, hI, hleH576, hs575, hfs575, hgs575⟩
          refine ⟨(hI.good.weakm [true, true, true] (hleH514.trans hleH576) rfl), ?_⟩
          refine dtwo 3 12 (by kernel_rfl) ?_ ?_
          ·skip
           replace hI := Inv.full (e := 73) (sz := 103) hI (show s513.n = s513.c from hfs513)
           replace hI : Inv B w577 H576 [.cb g6 _ 64, .cb g8 _ 73, .cb g64 _ 64, .own s513 73 103 none] := hI
           obtain ⟨x579, hx579, hF⟩ := Option.bind_eq_some_iff.1 hF
           refine do_e rfl rfl (l_app (t := ty_Link) hI 3 rfl rfl sl65 inf73 rfl rfl rfl rfl (hs513.mono hleH576) (((((((hs2.mono hleH15).mono hleH25).mono hleH37).mono hleH40).mono hleH60).mono hleH514).mono hleH576) (appI_some hx579).1) rfl ?_
           rintro _ w583 ⟨s580, H581, gg582, rfl, hI, hleH581, hs580⟩
           rw [← (appI_some hx579).2] at hs580
           replace hI : Inv B w583 H581 [.cb g6 _ 64, .cb g8 _ 73, .cb g64 _ 64, .own s580 73 103 gg582] := hI
           refine ⟨(hI.good.weakm [true, true, true, false] ((hleH514.trans hleH576).trans hleH581) rfl), ?_⟩
           refine dtwo 6 12 (by kernel_rfl) ?_ ?_
           ·skip
            obtain ⟨x584, hx584, hF⟩ := Option.bind_eq_some_iff.1 hF
            refine do_e rfl rfl (l_app (t := ty_Link) hI 3 rfl rfl sl65 inf73 rfl rfl rfl rfl hs580 (hs575.mono hleH581) (appI_some hx584).1) rfl ?_
            rintro _ w588 ⟨s585, H586, gg587, rfl, hI, hleH586, hs585⟩
            rw [← (appI_some hx584).2] at hs585
            replace hI : Inv B w588 H586 [.cb g6 _ 64, .cb g8 _ 73, .cb g64 _ 64, .own s585 73 103 gg587] := hI
            refine ⟨(hI.good.weakm [true, true, true, false] (((hleH514.trans hleH576).trans hleH581).trans hleH586) rfl), ?_⟩
            refine dtwo 7 12 (by kernel_rfl) ?_ ?_
            ·skip
             obtain ⟨x589, hx589, hF⟩ := Option.bind_eq_some_iff.1 hF
             have hsp592 := spec_33 hx589 (((((((((hT.mono hleH15).mono hleH25).mono hleH37).mono hleH40).mono hleH60).mono hleH514).mono hleH576).mono hleH581).mono hleH586) (hI.part 0) (((((((((hs1.mono hleH15).mono hleH25).mono hleH37).mono hleH40).mono hleH60).mono hleH514).mono hleH576).mono hleH581).mono hleH586) hs585
             refine do_fc ([]) ([.cb g6 [ckI a0.Epoch, ckL s1] 64, .cb g8 [ckI a2.Block.Epoch, ckI a2.Block.Height, ckV flB a2.Block.Prev, ckV flB a2.Block.State, ckV flB a2.Block.Next, ckL s3, ckI a2.Cert.Round, ckL s4, ckI a2.Config.Epoch, ckL s5] 73, .cb g64 [ckI x59.1.Epoch, ckL s63] 64, .own s585 73 103 gg587]) (args := [.agg (flat [ckI a0.Epoch, ckL s1]).toArray, s585.v]) fc33 rfl rfl rfl rfl hI (argc rfl (argc rfl rfl)) (hsp592) ?_
             rintro _ H590 _ w591 ⟨s593, rfl, hs593, rfl⟩ hleH590 hI
             replace hI : Inv B w591 H590 [.cb g6 _ 64, .cb g8 _ 73, .cb g64 _ 64, .own s585 73 103 gg587] := hI
             refine ⟨(hI.good.weakm [true, true, true, false] ((((hleH514.trans hleH576).trans hleH581).trans hleH586).trans hleH590) rfl), ?_⟩
             refine dp (v := .tuple #[.agg (flat [ckI x589.1.Epoch, ckL s593]).toArray, .int .i64 x589.2.1, .int .i64 x589.2.2]) 8 (by kernel_rfl) rfl rfl (fun _ => r_mv rfl rfl) rfl hP ?_
             refine dp (v := .agg (flat [ckI x589.1.Epoch, ckL s593]).toArray) 9 (by kernel_rfl) rfl rfl (fun _ => r_ext rfl rfl rfl) rfl hP ?_
             refine dp (v := .int .i64 x589.2.1) 10 (by kernel_rfl) rfl rfl (fun _ => r_ext rfl rfl rfl) rfl hP ?_
             refine dp (v := .int .i64 x589.2.2) 11 (by kernel_rfl) rfl rfl (fun _ => r_ext rfl rfl rfl) rfl hP ?_
             refine de 12 (by kernel_rfl) rfl rfl rfl (l_al hI rfl ze64) rfl ?_
             rintro _ w595 ⟨g594, rfl, hI⟩
             replace hI : Inv B w595 H590 [.cb g6 _ 64, .cb g8 _ 73, .cb g64 _ 64, .own s585 73 103 gg587, .cb g594 [ckI 0, ckL Sv.nil] 64] := hI
             refine ⟨(hI.good.weakm [true, true, true, false, false] ((((hleH514.trans hleH576).trans hleH581).trans hleH586).trans hleH590) rfl), ?_⟩
             refine dsl 13 (by kernel_rfl) rfl rfl rfl (l_st (off := 0) (p := 0) (m := 2) (new := [ckI x589.1.Epoch, ckL s593]) hI 4 rfl rfl sz64 rfl rfl rfl rfl rfl rfl) rfl ?_
             intro w596 hI
             replace hI : Inv B w596 H590 [.cb g6 _ 64, .cb g8 _ 73, .cb g64 _ 64, .own s585 73 103 gg587, .cb g594 [ckI x589.1.Epoch, ckL s593] 64] := hI
             refine dp (v := .int .i64 x589.2.1) 14 (by kernel_rfl) rfl rfl (fun _ => r_as rfl rfl) rfl hP ?_
             refine dp (v := .int .i64 x589.2.2) 15 (by kernel_rfl) rfl rfl (fun _ => r_as rfl rfl) rfl hP ?_
             refine dend (by kernel_rfl) ?_
             obtain rfl := Option.some.inj hF
             exact wmid ⟨H590, s593, g594, ((((hleH514.trans hleH576).trans hleH581).trans hleH586).trans hleH590), h94, h95, h96, h97, rfl, rfl, rfl, hs593, (hI.keep [false, true, true, false, true])⟩
            ·skip
             refine do_e rfl rfl (l_al hI rfl ze64) rfl ?_
             rintro _ w598 ⟨g597, rfl, hI⟩
             replace hI : Inv B w598 H586 [.cb g6 _ 64, .cb g8 _ 73, .cb g64 _ 64, .own s585 73 103 gg587, .cb g597 [ckI 0, ckL Sv.nil] 64] := hI
             refine ⟨(hI.good.weakm [true, true, true, false, false] (((hleH514.trans hleH576).trans hleH581).trans hleH586) rfl), ?_⟩
             obtain ⟨x599, hx599, hF⟩ := Option.bind_eq_some_iff.1 hF
             have hsp602 := spec_33 hx599 (((((((((hT.mono hleH15).mono hleH25).mono hleH37).mono hleH40).mono hleH60).mono hleH514).mono hleH576).mono hleH581).mono hleH586) (hI.part 0) (((((((((hs1.mono hleH15).mono hleH25).mono hleH37).mono hleH40).mono hleH60).mono hleH514).mono hleH576).mono hleH581).mono hleH586) hs585
             refine dfc 7 ([]) ([.cb g6 [ckI a0.Epoch, ckL s1] 64, .cb g8 [ckI a2.Block.Epoch, ckI a2.Block.Height, ckV flB a2.Block.Prev, ckV flB a2.Block.State, ckV flB a2.Block.Next, ckL s3, ckI a2.Cert.Round, ckL s4, ckI a2.Config.Epoch, ckL s5] 73, .cb g64 [ckI x59.1.Epoch, ckL s63] 64, .own s585 73 103 gg587, .cb g597 [ckI 0, ckL Sv.nil] 64]) (args := [.agg (flat [ckI a0.Epoch, ckL s1]).toArray, s585.v]) fc33 (by kernel_rfl) rfl rfl rfl rfl rfl hI (argc rfl (argc rfl rfl)) (hsp602) ?_
             rintro _ H600 _ w601 ⟨s603, rfl, hs603, rfl⟩ hleH600 hI
             replace hI : Inv B w601 H600 [.cb g6 _ 64, .cb g8 _ 73, .cb g64 _ 64, .own s585 73 103 gg587, .cb g597 _ 64] := hI
             refine ⟨(hI.good.weakm [true, true, true, false, false] ((((hleH514.trans hleH576).trans hleH581).trans hleH586).trans hleH600) rfl), ?_⟩
             refine dp (v := .tuple #[.agg (flat [ckI x599.1.Epoch, ckL s603]).toArray, .int .i64 x599.2.1, .int .i64 x599.2.2]) 8 (by kernel_rfl) rfl rfl (fun _ => r_mv rfl rfl) rfl hP ?_
             refine dp (v := .agg (flat [ckI x599.1.Epoch, ckL s603]).toArray) 9 (by kernel_rfl) rfl rfl (fun _ => r_ext rfl rfl rfl) rfl hP ?_
             refine dp (v := .int .i64 x599.2.1) 10 (by kernel_rfl) rfl rfl (fun _ => r_ext rfl rfl rfl) rfl hP ?_
             refine dp (v := .int .i64 x599.2.2) 11 (by kernel_rfl) rfl rfl (fun _ => r_ext rfl rfl rfl) rfl hP ?_
             refine dsl 13 (by kernel_rfl) rfl rfl rfl (l_st (off := 0) (p := 0) (m := 2) (new := [ckI x599.1.Epoch, ckL s603]) hI 4 rfl rfl sz64 rfl rfl rfl rfl rfl rfl) rfl ?_
             intro w604 hI
             replace hI : Inv B w604 H600 [.cb g6 _ 64, .cb g8 _ 73, .cb g64 _ 64, .own s585 73 103 gg587, .cb g597 [ckI x599.1.Epoch, ckL s603] 64] := hI
             refine dp (v := .int .i64 x599.2.1) 14 (by kernel_rfl) rfl rfl (fun _ => r_as rfl rfl) rfl hP ?_
             refine dp (v := .int .i64 x599.2.2) 15 (by kernel_rfl) rfl rfl (fun _ => r_as rfl rfl) rfl hP ?_
             refine dend (by kernel_rfl) ?_
             obtain rfl := Option.some.inj hF
             exact wmid ⟨H600, s603, g597, ((((hleH514.trans hleH576).trans hleH581).trans hleH586).trans hleH600), h94, h95, h96, h97, rfl, rfl, rfl, hs603, (hI.keep [false, true, true, false, true])⟩
           ·skip
            refine do_e rfl rfl (l_al hI rfl ze64) rfl ?_
            rintro _ w606 ⟨g605, rfl, hI⟩
            replace hI : Inv B w606 H581 [.cb g6 _ 64, .cb g8 _ 73, .cb g64 _ 64, .own s580 73 103 gg582, .cb g605 [ckI 0, ckL Sv.nil] 64] := hI
            refine ⟨(hI.good.weakm [true, true, true, false, false] ((hleH514.trans hleH576).trans hleH581) rfl), ?_⟩
            obtain ⟨x607, hx607, hF⟩ := Option.bind_eq_some_iff.1 hF
            refine de 6 (by kernel_rfl) rfl rfl rfl (l_app (t := ty_Link) hI 3 rfl rfl sl65 inf73 rfl rfl rfl rfl hs580 (hs575.mono hleH581) (appI_some hx607).1) rfl ?_
            rintro _ w611 ⟨s608, H609, gg610, rfl, hI, hleH609, hs608⟩
            rw [← (appI_some hx607).2] at hs608
            replace hI : Inv B w611 H609 [.cb g6 _ 64, .cb g8 _ 73, .cb g64 _ 64, .own s608 73 103 gg610, .cb g605 _ 64] := hI
            refine ⟨(hI.good.weakm [true, true, true, false, false] (((hleH514.trans hleH576).trans hleH581).trans hleH609) rfl), ?_⟩
            obtain ⟨x612, hx612, hF⟩ := Option.bind_eq_some_iff.1 hF
            have hsp615 := spec_33 hx612 (((((((((hT.mono hleH15).mono hleH25).mono hleH37).mono hleH40).mono hleH60).mono hleH514).mono hleH576).mono hleH581).mono hleH609) (hI.part 0) (((((((((hs1.mono hleH15).mono hleH25).mono hleH37).mono hleH40).mono hleH60).mono hleH514).mono hleH576).mono hleH581).mono hleH609) hs608
            refine dfc 7 ([]) ([.cb g6 [ckI a0.Epoch, ckL s1] 64, .cb g8 [ckI a2.Block.Epoch, ckI a2.Block.Height, ckV flB a2.Block.Prev, ckV flB a2.Block.State, ckV flB a2.Block.Next, ckL s3, ckI a2.Cert.Round, ckL s4, ckI a2.Config.Epoch, ckL s5] 73, .cb g64 [ckI x59.1.Epoch, ckL s63] 64, .own s608 73 103 gg610, .cb g605 [ckI 0, ckL Sv.nil] 64]) (args := [.agg (flat [ckI a0.Epoch, ckL s1]).toArray, s608.v]) fc33 (by kernel_rfl) rfl rfl rfl rfl rfl hI (argc rfl (argc rfl rfl)) (hsp615) ?_
            rintro _ H613 _ w614 ⟨s616, rfl, hs616, rfl⟩ hleH613 hI
            replace hI : Inv B w614 H613 [.cb g6 _ 64, .cb g8 _ 73, .cb g64 _ 64, .own s608 73 103 gg610, .cb g605 _ 64] := hI
            refine ⟨(hI.good.weakm [true, true, true, false, false] ((((hleH514.trans hleH576).trans hleH581).trans hleH609).trans hleH613) rfl), ?_⟩
            refine dp (v := .tuple #[.agg (flat [ckI x612.1.Epoch, ckL s616]).toArray, .int .i64 x612.2.1, .int .i64 x612.2.2]) 8 (by kernel_rfl) rfl rfl (fun _ => r_mv rfl rfl) rfl hP ?_
            refine dp (v := .agg (flat [ckI x612.1.Epoch, ckL s616]).toArray) 9 (by kernel_rfl) rfl rfl (fun _ => r_ext rfl rfl rfl) rfl hP ?_
            refine dp (v := .int .i64 x612.2.1) 10 (by kernel_rfl) rfl rfl (fun _ => r_ext rfl rfl rfl) rfl hP ?_
            refine dp (v := .int .i64 x612.2.2) 11 (by kernel_rfl) rfl rfl (fun _ => r_ext rfl rfl rfl) rfl hP ?_
            refine dsl 13 (by kernel_rfl) rfl rfl rfl (l_st (off := 0) (p := 0) (m := 2) (new := [ckI x612.1.Epoch, ckL s616]) hI 4 rfl rfl sz64 rfl rfl rfl rfl rfl rfl) rfl ?_
            intro w617 hI
            replace hI : Inv B w617 H613 [.cb g6 _ 64, .cb g8 _ 73, .cb g64 _ 64, .own s608 73 103 gg610, .cb g605 [ckI x612.1.Epoch, ckL s616] 64] := hI
            refine dp (v := .int .i64 x612.2.1) 14 (by kernel_rfl) rfl rfl (fun _ => r_as rfl rfl) rfl hP ?_
            refine dp (v := .int .i64 x612.2.2) 15 (by kernel_rfl) rfl rfl (fun _ => r_as rfl rfl) rfl hP ?_
            refine dend (by kernel_rfl) ?_
            obtain rfl := Option.some.inj hF
            exact wmid ⟨H613, s616, g605, ((((hleH514.trans hleH576).trans hleH581).trans hleH609).trans hleH613), h94, h95, h96, h97, rfl, rfl, rfl, hs616, (hI.keep [false, true, true, false, true])⟩
          ·skip
           refine do_e rfl rfl (l_al hI rfl ze64) rfl ?_
           rintro _ w619 ⟨g618, rfl, hI⟩
           replace hI : Inv B w619 H576 [.cb g6 _ 64, .cb g8 _ 73, .cb g64 _ 64, .cb g618 [ckI 0, ckL Sv.nil] 64] := hI
           refine ⟨(hI.good.weakm [true, true, true, false] (hleH514.trans hleH576) rfl), ?_⟩
           replace hI := Inv.full (e := 73) (sz := 103) hI (show s513.n = s513.c from hfs513)
           replace hI : Inv B w619 H576 [.cb g6 _ 64, .cb g8 _ 73, .cb g64 _ 64, .cb g618 _ 64, .own s513 73 103 none] := hI
           obtain ⟨x621, hx621, hF⟩ := Option.bind_eq_some_iff.1 hF
           refine de 3 (by kernel_rfl) rfl rfl rfl (l_app (t := ty_Link) hI 4 rfl rfl sl65 inf73 rfl rfl rfl rfl (hs513.mono hleH576) (((((((hs2.mono hleH15).mono hleH25).mono hleH37).mono hleH40).mono hleH60).mono hleH514).mono hleH576) (appI_some hx621).1) rfl ?_
           rintro _ w625 ⟨s622, H623, gg624, rfl, hI, hleH623, hs622⟩
           rw [← (appI_some hx621).2] at hs622
           replace hI : Inv B w625 H623 [.cb g6 _ 64, .cb g8 _ 73, .cb g64 _ 64, .cb g618 _ 64, .own s622 73 103 gg624] := hI
           refine ⟨(hI.good.weakm [true, true, true, false, false] ((hleH514.trans hleH576).trans hleH623) rfl), ?_⟩
           obtain ⟨x626, hx626, hF⟩ := Option.bind_eq_some_iff.1 hF
           refine de 6 (by kernel_rfl) rfl rfl rfl (l_app (t := ty_Link) hI 4 rfl rfl sl65 inf73 rfl rfl rfl rfl hs622 (hs575.mono hleH623) (appI_some hx626).1) rfl ?_
           rintro _ w630 ⟨s627, H628, gg629, rfl, hI, hleH628, hs627⟩
           rw [← (appI_some hx626).2] at hs627
           replace hI : Inv B w630 H628 [.cb g6 _ 64, .cb g8 _ 73, .cb g64 _ 64, .cb g618 _ 64, .own s627 73 103 gg629] := hI
           refine ⟨(hI.good.weakm [true, true, true, false, false] (((hleH514.trans hleH576).trans hleH623).trans hleH628) rfl), ?_⟩
           obtain ⟨x631, hx631, hF⟩ := Option.bind_eq_some_iff.1 hF
           have hsp634 := spec_33 hx631 (((((((((hT.mono hleH15).mono hleH25).mono hleH37).mono hleH40).mono hleH60).mono hleH514).mono hleH576).mono hleH623).mono hleH628) (hI.part 0) (((((((((hs1.mono hleH15).mono hleH25).mono hleH37).mono hleH40).mono hleH60).mono hleH514).mono hleH576).mono hleH623).mono hleH628) hs627
           refine dfc 7 ([]) ([.cb g6 [ckI a0.Epoch, ckL s1] 64, .cb g8 [ckI a2.Block.Epoch, ckI a2.Block.Height, ckV flB a2.Block.Prev, ckV flB a2.Block.State, ckV flB a2.Block.Next, ckL s3, ckI a2.Cert.Round, ckL s4, ckI a2.Config.Epoch, ckL s5] 73, .cb g64 [ckI x59.1.Epoch, ckL s63] 64, .cb g618 [ckI 0, ckL Sv.nil] 64, .own s627 73 103 gg629]) (args := [.agg (flat [ckI a0.Epoch, ckL s1]).toArray, s627.v]) fc33 (by kernel_rfl) rfl rfl rfl rfl rfl hI (argc rfl (argc rfl rfl)) (hsp634) ?_
           rintro _ H632 _ w633 ⟨s635, rfl, hs635, rfl⟩ hleH632 hI
           replace hI : Inv B w633 H632 [.cb g6 _ 64, .cb g8 _ 73, .cb g64 _ 64, .cb g618 _ 64, .own s627 73 103 gg629] := hI
           refine ⟨(hI.good.weakm [true, true, true, false, false] ((((hleH514.trans hleH576).trans hleH623).trans hleH628).trans hleH632) rfl), ?_⟩
           refine dp (v := .tuple #[.agg (flat [ckI x631.1.Epoch, ckL s635]).toArray, .int .i64 x631.2.1, .int .i64 x631.2.2]) 8 (by kernel_rfl) rfl rfl (fun _ => r_mv rfl rfl) rfl hP ?_
           refine dp (v := .agg (flat [ckI x631.1.Epoch, ckL s635]).toArray) 9 (by kernel_rfl) rfl rfl (fun _ => r_ext rfl rfl rfl) rfl hP ?_
           refine dp (v := .int .i64 x631.2.1) 10 (by kernel_rfl) rfl rfl (fun _ => r_ext rfl rfl rfl) rfl hP ?_
           refine dp (v := .int .i64 x631.2.2) 11 (by kernel_rfl) rfl rfl (fun _ => r_ext rfl rfl rfl) rfl hP ?_
           refine dsl 13 (by kernel_rfl) rfl rfl rfl (l_st (off := 0) (p := 0) (m := 2) (new := [ckI x631.1.Epoch, ckL s635]) hI 3 rfl rfl sz64 rfl rfl rfl rfl rfl rfl) rfl ?_
           intro w636 hI
           replace hI : Inv B w636 H632 [.cb g6 _ 64, .cb g8 _ 73, .cb g64 _ 64, .cb g618 [ckI x631.1.Epoch, ckL s635] 64, .own s627 73 103 gg629] := hI
           refine dp (v := .int .i64 x631.2.1) 14 (by kernel_rfl) rfl rfl (fun _ => r_as rfl rfl) rfl hP ?_
           refine dp (v := .int .i64 x631.2.2) 15 (by kernel_rfl) rfl rfl (fun _ => r_as rfl rfl) rfl hP ?_
           refine dend (by kernel_rfl) ?_
           obtain rfl := Option.some.inj hF
           exact wmid ⟨H632, s635, g618, ((((hleH514.trans hleH576).trans hleH623).trans hleH628).trans hleH632), h94, h95, h96, h97, rfl, rfl, rfl, hs635, (hI.keep [false, true, true, true, false])⟩
         ·skip
          refine do_e rfl rfl (l_al hI rfl ze64) rfl ?_
          rintro _ w638 ⟨g637, rfl, hI⟩
          replace hI : Inv B w638 H514 [.cb g6 _ 64, .cb g8 _ 73, .cb g64 _ 64, .cb g637 [ckI 0, ckL Sv.nil] 64] := hI
          refine ⟨(hI.good.weakm [true, true, true, false] hleH514 rfl), ?_⟩
          refine dtwo 3 5 (by kernel_rfl) ?_ ?_
          ·skip
           replace hI := Inv.full (e := 73) (sz := 103) hI (show s513.n = s513.c from hfs513)
           replace hI : Inv B w638 H514 [.cb g6 _ 64, .cb g8 _ 73, .cb g64 _ 64, .cb g637 _ 64, .own s513 73 103 none] := hI
           obtain ⟨x640, hx640, hF⟩ := Option.bind_eq_some_iff.1 hF
           refine do_e rfl rfl (l_app (t := ty_Link) hI 4 rfl rfl sl65 inf73 rfl rfl rfl rfl hs513 ((((((hs2.mono hleH15).mono hleH25).mono hleH37).mono hleH40).mono hleH60).mono hleH514) (appI_some hx640).1) rfl ?_
           rintro _ w644 ⟨s641, H642, gg643, rfl, hI, hleH642, hs641⟩
           rw [← (appI_some hx640).2] at hs641
           replace hI : Inv B w644 H642 [.cb g6 _ 64, .cb g8 _ 73, .cb g64 _ 64, .cb g637 _ 64, .own s641 73 103 gg643] := hI
           refine ⟨(hI.good.weakm [true, true, true, false, false] (hleH514.trans hleH642) rfl), ?_⟩
           refine de 5 (by kernel_rfl) rfl rfl rfl (l_bs (t := ty_Link) (vs := [.agg (flat [ckI a2.Block.Epoch, ckI a2.Block.Height, ckV flB a2.Block.Prev, ckV flB a2.Block.State, ckV flB a2.Block.Next, ckL s3, ckI a2.Cert.Round, ckL s4, ckI a2.Config.Epoch, ckL s5]).toArray]) (xs := [a2]) hI rfl sl65 inf73 rfl rfl (argc rfl rfl) (.cons rfl ⟨s3, s4, s5, rfl, (((((((hs3.mono hleH15).mono hleH25).mono hleH37).mono hleH40).mono hleH60).mono hleH514).mono hleH642), (((((((hs4.mono hleH15).mono hleH25).mono hleH37).mono hleH40).mono hleH60).mono hleH514).mono hleH642), (((((((hs5.mono hleH15).mono hleH25).mono hleH37).mono hleH40).mono hleH60).mono hleH514).mono hleH642)⟩ .nil) rfl) rfl ?_
           rintro _ w647 ⟨s645, H646, rfl, hI, hleH646, hs645, hfs645, hgs645⟩
           refine ⟨(hI.good.weakm [true, true, true, false, false] ((hleH514.trans hleH642).trans hleH646) rfl), ?_⟩
           obtain ⟨x648, hx648, hF⟩ := Option.bind_eq_some_iff.1 hF
           refine de 6 (by kernel_rfl) rfl rfl rfl (l_app (t := ty_Link) hI 4 rfl rfl sl65 inf73 rfl rfl rfl rfl (hs641.mono hleH646) hs645 (appI_some hx648).1) rfl ?_
           rintro _ w652 ⟨s649, H650, gg651, rfl, hI, hleH650, hs649⟩
           rw [← (appI_some hx648).2] at hs649
           replace hI : Inv B w652 H650 [.cb g6 _ 64, .cb g8 _ 73, .cb g64 _ 64, .cb g637 _ 64, .own s649 73 103 gg651] := hI
           refine ⟨(hI.good.weakm [true, true, true, false, false] (((hleH514.trans hleH642).trans hleH646).trans hleH650) rfl), ?_⟩
           obtain ⟨x653, hx653, hF⟩ := Option.bind_eq_some_iff.1 hF
           have hsp656 := spec_33 hx653 (((((((((hT.mono hleH15).mono hleH25).mono hleH37).mono hleH40).mono hleH60).mono hleH514).mono hleH642).mono hleH646).mono hleH650) (hI.part 0) (((((((((hs1.mono hleH15).mono hleH25).mono hleH37).mono hleH40).mono hleH60).mono hleH514).mono hleH642).mono hleH646).mono hleH650) hs649
           refine dfc 7 ([]) ([.cb g6 [ckI a0.Epoch, ckL s1] 64, .cb g8 [ckI a2.Block.Epoch, ckI a2.Block.Height, ckV flB a2.Block.Prev, ckV flB a2.Block.State, ckV flB a2.Block.Next, ckL s3, ckI a2.Cert.Round, ckL s4, ckI a2.Config.Epoch, ckL s5] 73, .cb g64 [ckI x59.1.Epoch, ckL s63] 64, .cb g637 [ckI 0, ckL Sv.nil] 64, .own s649 73 103 gg651]) (args := [.agg (flat [ckI a0.Epoch, ckL s1]).toArray, s649.v]) fc33 (by kernel_rfl) rfl rfl rfl rfl rfl hI (argc rfl (argc rfl rfl)) (hsp656) ?_
           rintro _ H654 _ w655 ⟨s657, rfl, hs657, rfl⟩ hleH654 hI
           replace hI : Inv B w655 H654 [.cb g6 _ 64, .cb g8 _ 73, .cb g64 _ 64, .cb g637 _ 64, .own s649 73 103 gg651] := hI
           refine ⟨(hI.good.weakm [true, true, true, false, false] ((((hleH514.trans hleH642).trans hleH646).trans hleH650).trans hleH654) rfl), ?_⟩
           refine dp (v := .tuple #[.agg (flat [ckI x653.1.Epoch, ckL s657]).toArray, .int .i64 x653.2.1, .int .i64 x653.2.2]) 8 (by kernel_rfl) rfl rfl (fun _ => r_mv rfl rfl) rfl hP ?_
           refine dp (v := .agg (flat [ckI x653.1.Epoch, ckL s657]).toArray) 9 (by kernel_rfl) rfl rfl (fun _ => r_ext rfl rfl rfl) rfl hP ?_
           refine dp (v := .int .i64 x653.2.1) 10 (by kernel_rfl) rfl rfl (fun _ => r_ext rfl rfl rfl) rfl hP ?_
           refine dp (v := .int .i64 x653.2.2) 11 (by kernel_rfl) rfl rfl (fun _ => r_ext rfl rfl rfl) rfl hP ?_
           refine dsl 13 (by kernel_rfl) rfl rfl rfl (l_st (off := 0) (p := 0) (m := 2) (new := [ckI x653.1.Epoch, ckL s657]) hI 3 rfl rfl sz64 rfl rfl rfl rfl rfl rfl) rfl ?_
           intro w658 hI
           replace hI : Inv B w658 H654 [.cb g6 _ 64, .cb g8 _ 73, .cb g64 _ 64, .cb g637 [ckI x653.1.Epoch, ckL s657] 64, .own s649 73 103 gg651] := hI
           refine dp (v := .int .i64 x653.2.1) 14 (by kernel_rfl) rfl rfl (fun _ => r_as rfl rfl) rfl hP ?_
           refine dp (v := .int .i64 x653.2.2) 15 (by kernel_rfl) rfl rfl (fun _ => r_as rfl rfl) rfl hP ?_
           refine dend (by kernel_rfl) ?_
           obtain rfl := Option.some.inj hF
           exact wmid ⟨H654, s657, g637, ((((hleH514.trans hleH642).trans hleH646).trans hleH650).trans hleH654), h94, h95, h96, h97, rfl, rfl, rfl, hs657, (hI.keep [false, true, true, true, false])⟩
          ·skip
           refine do_e rfl rfl (l_bs (t := ty_Link) (vs := [.agg (flat [ckI a2.Block.Epoch, ckI a2.Block.Height, ckV flB a2.Block.Prev, ckV flB a2.Block.State, ckV flB a2.Block.Next, ckL s3, ckI a2.Cert.Round, ckL s4, ckI a2.Config.Epoch, ckL s5]).toArray]) (xs := [a2]) hI rfl sl65 inf73 rfl rfl (argc rfl rfl) (.cons rfl ⟨s3, s4, s5, rfl, ((((((hs3.mono hleH15).mono hleH25).mono hleH37).mono hleH40).mono hleH60).mono hleH514), ((((((hs4.mono hleH15).mono hleH25).mono hleH37).mono hleH40).mono hleH60).mono hleH514), ((((((hs5.mono hleH15).mono hleH25).mono hleH37).mono hleH40).mono hleH60).mono hleH514)⟩ .nil) rfl) rfl ?_
           rintro _ w661 ⟨s659, H660, rfl, hI, hleH660, hs659, hfs659, hgs659⟩
           refine ⟨(hI.good.weakm [true, true, true, false] (hleH514.trans hleH660) rfl), ?_⟩
           replace hI := Inv.full (e := 73) (sz := 103) hI (show s513.n = s513.c from hfs513)
           replace hI : Inv B w661 H660 [.cb g6 _ 64, .cb g8 _ 73, .cb g64 _ 64, .cb g637 _ 64, .own s513 73 103 none] := hI
           obtain ⟨x663, hx663, hF⟩ := Option.bind_eq_some_iff.1 hF
           refine de 3 (by kernel_rfl) rfl rfl rfl (l_app (t := ty_Link) hI 4 rfl rfl sl65 inf73 rfl rfl rfl rfl (hs513.mono hleH660) (((((((hs2.mono hleH15).mono hleH25).mono hleH37).mono hleH40).mono hleH60).mono hleH514).mono hleH660) (appI_some hx663).1) rfl ?_
           rintro _ w667 ⟨s664, H665, gg666, rfl, hI, hleH665, hs664⟩
           rw [← (appI_some hx663).2] at hs664
           replace hI : Inv B w667 H665 [.cb g6 _ 64, .cb g8 _ 73, .cb g64 _ 64, .cb g637 _ 64, .own s664 73 103 gg666] := hI
           refine ⟨(hI.good.weakm [true, true, true, false, false] ((hleH514.trans hleH660).trans hleH665) rfl), ?_⟩
           obtain ⟨x668, hx668, hF⟩ := Option.bind_eq_some_iff.1 hF
           refine de 6 (by kernel_rfl) rfl rfl rfl (l_app (t := ty_Link) hI 4 rfl rfl sl65 inf73 rfl rfl rfl rfl hs664 (hs659.mono hleH665) (appI_some hx668).1) rfl ?_
           rintro _ w672 ⟨s669, H670, gg671, rfl, hI, hleH670, hs669⟩
           rw [← (appI_some hx668).2] at hs669
           replace hI : Inv B w672 H670 [.cb g6 _ 64, .cb g8 _ 73, .cb g64 _ 64, .cb g637 _ 64, .own s669 73 103 gg671] := hI
           refine ⟨(hI.good.weakm [true, true, true, false, false] (((hleH514.trans hleH660).trans hleH665).trans hleH670) rfl), ?_⟩
           obtain ⟨x673, hx673, hF⟩ := Option.bind_eq_some_iff.1 hF
           have hsp676 := spec_33 hx673 (((((((((hT.mono hleH15).mono hleH25).mono hleH37).mono hleH40).mono hleH60).mono hleH514).mono hleH660).mono hleH665).mono hleH670) (hI.part 0) (((((((((hs1.mono hleH15).mono hleH25).mono hleH37).mono hleH40).mono hleH60).mono hleH514).mono hleH660).mono hleH665).mono hleH670) hs669
           refine dfc 7 ([]) ([.cb g6 [ckI a0.Epoch, ckL s1] 64, .cb g8 [ckI a2.Block.Epoch, ckI a2.Block.Height, ckV flB a2.Block.Prev, ckV flB a2.Block.State, ckV flB a2.Block.Next, ckL s3, ckI a2.Cert.Round, ckL s4, ckI a2.Config.Epoch, ckL s5] 73, .cb g64 [ckI x59.1.Epoch, ckL s63] 64, .cb g637 [ckI 0, ckL Sv.nil] 64, .own s669 73 103 gg671]) (args := [.agg (flat [ckI a0.Epoch, ckL s1]).toArray, s669.v]) fc33 (by kernel_rfl) rfl rfl rfl rfl rfl hI (argc rfl (argc rfl rfl)) (hsp676) ?_
           rintro _ H674 _ w675 ⟨s677, rfl, hs677, rfl⟩ hleH674 hI
           replace hI : Inv B w675 H674 [.cb g6 _ 64, .cb g8 _ 73, .cb g64 _ 64, .cb g637 _ 64, .own s669 73 103 gg671] := hI
           refine ⟨(hI.good.weakm [true, true, true, false, false] ((((hleH514.trans hleH660).trans hleH665).trans hleH670).trans hleH674) rfl), ?_⟩
           refine dp (v := .tuple #[.agg (flat [ckI x673.1.Epoch, ckL s677]).toArray, .int .i64 x673.2.1, .int .i64 x673.2.2]) 8 (by kernel_rfl) rfl rfl (fun _ => r_mv rfl rfl) rfl hP ?_
           refine dp (v := .agg (flat [ckI x673.1.Epoch, ckL s677]).toArray) 9 (by kernel_rfl) rfl rfl (fun _ => r_ext rfl rfl rfl) rfl hP ?_
           refine dp (v := .int .i64 x673.2.1) 10 (by kernel_rfl) rfl rfl (fun _ => r_ext rfl rfl rfl) rfl hP ?_
           refine dp (v := .int .i64 x673.2.2) 11 (by kernel_rfl) rfl rfl (fun _ => r_ext rfl rfl rfl) rfl hP ?_
           refine dsl 13 (by kernel_rfl) rfl rfl rfl (l_st (off := 0) (p := 0) (m := 2) (new := [ckI x673.1.Epoch, ckL s677]) hI 3 rfl rfl sz64 rfl rfl rfl rfl rfl rfl) rfl ?_
           intro w678 hI
           replace hI : Inv B w678 H674 [.cb g6 _ 64, .cb g8 _ 73, .cb g64 _ 64, .cb g637 [ckI x673.1.Epoch, ckL s677] 64, .own s669 73 103 gg671] := hI
           refine dp (v := .int .i64 x673.2.1) 14 (by kernel_rfl) rfl rfl (fun _ => r_as rfl rfl) rfl hP ?_
           refine dp (v := .int .i64 x673.2.2) 15 (by kernel_rfl) rfl rfl (fun _ => r_as rfl rfl) rfl hP ?_
           refine dend (by kernel_rfl) ?_
           obtain rfl := Option.some.inj hF
           exact wmid ⟨H674, s677, g637, ((((hleH514.trans hleH660).trans hleH665).trans hleH670).trans hleH674), h94, h95, h96, h97, rfl, rfl, rfl, hs677, (hI.keep [false, true, true, true, false])⟩
        ·skip
         refine do_e rfl rfl (l_bs (t := ty_Link) (vs := [.agg (flat [ckI a2.Block.Epoch, ckI a2.Block.Height, ckV flB a2.Block.Prev, ckV flB a2.Block.State, ckV flB a2.Block.Next, ckL s3, ckI a2.Cert.Round, ckL s4, ckI a2.Config.Epoch, ckL s5]).toArray]) (xs := [a2]) hI rfl sl65 inf73 rfl rfl (argc rfl rfl) (.cons rfl ⟨s3, s4, s5, rfl, (((((hs3.mono hleH15).mono hleH25).mono hleH37).mono hleH40).mono hleH60), (((((hs4.mono hleH15).mono hleH25).mono hleH37).mono hleH40).mono hleH60), (((((hs5.mono hleH15).mono hleH25).mono hleH37).mono hleH40).mono hleH60)⟩ .nil) rfl) rfl ?_
         rintro _ w681 ⟨s679, H680, rfl, hI, hleH680, hs679, hfs679, hgs679⟩
         refine ⟨(hI.good.weakm [true, true, true] hleH680 rfl), ?_⟩
         refine dtwo 1 12 (by kernel_rfl) ?_ ?_
         ·skip
          refine do_e rfl rfl (l_bs (t := ty_Link) (vs := []) (xs := []) hI rfl sl65 inf73 rfl rfl rfl .nil rfl) rfl ?_
          rintro _ w684 ⟨s682, H683, rfl, hI, hleH683, hs682, hfs682, hgs682⟩
          refine ⟨(hI.good.weakm [true, true, true] (hleH680.trans hleH683) rfl), ?_⟩
          refine dtwo 3 12 (by kernel_rfl) ?_ ?_
          ·skip
           replace hI := Inv.full (e := 73) (sz := 103) hI (show s682.n = s682.c from hfs682)
           replace hI : Inv B w684 H683 [.cb g6 _ 64, .cb g8 _ 73, .cb g64 _ 64, .own s682 73 103 none] := hI
           obtain ⟨x686, hx686, hF⟩ := Option.bind_eq_some_iff.1 hF
           refine do_e rfl rfl (l_app (t := ty_Link) hI 3 rfl rfl sl65 inf73 rfl rfl rfl rfl hs682 (((((((hs2.mono hleH15).mono hleH25).mono hleH37).mono hleH40).mono hleH60).mono hleH680).mono hleH683) (appI_some hx686).1) rfl ?_
           rintro _ w690 ⟨s687, H688, gg689, rfl, hI, hleH688, hs687⟩
           rw [← (appI_some hx686).2] at hs687
           replace hI : Inv B w690 H688 [.cb g6 _ 64, .cb g8 _ 73, .cb g64 _ 64, .own s687 73 103 gg689] := hI
           refine ⟨(hI.good.weakm [true, true, true, false] ((hleH680.trans hleH683).trans hleH688) rfl), ?_⟩
           refine dtwo 6 12 (by kernel_rfl) ?_ ?_
           ·skip
            obtain ⟨x691, hx691, hF⟩ := Option.bind_eq_some_iff.1 hF
            refine do_e rfl rfl (l_app (t := ty_Link) hI 3 rfl rfl sl65 inf73 rfl rfl rfl rfl hs687 ((hs679.mono hleH683).mono hleH688) (appI_some hx691).1) rfl ?_
            rintro _ w695 ⟨s692, H693, gg694, rfl, hI, hleH693, hs692⟩
            rw [← (appI_some hx691).2] at hs692
            replace hI : Inv B w695 H693 [.cb g6 _ 64, .cb g8 _ 73, .cb g64 _ 64, .own s692 73 103 gg694] := hI
            refine ⟨(hI.good.weakm [true, true, true, false] (((hleH680.trans hleH683).trans hleH688).trans hleH693) rfl), ?_⟩
            refine dtwo 7 12 (by kernel_rfl) ?_ ?_
            ·skip
             obtain ⟨x696, hx696, hF⟩ := Option.bind_eq_some_iff.1 hF
             have hsp699 := spec_33 hx696 (((((((((hT.mono hleH15).mono hleH25).mono hleH37).mono hleH40).mono hleH60).mono hleH680).mono hleH683).mono hleH688).mono hleH693) (hI.part 0) (((((((((hs1.mono hleH15).mono hleH25).mono hleH37).mono hleH40).mono hleH60).mono hleH680).mono hleH683).mono hleH688).mono hleH693) hs692
             refine do_fc ([]) ([.cb g6 [ckI a0.Epoch, ckL s1] 64, .cb g8 [ckI a2.Block.Epoch, ckI a2.Block.Height, ckV flB a2.Block.Prev, ckV flB a2.Block.State, ckV flB a2.Block.Next, ckL s3, ckI a2.Cert.Round, ckL s4, ckI a2.Config.Epoch, ckL s5] 73, .cb g64 [ckI x59.1.Epoch, ckL s63] 64, .own s692 73 103 gg694]) (args := [.agg (flat [ckI a0.Epoch, ckL s1]).toArray, s692.v]) fc33 rfl rfl rfl rfl hI (argc rfl (argc rfl rfl)) (hsp699) ?_
             rintro _ H697 _ w698 ⟨s700, rfl, hs700, rfl⟩ hleH697 hI
             replace hI : Inv B w698 H697 [.cb g6 _ 64, .cb g8 _ 73, .cb g64 _ 64, .own s692 73 103 gg694] := hI
             refine ⟨(hI.good.weakm [true, true, true, false] ((((hleH680.trans hleH683).trans hleH688).trans hleH693).trans hleH697) rfl), ?_⟩
             refine dp (v := .tuple #[.agg (flat [ckI x696.1.Epoch, ckL s700]).toArray, .int .i64 x696.2.1, .int .i64 x696.2.2]) 8 (by kernel_rfl) rfl rfl (fun _ => r_mv rfl rfl) rfl hP ?_
             refine dp (v := .agg (flat [ckI x696.1.Epoch, ckL s700]).toArray) 9 (by kernel_rfl) rfl rfl (fun _ => r_ext rfl rfl rfl) rfl hP ?_
             refine dp (v := .int .i64 x696.2.1) 10 (by kernel_rfl) rfl rfl (fun _ => r_ext rfl rfl rfl) rfl hP ?_
             refine dp (v := .int .i64 x696.2.2) 11 (by kernel_rfl) rfl rfl (fun _ => r_ext rfl rfl rfl) rfl hP ?_
             refine de 12 (by kernel_rfl) rfl rfl rfl (l_al hI rfl ze64) rfl ?_
             rintro _ w702 ⟨g701, rfl, hI⟩
             replace hI : Inv B w702 H697 [.cb g6 _ 64, .cb g8 _ 73, .cb g64 _ 64, .own s692 73 103 gg694, .cb g701 [ckI 0, ckL Sv.nil] 64] := hI
             refine ⟨(hI.good.weakm [true, true, true, false, false] ((((hleH680.trans hleH683).trans hleH688).trans hleH693).trans hleH697) rfl), ?_⟩
             refine dsl 13 (by kernel_rfl) rfl rfl rfl (l_st (off := 0) (p := 0) (m := 2) (new := [ckI x696.1.Epoch, ckL s700]) hI 4 rfl rfl sz64 rfl rfl rfl rfl rfl rfl) rfl ?_
             intro w703 hI
             replace hI : Inv B w703 H697 [.cb g6 _ 64, .cb g8 _ 73, .cb g64 _ 64, .own s692 73 103 gg694, .cb g701 [ckI x696.1.Epoch, ckL s700] 64] := hI
             refine dp (v := .int .i64 x696.2.1) 14 (by kernel_rfl) rfl rfl (fun _ => r_as rfl rfl) rfl hP ?_
             refine dp (v := .int .i64 x696.2.2) 15 (by kernel_rfl) rfl rfl (fun _ => r_as rfl rfl) rfl hP ?_
             refine dend (by kernel_rfl) ?_
             obtain rfl := Option.some.inj hF
             exact wmid ⟨H697, s700, g701, ((((hleH680.trans hleH683).trans hleH688).trans hleH693).trans hleH697), h94, h95, h96, h97, rfl, rfl, rfl, hs700, (hI.keep [false, true, true, false, true])⟩
            ·skip
             refine do_e rfl rfl (l_al hI rfl ze64) rfl ?_
             rintro _ w705 ⟨g704, rfl, hI⟩
             replace hI : Inv B w705 H693 [.cb g6 _ 64, .cb g8 _ 73, .cb g64 _ 64, .own s692 73 103 gg694, .cb g704 [ckI 0, ckL Sv.nil] 64] := hI
             refine ⟨(hI.good.weakm [true, true, true, false, false] (((hleH680.trans hleH683).trans hleH688).trans hleH693) rfl), ?_⟩
             obtain ⟨x706, hx706, hF⟩ := Option.bind_eq_some_iff.1 hF
             have hsp709 := spec_33 hx706 (((((((((hT.mono hleH15).mono hleH25).mono hleH37).mono hleH40).mono hleH60).mono hleH680).mono hleH683).mono hleH688).mono hleH693) (hI.part 0) (((((((((hs1.mono hleH15).mono hleH25).mono hleH37).mono hleH40).mono hleH60).mono hleH680).mono hleH683).mono hleH688).mono hleH693) hs692
             refine dfc 7 ([]) ([.cb g6 [ckI a0.Epoch, ckL s1] 64, .cb g8 [ckI a2.Block.Epoch, ckI a2.Block.Height, ckV flB a2.Block.Prev, ckV flB a2.Block.State, ckV flB a2.Block.Next, ckL s3, ckI a2.Cert.Round, ckL s4, ckI a2.Config.Epoch, ckL s5] 73, .cb g64 [ckI x59.1.Epoch, ckL s63] 64, .own s692 73 103 gg694, .cb g704 [ckI 0, ckL Sv.nil] 64]) (args := [.agg (flat [ckI a0.Epoch, ckL s1]).toArray, s692.v]) fc33 (by kernel_rfl) rfl rfl rfl rfl rfl hI (argc rfl (argc rfl rfl)) (hsp709) ?_
             rintro _ H707 _ w708 ⟨s710, rfl, hs710, rfl⟩ hleH707 hI
             replace hI : Inv B w708 H707 [.cb g6 _ 64, .cb g8 _ 73, .cb g64 _ 64, .own s692 73 103 gg694, .cb g704 _ 64] := hI
             refine ⟨(hI.good.weakm [true, true, true, false, false] ((((hleH680.trans hleH683).trans hleH688).trans hleH693).trans hleH707) rfl), ?_⟩
             refine dp (v := .tuple #[.agg (flat [ckI x706.1.Epoch, ckL s710]).toArray, .int .i64 x706.2.1, .int .i64 x706.2.2]) 8 (by kernel_rfl) rfl rfl (fun _ => r_mv rfl rfl) rfl hP ?_
             refine dp (v := .agg (flat [ckI x706.1.Epoch, ckL s710]).toArray) 9 (by kernel_rfl) rfl rfl (fun _ => r_ext rfl rfl rfl) rfl hP ?_
             refine dp (v := .int .i64 x706.2.1) 10 (by kernel_rfl) rfl rfl (fun _ => r_ext rfl rfl rfl) rfl hP ?_
             refine dp (v := .int .i64 x706.2.2) 11 (by kernel_rfl) rfl rfl (fun _ => r_ext rfl rfl rfl) rfl hP ?_
             refine dsl 13 (by kernel_rfl) rfl rfl rfl (l_st (off := 0) (p := 0) (m := 2) (new := [ckI x706.1.Epoch, ckL s710]) hI 4 rfl rfl sz64 rfl rfl rfl rfl rfl rfl) rfl ?_
             intro w711 hI
             replace hI : Inv B w711 H707 [.cb g6 _ 64, .cb g8 _ 73, .cb g64 _ 64, .own s692 73 103 gg694, .cb g704 [ckI x706.1.Epoch, ckL s710] 64] := hI
             refine dp (v := .int .i64 x706.2.1) 14 (by kernel_rfl) rfl rfl (fun _ => r_as rfl rfl) rfl hP ?_
             refine dp (v := .int .i64 x706.2.2) 15 (by kernel_rfl) rfl rfl (fun _ => r_as rfl rfl) rfl hP ?_
             refine dend (by kernel_rfl) ?_
             obtain rfl := Option.some.inj hF
             exact wmid ⟨H707, s710, g704, ((((hleH680.trans hleH683).trans hleH688).trans hleH693).trans hleH707), h94, h95, h96, h97, rfl, rfl, rfl, hs710, (hI.keep [false, true, true, false, true])⟩
           ·skip
            refine do_e rfl rfl (l_al hI rfl ze64) rfl ?_
            rintro _ w713 ⟨g712, rfl, hI⟩
            replace hI : Inv B w713 H688 [.cb g6 _ 64, .cb g8 _ 73, .cb g64 _ 64, .own s687 73 103 gg689, .cb g712 [ckI 0, ckL Sv.nil] 64] := hI
            refine ⟨(hI.good.weakm [true, true, true, false, false] ((hleH680.trans hleH683).trans hleH688) rfl), ?_⟩
            obtain ⟨x714, hx714, hF⟩ := Option.bind_eq_some_iff.1 hF
            refine de 6 (by kernel_rfl) rfl rfl rfl (l_app (t := ty_Link) hI 3 rfl rfl sl65 inf73 rfl rfl rfl rfl hs687 ((hs679.mono hleH683).mono hleH688) (appI_some hx714).1) rfl ?_
            rintro _ w718 ⟨s715, H716, gg717, rfl, hI, hleH716, hs715⟩
            rw [← (appI_some hx714).2] at hs715
            replace hI : Inv B w718 H716 [.cb g6 _ 64, .cb g8 _ 73, .cb g64 _ 64, .own s715 73 103 gg717, .cb g712 _ 64] := hI
            refine ⟨(hI.good.weakm [true, true, true, false, false] (((hleH680.trans hleH683).trans hleH688).trans hleH716) rfl), ?_⟩
            obtain ⟨x719, hx719, hF⟩ := Option.bind_eq_some_iff.1 hF
            have hsp722 := spec_33 hx719 (((((((((hT.mono hleH15).mono hleH25).mono hleH37).mono hleH40).mono hleH60).mono hleH680).mono hleH683).mono hleH688).mono hleH716) (hI.part 0) (((((((((hs1.mono hleH15).mono hleH25).mono hleH37).mono hleH40).mono hleH60).mono hleH680).mono hleH683).mono hleH688).mono hleH716) hs715
            refine dfc 7 ([]) ([.cb g6 [ckI a0.Epoch, ckL s1] 64, .cb g8 [ckI a2.Block.Epoch, ckI a2.Block.Height, ckV flB a2.Block.Prev, ckV flB a2.Block.State, ckV flB a2.Block.Next, ckL s3, ckI a2.Cert.Round, ckL s4, ckI a2.Config.Epoch, ckL s5] 73, .cb g64 [ckI x59.1.Epoch, ckL s63] 64, .own s715 73 103 gg717, .cb g712 [ckI 0, ckL Sv.nil] 64]) (args := [.agg (flat [ckI a0.Epoch, ckL s1]).toArray, s715.v]) fc33 (by kernel_rfl) rfl rfl rfl rfl rfl hI (argc rfl (argc rfl rfl)) (hsp722) ?_
            rintro _ H720 _ w721 ⟨s723, rfl, hs723, rfl⟩ hleH720 hI
            replace hI : Inv B w721 H720 [.cb g6 _ 64, .cb g8 _ 73, .cb g64 _ 64, .own s715 73 103 gg717, .cb g712 _ 64] := hI
            refine ⟨(hI.good.weakm [true, true, true, false, false] ((((hleH680.trans hleH683).trans hleH688).trans hleH716).trans hleH720) rfl), ?_⟩
            refine dp (v := .tuple #[.agg (flat [ckI x719.1.Epoch, ckL s723]).toArray, .int .i64 x719.2.1, .int .i64 x719.2.2]) 8 (by kernel_rfl) rfl rfl (fun _ => r_mv rfl rfl) rfl hP ?_
            refine dp (v := .agg (flat [ckI x719.1.Epoch, ckL s723]).toArray) 9 (by kernel_rfl) rfl rfl (fun _ => r_ext rfl rfl rfl) rfl hP ?_
            refine dp (v := .int .i64 x719.2.1) 10 (by kernel_rfl) rfl rfl (fun _ => r_ext rfl rfl rfl) rfl hP ?_
            refine dp (v := .int .i64 x719.2.2) 11 (by kernel_rfl) rfl rfl (fun _ => r_ext rfl rfl rfl) rfl hP ?_
            refine dsl 13 (by kernel_rfl) rfl rfl rfl (l_st (off := 0) (p := 0) (m := 2) (new := [ckI x719.1.Epoch, ckL s723]) hI 4 rfl rfl sz64 rfl rfl rfl rfl rfl rfl) rfl ?_
            intro w724 hI
            replace hI : Inv B w724 H720 [.cb g6 _ 64, .cb g8 _ 73, .cb g64 _ 64, .own s715 73 103 gg717, .cb g712 [ckI x719.1.Epoch, ckL s723] 64] := hI
            refine dp (v := .int .i64 x719.2.1) 14 (by kernel_rfl) rfl rfl (fun _ => r_as rfl rfl) rfl hP ?_
            refine dp (v := .int .i64 x719.2.2) 15 (by kernel_rfl) rfl rfl (fun _ => r_as rfl rfl) rfl hP ?_
            refine dend (by kernel_rfl) ?_
            obtain rfl := Option.some.inj hF
            exact wmid ⟨H720, s723, g712, ((((hleH680.trans hleH683).trans hleH688).trans hleH716).trans hleH720), h94, h95, h96, h97, rfl, rfl, rfl, hs723, (hI.keep [false, true, true, false, true])⟩
          ·skip
           refine do_e rfl rfl (l_al hI rfl ze64) rfl ?_
           rintro _ w726 ⟨g725, rfl, hI⟩
           replace hI : Inv B w726 H683 [.cb g6 _ 64, .cb g8 _ 73, .cb g64 _ 64, .cb g725 [ckI 0, ckL Sv.nil] 64] := hI
           refine ⟨(hI.good.weakm [true, true, true, false] (hleH680.trans hleH683) rfl), ?_⟩
           replace hI := Inv.full (e := 73) (sz := 103) hI (show s682.n = s682.c from hfs682)
           replace hI : Inv B w726 H683 [.cb g6 _ 64, .cb g8 _ 73, .cb g64 _ 64, .cb g725 _ 64, .own s682 73 103 none] := hI
           obtain ⟨x728, hx728, hF⟩ := Option.bind_eq_some_iff.1 hF
           refine de 3 (by kernel_rfl) rfl rfl rfl (l_app (t := ty_Link) hI 4 rfl rfl sl65 inf73 rfl rfl rfl rfl hs682 (((((((hs2.mono hleH15).mono hleH25).mono hleH37).mono hleH40).mono hleH60).mono hleH680).mono hleH683) (appI_some hx728).1) rfl ?_
           rintro _ w732 ⟨s729, H730, gg731, rfl, hI, hleH730, hs729⟩
           rw [← (appI_some hx728).2] at hs729
           replace hI : Inv B w732 H730 [.cb g6 _ 64, .cb g8 _ 73, .cb g64 _ 64, .cb g725 _ 64, .own s729 73 103 gg731] := hI
           refine ⟨(hI.good.weakm [true, true, true, false, false] ((hleH680.trans hleH683).trans hleH730) rfl), ?_⟩
           obtain ⟨x733, hx733, hF⟩ := Option.bind_eq_some_iff.1 hF
           refine de 6 (by kernel_rfl) rfl rfl rfl (l_app (t := ty_Link) hI 4 rfl rfl sl65 inf73 rfl rfl rfl rfl hs729 ((hs679.mono hleH683).mono hleH730) (appI_some hx733).1) rfl ?_
           rintro _ w737 ⟨s734, H735, gg736, rfl, hI, hleH735, hs734⟩
           rw [← (appI_some hx733).2] at hs734
           replace hI : Inv B w737 H735 [.cb g6 _ 64, .cb g8 _ 73, .cb g64 _ 64, .cb g725 _ 64, .own s734 73 103 gg736] := hI
           refine ⟨(hI.good.weakm [true, true, true, false, false] (((hleH680.trans hleH683).trans hleH730).trans hleH735) rfl), ?_⟩
           obtain ⟨x738, hx738, hF⟩ := Option.bind_eq_some_iff.1 hF
           have hsp741 := spec_33 hx738 (((((((((hT.mono hleH15).mono hleH25).mono hleH37).mono hleH40).mono hleH60).mono hleH680).mono hleH683).mono hleH730).mono hleH735) (hI.part 0) (((((((((hs1.mono hleH15).mono hleH25).mono hleH37).mono hleH40).mono hleH60).mono hleH680).mono hleH683).mono hleH730).mono hleH735) hs734
           refine dfc 7 ([]) ([.cb g6 [ckI a0.Epoch, ckL s1] 64, .cb g8 [ckI a2.Block.Epoch, ckI a2.Block.Height, ckV flB a2.Block.Prev, ckV flB a2.Block.State, ckV flB a2.Block.Next, ckL s3, ckI a2.Cert.Round, ckL s4, ckI a2.Config.Epoch, ckL s5] 73, .cb g64 [ckI x59.1.Epoch, ckL s63] 64, .cb g725 [ckI 0, ckL Sv.nil] 64, .own s734 73 103 gg736]) (args := [.agg (flat [ckI a0.Epoch, ckL s1]).toArray, s734.v]) fc33 (by kernel_rfl) rfl rfl rfl rfl rfl hI (argc rfl (argc rfl rfl)) (hsp741) ?_
           rintro _ H739 _ w740 ⟨s742, rfl, hs742, rfl⟩ hleH739 hI
           replace hI : Inv B w740 H739 [.cb g6 _ 64, .cb g8 _ 73, .cb g64 _ 64, .cb g725 _ 64, .own s734 73 103 gg736] := hI
           refine ⟨(hI.good.weakm [true, true, true, false, false] ((((hleH680.trans hleH683).trans hleH730).trans hleH735).trans hleH739) rfl), ?_⟩
           refine dp (v := .tuple #[.agg (flat [ckI x738.1.Epoch, ckL s742]).toArray, .int .i64 x738.2.1, .int .i64 x738.2.2]) 8 (by kernel_rfl) rfl rfl (fun _ => r_mv rfl rfl) rfl hP ?_
           refine dp (v := .agg (flat [ckI x738.1.Epoch, ckL s742]).toArray) 9 (by kernel_rfl) rfl rfl (fun _ => r_ext rfl rfl rfl) rfl hP ?_
           refine dp (v := .int .i64 x738.2.1) 10 (by kernel_rfl) rfl rfl (fun _ => r_ext rfl rfl rfl) rfl hP ?_
           refine dp (v := .int .i64 x738.2.2) 11 (by kernel_rfl) rfl rfl (fun _ => r_ext rfl rfl rfl) rfl hP ?_
           refine dsl 13 (by kernel_rfl) rfl rfl rfl (l_st (off := 0) (p := 0) (m := 2) (new := [ckI x738.1.Epoch, ckL s742]) hI 3 rfl rfl sz64 rfl rfl rfl rfl rfl rfl) rfl ?_
           intro w743 hI
           replace hI : Inv B w743 H739 [.cb g6 _ 64, .cb g8 _ 73, .cb g64 _ 64, .cb g725 [ckI x738.1.Epoch, ckL s742] 64, .own s734 73 103 gg736] := hI
           refine dp (v := .int .i64 x738.2.1) 14 (by kernel_rfl) rfl rfl (fun _ => r_as rfl rfl) rfl hP ?_
           refine dp (v := .int .i64 x738.2.2) 15 (by kernel_rfl) rfl rfl (fun _ => r_as rfl rfl) rfl hP ?_
           refine dend (by kernel_rfl) ?_
           obtain rfl := Option.some.inj hF
           exact wmid ⟨H739, s742, g725, ((((hleH680.trans hleH683).trans hleH730).trans hleH735).trans hleH739), h94, h95, h96, h97, rfl, rfl, rfl, hs742, (hI.keep [false, true, true, true, false])⟩
         ·skip
          refine do_e rfl rfl (l_al hI rfl ze64) rfl ?_
          rintro _ w745 ⟨g744, rfl, hI⟩
          replace hI : Inv B w745 H680 [.cb g6 _ 64, .cb g8 _ 73, .cb g64 _ 64, .cb g744 [ckI 0, ckL Sv.nil] 64] := hI
          refine ⟨(hI.good.weakm [true, true, true, false] hleH680 rfl), ?_⟩
          refine de 1 (by kernel_rfl) rfl rfl rfl (l_bs (t := ty_Link) (vs := []) (xs := []) hI rfl sl65 inf73 rfl rfl rfl .nil rfl) rfl ?_
          rintro _ w748 ⟨s746, H747, rfl, hI, hleH747, hs746, hfs746, hgs746⟩
          refine ⟨(hI.good.weakm [true, true, true, false] (hleH680.trans hleH747) rfl), ?_⟩
          replace hI := Inv.full (e := 73) (sz := 103) hI (show s746.n = s746.c from hfs746)
          replace hI : Inv B w748 H747 [.cb g6 _ 64, .cb g8 _ 73, .cb g64 _ 64, .cb g744 _ 64, .own s746 73 103 none] := hI
          obtain ⟨x750, hx750, hF⟩ := Option.bind_eq_some_iff.1 hF
          refine de 3 (by kernel_rfl) rfl rfl rfl (l_app (t := ty_Link) hI 4 rfl rfl sl65 inf73 rfl rfl rfl rfl hs746 (((((((hs2.mono hleH15).mono hleH25).mono hleH37).mono hleH40).mono hleH60).mono hleH680).mono hleH747) (appI_some hx750).1) rfl ?_
          rintro _ w754 ⟨s751, H752, gg753, rfl, hI, hleH752, hs751⟩
          rw [← (appI_some hx750).2] at hs751
          replace hI : Inv B w754 H752 [.cb g6 _ 64, .cb g8 _ 73, .cb g64 _ 64, .cb g744 _ 64, .own s751 73 103 gg753] := hI
          refine ⟨(hI.good.weakm [true, true, true, false, false] ((hleH680.trans hleH747).trans hleH752) rfl), ?_⟩
          obtain ⟨x755, hx755, hF⟩ := Option.bind_eq_some_iff.1 hF
          refine de 6 (by kernel_rfl) rfl rfl rfl (l_app (t := ty_Link) hI 4 rfl rfl sl65 inf73 rfl rfl rfl rfl hs751 ((hs679.mono hleH747).mono hleH752) (appI_some hx755).1) rfl ?_
          rintro _ w759 ⟨s756, H757, gg758, rfl, hI, hleH757, hs756⟩
          rw [← (appI_some hx755).2] at hs756
          replace hI : Inv B w759 H757 [.cb g6 _ 64, .cb g8 _ 73, .cb g64 _ 64, .cb g744 _ 64, .own s756 73 103 gg758] := hI
          refine ⟨(hI.good.weakm [true, true, true, false, false] (((hleH680.trans hleH747).trans hleH752).trans hleH757) rfl), ?_⟩
          obtain ⟨x760, hx760, hF⟩ := Option.bind_eq_some_iff.1 hF
          have hsp763 := spec_33 hx760 (((((((((hT.mono hleH15).mono hleH25).mono hleH37).mono hleH40).mono hleH60).mono hleH680).mono hleH747).mono hleH752).mono hleH757) (hI.part 0) (((((((((hs1.mono hleH15).mono hleH25).mono hleH37).mono hleH40).mono hleH60).mono hleH680).mono hleH747).mono hleH752).mono hleH757) hs756
          refine dfc 7 ([]) ([.cb g6 [ckI a0.Epoch, ckL s1] 64, .cb g8 [ckI a2.Block.Epoch, ckI a2.Block.Height, ckV flB a2.Block.Prev, ckV flB a2.Block.State, ckV flB a2.Block.Next, ckL s3, ckI a2.Cert.Round, ckL s4, ckI a2.Config.Epoch, ckL s5] 73, .cb g64 [ckI x59.1.Epoch, ckL s63] 64, .cb g744 [ckI 0, ckL Sv.nil] 64, .own s756 73 103 gg758]) (args := [.agg (flat [ckI a0.Epoch, ckL s1]).toArray, s756.v]) fc33 (by kernel_rfl) rfl rfl rfl rfl rfl hI (argc rfl (argc rfl rfl)) (hsp763) ?_
          rintro _ H761 _ w762 ⟨s764, rfl, hs764, rfl⟩ hleH761 hI
          replace hI : Inv B w762 H761 [.cb g6 _ 64, .cb g8 _ 73, .cb g64 _ 64, .cb g744 _ 64, .own s756 73 103 gg758] := hI
          refine ⟨(hI.good.weakm [true, true, true, false, false] ((((hleH680.trans hleH747).trans hleH752).trans hleH757).trans hleH761) rfl), ?_⟩
          refine dp (v := .tuple #[.agg (flat [ckI x760.1.Epoch, ckL s764]).toArray, .int .i64 x760.2.1, .int .i64 x760.2.2]) 8 (by kernel_rfl) rfl rfl (fun _ => r_mv rfl rfl) rfl hP ?_
          refine dp (v := .agg (flat [ckI x760.1.Epoch, ckL s764]).toArray) 9 (by kernel_rfl) rfl rfl (fun _ => r_ext rfl rfl rfl) rfl hP ?_
          refine dp (v := .int .i64 x760.2.1) 10 (by kernel_rfl) rfl rfl (fun _ => r_ext rfl rfl rfl) rfl hP ?_
          refine dp (v := .int .i64 x760.2.2) 11 (by kernel_rfl) rfl rfl (fun _ => r_ext rfl rfl rfl) rfl hP ?_
          refine dsl 13 (by kernel_rfl) rfl rfl rfl (l_st (off := 0) (p := 0) (m := 2) (new := [ckI x760.1.Epoch, ckL s764]) hI 3 rfl rfl sz64 rfl rfl rfl rfl rfl rfl) rfl ?_
          intro w765 hI
          replace hI : Inv B w765 H761 [.cb g6 _ 64, .cb g8 _ 73, .cb g64 _ 64, .cb g744 [ckI x760.1.Epoch, ckL s764] 64, .own s756 73 103 gg758] := hI
          refine dp (v := .int .i64 x760.2.1) 14 (by kernel_rfl) rfl rfl (fun _ => r_as rfl rfl) rfl hP ?_
          refine dp (v := .int .i64 x760.2.2) 15 (by kernel_rfl) rfl rfl (fun _ => r_as rfl rfl) rfl hP ?_
          refine dend (by kernel_rfl) ?_
          obtain rfl := Option.some.inj hF
          exact wmid ⟨H761, s764, g744, ((((hleH680.trans hleH747).trans hleH752).trans hleH757).trans hleH761), h94, h95, h96, h97, rfl, rfl, rfl, hs764, (hI.keep [false, true, true, true, false])⟩
        ·skip
         refine do_e rfl rfl (l_al hI rfl ze64) rfl ?_
         rintro _ w767 ⟨g766, rfl, hI⟩
         replace hI : Inv B w767 H60 [.cb g6 _ 64, .cb g8 _ 73, .cb g64 _ 64, .cb g766 [ckI 0, ckL Sv.nil] 64] := hI
         refine ⟨(hI.good.weakm [true, true, true, false] (Hle.refl _) rfl), ?_⟩
         refine dtwo 1 5 (by kernel_rfl) ?_ ?_
         ·skip
          refine do_e rfl rfl (l_bs (t := ty_Link) (vs := []) (xs := []) hI rfl sl65 inf73 rfl rfl rfl .nil rfl) rfl ?_
          rintro _ w770 ⟨s768, H769, rfl, hI, hleH769, hs768, hfs768, hgs768⟩
          refine ⟨(hI.good.weakm [true, true, true, false] hleH769 rfl), ?_⟩
          refine dtwo 3 5 (by kernel_rfl) ?_ ?_
          ·skip
           replace hI := Inv.full (e := 73) (sz := 103) hI (show s768.n = s768.c from hfs768)
           replace hI : Inv B w770 H769 [.cb g6 _ 64, .cb g8 _ 73, .cb g64 _ 64, .cb g766 _ 64, .own s768 73 103 none] := hI
           obtain ⟨x772, hx772, hF⟩ := Option.bind_eq_some_iff.1 hF
           refine do_e rfl rfl (l_app (t := ty_Link) hI 4 rfl rfl sl65 inf73 rfl rfl rfl rfl hs768 ((((((hs2.mono hleH15).mono hleH25).mono hleH37).mono hleH40).mono hleH60).mono hleH769) (appI_some hx772).1) rfl ?_
           rintro _ w776 ⟨s773, H774, gg775, rfl, hI, hleH774, hs773⟩
           rw [← (appI_some hx772).2] at hs773
           replace hI : Inv B w776 H774 [.cb g6 _ 64, .cb g8 _ 73, .cb g64 _ 64, .cb g766 _ 64, .own s773 73 103 gg775] := hI
           refine ⟨(hI.good.weakm [true, true, true, false, false] (hleH769.trans hleH774) rfl), ?_⟩
           refine de 5 (by kernel_rfl) rfl rfl rfl (l_bs (t := ty_Link) (vs := [.agg (flat [ckI a2.Block.Epoch, ckI a2.Block.Height, ckV flB a2.Block.Prev, ckV flB a2.Block.State, ckV flB a2.Block.Next, ckL s3, ckI a2.Cert.Round, ckL s4, ckI a2.Config.Epoch, ckL s5]).toArray]) (xs := [a2]) hI rfl sl65 inf73 rfl rfl (argc rfl rfl) (.cons rfl ⟨s3, s4, s5, rfl, (((((((hs3.mono hleH15).mono hleH25).mono hleH37).mono hleH40).mono hleH60).mono hleH769).mono hleH774), (((((((hs4.mono hleH15).mono hleH25).mono hleH37).mono hleH40).mono hleH60).mono hleH769).mono hleH774), (((((((hs5.mono hleH15).mono hleH25).mono hleH37).mono hleH40).mono hleH60).mono hleH769).mono hleH774)⟩ .nil) rfl) rfl ?_
           rintro _ w779 ⟨s777, H778, rfl, hI, hleH778, hs777, hfs777, hgs777⟩
           refine ⟨(hI.good.weakm [true, true, true, false, false] ((hleH769.trans hleH774).trans hleH778) rfl), ?_⟩
           obtain ⟨x780, hx780, hF⟩ := Option.bind_eq_some_iff.1 hF
           refine de 6 (by kernel_rfl) rfl rfl rfl (l_app (t := ty_Link) hI 4 rfl rfl sl65 inf73 rfl rfl rfl rfl (hs773.mono hleH778) hs777 (appI_some hx780).1) rfl ?_
           rintro _ w784 ⟨s781, H782, gg783, rfl, hI, hleH782, hs781⟩
           rw [← (appI_some hx780).2] at hs781
           replace hI : Inv B w784 H782 [.cb g6 _ 64, .cb g8 _ 73, .cb g64 _ 64, .cb g766 _ 64, .own s781 73 103 gg783] := hI
           refine ⟨(hI.good.weakm [true, true, true, false, false] (((hleH769.trans hleH774).trans hleH778).trans hleH782) rfl), ?_⟩
           obtain ⟨x785, hx785, hF⟩ := Option.bind_eq_some_iff.1 hF
           have hsp788 := spec_33 hx785 (((((((((hT.mono hleH15).mono hleH25).mono hleH37).mono hleH40).mono hleH60).mono hleH769).mono hleH774).mono hleH778).mono hleH782) (hI.part 0) (((((((((hs1.mono hleH15).mono hleH25).mono hleH37).mono hleH40).mono hleH60).mono hleH769).mono hleH774).mono hleH778).mono hleH782) hs781
           refine dfc 7 ([]) ([.cb g6 [ckI a0.Epoch, ckL s1] 64, .cb g8 [ckI a2.Block.Epoch, ckI a2.Block.Height, ckV flB a2.Block.Prev, ckV flB a2.Block.State, ckV flB a2.Block.Next, ckL s3, ckI a2.Cert.Round, ckL s4, ckI a2.Config.Epoch, ckL s5] 73, .cb g64 [ckI x59.1.Epoch, ckL s63] 64, .cb g766 [ckI 0, ckL Sv.nil] 64, .own s781 73 103 gg783]) (args := [.agg (flat [ckI a0.Epoch, ckL s1]).toArray, s781.v]) fc33 (by kernel_rfl) rfl rfl rfl rfl rfl hI (argc rfl (argc rfl rfl)) (hsp788) ?_
           rintro _ H786 _ w787 ⟨s789, rfl, hs789, rfl⟩ hleH786 hI
           replace hI : Inv B w787 H786 [.cb g6 _ 64, .cb g8 _ 73, .cb g64 _ 64, .cb g766 _ 64, .own s781 73 103 gg783] := hI
           refine ⟨(hI.good.weakm [true, true, true, false, false] ((((hleH769.trans hleH774).trans hleH778).trans hleH782).trans hleH786) rfl), ?_⟩
           refine dp (v := .tuple #[.agg (flat [ckI x785.1.Epoch, ckL s789]).toArray, .int .i64 x785.2.1, .int .i64 x785.2.2]) 8 (by kernel_rfl) rfl rfl (fun _ => r_mv rfl rfl) rfl hP ?_
           refine dp (v := .agg (flat [ckI x785.1.Epoch, ckL s789]).toArray) 9 (by kernel_rfl) rfl rfl (fun _ => r_ext rfl rfl rfl) rfl hP ?_
           refine dp (v := .int .i64 x785.2.1) 10 (by kernel_rfl) rfl rfl (fun _ => r_ext rfl rfl rfl) rfl hP ?_
           refine dp (v := .int .i64 x785.2.2) 11 (by kernel_rfl) rfl rfl (fun _ => r_ext rfl rfl rfl) rfl hP ?_
           refine dsl 13 (by kernel_rfl) rfl rfl rfl (l_st (off := 0) (p := 0) (m := 2) (new := [ckI x785.1.Epoch, ckL s789]) hI 3 rfl rfl sz64 rfl rfl rfl rfl rfl rfl) rfl ?_
           intro w790 hI
           replace hI : Inv B w790 H786 [.cb g6 _ 64, .cb g8 _ 73, .cb g64 _ 64, .cb g766 [ckI x785.1.Epoch, ckL s789] 64, .own s781 73 103 gg783] := hI
           refine dp (v := .int .i64 x785.2.1) 14 (by kernel_rfl) rfl rfl (fun _ => r_as rfl rfl) rfl hP ?_
           refine dp (v := .int .i64 x785.2.2) 15 (by kernel_rfl) rfl rfl (fun _ => r_as rfl rfl) rfl hP ?_
           refine dend (by kernel_rfl) ?_
           obtain rfl := Option.some.inj hF
           exact wmid ⟨H786, s789, g766, ((((hleH769.trans hleH774).trans hleH778).trans hleH782).trans hleH786), h94, h95, h96, h97, rfl, rfl, rfl, hs789, (hI.keep [false, true, true, true, false])⟩
          ·skip
           refine do_e rfl rfl (l_bs (t := ty_Link) (vs := [.agg (flat [ckI a2.Block.Epoch, ckI a2.Block.Height, ckV flB a2.Block.Prev, ckV flB a2.Block.State, ckV flB a2.Block.Next, ckL s3, ckI a2.Cert.Round, ckL s4, ckI a2.Config.Epoch, ckL s5]).toArray]) (xs := [a2]) hI rfl sl65 inf73 rfl rfl (argc rfl rfl) (.cons rfl ⟨s3, s4, s5, rfl, ((((((hs3.mono hleH15).mono hleH25).mono hleH37).mono hleH40).mono hleH60).mono hleH769), ((((((hs4.mono hleH15).mono hleH25).mono hleH37).mono hleH40).mono hleH60).mono hleH769), ((((((hs5.mono hleH15).mono hleH25).mono hleH37).mono hleH40).mono hleH60).mono hleH769)⟩ .nil) rfl) rfl ?_
           rintro _ w793 ⟨s791, H792, rfl, hI, hleH792, hs791, hfs791, hgs791⟩
           refine ⟨(hI.good.weakm [true, true, true, false] (hleH769.trans hleH792) rfl), ?_⟩
           replace hI := Inv.full (e := 73) (sz := 103) hI (show s768.n = s768.c from hfs768)
           replace hI : Inv B w793 H792 [.cb g6 _ 64, .cb g8 _ 73, .cb g64 _ 64, .cb g766 _ 64, .own s768 73 103 none] := hI
           obtain ⟨x795, hx795, hF⟩ := Option.bind_eq_some_iff.1 hF
           refine de 3 (by kernel_rfl) rfl rfl rfl (l_app (t := ty_Link) hI 4 rfl rfl sl65 inf73 rfl rfl rfl rfl (hs768.mono hleH792) (((((((hs2.mono hleH15).mono hleH25).mono hleH37).mono hleH40).mono hleH60).mono hleH769).mono hleH792) (appI_some hx795).1) rfl ?_
           rintro _ w799 ⟨s796, H797, gg798, rfl, hI, hleH797, hs796⟩
           rw [← (appI_some hx795).2] at hs796
           replace hI : Inv B w799 H797 [.cb g6 _ 64, .cb g8 _ 73, .cb g64 _ 64, .cb g766 _ 64, .own s796 73 103 gg798] := hI
           refine ⟨(hI.good.weakm [true, true, true, false, false] ((hleH769.trans hleH792).trans hleH797) rfl), ?_⟩
           obtain ⟨x800, hx800, hF⟩ := Option.bind_eq_some_iff.1 hF
           refine de 6 (by kernel_rfl) rfl rfl rfl (l_app (t := ty_Link) hI 4 rfl rfl sl65 inf73 rfl rfl rfl rfl hs796 (hs791.mono hleH797) (appI_some hx800).1) rfl ?_
           rintro _ w804 ⟨s801, H802, gg803, rfl, hI, hleH802, hs801⟩
           rw [← (appI_some hx800).2] at hs801
           replace hI : Inv B w804 H802 [.cb g6 _ 64, .cb g8 _ 73, .cb g64 _ 64, .cb g766 _ 64, .own s801 73 103 gg803] := hI
           refine ⟨(hI.good.weakm [true, true, true, false, false] (((hleH769.trans hleH792).trans hleH797).trans hleH802) rfl), ?_⟩
           obtain ⟨x805, hx805, hF⟩ := Option.bind_eq_some_iff.1 hF
           have hsp808 := spec_33 hx805 (((((((((hT.mono hleH15).mono hleH25).mono hleH37).mono hleH40).mono hleH60).mono hleH769).mono hleH792).mono hleH797).mono hleH802) (hI.part 0) (((((((((hs1.mono hleH15).mono hleH25).mono hleH37).mono hleH40).mono hleH60).mono hleH769).mono hleH792).mono hleH797).mono hleH802) hs801
           refine dfc 7 ([]) ([.cb g6 [ckI a0.Epoch, ckL s1] 64, .cb g8 [ckI a2.Block.Epoch, ckI a2.Block.Height, ckV flB a2.Block.Prev, ckV flB a2.Block.State, ckV flB a2.Block.Next, ckL s3, ckI a2.Cert.Round, ckL s4, ckI a2.Config.Epoch, ckL s5] 73, .cb g64 [ckI x59.1.Epoch, ckL s63] 64, .cb g766 [ckI 0, ckL Sv.nil] 64, .own s801 73 103 gg803]) (args := [.agg (flat [ckI a0.Epoch, ckL s1]).toArray, s801.v]) fc33 (by kernel_rfl) rfl rfl rfl rfl rfl hI (argc rfl (argc rfl rfl)) (hsp808) ?_
           rintro _ H806 _ w807 ⟨s809, rfl, hs809, rfl⟩ hleH806 hI
           replace hI : Inv B w807 H806 [.cb g6 _ 64, .cb g8 _ 73, .cb g64 _ 64, .cb g766 _ 64, .own s801 73 103 gg803] := hI
           refine ⟨(hI.good.weakm [true, true, true, false, false] ((((hleH769.trans hleH792).trans hleH797).trans hleH802).trans hleH806) rfl), ?_⟩
           refine dp (v := .tuple #[.agg (flat [ckI x805.1.Epoch, ckL s809]).toArray, .int .i64 x805.2.1, .int .i64 x805.2.2]) 8 (by kernel_rfl) rfl rfl (fun _ => r_mv rfl rfl) rfl hP ?_
           refine dp (v := .agg (flat [ckI x805.1.Epoch, ckL s809]).toArray) 9 (by kernel_rfl) rfl rfl (fun _ => r_ext rfl rfl rfl) rfl hP ?_
           refine dp (v := .int .i64 x805.2.1) 10 (by kernel_rfl) rfl rfl (fun _ => r_ext rfl rfl rfl) rfl hP ?_
           refine dp (v := .int .i64 x805.2.2) 11 (by kernel_rfl) rfl rfl (fun _ => r_ext rfl rfl rfl) rfl hP ?_
           refine dsl 13 (by kernel_rfl) rfl rfl rfl (l_st (off := 0) (p := 0) (m := 2) (new := [ckI x805.1.Epoch, ckL s809]) hI 3 rfl rfl sz64 rfl rfl rfl rfl rfl rfl) rfl ?_
           intro w810 hI
           replace hI : Inv B w810 H806 [.cb g6 _ 64, .cb g8 _ 73, .cb g64 _ 64, .cb g766 [ckI x805.1.Epoch, ckL s809] 64, .own s801 73 103 gg803] := hI
           refine dp (v := .int .i64 x805.2.1) 14 (by kernel_rfl) rfl rfl (fun _ => r_as rfl rfl) rfl hP ?_
           refine dp (v := .int .i64 x805.2.2) 15 (by kernel_rfl) rfl rfl (fun _ => r_as rfl rfl) rfl hP ?_
           refine dend (by kernel_rfl) ?_
           obtain rfl := Option.some.inj hF
           exact wmid ⟨H806, s809, g766, ((((hleH769.trans hleH792).trans hleH797).trans hleH802).trans hleH806), h94, h95, h96, h97, rfl, rfl, rfl, hs809, (hI.keep [false, true, true, true, false])⟩
         ·skip
          refine do_e rfl rfl (l_bs (t := ty_Link) (vs := [.agg (flat [ckI a2.Block.Epoch, ckI a2.Block.Height, ckV flB a2.Block.Prev, ckV flB a2.Block.State, ckV flB a2.Block.Next, ckL s3, ckI a2.Cert.Round, ckL s4, ckI a2.Config.Epoch, ckL s5]).toArray]) (xs := [a2]) hI rfl sl65 inf73 rfl rfl (argc rfl rfl) (.cons rfl ⟨s3, s4, s5, rfl, (((((hs3.mono hleH15).mono hleH25).mono hleH37).mono hleH40).mono hleH60), (((((hs4.mono hleH15).mono hleH25).mono hleH37).mono hleH40).mono hleH60), (((((hs5.mono hleH15).mono hleH25).mono hleH37).mono hleH40).mono hleH60)⟩ .nil) rfl) rfl ?_
          rintro _ w813 ⟨s811, H812, rfl, hI, hleH812, hs811, hfs811, hgs811⟩
          refine ⟨(hI.good.weakm [true, true, true, false] hleH812 rfl), ?_⟩
          refine de 1 (by kernel_rfl) rfl rfl rfl (l_bs (t := ty_Link) (vs := []) (xs := []) hI rfl sl65 inf73 rfl rfl rfl .nil rfl) rfl ?_
          rintro _ w816 ⟨s814, H815, rfl, hI, hleH815, hs814, hfs814, hgs814⟩
          refine ⟨(hI.good.weakm [true, true, true, false] (hleH812.trans hleH815) rfl), ?_⟩
          replace hI := Inv.full (e := 73) (sz := 103) hI (show s814.n = s814.c from hfs814)
          replace hI : Inv B w816 H815 [.cb g6 _ 64, .cb g8 _ 73, .cb g64 _ 64, .cb g766 _ 64, .own s814 73 103 none] := hI
          obtain ⟨x818, hx818, hF⟩ := Option.bind_eq_some_iff.1 hF
          refine de 3 (by kernel_rfl) rfl rfl rfl (l_app (t := ty_Link) hI 4 rfl rfl sl65 inf73 rfl rfl rfl rfl hs814 (((((((hs2.mono hleH15).mono hleH25).mono hleH37).mono hleH40).mono hleH60).mono hleH812).mono hleH815) (appI_some hx818).1) rfl ?_
          rintro _ w822 ⟨s819, H820, gg821, rfl, hI, hleH820, hs819⟩
          rw [← (appI_some hx818).2] at hs819
          replace hI : Inv B w822 H820 [.cb g6 _ 64, .cb g8 _ 73, .cb g64 _ 64, .cb g766 _ 64, .own s819 73 103 gg821] := hI
          refine ⟨(hI.good.weakm [true, true, true, false, false] ((hleH812.trans hleH815).trans hleH820) rfl), ?_⟩
          obtain ⟨x823, hx823, hF⟩ := Option.bind_eq_some_iff.1 hF
          refine de 6 (by kernel_rfl) rfl rfl rfl (l_app (t := ty_Link) hI 4 rfl rfl sl65 inf73 rfl rfl rfl rfl hs819 ((hs811.mono hleH815).mono hleH820) (appI_some hx823).1) rfl ?_
          rintro _ w827 ⟨s824, H825, gg826, rfl, hI, hleH825, hs824⟩
          rw [← (appI_some hx823).2] at hs824
          replace hI : Inv B w827 H825 [.cb g6 _ 64, .cb g8 _ 73, .cb g64 _ 64, .cb g766 _ 64, .own s824 73 103 gg826] := hI
          refine ⟨(hI.good.weakm [true, true, true, false, false] (((hleH812.trans hleH815).trans hleH820).trans hleH825) rfl), ?_⟩
          obtain ⟨x828, hx828, hF⟩ := Option.bind_eq_some_iff.1 hF
          have hsp831 := spec_33 hx828 (((((((((hT.mono hleH15).mono hleH25).mono hleH37).mono hleH40).mono hleH60).mono hleH812).mono hleH815).mono hleH820).mono hleH825) (hI.part 0) (((((((((hs1.mono hleH15).mono hleH25).mono hleH37).mono hleH40).mono hleH60).mono hleH812).mono hleH815).mono hleH820).mono hleH825) hs824
          refine dfc 7 ([]) ([.cb g6 [ckI a0.Epoch, ckL s1] 64, .cb g8 [ckI a2.Block.Epoch, ckI a2.Block.Height, ckV flB a2.Block.Prev, ckV flB a2.Block.State, ckV flB a2.Block.Next, ckL s3, ckI a2.Cert.Round, ckL s4, ckI a2.Config.Epoch, ckL s5] 73, .cb g64 [ckI x59.1.Epoch, ckL s63] 64, .cb g766 [ckI 0, ckL Sv.nil] 64, .own s824 73 103 gg826]) (args := [.agg (flat [ckI a0.Epoch, ckL s1]).toArray, s824.v]) fc33 (by kernel_rfl) rfl rfl rfl rfl rfl hI (argc rfl (argc rfl rfl)) (hsp831) ?_
          rintro _ H829 _ w830 ⟨s832, rfl, hs832, rfl⟩ hleH829 hI
          replace hI : Inv B w830 H829 [.cb g6 _ 64, .cb g8 _ 73, .cb g64 _ 64, .cb g766 _ 64, .own s824 73 103 gg826] := hI
          refine ⟨(hI.good.weakm [true, true, true, false, false] ((((hleH812.trans hleH815).trans hleH820).trans hleH825).trans hleH829) rfl), ?_⟩
          refine dp (v := .tuple #[.agg (flat [ckI x828.1.Epoch, ckL s832]).toArray, .int .i64 x828.2.1, .int .i64 x828.2.2]) 8 (by kernel_rfl) rfl rfl (fun _ => r_mv rfl rfl) rfl hP ?_
          refine dp (v := .agg (flat [ckI x828.1.Epoch, ckL s832]).toArray) 9 (by kernel_rfl) rfl rfl (fun _ => r_ext rfl rfl rfl) rfl hP ?_
          refine dp (v := .int .i64 x828.2.1) 10 (by kernel_rfl) rfl rfl (fun _ => r_ext rfl rfl rfl) rfl hP ?_
          refine dp (v := .int .i64 x828.2.2) 11 (by kernel_rfl) rfl rfl (fun _ => r_ext rfl rfl rfl) rfl hP ?_
          refine dsl 13 (by kernel_rfl) rfl rfl rfl (l_st (off := 0) (p := 0) (m := 2) (new := [ckI x828.1.Epoch, ckL s832]) hI 3 rfl rfl sz64 rfl rfl rfl rfl rfl rfl) rfl ?_
          intro w833 hI
          replace hI : Inv B w833 H829 [.cb g6 _ 64, .cb g8 _ 73, .cb g64 _ 64, .cb g766 [ckI x828.1.Epoch, ckL s832] 64, .own s824 73 103 gg826] := hI
          refine dp (v := .int .i64 x828.2.1) 14 (by kernel_rfl) rfl rfl (fun _ => r_as rfl rfl) rfl hP ?_
          refine dp (v := .int .i64 x828.2.2) 15 (by kernel_rfl) rfl rfl (fun _ => r_as rfl rfl) rfl hP ?_
          refine dend (by kernel_rfl) ?_
          obtain rfl := Option.some.inj hF
          exact wmid ⟨H829, s832, g766, ((((hleH812.trans hleH815).trans hleH820).trans hleH825).trans hleH829), h94, h95, h96, h97, rfl, rfl, rfl, hs832, (hI.keep [false, true, true, true, false])⟩
       rintro ρ503 w500 ⟨H499, s501, g502, hleH499, h504, h505, h506, h507, h508, h509, h510, hs501, hI⟩
       refine wseq ?_
       refine wreg ?_
       refine lv (v := .agg (flat [ckI x59.1.Epoch, ckL s63]).toArray) rfl (r_cla (off := 0) (p := 0) (m := 2) (hI.good.ca 1 rfl) rfl ag64 h505 rfl rfl) rfl ?_
       refine lv (v := .int .i64 0) rfl (r_mv rfl h507) rfl ?_
       refine lv (v := .agg (flat [ckI a2.Block.Epoch, ckI a2.Block.Height, ckV flB a2.Block.Prev, ckV flB a2.Block.State, ckV flB a2.Block.Next, ckL s3, ckI a2.Cert.Round, ckL s4, ckI a2.Config.Epoch, ckL s5]).toArray) rfl (r_cla (off := 0) (p := 0) (m := 10) (hI.good.ca 0 rfl) rfl ag73 h504 rfl rfl) rfl ?_
       obtain ⟨x834, hx834, hF⟩ := Option.bind_eq_some_iff.1 hF
       have hsp837 := spec_31 hx834 ((((((hT.mono hleH15).mono hleH25).mono hleH37).mono hleH40).mono hleH60).mono hleH499) (hI.part 0) (hs63.mono hleH499) ((((((hs3.mono hleH15).mono hleH25).mono hleH37).mono hleH40).mono hleH60).mono hleH499) ((((((hs4.mono hleH15).mono hleH25).mono hleH37).mono hleH40).mono hleH60).mono hleH499) ((((((hs5.mono hleH15).mono hleH25).mono hleH37).mono hleH40).mono hleH60).mono hleH499)
       refine fc ([]) ([.cb g8 [ckI a2.Block.Epoch, ckI a2.Block.Height, ckV flB a2.Block.Prev, ckV flB a2.Block.State, ckV flB a2.Block.Next, ckL s3, ckI a2.Cert.Round, ckL s4, ckI a2.Config.Epoch, ckL s5] 73, .cb g64 [ckI x59.1.Epoch, ckL s63] 64, .cb g502 [ckI x498.2.2.1, ckL s501] 64]) (args := [.agg (flat [ckI x59.1.Epoch, ckL s63]).toArray, .int .i64 0, .agg (flat [ckI a2.Block.Epoch, ckI a2.Block.Height, ckV flB a2.Block.Prev, ckV flB a2.Block.State, ckV flB a2.Block.Next, ckL s3, ckI a2.Cert.Round, ckL s4, ckI a2.Config.Epoch, ckL s5]).toArray]) fc31 rfl rfl rfl hI (argc rfl (argc rfl (argc rfl rfl))) (hsp837) ?_
       rintro _ H835 _ w836 ⟨rfl, rfl⟩ hleH835 hI
       replace hI : Inv B w836 H835 [.cb g8 _ 73, .cb g64 _ 64, .cb g502 [ckI x498.2.2.1, ckL s501] 64] := hI
       refine lv (v := .int .i64 x834) rfl (r_as rfl rfl) rfl ?_
       refine wend ?_
       refine wthen ?_
       refine wren (fun ρ838 eρ838 => ?_)
       have h839 : opd ρ838 93 (.tmp 5) = .pointer (some ⟨g8, 0 + 0, none⟩) := (eρ838 5).trans h504
       have h840 : opd ρ838 93 (.tmp 8) = .int .i64 x59.2.1 := (eρ838 8).trans h506
       have h841 : opd ρ838 93 (.tmp 11) = .pointer (some ⟨g502, 0 + 0, none⟩) := (eρ838 11).trans h508
       have h842 : opd ρ838 93 (.tmp 12) = .int .i64 x498.1 := (eρ838 12).trans h509
       have h843 : opd ρ838 93 (.tmp 13) = .int .i64 x498.2.1 := (eρ838 13).trans h510
       have h844 : opd ρ838 93 (.tmp 14) = .int .i64 x834 := eρ838 14
       clear eρ838
       refine wseq ?_
       refine wreg ?_
       refine lv (v := .int .i64 x498.2.1) rfl (r_mv rfl h843) rfl ?_
       refine lv (v := .int .i64 x834) rfl (r_mv rfl h844) rfl ?_
       refine lv (v := .bool (decide (x498.2.1 = x834))) rfl (r_eql rfl rfl rfl rfl) rfl ?_
       by_cases hc845 : x498.2.1 = x834
       ·skip
        rw [if_pos hc845] at hF
        have hbhc845 : (decide (x498.2.1 = x834)) = true := decide_eq_true hc845
        refine lv (v := .bool true) rfl (r_mv rfl ((show opd _ _ _ = _ from rfl).trans (congrArg Value.bool hbhc845))) rfl ?_
        refine lv (v := .int .i64 x834) rfl (r_mv rfl h844) rfl ?_
        refine lv (v := .bool (decide (x834 ≠ 0))) rfl (r_neq rfl rfl rfl rfl) rfl ?_
        by_cases hc846 : x834 ≠ 0
        ·skip
         rw [if_pos hc846] at hF
         have hbhc846 : (decide (x834 ≠ 0)) = true := decide_eq_true hc846
         refine lv (v := .bool true) rfl (r_mv rfl ((show opd _ _ _ = _ from rfl).trans (congrArg Value.bool hbhc846))) rfl ?_
         refine lv (v := .int .i64 x498.1) rfl (r_mv rfl h842) rfl ?_
         refine lv (v := .int .i64 x59.2.1) rfl (r_mv rfl h840) rfl ?_
         refine lv (v := .bool (decide (x498.1 = x59.2.1))) rfl (r_eql rfl rfl rfl rfl) rfl ?_
         refine lv (v := .bool (decide (x498.1 = x59.2.1))) rfl (r_pkT rfl rfl rfl) rfl ?_
         by_cases hc847 : x498.1 = x59.2.1
         ·skip
          rw [if_pos hc847] at hF
          have hbhc847 : (decide (x498.1 = x59.2.1)) = true := decide_eq_true hc847
          refine lv (v := .bool true) rfl (r_mv rfl ((show opd _ _ _ = _ from rfl).trans (congrArg Value.bool hbhc847))) rfl ?_
          with_reducible refine lx (d := 77) (by kernel_rfl) (by kernel_rfl) ?_
          with_reducible refine lx (d := 78) (by kernel_rfl) (by kernel_rfl) ?_
          with_reducible refine lx (d := 79) (by kernel_rfl) (by kernel_rfl) ?_
          with_reducible refine lx (d := 80) (by kernel_rfl) (by kernel_rfl) ?_
          with_reducible refine lx (d := 81) (by kernel_rfl) (by kernel_rfl) ?_
          with_reducible refine lx (d := 82) (by kernel_rfl) (by kernel_rfl) ?_
          with_reducible refine lx (d := 83) (by kernel_rfl) (by kernel_rfl) ?_
          with_reducible refine lx (d := 84) (by kernel_rfl) (by kernel_rfl) ?_
          with_reducible refine lx (d := 85) (by kernel_rfl) (by kernel_rfl) ?_
          with_reducible refine lx (d := 86) (by kernel_rfl) (by kernel_rfl) ?_
          with_reducible refine lx (d := 87) (by kernel_rfl) (by kernel_rfl) ?_
          with_reducible refine lx (d := 88) (by kernel_rfl) (by kernel_rfl) ?_
          with_reducible refine lx (d := 89) (by kernel_rfl) (by kernel_rfl) ?_
          with_reducible refine lx (d := 90) (by kernel_rfl) (by kernel_rfl) ?_
          refine lv (v := .bool true) rfl (r_pkT rfl rfl rfl) rfl ?_
          refine lv (v := .bool true) rfl (r_pkT rfl rfl rfl) rfl ?_
          refine lv (v := .bool true) rfl (r_as rfl rfl) rfl ?_
          refine wend ?_
          refine wthen ?_
          refine wren (fun ρ848 eρ848 => ?_)
          have h849 : opd ρ848 93 (.tmp 6) = .bool true := eρ848 6
          clear eρ848
          refine wp_ret ?_
          obtain rfl := Option.some.inj hF
          subst hB
          refine finR (rs := [.tmp 6]) (vs := [.bool true]) rfl ⟨h849, trivial⟩ ?_
          exact hI.fin 0 ⟨rfl, rfl⟩
         ·skip
          rw [if_neg hc847] at hF
          have hbhc847 : (decide (x498.1 = x59.2.1)) = false := decide_eq_false hc847
          refine lv (v := .bool false) rfl (r_mv rfl ((show opd _ _ _ = _ from rfl).trans (congrArg Value.bool hbhc847))) rfl ?_
          refine lv (v := .int .i64 x834) rfl (r_mv rfl h844) rfl ?_
          refine lv (v := .bool (decide (x834 = 0))) rfl (r_eql rfl rfl rfl rfl) rfl ?_
          by_cases hc850 : x834 = 0
          ·skip
           rw [if_pos hc850] at hF
           have hbhc850 : (decide (x834 = 0)) = true := decide_eq_true hc850
           refine lv (v := .bool true) rfl (r_mv rfl ((show opd _ _ _ = _ from rfl).trans (congrArg Value.bool hbhc850))) rfl ?_
           refine lv (v := .int .i64 x498.1) rfl (r_mv rfl h842) rfl ?_
           refine lv (v := .int .i64 x59.2.1) rfl (r_mv rfl h840) rfl ?_
           refine lv (v := .int .i64 (wI (x59.2.1 + 1))) rfl (r_addw rfl rfl rfl) rfl ?_
           refine lv (v := .bool (decide (x498.1 = (wI (x59.2.1 + 1))))) rfl (r_eql rfl rfl rfl rfl) rfl ?_
           refine lv (v := .bool (decide (x498.1 = (wI (x59.2.1 + 1))))) rfl (r_pkT rfl rfl rfl) rfl ?_
           by_cases hc851 : x498.1 = (wI (x59.2.1 + 1))
           ·skip
            rw [if_pos hc851] at hF
            have hbhc851 : (decide (x498.1 = (wI (x59.2.1 + 1)))) = true := decide_eq_true hc851
            refine lv (v := .bool true) rfl (r_mv rfl ((show opd _ _ _ = _ from rfl).trans (congrArg Value.bool hbhc851))) rfl ?_
            refine lv (v := .agg (flat [ckI x498.2.2.1, ckL s501]).toArray) rfl (r_cla (off := 0) (p := 0) (m := 2) (hI.good.ca 2 rfl) rfl ag64 h841 rfl rfl) rfl ?_
            refine lv (v := .pointer (some ⟨g8, 0 + 101, none⟩)) rfl (l_fa (j := 0) (i := 0) rfl fl73_2 h839 rfl) rfl ?_
            refine lv (v := .agg (flat [ckI a2.Config.Epoch, ckL s5]).toArray) rfl (r_cla (off := 101) (p := 8) (m := 2) (hI.good.ca 0 rfl) rfl ag64 rfl rfl rfl) rfl ?_
            obtain ⟨x852, hx852, hF⟩ := Option.bind_eq_some_iff.1 hF
            have hsp855 := spec_35 hx852 (((((((hT.mono hleH15).mono hleH25).mono hleH37).mono hleH40).mono hleH60).mono hleH499).mono hleH835) (hI.part 0) (hs501.mono hleH835) (((((((hs5.mono hleH15).mono hleH25).mono hleH37).mono hleH40).mono hleH60).mono hleH499).mono hleH835)
            refine fc ([]) ([.cb g8 [ckI a2.Block.Epoch, ckI a2.Block.Height, ckV flB a2.Block.Prev, ckV flB a2.Block.State, ckV flB a2.Block.Next, ckL s3, ckI a2.Cert.Round, ckL s4, ckI a2.Config.Epoch, ckL s5] 73, .cb g64 [ckI x59.1.Epoch, ckL s63] 64, .cb g502 [ckI x498.2.2.1, ckL s501] 64]) (args := [.agg (flat [ckI x498.2.2.1, ckL s501]).toArray, .agg (flat [ckI a2.Config.Epoch, ckL s5]).toArray]) fc35 rfl rfl rfl hI (argc rfl (argc rfl rfl)) (hsp855) ?_
            rintro _ H853 _ w854 ⟨rfl, rfl⟩ hleH853 hI
            replace hI : Inv B w854 H853 [.cb g8 _ 73, .cb g64 _ 64, .cb g502 _ 64] := hI
            refine lv (v := .bool x852) rfl (r_pkT rfl rfl rfl) rfl ?_
            refine lv (v := .bool x852) rfl (r_pkF rfl rfl rfl) rfl ?_
            refine lv (v := .bool x852) rfl (r_pkT rfl rfl rfl) rfl ?_
            refine lv (v := .bool x852) rfl (r_as rfl rfl) rfl ?_
            refine wend ?_
            refine wthen ?_
            refine wren (fun ρ856 eρ856 => ?_)
            have h857 : opd ρ856 93 (.tmp 6) = .bool x852 := eρ856 6
            clear eρ856
            refine wp_ret ?_
            obtain rfl := Option.some.inj hF
            subst hB
            refine finR (rs := [.tmp 6]) (vs := [.bool x852]) rfl ⟨h857, trivial⟩ ?_
            exact hI.fin 0 ⟨rfl, rfl⟩
           ·skip
            rw [if_neg hc851] at hF
            have hbhc851 : (decide (x498.1 = (wI (x59.2.1 + 1)))) = false := decide_eq_false hc851
            refine lv (v := .bool false) rfl (r_mv rfl ((show opd _ _ _ = _ from rfl).trans (congrArg Value.bool hbhc851))) rfl ?_
            with_reducible refine lx (d := 86) (by kernel_rfl) (by kernel_rfl) ?_
            with_reducible refine lx (d := 87) (by kernel_rfl) (by kernel_rfl) ?_
            with_reducible refine lx (d := 88) (by kernel_rfl) (by kernel_rfl) ?_
            with_reducible refine lx (d := 89) (by kernel_rfl) (by kernel_rfl) ?_
            refine lv (v := .bool false) rfl (r_pkF rfl rfl rfl) rfl ?_
            refine lv (v := .bool false) rfl (r_pkF rfl rfl rfl) rfl ?_
            refine lv (v := .bool false) rfl (r_pkT rfl rfl rfl) rfl ?_
            refine lv (v := .bool false) rfl (r_as rfl rfl) rfl ?_
            refine wend ?_
            refine wthen ?_
            refine wren (fun ρ858 eρ858 => ?_)
            have h859 : opd ρ858 93 (.tmp 6) = .bool false := eρ858 6
            clear eρ858
            refine wp_ret ?_
            obtain rfl := Option.some.inj hF
            subst hB
            refine finR (rs := [.tmp 6]) (vs := [.bool false]) rfl ⟨h859, trivial⟩ ?_
            exact hI.fin 0 ⟨rfl, rfl⟩
          ·skip
           rw [if_neg hc850] at hF
           have hbhc850 : (decide (x834 = 0)) = false := decide_eq_false hc850
           refine lv (v := .bool false) rfl (r_mv rfl ((show opd _ _ _ = _ from rfl).trans (congrArg Value.bool hbhc850))) rfl ?_
           with_reducible refine lx (d := 80) (by kernel_rfl) (by kernel_rfl) ?_
           with_reducible refine lx (d := 81) (by kernel_rfl) (by kernel_rfl) ?_
           with_reducible refine lx (d := 82) (by kernel_rfl) (by kernel_rfl) ?_
           with_reducible refine lx (d := 83) (by kernel_rfl) (by kernel_rfl) ?_
           refine lv (v := .bool false) rfl (r_pkF rfl rfl rfl) rfl ?_
           refine lv (v := .bool false) rfl (r_mv rfl rfl) rfl ?_
           with_reducible refine lx (d := 86) (by kernel_rfl) (by kernel_rfl) ?_
           with_reducible refine lx (d := 87) (by kernel_rfl) (by kernel_rfl) ?_
           with_reducible refine lx (d := 88) (by kernel_rfl) (by kernel_rfl) ?_
           with_reducible refine lx (d := 89) (by kernel_rfl) (by kernel_rfl) ?_
           refine lv (v := .bool false) rfl (r_pkF rfl rfl rfl) rfl ?_
           refine lv (v := .bool false) rfl (r_pkF rfl rfl rfl) rfl ?_
           refine lv (v := .bool false) rfl (r_pkT rfl rfl rfl) rfl ?_
           refine lv (v := .bool false) rfl (r_as rfl rfl) rfl ?_
           refine wend ?_
           refine wthen ?_
           refine wren (fun ρ860 eρ860 => ?_)
           have h861 : opd ρ860 93 (.tmp 6) = .bool false := eρ860 6
           clear eρ860
           refine wp_ret ?_
           obtain rfl := Option.some.inj hF
           subst hB
           refine finR (rs := [.tmp 6]) (vs := [.bool false]) rfl ⟨h861, trivial⟩ ?_
           exact hI.fin 0 ⟨rfl, rfl⟩
        ·skip
         rw [if_neg hc846] at hF
         have hbhc846 : (decide (x834 ≠ 0)) = false := decide_eq_false hc846
         refine lv (v := .bool false) rfl (r_mv rfl ((show opd _ _ _ = _ from rfl).trans (congrArg Value.bool hbhc846))) rfl ?_
         with_reducible refine lx (d := 72) (by kernel_rfl) (by kernel_rfl) ?_
         with_reducible refine lx (d := 73) (by kernel_rfl) (by kernel_rfl) ?_
         with_reducible refine lx (d := 74) (by kernel_rfl) (by kernel_rfl) ?_
         refine lv (v := .bool false) rfl (r_pkF rfl rfl rfl) rfl ?_
         refine lv (v := .bool false) rfl (r_mv rfl rfl) rfl ?_
         refine lv (v := .int .i64 x834) rfl (r_mv rfl h844) rfl ?_
         refine lv (v := .bool (decide (x834 = 0))) rfl (r_eql rfl rfl rfl rfl) rfl ?_
         by_cases hc862 : x834 = 0
         ·skip
          rw [if_pos hc862] at hF
          have hbhc862 : (decide (x834 = 0)) = true := decide_eq_true hc862
          refine lv (v := .bool true) rfl (r_mv rfl ((show opd _ _ _ = _ from rfl).trans (congrArg Value.bool hbhc862))) rfl ?_
          refine lv (v := .int .i64 x498.1) rfl (r_mv rfl h842) rfl ?_
          refine lv (v := .int .i64 x59.2.1) rfl (r_mv rfl h840) rfl ?_
          refine lv (v := .int .i64 (wI (x59.2.1 + 1))) rfl (r_addw rfl rfl rfl) rfl ?_
          refine lv (v := .bool (decide (x498.1 = (wI (x59.2.1 + 1))))) rfl (r_eql rfl rfl rfl rfl) rfl ?_
          refine lv (v := .bool (decide (x498.1 = (wI (x59.2.1 + 1))))) rfl (r_pkT rfl rfl rfl) rfl ?_
          by_cases hc863 : x498.1 = (wI (x59.2.1 + 1))
          ·skip
           rw [if_pos hc863] at hF
           have hbhc863 : (decide (x498.1 = (wI (x59.2.1 + 1)))) = true := decide_eq_true hc863
           refine lv (v := .bool true) rfl (r_mv rfl ((show opd _ _ _ = _ from rfl).trans (congrArg Value.bool hbhc863))) rfl ?_
           refine lv (v := .agg (flat [ckI x498.2.2.1, ckL s501]).toArray) rfl (r_cla (off := 0) (p := 0) (m := 2) (hI.good.ca 2 rfl) rfl ag64 h841 rfl rfl) rfl ?_
           refine lv (v := .pointer (some ⟨g8, 0 + 101, none⟩)) rfl (l_fa (j := 0) (i := 0) rfl fl73_2 h839 rfl) rfl ?_
           refine lv (v := .agg (flat [ckI a2.Config.Epoch, ckL s5]).toArray) rfl (r_cla (off := 101) (p := 8) (m := 2) (hI.good.ca 0 rfl) rfl ag64 rfl rfl rfl) rfl ?_
           obtain ⟨x864, hx864, hF⟩ := Option.bind_eq_some_iff.1 hF
           have hsp867 := spec_35 hx864 (((((((hT.mono hleH15).mono hleH25).mono hleH37).mono hleH40).mono hleH60).mono hleH499).mono hleH835) (hI.part 0) (hs501.mono hleH835) (((((((hs5.mono hleH15).mono hleH25).mono hleH37).mono hleH40).mono hleH60).mono hleH499).mono hleH835)
           refine fc ([]) ([.cb g8 [ckI a2.Block.Epoch, ckI a2.Block.Height, ckV flB a2.Block.Prev, ckV flB a2.Block.State, ckV flB a2.Block.Next, ckL s3, ckI a2.Cert.Round, ckL s4, ckI a2.Config.Epoch, ckL s5] 73, .cb g64 [ckI x59.1.Epoch, ckL s63] 64, .cb g502 [ckI x498.2.2.1, ckL s501] 64]) (args := [.agg (flat [ckI x498.2.2.1, ckL s501]).toArray, .agg (flat [ckI a2.Config.Epoch, ckL s5]).toArray]) fc35 rfl rfl rfl hI (argc rfl (argc rfl rfl)) (hsp867) ?_
           rintro _ H865 _ w866 ⟨rfl, rfl⟩ hleH865 hI
           replace hI : Inv B w866 H865 [.cb g8 _ 73, .cb g64 _ 64, .cb g502 _ 64] := hI
           refine lv (v := .bool x864) rfl (r_pkT rfl rfl rfl) rfl ?_
           refine lv (v := .bool x864) rfl (r_pkF rfl rfl rfl) rfl ?_
           refine lv (v := .bool x864) rfl (r_pkT rfl rfl rfl) rfl ?_
           refine lv (v := .bool x864) rfl (r_as rfl rfl) rfl ?_
           refine wend ?_
           refine wthen ?_
           refine wren (fun ρ868 eρ868 => ?_)
           have h869 : opd ρ868 93 (.tmp 6) = .bool x864 := eρ868 6
           clear eρ868
           refine wp_ret ?_
           obtain rfl := Option.some.inj hF
           subst hB
           refine finR (rs := [.tmp 6]) (vs := [.bool x864]) rfl ⟨h869, trivial⟩ ?_
           exact hI.fin 0 ⟨rfl, rfl⟩
          ·skip
           rw [if_neg hc863] at hF
           have hbhc863 : (decide (x498.1 = (wI (x59.2.1 + 1)))) = false := decide_eq_false hc863
           refine lv (v := .bool false) rfl (r_mv rfl ((show opd _ _ _ = _ from rfl).trans (congrArg Value.bool hbhc863))) rfl ?_
           with_reducible refine lx (d := 86) (by kernel_rfl) (by kernel_rfl) ?_
           with_reducible refine lx (d := 87) (by kernel_rfl) (by kernel_rfl) ?_
           with_reducible refine lx (d := 88) (by kernel_rfl) (by kernel_rfl) ?_
           with_reducible refine lx (d := 89) (by kernel_rfl) (by kernel_rfl) ?_
           refine lv (v := .bool false) rfl (r_pkF rfl rfl rfl) rfl ?_
           refine lv (v := .bool false) rfl (r_pkF rfl rfl rfl) rfl ?_
           refine lv (v := .bool false) rfl (r_pkT rfl rfl rfl) rfl ?_
           refine lv (v := .bool false) rfl (r_as rfl rfl) rfl ?_
           refine wend ?_
           refine wthen ?_
           refine wren (fun ρ870 eρ870 => ?_)
           have h871 : opd ρ870 93 (.tmp 6) = .bool false := eρ870 6
           clear eρ870
           refine wp_ret ?_
           obtain rfl := Option.some.inj hF
           subst hB
           refine finR (rs := [.tmp 6]) (vs := [.bool false]) rfl ⟨h871, trivial⟩ ?_
           exact hI.fin 0 ⟨rfl, rfl⟩
         ·skip
          rw [if_neg hc862] at hF
          have hbhc862 : (decide (x834 = 0)) = false := decide_eq_false hc862
          refine lv (v := .bool false) rfl (r_mv rfl ((show opd _ _ _ = _ from rfl).trans (congrArg Value.bool hbhc862))) rfl ?_
          with_reducible refine lx (d := 80) (by kernel_rfl) (by kernel_rfl) ?_
          with_reducible refine lx (d := 81) (by kernel_rfl) (by kernel_rfl) ?_
          with_reducible refine lx (d := 82) (by kernel_rfl) (by kernel_rfl) ?_
          with_reducible refine lx (d := 83) (by kernel_rfl) (by kernel_rfl) ?_
          refine lv (v := .bool false) rfl (r_pkF rfl rfl rfl) rfl ?_
          refine lv (v := .bool false) rfl (r_mv rfl rfl) rfl ?_
          with_reducible refine lx (d := 86) (by kernel_rfl) (by kernel_rfl) ?_
          with_reducible refine lx (d := 87) (by kernel_rfl) (by kernel_rfl) ?_
          with_reducible refine lx (d := 88) (by kernel_rfl) (by kernel_rfl) ?_
          with_reducible refine lx (d := 89) (by kernel_rfl) (by kernel_rfl) ?_
          refine lv (v := .bool false) rfl (r_pkF rfl rfl rfl) rfl ?_
          refine lv (v := .bool false) rfl (r_pkF rfl rfl rfl) rfl ?_
          refine lv (v := .bool false) rfl (r_pkT rfl rfl rfl) rfl ?_
          refine lv (v := .bool false) rfl (r_as rfl rfl) rfl ?_
          refine wend ?_
          refine wthen ?_
          refine wren (fun ρ872 eρ872 => ?_)
          have h873 : opd ρ872 93 (.tmp 6) = .bool false := eρ872 6
          clear eρ872
          refine wp_ret ?_
          obtain rfl := Option.some.inj hF
          subst hB
          refine finR (rs := [.tmp 6]) (vs := [.bool false]) rfl ⟨h873, trivial⟩ ?_
          exact hI.fin 0 ⟨rfl, rfl⟩
       ·skip
        rw [if_neg hc845] at hF
        have hbhc845 : (decide (x498.2.1 = x834)) = false := decide_eq_false hc845
        refine lv (v := .bool false) rfl (r_mv rfl ((show opd _ _ _ = _ from rfl).trans (congrArg Value.bool hbhc845))) rfl ?_
        with_reducible refine lx (d := 69) (by kernel_rfl) (by kernel_rfl) ?_
        with_reducible refine lx (d := 70) (by kernel_rfl) (by kernel_rfl) ?_
        with_reducible refine lx (d := 71) (by kernel_rfl) (by kernel_rfl) ?_
        with_reducible refine lx (d := 72) (by kernel_rfl) (by kernel_rfl) ?_
        with_reducible refine lx (d := 73) (by kernel_rfl) (by kernel_rfl) ?_
        with_reducible refine lx (d := 74) (by kernel_rfl) (by kernel_rfl) ?_
        with_reducible refine lx (d := 75) (by kernel_rfl) (by kernel_rfl) ?_
        with_reducible refine lx (d := 76) (by kernel_rfl) (by kernel_rfl) ?_
        with_reducible refine lx (d := 77) (by kernel_rfl) (by kernel_rfl) ?_
        with_reducible refine lx (d := 78) (by kernel_rfl) (by kernel_rfl) ?_
        with_reducible refine lx (d := 79) (by kernel_rfl) (by kernel_rfl) ?_
        with_reducible refine lx (d := 80) (by kernel_rfl) (by kernel_rfl) ?_
        with_reducible refine lx (d := 81) (by kernel_rfl) (by kernel_rfl) ?_
        with_reducible refine lx (d := 82) (by kernel_rfl) (by kernel_rfl) ?_
        with_reducible refine lx (d := 83) (by kernel_rfl) (by kernel_rfl) ?_
        with_reducible refine lx (d := 84) (by kernel_rfl) (by kernel_rfl) ?_
        with_reducible refine lx (d := 85) (by kernel_rfl) (by kernel_rfl) ?_
        with_reducible refine lx (d := 86) (by kernel_rfl) (by kernel_rfl) ?_
        with_reducible refine lx (d := 87) (by kernel_rfl) (by kernel_rfl) ?_
        with_reducible refine lx (d := 88) (by kernel_rfl) (by kernel_rfl) ?_
        with_reducible refine lx (d := 89) (by kernel_rfl) (by kernel_rfl) ?_
        with_reducible refine lx (d := 90) (by kernel_rfl) (by kernel_rfl) ?_
        with_reducible refine lx (d := 91) (by kernel_rfl) (by kernel_rfl) ?_
        refine lv (v := .bool false) rfl (r_pkF rfl rfl rfl) rfl ?_
        refine lv (v := .bool false) rfl (r_as rfl rfl) rfl ?_
        refine wend ?_
        refine wthen ?_
        refine wren (fun ρ874 eρ874 => ?_)
        have h875 : opd ρ874 93 (.tmp 6) = .bool false := eρ874 6
        clear eρ874
        refine wp_ret ?_
        obtain rfl := Option.some.inj hF
        subst hB
        refine finR (rs := [.tmp 6]) (vs := [.bool false]) rfl ⟨h875, trivial⟩ ?_
        exact hI.fin 0 ⟨rfl, rfl⟩
 ·skip
  rw [if_neg hc23] at hF
  have hbhc23 : (!x14) = true := (by rw [(Bool.eq_false_iff.2 hc23)]; rfl)
  refine wcT (h22.trans (congrArg Value.bool hbhc23)) ?_
  refine wseq ?_
  refine wreg ?_
  refine lv (v := .bool false) rfl (r_as rfl rfl) rfl ?_
  refine wend ?_
  refine wthen ?_
  refine wren (fun ρ876 eρ876 => ?_)
  have h877 : opd ρ876 93 (.tmp 6) = .bool false := eρ876 6
  clear eρ876
  refine wp_ret ?_
  refine thR ?_
  obtain rfl := Option.some.inj hF
  subst hB
  refine finR (rs := [.tmp 6]) (vs := [.bool false]) rfl ⟨h877, trivial⟩ ?_
  exact hI.fin 0 ⟨rfl, rfl⟩
end Go.Proofs.YtdebnncpclodcaaDoor.X
