/-
  Functions of the program: what each computes, and its walk. No condition beyond those that the lemmas name.
-/
import Derived.Test.YtdebnncpclodcaaDoorXPT
import Derived.Test.YtdebnncpclodcaaDoorXGa
import Derived.Test.YtdebnncpclodcaaDoorXGb
set_option linter.unusedSimpArgs false
set_option linter.unusedVariables false
set_option maxRecDepth 10000
namespace Go.Proofs.YtdebnncpclodcaaDoor.X
open Go.RowKit Go.Proofs.YtdebnncpclodcaaDoorW.PrintLast
noncomputable def M_block_Digest (a0 : Block) : Option ((Vec UInt8 32)) := ((M_block_Write (⟨[]⟩ : Code_Writer) a0).bind fun x16 => ((M_code_Writer_Bytes x16).bind fun x29 => ((M_sha_Of [[98, 108, 111, 99, 107], x29.1]).bind fun x39 => some x39)))
set_option maxHeartbeats 1000000 in
theorem spec_86 {w : World} {H : Hp} {a0 : Block} {s1 : Sv} {r : (Vec UInt8 32)} (hF : M_block_Digest a0 = some r) (hT : Tab H) (hG : Good w H []) (hs1 : Sl (Fl.ty fl_Request) H s1 a0.Requests) :
  Fine Tryd.prog 86 [.agg (flat [ckI a0.Epoch, ckI a0.Height, ckV flB a0.Prev, ckV flB a0.State, ckV flB a0.Next, ckL s1]).toArray] w H [] (fun H' v L' => v = .agg (flat [ckV flB r]).toArray ∧ L' = []) := by
 unfold M_block_Digest at hF
 unfold Fine
 obtain ⟨B, hB⟩ : ∃ B : Base, B = ⟨w, H, blks []⟩ := ⟨_, rfl⟩
 have hI : Inv B w H [] := by rw [hB]; exact Inv.start hG
 refine enter (n := 15) (args := [.agg (flat [ckI a0.Epoch, ckI a0.Height, ckV flB a0.Prev, ckV flB a0.State, ckV flB a0.Next, ckL s1]).toArray]) Tryd.func86 rfl Tryd.ntmps86 (Nat.le_of_ble_eq_true rfl) ?_
 refine wseq ?_
 refine wreg ?_
 refine le rfl (l_box (cks := [ckI a0.Epoch, ckI a0.Height, ckV flB a0.Prev, ckV flB a0.State, ckV flB a0.Next, ckL s1]) hI rfl rfl rfl) rfl ?_
 rintro _ w3 ⟨g2, rfl, hI⟩
 replace hI : Inv B w3 H [.cb g2 [ckI a0.Epoch, ckI a0.Height, ckV flB a0.Prev, ckV flB a0.State, ckV flB a0.Next, ckL s1] 69] := hI
 refine le rfl (l_al hI rfl ze29) rfl ?_
 rintro _ w5 ⟨g4, rfl, hI⟩
 replace hI : Inv B w5 H [.cb g2 _ 69, .cb g4 [ckV flB (Vec.rep 32 0)] 29] := hI
 refine wend ?_
 refine wthen ?_
 refine wren (fun ρ6 eρ6 => ?_)
 have h7 : opd ρ6 15 (.tmp 1) = .pointer (some ⟨g2, 0 + 0, none⟩) := eρ6 1
 have h8 : opd ρ6 15 (.tmp 2) = .pointer (some ⟨g4, 0 + 0, none⟩) := eρ6 2
 clear eρ6
 refine wseq ?_
 refine wreg ?_
 refine lv (v := .agg (flat [ckL Sv.nil]).toArray) rfl (r_bldk (z := [[ckL Sv.nil]]) (pc := []) rfl zg175 bf175 rfl rfl rfl rfl) rfl ?_
 refine le rfl (l_box (cks := [ckL Sv.nil]) hI rfl rfl rfl) rfl ?_
 rintro _ w10 ⟨g9, rfl, hI⟩
 replace hI : Inv B w10 H [.cb g2 _ 69, .cb g4 _ 29, .cb g9 [ckL Sv.nil] 175] := hI
 refine lv (v := .pointer (some ⟨g9, 0 + 0, none⟩)) rfl (r_as rfl rfl) rfl ?_
 refine wend ?_
 refine wthen ?_
 refine wren (fun ρ11 eρ11 => ?_)
 have h12 : opd ρ11 15 (.tmp 1) = .pointer (some ⟨g2, 0 + 0, none⟩) := (eρ11 1).trans h7
 have h13 : opd ρ11 15 (.tmp 2) = .pointer (some ⟨g4, 0 + 0, none⟩) := (eρ11 2).trans h8
 have h14 : opd ρ11 15 (.tmp 3) = .pointer (some ⟨g9, 0 + 0, none⟩) := eρ11 3
 clear eρ11
 refine wseq ?_
 refine wreg ?_
 refine lv (v := .pointer (some ⟨g9, 0 + 0, none⟩)) rfl (r_mv rfl h14) rfl ?_
 refine lv (v := .agg (flat [ckI a0.Epoch, ckI a0.Height, ckV flB a0.Prev, ckV flB a0.State, ckV flB a0.Next, ckL s1]).toArray) rfl (r_cla (off := 0) (p := 0) (m := 6) (hI.good.ca 0 rfl) rfl ag69 h12 rfl rfl) rfl ?_
 replace hI := Inv.full (e := 5) (sz := 1) hI (show Sv.nil.n = Sv.nil.c from rfl)
 replace hI : Inv B w10 H [.cb g2 _ 69, .cb g4 _ 29, .cb g9 [ckL Sv.nil] 175, .own Sv.nil 5 1 none] := hI
 replace hI := hI.bring 3 rfl
 replace hI := hI.bring 3 rfl
 replace hI : Inv B w10 H [.cb g9 [ckL Sv.nil] 175, .own Sv.nil 5 1 none, .cb g2 _ 69, .cb g4 _ 29] := hI
 obtain ⟨x16, hx16, hF⟩ := Option.bind_eq_some_iff.1 hF
 have hsp19 := spec_135 hx16 hT (hI.part 2) (Sl.nil _ _) hs1
 refine fc ([.cb g9 [ckL Sv.nil] 175, .own Sv.nil 5 1 none]) ([.cb g2 [ckI a0.Epoch, ckI a0.Height, ckV flB a0.Prev, ckV flB a0.State, ckV flB a0.Next, ckL s1] 69, .cb g4 [ckV flB (Vec.rep 32 0)] 29]) (args := [.pointer (some ⟨g9, 0 + 0, none⟩), .agg (flat [ckI a0.Epoch, ckI a0.Height, ckV flB a0.Prev, ckV flB a0.State, ckV flB a0.Next, ckL s1]).toArray]) fc135 rfl rfl rfl hI (argc rfl (argc rfl rfl)) (hsp19) ?_
 rintro _ H17 _ w18 ⟨s20, gg21, rfl, hs20, rfl⟩ hleH17 hI
 replace hI : Inv B w18 H17 [.cb g9 [ckL s20] 175, .own s20 5 1 gg21, .cb g2 _ 69, .cb g4 _ 29] := hI
 refine wend ?_
 refine wthen ?_
 refine wren (fun ρ22 eρ22 => ?_)
 have h23 : opd ρ22 15 (.tmp 2) = .pointer (some ⟨g4, 0 + 0, none⟩) := (eρ22 2).trans h13
 have h24 : opd ρ22 15 (.tmp 3) = .pointer (some ⟨g9, 0 + 0, none⟩) := (eρ22 3).trans h14
 clear eρ22
 refine wseq ?_
 refine wreg ?_
 refine le rfl (l_bs (t := (Fl.ty flB)) (vs := [bv 98, bv 108, bv 111, bv 99, bv 107]) (xs := [98, 108, 111, 99, 107]) hI rfl sl158 inf5 rfl rfl (argc rfl (argc rfl (argc rfl (argc rfl (argc rfl rfl))))) (.cons rfl rfl (.cons rfl rfl (.cons rfl rfl (.cons rfl rfl (.cons rfl rfl .nil))))) rfl) rfl ?_
 rintro _ w27 ⟨s25, H26, rfl, hI, hleH26, hs25, hfs25, hgs25⟩
 refine le rfl (l_cvc (t := flB.ty) hI rfl un158 un5 rfl hs25 hgs25) rfl ?_
 rintro _ w28 ⟨rfl, hI⟩
 replace hI : Inv B w28 H26 [.cb g9 [ckL s20] 175, .own s20 5 1 gg21, .cb g2 _ 69, .cb g4 _ 29] := hI
 refine lv (v := .pointer (some ⟨g9, 0 + 0, none⟩)) rfl (r_mv rfl h24) rfl ?_
 obtain ⟨x29, hx29, hF⟩ := Option.bind_eq_some_iff.1 hF
 have hsp32 := spec_100 hx29 ((hT.mono hleH17).mono hleH26) (hI.part 2) (hs20.mono hleH26)
 refine fc ([.cb g9 [ckL s20] 175, .own s20 5 1 gg21]) ([.cb g2 [ckI a0.Epoch, ckI a0.Height, ckV flB a0.Prev, ckV flB a0.State, ckV flB a0.Next, ckL s1] 69, .cb g4 [ckV flB (Vec.rep 32 0)] 29]) (args := [.pointer (some ⟨g9, 0 + 0, none⟩)]) fc100 rfl rfl rfl hI (argc rfl rfl) (hsp32) ?_
 rintro _ H30 _ w31 ⟨s33, s34, gg35, rfl, hs33, hs34, rfl⟩ hleH30 hI
 replace hI : Inv B w31 H30 [.cb g9 [ckL s34] 175, .own s34 5 1 gg35, .cb g2 _ 69, .cb g4 _ 29] := hI
 refine le rfl (l_bs (t := (Ty.sl (Fl.ty flB))) (vs := [s25.v, s33.v]) (xs := [[98, 108, 111, 99, 107], x29.1]) hI rfl sl228 inf158 rfl rfl (argc rfl (argc rfl rfl)) (.cons rfl ⟨s25, rfl, (hs25.mono hleH30)⟩ (.cons rfl ⟨s33, rfl, hs33⟩ .nil)) rfl) rfl ?_
 rintro _ w38 ⟨s36, H37, rfl, hI, hleH37, hs36, hfs36, hgs36⟩
 obtain ⟨x39, hx39, hF⟩ := Option.bind_eq_some_iff.1 hF
 have hsp42 := spec_99 hx39 ((((hT.mono hleH17).mono hleH26).mono hleH30).mono hleH37) (hI.part 0) hs36
 refine fc ([]) ([.cb g9 [ckL s34] 175, .own s34 5 1 gg35, .cb g2 [ckI a0.Epoch, ckI a0.Height, ckV flB a0.Prev, ckV flB a0.State, ckV flB a0.Next, ckL s1] 69, .cb g4 [ckV flB (Vec.rep 32 0)] 29]) (args := [s36.v]) fc99 rfl rfl rfl hI (argc rfl rfl) (hsp42) ?_
 rintro _ H40 _ w41 ⟨rfl, rfl⟩ hleH40 hI
 replace hI : Inv B w41 H40 [.cb g9 [ckL s34] 175, .own s34 5 1 gg35, .cb g2 _ 69, .cb g4 _ 29] := hI
 refine lst rfl (l_st (off := 0) (p := 0) (m := 1) (new := [ckV flB x39]) hI 3 rfl rfl sz29 h23 rfl rfl rfl rfl rfl) rfl ?_
 intro w43 hI
 replace hI : Inv B w43 H40 [.cb g9 [ckL s34] 175, .own s34 5 1 gg35, .cb g2 _ 69, .cb g4 [ckV flB x39] 29] := hI
 refine wend ?_
 refine wthen ?_
 refine wren (fun ρ44 eρ44 => ?_)
 have h45 : opd ρ44 15 (.tmp 2) = .pointer (some ⟨g4, 0 + 0, none⟩) := (eρ44 2).trans h23
 clear eρ44
 refine wp_ret ?_
 obtain rfl := Option.some.inj hF
 subst hB
 refine finR (rs := [.cell 2 29]) (vs := [.agg (flat [ckV flB x39]).toArray]) rfl ⟨⟨_, h45, ld_agg (hI.good.ca 3 rfl) ag29 rfl⟩, trivial⟩ ?_
 exact hI.fin 0 ⟨rfl, rfl⟩
noncomputable def M_request_short (a0 : List (List UInt8)) : Option (Bool) := ((forK (fun (i8 : Nat) (σ8 : Unit) => (((a0[i8]?).bind fun x47 => (if (1024 : Int) < (x47.length : Int) then ((some false).map Sum.inr) else some (.inl ()))) : Option (Unit ⊕ Bool))) a0.length 0 ()).bind fun y => match y with | .inl _ => some true | .inr r => some r)
set_option maxHeartbeats 1000000 in
theorem spec_160 {w : World} {H : Hp} {a0 : List (List UInt8)} {s1 : Sv} {r : Bool} (hF : M_request_short a0 = some r) (hT : Tab H) (hG : Good w H []) (hs1 : Sl (Fl.ty flS) H s1 a0) :
  Fine Tryd.prog 160 [s1.v] w H [] (fun H' v L' => v = .bool r ∧ L' = []) := by
 unfold M_request_short at hF
 unfold Fine
 obtain ⟨B, hB⟩ : ∃ B : Base, B = ⟨w, H, blks []⟩ := ⟨_, rfl⟩
 have hI : Inv B w H [] := by rw [hB]; exact Inv.start hG
 refine enter (n := 15) (args := [s1.v]) Tryd.func160 rfl Tryd.ntmps160 (Nat.le_of_ble_eq_true rfl) ?_
 refine wseq ?_
 refine wreg ?_
 refine lv (v := .bool false) rfl (r_as rfl rfl) rfl ?_
 refine wend ?_
 refine wthen ?_
 refine wren (fun ρ2 eρ2 => ?_)
 have h3 : opd ρ2 15 (.tmp 0) = s1.v := eρ2 0
 clear eρ2
 refine wseq ?_
 refine wseq ?_
 refine wreg ?_
 refine lv (v := s1.v) rfl (r_mv rfl h3) rfl ?_
 refine lv (v := .int .i64 (a0.length : Int)) rfl (r_lenS rfl sl199 rfl hs1) rfl ?_
 refine lv (v := .int .i64 0) rfl (r_mv rfl rfl) rfl ?_
 refine wend ?_
 refine wthen ?_
 refine wren (fun ρ4 eρ4 => ?_)
 have h5 : opd ρ4 15 (.tmp 5) = s1.v := eρ4 5
 have h6 : opd ρ4 15 (.tmp 6) = .int .i64 (a0.length : Int) := eρ4 6
 have h7 : opd ρ4 15 (.tmp 7) = .int .i64 0 := eρ4 7
 clear eρ4
 refine wp_block ?_
 have hbd8 := (hs1).bd
 rw [(hs1).n] at hbd8
 obtain ⟨y8, hy8, hF8⟩ := Option.bind_eq_some_iff.1 hF
 refine wfor (n := 15) a0.length _ (fun (i8 : Nat) (σ8 : Unit) ρ' w' => ∃ (H36 : Hp), Hle H H36 ∧ opd ρ' 15 (.tmp 5) = s1.v ∧ opd ρ' 15 (.tmp 6) = .int .i64 (a0.length : Int) ∧ opd ρ' 15 (.tmp 7) = .int .i64 (i8 : Int) ∧ Inv B w' H36 []) hy8 ⟨H, (Hle.refl _), h5, h6, h7, hI⟩ ?_
 rintro k8 i8 σ8 ρ40 w41 hk8 ⟨H36, hleH36, h37, h38, h39, hI⟩ hy8
 refine wseq ?_
 refine wreg ?_
 refine lv (v := .bool (decide ((i8 : Int) < (a0.length : Int)))) rfl (r_lss rfl h39 h38 rfl) rfl ?_
 refine wend ?_
 refine wthen ?_
 refine wseq ?_
 by_cases hc42 : (i8 : Int) < (a0.length : Int)
 ·skip
  have hbhc42 : (decide ((i8 : Int) < (a0.length : Int))) = true := decide_eq_true hc42
  obtain ⟨k8, rfl⟩ : ∃ m, k8 = m + 1 := ⟨k8 - 1, by omega⟩
  obtain ⟨z8, hb8⟩ := forK_body hy8
  have hF := hb8
  have hlt8 : ((i8 : Nat) : Int) + 1 ≤ 9223372036854775807 := by omega
  refine wcT ((show opd _ _ _ = _ from rfl).trans (congrArg Value.bool hbhc42)) ?_
  refine wp_skip ?_
  refine wthen ?_
  refine wren (fun ρ43 eρ43 => ?_)
  have h44 : opd ρ43 15 (.tmp 5) = s1.v := (eρ43 5).trans h37
  have h45 : opd ρ43 15 (.tmp 6) = .int .i64 (a0.length : Int) := (eρ43 6).trans h38
  have h46 : opd ρ43 15 (.tmp 7) = .int .i64 (i8 : Int) := (eρ43 7).trans h39
  clear eρ43
  refine wseq ?_
  refine wp_block ?_
  refine wseq ?_
  refine wreg ?_
  obtain ⟨x47, hx47, hF⟩ := Option.bind_eq_some_iff.1 hF
  obtain ⟨b48, j49, hix50, hil51, hA52⟩ := (hs1.mono hleH36).ixf hx47
  replace hA52 : At H36 b48 j49 [ckS x47] := hA52
  refine lv (v := .pointer (some ⟨b48, j49 + 0, none⟩)) rfl (r_ixt rfl sl199 h44 h46 rfl hix50 hil51) rfl ?_
  refine lv (v := strv x47) rfl (r_cl1 (off := 0) (p := 0) (hA52.ca hI.good) rfl sc9 rfl rfl rfl) rfl ?_
  refine lv (v := strv x47) rfl (r_as rfl rfl) rfl ?_
  refine wend ?_
  refine wthen ?_
  refine wren (fun ρ53 eρ53 => ?_)
  have h54 : opd ρ53 15 (.tmp 4) = strv x47 := eρ53 4
  have h55 : opd ρ53 15 (.tmp 5) = s1.v := (eρ53 5).trans h44
  have h56 : opd ρ53 15 (.tmp 6) = .int .i64 (a0.length : Int) := (eρ53 6).trans h45
  have h57 : opd ρ53 15 (.tmp 7) = .int .i64 (i8 : Int) := (eρ53 7).trans h46
  clear eρ53
  refine wseq ?_
  refine wreg ?_
  refine lv (v := strv x47) rfl (r_mv rfl h54) rfl ?_
  refine lv (v := .int .i64 (x47.length : Int)) rfl (r_lenT rfl un9 rfl) rfl ?_
  refine lv (v := .bool (decide ((1024 : Int) < (x47.length : Int)))) rfl (r_gtr rfl rfl rfl rfl) rfl ?_
  refine wend ?_
  refine wthen ?_
  refine wren (fun ρ58 eρ58 => ?_)
  have h59 : opd ρ58 15 (.tmp 5) = s1.v := (eρ58 5).trans h55
  have h60 : opd ρ58 15 (.tmp 6) = .int .i64 (a0.length : Int) := (eρ58 6).trans h56
  have h61 : opd ρ58 15 (.tmp 7) = .int .i64 (i8 : Int) := (eρ58 7).trans h57
  have h62 : opd ρ58 15 (.tmp 13) = .bool (decide ((1024 : Int) < (x47.length : Int))) := eρ58 13
  clear eρ58
  by_cases hc63 : (1024 : Int) < (x47.length : Int)
  ·skip
   rw [if_pos hc63] at hF
   have hbhc63 : (decide ((1024 : Int) < (x47.length : Int))) = true := decide_eq_true hc63
   refine wcT (h62.trans (congrArg Value.bool hbhc63)) ?_
   refine wseq ?_
   refine wreg ?_
   refine lv (v := .bool false) rfl (r_as rfl rfl) rfl ?_
   refine wend ?_
   refine wthen ?_
   refine wren (fun ρ64 eρ64 => ?_)
   have h65 : opd ρ64 15 (.tmp 2) = .bool false := eρ64 2
   clear eρ64
   refine wp_ret ?_
   refine inR ?_
   refine thR ?_
   refine thR ?_
   obtain ⟨q66, hFn, hzq66⟩ := Option.map_eq_some_iff.1 hF
   clear hF
   obtain rfl := forK_inr hy8 (hb8.trans (congrArg some hzq66.symm))
   have hF0 := hF8
   try dsimp only at hF0
   have hF := hFn.trans hF0
   clear hFn hF0
   refine inR ?_
   refine thR ?_
   obtain rfl := Option.some.inj hF
   subst hB
   refine finR (rs := [.tmp 2]) (vs := [.bool false]) rfl ⟨h65, trivial⟩ ?_
   exact hI.fin 0 ⟨rfl, rfl⟩
  ·skip
   rw [if_neg hc63] at hF
   have hbhc63 : (decide ((1024 : Int) < (x47.length : Int))) = false := decide_eq_false hc63
   refine wcF (h62.trans (congrArg Value.bool hbhc63)) ?_
   refine wp_skip ?_
   refine inN ?_
   refine wthen ?_
   refine wreg ?_
   refine lv (v := .int .i64 ((i8 + 1 : Nat) : Int)) rfl (r_addn rfl h61 rfl hlt8) rfl ?_
   refine lv (v := .int .i64 ((i8 + 1 : Nat) : Int)) rfl (r_mv rfl rfl) rfl ?_
   refine wend ?_
   obtain rfl := Option.some.inj hF
   exact ⟨k8, (), _, rfl, rfl, ⟨H36, hleH36, h59, h60, rfl, hI⟩, forK_inl hy8 hb8⟩
 ·skip
  have hbhc42 : (decide ((i8 : Int) < (a0.length : Int))) = false := decide_eq_false hc42
  obtain rfl : k8 = 0 := by omega
  obtain rfl := forK_end hy8
  have hF := hF8
  try dsimp only at hF
  refine wcF ((show opd _ _ _ = _ from rfl).trans (congrArg Value.bool hbhc42)) ?_
  refine wp_exit ?_
  refine thE ?_
  refine thE ?_
  refine inX ?_
  refine wthen ?_
  refine wren (fun ρ67 eρ67 => ?_)
  clear eρ67
  refine wseq ?_
  refine wreg ?_
  refine lv (v := .bool true) rfl (r_as rfl rfl) rfl ?_
  refine wend ?_
  refine wthen ?_
  refine wren (fun ρ68 eρ68 => ?_)
  have h69 : opd ρ68 15 (.tmp 2) = .bool true := eρ68 2
  clear eρ68
  refine wp_ret ?_
  obtain rfl := Option.some.inj hF
  subst hB
  refine finR (rs := [.tmp 2]) (vs := [.bool true]) rfl ⟨h69, trivial⟩ ?_
  exact hI.fin 0 ⟨rfl, rfl⟩
noncomputable def M_request_Good (a0 : Request) : Option (Bool) := (if (1 : Int) ≤ a0.Client then (if a0.Client ≤ 64 then (if (1 : Int) ≤ a0.Num then (if a0.Num ≤ 1099511627776 then (if (1 : Int) ≤ a0.Op.Kind then (if a0.Op.Kind ≤ 7 then ((M_request_short [a0.Op.Key, a0.Op.Val, a0.Op.Old]).bind fun x20 => some x20) else some false) else some false) else some false) else some false) else some false) else some false)
set_option maxHeartbeats 4000000 in
theorem spec_136 {w : World} {H : Hp} {a0 : Request}  {r : Bool} (hF : M_request_Good a0 = some r) (hT : Tab H) (hG : Good w H [])  :
  Fine Tryd.prog 136 [.agg (flat [ckI a0.Client, ckI a0.Num, ckI a0.Op.Kind, ckS a0.Op.Key, ckS a0.Op.Val, ckS a0.Op.Old, ckI a0.Op.Change.Kind, ckI a0.Op.Change.Id, ckI a0.Op.Change.New, ckV flB a0.Op.Change.Key.Root, ckI a0.Op.Change.Key.Height]).toArray] w H [] (fun H' v L' => v = .bool r ∧ L' = []) := by
 unfold M_request_Good at hF
 unfold Fine
 obtain ⟨B, hB⟩ : ∃ B : Base, B = ⟨w, H, blks []⟩ := ⟨_, rfl⟩
 have hI : Inv B w H [] := by rw [hB]; exact Inv.start hG
 refine enter (n := 44) (args := [.agg (flat [ckI a0.Client, ckI a0.Num, ckI a0.Op.Kind, ckS a0.Op.Key, ckS a0.Op.Val, ckS a0.Op.Old, ckI a0.Op.Change.Kind, ckI a0.Op.Change.Id, ckI a0.Op.Change.New, ckV flB a0.Op.Change.Key.Root, ckI a0.Op.Change.Key.Height]).toArray]) Tryd.func136 rfl Tryd.ntmps136 (Nat.le_of_ble_eq_true rfl) ?_
 refine wseq ?_
 refine wreg ?_
 refine le rfl (l_box (cks := [ckI a0.Client, ckI a0.Num, ckI a0.Op.Kind, ckS a0.Op.Key, ckS a0.Op.Val, ckS a0.Op.Old, ckI a0.Op.Change.Kind, ckI a0.Op.Change.Id, ckI a0.Op.Change.New, ckV flB a0.Op.Change.Key.Root, ckI a0.Op.Change.Key.Height]) hI rfl rfl rfl) rfl ?_
 rintro _ w2 ⟨g1, rfl, hI⟩
 replace hI : Inv B w2 H [.cb g1 [ckI a0.Client, ckI a0.Num, ckI a0.Op.Kind, ckS a0.Op.Key, ckS a0.Op.Val, ckS a0.Op.Old, ckI a0.Op.Change.Kind, ckI a0.Op.Change.Id, ckI a0.Op.Change.New, ckV flB a0.Op.Change.Key.Root, ckI a0.Op.Change.Key.Height] 192] := hI
 refine lv (v := .bool false) rfl (r_as rfl rfl) rfl ?_
 refine wend ?_
 refine wthen ?_
 refine wren (fun ρ3 eρ3 => ?_)
 have h4 : opd ρ3 44 (.tmp 1) = .pointer (some ⟨g1, 0 + 0, none⟩) := eρ3 1
 clear eρ3
 refine wseq ?_
 refine wreg ?_
 refine lv (v := .pointer (some ⟨g1, 0 + 2, none⟩)) rfl (l_fa (j := 0) (i := 0) rfl fl192_2 h4 rfl) rfl ?_
 refine lv (v := .agg (flat [ckI a0.Op.Kind, ckS a0.Op.Key, ckS a0.Op.Val, ckS a0.Op.Old, ckI a0.Op.Change.Kind, ckI a0.Op.Change.Id, ckI a0.Op.Change.New, ckV flB a0.Op.Change.Key.Root, ckI a0.Op.Change.Key.Height]).toArray) rfl (r_cla (off := 2) (p := 2) (m := 9) (hI.good.ca 0 rfl) rfl ag190 rfl rfl rfl) rfl ?_
 refine le rfl (l_al hI rfl ze190) rfl ?_
 rintro _ w6 ⟨g5, rfl, hI⟩
 replace hI : Inv B w6 H [.cb g1 _ 192, .cb g5 [ckI 0, ckS [], ckS [], ckS [], ckI 0, ckI 0, ckI 0, ckV flB (Vec.rep 32 0), ckI 0] 190] := hI
 refine lst rfl (l_st (off := 0) (p := 0) (m := 9) (new := [ckI a0.Op.Kind, ckS a0.Op.Key, ckS a0.Op.Val, ckS a0.Op.Old, ckI a0.Op.Change.Kind, ckI a0.Op.Change.Id, ckI a0.Op.Change.New, ckV flB a0.Op.Change.Key.Root, ckI a0.Op.Change.Key.Height]) hI 1 rfl rfl sz190 rfl rfl rfl rfl rfl rfl) rfl ?_
 intro w7 hI
 replace hI : Inv B w7 H [.cb g1 _ 192, .cb g5 [ckI a0.Op.Kind, ckS a0.Op.Key, ckS a0.Op.Val, ckS a0.Op.Old, ckI a0.Op.Change.Kind, ckI a0.Op.Change.Id, ckI a0.Op.Change.New, ckV flB a0.Op.Change.Key.Root, ckI a0.Op.Change.Key.Height] 190] := hI
 refine wend ?_
 refine wthen ?_
 refine wren (fun ρ8 eρ8 => ?_)
 have h9 : opd ρ8 44 (.tmp 1) = .pointer (some ⟨g1, 0 + 0, none⟩) := (eρ8 1).trans h4
 have h10 : opd ρ8 44 (.tmp 3) = .pointer (some ⟨g5, 0 + 0, none⟩) := eρ8 3
 clear eρ8
 refine wseq ?_
 refine wreg ?_
 refine lv (v := .pointer (some ⟨g1, 0 + 0, none⟩)) rfl (l_fa (j := 0) (i := 0) rfl fl192_0 h9 rfl) rfl ?_
 refine lv (v := .int .i64 a0.Client) rfl (r_cl1 (off := 0) (p := 0) (hI.good.ca 0 rfl) rfl sc3 rfl rfl rfl) rfl ?_
 refine lv (v := .bool (decide ((1 : Int) ≤ a0.Client))) rfl (r_geq rfl rfl rfl rfl) rfl ?_
 by_cases hc11 : (1 : Int) ≤ a0.Client
 ·skip
  rw [if_pos hc11] at hF
  have hbhc11 : (decide ((1 : Int) ≤ a0.Client)) = true := decide_eq_true hc11
  refine lv (v := .bool true) rfl (r_mv rfl ((show opd _ _ _ = _ from rfl).trans (congrArg Value.bool hbhc11))) rfl ?_
  refine lv (v := .pointer (some ⟨g1, 0 + 0, none⟩)) rfl (l_fa (j := 0) (i := 0) rfl fl192_0 h9 rfl) rfl ?_
  refine lv (v := .int .i64 a0.Client) rfl (r_cl1 (off := 0) (p := 0) (hI.good.ca 0 rfl) rfl sc3 rfl rfl rfl) rfl ?_
  refine lv (v := .bool (decide (a0.Client ≤ 64))) rfl (r_leq rfl rfl rfl rfl) rfl ?_
  refine lv (v := .bool (decide (a0.Client ≤ 64))) rfl (r_pkT rfl rfl rfl) rfl ?_
  by_cases hc12 : a0.Client ≤ 64
  ·skip
   rw [if_pos hc12] at hF
   have hbhc12 : (decide (a0.Client ≤ 64)) = true := decide_eq_true hc12
   refine lv (v := .bool true) rfl (r_mv rfl ((show opd _ _ _ = _ from rfl).trans (congrArg Value.bool hbhc12))) rfl ?_
   refine lv (v := .pointer (some ⟨g1, 0 + 1, none⟩)) rfl (l_fa (j := 0) (i := 0) rfl fl192_1 h9 rfl) rfl ?_
   refine lv (v := .int .i64 a0.Num) rfl (r_cl1 (off := 1) (p := 1) (hI.good.ca 0 rfl) rfl sc3 rfl rfl rfl) rfl ?_
   refine lv (v := .bool (decide ((1 : Int) ≤ a0.Num))) rfl (r_geq rfl rfl rfl rfl) rfl ?_
   refine lv (v := .bool (decide ((1 : Int) ≤ a0.Num))) rfl (r_pkT rfl rfl rfl) rfl ?_
   by_cases hc13 : (1 : Int) ≤ a0.Num
   ·skip
    rw [if_pos hc13] at hF
    have hbhc13 : (decide ((1 : Int) ≤ a0.Num)) = true := decide_eq_true hc13
    refine lv (v := .bool true) rfl (r_mv rfl ((show opd _ _ _ = _ from rfl).trans (congrArg Value.bool hbhc13))) rfl ?_
    refine lv (v := .pointer (some ⟨g1, 0 + 1, none⟩)) rfl (l_fa (j := 0) (i := 0) rfl fl192_1 h9 rfl) rfl ?_
    refine lv (v := .int .i64 a0.Num) rfl (r_cl1 (off := 1) (p := 1) (hI.good.ca 0 rfl) rfl sc3 rfl rfl rfl) rfl ?_
    refine lv (v := .bool (decide (a0.Num ≤ 1099511627776))) rfl (r_leq rfl rfl rfl rfl) rfl ?_
    refine lv (v := .bool (decide (a0.Num ≤ 1099511627776))) rfl (r_pkT rfl rfl rfl) rfl ?_
    by_cases hc14 : a0.Num ≤ 1099511627776
    ·skip
     rw [if_pos hc14] at hF
     have hbhc14 : (decide (a0.Num ≤ 1099511627776)) = true := decide_eq_true hc14
     refine lv (v := .bool true) rfl (r_mv rfl ((show opd _ _ _ = _ from rfl).trans (congrArg Value.bool hbhc14))) rfl ?_
     refine lv (v := .pointer (some ⟨g5, 0 + 0, none⟩)) rfl (l_fa (j := 0) (i := 0) rfl fl190_0 h10 rfl) rfl ?_
     refine lv (v := .int .i64 a0.Op.Kind) rfl (r_cl1 (off := 0) (p := 0) (hI.good.ca 1 rfl) rfl sc3 rfl rfl rfl) rfl ?_
     refine lv (v := .bool (decide ((1 : Int) ≤ a0.Op.Kind))) rfl (r_geq rfl rfl rfl rfl) rfl ?_
     refine lv (v := .bool (decide ((1 : Int) ≤ a0.Op.Kind))) rfl (r_pkT rfl rfl rfl) rfl ?_
     by_cases hc15 : (1 : Int) ≤ a0.Op.Kind
     ·skip
      rw [if_pos hc15] at hF
      have hbhc15 : (decide ((1 : Int) ≤ a0.Op.Kind)) = true := decide_eq_true hc15
      refine lv (v := .bool true) rfl (r_mv rfl ((show opd _ _ _ = _ from rfl).trans (congrArg Value.bool hbhc15))) rfl ?_
      refine lv (v := .pointer (some ⟨g5, 0 + 0, none⟩)) rfl (l_fa (j := 0) (i := 0) rfl fl190_0 h10 rfl) rfl ?_
      refine lv (v := .int .i64 a0.Op.Kind) rfl (r_cl1 (off := 0) (p := 0) (hI.good.ca 1 rfl) rfl sc3 rfl rfl rfl) rfl ?_
      refine lv (v := .bool (decide (a0.Op.Kind ≤ 7))) rfl (r_leq rfl rfl rfl rfl) rfl ?_
      refine lv (v := .bool (decide (a0.Op.Kind ≤ 7))) rfl (r_pkT rfl rfl rfl) rfl ?_
      by_cases hc16 : a0.Op.Kind ≤ 7
      ·skip
       rw [if_pos hc16] at hF
       have hbhc16 : (decide (a0.Op.Kind ≤ 7)) = true := decide_eq_true hc16
       refine lv (v := .bool true) rfl (r_mv rfl ((show opd _ _ _ = _ from rfl).trans (congrArg Value.bool hbhc16))) rfl ?_
       refine lv (v := .pointer (some ⟨g5, 0 + 1, none⟩)) rfl (l_fa (j := 0) (i := 0) rfl fl190_1 h10 rfl) rfl ?_
       refine lv (v := strv a0.Op.Key) rfl (r_cl1 (off := 1) (p := 1) (hI.good.ca 1 rfl) rfl sc9 rfl rfl rfl) rfl ?_
       refine lv (v := .pointer (some ⟨g5, 0 + 2, none⟩)) rfl (l_fa (j := 0) (i := 0) rfl fl190_2 h10 rfl) rfl ?_
       refine lv (v := strv a0.Op.Val) rfl (r_cl1 (off := 2) (p := 2) (hI.good.ca 1 rfl) rfl sc9 rfl rfl rfl) rfl ?_
       refine lv (v := .pointer (some ⟨g5, 0 + 3, none⟩)) rfl (l_fa (j := 0) (i := 0) rfl fl190_3 h10 rfl) rfl ?_
       refine lv (v := strv a0.Op.Old) rfl (r_cl1 (off := 3) (p := 3) (hI.good.ca 1 rfl) rfl sc9 rfl rfl rfl) rfl ?_
       refine le rfl (l_bs (t := (Fl.ty flS)) (vs := [strv a0.Op.Key, strv a0.Op.Val, strv a0.Op.Old]) (xs := [a0.Op.Key, a0.Op.Val, a0.Op.Old]) hI rfl sl199 inf9 rfl rfl (argc rfl (argc rfl (argc rfl rfl))) (.cons rfl rfl (.cons rfl rfl (.cons rfl rfl .nil))) rfl) rfl ?_
       rintro _ w19 ⟨s17, H18, rfl, hI, hleH18, hs17, hfs17, hgs17⟩
       obtain ⟨x20, hx20, hF⟩ := Option.bind_eq_some_iff.1 hF
       have hsp23 := spec_160 hx20 (hT.mono hleH18) (hI.part 0) hs17
       refine fc ([]) ([.cb g1 [ckI a0.Client, ckI a0.Num, ckI a0.Op.Kind, ckS a0.Op.Key, ckS a0.Op.Val, ckS a0.Op.Old, ckI a0.Op.Change.Kind, ckI a0.Op.Change.Id, ckI a0.Op.Change.New, ckV flB a0.Op.Change.Key.Root, ckI a0.Op.Change.Key.Height] 192, .cb g5 [ckI a0.Op.Kind, ckS a0.Op.Key, ckS a0.Op.Val, ckS a0.Op.Old, ckI a0.Op.Change.Kind, ckI a0.Op.Change.Id, ckI a0.Op.Change.New, ckV flB a0.Op.Change.Key.Root, ckI a0.Op.Change.Key.Height] 190]) (args := [s17.v]) fc160 rfl rfl rfl hI (argc rfl rfl) (hsp23) ?_
       rintro _ H21 _ w22 ⟨rfl, rfl⟩ hleH21 hI
       replace hI : Inv B w22 H21 [.cb g1 _ 192, .cb g5 _ 190] := hI
       refine lv (v := .bool x20) rfl (r_pkT rfl rfl rfl) rfl ?_
       refine lv (v := .bool x20) rfl (r_as rfl rfl) rfl ?_
       refine wend ?_
       refine wthen ?_
       refine wren (fun ρ24 eρ24 => ?_)
       have h25 : opd ρ24 44 (.tmp 2) = .bool x20 := eρ24 2
       clear eρ24
       refine wp_ret ?_
       obtain rfl := Option.some.inj hF
       subst hB
       refine finR (rs := [.tmp 2]) (vs := [.bool x20]) rfl ⟨h25, trivial⟩ ?_
       exact hI.fin 0 ⟨rfl, rfl⟩
      ·skip
       rw [if_neg hc16] at hF
       have hbhc16 : (decide (a0.Op.Kind ≤ 7)) = false := decide_eq_false hc16
       refine lv (v := .bool false) rfl (r_mv rfl ((show opd _ _ _ = _ from rfl).trans (congrArg Value.bool hbhc16))) rfl ?_
       with_reducible refine lx (d := 35) (by kernel_rfl) (by kernel_rfl) ?_
       with_reducible refine lx (d := 36) (by kernel_rfl) (by kernel_rfl) ?_
       with_reducible refine lx (d := 37) (by kernel_rfl) (by kernel_rfl) ?_
       with_reducible refine lx (d := 38) (by kernel_rfl) (by kernel_rfl) ?_
       with_reducible refine lx (d := 39) (by kernel_rfl) (by kernel_rfl) ?_
       with_reducible refine lx (d := 40) (by kernel_rfl) (by kernel_rfl) ?_
       with_reducible refine lx (d := 41) (by kernel_rfl) (by kernel_rfl) ?_
       with_reducible refine lx (d := 42) (by kernel_rfl) (by kernel_rfl) ?_
       refine lv (v := .bool false) rfl (r_pkF rfl rfl rfl) rfl ?_
       refine lv (v := .bool false) rfl (r_as rfl rfl) rfl ?_
       refine wend ?_
       refine wthen ?_
       refine wren (fun ρ26 eρ26 => ?_)
       have h27 : opd ρ26 44 (.tmp 2) = .bool false := eρ26 2
       clear eρ26
       refine wp_ret ?_
       obtain rfl := Option.some.inj hF
       subst hB
       refine finR (rs := [.tmp 2]) (vs := [.bool false]) rfl ⟨h27, trivial⟩ ?_
       exact hI.fin 0 ⟨rfl, rfl⟩
     ·skip
      rw [if_neg hc15] at hF
      have hbhc15 : (decide ((1 : Int) ≤ a0.Op.Kind)) = false := decide_eq_false hc15
      refine lv (v := .bool false) rfl (r_mv rfl ((show opd _ _ _ = _ from rfl).trans (congrArg Value.bool hbhc15))) rfl ?_
      with_reducible refine lx (d := 30) (by kernel_rfl) (by kernel_rfl) ?_
      with_reducible refine lx (d := 31) (by kernel_rfl) (by kernel_rfl) ?_
      with_reducible refine lx (d := 32) (by kernel_rfl) (by kernel_rfl) ?_
      refine lv (v := .bool false) rfl (r_pkF rfl rfl rfl) rfl ?_
      refine lv (v := .bool false) rfl (r_mv rfl rfl) rfl ?_
      with_reducible refine lx (d := 35) (by kernel_rfl) (by kernel_rfl) ?_
      with_reducible refine lx (d := 36) (by kernel_rfl) (by kernel_rfl) ?_
      with_reducible refine lx (d := 37) (by kernel_rfl) (by kernel_rfl) ?_
      with_reducible refine lx (d := 38) (by kernel_rfl) (by kernel_rfl) ?_
      with_reducible refine lx (d := 39) (by kernel_rfl) (by kernel_rfl) ?_
      with_reducible refine lx (d := 40) (by kernel_rfl) (by kernel_rfl) ?_
      with_reducible refine lx (d := 41) (by kernel_rfl) (by kernel_rfl) ?_
      with_reducible refine lx (d := 42) (by kernel_rfl) (by kernel_rfl) ?_
      refine lv (v := .bool false) rfl (r_pkF rfl rfl rfl) rfl ?_
      refine lv (v := .bool false) rfl (r_as rfl rfl) rfl ?_
      refine wend ?_
      refine wthen ?_
      refine wren (fun ρ28 eρ28 => ?_)
      have h29 : opd ρ28 44 (.tmp 2) = .bool false := eρ28 2
      clear eρ28
      refine wp_ret ?_
      obtain rfl := Option.some.inj hF
      subst hB
      refine finR (rs := [.tmp 2]) (vs := [.bool false]) rfl ⟨h29, trivial⟩ ?_
      exact hI.fin 0 ⟨rfl, rfl⟩
    ·skip
     rw [if_neg hc14] at hF
     have hbhc14 : (decide (a0.Num ≤ 1099511627776)) = false := decide_eq_false hc14
     refine lv (v := .bool false) rfl (r_mv rfl ((show opd _ _ _ = _ from rfl).trans (congrArg Value.bool hbhc14))) rfl ?_
     with_reducible refine lx (d := 25) (by kernel_rfl) (by kernel_rfl) ?_
     with_reducible refine lx (d := 26) (by kernel_rfl) (by kernel_rfl) ?_
     with_reducible refine lx (d := 27) (by kernel_rfl) (by kernel_rfl) ?_
     refine lv (v := .bool false) rfl (r_pkF rfl rfl rfl) rfl ?_
     refine lv (v := .bool false) rfl (r_mv rfl rfl) rfl ?_
     with_reducible refine lx (d := 30) (by kernel_rfl) (by kernel_rfl) ?_
     with_reducible refine lx (d := 31) (by kernel_rfl) (by kernel_rfl) ?_
     with_reducible refine lx (d := 32) (by kernel_rfl) (by kernel_rfl) ?_
     refine lv (v := .bool false) rfl (r_pkF rfl rfl rfl) rfl ?_
     refine lv (v := .bool false) rfl (r_mv rfl rfl) rfl ?_
     with_reducible refine lx (d := 35) (by kernel_rfl) (by kernel_rfl) ?_
     with_reducible refine lx (d := 36) (by kernel_rfl) (by kernel_rfl) ?_
     with_reducible refine lx (d := 37) (by kernel_rfl) (by kernel_rfl) ?_
     with_reducible refine lx (d := 38) (by kernel_rfl) (by kernel_rfl) ?_
     with_reducible refine lx (d := 39) (by kernel_rfl) (by kernel_rfl) ?_
     with_reducible refine lx (d := 40) (by kernel_rfl) (by kernel_rfl) ?_
     with_reducible refine lx (d := 41) (by kernel_rfl) (by kernel_rfl) ?_
     with_reducible refine lx (d := 42) (by kernel_rfl) (by kernel_rfl) ?_
     refine lv (v := .bool false) rfl (r_pkF rfl rfl rfl) rfl ?_
     refine lv (v := .bool false) rfl (r_as rfl rfl) rfl ?_
     refine wend ?_
     refine wthen ?_
     refine wren (fun ρ30 eρ30 => ?_)
     have h31 : opd ρ30 44 (.tmp 2) = .bool false := eρ30 2
     clear eρ30
     refine wp_ret ?_
     obtain rfl := Option.some.inj hF
     subst hB
     refine finR (rs := [.tmp 2]) (vs := [.bool false]) rfl ⟨h31, trivial⟩ ?_
     exact hI.fin 0 ⟨rfl, rfl⟩
   ·skip
    rw [if_neg hc13] at hF
    have hbhc13 : (decide ((1 : Int) ≤ a0.Num)) = false := decide_eq_false hc13
    refine lv (v := .bool false) rfl (r_mv rfl ((show opd _ _ _ = _ from rfl).trans (congrArg Value.bool hbhc13))) rfl ?_
    with_reducible refine lx (d := 20) (by kernel_rfl) (by kernel_rfl) ?_
    with_reducible refine lx (d := 21) (by kernel_rfl) (by kernel_rfl) ?_
    with_reducible refine lx (d := 22) (by kernel_rfl) (by kernel_rfl) ?_
    refine lv (v := .bool false) rfl (r_pkF rfl rfl rfl) rfl ?_
    refine lv (v := .bool false) rfl (r_mv rfl rfl) rfl ?_
    with_reducible refine lx (d := 25) (by kernel_rfl) (by kernel_rfl) ?_
    with_reducible refine lx (d := 26) (by kernel_rfl) (by kernel_rfl) ?_
    with_reducible refine lx (d := 27) (by kernel_rfl) (by kernel_rfl) ?_
    refine lv (v := .bool false) rfl (r_pkF rfl rfl rfl) rfl ?_
    refine lv (v := .bool false) rfl (r_mv rfl rfl) rfl ?_
    with_reducible refine lx (d := 30) (by kernel_rfl) (by kernel_rfl) ?_
    with_reducible refine lx (d := 31) (by kernel_rfl) (by kernel_rfl) ?_
    with_reducible refine lx (d := 32) (by kernel_rfl) (by kernel_rfl) ?_
    refine lv (v := .bool false) rfl (r_pkF rfl rfl rfl) rfl ?_
    refine lv (v := .bool false) rfl (r_mv rfl rfl) rfl ?_
    with_reducible refine lx (d := 35) (by kernel_rfl) (by kernel_rfl) ?_
    with_reducible refine lx (d := 36) (by kernel_rfl) (by kernel_rfl) ?_
    with_reducible refine lx (d := 37) (by kernel_rfl) (by kernel_rfl) ?_
    with_reducible refine lx (d := 38) (by kernel_rfl) (by kernel_rfl) ?_
    with_reducible refine lx (d := 39) (by kernel_rfl) (by kernel_rfl) ?_
    with_reducible refine lx (d := 40) (by kernel_rfl) (by kernel_rfl) ?_
    with_reducible refine lx (d := 41) (by kernel_rfl) (by kernel_rfl) ?_
    with_reducible refine lx (d := 42) (by kernel_rfl) (by kernel_rfl) ?_
    refine lv (v := .bool false) rfl (r_pkF rfl rfl rfl) rfl ?_
    refine lv (v := .bool false) rfl (r_as rfl rfl) rfl ?_
    refine wend ?_
    refine wthen ?_
    refine wren (fun ρ32 eρ32 => ?_)
    have h33 : opd ρ32 44 (.tmp 2) = .bool false := eρ32 2
    clear eρ32
    refine wp_ret ?_
    obtain rfl := Option.some.inj hF
    subst hB
    refine finR (rs := [.tmp 2]) (vs := [.bool false]) rfl ⟨h33, trivial⟩ ?_
    exact hI.fin 0 ⟨rfl, rfl⟩
  ·skip
   rw [if_neg hc12] at hF
   have hbhc12 : (decide (a0.Client ≤ 64)) = false := decide_eq_false hc12
   refine lv (v := .bool false) rfl (r_mv rfl ((show opd _ _ _ = _ from rfl).trans (congrArg Value.bool hbhc12))) rfl ?_
   with_reducible refine lx (d := 15) (by kernel_rfl) (by kernel_rfl) ?_
   with_reducible refine lx (d := 16) (by kernel_rfl) (by kernel_rfl) ?_
   with_reducible refine lx (d := 17) (by kernel_rfl) (by kernel_rfl) ?_
   refine lv (v := .bool false) rfl (r_pkF rfl rfl rfl) rfl ?_
   refine lv (v := .bool false) rfl (r_mv rfl rfl) rfl ?_
   with_reducible refine lx (d := 20) (by kernel_rfl) (by kernel_rfl) ?_
   with_reducible refine lx (d := 21) (by kernel_rfl) (by kernel_rfl) ?_
   with_reducible refine lx (d := 22) (by kernel_rfl) (by kernel_rfl) ?_
   refine lv (v := .bool false) rfl (r_pkF rfl rfl rfl) rfl ?_
   refine lv (v := .bool false) rfl (r_mv rfl rfl) rfl ?_
   with_reducible refine lx (d := 25) (by kernel_rfl) (by kernel_rfl) ?_
   with_reducible refine lx (d := 26) (by kernel_rfl) (by kernel_rfl) ?_
   with_reducible refine lx (d := 27) (by kernel_rfl) (by kernel_rfl) ?_
   refine lv (v := .bool false) rfl (r_pkF rfl rfl rfl) rfl ?_
   refine lv (v := .bool false) rfl (r_mv rfl rfl) rfl ?_
   with_reducible refine lx (d := 30) (by kernel_rfl) (by kernel_rfl) ?_
   with_reducible refine lx (d := 31) (by kernel_rfl) (by kernel_rfl) ?_
   with_reducible refine lx (d := 32) (by kernel_rfl) (by kernel_rfl) ?_
   refine lv (v := .bool false) rfl (r_pkF rfl rfl rfl) rfl ?_
   refine lv (v := .bool false) rfl (r_mv rfl rfl) rfl ?_
   with_reducible refine lx (d := 35) (by kernel_rfl) (by kernel_rfl) ?_
   with_reducible refine lx (d := 36) (by kernel_rfl) (by kernel_rfl) ?_
   with_reducible refine lx (d := 37) (by kernel_rfl) (by kernel_rfl) ?_
   with_reducible refine lx (d := 38) (by kernel_rfl) (by kernel_rfl) ?_
   with_reducible refine lx (d := 39) (by kernel_rfl) (by kernel_rfl) ?_
   with_reducible refine lx (d := 40) (by kernel_rfl) (by kernel_rfl) ?_
   with_reducible refine lx (d := 41) (by kernel_rfl) (by kernel_rfl) ?_
   with_reducible refine lx (d := 42) (by kernel_rfl) (by kernel_rfl) ?_
   refine lv (v := .bool false) rfl (r_pkF rfl rfl rfl) rfl ?_
   refine lv (v := .bool false) rfl (r_as rfl rfl) rfl ?_
   refine wend ?_
   refine wthen ?_
   refine wren (fun ρ34 eρ34 => ?_)
   have h35 : opd ρ34 44 (.tmp 2) = .bool false := eρ34 2
   clear eρ34
   refine wp_ret ?_
   obtain rfl := Option.some.inj hF
   subst hB
   refine finR (rs := [.tmp 2]) (vs := [.bool false]) rfl ⟨h35, trivial⟩ ?_
   exact hI.fin 0 ⟨rfl, rfl⟩
 ·skip
  rw [if_neg hc11] at hF
  have hbhc11 : (decide ((1 : Int) ≤ a0.Client)) = false := decide_eq_false hc11
  refine lv (v := .bool false) rfl (r_mv rfl ((show opd _ _ _ = _ from rfl).trans (congrArg Value.bool hbhc11))) rfl ?_
  with_reducible refine lx (d := 10) (by kernel_rfl) (by kernel_rfl) ?_
  with_reducible refine lx (d := 11) (by kernel_rfl) (by kernel_rfl) ?_
  with_reducible refine lx (d := 12) (by kernel_rfl) (by kernel_rfl) ?_
  refine lv (v := .bool false) rfl (r_pkF rfl rfl rfl) rfl ?_
  refine lv (v := .bool false) rfl (r_mv rfl rfl) rfl ?_
  with_reducible refine lx (d := 15) (by kernel_rfl) (by kernel_rfl) ?_
  with_reducible refine lx (d := 16) (by kernel_rfl) (by kernel_rfl) ?_
  with_reducible refine lx (d := 17) (by kernel_rfl) (by kernel_rfl) ?_
  refine lv (v := .bool false) rfl (r_pkF rfl rfl rfl) rfl ?_
  refine lv (v := .bool false) rfl (r_mv rfl rfl) rfl ?_
  with_reducible refine lx (d := 20) (by kernel_rfl) (by kernel_rfl) ?_
  with_reducible refine lx (d := 21) (by kernel_rfl) (by kernel_rfl) ?_
  with_reducible refine lx (d := 22) (by kernel_rfl) (by kernel_rfl) ?_
  refine lv (v := .bool false) rfl (r_pkF rfl rfl rfl) rfl ?_
  refine lv (v := .bool false) rfl (r_mv rfl rfl) rfl ?_
  with_reducible refine lx (d := 25) (by kernel_rfl) (by kernel_rfl) ?_
  with_reducible refine lx (d := 26) (by kernel_rfl) (by kernel_rfl) ?_
  with_reducible refine lx (d := 27) (by kernel_rfl) (by kernel_rfl) ?_
  refine lv (v := .bool false) rfl (r_pkF rfl rfl rfl) rfl ?_
  refine lv (v := .bool false) rfl (r_mv rfl rfl) rfl ?_
  with_reducible refine lx (d := 30) (by kernel_rfl) (by kernel_rfl) ?_
  with_reducible refine lx (d := 31) (by kernel_rfl) (by kernel_rfl) ?_
  with_reducible refine lx (d := 32) (by kernel_rfl) (by kernel_rfl) ?_
  refine lv (v := .bool false) rfl (r_pkF rfl rfl rfl) rfl ?_
  refine lv (v := .bool false) rfl (r_mv rfl rfl) rfl ?_
  with_reducible refine lx (d := 35) (by kernel_rfl) (by kernel_rfl) ?_
  with_reducible refine lx (d := 36) (by kernel_rfl) (by kernel_rfl) ?_
  with_reducible refine lx (d := 37) (by kernel_rfl) (by kernel_rfl) ?_
  with_reducible refine lx (d := 38) (by kernel_rfl) (by kernel_rfl) ?_
  with_reducible refine lx (d := 39) (by kernel_rfl) (by kernel_rfl) ?_
  with_reducible refine lx (d := 40) (by kernel_rfl) (by kernel_rfl) ?_
  with_reducible refine lx (d := 41) (by kernel_rfl) (by kernel_rfl) ?_
  with_reducible refine lx (d := 42) (by kernel_rfl) (by kernel_rfl) ?_
  refine lv (v := .bool false) rfl (r_pkF rfl rfl rfl) rfl ?_
  refine lv (v := .bool false) rfl (r_as rfl rfl) rfl ?_
  refine wend ?_
  refine wthen ?_
  refine wren (fun ρ36 eρ36 => ?_)
  have h37 : opd ρ36 44 (.tmp 2) = .bool false := eρ36 2
  clear eρ36
  refine wp_ret ?_
  obtain rfl := Option.some.inj hF
  subst hB
  refine finR (rs := [.tmp 2]) (vs := [.bool false]) rfl ⟨h37, trivial⟩ ?_
  exact hI.fin 0 ⟨rfl, rfl⟩
noncomputable def M_block_Good (a0 : Block) : Option (Bool) := (if a0.Epoch < 0 then some false else (if (1073741824 : Int) < a0.Epoch then some false else (if a0.Height < 1 then some false else (if (1024 : Int) < a0.Height then some false else (if (8 : Int) < (a0.Requests.length : Int) then some false else ((forK (fun (i40 : Nat) (σ40 : Unit) => (((a0.Requests[i40]?).bind fun x86 => ((M_request_Good x86).bind fun x100 => (if x100 = true then some (.inl ()) else ((some false).map Sum.inr)))) : Option (Unit ⊕ Bool))) a0.Requests.length 0 ()).bind fun y => match y with | .inl _ => some true | .inr r => some r))))))
set_option maxHeartbeats 4000000 in
theorem spec_87 {w : World} {H : Hp} {a0 : Block} {s1 : Sv} {r : Bool} (hF : M_block_Good a0 = some r) (hT : Tab H) (hG : Good w H []) (hs1 : Sl (Fl.ty fl_Request) H s1 a0.Requests) :
  Fine Tryd.prog 87 [.agg (flat [ckI a0.Epoch, ckI a0.Height, ckV flB a0.Prev, ckV flB a0.State, ckV flB a0.Next, ckL s1]).toArray] w H [] (fun H' v L' => v = .bool r ∧ L' = []) := by
 unfold M_block_Good at hF
 unfold Fine
 obtain ⟨B, hB⟩ : ∃ B : Base, B = ⟨w, H, blks []⟩ := ⟨_, rfl⟩
 have hI : Inv B w H [] := by rw [hB]; exact Inv.start hG
 refine enter (n := 40) (args := [.agg (flat [ckI a0.Epoch, ckI a0.Height, ckV flB a0.Prev, ckV flB a0.State, ckV flB a0.Next, ckL s1]).toArray]) Tryd.func87 rfl Tryd.ntmps87 (Nat.le_of_ble_eq_true rfl) ?_
 refine wseq ?_
 refine wreg ?_
 refine le rfl (l_box (cks := [ckI a0.Epoch, ckI a0.Height, ckV flB a0.Prev, ckV flB a0.State, ckV flB a0.Next, ckL s1]) hI rfl rfl rfl) rfl ?_
 rintro _ w3 ⟨g2, rfl, hI⟩
 replace hI : Inv B w3 H [.cb g2 [ckI a0.Epoch, ckI a0.Height, ckV flB a0.Prev, ckV flB a0.State, ckV flB a0.Next, ckL s1] 69] := hI
 refine lv (v := .bool false) rfl (r_as rfl rfl) rfl ?_
 refine wend ?_
 refine wthen ?_
 refine wren (fun ρ4 eρ4 => ?_)
 have h5 : opd ρ4 40 (.tmp 1) = .pointer (some ⟨g2, 0 + 0, none⟩) := eρ4 1
 clear eρ4
 refine wseq ?_
 refine wseq ?_
 refine wreg ?_
 refine lv (v := .pointer (some ⟨g2, 0 + 0, none⟩)) rfl (l_fa (j := 0) (i := 0) rfl fl69_0 h5 rfl) rfl ?_
 refine lv (v := .int .i64 a0.Epoch) rfl (r_cl1 (off := 0) (p := 0) (hI.good.ca 0 rfl) rfl sc3 rfl rfl rfl) rfl ?_
 refine lv (v := .bool (decide (a0.Epoch < 0))) rfl (r_lss rfl rfl rfl rfl) rfl ?_
 by_cases hc6 : a0.Epoch < 0
 ·skip
  rw [if_pos hc6] at hF
  have hbhc6 : (decide (a0.Epoch < 0)) = true := decide_eq_true hc6
  refine lv (v := .bool true) rfl (r_mv rfl ((show opd _ _ _ = _ from rfl).trans (congrArg Value.bool hbhc6))) rfl ?_
  with_reducible refine lx (d := 9) (by kernel_rfl) (by kernel_rfl) ?_
  with_reducible refine lx (d := 10) (by kernel_rfl) (by kernel_rfl) ?_
  with_reducible refine lx (d := 11) (by kernel_rfl) (by kernel_rfl) ?_
  refine lv (v := .bool true) rfl (r_pkT rfl rfl rfl) rfl ?_
  refine lv (v := .bool true) rfl (r_mv rfl rfl) rfl ?_
  with_reducible refine lx (d := 14) (by kernel_rfl) (by kernel_rfl) ?_
  with_reducible refine lx (d := 15) (by kernel_rfl) (by kernel_rfl) ?_
  with_reducible refine lx (d := 16) (by kernel_rfl) (by kernel_rfl) ?_
  refine lv (v := .bool true) rfl (r_pkT rfl rfl rfl) rfl ?_
  refine lv (v := .bool true) rfl (r_mv rfl rfl) rfl ?_
  with_reducible refine lx (d := 19) (by kernel_rfl) (by kernel_rfl) ?_
  with_reducible refine lx (d := 20) (by kernel_rfl) (by kernel_rfl) ?_
  with_reducible refine lx (d := 21) (by kernel_rfl) (by kernel_rfl) ?_
  refine lv (v := .bool true) rfl (r_pkT rfl rfl rfl) rfl ?_
  refine lv (v := .bool true) rfl (r_mv rfl rfl) rfl ?_
  with_reducible refine lx (d := 24) (by kernel_rfl) (by kernel_rfl) ?_
  with_reducible refine lx (d := 25) (by kernel_rfl) (by kernel_rfl) ?_
  with_reducible refine lx (d := 26) (by kernel_rfl) (by kernel_rfl) ?_
  with_reducible refine lx (d := 27) (by kernel_rfl) (by kernel_rfl) ?_
  refine lv (v := .bool true) rfl (r_pkT rfl rfl rfl) rfl ?_
  refine wend ?_
  refine wthen ?_
  refine wren (fun ρ7 eρ7 => ?_)
  have h8 : opd ρ7 40 (.tmp 1) = .pointer (some ⟨g2, 0 + 0, none⟩) := (eρ7 1).trans h5
  have h9 : opd ρ7 40 (.tmp 28) = .bool true := eρ7 28
  clear eρ7
  refine wcT h9 ?_
  refine wseq ?_
  refine wreg ?_
  refine lv (v := .bool false) rfl (r_as rfl rfl) rfl ?_
  refine wend ?_
  refine wthen ?_
  refine wren (fun ρ10 eρ10 => ?_)
  have h11 : opd ρ10 40 (.tmp 2) = .bool false := eρ10 2
  clear eρ10
  refine wp_ret ?_
  refine thR ?_
  obtain rfl := Option.some.inj hF
  subst hB
  refine finR (rs := [.tmp 2]) (vs := [.bool false]) rfl ⟨h11, trivial⟩ ?_
  exact hI.fin 0 ⟨rfl, rfl⟩
 ·skip
  rw [if_neg hc6] at hF
  have hbhc6 : (decide (a0.Epoch < 0)) = false := decide_eq_false hc6
  refine lv (v := .bool false) rfl (r_mv rfl ((show opd _ _ _ = _ from rfl).trans (congrArg Value.bool hbhc6))) rfl ?_
  refine lv (v := .pointer (some ⟨g2, 0 + 0, none⟩)) rfl (l_fa (j := 0) (i := 0) rfl fl69_0 h5 rfl) rfl ?_
  refine lv (v := .int .i64 a0.Epoch) rfl (r_cl1 (off := 0) (p := 0) (hI.good.ca 0 rfl) rfl sc3 rfl rfl rfl) rfl ?_
  refine lv (v := .bool (decide ((1073741824 : Int) < a0.Epoch))) rfl (r_gtr rfl rfl rfl rfl) rfl ?_
  refine lv (v := .bool (decide ((1073741824 : Int) < a0.Epoch))) rfl (r_pkF rfl rfl rfl) rfl ?_
  by_cases hc12 : (1073741824 : Int) < a0.Epoch
  ·skip
   rw [if_pos hc12] at hF
   have hbhc12 : (decide ((1073741824 : Int) < a0.Epoch)) = true := decide_eq_true hc12
   refine lv (v := .bool true) rfl (r_mv rfl ((show opd _ _ _ = _ from rfl).trans (congrArg Value.bool hbhc12))) rfl ?_
   with_reducible refine lx (d := 14) (by kernel_rfl) (by kernel_rfl) ?_
   with_reducible refine lx (d := 15) (by kernel_rfl) (by kernel_rfl) ?_
   with_reducible refine lx (d := 16) (by kernel_rfl) (by kernel_rfl) ?_
   refine lv (v := .bool true) rfl (r_pkT rfl rfl rfl) rfl ?_
   refine lv (v := .bool true) rfl (r_mv rfl rfl) rfl ?_
   with_reducible refine lx (d := 19) (by kernel_rfl) (by kernel_rfl) ?_
   with_reducible refine lx (d := 20) (by kernel_rfl) (by kernel_rfl) ?_
   with_reducible refine lx (d := 21) (by kernel_rfl) (by kernel_rfl) ?_
   refine lv (v := .bool true) rfl (r_pkT rfl rfl rfl) rfl ?_
   refine lv (v := .bool true) rfl (r_mv rfl rfl) rfl ?_
   with_reducible refine lx (d := 24) (by kernel_rfl) (by kernel_rfl) ?_
   with_reducible refine lx (d := 25) (by kernel_rfl) (by kernel_rfl) ?_
   with_reducible refine lx (d := 26) (by kernel_rfl) (by kernel_rfl) ?_
   with_reducible refine lx (d := 27) (by kernel_rfl) (by kernel_rfl) ?_
   refine lv (v := .bool true) rfl (r_pkT rfl rfl rfl) rfl ?_
   refine wend ?_
   refine wthen ?_
   refine wren (fun ρ13 eρ13 => ?_)
   have h14 : opd ρ13 40 (.tmp 1) = .pointer (some ⟨g2, 0 + 0, none⟩) := (eρ13 1).trans h5
   have h15 : opd ρ13 40 (.tmp 28) = .bool true := eρ13 28
   clear eρ13
   refine wcT h15 ?_
   refine wseq ?_
   refine wreg ?_
   refine lv (v := .bool false) rfl (r_as rfl rfl) rfl ?_
   refine wend ?_
   refine wthen ?_
   refine wren (fun ρ16 eρ16 => ?_)
   have h17 : opd ρ16 40 (.tmp 2) = .bool false := eρ16 2
   clear eρ16
   refine wp_ret ?_
   refine thR ?_
   obtain rfl := Option.some.inj hF
   subst hB
   refine finR (rs := [.tmp 2]) (vs := [.bool false]) rfl ⟨h17, trivial⟩ ?_
   exact hI.fin 0 ⟨rfl, rfl⟩
  ·skip
   rw [if_neg hc12] at hF
   have hbhc12 : (decide ((1073741824 : Int) < a0.Epoch)) = false := decide_eq_false hc12
   refine lv (v := .bool false) rfl (r_mv rfl ((show opd _ _ _ = _ from rfl).trans (congrArg Value.bool hbhc12))) rfl ?_
   refine lv (v := .pointer (some ⟨g2, 0 + 1, none⟩)) rfl (l_fa (j := 0) (i := 0) rfl fl69_1 h5 rfl) rfl ?_
   refine lv (v := .int .i64 a0.Height) rfl (r_cl1 (off := 1) (p := 1) (hI.good.ca 0 rfl) rfl sc3 rfl rfl rfl) rfl ?_
   refine lv (v := .bool (decide (a0.Height < 1))) rfl (r_lss rfl rfl rfl rfl) rfl ?_
   refine lv (v := .bool (decide (a0.Height < 1))) rfl (r_pkF rfl rfl rfl) rfl ?_
   by_cases hc18 : a0.Height < 1
   ·skip
    rw [if_pos hc18] at hF
    have hbhc18 : (decide (a0.Height < 1)) = true := decide_eq_true hc18
    refine lv (v := .bool true) rfl (r_mv rfl ((show opd _ _ _ = _ from rfl).trans (congrArg Value.bool hbhc18))) rfl ?_
    with_reducible refine lx (d := 19) (by kernel_rfl) (by kernel_rfl) ?_
    with_reducible refine lx (d := 20) (by kernel_rfl) (by kernel_rfl) ?_
    with_reducible refine lx (d := 21) (by kernel_rfl) (by kernel_rfl) ?_
    refine lv (v := .bool true) rfl (r_pkT rfl rfl rfl) rfl ?_
    refine lv (v := .bool true) rfl (r_mv rfl rfl) rfl ?_
    with_reducible refine lx (d := 24) (by kernel_rfl) (by kernel_rfl) ?_
    with_reducible refine lx (d := 25) (by kernel_rfl) (by kernel_rfl) ?_
    with_reducible refine lx (d := 26) (by kernel_rfl) (by kernel_rfl) ?_
    with_reducible refine lx (d := 27) (by kernel_rfl) (by kernel_rfl) ?_
    refine lv (v := .bool true) rfl (r_pkT rfl rfl rfl) rfl ?_
    refine wend ?_
    refine wthen ?_
    refine wren (fun ρ19 eρ19 => ?_)
    have h20 : opd ρ19 40 (.tmp 1) = .pointer (some ⟨g2, 0 + 0, none⟩) := (eρ19 1).trans h5
    have h21 : opd ρ19 40 (.tmp 28) = .bool true := eρ19 28
    clear eρ19
    refine wcT h21 ?_
    refine wseq ?_
    refine wreg ?_
    refine lv (v := .bool false) rfl (r_as rfl rfl) rfl ?_
    refine wend ?_
    refine wthen ?_
    refine wren (fun ρ22 eρ22 => ?_)
    have h23 : opd ρ22 40 (.tmp 2) = .bool false := eρ22 2
    clear eρ22
    refine wp_ret ?_
    refine thR ?_
    obtain rfl := Option.some.inj hF
    subst hB
    refine finR (rs := [.tmp 2]) (vs := [.bool false]) rfl ⟨h23, trivial⟩ ?_
    exact hI.fin 0 ⟨rfl, rfl⟩
   ·skip
    rw [if_neg hc18] at hF
    have hbhc18 : (decide (a0.Height < 1)) = false := decide_eq_false hc18
    refine lv (v := .bool false) rfl (r_mv rfl ((show opd _ _ _ = _ from rfl).trans (congrArg Value.bool hbhc18))) rfl ?_
    refine lv (v := .pointer (some ⟨g2, 0 + 1, none⟩)) rfl (l_fa (j := 0) (i := 0) rfl fl69_1 h5 rfl) rfl ?_
    refine lv (v := .int .i64 a0.Height) rfl (r_cl1 (off := 1) (p := 1) (hI.good.ca 0 rfl) rfl sc3 rfl rfl rfl) rfl ?_
    refine lv (v := .bool (decide ((1024 : Int) < a0.Height))) rfl (r_gtr rfl rfl rfl rfl) rfl ?_
    refine lv (v := .bool (decide ((1024 : Int) < a0.Height))) rfl (r_pkF rfl rfl rfl) rfl ?_
    by_cases hc24 : (1024 : Int) < a0.Height
    ·skip
     rw [if_pos hc24] at hF
     have hbhc24 : (decide ((1024 : Int) < a0.Height)) = true := decide_eq_true hc24
     refine lv (v := .bool true) rfl (r_mv rfl ((show opd _ _ _ = _ from rfl).trans (congrArg Value.bool hbhc24))) rfl ?_
     with_reducible refine lx (d := 24) (by kernel_rfl) (by kernel_rfl) ?_
     with_reducible refine lx (d := 25) (by kernel_rfl) (by kernel_rfl) ?_
     with_reducible refine lx (d := 26) (by kernel_rfl) (by kernel_rfl) ?_
     with_reducible refine lx (d := 27) (by kernel_rfl) (by kernel_rfl) ?_
     refine lv (v := .bool true) rfl (r_pkT rfl rfl rfl) rfl ?_
     refine wend ?_
     refine wthen ?_
     refine wren (fun ρ25 eρ25 => ?_)
     have h26 : opd ρ25 40 (.tmp 1) = .pointer (some ⟨g2, 0 + 0, none⟩) := (eρ25 1).trans h5
     have h27 : opd ρ25 40 (.tmp 28) = .bool true := eρ25 28
     clear eρ25
     refine wcT h27 ?_
     refine wseq ?_
     refine wreg ?_
     refine lv (v := .bool false) rfl (r_as rfl rfl) rfl ?_
     refine wend ?_
     refine wthen ?_
     refine wren (fun ρ28 eρ28 => ?_)
     have h29 : opd ρ28 40 (.tmp 2) = .bool false := eρ28 2
     clear eρ28
     refine wp_ret ?_
     refine thR ?_
     obtain rfl := Option.some.inj hF
     subst hB
     refine finR (rs := [.tmp 2]) (vs := [.bool false]) rfl ⟨h29, trivial⟩ ?_
     exact hI.fin 0 ⟨rfl, rfl⟩
    ·skip
     rw [if_neg hc24] at hF
     have hbhc24 : (decide ((1024 : Int) < a0.Height)) = false := decide_eq_false hc24
     refine lv (v := .bool false) rfl (r_mv rfl ((show opd _ _ _ = _ from rfl).trans (congrArg Value.bool hbhc24))) rfl ?_
     refine lv (v := .pointer (some ⟨g2, 0 + 98, none⟩)) rfl (l_fa (j := 0) (i := 0) rfl fl69_5 h5 rfl) rfl ?_
     refine lv (v := s1.v) rfl (r_cl1 (off := 98) (p := 5) (hI.good.ca 0 rfl) rfl sc67 rfl rfl rfl) rfl ?_
     refine lv (v := .int .i64 (a0.Requests.length : Int)) rfl (r_lenS rfl sl67 rfl hs1) rfl ?_
     refine lv (v := .bool (decide ((8 : Int) < (a0.Requests.length : Int)))) rfl (r_gtr rfl rfl rfl rfl) rfl ?_
     refine lv (v := .bool (decide ((8 : Int) < (a0.Requests.length : Int)))) rfl (r_pkF rfl rfl rfl) rfl ?_
     refine wend ?_
     refine wthen ?_
     refine wren (fun ρ30 eρ30 => ?_)
     have h31 : opd ρ30 40 (.tmp 1) = .pointer (some ⟨g2, 0 + 0, none⟩) := (eρ30 1).trans h5
     have h32 : opd ρ30 40 (.tmp 28) = .bool (decide ((8 : Int) < (a0.Requests.length : Int))) := eρ30 28
     clear eρ30
     by_cases hc33 : (8 : Int) < (a0.Requests.length : Int)
     ·skip
      rw [if_pos hc33] at hF
      have hbhc33 : (decide ((8 : Int) < (a0.Requests.length : Int))) = true := decide_eq_true hc33
      refine wcT (h32.trans (congrArg Value.bool hbhc33)) ?_
      refine wseq ?_
      refine wreg ?_
      refine lv (v := .bool false) rfl (r_as rfl rfl) rfl ?_
      refine wend ?_
      refine wthen ?_
      refine wren (fun ρ34 eρ34 => ?_)
      have h35 : opd ρ34 40 (.tmp 2) = .bool false := eρ34 2
      clear eρ34
      refine wp_ret ?_
      refine thR ?_
      obtain rfl := Option.some.inj hF
      subst hB
      refine finR (rs := [.tmp 2]) (vs := [.bool false]) rfl ⟨h35, trivial⟩ ?_
      exact hI.fin 0 ⟨rfl, rfl⟩
     ·skip
      rw [if_neg hc33] at hF
      have hbhc33 : (decide ((8 : Int) < (a0.Requests.length : Int))) = false := decide_eq_false hc33
      refine wcF (h32.trans (congrArg Value.bool hbhc33)) ?_
      refine wp_skip ?_
      refine wthen ?_
      refine wseq ?_
      refine wseq ?_
      refine wreg ?_
      refine lv (v := .pointer (some ⟨g2, 0 + 98, none⟩)) rfl (l_fa (j := 0) (i := 0) rfl fl69_5 h31 rfl) rfl ?_
      refine lv (v := s1.v) rfl (r_cl1 (off := 98) (p := 5) (hI.good.ca 0 rfl) rfl sc67 rfl rfl rfl) rfl ?_
      refine lv (v := .int .i64 (a0.Requests.length : Int)) rfl (r_lenS rfl sl67 rfl hs1) rfl ?_
      refine lv (v := .int .i64 0) rfl (r_mv rfl rfl) rfl ?_
      refine wend ?_
      refine wthen ?_
      refine wren (fun ρ36 eρ36 => ?_)
      have h37 : opd ρ36 40 (.tmp 30) = s1.v := eρ36 30
      have h38 : opd ρ36 40 (.tmp 31) = .int .i64 (a0.Requests.length : Int) := eρ36 31
      have h39 : opd ρ36 40 (.tmp 32) = .int .i64 0 := eρ36 32
      clear eρ36
      refine wp_block ?_
      have hbd40 := (hs1).bd
      rw [(hs1).n] at hbd40
      obtain ⟨y40, hy40, hF40⟩ := Option.bind_eq_some_iff.1 hF
      refine wfor (n := 40) a0.Requests.length _ (fun (i40 : Nat) (σ40 : Unit) ρ' w' => ∃ (H75 : Hp), Hle H H75 ∧ opd ρ' 40 (.tmp 30) = s1.v ∧ opd ρ' 40 (.tmp 31) = .int .i64 (a0.Requests.length : Int) ∧ opd ρ' 40 (.tmp 32) = .int .i64 (i40 : Int) ∧ Inv B w' H75 []) hy40 ⟨H, (Hle.refl _), h37, h38, h39, (hI.keep [false])⟩ ?_
      rintro k40 i40 σ40 ρ79 w80 hk40 ⟨H75, hleH75, h76, h77, h78, hI⟩ hy40
      refine wseq ?_
      refine wreg ?_
      refine lv (v := .bool (decide ((i40 : Int) < (a0.Requests.length : Int)))) rfl (r_lss rfl h78 h77 rfl) rfl ?_
      refine wend ?_
      refine wthen ?_
      refine wseq ?_
      by_cases hc81 : (i40 : Int) < (a0.Requests.length : Int)
      ·skip
       have hbhc81 : (decide ((i40 : Int) < (a0.Requests.length : Int))) = true := decide_eq_true hc81
       obtain ⟨k40, rfl⟩ : ∃ m, k40 = m + 1 := ⟨k40 - 1, by omega⟩
       obtain ⟨z40, hb40⟩ := forK_body hy40
       have hF := hb40
       have hlt40 : ((i40 : Nat) : Int) + 1 ≤ 9223372036854775807 := by omega
       refine wcT ((show opd _ _ _ = _ from rfl).trans (congrArg Value.bool hbhc81)) ?_
       refine wp_skip ?_
       refine wthen ?_
       refine wren (fun ρ82 eρ82 => ?_)
       have h83 : opd ρ82 40 (.tmp 30) = s1.v := (eρ82 30).trans h76
       have h84 : opd ρ82 40 (.tmp 31) = .int .i64 (a0.Requests.length : Int) := (eρ82 31).trans h77
       have h85 : opd ρ82 40 (.tmp 32) = .int .i64 (i40 : Int) := (eρ82 32).trans h78
       clear eρ82
       refine wseq ?_
       refine wp_block ?_
       refine wseq ?_
       refine wreg ?_
       obtain ⟨x86, hx86, hF⟩ := Option.bind_eq_some_iff.1 hF
       obtain ⟨b87, j88, hix89, hil90, hA91⟩ := (hs1.mono hleH75).ixf hx86
       replace hA91 : At H75 b87 j88 [ckI x86.Client, ckI x86.Num, ckI x86.Op.Kind, ckS x86.Op.Key, ckS x86.Op.Val, ckS x86.Op.Old, ckI x86.Op.Change.Kind, ckI x86.Op.Change.Id, ckI x86.Op.Change.New, ckV flB x86.Op.Change.Key.Root, ckI x86.Op.Change.Key.Height] := hA91
       refine lv (v := .pointer (some ⟨b87, j88 + 0, none⟩)) rfl (r_ixt rfl sl67 h83 h85 rfl hix89 hil90) rfl ?_
       refine lv (v := .agg (flat [ckI x86.Client, ckI x86.Num, ckI x86.Op.Kind, ckS x86.Op.Key, ckS x86.Op.Val, ckS x86.Op.Old, ckI x86.Op.Change.Kind, ckI x86.Op.Change.Id, ckI x86.Op.Change.New, ckV flB x86.Op.Change.Key.Root, ckI x86.Op.Change.Key.Height]).toArray) rfl (r_cla (off := 0) (p := 0) (m := 11) (hA91.ca hI.good) rfl ag192 rfl rfl rfl) rfl ?_
       refine le rfl (l_al hI rfl ze192) rfl ?_
       rintro _ w93 ⟨g92, rfl, hI⟩
       replace hI : Inv B w93 H75 [.cb g92 [ckI 0, ckI 0, ckI 0, ckS [], ckS [], ckS [], ckI 0, ckI 0, ckI 0, ckV flB (Vec.rep 32 0), ckI 0] 192] := hI
       refine lst rfl (l_st (off := 0) (p := 0) (m := 11) (new := [ckI x86.Client, ckI x86.Num, ckI x86.Op.Kind, ckS x86.Op.Key, ckS x86.Op.Val, ckS x86.Op.Old, ckI x86.Op.Change.Kind, ckI x86.Op.Change.Id, ckI x86.Op.Change.New, ckV flB x86.Op.Change.Key.Root, ckI x86.Op.Change.Key.Height]) hI 0 rfl rfl sz192 rfl rfl rfl rfl rfl rfl) rfl ?_
       intro w94 hI
       replace hI : Inv B w94 H75 [.cb g92 [ckI x86.Client, ckI x86.Num, ckI x86.Op.Kind, ckS x86.Op.Key, ckS x86.Op.Val, ckS x86.Op.Old, ckI x86.Op.Change.Kind, ckI x86.Op.Change.Id, ckI x86.Op.Change.New, ckV flB x86.Op.Change.Key.Root, ckI x86.Op.Change.Key.Height] 192] := hI
       refine wend ?_
       refine wthen ?_
       refine wren (fun ρ95 eρ95 => ?_)
       have h96 : opd ρ95 40 (.tmp 4) = .pointer (some ⟨g92, 0 + 0, none⟩) := eρ95 4
       have h97 : opd ρ95 40 (.tmp 30) = s1.v := (eρ95 30).trans h83
       have h98 : opd ρ95 40 (.tmp 31) = .int .i64 (a0.Requests.length : Int) := (eρ95 31).trans h84
       have h99 : opd ρ95 40 (.tmp 32) = .int .i64 (i40 : Int) := (eρ95 32).trans h85
       clear eρ95
       refine wseq ?_
       refine wreg ?_
       refine lv (v := .agg (flat [ckI x86.Client, ckI x86.Num, ckI x86.Op.Kind, ckS x86.Op.Key, ckS x86.Op.Val, ckS x86.Op.Old, ckI x86.Op.Change.Kind, ckI x86.Op.Change.Id, ckI x86.Op.Change.New, ckV flB x86.Op.Change.Key.Root, ckI x86.Op.Change.Key.Height]).toArray) rfl (r_cla (off := 0) (p := 0) (m := 11) (hI.good.ca 0 rfl) rfl ag192 h96 rfl rfl) rfl ?_
       obtain ⟨x100, hx100, hF⟩ := Option.bind_eq_some_iff.1 hF
       have hsp103 := spec_136 hx100 (hT.mono hleH75) (hI.part 0) 
       refine fc ([]) ([.cb g92 [ckI x86.Client, ckI x86.Num, ckI x86.Op.Kind, ckS x86.Op.Key, ckS x86.Op.Val, ckS x86.Op.Old, ckI x86.Op.Change.Kind, ckI x86.Op.Change.Id, ckI x86.Op.Change.New, ckV flB x86.Op.Change.Key.Root, ckI x86.Op.Change.Key.Height] 192]) (args := [.agg (flat [ckI x86.Client, ckI x86.Num, ckI x86.Op.Kind, ckS x86.Op.Key, ckS x86.Op.Val, ckS x86.Op.Old, ckI x86.Op.Change.Kind, ckI x86.Op.Change.Id, ckI x86.Op.Change.New, ckV flB x86.Op.Change.Key.Root, ckI x86.Op.Change.Key.Height]).toArray]) fc136 rfl rfl rfl hI (argc rfl rfl) (hsp103) ?_
       rintro _ H101 _ w102 ⟨rfl, rfl⟩ hleH101 hI
       replace hI : Inv B w102 H101 [.cb g92 _ 192] := hI
       refine lv (v := .bool (!x100)) rfl (r_not rfl rfl) rfl ?_
       refine wend ?_
       refine wthen ?_
       refine wren (fun ρ104 eρ104 => ?_)
       have h105 : opd ρ104 40 (.tmp 30) = s1.v := (eρ104 30).trans h97
       have h106 : opd ρ104 40 (.tmp 31) = .int .i64 (a0.Requests.length : Int) := (eρ104 31).trans h98
       have h107 : opd ρ104 40 (.tmp 32) = .int .i64 (i40 : Int) := (eρ104 32).trans h99
       have h108 : opd ρ104 40 (.tmp 38) = .bool (!x100) := eρ104 38
       clear eρ104
       by_cases hc109 : x100 = true
       ·skip
        rw [if_pos hc109] at hF
        have hbhc109 : (!x100) = false := (by rw [hc109]; rfl)
        refine wcF (h108.trans (congrArg Value.bool hbhc109)) ?_
        refine wp_skip ?_
        refine inN ?_
        refine wthen ?_
        refine wreg ?_
        refine lv (v := .int .i64 ((i40 + 1 : Nat) : Int)) rfl (r_addn rfl h107 rfl hlt40) rfl ?_
        refine lv (v := .int .i64 ((i40 + 1 : Nat) : Int)) rfl (r_mv rfl rfl) rfl ?_
        refine wend ?_
        obtain rfl := Option.some.inj hF
        exact ⟨k40, (), _, rfl, rfl, ⟨H101, (hleH75.trans hleH101), h105, h106, rfl, (hI.keep [false])⟩, forK_inl hy40 hb40⟩
       ·skip
        rw [if_neg hc109] at hF
        have hbhc109 : (!x100) = true := (by rw [(Bool.eq_false_iff.2 hc109)]; rfl)
        refine wcT (h108.trans (congrArg Value.bool hbhc109)) ?_
        refine wseq ?_
        refine wreg ?_
        refine lv (v := .bool false) rfl (r_as rfl rfl) rfl ?_
        refine wend ?_
        refine wthen ?_
        refine wren (fun ρ110 eρ110 => ?_)
        have h111 : opd ρ110 40 (.tmp 2) = .bool false := eρ110 2
        clear eρ110
        refine wp_ret ?_
        refine inR ?_
        refine thR ?_
        refine thR ?_
        obtain ⟨q112, hFn, hzq112⟩ := Option.map_eq_some_iff.1 hF
        clear hF
        obtain rfl := forK_inr hy40 (hb40.trans (congrArg some hzq112.symm))
        have hF0 := hF40
        try dsimp only at hF0
        have hF := hFn.trans hF0
        clear hFn hF0
        refine inR ?_
        refine thR ?_
        obtain rfl := Option.some.inj hF
        subst hB
        refine finR (rs := [.tmp 2]) (vs := [.bool false]) rfl ⟨h111, trivial⟩ ?_
        exact hI.fin 0 ⟨rfl, rfl⟩
      ·skip
       have hbhc81 : (decide ((i40 : Int) < (a0.Requests.length : Int))) = false := decide_eq_false hc81
       obtain rfl : k40 = 0 := by omega
       obtain rfl := forK_end hy40
       have hF := hF40
       try dsimp only at hF
       refine wcF ((show opd _ _ _ = _ from rfl).trans (congrArg Value.bool hbhc81)) ?_
       refine wp_exit ?_
       refine thE ?_
       refine thE ?_
       refine inX ?_
       refine wthen ?_
       refine wren (fun ρ113 eρ113 => ?_)
       clear eρ113
       refine wseq ?_
       refine wreg ?_
       refine lv (v := .bool true) rfl (r_as rfl rfl) rfl ?_
       refine wend ?_
       refine wthen ?_
       refine wren (fun ρ114 eρ114 => ?_)
       have h115 : opd ρ114 40 (.tmp 2) = .bool true := eρ114 2
       clear eρ114
       refine wp_ret ?_
       obtain rfl := Option.some.inj hF
       subst hB
       refine finR (rs := [.tmp 2]) (vs := [.bool true]) rfl ⟨h115, trivial⟩ ?_
       exact hI.fin 0 ⟨rfl, rfl⟩
noncomputable def M_config_Faults (a0 : Config) : Option (Int) := some (wI (Int.tdiv (if (0 : Int) > (wI ((a0.Members.length : Int) - 1)) then 0 else (wI ((a0.Members.length : Int) - 1))) 3))
set_option maxHeartbeats 1000000 in
theorem spec_94 {w : World} {H : Hp} {a0 : Config} {s1 : Sv} {r : Int} (hF : M_config_Faults a0 = some r) (hT : Tab H) (hG : Good w H []) (hs1 : Sl (Fl.ty fl_Member) H s1 a0.Members) :
  Fine Tryd.prog 94 [.agg (flat [ckI a0.Epoch, ckL s1]).toArray] w H [] (fun H' v L' => v = .int .i64 r ∧ L' = []) := by
 unfold M_config_Faults at hF
 unfold Fine
 obtain ⟨B, hB⟩ : ∃ B : Base, B = ⟨w, H, blks []⟩ := ⟨_, rfl⟩
 have hI : Inv B w H [] := by rw [hB]; exact Inv.start hG
 refine enter (n := 9) (args := [.agg (flat [ckI a0.Epoch, ckL s1]).toArray]) Tryd.func94 rfl Tryd.ntmps94 (Nat.le_of_ble_eq_true rfl) ?_
 refine wseq ?_
 refine wreg ?_
 refine le rfl (l_box (cks := [ckI a0.Epoch, ckL s1]) hI rfl rfl rfl) rfl ?_
 rintro _ w3 ⟨g2, rfl, hI⟩
 replace hI : Inv B w3 H [.cb g2 [ckI a0.Epoch, ckL s1] 64] := hI
 refine lv (v := .int .i64 0) rfl (r_as rfl rfl) rfl ?_
 refine wend ?_
 refine wthen ?_
 refine wren (fun ρ4 eρ4 => ?_)
 have h5 : opd ρ4 9 (.tmp 1) = .pointer (some ⟨g2, 0 + 0, none⟩) := eρ4 1
 clear eρ4
 refine wseq ?_
 refine wreg ?_
 refine lv (v := .pointer (some ⟨g2, 0 + 1, none⟩)) rfl (l_fa (j := 0) (i := 0) rfl fl64_1 h5 rfl) rfl ?_
 refine lv (v := s1.v) rfl (r_cl1 (off := 1) (p := 1) (hI.good.ca 0 rfl) rfl sc62 rfl rfl rfl) rfl ?_
 refine lv (v := .int .i64 (a0.Members.length : Int)) rfl (r_lenS rfl sl62 rfl hs1) rfl ?_
 refine lv (v := .int .i64 (wI ((a0.Members.length : Int) - 1))) rfl (r_subw rfl rfl rfl) rfl ?_
 refine lv (v := .int .i64 (if (0 : Int) > (wI ((a0.Members.length : Int) - 1)) then 0 else (wI ((a0.Members.length : Int) - 1)))) rfl (r_max rfl rfl rfl rfl) rfl ?_
 refine lv (v := .int .i64 (wI (Int.tdiv (if (0 : Int) > (wI ((a0.Members.length : Int) - 1)) then 0 else (wI ((a0.Members.length : Int) - 1))) 3))) rfl (r_quo rfl rfl rfl (by decide)) rfl ?_
 refine lv (v := .int .i64 (wI (Int.tdiv (if (0 : Int) > (wI ((a0.Members.length : Int) - 1)) then 0 else (wI ((a0.Members.length : Int) - 1))) 3))) rfl (r_as rfl rfl) rfl ?_
 refine wend ?_
 refine wthen ?_
 refine wren (fun ρ6 eρ6 => ?_)
 have h7 : opd ρ6 9 (.tmp 2) = .int .i64 (wI (Int.tdiv (if (0 : Int) > (wI ((a0.Members.length : Int) - 1)) then 0 else (wI ((a0.Members.length : Int) - 1))) 3)) := eρ6 2
 clear eρ6
 refine wp_ret ?_
 obtain rfl := Option.some.inj hF
 subst hB
 refine finR (rs := [.tmp 2]) (vs := [.int .i64 (wI (Int.tdiv (if (0 : Int) > (wI ((a0.Members.length : Int) - 1)) then 0 else (wI ((a0.Members.length : Int) - 1))) 3))]) rfl ⟨h7, trivial⟩ ?_
 exact hI.fin 0 ⟨rfl, rfl⟩
noncomputable def M_config_Quorum (a0 : Config) : Option (Int) := ((M_config_Faults a0).bind fun x7 => some (wI ((wI (Int.tdiv (wI ((a0.Members.length : Int) + x7)) 2)) + 1)))
set_option maxHeartbeats 1000000 in
theorem spec_88 {w : World} {H : Hp} {a0 : Config} {s1 : Sv} {r : Int} (hF : M_config_Quorum a0 = some r) (hT : Tab H) (hG : Good w H []) (hs1 : Sl (Fl.ty fl_Member) H s1 a0.Members) :
  Fine Tryd.prog 88 [.agg (flat [ckI a0.Epoch, ckL s1]).toArray] w H [] (fun H' v L' => v = .int .i64 r ∧ L' = []) := by
 unfold M_config_Quorum at hF
 unfold Fine
 obtain ⟨B, hB⟩ : ∃ B : Base, B = ⟨w, H, blks []⟩ := ⟨_, rfl⟩
 have hI : Inv B w H [] := by rw [hB]; exact Inv.start hG
 refine enter (n := 11) (args := [.agg (flat [ckI a0.Epoch, ckL s1]).toArray]) Tryd.func88 rfl Tryd.ntmps88 (Nat.le_of_ble_eq_true rfl) ?_
 refine wseq ?_
 refine wreg ?_
 refine le rfl (l_box (cks := [ckI a0.Epoch, ckL s1]) hI rfl rfl rfl) rfl ?_
 rintro _ w3 ⟨g2, rfl, hI⟩
 replace hI : Inv B w3 H [.cb g2 [ckI a0.Epoch, ckL s1] 64] := hI
 refine lv (v := .int .i64 0) rfl (r_as rfl rfl) rfl ?_
 refine wend ?_
 refine wthen ?_
 refine wren (fun ρ4 eρ4 => ?_)
 have h5 : opd ρ4 11 (.tmp 1) = .pointer (some ⟨g2, 0 + 0, none⟩) := eρ4 1
 clear eρ4
 refine wseq ?_
 refine dstG (H0 := H) (L0 := keepL [true] [.cb g2 [ckI a0.Epoch, ckL s1] 64]) [] mixed rfl (by repeat (first | exact Pan.body | refine Pan.then ?_ | refine Pan.inBlock ?_ | refine Pan.noGoto ?_ | refine Pan.pure ?_)) hI (hI.good.weakm _ (Hle.refl _) rfl) ?_
 intro w6 hI hP
 refine dp (v := .pointer (some ⟨g2, 0 + 1, none⟩)) 0 (by kernel_rfl) rfl rfl (fun _ => l_fa (j := 0) (i := 0) rfl fl64_1 h5 rfl) rfl hP ?_
 refine dr (v := s1.v) 1 (by kernel_rfl) rfl rfl (hI.good.weakm [true] (Hle.refl _) rfl) (fun _ hG => r_cl1 (off := 1) (p := 1) (hG.ca 0 rfl) rfl sc62 rfl rfl rfl) rfl hP ?_
 refine dp (v := .int .i64 (a0.Members.length : Int)) 2 (by kernel_rfl) rfl rfl (fun _ => r_lenS rfl sl62 rfl hs1) rfl hP ?_
 refine dr (v := .agg (flat [ckI a0.Epoch, ckL s1]).toArray) 3 (by kernel_rfl) rfl rfl (hI.good.weakm [true] (Hle.refl _) rfl) (fun _ hG => r_cla (off := 0) (p := 0) (m := 2) (hG.ca 0 rfl) rfl ag64 h5 rfl rfl) rfl hP ?_
 obtain ⟨x7, hx7, hF⟩ := Option.bind_eq_some_iff.1 hF
 have hsp10 := spec_94 hx7 hT (hI.part 0) hs1
 refine dfc 4 ([]) ([.cb g2 [ckI a0.Epoch, ckL s1] 64]) (args := [.agg (flat [ckI a0.Epoch, ckL s1]).toArray]) fc94 (by kernel_rfl) rfl rfl rfl rfl rfl hI (argc rfl rfl) (hsp10) ?_
 rintro _ H8 _ w9 ⟨rfl, rfl⟩ hleH8 hI
 replace hI : Inv B w9 H8 [.cb g2 _ 64] := hI
 refine ⟨(hI.good.weakm [true] hleH8 rfl), ?_⟩
 refine dp (v := .int .i64 (wI ((a0.Members.length : Int) + x7))) 5 (by kernel_rfl) rfl rfl (fun _ => r_addw rfl rfl rfl) rfl hP ?_
 refine dp (v := .int .i64 (wI (Int.tdiv (wI ((a0.Members.length : Int) + x7)) 2))) 6 (by kernel_rfl) rfl rfl (fun _ => r_quo rfl rfl rfl (by decide)) rfl hP ?_
 refine dp (v := .int .i64 (wI ((wI (Int.tdiv (wI ((a0.Members.length : Int) + x7)) 2)) + 1))) 7 (by kernel_rfl) rfl rfl (fun _ => r_addw rfl rfl rfl) rfl hP ?_
 refine dp (v := .int .i64 (wI ((wI (Int.tdiv (wI ((a0.Members.length : Int) + x7)) 2)) + 1))) 8 (by kernel_rfl) rfl rfl (fun _ => r_as rfl rfl) rfl hP ?_
 refine dend (by kernel_rfl) ?_
 refine wthen ?_
 refine wren (fun ρ11 eρ11 => ?_)
 have h12 : opd ρ11 11 (.tmp 2) = .int .i64 (wI ((wI (Int.tdiv (wI ((a0.Members.length : Int) + x7)) 2)) + 1)) := eρ11 2
 clear eρ11
 refine wp_ret ?_
 obtain rfl := Option.some.inj hF
 subst hB
 refine finR (rs := [.tmp 2]) (vs := [.int .i64 (wI ((wI (Int.tdiv (wI ((a0.Members.length : Int) + x7)) 2)) + 1))]) rfl ⟨h12, trivial⟩ ?_
 exact hI.fin 0 ⟨rfl, rfl⟩
noncomputable def M_cert_Check (a0 : Config) (a1 : Block) (a2 : Cert) : Option (Bool) := ((M_config_Good a0).bind fun x15 => (if x15 = true then ((M_block_Good a1).bind fun x20 => (if x20 = true then (if a1.Epoch ≠ a0.Epoch then some false else ((M_config_Quorum a0).bind fun x33 => (if (a2.Votes.length : Int) < x33 then some false else ((M_block_Digest a1).bind fun x45 => ((forK (fun (i72 : Nat) (σ72 : Int) => (((a2.Votes[i72]?).bind fun x346 => (if x346.From ≤ σ72 then ((some false).map Sum.inr) else (if x346.Kind ≠ 2 then ((some false).map Sum.inr) else (if x346.Height ≠ a1.Height then ((some false).map Sum.inr) else (if x346.Round ≠ a2.Round then ((some false).map Sum.inr) else (if x346.Digest = x45 then ((M_vote_Right a0 x346).bind fun x425 => (if x425 = true then some (.inl x346.From) else ((some false).map Sum.inr))) else ((some false).map Sum.inr))))))) : Option (Int ⊕ Bool))) a2.Votes.length 0 0).bind fun y => match y with | .inl σ72 => some true | .inr r => some r))))) else some false)) else some false))
set_option maxHeartbeats 4000000 in
theorem spec_46 {w : World} {H : Hp} {a0 : Config} {a1 : Block} {a2 : Cert} {s1 : Sv} {s2 : Sv} {s3 : Sv} {r : Bool} (hF : M_cert_Check a0 a1 a2 = some r) (hT : Tab H) (hG : Good w H []) (hs1 : Sl (Fl.ty fl_Member) H s1 a0.Members) (hs2 : Sl (Fl.ty fl_Request) H s2 a1.Requests) (hs3 : Sl ty_Vote H s3 a2.Votes) :
  Fine Tryd.prog 46 [.agg (flat [ckI a0.Epoch, ckL s1]).toArray, .agg (flat [ckI a1.Epoch, ckI a1.Height, ckV flB a1.Prev, ckV flB a1.State, ckV flB a1.Next, ckL s2]).toArray, .agg (flat [ckI a2.Round, ckL s3]).toArray] w H [] (fun H' v L' => v = .bool r ∧ L' = []) := by
 unfold M_cert_Check at hF
 unfold Fine
 obtain ⟨B, hB⟩ : ∃ B : Base, B = ⟨w, H, blks []⟩ := ⟨_, rfl⟩
 have hI : Inv B w H [] := by rw [hB]; exact Inv.start hG
 refine enter (n := 81) (args := [.agg (flat [ckI a0.Epoch, ckL s1]).toArray, .agg (flat [ckI a1.Epoch, ckI a1.Height, ckV flB a1.Prev, ckV flB a1.State, ckV flB a1.Next, ckL s2]).toArray, .agg (flat [ckI a2.Round, ckL s3]).toArray]) Tryd.func46 rfl Tryd.ntmps46 (Nat.le_of_ble_eq_true rfl) ?_
 refine wseq ?_
 refine wreg ?_
 refine le rfl (l_box (cks := [ckI a0.Epoch, ckL s1]) hI rfl rfl rfl) rfl ?_
 rintro _ w5 ⟨g4, rfl, hI⟩
 replace hI : Inv B w5 H [.cb g4 [ckI a0.Epoch, ckL s1] 64] := hI
 refine le rfl (l_box (cks := [ckI a1.Epoch, ckI a1.Height, ckV flB a1.Prev, ckV flB a1.State, ckV flB a1.Next, ckL s2]) hI rfl rfl rfl) rfl ?_
 rintro _ w7 ⟨g6, rfl, hI⟩
 replace hI : Inv B w7 H [.cb g4 _ 64, .cb g6 [ckI a1.Epoch, ckI a1.Height, ckV flB a1.Prev, ckV flB a1.State, ckV flB a1.Next, ckL s2] 69] := hI
 refine le rfl (l_box (cks := [ckI a2.Round, ckL s3]) hI rfl rfl rfl) rfl ?_
 rintro _ w9 ⟨g8, rfl, hI⟩
 replace hI : Inv B w9 H [.cb g4 _ 64, .cb g6 _ 69, .cb g8 [ckI a2.Round, ckL s3] 71] := hI
 refine lv (v := .bool false) rfl (r_as rfl rfl) rfl ?_
 refine wend ?_
 refine wthen ?_
 refine wren (fun ρ10 eρ10 => ?_)
 have h11 : opd ρ10 81 (.tmp 3) = .pointer (some ⟨g4, 0 + 0, none⟩) := eρ10 3
 have h12 : opd ρ10 81 (.tmp 4) = .pointer (some ⟨g6, 0 + 0, none⟩) := eρ10 4
 have h13 : opd ρ10 81 (.tmp 5) = .pointer (some ⟨g8, 0 + 0, none⟩) := eρ10 5
 clear eρ10
 refine wseq ?_
 refine wseq ?_
 refine dstG (H0 := H) (L0 := keepL [true, true, true] [.cb g4 [ckI a0.Epoch, ckL s1] 64, .cb g6 [ckI a1.Epoch, ckI a1.Height, ckV flB a1.Prev, ckV flB a1.State, ckV flB a1.Next, ckL s2] 69, .cb g8 [ckI a2.Round, ckL s3] 71]) [] mixed rfl (by repeat (first | exact Pan.body | refine Pan.then ?_ | refine Pan.inBlock ?_ | refine Pan.noGoto ?_ | refine Pan.pure ?_)) hI (hI.good.weakm _ (Hle.refl _) rfl) ?_
 intro w14 hI hP
 refine dr (v := .agg (flat [ckI a0.Epoch, ckL s1]).toArray) 0 (by kernel_rfl) rfl rfl (hI.good.weakm [true, true, true] (Hle.refl _) rfl) (fun _ hG => r_cla (off := 0) (p := 0) (m := 2) (hG.ca 0 rfl) rfl ag64 h11 rfl rfl) rfl hP ?_
 obtain ⟨x15, hx15, hF⟩ := Option.bind_eq_some_iff.1 hF
 have hsp18 := spec_65 hx15 hT (hI.part 0) hs1
 refine dfc 1 ([]) ([.cb g4 [ckI a0.Epoch, ckL s1] 64, .cb g6 [ckI a1.Epoch, ckI a1.Height, ckV flB a1.Prev, ckV flB a1.State, ckV flB a1.Next, ckL s2] 69, .cb g8 [ckI a2.Round, ckL s3] 71]) (args := [.agg (flat [ckI a0.Epoch, ckL s1]).toArray]) fc65 (by kernel_rfl) rfl rfl rfl rfl rfl hI (argc rfl rfl) (hsp18) ?_
 rintro _ H16 _ w17 ⟨rfl, rfl⟩ hleH16 hI
 replace hI : Inv B w17 H16 [.cb g4 _ 64, .cb g6 _ 69, .cb g8 _ 71] := hI
 refine ⟨(hI.good.weakm [true, true, true] hleH16 rfl), ?_⟩
 refine dp (v := .bool (!x15)) 2 (by kernel_rfl) rfl rfl (fun _ => r_not rfl rfl) rfl hP ?_
 by_cases hc19 : x15 = true
 ·skip
  rw [if_pos hc19] at hF
  have hbhc19 : (!x15) = false := (by rw [hc19]; rfl)
  refine dp (v := .bool false) 3 (by kernel_rfl) rfl rfl (fun _ => r_mv rfl ((show opd _ _ _ = _ from rfl).trans (congrArg Value.bool hbhc19))) rfl hP ?_
  refine dr (v := .agg (flat [ckI a1.Epoch, ckI a1.Height, ckV flB a1.Prev, ckV flB a1.State, ckV flB a1.Next, ckL s2]).toArray) 4 (by kernel_rfl) rfl rfl (hI.good.weakm [true, true, true] hleH16 rfl) (fun _ hG => r_cla (off := 0) (p := 0) (m := 6) (hG.ca 1 rfl) rfl ag69 h12 rfl rfl) rfl hP ?_
  obtain ⟨x20, hx20, hF⟩ := Option.bind_eq_some_iff.1 hF
  have hsp23 := spec_87 hx20 (hT.mono hleH16) (hI.part 0) (hs2.mono hleH16)
  refine dfc 5 ([]) ([.cb g4 [ckI a0.Epoch, ckL s1] 64, .cb g6 [ckI a1.Epoch, ckI a1.Height, ckV flB a1.Prev, ckV flB a1.State, ckV flB a1.Next, ckL s2] 69, .cb g8 [ckI a2.Round, ckL s3] 71]) (args := [.agg (flat [ckI a1.Epoch, ckI a1.Height, ckV flB a1.Prev, ckV flB a1.State, ckV flB a1.Next, ckL s2]).toArray]) fc87 (by kernel_rfl) rfl rfl rfl rfl rfl hI (argc rfl rfl) (hsp23) ?_
  rintro _ H21 _ w22 ⟨rfl, rfl⟩ hleH21 hI
  replace hI : Inv B w22 H21 [.cb g4 _ 64, .cb g6 _ 69, .cb g8 _ 71] := hI
  refine ⟨(hI.good.weakm [true, true, true] (hleH16.trans hleH21) rfl), ?_⟩
  refine dp (v := .bool (!x20)) 6 (by kernel_rfl) rfl rfl (fun _ => r_not rfl rfl) rfl hP ?_
  refine dp (v := .bool (!x20)) 7 (by kernel_rfl) rfl rfl (fun _ => r_pkF rfl rfl rfl) rfl hP ?_
  by_cases hc24 : x20 = true
  ·skip
   rw [if_pos hc24] at hF
   have hbhc24 : (!x20) = false := (by rw [hc24]; rfl)
   refine dp (v := .bool false) 8 (by kernel_rfl) rfl rfl (fun _ => r_mv rfl ((show opd _ _ _ = _ from rfl).trans (congrArg Value.bool hbhc24))) rfl hP ?_
   refine dp (v := .pointer (some ⟨g6, 0 + 0, none⟩)) 9 (by kernel_rfl) rfl rfl (fun _ => l_fa (j := 0) (i := 0) rfl fl69_0 h12 rfl) rfl hP ?_
   refine dp (v := .pointer (some ⟨g4, 0 + 0, none⟩)) 11 (by kernel_rfl) rfl rfl (fun _ => l_fa (j := 0) (i := 0) rfl fl64_0 h11 rfl) rfl hP ?_
   refine dr (v := .int .i64 a1.Epoch) 10 (by kernel_rfl) rfl rfl (hI.good.weakm [true, true, true] (hleH16.trans hleH21) rfl) (fun _ hG => r_cl1 (off := 0) (p := 0) (hG.ca 1 rfl) rfl sc3 rfl rfl rfl) rfl hP ?_
   refine dr (v := .int .i64 a0.Epoch) 12 (by kernel_rfl) rfl rfl (hI.good.weakm [true, true, true] (hleH16.trans hleH21) rfl) (fun _ hG => r_cl1 (off := 0) (p := 0) (hG.ca 0 rfl) rfl sc3 rfl rfl rfl) rfl hP ?_
   refine dp (v := .bool (decide (a1.Epoch ≠ a0.Epoch))) 13 (by kernel_rfl) rfl rfl (fun _ => r_neq rfl rfl rfl rfl) rfl hP ?_
   refine dp (v := .bool (decide (a1.Epoch ≠ a0.Epoch))) 14 (by kernel_rfl) rfl rfl (fun _ => r_pkF rfl rfl rfl) rfl hP ?_
   by_cases hc25 : a1.Epoch ≠ a0.Epoch
   ·skip
    rw [if_pos hc25] at hF
    have hbhc25 : (decide (a1.Epoch ≠ a0.Epoch)) = true := decide_eq_true hc25
    refine dp (v := .bool true) 15 (by kernel_rfl) rfl rfl (fun _ => r_mv rfl ((show opd _ _ _ = _ from rfl).trans (congrArg Value.bool hbhc25))) rfl hP ?_
    refine dx 16 (by kernel_rfl) rfl (by kernel_rfl) rfl hP ?_
    refine dx 17 (by kernel_rfl) rfl (by kernel_rfl) rfl hP ?_
    refine dx 18 (by kernel_rfl) rfl (by kernel_rfl) rfl hP ?_
    refine dx 19 (by kernel_rfl) rfl (by kernel_rfl) rfl hP ?_
    refine dx 20 (by kernel_rfl) rfl (by kernel_rfl) rfl hP ?_
    refine dx 21 (by kernel_rfl) rfl (by kernel_rfl) rfl hP ?_
    refine dp (v := .bool true) 22 (by kernel_rfl) rfl rfl (fun _ => r_pkT rfl rfl rfl) rfl hP ?_
    refine dend (by kernel_rfl) ?_
    refine wthen ?_
    refine wren (fun ρ26 eρ26 => ?_)
    have h27 : opd ρ26 81 (.tmp 3) = .pointer (some ⟨g4, 0 + 0, none⟩) := (eρ26 3).trans h11
    have h28 : opd ρ26 81 (.tmp 4) = .pointer (some ⟨g6, 0 + 0, none⟩) := (eρ26 4).trans h12
    have h29 : opd ρ26 81 (.tmp 5) = .pointer (some ⟨g8, 0 + 0, none⟩) := (eρ26 5).trans h13
    have h30 : opd ρ26 81 (.tmp 33) = .bool true := eρ26 33
    clear eρ26
    refine wcT h30 ?_
    refine wseq ?_
    refine wreg ?_
    refine lv (v := .bool false) rfl (r_as rfl rfl) rfl ?_
    refine wend ?_
    refine wthen ?_
    refine wren (fun ρ31 eρ31 => ?_)
    have h32 : opd ρ31 81 (.tmp 6) = .bool false := eρ31 6
    clear eρ31
    refine wp_ret ?_
    refine thR ?_
    obtain rfl := Option.some.inj hF
    subst hB
    refine finR (rs := [.tmp 6]) (vs := [.bool false]) rfl ⟨h32, trivial⟩ ?_
    exact hI.fin 0 ⟨rfl, rfl⟩
   ·skip
    rw [if_neg hc25] at hF
    have hbhc25 : (decide (a1.Epoch ≠ a0.Epoch)) = false := decide_eq_false hc25
    refine dp (v := .bool false) 15 (by kernel_rfl) rfl rfl (fun _ => r_mv rfl ((show opd _ _ _ = _ from rfl).trans (congrArg Value.bool hbhc25))) rfl hP ?_
    refine dp (v := .pointer (some ⟨g8, 0 + 1, none⟩)) 16 (by kernel_rfl) rfl rfl (fun _ => l_fa (j := 0) (i := 0) rfl fl71_1 h13 rfl) rfl hP ?_
    refine dr (v := s3.v) 17 (by kernel_rfl) rfl rfl (hI.good.weakm [true, true, true] (hleH16.trans hleH21) rfl) (fun _ hG => r_cl1 (off := 1) (p := 1) (hG.ca 2 rfl) rfl sc22 rfl rfl rfl) rfl hP ?_
    refine dp (v := .int .i64 (a2.Votes.length : Int)) 18 (by kernel_rfl) rfl rfl (fun _ => r_lenS rfl sl22 rfl ((hs3.mono hleH16).mono hleH21)) rfl hP ?_
    refine dr (v := .agg (flat [ckI a0.Epoch, ckL s1]).toArray) 19 (by kernel_rfl) rfl rfl (hI.good.weakm [true, true, true] (hleH16.trans hleH21) rfl) (fun _ hG => r_cla (off := 0) (p := 0) (m := 2) (hG.ca 0 rfl) rfl ag64 h11 rfl rfl) rfl hP ?_
    obtain ⟨x33, hx33, hF⟩ := Option.bind_eq_some_iff.1 hF
    have hsp36 := spec_88 hx33 ((hT.mono hleH16).mono hleH21) (hI.part 0) ((hs1.mono hleH16).mono hleH21)
    refine dfc 20 ([]) ([.cb g4 [ckI a0.Epoch, ckL s1] 64, .cb g6 [ckI a1.Epoch, ckI a1.Height, ckV flB a1.Prev, ckV flB a1.State, ckV flB a1.Next, ckL s2] 69, .cb g8 [ckI a2.Round, ckL s3] 71]) (args := [.agg (flat [ckI a0.Epoch, ckL s1]).toArray]) fc88 (by kernel_rfl) rfl rfl rfl rfl rfl hI (argc rfl rfl) (hsp36) ?_
    rintro _ H34 _ w35 ⟨rfl, rfl⟩ hleH34 hI
    replace hI : Inv B w35 H34 [.cb g4 _ 64, .cb g6 _ 69, .cb g8 _ 71] := hI
    refine ⟨(hI.good.weakm [true, true, true] ((hleH16.trans hleH21).trans hleH34) rfl), ?_⟩
    refine dp (v := .bool (decide ((a2.Votes.length : Int) < x33))) 21 (by kernel_rfl) rfl rfl (fun _ => r_lss rfl rfl rfl rfl) rfl hP ?_
    refine dp (v := .bool (decide ((a2.Votes.length : Int) < x33))) 22 (by kernel_rfl) rfl rfl (fun _ => r_pkF rfl rfl rfl) rfl hP ?_
    refine dend (by kernel_rfl) ?_
    refine wthen ?_
    refine wren (fun ρ37 eρ37 => ?_)
    have h38 : opd ρ37 81 (.tmp 3) = .pointer (some ⟨g4, 0 + 0, none⟩) := (eρ37 3).trans h11
    have h39 : opd ρ37 81 (.tmp 4) = .pointer (some ⟨g6, 0 + 0, none⟩) := (eρ37 4).trans h12
    have h40 : opd ρ37 81 (.tmp 5) = .pointer (some ⟨g8, 0 + 0, none⟩) := (eρ37 5).trans h13
    have h41 : opd ρ37 81 (.tmp 33) = .bool (decide ((a2.Votes.length : Int) < x33)) := eρ37 33
    clear eρ37
    by_cases hc42 : (a2.Votes.length : Int) < x33
    ·skip
     rw [if_pos hc42] at hF
     have hbhc42 : (decide ((a2.Votes.length : Int) < x33)) = true := decide_eq_true hc42
     refine wcT (h41.trans (congrArg Value.bool hbhc42)) ?_
     refine wseq ?_
     refine wreg ?_
     refine lv (v := .bool false) rfl (r_as rfl rfl) rfl ?_
     refine wend ?_
     refine wthen ?_
     refine wren (fun ρ43 eρ43 => ?_)
     have h44 : opd ρ43 81 (.tmp 6) = .bool false := eρ43 6
     clear eρ43
     refine wp_ret ?_
     refine thR ?_
     obtain rfl := Option.some.inj hF
     subst hB
     refine finR (rs := [.tmp 6]) (vs := [.bool false]) rfl ⟨h44, trivial⟩ ?_
     exact hI.fin 0 ⟨rfl, rfl⟩
    ·skip
     rw [if_neg hc42] at hF
     have hbhc42 : (decide ((a2.Votes.length : Int) < x33)) = false := decide_eq_false hc42
     refine wcF (h41.trans (congrArg Value.bool hbhc42)) ?_
     refine wp_skip ?_
     refine wthen ?_
     refine wseq ?_
     refine wreg ?_
     refine lv (v := .agg (flat [ckI a1.Epoch, ckI a1.Height, ckV flB a1.Prev, ckV flB a1.State, ckV flB a1.Next, ckL s2]).toArray) rfl (r_cla (off := 0) (p := 0) (m := 6) (hI.good.ca 1 rfl) rfl ag69 h39 rfl rfl) rfl ?_
     obtain ⟨x45, hx45, hF⟩ := Option.bind_eq_some_iff.1 hF
     have hsp48 := spec_86 hx45 (((hT.mono hleH16).mono hleH21).mono hleH34) (hI.part 0) (((hs2.mono hleH16).mono hleH21).mono hleH34)
     refine fc ([]) ([.cb g4 [ckI a0.Epoch, ckL s1] 64, .cb g6 [ckI a1.Epoch, ckI a1.Height, ckV flB a1.Prev, ckV flB a1.State, ckV flB a1.Next, ckL s2] 69, .cb g8 [ckI a2.Round, ckL s3] 71]) (args := [.agg (flat [ckI a1.Epoch, ckI a1.Height, ckV flB a1.Prev, ckV flB a1.State, ckV flB a1.Next, ckL s2]).toArray]) fc86 rfl rfl rfl hI (argc rfl rfl) (hsp48) ?_
     rintro _ H46 _ w47 ⟨rfl, rfl⟩ hleH46 hI
     replace hI : Inv B w47 H46 [.cb g4 _ 64, .cb g6 _ 69, .cb g8 _ 71] := hI
     refine le rfl (l_al hI rfl ze29) rfl ?_
     rintro _ w50 ⟨g49, rfl, hI⟩
     replace hI : Inv B w50 H46 [.cb g4 _ 64, .cb g6 _ 69, .cb g8 _ 71, .cb g49 [ckV flB (Vec.rep 32 0)] 29] := hI
     refine lst rfl (l_st (off := 0) (p := 0) (m := 1) (new := [ckV flB x45]) hI 3 rfl rfl sz29 rfl rfl rfl rfl rfl rfl) rfl ?_
     intro w51 hI
     replace hI : Inv B w51 H46 [.cb g4 _ 64, .cb g6 _ 69, .cb g8 _ 71, .cb g49 [ckV flB x45] 29] := hI
     refine wend ?_
     refine wthen ?_
     refine wren (fun ρ52 eρ52 => ?_)
     have h53 : opd ρ52 81 (.tmp 3) = .pointer (some ⟨g4, 0 + 0, none⟩) := (eρ52 3).trans h38
     have h54 : opd ρ52 81 (.tmp 4) = .pointer (some ⟨g6, 0 + 0, none⟩) := (eρ52 4).trans h39
     have h55 : opd ρ52 81 (.tmp 5) = .pointer (some ⟨g8, 0 + 0, none⟩) := (eρ52 5).trans h40
     have h56 : opd ρ52 81 (.tmp 7) = .pointer (some ⟨g49, 0 + 0, none⟩) := eρ52 7
     clear eρ52
     refine wseq ?_
     refine wreg ?_
     refine lv (v := .int .i64 0) rfl (r_as rfl rfl) rfl ?_
     refine wend ?_
     refine wthen ?_
     refine wren (fun ρ57 eρ57 => ?_)
     have h58 : opd ρ57 81 (.tmp 3) = .pointer (some ⟨g4, 0 + 0, none⟩) := (eρ57 3).trans h53
     have h59 : opd ρ57 81 (.tmp 4) = .pointer (some ⟨g6, 0 + 0, none⟩) := (eρ57 4).trans h54
     have h60 : opd ρ57 81 (.tmp 5) = .pointer (some ⟨g8, 0 + 0, none⟩) := (eρ57 5).trans h55
     have h61 : opd ρ57 81 (.tmp 7) = .pointer (some ⟨g49, 0 + 0, none⟩) := (eρ57 7).trans h56
     have h62 : opd ρ57 81 (.tmp 8) = .int .i64 0 := eρ57 8
     clear eρ57
     refine wseq ?_
     refine wseq ?_
     refine wreg ?_
     refine lv (v := .pointer (some ⟨g8, 0 + 1, none⟩)) rfl (l_fa (j := 0) (i := 0) rfl fl71_1 h60 rfl) rfl ?_
     refine lv (v := s3.v) rfl (r_cl1 (off := 1) (p := 1) (hI.good.ca 2 rfl) rfl sc22 rfl rfl rfl) rfl ?_
     refine lv (v := .int .i64 (a2.Votes.length : Int)) rfl (r_lenS rfl sl22 rfl ((((hs3.mono hleH16).mono hleH21).mono hleH34).mono hleH46)) rfl ?_
     refine lv (v := .int .i64 0) rfl (r_mv rfl rfl) rfl ?_
     refine wend ?_
     refine wthen ?_
     refine wren (fun ρ63 eρ63 => ?_)
     have h64 : opd ρ63 81 (.tmp 3) = .pointer (some ⟨g4, 0 + 0, none⟩) := (eρ63 3).trans h58
     have h65 : opd ρ63 81 (.tmp 4) = .pointer (some ⟨g6, 0 + 0, none⟩) := (eρ63 4).trans h59
     have h66 : opd ρ63 81 (.tmp 5) = .pointer (some ⟨g8, 0 + 0, none⟩) := (eρ63 5).trans h60
     have h67 : opd ρ63 81 (.tmp 7) = .pointer (some ⟨g49, 0 + 0, none⟩) := (eρ63 7).trans h61
     have h68 : opd ρ63 81 (.tmp 8) = .int .i64 0 := (eρ63 8).trans h62
     have h69 : opd ρ63 81 (.tmp 37) = s3.v := eρ63 37
     have h70 : opd ρ63 81 (.tmp 38) = .int .i64 (a2.Votes.length : Int) := eρ63 38
     have h71 : opd ρ63 81 (.tmp 39) = .int .i64 0 := eρ63 39
     clear eρ63
     refine wp_block ?_
     have hbd72 := (((((hs3.mono hleH16).mono hleH21).mono hleH34).mono hleH46)).bd
     rw [(((((hs3.mono hleH16).mono hleH21).mono hleH34).mono hleH46)).n] at hbd72
     obtain ⟨y72, hy72, hF72⟩ := Option.bind_eq_some_iff.1 hF
     refine wfor (n := 81) a2.Votes.length _ (fun (i72 : Nat) (σ72 : Int) ρ' w' => ∃ (H325 : Hp), Hle H46 H325 ∧ opd ρ' 81 (.tmp 3) = .pointer (some ⟨g4, 0 + 0, none⟩) ∧ opd ρ' 81 (.tmp 4) = .pointer (some ⟨g6, 0 + 0, none⟩) ∧ opd ρ' 81 (.tmp 5) = .pointer (some ⟨g8, 0 + 0, none⟩) ∧ opd ρ' 81 (.tmp 7) = .pointer (some ⟨g49, 0 + 0, none⟩) ∧ opd ρ' 81 (.tmp 8) = .int .i64 σ72 ∧ opd ρ' 81 (.tmp 37) = s3.v ∧ opd ρ' 81 (.tmp 38) = .int .i64 (a2.Votes.length : Int) ∧ opd ρ' 81 (.tmp 39) = .int .i64 (i72 : Int) ∧ Inv B w' H325 [.cb g4 [ckI a0.Epoch, ckL s1] 64, .cb g6 [ckI a1.Epoch, ckI a1.Height, ckV flB a1.Prev, ckV flB a1.State, ckV flB a1.Next, ckL s2] 69, .cb g8 [ckI a2.Round, ckL s3] 71, .cb g49 [ckV flB x45] 29]) hy72 ⟨H46, (Hle.refl _), h64, h65, h66, h67, h68, h69, h70, h71, hI⟩ ?_
     rintro k72 i72 σ72 ρ334 w335 hk72 ⟨H325, hleH325, h326, h327, h328, h329, h330, h331, h332, h333, hI⟩ hy72
     refine wseq ?_
     refine wreg ?_
     refine lv (v := .bool (decide ((i72 : Int) < (a2.Votes.length : Int)))) rfl (r_lss rfl h333 h332 rfl) rfl ?_
     refine wend ?_
     refine wthen ?_
     refine wseq ?_
     by_cases hc336 : (i72 : Int) < (a2.Votes.length : Int)
     ·skip
      have hbhc336 : (decide ((i72 : Int) < (a2.Votes.length : Int))) = true := decide_eq_true hc336
      obtain ⟨k72, rfl⟩ : ∃ m, k72 = m + 1 := ⟨k72 - 1, by omega⟩
      obtain ⟨z72, hb72⟩ := forK_body hy72
      have hF := hb72
      have hlt72 : ((i72 : Nat) : Int) + 1 ≤ 9223372036854775807 := by omega
      refine wcT ((show opd _ _ _ = _ from rfl).trans (congrArg Value.bool hbhc336)) ?_
      refine wp_skip ?_
      refine wthen ?_
      refine wren (fun ρ337 eρ337 => ?_)
      have h338 : opd ρ337 81 (.tmp 3) = .pointer (some ⟨g4, 0 + 0, none⟩) := (eρ337 3).trans h326
      have h339 : opd ρ337 81 (.tmp 4) = .pointer (some ⟨g6, 0 + 0, none⟩) := (eρ337 4).trans h327
      have h340 : opd ρ337 81 (.tmp 5) = .pointer (some ⟨g8, 0 + 0, none⟩) := (eρ337 5).trans h328
      have h341 : opd ρ337 81 (.tmp 7) = .pointer (some ⟨g49, 0 + 0, none⟩) := (eρ337 7).trans h329
      have h342 : opd ρ337 81 (.tmp 8) = .int .i64 σ72 := (eρ337 8).trans h330
      have h343 : opd ρ337 81 (.tmp 37) = s3.v := (eρ337 37).trans h331
      have h344 : opd ρ337 81 (.tmp 38) = .int .i64 (a2.Votes.length : Int) := (eρ337 38).trans h332
      have h345 : opd ρ337 81 (.tmp 39) = .int .i64 (i72 : Int) := (eρ337 39).trans h333
      clear eρ337
      refine wseq ?_
      refine wp_block ?_
      refine wseq ?_
      refine wreg ?_
      obtain ⟨x346, hx346, hF⟩ := Option.bind_eq_some_iff.1 hF
      obtain ⟨b347, j348, _, hix349, hil350, ⟨s352, s353, s354, rfl, hs352, hs353, hs354⟩, hA351⟩ := (((((hs3.mono hleH16).mono hleH21).mono hleH34).mono hleH46).mono hleH325).ix hx346
      replace hA351 : At H325 b347 j348 [ckI x346.Kind, ckI x346.Epoch, ckI x346.Height, ckI x346.Round, ckV flB x346.Digest, ckI x346.From, ckI x346.Sig.Leaf, ckL s352, ckL s353, ckL s354] := hA351
      refine lv (v := .pointer (some ⟨b347, j348 + 0, none⟩)) rfl (r_ixt rfl sl22 h343 h345 rfl hix349 hil350) rfl ?_
      refine lv (v := .agg (flat [ckI x346.Kind, ckI x346.Epoch, ckI x346.Height, ckI x346.Round, ckV flB x346.Digest, ckI x346.From, ckI x346.Sig.Leaf, ckL s352, ckL s353, ckL s354]).toArray) rfl (r_cla (off := 0) (p := 0) (m := 10) (hA351.ca hI.good) rfl ag35 rfl rfl rfl) rfl ?_
      refine le rfl (l_al hI rfl ze35) rfl ?_
      rintro _ w356 ⟨g355, rfl, hI⟩
      replace hI : Inv B w356 H325 [.cb g4 _ 64, .cb g6 _ 69, .cb g8 _ 71, .cb g49 _ 29, .cb g355 [ckI 0, ckI 0, ckI 0, ckI 0, ckV flB (Vec.rep 32 0), ckI 0, ckI 0, ckL Sv.nil, ckL Sv.nil, ckL Sv.nil] 35] := hI
      refine lst rfl (l_st (off := 0) (p := 0) (m := 10) (new := [ckI x346.Kind, ckI x346.Epoch, ckI x346.Height, ckI x346.Round, ckV flB x346.Digest, ckI x346.From, ckI x346.Sig.Leaf, ckL s352, ckL s353, ckL s354]) hI 4 rfl rfl sz35 rfl rfl rfl rfl rfl rfl) rfl ?_
      intro w357 hI
      replace hI : Inv B w357 H325 [.cb g4 _ 64, .cb g6 _ 69, .cb g8 _ 71, .cb g49 _ 29, .cb g355 [ckI x346.Kind, ckI x346.Epoch, ckI x346.Height, ckI x346.Round, ckV flB x346.Digest, ckI x346.From, ckI x346.Sig.Leaf, ckL s352, ckL s353, ckL s354] 35] := hI
      refine wend ?_
      refine wthen ?_
      refine wren (fun ρ358 eρ358 => ?_)
      have h359 : opd ρ358 81 (.tmp 3) = .pointer (some ⟨g4, 0 + 0, none⟩) := (eρ358 3).trans h338
      have h360 : opd ρ358 81 (.tmp 4) = .pointer (some ⟨g6, 0 + 0, none⟩) := (eρ358 4).trans h339
      have h361 : opd ρ358 81 (.tmp 5) = .pointer (some ⟨g8, 0 + 0, none⟩) := (eρ358 5).trans h340
      have h362 : opd ρ358 81 (.tmp 7) = .pointer (some ⟨g49, 0 + 0, none⟩) := (eρ358 7).trans h341
      have h363 : opd ρ358 81 (.tmp 8) = .int .i64 σ72 := (eρ358 8).trans h342
      have h364 : opd ρ358 81 (.tmp 10) = .pointer (some ⟨g355, 0 + 0, none⟩) := eρ358 10
      have h365 : opd ρ358 81 (.tmp 37) = s3.v := (eρ358 37).trans h343
      have h366 : opd ρ358 81 (.tmp 38) = .int .i64 (a2.Votes.length : Int) := (eρ358 38).trans h344
      have h367 : opd ρ358 81 (.tmp 39) = .int .i64 (i72 : Int) := (eρ358 39).trans h345
      clear eρ358
      refine wseq ?_
      refine wseq ?_
      refine wreg ?_
      refine lv (v := .pointer (some ⟨g355, 0 + 36, none⟩)) rfl (l_fa (j := 0) (i := 0) rfl fl35_5 h364 rfl) rfl ?_
      refine lv (v := .int .i64 x346.From) rfl (r_cl1 (off := 36) (p := 5) (hI.good.ca 4 rfl) rfl sc3 rfl rfl rfl) rfl ?_
      refine lv (v := .int .i64 σ72) rfl (r_mv rfl h363) rfl ?_
      refine lv (v := .bool (decide (x346.From ≤ σ72))) rfl (r_leq rfl rfl rfl rfl) rfl ?_
      by_cases hc368 : x346.From ≤ σ72
      ·skip
       rw [if_pos hc368] at hF
       have hbhc368 : (decide (x346.From ≤ σ72)) = true := decide_eq_true hc368
       refine lv (v := .bool true) rfl (r_mv rfl ((show opd _ _ _ = _ from rfl).trans (congrArg Value.bool hbhc368))) rfl ?_
       with_reducible refine lx (d := 48) (by kernel_rfl) (by kernel_rfl) ?_
       with_reducible refine lx (d := 49) (by kernel_rfl) (by kernel_rfl) ?_
       with_reducible refine lx (d := 50) (by kernel_rfl) (by kernel_rfl) ?_
       refine lv (v := .bool true) rfl (r_pkT rfl rfl rfl) rfl ?_
       refine lv (v := .bool true) rfl (r_mv rfl rfl) rfl ?_
       with_reducible refine lx (d := 53) (by kernel_rfl) (by kernel_rfl) ?_
       with_reducible refine lx (d := 54) (by kernel_rfl) (by kernel_rfl) ?_
       with_reducible refine lx (d := 55) (by kernel_rfl) (by kernel_rfl) ?_
       with_reducible refine lx (d := 56) (by kernel_rfl) (by kernel_rfl) ?_
       with_reducible refine lx (d := 57) (by kernel_rfl) (by kernel_rfl) ?_
       refine lv (v := .bool true) rfl (r_pkT rfl rfl rfl) rfl ?_
       refine lv (v := .bool true) rfl (r_mv rfl rfl) rfl ?_
       with_reducible refine lx (d := 60) (by kernel_rfl) (by kernel_rfl) ?_
       with_reducible refine lx (d := 61) (by kernel_rfl) (by kernel_rfl) ?_
       with_reducible refine lx (d := 62) (by kernel_rfl) (by kernel_rfl) ?_
       with_reducible refine lx (d := 63) (by kernel_rfl) (by kernel_rfl) ?_
       with_reducible refine lx (d := 64) (by kernel_rfl) (by kernel_rfl) ?_
       refine lv (v := .bool true) rfl (r_pkT rfl rfl rfl) rfl ?_
       refine lv (v := .bool true) rfl (r_mv rfl rfl) rfl ?_
       with_reducible refine lx (d := 67) (by kernel_rfl) (by kernel_rfl) ?_
       with_reducible refine lx (d := 68) (by kernel_rfl) (by kernel_rfl) ?_
       with_reducible refine lx (d := 69) (by kernel_rfl) (by kernel_rfl) ?_
       with_reducible refine lx (d := 70) (by kernel_rfl) (by kernel_rfl) ?_
       refine lv (v := .bool true) rfl (r_pkT rfl rfl rfl) rfl ?_
       refine lv (v := .bool true) rfl (r_mv rfl rfl) rfl ?_
       with_reducible refine lx (d := 73) (by kernel_rfl) (by kernel_rfl) ?_
       with_reducible refine lx (d := 74) (by kernel_rfl) (by kernel_rfl) ?_
       with_reducible refine lx (d := 75) (by kernel_rfl) (by kernel_rfl) ?_
       with_reducible refine lx (d := 76) (by kernel_rfl) (by kernel_rfl) ?_
       refine lv (v := .bool true) rfl (r_pkT rfl rfl rfl) rfl ?_
       refine wend ?_
       refine wthen ?_
       refine wren (fun ρ369 eρ369 => ?_)
       have h370 : opd ρ369 81 (.tmp 3) = .pointer (some ⟨g4, 0 + 0, none⟩) := (eρ369 3).trans h359
       have h371 : opd ρ369 81 (.tmp 4) = .pointer (some ⟨g6, 0 + 0, none⟩) := (eρ369 4).trans h360
       have h372 : opd ρ369 81 (.tmp 5) = .pointer (some ⟨g8, 0 + 0, none⟩) := (eρ369 5).trans h361
       have h373 : opd ρ369 81 (.tmp 7) = .pointer (some ⟨g49, 0 + 0, none⟩) := (eρ369 7).trans h362
       have h374 : opd ρ369 81 (.tmp 10) = .pointer (some ⟨g355, 0 + 0, none⟩) := (eρ369 10).trans h364
       have h375 : opd ρ369 81 (.tmp 37) = s3.v := (eρ369 37).trans h365
       have h376 : opd ρ369 81 (.tmp 38) = .int .i64 (a2.Votes.length : Int) := (eρ369 38).trans h366
       have h377 : opd ρ369 81 (.tmp 39) = .int .i64 (i72 : Int) := (eρ369 39).trans h367
       have h378 : opd ρ369 81 (.tmp 77) = .bool true := eρ369 77
       clear eρ369
       refine wcT h378 ?_
       refine wseq ?_
       refine wreg ?_
       refine lv (v := .bool false) rfl (r_as rfl rfl) rfl ?_
       refine wend ?_
       refine wthen ?_
       refine wren (fun ρ379 eρ379 => ?_)
       have h380 : opd ρ379 81 (.tmp 6) = .bool false := eρ379 6
       clear eρ379
       refine wp_ret ?_
       refine thR ?_
       refine inR ?_
       refine thR ?_
       refine thR ?_
       obtain ⟨q381, hFn, hzq381⟩ := Option.map_eq_some_iff.1 hF
       clear hF
       obtain rfl := forK_inr hy72 (hb72.trans (congrArg some hzq381.symm))
       have hF0 := hF72
       try dsimp only at hF0
       have hF := hFn.trans hF0
       clear hFn hF0
       refine inR ?_
       refine thR ?_
       obtain rfl := Option.some.inj hF
       subst hB
       refine finR (rs := [.tmp 6]) (vs := [.bool false]) rfl ⟨h380, trivial⟩ ?_
       exact hI.fin 0 ⟨rfl, rfl⟩
      ·skip
       rw [if_neg hc368] at hF
       have hbhc368 : (decide (x346.From ≤ σ72)) = false := decide_eq_false hc368
       refine lv (v := .bool false) rfl (r_mv rfl ((show opd _ _ _ = _ from rfl).trans (congrArg Value.bool hbhc368))) rfl ?_
       refine lv (v := .pointer (some ⟨g355, 0 + 0, none⟩)) rfl (l_fa (j := 0) (i := 0) rfl fl35_0 h364 rfl) rfl ?_
       refine lv (v := .int .i64 x346.Kind) rfl (r_cl1 (off := 0) (p := 0) (hI.good.ca 4 rfl) rfl sc3 rfl rfl rfl) rfl ?_
       refine lv (v := .bool (decide (x346.Kind ≠ 2))) rfl (r_neq rfl rfl rfl rfl) rfl ?_
       refine lv (v := .bool (decide (x346.Kind ≠ 2))) rfl (r_pkF rfl rfl rfl) rfl ?_
       by_cases hc382 : x346.Kind ≠ 2
       ·skip
        rw [if_pos hc382] at hF
        have hbhc382 : (decide (x346.Kind ≠ 2)) = true := decide_eq_true hc382
        refine lv (v := .bool true) rfl (r_mv rfl ((show opd _ _ _ = _ from rfl).trans (congrArg Value.bool hbhc382))) rfl ?_
        with_reducible refine lx (d := 53) (by kernel_rfl) (by kernel_rfl) ?_
        with_reducible refine lx (d := 54) (by kernel_rfl) (by kernel_rfl) ?_
        with_reducible refine lx (d := 55) (by kernel_rfl) (by kernel_rfl) ?_
        with_reducible refine lx (d := 56) (by kernel_rfl) (by kernel_rfl) ?_
        with_reducible refine lx (d := 57) (by kernel_rfl) (by kernel_rfl) ?_
        refine lv (v := .bool true) rfl (r_pkT rfl rfl rfl) rfl ?_
        refine lv (v := .bool true) rfl (r_mv rfl rfl) rfl ?_
        with_reducible refine lx (d := 60) (by kernel_rfl) (by kernel_rfl) ?_
        with_reducible refine lx (d := 61) (by kernel_rfl) (by kernel_rfl) ?_
        with_reducible refine lx (d := 62) (by kernel_rfl) (by kernel_rfl) ?_
        with_reducible refine lx (d := 63) (by kernel_rfl) (by kernel_rfl) ?_
        with_reducible refine lx (d := 64) (by kernel_rfl) (by kernel_rfl) ?_
        refine lv (v := .bool true) rfl (r_pkT rfl rfl rfl) rfl ?_
        refine lv (v := .bool true) rfl (r_mv rfl rfl) rfl ?_
        with_reducible refine lx (d := 67) (by kernel_rfl) (by kernel_rfl) ?_
        with_reducible refine lx (d := 68) (by kernel_rfl) (by kernel_rfl) ?_
        with_reducible refine lx (d := 69) (by kernel_rfl) (by kernel_rfl) ?_
        with_reducible refine lx (d := 70) (by kernel_rfl) (by kernel_rfl) ?_
        refine lv (v := .bool true) rfl (r_pkT rfl rfl rfl) rfl ?_
        refine lv (v := .bool true) rfl (r_mv rfl rfl) rfl ?_
        with_reducible refine lx (d := 73) (by kernel_rfl) (by kernel_rfl) ?_
        with_reducible refine lx (d := 74) (by kernel_rfl) (by kernel_rfl) ?_
        with_reducible refine lx (d := 75) (by kernel_rfl) (by kernel_rfl) ?_
        with_reducible refine lx (d := 76) (by kernel_rfl) (by kernel_rfl) ?_
        refine lv (v := .bool true) rfl (r_pkT rfl rfl rfl) rfl ?_
        refine wend ?_
        refine wthen ?_
        refine wren (fun ρ383 eρ383 => ?_)
        have h384 : opd ρ383 81 (.tmp 3) = .pointer (some ⟨g4, 0 + 0, none⟩) := (eρ383 3).trans h359
        have h385 : opd ρ383 81 (.tmp 4) = .pointer (some ⟨g6, 0 + 0, none⟩) := (eρ383 4).trans h360
        have h386 : opd ρ383 81 (.tmp 5) = .pointer (some ⟨g8, 0 + 0, none⟩) := (eρ383 5).trans h361
        have h387 : opd ρ383 81 (.tmp 7) = .pointer (some ⟨g49, 0 + 0, none⟩) := (eρ383 7).trans h362
        have h388 : opd ρ383 81 (.tmp 10) = .pointer (some ⟨g355, 0 + 0, none⟩) := (eρ383 10).trans h364
        have h389 : opd ρ383 81 (.tmp 37) = s3.v := (eρ383 37).trans h365
        have h390 : opd ρ383 81 (.tmp 38) = .int .i64 (a2.Votes.length : Int) := (eρ383 38).trans h366
        have h391 : opd ρ383 81 (.tmp 39) = .int .i64 (i72 : Int) := (eρ383 39).trans h367
        have h392 : opd ρ383 81 (.tmp 77) = .bool true := eρ383 77
        clear eρ383
        refine wcT h392 ?_
        refine wseq ?_
        refine wreg ?_
        refine lv (v := .bool false) rfl (r_as rfl rfl) rfl ?_
        refine wend ?_
        refine wthen ?_
        refine wren (fun ρ393 eρ393 => ?_)
        have h394 : opd ρ393 81 (.tmp 6) = .bool false := eρ393 6
        clear eρ393
        refine wp_ret ?_
        refine thR ?_
        refine inR ?_
        refine thR ?_
        refine thR ?_
        obtain ⟨q395, hFn, hzq395⟩ := Option.map_eq_some_iff.1 hF
        clear hF
        obtain rfl := forK_inr hy72 (hb72.trans (congrArg some hzq395.symm))
        have hF0 := hF72
        try dsimp only at hF0
        have hF := hFn.trans hF0
        clear hFn hF0
        refine inR ?_
        refine thR ?_
        obtain rfl := Option.some.inj hF
        subst hB
        refine finR (rs := [.tmp 6]) (vs := [.bool false]) rfl ⟨h394, trivial⟩ ?_
        exact hI.fin 0 ⟨rfl, rfl⟩
       ·skip
        rw [if_neg hc382] at hF
        have hbhc382 : (decide (x346.Kind ≠ 2)) = false := decide_eq_false hc382
        refine lv (v := .bool false) rfl (r_mv rfl ((show opd _ _ _ = _ from rfl).trans (congrArg Value.bool hbhc382))) rfl ?_
        refine lv (v := .pointer (some ⟨g355, 0 + 2, none⟩)) rfl (l_fa (j := 0) (i := 0) rfl fl35_2 h364 rfl) rfl ?_
        refine lv (v := .int .i64 x346.Height) rfl (r_cl1 (off := 2) (p := 2) (hI.good.ca 4 rfl) rfl sc3 rfl rfl rfl) rfl ?_
        refine lv (v := .pointer (some ⟨g6, 0 + 1, none⟩)) rfl (l_fa (j := 0) (i := 0) rfl fl69_1 h360 rfl) rfl ?_
        refine lv (v := .int .i64 a1.Height) rfl (r_cl1 (off := 1) (p := 1) (hI.good.ca 1 rfl) rfl sc3 rfl rfl rfl) rfl ?_
        refine lv (v := .bool (decide (x346.Height ≠ a1.Height))) rfl (r_neq rfl rfl rfl rfl) rfl ?_
        refine lv (v := .bool (decide (x346.Height ≠ a1.Height))) rfl (r_pkF rfl rfl rfl) rfl ?_
        by_cases hc396 : x346.Height ≠ a1.Height
        ·skip
         rw [if_pos hc396] at hF
         have hbhc396 : (decide (x346.Height ≠ a1.Height)) = true := decide_eq_true hc396
         refine lv (v := .bool true) rfl (r_mv rfl ((show opd _ _ _ = _ from rfl).trans (congrArg Value.bool hbhc396))) rfl ?_
         with_reducible refine lx (d := 60) (by kernel_rfl) (by kernel_rfl) ?_
         with_reducible refine lx (d := 61) (by kernel_rfl) (by kernel_rfl) ?_
         with_reducible refine lx (d := 62) (by kernel_rfl) (by kernel_rfl) ?_
         with_reducible refine lx (d := 63) (by kernel_rfl) (by kernel_rfl) ?_
         with_reducible refine lx (d := 64) (by kernel_rfl) (by kernel_rfl) ?_
         refine lv (v := .bool true) rfl (r_pkT rfl rfl rfl) rfl ?_
         refine lv (v := .bool true) rfl (r_mv rfl rfl) rfl ?_
         with_reducible refine lx (d := 67) (by kernel_rfl) (by kernel_rfl) ?_
         with_reducible refine lx (d := 68) (by kernel_rfl) (by kernel_rfl) ?_
         with_reducible refine lx (d := 69) (by kernel_rfl) (by kernel_rfl) ?_
         with_reducible refine lx (d := 70) (by kernel_rfl) (by kernel_rfl) ?_
         refine lv (v := .bool true) rfl (r_pkT rfl rfl rfl) rfl ?_
         refine lv (v := .bool true) rfl (r_mv rfl rfl) rfl ?_
         with_reducible refine lx (d := 73) (by kernel_rfl) (by kernel_rfl) ?_
         with_reducible refine lx (d := 74) (by kernel_rfl) (by kernel_rfl) ?_
         with_reducible refine lx (d := 75) (by kernel_rfl) (by kernel_rfl) ?_
         with_reducible refine lx (d := 76) (by kernel_rfl) (by kernel_rfl) ?_
         refine lv (v := .bool true) rfl (r_pkT rfl rfl rfl) rfl ?_
         refine wend ?_
         refine wthen ?_
         refine wren (fun ρ397 eρ397 => ?_)
         have h398 : opd ρ397 81 (.tmp 3) = .pointer (some ⟨g4, 0 + 0, none⟩) := (eρ397 3).trans h359
         have h399 : opd ρ397 81 (.tmp 4) = .pointer (some ⟨g6, 0 + 0, none⟩) := (eρ397 4).trans h360
         have h400 : opd ρ397 81 (.tmp 5) = .pointer (some ⟨g8, 0 + 0, none⟩) := (eρ397 5).trans h361
         have h401 : opd ρ397 81 (.tmp 7) = .pointer (some ⟨g49, 0 + 0, none⟩) := (eρ397 7).trans h362
         have h402 : opd ρ397 81 (.tmp 10) = .pointer (some ⟨g355, 0 + 0, none⟩) := (eρ397 10).trans h364
         have h403 : opd ρ397 81 (.tmp 37) = s3.v := (eρ397 37).trans h365
         have h404 : opd ρ397 81 (.tmp 38) = .int .i64 (a2.Votes.length : Int) := (eρ397 38).trans h366
         have h405 : opd ρ397 81 (.tmp 39) = .int .i64 (i72 : Int) := (eρ397 39).trans h367
         have h406 : opd ρ397 81 (.tmp 77) = .bool true := eρ397 77
         clear eρ397
         refine wcT h406 ?_
         refine wseq ?_
         refine wreg ?_
         refine lv (v := .bool false) rfl (r_as rfl rfl) rfl ?_
         refine wend ?_
         refine wthen ?_
         refine wren (fun ρ407 eρ407 => ?_)
         have h408 : opd ρ407 81 (.tmp 6) = .bool false := eρ407 6
         clear eρ407
         refine wp_ret ?_
         refine thR ?_
         refine inR ?_
         refine thR ?_
         refine thR ?_
         obtain ⟨q409, hFn, hzq409⟩ := Option.map_eq_some_iff.1 hF
         clear hF
         obtain rfl := forK_inr hy72 (hb72.trans (congrArg some hzq409.symm))
         have hF0 := hF72
         try dsimp only at hF0
         have hF := hFn.trans hF0
         clear hFn hF0
         refine inR ?_
         refine thR ?_
         obtain rfl := Option.some.inj hF
         subst hB
         refine finR (rs := [.tmp 6]) (vs := [.bool false]) rfl ⟨h408, trivial⟩ ?_
         exact hI.fin 0 ⟨rfl, rfl⟩
        ·skip
         rw [if_neg hc396] at hF
         have hbhc396 : (decide (x346.Height ≠ a1.Height)) = false := decide_eq_false hc396
         refine lv (v := .bool false) rfl (r_mv rfl ((show opd _ _ _ = _ from rfl).trans (congrArg Value.bool hbhc396))) rfl ?_
         refine lv (v := .pointer (some ⟨g355, 0 + 3, none⟩)) rfl (l_fa (j := 0) (i := 0) rfl fl35_3 h364 rfl) rfl ?_
         refine lv (v := .int .i64 x346.Round) rfl (r_cl1 (off := 3) (p := 3) (hI.good.ca 4 rfl) rfl sc3 rfl rfl rfl) rfl ?_
         refine lv (v := .pointer (some ⟨g8, 0 + 0, none⟩)) rfl (l_fa (j := 0) (i := 0) rfl fl71_0 h361 rfl) rfl ?_
         refine lv (v := .int .i64 a2.Round) rfl (r_cl1 (off := 0) (p := 0) (hI.good.ca 2 rfl) rfl sc3 rfl rfl rfl) rfl ?_
         refine lv (v := .bool (decide (x346.Round ≠ a2.Round))) rfl (r_neq rfl rfl rfl rfl) rfl ?_
         refine lv (v := .bool (decide (x346.Round ≠ a2.Round))) rfl (r_pkF rfl rfl rfl) rfl ?_
         by_cases hc410 : x346.Round ≠ a2.Round
         ·skip
          rw [if_pos hc410] at hF
          have hbhc410 : (decide (x346.Round ≠ a2.Round)) = true := decide_eq_true hc410
          refine lv (v := .bool true) rfl (r_mv rfl ((show opd _ _ _ = _ from rfl).trans (congrArg Value.bool hbhc410))) rfl ?_
          with_reducible refine lx (d := 67) (by kernel_rfl) (by kernel_rfl) ?_
          with_reducible refine lx (d := 68) (by kernel_rfl) (by kernel_rfl) ?_
          with_reducible refine lx (d := 69) (by kernel_rfl) (by kernel_rfl) ?_
          with_reducible refine lx (d := 70) (by kernel_rfl) (by kernel_rfl) ?_
          refine lv (v := .bool true) rfl (r_pkT rfl rfl rfl) rfl ?_
          refine lv (v := .bool true) rfl (r_mv rfl rfl) rfl ?_
          with_reducible refine lx (d := 73) (by kernel_rfl) (by kernel_rfl) ?_
          with_reducible refine lx (d := 74) (by kernel_rfl) (by kernel_rfl) ?_
          with_reducible refine lx (d := 75) (by kernel_rfl) (by kernel_rfl) ?_
          with_reducible refine lx (d := 76) (by kernel_rfl) (by kernel_rfl) ?_
          refine lv (v := .bool true) rfl (r_pkT rfl rfl rfl) rfl ?_
          refine wend ?_
          refine wthen ?_
          refine wren (fun ρ411 eρ411 => ?_)
          have h412 : opd ρ411 81 (.tmp 3) = .pointer (some ⟨g4, 0 + 0, none⟩) := (eρ411 3).trans h359
          have h413 : opd ρ411 81 (.tmp 4) = .pointer (some ⟨g6, 0 + 0, none⟩) := (eρ411 4).trans h360
          have h414 : opd ρ411 81 (.tmp 5) = .pointer (some ⟨g8, 0 + 0, none⟩) := (eρ411 5).trans h361
          have h415 : opd ρ411 81 (.tmp 7) = .pointer (some ⟨g49, 0 + 0, none⟩) := (eρ411 7).trans h362
          have h416 : opd ρ411 81 (.tmp 10) = .pointer (some ⟨g355, 0 + 0, none⟩) := (eρ411 10).trans h364
          have h417 : opd ρ411 81 (.tmp 37) = s3.v := (eρ411 37).trans h365
          have h418 : opd ρ411 81 (.tmp 38) = .int .i64 (a2.Votes.length : Int) := (eρ411 38).trans h366
          have h419 : opd ρ411 81 (.tmp 39) = .int .i64 (i72 : Int) := (eρ411 39).trans h367
          have h420 : opd ρ411 81 (.tmp 77) = .bool true := eρ411 77
          clear eρ411
          refine wcT h420 ?_
          refine wseq ?_
          refine wreg ?_
          refine lv (v := .bool false) rfl (r_as rfl rfl) rfl ?_
          refine wend ?_
          refine wthen ?_
          refine wren (fun ρ421 eρ421 => ?_)
          have h422 : opd ρ421 81 (.tmp 6) = .bool false := eρ421 6
          clear eρ421
          refine wp_ret ?_
          refine thR ?_
          refine inR ?_
          refine thR ?_
          refine thR ?_
          obtain ⟨q423, hFn, hzq423⟩ := Option.map_eq_some_iff.1 hF
          clear hF
          obtain rfl := forK_inr hy72 (hb72.trans (congrArg some hzq423.symm))
          have hF0 := hF72
          try dsimp only at hF0
          have hF := hFn.trans hF0
          clear hFn hF0
          refine inR ?_
          refine thR ?_
          obtain rfl := Option.some.inj hF
          subst hB
          refine finR (rs := [.tmp 6]) (vs := [.bool false]) rfl ⟨h422, trivial⟩ ?_
          exact hI.fin 0 ⟨rfl, rfl⟩
         ·skip
          rw [if_neg hc410] at hF
          have hbhc410 : (decide (x346.Round ≠ a2.Round)) = false := decide_eq_false hc410
          refine lv (v := .bool false) rfl (r_mv rfl ((show opd _ _ _ = _ from rfl).trans (congrArg Value.bool hbhc410))) rfl ?_
          refine lv (v := .pointer (some ⟨g355, 0 + 4, none⟩)) rfl (l_fa (j := 0) (i := 0) rfl fl35_4 h364 rfl) rfl ?_
          refine lv (v := .agg (flat [ckV flB x346.Digest]).toArray) rfl (r_cla (off := 4) (p := 4) (m := 1) (hI.good.ca 4 rfl) rfl ag29 rfl rfl rfl) rfl ?_
          refine lv (v := .agg (flat [ckV flB x45]).toArray) rfl (r_cla (off := 0) (p := 0) (m := 1) (hI.good.ca 3 rfl) rfl ag29 h362 rfl rfl) rfl ?_
          refine lv (v := .bool (!decide (x346.Digest = x45))) rfl (r_neb rfl ba29 rfl rfl) rfl ?_
          refine lv (v := .bool (!decide (x346.Digest = x45))) rfl (r_pkF rfl rfl rfl) rfl ?_
          by_cases hc424 : x346.Digest = x45
          ·skip
           rw [if_pos hc424] at hF
           have hbhc424 : (!decide (x346.Digest = x45)) = false := (by rw [decide_eq_true hc424]; rfl)
           refine lv (v := .bool false) rfl (r_mv rfl ((show opd _ _ _ = _ from rfl).trans (congrArg Value.bool hbhc424))) rfl ?_
           refine lv (v := .agg (flat [ckI a0.Epoch, ckL s1]).toArray) rfl (r_cla (off := 0) (p := 0) (m := 2) (hI.good.ca 0 rfl) rfl ag64 h359 rfl rfl) rfl ?_
           refine lv (v := .agg (flat [ckI x346.Kind, ckI x346.Epoch, ckI x346.Height, ckI x346.Round, ckV flB x346.Digest, ckI x346.From, ckI x346.Sig.Leaf, ckL s352, ckL s353, ckL s354]).toArray) rfl (r_cla (off := 0) (p := 0) (m := 10) (hI.good.ca 4 rfl) rfl ag35 h364 rfl rfl) rfl ?_
           obtain ⟨x425, hx425, hF⟩ := Option.bind_eq_some_iff.1 hF
           have hsp428 := spec_55 hx425 (((((hT.mono hleH16).mono hleH21).mono hleH34).mono hleH46).mono hleH325) (hI.part 0) (((((hs1.mono hleH16).mono hleH21).mono hleH34).mono hleH46).mono hleH325) hs352 hs353 hs354
           refine fc ([]) ([.cb g4 [ckI a0.Epoch, ckL s1] 64, .cb g6 [ckI a1.Epoch, ckI a1.Height, ckV flB a1.Prev, ckV flB a1.State, ckV flB a1.Next, ckL s2] 69, .cb g8 [ckI a2.Round, ckL s3] 71, .cb g49 [ckV flB x45] 29, .cb g355 [ckI x346.Kind, ckI x346.Epoch, ckI x346.Height, ckI x346.Round, ckV flB x346.Digest, ckI x346.From, ckI x346.Sig.Leaf, ckL s352, ckL s353, ckL s354] 35]) (args := [.agg (flat [ckI a0.Epoch, ckL s1]).toArray, .agg (flat [ckI x346.Kind, ckI x346.Epoch, ckI x346.Height, ckI x346.Round, ckV flB x346.Digest, ckI x346.From, ckI x346.Sig.Leaf, ckL s352, ckL s353, ckL s354]).toArray]) fc55 rfl rfl rfl hI (argc rfl (argc rfl rfl)) (hsp428) ?_
           rintro _ H426 _ w427 ⟨rfl, rfl⟩ hleH426 hI
           replace hI : Inv B w427 H426 [.cb g4 _ 64, .cb g6 _ 69, .cb g8 _ 71, .cb g49 _ 29, .cb g355 _ 35] := hI
           refine lv (v := .bool (!x425)) rfl (r_not rfl rfl) rfl ?_
           refine lv (v := .bool (!x425)) rfl (r_pkF rfl rfl rfl) rfl ?_
           refine wend ?_
           refine wthen ?_
           refine wren (fun ρ429 eρ429 => ?_)
           have h430 : opd ρ429 81 (.tmp 3) = .pointer (some ⟨g4, 0 + 0, none⟩) := (eρ429 3).trans h359
           have h431 : opd ρ429 81 (.tmp 4) = .pointer (some ⟨g6, 0 + 0, none⟩) := (eρ429 4).trans h360
           have h432 : opd ρ429 81 (.tmp 5) = .pointer (some ⟨g8, 0 + 0, none⟩) := (eρ429 5).trans h361
           have h433 : opd ρ429 81 (.tmp 7) = .pointer (some ⟨g49, 0 + 0, none⟩) := (eρ429 7).trans h362
           have h434 : opd ρ429 81 (.tmp 10) = .pointer (some ⟨g355, 0 + 0, none⟩) := (eρ429 10).trans h364
           have h435 : opd ρ429 81 (.tmp 37) = s3.v := (eρ429 37).trans h365
           have h436 : opd ρ429 81 (.tmp 38) = .int .i64 (a2.Votes.length : Int) := (eρ429 38).trans h366
           have h437 : opd ρ429 81 (.tmp 39) = .int .i64 (i72 : Int) := (eρ429 39).trans h367
           have h438 : opd ρ429 81 (.tmp 77) = .bool (!x425) := eρ429 77
           clear eρ429
           by_cases hc439 : x425 = true
           ·skip
            rw [if_pos hc439] at hF
            have hbhc439 : (!x425) = false := (by rw [hc439]; rfl)
            refine wcF (h438.trans (congrArg Value.bool hbhc439)) ?_
            refine wp_skip ?_
            refine wthen ?_
            refine wreg ?_
            refine lv (v := .pointer (some ⟨g355, 0 + 36, none⟩)) rfl (l_fa (j := 0) (i := 0) rfl fl35_5 h434 rfl) rfl ?_
            refine lv (v := .int .i64 x346.From) rfl (r_cl1 (off := 36) (p := 5) (hI.good.ca 4 rfl) rfl sc3 rfl rfl rfl) rfl ?_
            refine lv (v := .int .i64 x346.From) rfl (r_as rfl rfl) rfl ?_
            refine wend ?_
            refine inN ?_
            refine wthen ?_
            refine wren (fun ρ440 eρ440 => ?_)
            have h441 : opd ρ440 81 (.tmp 3) = .pointer (some ⟨g4, 0 + 0, none⟩) := (eρ440 3).trans h430
            have h442 : opd ρ440 81 (.tmp 4) = .pointer (some ⟨g6, 0 + 0, none⟩) := (eρ440 4).trans h431
            have h443 : opd ρ440 81 (.tmp 5) = .pointer (some ⟨g8, 0 + 0, none⟩) := (eρ440 5).trans h432
            have h444 : opd ρ440 81 (.tmp 7) = .pointer (some ⟨g49, 0 + 0, none⟩) := (eρ440 7).trans h433
            have h445 : opd ρ440 81 (.tmp 8) = .int .i64 x346.From := eρ440 8
            have h446 : opd ρ440 81 (.tmp 37) = s3.v := (eρ440 37).trans h435
            have h447 : opd ρ440 81 (.tmp 38) = .int .i64 (a2.Votes.length : Int) := (eρ440 38).trans h436
            have h448 : opd ρ440 81 (.tmp 39) = .int .i64 (i72 : Int) := (eρ440 39).trans h437
            clear eρ440
            refine wreg ?_
            refine lv (v := .int .i64 ((i72 + 1 : Nat) : Int)) rfl (r_addn rfl h448 rfl hlt72) rfl ?_
            refine lv (v := .int .i64 ((i72 + 1 : Nat) : Int)) rfl (r_mv rfl rfl) rfl ?_
            refine wend ?_
            obtain rfl := Option.some.inj hF
            exact ⟨k72, x346.From, _, rfl, rfl, ⟨H426, (hleH325.trans hleH426), h441, h442, h443, h444, h445, h446, h447, rfl, (hI.keep [true, true, true, true, false])⟩, forK_inl hy72 hb72⟩
           ·skip
            rw [if_neg hc439] at hF
            have hbhc439 : (!x425) = true := (by rw [(Bool.eq_false_iff.2 hc439)]; rfl)
            refine wcT (h438.trans (congrArg Value.bool hbhc439)) ?_
            refine wseq ?_
            refine wreg ?_
            refine lv (v := .bool false) rfl (r_as rfl rfl) rfl ?_
            refine wend ?_
            refine wthen ?_
            refine wren (fun ρ449 eρ449 => ?_)
            have h450 : opd ρ449 81 (.tmp 6) = .bool false := eρ449 6
            clear eρ449
            refine wp_ret ?_
            refine thR ?_
            refine inR ?_
            refine thR ?_
            refine thR ?_
            obtain ⟨q451, hFn, hzq451⟩ := Option.map_eq_some_iff.1 hF
            clear hF
            obtain rfl := forK_inr hy72 (hb72.trans (congrArg some hzq451.symm))
            have hF0 := hF72
            try dsimp only at hF0
            have hF := hFn.trans hF0
            clear hFn hF0
            refine inR ?_
            refine thR ?_
            obtain rfl := Option.some.inj hF
            subst hB
            refine finR (rs := [.tmp 6]) (vs := [.bool false]) rfl ⟨h450, trivial⟩ ?_
            exact hI.fin 0 ⟨rfl, rfl⟩
          ·skip
           rw [if_neg hc424] at hF
           have hbhc424 : (!decide (x346.Digest = x45)) = true := (by rw [decide_eq_false hc424]; rfl)
           refine lv (v := .bool true) rfl (r_mv rfl ((show opd _ _ _ = _ from rfl).trans (congrArg Value.bool hbhc424))) rfl ?_
           with_reducible refine lx (d := 73) (by kernel_rfl) (by kernel_rfl) ?_
           with_reducible refine lx (d := 74) (by kernel_rfl) (by kernel_rfl) ?_
           with_reducible refine lx (d := 75) (by kernel_rfl) (by kernel_rfl) ?_
           with_reducible refine lx (d := 76) (by kernel_rfl) (by kernel_rfl) ?_
           refine lv (v := .bool true) rfl (r_pkT rfl rfl rfl) rfl ?_
           refine wend ?_
           refine wthen ?_
           refine wren (fun ρ452 eρ452 => ?_)
           have h453 : opd ρ452 81 (.tmp 3) = .pointer (some ⟨g4, 0 + 0, none⟩) := (eρ452 3).trans h359
           have h454 : opd ρ452 81 (.tmp 4) = .pointer (some ⟨g6, 0 + 0, none⟩) := (eρ452 4).trans h360
           have h455 : opd ρ452 81 (.tmp 5) = .pointer (some ⟨g8, 0 + 0, none⟩) := (eρ452 5).trans h361
           have h456 : opd ρ452 81 (.tmp 7) = .pointer (some ⟨g49, 0 + 0, none⟩) := (eρ452 7).trans h362
           have h457 : opd ρ452 81 (.tmp 10) = .pointer (some ⟨g355, 0 + 0, none⟩) := (eρ452 10).trans h364
           have h458 : opd ρ452 81 (.tmp 37) = s3.v := (eρ452 37).trans h365
           have h459 : opd ρ452 81 (.tmp 38) = .int .i64 (a2.Votes.length : Int) := (eρ452 38).trans h366
           have h460 : opd ρ452 81 (.tmp 39) = .int .i64 (i72 : Int) := (eρ452 39).trans h367
           have h461 : opd ρ452 81 (.tmp 77) = .bool true := eρ452 77
           clear eρ452
           refine wcT h461 ?_
           refine wseq ?_
           refine wreg ?_
           refine lv (v := .bool false) rfl (r_as rfl rfl) rfl ?_
           refine wend ?_
           refine wthen ?_
           refine wren (fun ρ462 eρ462 => ?_)
           have h463 : opd ρ462 81 (.tmp 6) = .bool false := eρ462 6
           clear eρ462
           refine wp_ret ?_
           refine thR ?_
           refine inR ?_
           refine thR ?_
           refine thR ?_
           obtain ⟨q464, hFn, hzq464⟩ := Option.map_eq_some_iff.1 hF
           clear hF
           obtain rfl := forK_inr hy72 (hb72.trans (congrArg some hzq464.symm))
           have hF0 := hF72
           try dsimp only at hF0
           have hF := hFn.trans hF0
           clear hFn hF0
           refine inR ?_
           refine thR ?_
           obtain rfl := Option.some.inj hF
           subst hB
           refine finR (rs := [.tmp 6]) (vs := [.bool false]) rfl ⟨h463, trivial⟩ ?_
           exact hI.fin 0 ⟨rfl, rfl⟩
     ·skip
      have hbhc336 : (decide ((i72 : Int) < (a2.Votes.length : Int))) = false := decide_eq_false hc336
      obtain rfl : k72 = 0 := by omega
      obtain rfl := forK_end hy72
      have hF := hF72
      try dsimp only at hF
      refine wcF ((show opd _ _ _ = _ from rfl).trans (congrArg Value.bool hbhc336)) ?_
      refine wp_exit ?_
      refine thE ?_
      refine thE ?_
      refine inX ?_
      refine wthen ?_
      refine wren (fun ρ465 eρ465 => ?_)
      clear eρ465
      refine wseq ?_
      refine wreg ?_
      refine lv (v := .bool true) rfl (r_as rfl rfl) rfl ?_
      refine wend ?_
      refine wthen ?_
      refine wren (fun ρ466 eρ466 => ?_)
      have h467 : opd ρ466 81 (.tmp 6) = .bool true := eρ466 6
      clear eρ466
      refine wp_ret ?_
      obtain rfl := Option.some.inj hF
      subst hB
      refine finR (rs := [.tmp 6]) (vs := [.bool true]) rfl ⟨h467, trivial⟩ ?_
      exact hI.fin 0 ⟨rfl, rfl⟩
  ·skip
   rw [if_neg hc24] at hF
   have hbhc24 : (!x20) = true := (by rw [(Bool.eq_false_iff.2 hc24)]; rfl)
   refine dp (v := .bool true) 8 (by kernel_rfl) rfl rfl (fun _ => r_mv rfl ((show opd _ _ _ = _ from rfl).trans (congrArg Value.bool hbhc24))) rfl hP ?_
   refine dx 9 (by kernel_rfl) rfl (by kernel_rfl) rfl hP ?_
   refine dx 10 (by kernel_rfl) rfl (by kernel_rfl) rfl hP ?_
   refine dx 11 (by kernel_rfl) rfl (by kernel_rfl) rfl hP ?_
   refine dx 12 (by kernel_rfl) rfl (by kernel_rfl) rfl hP ?_
   refine dx 13 (by kernel_rfl) rfl (by kernel_rfl) rfl hP ?_
   refine dp (v := .bool true) 14 (by kernel_rfl) rfl rfl (fun _ => r_pkT rfl rfl rfl) rfl hP ?_
   refine dp (v := .bool true) 15 (by kernel_rfl) rfl rfl (fun _ => r_mv rfl rfl) rfl hP ?_
   refine dx 16 (by kernel_rfl) rfl (by kernel_rfl) rfl hP ?_
   refine dx 17 (by kernel_rfl) rfl (by kernel_rfl) rfl hP ?_
   refine dx 18 (by kernel_rfl) rfl (by kernel_rfl) rfl hP ?_
   refine dx 19 (by kernel_rfl) rfl (by kernel_rfl) rfl hP ?_
   refine dx 20 (by kernel_rfl) rfl (by kernel_rfl) rfl hP ?_
   refine dx 21 (by kernel_rfl) rfl (by kernel_rfl) rfl hP ?_
   refine dp (v := .bool true) 22 (by kernel_rfl) rfl rfl (fun _ => r_pkT rfl rfl rfl) rfl hP ?_
   refine dend (by kernel_rfl) ?_
   refine wthen ?_
   refine wren (fun ρ468 eρ468 => ?_)
   have h469 : opd ρ468 81 (.tmp 3) = .pointer (some ⟨g4, 0 + 0, none⟩) := (eρ468 3).trans h11
   have h470 : opd ρ468 81 (.tmp 4) = .pointer (some ⟨g6, 0 + 0, none⟩) := (eρ468 4).trans h12
   have h471 : opd ρ468 81 (.tmp 5) = .pointer (some ⟨g8, 0 + 0, none⟩) := (eρ468 5).trans h13
   have h472 : opd ρ468 81 (.tmp 33) = .bool true := eρ468 33
   clear eρ468
   refine wcT h472 ?_
   refine wseq ?_
   refine wreg ?_
   refine lv (v := .bool false) rfl (r_as rfl rfl) rfl ?_
   refine wend ?_
   refine wthen ?_
   refine wren (fun ρ473 eρ473 => ?_)
   have h474 : opd ρ473 81 (.tmp 6) = .bool false := eρ473 6
   clear eρ473
   refine wp_ret ?_
   refine thR ?_
   obtain rfl := Option.some.inj hF
   subst hB
   refine finR (rs := [.tmp 6]) (vs := [.bool false]) rfl ⟨h474, trivial⟩ ?_
   exact hI.fin 0 ⟨rfl, rfl⟩
 ·skip
  rw [if_neg hc19] at hF
  have hbhc19 : (!x15) = true := (by rw [(Bool.eq_false_iff.2 hc19)]; rfl)
  refine dp (v := .bool true) 3 (by kernel_rfl) rfl rfl (fun _ => r_mv rfl ((show opd _ _ _ = _ from rfl).trans (congrArg Value.bool hbhc19))) rfl hP ?_
  refine dx 4 (by kernel_rfl) rfl (by kernel_rfl) rfl hP ?_
  refine dx 5 (by kernel_rfl) rfl (by kernel_rfl) rfl hP ?_
  refine dx 6 (by kernel_rfl) rfl (by kernel_rfl) rfl hP ?_
  refine dp (v := .bool true) 7 (by kernel_rfl) rfl rfl (fun _ => r_pkT rfl rfl rfl) rfl hP ?_
  refine dp (v := .bool true) 8 (by kernel_rfl) rfl rfl (fun _ => r_mv rfl rfl) rfl hP ?_
  refine dx 9 (by kernel_rfl) rfl (by kernel_rfl) rfl hP ?_
  refine dx 10 (by kernel_rfl) rfl (by kernel_rfl) rfl hP ?_
  refine dx 11 (by kernel_rfl) rfl (by kernel_rfl) rfl hP ?_
  refine dx 12 (by kernel_rfl) rfl (by kernel_rfl) rfl hP ?_
  refine dx 13 (by kernel_rfl) rfl (by kernel_rfl) rfl hP ?_
  refine dp (v := .bool true) 14 (by kernel_rfl) rfl rfl (fun _ => r_pkT rfl rfl rfl) rfl hP ?_
  refine dp (v := .bool true) 15 (by kernel_rfl) rfl rfl (fun _ => r_mv rfl rfl) rfl hP ?_
  refine dx 16 (by kernel_rfl) rfl (by kernel_rfl) rfl hP ?_
  refine dx 17 (by kernel_rfl) rfl (by kernel_rfl) rfl hP ?_
  refine dx 18 (by kernel_rfl) rfl (by kernel_rfl) rfl hP ?_
  refine dx 19 (by kernel_rfl) rfl (by kernel_rfl) rfl hP ?_
  refine dx 20 (by kernel_rfl) rfl (by kernel_rfl) rfl hP ?_
  refine dx 21 (by kernel_rfl) rfl (by kernel_rfl) rfl hP ?_
  refine dp (v := .bool true) 22 (by kernel_rfl) rfl rfl (fun _ => r_pkT rfl rfl rfl) rfl hP ?_
  refine dend (by kernel_rfl) ?_
  refine wthen ?_
  refine wren (fun ρ475 eρ475 => ?_)
  have h476 : opd ρ475 81 (.tmp 3) = .pointer (some ⟨g4, 0 + 0, none⟩) := (eρ475 3).trans h11
  have h477 : opd ρ475 81 (.tmp 4) = .pointer (some ⟨g6, 0 + 0, none⟩) := (eρ475 4).trans h12
  have h478 : opd ρ475 81 (.tmp 5) = .pointer (some ⟨g8, 0 + 0, none⟩) := (eρ475 5).trans h13
  have h479 : opd ρ475 81 (.tmp 33) = .bool true := eρ475 33
  clear eρ475
  refine wcT h479 ?_
  refine wseq ?_
  refine wreg ?_
  refine lv (v := .bool false) rfl (r_as rfl rfl) rfl ?_
  refine wend ?_
  refine wthen ?_
  refine wren (fun ρ480 eρ480 => ?_)
  have h481 : opd ρ480 81 (.tmp 6) = .bool false := eρ480 6
  clear eρ480
  refine wp_ret ?_
  refine thR ?_
  obtain rfl := Option.some.inj hF
  subst hB
  refine finR (rs := [.tmp 6]) (vs := [.bool false]) rfl ⟨h481, trivial⟩ ?_
  exact hI.fin 0 ⟨rfl, rfl⟩
noncomputable def M_config_Write (a0 : Code_Writer) (a1 : Config) : Option (Code_Writer) := ((M_code_Writer_Num a0 [a1.Epoch, (a1.Members.length : Int)]).bind fun x11 => ((forK (fun (i25 : Nat) (σ25 : (List UInt8)) => (((a1.Members[i25]?).bind fun x177 => ((M_code_Writer_Num (⟨σ25⟩ : Code_Writer) [x177.Id, x177.Key.Height]).bind fun x195 => ((M_code_Writer_Digest x195 [x177.Key.Root]).bind fun x210 => some (.inl x210.b_)))) : Option ((List UInt8) ⊕ Code_Writer))) a1.Members.length 0 x11.b_).bind fun y => match y with | .inl σ25 => some (⟨σ25⟩ : Code_Writer) | .inr r => some r))
set_option maxHeartbeats 4000000 in
theorem spec_110 {w : World} {H : Hp} {a0 : Code_Writer} {a1 : Config} {gg_0_0 : Option Nat} {g_0 : Nat} {s1 : Sv} {s2 : Sv} {r : Code_Writer} (hF : M_config_Write a0 a1 = some r) (hT : Tab H) (hG : Good w H [.cb g_0 [ckL s1] 175, .own s1 5 1 gg_0_0]) (hs1 : Sl (Fl.ty flB) H s1 a0.b_) (hs2 : Sl (Fl.ty fl_Member) H s2 a1.Members) :
  Fine Tryd.prog 110 [.pointer (some ⟨g_0, 0, none⟩), .agg (flat [ckI a1.Epoch, ckL s2]).toArray] w H [.cb g_0 [ckL s1] 175, .own s1 5 1 gg_0_0] (fun H' v L' => ∃ s900 : Sv, ∃ gg901 : Option Nat, v = .tuple #[] ∧ Sl (Fl.ty flB) H' s900 r.b_ ∧ L' = [.cb g_0 [ckL s900] 175, .own s900 5 1 gg901]) := by
 unfold M_config_Write at hF
 unfold Fine
 obtain ⟨B, hB⟩ : ∃ B : Base, B = ⟨w, H, blks [.cb g_0 [ckL s1] 175, .own s1 5 1 gg_0_0]⟩ := ⟨_, rfl⟩
 have hI : Inv B w H [.cb g_0 [ckL s1] 175, .own s1 5 1 gg_0_0] := by rw [hB]; exact Inv.start hG
 refine enter (n := 36) (args := [.pointer (some ⟨g_0, 0, none⟩), .agg (flat [ckI a1.Epoch, ckL s2]).toArray]) Tryd.func110 rfl Tryd.ntmps110 (Nat.le_of_ble_eq_true rfl) ?_
 refine wseq ?_
 refine wreg ?_
 refine le rfl (l_box (cks := [ckI a1.Epoch, ckL s2]) hI rfl rfl rfl) rfl ?_
 rintro _ w4 ⟨g3, rfl, hI⟩
 replace hI : Inv B w4 H [.cb g_0 [ckL s1] 175, .own s1 5 1 gg_0_0, .cb g3 [ckI a1.Epoch, ckL s2] 64] := hI
 refine wend ?_
 refine wthen ?_
 refine wren (fun ρ5 eρ5 => ?_)
 have h6 : opd ρ5 36 (.tmp 0) = .pointer (some ⟨g_0, 0 + 0, none⟩) := eρ5 0
 have h7 : opd ρ5 36 (.tmp 3) = .pointer (some ⟨g3, 0 + 0, none⟩) := eρ5 3
 clear eρ5
 refine wseq ?_
 refine wreg ?_
 refine lv (v := .pointer (some ⟨g_0, 0 + 0, none⟩)) rfl (r_mv rfl h6) rfl ?_
 refine lv (v := .pointer (some ⟨g3, 0 + 0, none⟩)) rfl (l_fa (j := 0) (i := 0) rfl fl64_0 h7 rfl) rfl ?_
 refine lv (v := .int .i64 a1.Epoch) rfl (r_cl1 (off := 0) (p := 0) (hI.good.ca 2 rfl) rfl sc3 rfl rfl rfl) rfl ?_
 refine lv (v := .pointer (some ⟨g3, 0 + 1, none⟩)) rfl (l_fa (j := 0) (i := 0) rfl fl64_1 h7 rfl) rfl ?_
 refine lv (v := s2.v) rfl (r_cl1 (off := 1) (p := 1) (hI.good.ca 2 rfl) rfl sc62 rfl rfl rfl) rfl ?_
 refine lv (v := .int .i64 (a1.Members.length : Int)) rfl (r_lenS rfl sl62 rfl hs2) rfl ?_
 refine le rfl (l_bs (t := (Fl.ty flI)) (vs := [.int .i64 a1.Epoch, .int .i64 (a1.Members.length : Int)]) (xs := [a1.Epoch, (a1.Members.length : Int)]) hI rfl sl59 inf3 rfl rfl (argc rfl (argc rfl rfl)) (.cons rfl rfl (.cons rfl rfl .nil)) rfl) rfl ?_
 rintro _ w10 ⟨s8, H9, rfl, hI, hleH9, hs8, hfs8, hgs8⟩
 obtain ⟨x11, hx11, hF⟩ := Option.bind_eq_some_iff.1 hF
 have hsp14 := spec_124 hx11 (hT.mono hleH9) (hI.part 2) (hs1.mono hleH9) hs8
 refine fc ([.cb g_0 [ckL s1] 175, .own s1 5 1 gg_0_0]) ([.cb g3 [ckI a1.Epoch, ckL s2] 64]) (args := [.pointer (some ⟨g_0, 0 + 0, none⟩), s8.v]) fc124 rfl rfl rfl hI (argc rfl (argc rfl rfl)) (hsp14) ?_
 rintro _ H12 _ w13 ⟨s15, gg16, rfl, hs15, rfl⟩ hleH12 hI
 replace hI : Inv B w13 H12 [.cb g_0 [ckL s15] 175, .own s15 5 1 gg16, .cb g3 _ 64] := hI
 refine wend ?_
 refine wthen ?_
 refine wren (fun ρ17 eρ17 => ?_)
 have h18 : opd ρ17 36 (.tmp 0) = .pointer (some ⟨g_0, 0 + 0, none⟩) := (eρ17 0).trans h6
 have h19 : opd ρ17 36 (.tmp 3) = .pointer (some ⟨g3, 0 + 0, none⟩) := (eρ17 3).trans h7
 clear eρ17
 refine wseq ?_
 refine wreg ?_
 refine lv (v := .pointer (some ⟨g3, 0 + 1, none⟩)) rfl (l_fa (j := 0) (i := 0) rfl fl64_1 h19 rfl) rfl ?_
 refine lv (v := s2.v) rfl (r_cl1 (off := 1) (p := 1) (hI.good.ca 2 rfl) rfl sc62 rfl rfl rfl) rfl ?_
 refine lv (v := .int .i64 (a1.Members.length : Int)) rfl (r_lenS rfl sl62 rfl ((hs2.mono hleH9).mono hleH12)) rfl ?_
 refine lv (v := .int .i64 0) rfl (r_mv rfl rfl) rfl ?_
 refine wend ?_
 refine wthen ?_
 refine wren (fun ρ20 eρ20 => ?_)
 have h21 : opd ρ20 36 (.tmp 0) = .pointer (some ⟨g_0, 0 + 0, none⟩) := (eρ20 0).trans h18
 have h22 : opd ρ20 36 (.tmp 15) = s2.v := eρ20 15
 have h23 : opd ρ20 36 (.tmp 16) = .int .i64 (a1.Members.length : Int) := eρ20 16
 have h24 : opd ρ20 36 (.tmp 17) = .int .i64 0 := eρ20 17
 clear eρ20
 refine wp_block ?_
 have hbd25 := (((hs2.mono hleH9).mono hleH12)).bd
 rw [(((hs2.mono hleH9).mono hleH12)).n] at hbd25
 obtain ⟨y25, hy25, hF25⟩ := Option.bind_eq_some_iff.1 hF
 refine wfor (n := 36) a1.Members.length _ (fun (i25 : Nat) (σ25 : (List UInt8)) ρ' w' => ∃ (H164 : Hp) (s162 : Sv) (gg163 : Option Nat), Hle H12 H164 ∧ opd ρ' 36 (.tmp 0) = .pointer (some ⟨g_0, 0 + 0, none⟩) ∧ opd ρ' 36 (.tmp 15) = s2.v ∧ opd ρ' 36 (.tmp 16) = .int .i64 (a1.Members.length : Int) ∧ opd ρ' 36 (.tmp 17) = .int .i64 (i25 : Int) ∧ Sl (Fl.ty flB) H164 s162 σ25 ∧ Inv B w' H164 [.cb g_0 [ckL s162] 175, .own s162 5 1 gg163]) hy25 ⟨H12, s15, gg16, (Hle.refl _), h21, h22, h23, h24, hs15, (hI.keep [true, true, false])⟩ ?_
 rintro k25 i25 σ25 ρ169 w170 hk25 ⟨H164, s162, gg163, hleH164, h165, h166, h167, h168, hs162, hI⟩ hy25
 refine wseq ?_
 refine wreg ?_
 refine lv (v := .bool (decide ((i25 : Int) < (a1.Members.length : Int)))) rfl (r_lss rfl h168 h167 rfl) rfl ?_
 refine wend ?_
 refine wthen ?_
 refine wseq ?_
 by_cases hc171 : (i25 : Int) < (a1.Members.length : Int)
 ·skip
  have hbhc171 : (decide ((i25 : Int) < (a1.Members.length : Int))) = true := decide_eq_true hc171
  obtain ⟨k25, rfl⟩ : ∃ m, k25 = m + 1 := ⟨k25 - 1, by omega⟩
  obtain ⟨z25, hb25⟩ := forK_body hy25
  have hF := hb25
  have hlt25 : ((i25 : Nat) : Int) + 1 ≤ 9223372036854775807 := by omega
  refine wcT ((show opd _ _ _ = _ from rfl).trans (congrArg Value.bool hbhc171)) ?_
  refine wp_skip ?_
  refine wthen ?_
  refine wren (fun ρ172 eρ172 => ?_)
  have h173 : opd ρ172 36 (.tmp 0) = .pointer (some ⟨g_0, 0 + 0, none⟩) := (eρ172 0).trans h165
  have h174 : opd ρ172 36 (.tmp 15) = s2.v := (eρ172 15).trans h166
  have h175 : opd ρ172 36 (.tmp 16) = .int .i64 (a1.Members.length : Int) := (eρ172 16).trans h167
  have h176 : opd ρ172 36 (.tmp 17) = .int .i64 (i25 : Int) := (eρ172 17).trans h168
  clear eρ172
  refine wseq ?_
  refine wp_block ?_
  refine wseq ?_
  refine wreg ?_
  obtain ⟨x177, hx177, hF⟩ := Option.bind_eq_some_iff.1 hF
  obtain ⟨b178, j179, hix180, hil181, hA182⟩ := (((hs2.mono hleH9).mono hleH12).mono hleH164).ixf hx177
  replace hA182 : At H164 b178 j179 [ckI x177.Id, ckV flB x177.Key.Root, ckI x177.Key.Height] := hA182
  refine lv (v := .pointer (some ⟨b178, j179 + 0, none⟩)) rfl (r_ixt rfl sl62 h174 h176 rfl hix180 hil181) rfl ?_
  refine lv (v := .agg (flat [ckI x177.Id, ckV flB x177.Key.Root, ckI x177.Key.Height]).toArray) rfl (r_cla (off := 0) (p := 0) (m := 3) (hA182.ca hI.good) rfl ag114 rfl rfl rfl) rfl ?_
  refine le rfl (l_al hI rfl ze114) rfl ?_
  rintro _ w184 ⟨g183, rfl, hI⟩
  replace hI : Inv B w184 H164 [.cb g_0 [ckL s162] 175, .own s162 5 1 gg163, .cb g183 [ckI 0, ckV flB (Vec.rep 32 0), ckI 0] 114] := hI
  refine lst rfl (l_st (off := 0) (p := 0) (m := 3) (new := [ckI x177.Id, ckV flB x177.Key.Root, ckI x177.Key.Height]) hI 2 rfl rfl sz114 rfl rfl rfl rfl rfl rfl) rfl ?_
  intro w185 hI
  replace hI : Inv B w185 H164 [.cb g_0 [ckL s162] 175, .own s162 5 1 gg163, .cb g183 [ckI x177.Id, ckV flB x177.Key.Root, ckI x177.Key.Height] 114] := hI
  refine wend ?_
  refine wthen ?_
  refine wren (fun ρ186 eρ186 => ?_)
  have h187 : opd ρ186 36 (.tmp 0) = .pointer (some ⟨g_0, 0 + 0, none⟩) := (eρ186 0).trans h173
  have h188 : opd ρ186 36 (.tmp 5) = .pointer (some ⟨g183, 0 + 0, none⟩) := eρ186 5
  have h189 : opd ρ186 36 (.tmp 15) = s2.v := (eρ186 15).trans h174
  have h190 : opd ρ186 36 (.tmp 16) = .int .i64 (a1.Members.length : Int) := (eρ186 16).trans h175
  have h191 : opd ρ186 36 (.tmp 17) = .int .i64 (i25 : Int) := (eρ186 17).trans h176
  clear eρ186
  refine wseq ?_
  refine wreg ?_
  refine lv (v := .pointer (some ⟨g_0, 0 + 0, none⟩)) rfl (r_mv rfl h187) rfl ?_
  refine lv (v := .pointer (some ⟨g183, 0 + 0, none⟩)) rfl (l_fa (j := 0) (i := 0) rfl fl114_0 h188 rfl) rfl ?_
  refine lv (v := .int .i64 x177.Id) rfl (r_cl1 (off := 0) (p := 0) (hI.good.ca 2 rfl) rfl sc3 rfl rfl rfl) rfl ?_
  refine lv (v := .pointer (some ⟨g183, 0 + 1, none⟩)) rfl (l_fa (j := 0) (i := 0) rfl fl114_1 h188 rfl) rfl ?_
  refine lv (v := .pointer (some ⟨g183, 0 + 33, none⟩)) rfl (l_fa (j := 0) (i := 1) rfl fl49_1 rfl rfl) rfl ?_
  refine lv (v := .int .i64 x177.Key.Height) rfl (r_cl1 (off := 33) (p := 2) (hI.good.ca 2 rfl) rfl sc3 rfl rfl rfl) rfl ?_
  refine le rfl (l_bs (t := (Fl.ty flI)) (vs := [.int .i64 x177.Id, .int .i64 x177.Key.Height]) (xs := [x177.Id, x177.Key.Height]) hI rfl sl59 inf3 rfl rfl (argc rfl (argc rfl rfl)) (.cons rfl rfl (.cons rfl rfl .nil)) rfl) rfl ?_
  rintro _ w194 ⟨s192, H193, rfl, hI, hleH193, hs192, hfs192, hgs192⟩
  obtain ⟨x195, hx195, hF⟩ := Option.bind_eq_some_iff.1 hF
  have hsp198 := spec_124 hx195 ((((hT.mono hleH9).mono hleH12).mono hleH164).mono hleH193) (hI.part 2) (hs162.mono hleH193) hs192
  refine fc ([.cb g_0 [ckL s162] 175, .own s162 5 1 gg163]) ([.cb g183 [ckI x177.Id, ckV flB x177.Key.Root, ckI x177.Key.Height] 114]) (args := [.pointer (some ⟨g_0, 0 + 0, none⟩), s192.v]) fc124 rfl rfl rfl hI (argc rfl (argc rfl rfl)) (hsp198) ?_
  rintro _ H196 _ w197 ⟨s199, gg200, rfl, hs199, rfl⟩ hleH196 hI
  replace hI : Inv B w197 H196 [.cb g_0 [ckL s199] 175, .own s199 5 1 gg200, .cb g183 _ 114] := hI
  refine wend ?_
  refine wthen ?_
  refine wren (fun ρ201 eρ201 => ?_)
  have h202 : opd ρ201 36 (.tmp 0) = .pointer (some ⟨g_0, 0 + 0, none⟩) := (eρ201 0).trans h187
  have h203 : opd ρ201 36 (.tmp 5) = .pointer (some ⟨g183, 0 + 0, none⟩) := (eρ201 5).trans h188
  have h204 : opd ρ201 36 (.tmp 15) = s2.v := (eρ201 15).trans h189
  have h205 : opd ρ201 36 (.tmp 16) = .int .i64 (a1.Members.length : Int) := (eρ201 16).trans h190
  have h206 : opd ρ201 36 (.tmp 17) = .int .i64 (i25 : Int) := (eρ201 17).trans h191
  clear eρ201
  refine wreg ?_
  refine lv (v := .pointer (some ⟨g_0, 0 + 0, none⟩)) rfl (r_mv rfl h202) rfl ?_
  refine lv (v := .pointer (some ⟨g183, 0 + 1, none⟩)) rfl (l_fa (j := 0) (i := 0) rfl fl114_1 h203 rfl) rfl ?_
  refine lv (v := .pointer (some ⟨g183, 0 + 1, none⟩)) rfl (l_fa (j := 0) (i := 1) rfl fl49_0 rfl rfl) rfl ?_
  refine lv (v := .agg (flat [ckV flB x177.Key.Root]).toArray) rfl (r_cla (off := 1) (p := 1) (m := 1) (hI.good.ca 2 rfl) rfl ag29 rfl rfl rfl) rfl ?_
  refine le rfl (l_bs (t := (Fl.ty (flV flB 32))) (vs := [.agg (flat [ckV flB x177.Key.Root]).toArray]) (xs := [x177.Key.Root]) hI rfl sl27 inf29 rfl rfl (argc rfl rfl) (.cons rfl rfl .nil) rfl) rfl ?_
  rintro _ w209 ⟨s207, H208, rfl, hI, hleH208, hs207, hfs207, hgs207⟩
  obtain ⟨x210, hx210, hF⟩ := Option.bind_eq_some_iff.1 hF
  have hsp213 := spec_125 hx210 ((((((hT.mono hleH9).mono hleH12).mono hleH164).mono hleH193).mono hleH196).mono hleH208) (hI.part 2) (hs199.mono hleH208) hs207
  refine fc ([.cb g_0 [ckL s199] 175, .own s199 5 1 gg200]) ([.cb g183 [ckI x177.Id, ckV flB x177.Key.Root, ckI x177.Key.Height] 114]) (args := [.pointer (some ⟨g_0, 0 + 0, none⟩), s207.v]) fc125 rfl rfl rfl hI (argc rfl (argc rfl rfl)) (hsp213) ?_
  rintro _ H211 _ w212 ⟨s214, gg215, rfl, hs214, rfl⟩ hleH211 hI
  replace hI : Inv B w212 H211 [.cb g_0 [ckL s214] 175, .own s214 5 1 gg215, .cb g183 _ 114] := hI
  refine wend ?_
  refine inN ?_
  refine wthen ?_
  refine wren (fun ρ216 eρ216 => ?_)
  have h217 : opd ρ216 36 (.tmp 0) = .pointer (some ⟨g_0, 0 + 0, none⟩) := (eρ216 0).trans h202
  have h218 : opd ρ216 36 (.tmp 15) = s2.v := (eρ216 15).trans h204
  have h219 : opd ρ216 36 (.tmp 16) = .int .i64 (a1.Members.length : Int) := (eρ216 16).trans h205
  have h220 : opd ρ216 36 (.tmp 17) = .int .i64 (i25 : Int) := (eρ216 17).trans h206
  clear eρ216
  refine wreg ?_
  refine lv (v := .int .i64 ((i25 + 1 : Nat) : Int)) rfl (r_addn rfl h220 rfl hlt25) rfl ?_
  refine lv (v := .int .i64 ((i25 + 1 : Nat) : Int)) rfl (r_mv rfl rfl) rfl ?_
  refine wend ?_
  obtain rfl := Option.some.inj hF
  exact ⟨k25, x210.b_, _, rfl, rfl, ⟨H211, s214, gg215, ((((hleH164.trans hleH193).trans hleH196).trans hleH208).trans hleH211), h217, h218, h219, rfl, hs214, (hI.keep [true, true, false])⟩, forK_inl hy25 hb25⟩
 ·skip
  have hbhc171 : (decide ((i25 : Int) < (a1.Members.length : Int))) = false := decide_eq_false hc171
  obtain rfl : k25 = 0 := by omega
  obtain rfl := forK_end hy25
  have hF := hF25
  try dsimp only at hF
  refine wcF ((show opd _ _ _ = _ from rfl).trans (congrArg Value.bool hbhc171)) ?_
  refine wp_exit ?_
  refine thE ?_
  refine thE ?_
  refine inX ?_
  obtain rfl := Option.some.inj hF
  subst hB
  refine finN (rs := []) (vs := []) rfl trivial ?_
  exact hI.fin 2 ⟨s162, gg163, rfl, hs162, rfl⟩
noncomputable def M_config_Digest (a0 : Config) : Option ((Vec UInt8 32)) := ((M_config_Write (⟨[]⟩ : Code_Writer) a0).bind fun x16 => ((M_code_Writer_Bytes x16).bind fun x29 => ((M_sha_Of [[99, 111, 110, 102, 105, 103], x29.1]).bind fun x39 => some x39)))
set_option maxHeartbeats 1000000 in
theorem spec_66 {w : World} {H : Hp} {a0 : Config} {s1 : Sv} {r : (Vec UInt8 32)} (hF : M_config_Digest a0 = some r) (hT : Tab H) (hG : Good w H []) (hs1 : Sl (Fl.ty fl_Member) H s1 a0.Members) :
  Fine Tryd.prog 66 [.agg (flat [ckI a0.Epoch, ckL s1]).toArray] w H [] (fun H' v L' => v = .agg (flat [ckV flB r]).toArray ∧ L' = []) := by
 unfold M_config_Digest at hF
 unfold Fine
 obtain ⟨B, hB⟩ : ∃ B : Base, B = ⟨w, H, blks []⟩ := ⟨_, rfl⟩
 have hI : Inv B w H [] := by rw [hB]; exact Inv.start hG
 refine enter (n := 15) (args := [.agg (flat [ckI a0.Epoch, ckL s1]).toArray]) Tryd.func66 rfl Tryd.ntmps66 (Nat.le_of_ble_eq_true rfl) ?_
 refine wseq ?_
 refine wreg ?_
 refine le rfl (l_box (cks := [ckI a0.Epoch, ckL s1]) hI rfl rfl rfl) rfl ?_
 rintro _ w3 ⟨g2, rfl, hI⟩
 replace hI : Inv B w3 H [.cb g2 [ckI a0.Epoch, ckL s1] 64] := hI
 refine le rfl (l_al hI rfl ze29) rfl ?_
 rintro _ w5 ⟨g4, rfl, hI⟩
 replace hI : Inv B w5 H [.cb g2 _ 64, .cb g4 [ckV flB (Vec.rep 32 0)] 29] := hI
 refine wend ?_
 refine wthen ?_
 refine wren (fun ρ6 eρ6 => ?_)
 have h7 : opd ρ6 15 (.tmp 1) = .pointer (some ⟨g2, 0 + 0, none⟩) := eρ6 1
 have h8 : opd ρ6 15 (.tmp 2) = .pointer (some ⟨g4, 0 + 0, none⟩) := eρ6 2
 clear eρ6
 refine wseq ?_
 refine wreg ?_
 refine lv (v := .agg (flat [ckL Sv.nil]).toArray) rfl (r_bldk (z := [[ckL Sv.nil]]) (pc := []) rfl zg175 bf175 rfl rfl rfl rfl) rfl ?_
 refine le rfl (l_box (cks := [ckL Sv.nil]) hI rfl rfl rfl) rfl ?_
 rintro _ w10 ⟨g9, rfl, hI⟩
 replace hI : Inv B w10 H [.cb g2 _ 64, .cb g4 _ 29, .cb g9 [ckL Sv.nil] 175] := hI
 refine lv (v := .pointer (some ⟨g9, 0 + 0, none⟩)) rfl (r_as rfl rfl) rfl ?_
 refine wend ?_
 refine wthen ?_
 refine wren (fun ρ11 eρ11 => ?_)
 have h12 : opd ρ11 15 (.tmp 1) = .pointer (some ⟨g2, 0 + 0, none⟩) := (eρ11 1).trans h7
 have h13 : opd ρ11 15 (.tmp 2) = .pointer (some ⟨g4, 0 + 0, none⟩) := (eρ11 2).trans h8
 have h14 : opd ρ11 15 (.tmp 3) = .pointer (some ⟨g9, 0 + 0, none⟩) := eρ11 3
 clear eρ11
 refine wseq ?_
 refine wreg ?_
 refine lv (v := .pointer (some ⟨g9, 0 + 0, none⟩)) rfl (r_mv rfl h14) rfl ?_
 refine lv (v := .agg (flat [ckI a0.Epoch, ckL s1]).toArray) rfl (r_cla (off := 0) (p := 0) (m := 2) (hI.good.ca 0 rfl) rfl ag64 h12 rfl rfl) rfl ?_
 replace hI := Inv.full (e := 5) (sz := 1) hI (show Sv.nil.n = Sv.nil.c from rfl)
 replace hI : Inv B w10 H [.cb g2 _ 64, .cb g4 _ 29, .cb g9 [ckL Sv.nil] 175, .own Sv.nil 5 1 none] := hI
 replace hI := hI.bring 3 rfl
 replace hI := hI.bring 3 rfl
 replace hI : Inv B w10 H [.cb g9 [ckL Sv.nil] 175, .own Sv.nil 5 1 none, .cb g2 _ 64, .cb g4 _ 29] := hI
 obtain ⟨x16, hx16, hF⟩ := Option.bind_eq_some_iff.1 hF
 have hsp19 := spec_110 hx16 hT (hI.part 2) (Sl.nil _ _) hs1
 refine fc ([.cb g9 [ckL Sv.nil] 175, .own Sv.nil 5 1 none]) ([.cb g2 [ckI a0.Epoch, ckL s1] 64, .cb g4 [ckV flB (Vec.rep 32 0)] 29]) (args := [.pointer (some ⟨g9, 0 + 0, none⟩), .agg (flat [ckI a0.Epoch, ckL s1]).toArray]) fc110 rfl rfl rfl hI (argc rfl (argc rfl rfl)) (hsp19) ?_
 rintro _ H17 _ w18 ⟨s20, gg21, rfl, hs20, rfl⟩ hleH17 hI
 replace hI : Inv B w18 H17 [.cb g9 [ckL s20] 175, .own s20 5 1 gg21, .cb g2 _ 64, .cb g4 _ 29] := hI
 refine wend ?_
 refine wthen ?_
 refine wren (fun ρ22 eρ22 => ?_)
 have h23 : opd ρ22 15 (.tmp 2) = .pointer (some ⟨g4, 0 + 0, none⟩) := (eρ22 2).trans h13
 have h24 : opd ρ22 15 (.tmp 3) = .pointer (some ⟨g9, 0 + 0, none⟩) := (eρ22 3).trans h14
 clear eρ22
 refine wseq ?_
 refine wreg ?_
 refine le rfl (l_bs (t := (Fl.ty flB)) (vs := [bv 99, bv 111, bv 110, bv 102, bv 105, bv 103]) (xs := [99, 111, 110, 102, 105, 103]) hI rfl sl158 inf5 rfl rfl (argc rfl (argc rfl (argc rfl (argc rfl (argc rfl (argc rfl rfl)))))) (.cons rfl rfl (.cons rfl rfl (.cons rfl rfl (.cons rfl rfl (.cons rfl rfl (.cons rfl rfl .nil)))))) rfl) rfl ?_
 rintro _ w27 ⟨s25, H26, rfl, hI, hleH26, hs25, hfs25, hgs25⟩
 refine le rfl (l_cvc (t := flB.ty) hI rfl un158 un5 rfl hs25 hgs25) rfl ?_
 rintro _ w28 ⟨rfl, hI⟩
 replace hI : Inv B w28 H26 [.cb g9 [ckL s20] 175, .own s20 5 1 gg21, .cb g2 _ 64, .cb g4 _ 29] := hI
 refine lv (v := .pointer (some ⟨g9, 0 + 0, none⟩)) rfl (r_mv rfl h24) rfl ?_
 obtain ⟨x29, hx29, hF⟩ := Option.bind_eq_some_iff.1 hF
 have hsp32 := spec_100 hx29 ((hT.mono hleH17).mono hleH26) (hI.part 2) (hs20.mono hleH26)
 refine fc ([.cb g9 [ckL s20] 175, .own s20 5 1 gg21]) ([.cb g2 [ckI a0.Epoch, ckL s1] 64, .cb g4 [ckV flB (Vec.rep 32 0)] 29]) (args := [.pointer (some ⟨g9, 0 + 0, none⟩)]) fc100 rfl rfl rfl hI (argc rfl rfl) (hsp32) ?_
 rintro _ H30 _ w31 ⟨s33, s34, gg35, rfl, hs33, hs34, rfl⟩ hleH30 hI
 replace hI : Inv B w31 H30 [.cb g9 [ckL s34] 175, .own s34 5 1 gg35, .cb g2 _ 64, .cb g4 _ 29] := hI
 refine le rfl (l_bs (t := (Ty.sl (Fl.ty flB))) (vs := [s25.v, s33.v]) (xs := [[99, 111, 110, 102, 105, 103], x29.1]) hI rfl sl228 inf158 rfl rfl (argc rfl (argc rfl rfl)) (.cons rfl ⟨s25, rfl, (hs25.mono hleH30)⟩ (.cons rfl ⟨s33, rfl, hs33⟩ .nil)) rfl) rfl ?_
 rintro _ w38 ⟨s36, H37, rfl, hI, hleH37, hs36, hfs36, hgs36⟩
 obtain ⟨x39, hx39, hF⟩ := Option.bind_eq_some_iff.1 hF
 have hsp42 := spec_99 hx39 ((((hT.mono hleH17).mono hleH26).mono hleH30).mono hleH37) (hI.part 0) hs36
 refine fc ([]) ([.cb g9 [ckL s34] 175, .own s34 5 1 gg35, .cb g2 [ckI a0.Epoch, ckL s1] 64, .cb g4 [ckV flB (Vec.rep 32 0)] 29]) (args := [s36.v]) fc99 rfl rfl rfl hI (argc rfl rfl) (hsp42) ?_
 rintro _ H40 _ w41 ⟨rfl, rfl⟩ hleH40 hI
 replace hI : Inv B w41 H40 [.cb g9 [ckL s34] 175, .own s34 5 1 gg35, .cb g2 _ 64, .cb g4 _ 29] := hI
 refine lst rfl (l_st (off := 0) (p := 0) (m := 1) (new := [ckV flB x39]) hI 3 rfl rfl sz29 h23 rfl rfl rfl rfl rfl) rfl ?_
 intro w43 hI
 replace hI : Inv B w43 H40 [.cb g9 [ckL s34] 175, .own s34 5 1 gg35, .cb g2 _ 64, .cb g4 [ckV flB x39] 29] := hI
 refine wend ?_
 refine wthen ?_
 refine wren (fun ρ44 eρ44 => ?_)
 have h45 : opd ρ44 15 (.tmp 2) = .pointer (some ⟨g4, 0 + 0, none⟩) := (eρ44 2).trans h23
 clear eρ44
 refine wp_ret ?_
 obtain rfl := Option.some.inj hF
 subst hB
 refine finR (rs := [.cell 2 29]) (vs := [.agg (flat [ckV flB x39]).toArray]) rfl ⟨⟨_, h45, ld_agg (hI.good.ca 3 rfl) ag29 rfl⟩, trivial⟩ ?_
 exact hI.fin 0 ⟨rfl, rfl⟩
noncomputable def M_chain_Step (a0 : Config) (a1 : Int) (a2 : Link) : Option (Int) := (((if a2.Block.Height ≤ a1 then some true else ((M_config_Good a2.Config).bind fun x24 => (if x24 = true then some (decide (a2.Config.Epoch ≤ a0.Epoch)) else some true)))).bind fun (x15 : Bool) => (if x15 = true then some 12 else ((M_cert_Check a0 a2.Block a2.Cert).bind fun x32 => (if x32 = true then ((M_config_Digest a2.Config).bind fun x41 => (if x41 = a2.Block.Next then some 0 else some 13)) else some 10))))
set_option maxHeartbeats 4000000 in
theorem spec_31 {w : World} {H : Hp} {a0 : Config} {a1 : Int} {a2 : Link} {s1 : Sv} {s2 : Sv} {s3 : Sv} {s4 : Sv} {r : Int} (hF : M_chain_Step a0 a1 a2 = some r) (hT : Tab H) (hG : Good w H []) (hs1 : Sl (Fl.ty fl_Member) H s1 a0.Members) (hs2 : Sl (Fl.ty fl_Request) H s2 a2.Block.Requests) (hs3 : Sl ty_Vote H s3 a2.Cert.Votes) (hs4 : Sl (Fl.ty fl_Member) H s4 a2.Config.Members) :
  Fine Tryd.prog 31 [.agg (flat [ckI a0.Epoch, ckL s1]).toArray, .int .i64 a1, .agg (flat [ckI a2.Block.Epoch, ckI a2.Block.Height, ckV flB a2.Block.Prev, ckV flB a2.Block.State, ckV flB a2.Block.Next, ckL s2, ckI a2.Cert.Round, ckL s3, ckI a2.Config.Epoch, ckL s4]).toArray] w H [] (fun H' v L' => v = .int .i64 r ∧ L' = []) := by
 unfold M_chain_Step at hF
 unfold Fine
 obtain ⟨B, hB⟩ : ∃ B : Base, B = ⟨w, H, blks []⟩ := ⟨_, rfl⟩
 have hI : Inv B w H [] := by rw [hB]; exact Inv.start hG
 refine enter (n := 43) (args := [.agg (flat [ckI a0.Epoch, ckL s1]).toArray, .int .i64 a1, .agg (flat [ckI a2.Block.Epoch, ckI a2.Block.Height, ckV flB a2.Block.Prev, ckV flB a2.Block.State, ckV flB a2.Block.Next, ckL s2, ckI a2.Cert.Round, ckL s3, ckI a2.Config.Epoch, ckL s4]).toArray]) Tryd.func31 rfl Tryd.ntmps31 (Nat.le_of_ble_eq_true rfl) ?_
 refine wseq ?_
 refine wreg ?_
 refine le rfl (l_box (cks := [ckI a0.Epoch, ckL s1]) hI rfl rfl rfl) rfl ?_
 rintro _ w6 ⟨g5, rfl, hI⟩
 replace hI : Inv B w6 H [.cb g5 [ckI a0.Epoch, ckL s1] 64] := hI
 refine le rfl (l_box (cks := [ckI a2.Block.Epoch, ckI a2.Block.Height, ckV flB a2.Block.Prev, ckV flB a2.Block.State, ckV flB a2.Block.Next, ckL s2, ckI a2.Cert.Round, ckL s3, ckI a2.Config.Epoch, ckL s4]) hI rfl rfl rfl) rfl ?_
 rintro _ w8 ⟨g7, rfl, hI⟩
 replace hI : Inv B w8 H [.cb g5 _ 64, .cb g7 [ckI a2.Block.Epoch, ckI a2.Block.Height, ckV flB a2.Block.Prev, ckV flB a2.Block.State, ckV flB a2.Block.Next, ckL s2, ckI a2.Cert.Round, ckL s3, ckI a2.Config.Epoch, ckL s4] 73] := hI
 refine lv (v := .int .i64 0) rfl (r_as rfl rfl) rfl ?_
 refine wend ?_
 refine wthen ?_
 refine wren (fun ρ9 eρ9 => ?_)
 have h10 : opd ρ9 43 (.tmp 1) = .int .i64 a1 := eρ9 1
 have h11 : opd ρ9 43 (.tmp 3) = .pointer (some ⟨g5, 0 + 0, none⟩) := eρ9 3
 have h12 : opd ρ9 43 (.tmp 5) = .pointer (some ⟨g7, 0 + 0, none⟩) := eρ9 5
 clear eρ9
 refine wseq ?_
 refine wp_block ?_
 obtain ⟨x15, hx15, hF⟩ := Option.bind_eq_some_iff.1 hF
 refine wcut (fun ρ' w' => ∃ (H16 : Hp), Hle H H16 ∧ opd ρ' 43 (.tmp 3) = .pointer (some ⟨g5, 0 + 0, none⟩) ∧ opd ρ' 43 (.tmp 5) = .pointer (some ⟨g7, 0 + 0, none⟩) ∧ opd ρ' 43 (.tmp 7) = .bool x15 ∧ Inv B w' H16 [.cb g5 [ckI a0.Epoch, ckL s1] 64, .cb g7 [ckI a2.Block.Epoch, ckI a2.Block.Height, ckV flB a2.Block.Prev, ckV flB a2.Block.State, ckV flB a2.Block.Next, ckL s2, ckI a2.Cert.Round, ckL s3, ckI a2.Config.Epoch, ckL s4] 73]) ?_ ?_
 ·skip
  replace hF := hx15
  refine wreg ?_
  refine lv (v := .pointer (some ⟨g7, 0 + 0, none⟩)) rfl (l_fa (j := 0) (i := 0) rfl fl73_0 h12 rfl) rfl ?_
  refine lv (v := .pointer (some ⟨g7, 0 + 1, none⟩)) rfl (l_fa (j := 0) (i := 0) rfl fl69_1 rfl rfl) rfl ?_
  refine lv (v := .int .i64 a2.Block.Height) rfl (r_cl1 (off := 1) (p := 1) (hI.good.ca 1 rfl) rfl sc3 rfl rfl rfl) rfl ?_
  refine lv (v := .int .i64 a1) rfl (r_mv rfl h10) rfl ?_
  refine lv (v := .bool (decide (a2.Block.Height ≤ a1))) rfl (r_leq rfl rfl rfl rfl) rfl ?_
  by_cases hc23 : a2.Block.Height ≤ a1
  ·skip
   rw [if_pos hc23] at hF
   have hbhc23 : (decide (a2.Block.Height ≤ a1)) = true := decide_eq_true hc23
   refine lv (v := .bool true) rfl (r_mv rfl ((show opd _ _ _ = _ from rfl).trans (congrArg Value.bool hbhc23))) rfl ?_
   with_reducible refine lx (d := 14) (by kernel_rfl) (by kernel_rfl) ?_
   with_reducible refine lx (d := 15) (by kernel_rfl) (by kernel_rfl) ?_
   with_reducible refine lx (d := 16) (by kernel_rfl) (by kernel_rfl) ?_
   with_reducible refine lx (d := 17) (by kernel_rfl) (by kernel_rfl) ?_
   refine lv (v := .bool true) rfl (r_pkT rfl rfl rfl) rfl ?_
   refine lv (v := .bool true) rfl (r_mv rfl rfl) rfl ?_
   with_reducible refine lx (d := 20) (by kernel_rfl) (by kernel_rfl) ?_
   with_reducible refine lx (d := 21) (by kernel_rfl) (by kernel_rfl) ?_
   with_reducible refine lx (d := 22) (by kernel_rfl) (by kernel_rfl) ?_
   with_reducible refine lx (d := 23) (by kernel_rfl) (by kernel_rfl) ?_
   with_reducible refine lx (d := 24) (by kernel_rfl) (by kernel_rfl) ?_
   with_reducible refine lx (d := 25) (by kernel_rfl) (by kernel_rfl) ?_
   refine lv (v := .bool true) rfl (r_pkT rfl rfl rfl) rfl ?_
   refine lv (v := .bool true) rfl (r_as rfl rfl) rfl ?_
   refine wend ?_
   obtain rfl := Option.some.inj hF
   exact wmid ⟨H, (Hle.refl _), h11, h12, rfl, hI⟩
  ·skip
   rw [if_neg hc23] at hF
   have hbhc23 : (decide (a2.Block.Height ≤ a1)) = false := decide_eq_false hc23
   refine lv (v := .bool false) rfl (r_mv rfl ((show opd _ _ _ = _ from rfl).trans (congrArg Value.bool hbhc23))) rfl ?_
   refine lv (v := .pointer (some ⟨g7, 0 + 101, none⟩)) rfl (l_fa (j := 0) (i := 0) rfl fl73_2 h12 rfl) rfl ?_
   refine lv (v := .agg (flat [ckI a2.Config.Epoch, ckL s4]).toArray) rfl (r_cla (off := 101) (p := 8) (m := 2) (hI.good.ca 1 rfl) rfl ag64 rfl rfl rfl) rfl ?_
   obtain ⟨x24, hx24, hF⟩ := Option.bind_eq_some_iff.1 hF
   have hsp27 := spec_65 hx24 hT (hI.part 0) hs4
   refine fc ([]) ([.cb g5 [ckI a0.Epoch, ckL s1] 64, .cb g7 [ckI a2.Block.Epoch, ckI a2.Block.Height, ckV flB a2.Block.Prev, ckV flB a2.Block.State, ckV flB a2.Block.Next, ckL s2, ckI a2.Cert.Round, ckL s3, ckI a2.Config.Epoch, ckL s4] 73]) (args := [.agg (flat [ckI a2.Config.Epoch, ckL s4]).toArray]) fc65 rfl rfl rfl hI (argc rfl rfl) (hsp27) ?_
   rintro _ H25 _ w26 ⟨rfl, rfl⟩ hleH25 hI
   replace hI : Inv B w26 H25 [.cb g5 _ 64, .cb g7 _ 73] := hI
   refine lv (v := .bool (!x24)) rfl (r_not rfl rfl) rfl ?_
   refine lv (v := .bool (!x24)) rfl (r_pkF rfl rfl rfl) rfl ?_
   by_cases hc28 : x24 = true
   ·skip
    rw [if_pos hc28] at hF
    have hbhc28 : (!x24) = false := (by rw [hc28]; rfl)
    refine lv (v := .bool false) rfl (r_mv rfl ((show opd _ _ _ = _ from rfl).trans (congrArg Value.bool hbhc28))) rfl ?_
    refine lv (v := .pointer (some ⟨g7, 0 + 101, none⟩)) rfl (l_fa (j := 0) (i := 0) rfl fl73_2 h12 rfl) rfl ?_
    refine lv (v := .pointer (some ⟨g7, 0 + 101, none⟩)) rfl (l_fa (j := 0) (i := 101) rfl fl64_0 rfl rfl) rfl ?_
    refine lv (v := .int .i64 a2.Config.Epoch) rfl (r_cl1 (off := 101) (p := 8) (hI.good.ca 1 rfl) rfl sc3 rfl rfl rfl) rfl ?_
    refine lv (v := .pointer (some ⟨g5, 0 + 0, none⟩)) rfl (l_fa (j := 0) (i := 0) rfl fl64_0 h11 rfl) rfl ?_
    refine lv (v := .int .i64 a0.Epoch) rfl (r_cl1 (off := 0) (p := 0) (hI.good.ca 0 rfl) rfl sc3 rfl rfl rfl) rfl ?_
    refine lv (v := .bool (decide (a2.Config.Epoch ≤ a0.Epoch))) rfl (r_leq rfl rfl rfl rfl) rfl ?_
    refine lv (v := .bool (decide (a2.Config.Epoch ≤ a0.Epoch))) rfl (r_pkF rfl rfl rfl) rfl ?_
    refine lv (v := .bool (decide (a2.Config.Epoch ≤ a0.Epoch))) rfl (r_as rfl rfl) rfl ?_
    refine wend ?_
    obtain rfl := Option.some.inj hF
    exact wmid ⟨H25, hleH25, h11, h12, rfl, hI⟩
   ·skip
    rw [if_neg hc28] at hF
    have hbhc28 : (!x24) = true := (by rw [(Bool.eq_false_iff.2 hc28)]; rfl)
    refine lv (v := .bool true) rfl (r_mv rfl ((show opd _ _ _ = _ from rfl).trans (congrArg Value.bool hbhc28))) rfl ?_
    with_reducible refine lx (d := 20) (by kernel_rfl) (by kernel_rfl) ?_
    with_reducible refine lx (d := 21) (by kernel_rfl) (by kernel_rfl) ?_
    with_reducible refine lx (d := 22) (by kernel_rfl) (by kernel_rfl) ?_
    with_reducible refine lx (d := 23) (by kernel_rfl) (by kernel_rfl) ?_
    with_reducible refine lx (d := 24) (by kernel_rfl) (by kernel_rfl) ?_
    with_reducible refine lx (d := 25) (by kernel_rfl) (by kernel_rfl) ?_
    refine lv (v := .bool true) rfl (r_pkT rfl rfl rfl) rfl ?_
    refine lv (v := .bool true) rfl (r_as rfl rfl) rfl ?_
    refine wend ?_
    obtain rfl := Option.some.inj hF
    exact wmid ⟨H25, hleH25, h11, h12, rfl, hI⟩
 rintro ρ18 w17 ⟨H16, hleH16, h19, h20, h21, hI⟩
 by_cases hc29 : x15 = true
 ·skip
  rw [if_pos hc29] at hF
  have hbhc29 : x15 = true := hc29
  refine wcT (h21.trans (congrArg Value.bool hbhc29)) ?_
  refine wseq ?_
  refine wreg ?_
  refine lv (v := .int .i64 12) rfl (r_as rfl rfl) rfl ?_
  refine wend ?_
  refine wthen ?_
  refine wren (fun ρ30 eρ30 => ?_)
  have h31 : opd ρ30 43 (.tmp 6) = .int .i64 12 := eρ30 6
  clear eρ30
  refine wp_ret ?_
  refine inR ?_
  refine thR ?_
  obtain rfl := Option.some.inj hF
  subst hB
  refine finR (rs := [.tmp 6]) (vs := [.int .i64 12]) rfl ⟨h31, trivial⟩ ?_
  exact hI.fin 0 ⟨rfl, rfl⟩
 ·skip
  rw [if_neg hc29] at hF
  have hbhc29 : x15 = false := (Bool.eq_false_iff.2 hc29)
  refine wcF (h21.trans (congrArg Value.bool hbhc29)) ?_
  refine wseq ?_
  refine wreg ?_
  refine lv (v := .agg (flat [ckI a0.Epoch, ckL s1]).toArray) rfl (r_cla (off := 0) (p := 0) (m := 2) (hI.good.ca 0 rfl) rfl ag64 h19 rfl rfl) rfl ?_
  refine lv (v := .pointer (some ⟨g7, 0 + 0, none⟩)) rfl (l_fa (j := 0) (i := 0) rfl fl73_0 h20 rfl) rfl ?_
  refine lv (v := .agg (flat [ckI a2.Block.Epoch, ckI a2.Block.Height, ckV flB a2.Block.Prev, ckV flB a2.Block.State, ckV flB a2.Block.Next, ckL s2]).toArray) rfl (r_cla (off := 0) (p := 0) (m := 6) (hI.good.ca 1 rfl) rfl ag69 rfl rfl rfl) rfl ?_
  refine lv (v := .pointer (some ⟨g7, 0 + 99, none⟩)) rfl (l_fa (j := 0) (i := 0) rfl fl73_1 h20 rfl) rfl ?_
  refine lv (v := .agg (flat [ckI a2.Cert.Round, ckL s3]).toArray) rfl (r_cla (off := 99) (p := 6) (m := 2) (hI.good.ca 1 rfl) rfl ag71 rfl rfl rfl) rfl ?_
  obtain ⟨x32, hx32, hF⟩ := Option.bind_eq_some_iff.1 hF
  have hsp35 := spec_46 hx32 (hT.mono hleH16) (hI.part 0) (hs1.mono hleH16) (hs2.mono hleH16) (hs3.mono hleH16)
  refine fc ([]) ([.cb g5 [ckI a0.Epoch, ckL s1] 64, .cb g7 [ckI a2.Block.Epoch, ckI a2.Block.Height, ckV flB a2.Block.Prev, ckV flB a2.Block.State, ckV flB a2.Block.Next, ckL s2, ckI a2.Cert.Round, ckL s3, ckI a2.Config.Epoch, ckL s4] 73]) (args := [.agg (flat [ckI a0.Epoch, ckL s1]).toArray, .agg (flat [ckI a2.Block.Epoch, ckI a2.Block.Height, ckV flB a2.Block.Prev, ckV flB a2.Block.State, ckV flB a2.Block.Next, ckL s2]).toArray, .agg (flat [ckI a2.Cert.Round, ckL s3]).toArray]) fc46 rfl rfl rfl hI (argc rfl (argc rfl (argc rfl rfl))) (hsp35) ?_
  rintro _ H33 _ w34 ⟨rfl, rfl⟩ hleH33 hI
  replace hI : Inv B w34 H33 [.cb g5 _ 64, .cb g7 _ 73] := hI
  refine lv (v := .bool (!x32)) rfl (r_not rfl rfl) rfl ?_
  refine lv (v := .bool (!x32)) rfl (r_as rfl rfl) rfl ?_
  refine wend ?_
  refine wthen ?_
  refine wren (fun ρ36 eρ36 => ?_)
  have h37 : opd ρ36 43 (.tmp 5) = .pointer (some ⟨g7, 0 + 0, none⟩) := (eρ36 5).trans h20
  have h38 : opd ρ36 43 (.tmp 27) = .bool (!x32) := eρ36 27
  clear eρ36
  by_cases hc39 : x32 = true
  ·skip
   rw [if_pos hc39] at hF
   have hbhc39 : (!x32) = false := (by rw [hc39]; rfl)
   refine wcF (h38.trans (congrArg Value.bool hbhc39)) ?_
   refine wseq ?_
   refine dstG (H0 := H33) (L0 := keepL [true, true] [.cb g5 [ckI a0.Epoch, ckL s1] 64, .cb g7 [ckI a2.Block.Epoch, ckI a2.Block.Height, ckV flB a2.Block.Prev, ckV flB a2.Block.State, ckV flB a2.Block.Next, ckL s2, ckI a2.Cert.Round, ckL s3, ckI a2.Config.Epoch, ckL s4] 73]) [] mixed rfl (by repeat (first | exact Pan.body | refine Pan.then ?_ | refine Pan.inBlock ?_ | refine Pan.noGoto ?_ | refine Pan.pure ?_)) hI (hI.good.weakm _ (Hle.refl _) rfl) ?_
   intro w40 hI hP
   refine dp (v := .pointer (some ⟨g7, 0 + 101, none⟩)) 0 (by kernel_rfl) rfl rfl (fun _ => l_fa (j := 0) (i := 0) rfl fl73_2 h37 rfl) rfl hP ?_
   refine dp (v := .pointer (some ⟨g7, 0 + 0, none⟩)) 3 (by kernel_rfl) rfl rfl (fun _ => l_fa (j := 0) (i := 0) rfl fl73_0 h37 rfl) rfl hP ?_
   refine dp (v := .pointer (some ⟨g7, 0 + 66, none⟩)) 4 (by kernel_rfl) rfl rfl (fun _ => l_fa (j := 0) (i := 0) rfl fl69_4 rfl rfl) rfl hP ?_
   refine dr (v := .agg (flat [ckI a2.Config.Epoch, ckL s4]).toArray) 1 (by kernel_rfl) rfl rfl (hI.good.weakm [true, true] (Hle.refl _) rfl) (fun _ hG => r_cla (off := 101) (p := 8) (m := 2) (hG.ca 1 rfl) rfl ag64 rfl rfl rfl) rfl hP ?_
   refine dr (v := .agg (flat [ckV flB a2.Block.Next]).toArray) 5 (by kernel_rfl) rfl rfl (hI.good.weakm [true, true] (Hle.refl _) rfl) (fun _ hG => r_cla (off := 66) (p := 4) (m := 1) (hG.ca 1 rfl) rfl ag29 rfl rfl rfl) rfl hP ?_
   obtain ⟨x41, hx41, hF⟩ := Option.bind_eq_some_iff.1 hF
   have hsp44 := spec_66 hx41 ((hT.mono hleH16).mono hleH33) (hI.part 0) ((hs4.mono hleH16).mono hleH33)
   refine dfc 2 ([]) ([.cb g5 [ckI a0.Epoch, ckL s1] 64, .cb g7 [ckI a2.Block.Epoch, ckI a2.Block.Height, ckV flB a2.Block.Prev, ckV flB a2.Block.State, ckV flB a2.Block.Next, ckL s2, ckI a2.Cert.Round, ckL s3, ckI a2.Config.Epoch, ckL s4] 73]) (args := [.agg (flat [ckI a2.Config.Epoch, ckL s4]).toArray]) fc66 (by kernel_rfl) rfl rfl rfl rfl rfl hI (argc rfl rfl) (hsp44) ?_
   rintro _ H42 _ w43 ⟨rfl, rfl⟩ hleH42 hI
   replace hI : Inv B w43 H42 [.cb g5 _ 64, .cb g7 _ 73] := hI
   refine ⟨(hI.good.weakm [true, true] hleH42 rfl), ?_⟩
   refine dp (v := .bool (!decide (x41 = a2.Block.Next))) 6 (by kernel_rfl) rfl rfl (fun _ => r_neb rfl ba29 rfl rfl) rfl hP ?_
   refine dp (v := .bool (!decide (x41 = a2.Block.Next))) 7 (by kernel_rfl) rfl rfl (fun _ => r_as rfl rfl) rfl hP ?_
   refine dend (by kernel_rfl) ?_
   refine wthen ?_
   refine wren (fun ρ45 eρ45 => ?_)
   have h46 : opd ρ45 43 (.tmp 35) = .bool (!decide (x41 = a2.Block.Next)) := eρ45 35
   clear eρ45
   by_cases hc47 : x41 = a2.Block.Next
   ·skip
    rw [if_pos hc47] at hF
    have hbhc47 : (!decide (x41 = a2.Block.Next)) = false := (by rw [decide_eq_true hc47]; rfl)
    refine wcF (h46.trans (congrArg Value.bool hbhc47)) ?_
    refine wp_skip ?_
    refine inN ?_
    refine wthen ?_
    refine wseq ?_
    refine wreg ?_
    refine lv (v := .int .i64 0) rfl (r_as rfl rfl) rfl ?_
    refine wend ?_
    refine wthen ?_
    refine wren (fun ρ48 eρ48 => ?_)
    have h49 : opd ρ48 43 (.tmp 6) = .int .i64 0 := eρ48 6
    clear eρ48
    refine wp_ret ?_
    obtain rfl := Option.some.inj hF
    subst hB
    refine finR (rs := [.tmp 6]) (vs := [.int .i64 0]) rfl ⟨h49, trivial⟩ ?_
    exact hI.fin 0 ⟨rfl, rfl⟩
   ·skip
    rw [if_neg hc47] at hF
    have hbhc47 : (!decide (x41 = a2.Block.Next)) = true := (by rw [decide_eq_false hc47]; rfl)
    refine wcT (h46.trans (congrArg Value.bool hbhc47)) ?_
    refine wseq ?_
    refine wreg ?_
    refine lv (v := .int .i64 13) rfl (r_as rfl rfl) rfl ?_
    refine wend ?_
    refine wthen ?_
    refine wren (fun ρ50 eρ50 => ?_)
    have h51 : opd ρ50 43 (.tmp 6) = .int .i64 13 := eρ50 6
    clear eρ50
    refine wp_ret ?_
    refine inR ?_
    refine thR ?_
    obtain rfl := Option.some.inj hF
    subst hB
    refine finR (rs := [.tmp 6]) (vs := [.int .i64 13]) rfl ⟨h51, trivial⟩ ?_
    exact hI.fin 0 ⟨rfl, rfl⟩
  ·skip
   rw [if_neg hc39] at hF
   have hbhc39 : (!x32) = true := (by rw [(Bool.eq_false_iff.2 hc39)]; rfl)
   refine wcT (h38.trans (congrArg Value.bool hbhc39)) ?_
   refine wseq ?_
   refine wreg ?_
   refine lv (v := .int .i64 10) rfl (r_as rfl rfl) rfl ?_
   refine wend ?_
   refine wthen ?_
   refine wren (fun ρ52 eρ52 => ?_)
   have h53 : opd ρ52 43 (.tmp 6) = .int .i64 10 := eρ52 6
   clear eρ52
   refine wp_ret ?_
   refine inR ?_
   refine thR ?_
   obtain rfl := Option.some.inj hF
   subst hB
   refine finR (rs := [.tmp 6]) (vs := [.int .i64 10]) rfl ⟨h53, trivial⟩ ?_
   exact hI.fin 0 ⟨rfl, rfl⟩
noncomputable def M_chain_Check (a0 : Config) (a1 : List Link) : Option (Config × Int × Int) := ((M_config_Good a0).bind fun x11 => (if x11 = true then (if (1024 : Int) < (a1.length : Int) then some ((⟨0, []⟩ : Config), 0, 11) else ((forK (fun (i48 : Nat) (σ48 : Int × Int × (List Member)) => (((a1[i48]?).bind fun x220 => ((M_chain_Step (⟨σ48.2.1, σ48.2.2⟩ : Config) σ48.1 x220).bind fun x242 => (if x242 ≠ 0 then ((some ((⟨0, []⟩ : Config), (i48 : Int), x242)).map Sum.inr) else some (.inl (x220.Block.Height, x220.Config.Epoch, x220.Config.Members))))) : Option ((Int × Int × (List Member)) ⊕ (Config × Int × Int)))) a1.length 0 (0, a0.Epoch, a0.Members)).bind fun y => match y with | .inl σ48 => ((appI 48 ([] : List Member) σ48.2.2).bind fun x293 => some ((⟨σ48.2.1, x293⟩ : Config), (a1.length : Int), 0)) | .inr r => some r)) else some ((⟨0, []⟩ : Config), 0, 1)))
set_option maxHeartbeats 4000000 in
theorem spec_33 {w : World} {H : Hp} {a0 : Config} {a1 : List Link} {s1 : Sv} {s2 : Sv} {r : Config × Int × Int} (hF : M_chain_Check a0 a1 = some r) (hT : Tab H) (hG : Good w H []) (hs1 : Sl (Fl.ty fl_Member) H s1 a0.Members) (hs2 : Sl ty_Link H s2 a1) :
  Fine Tryd.prog 33 [.agg (flat [ckI a0.Epoch, ckL s1]).toArray, s2.v] w H [] (fun H' v L' => ∃ s900 : Sv, v = .tuple #[.agg (flat [ckI r.1.Epoch, ckL s900]).toArray, .int .i64 r.2.1, .int .i64 r.2.2] ∧ Sl (Fl.ty fl_Member) H' s900 r.1.Members ∧ L' = []) := by
 unfold M_chain_Check at hF
 unfold Fine
 obtain ⟨B, hB⟩ : ∃ B : Base, B = ⟨w, H, blks []⟩ := ⟨_, rfl⟩
 have hI : Inv B w H [] := by rw [hB]; exact Inv.start hG
 refine enter (n := 52) (args := [.agg (flat [ckI a0.Epoch, ckL s1]).toArray, s2.v]) Tryd.func33 rfl Tryd.ntmps33 (Nat.le_of_ble_eq_true rfl) ?_
 refine wseq ?_
 refine wreg ?_
 refine le rfl (l_box (cks := [ckI a0.Epoch, ckL s1]) hI rfl rfl rfl) rfl ?_
 rintro _ w4 ⟨g3, rfl, hI⟩
 replace hI : Inv B w4 H [.cb g3 [ckI a0.Epoch, ckL s1] 64] := hI
 refine le rfl (l_al hI rfl ze64) rfl ?_
 rintro _ w6 ⟨g5, rfl, hI⟩
 replace hI : Inv B w6 H [.cb g3 _ 64, .cb g5 [ckI 0, ckL Sv.nil] 64] := hI
 refine lv (v := .int .i64 0) rfl (r_as rfl rfl) rfl ?_
 refine lv (v := .int .i64 0) rfl (r_as rfl rfl) rfl ?_
 refine wend ?_
 refine wthen ?_
 refine wren (fun ρ7 eρ7 => ?_)
 have h8 : opd ρ7 52 (.tmp 1) = s2.v := eρ7 1
 have h9 : opd ρ7 52 (.tmp 2) = .pointer (some ⟨g3, 0 + 0, none⟩) := eρ7 2
 have h10 : opd ρ7 52 (.tmp 4) = .pointer (some ⟨g5, 0 + 0, none⟩) := eρ7 4
 clear eρ7
 refine wseq ?_
 refine wseq ?_
 refine wreg ?_
 refine lv (v := .agg (flat [ckI a0.Epoch, ckL s1]).toArray) rfl (r_cla (off := 0) (p := 0) (m := 2) (hI.good.ca 0 rfl) rfl ag64 h9 rfl rfl) rfl ?_
 obtain ⟨x11, hx11, hF⟩ := Option.bind_eq_some_iff.1 hF
 have hsp14 := spec_65 hx11 hT (hI.part 0) hs1
 refine fc ([]) ([.cb g3 [ckI a0.Epoch, ckL s1] 64, .cb g5 [ckI 0, ckL Sv.nil] 64]) (args := [.agg (flat [ckI a0.Epoch, ckL s1]).toArray]) fc65 rfl rfl rfl hI (argc rfl rfl) (hsp14) ?_
 rintro _ H12 _ w13 ⟨rfl, rfl⟩ hleH12 hI
 replace hI : Inv B w13 H12 [.cb g3 _ 64, .cb g5 _ 64] := hI
 refine lv (v := .bool (!x11)) rfl (r_not rfl rfl) rfl ?_
 refine wend ?_
 refine wthen ?_
 refine wren (fun ρ15 eρ15 => ?_)
 have h16 : opd ρ15 52 (.tmp 1) = s2.v := (eρ15 1).trans h8
 have h17 : opd ρ15 52 (.tmp 2) = .pointer (some ⟨g3, 0 + 0, none⟩) := (eρ15 2).trans h9
 have h18 : opd ρ15 52 (.tmp 4) = .pointer (some ⟨g5, 0 + 0, none⟩) := (eρ15 4).trans h10
 have h19 : opd ρ15 52 (.tmp 14) = .bool (!x11) := eρ15 14
 clear eρ15
 by_cases hc20 : x11 = true
 ·skip
  rw [if_pos hc20] at hF
  have hbhc20 : (!x11) = false := (by rw [hc20]; rfl)
  refine wcF (h19.trans (congrArg Value.bool hbhc20)) ?_
  refine wp_skip ?_
  refine wthen ?_
  refine wseq ?_
  refine wseq ?_
  refine wreg ?_
  refine lv (v := s2.v) rfl (r_mv rfl h16) rfl ?_
  refine lv (v := .int .i64 (a1.length : Int)) rfl (r_lenS rfl sl65 rfl (hs2.mono hleH12)) rfl ?_
  refine lv (v := .bool (decide ((1024 : Int) < (a1.length : Int)))) rfl (r_gtr rfl rfl rfl rfl) rfl ?_
  refine wend ?_
  refine wthen ?_
  refine wren (fun ρ21 eρ21 => ?_)
  have h22 : opd ρ21 52 (.tmp 1) = s2.v := (eρ21 1).trans h16
  have h23 : opd ρ21 52 (.tmp 2) = .pointer (some ⟨g3, 0 + 0, none⟩) := (eρ21 2).trans h17
  have h24 : opd ρ21 52 (.tmp 4) = .pointer (some ⟨g5, 0 + 0, none⟩) := (eρ21 4).trans h18
  have h25 : opd ρ21 52 (.tmp 18) = .bool (decide ((1024 : Int) < (a1.length : Int))) := eρ21 18
  clear eρ21
  by_cases hc26 : (1024 : Int) < (a1.length : Int)
  ·skip
   rw [if_pos hc26] at hF
   have hbhc26 : (decide ((1024 : Int) < (a1.length : Int))) = true := decide_eq_true hc26
   refine wcT (h25.trans (congrArg Value.bool hbhc26)) ?_
   refine wseq ?_
   refine wreg ?_
   refine lv (v := .agg (flat [ckI 0, ckL Sv.nil]).toArray) rfl (r_bldk (z := [[ckI 0], [ckL Sv.nil]]) (pc := []) rfl zg64 bf64 rfl rfl rfl rfl) rfl ?_
   refine lst rfl (l_st (off := 0) (p := 0) (m := 2) (new := [ckI 0, ckL Sv.nil]) hI 1 rfl rfl sz64 h24 rfl rfl rfl rfl rfl) rfl ?_
   intro w27 hI
   replace hI : Inv B w27 H12 [.cb g3 _ 64, .cb g5 _ 64] := hI
   refine lv (v := .int .i64 0) rfl (r_as rfl rfl) rfl ?_
   refine lv (v := .int .i64 11) rfl (r_as rfl rfl) rfl ?_
   refine wend ?_
   refine wthen ?_
   refine wren (fun ρ28 eρ28 => ?_)
   have h29 : opd ρ28 52 (.tmp 4) = .pointer (some ⟨g5, 0 + 0, none⟩) := (eρ28 4).trans h24
   have h30 : opd ρ28 52 (.tmp 5) = .int .i64 0 := eρ28 5
   have h31 : opd ρ28 52 (.tmp 6) = .int .i64 11 := eρ28 6
   clear eρ28
   refine wp_ret ?_
   refine thR ?_
   obtain rfl := Option.some.inj hF
   subst hB
   refine finR (rs := [.cell 4 64, .tmp 5, .tmp 6]) (vs := [.agg (flat [ckI 0, ckL Sv.nil]).toArray, .int .i64 0, .int .i64 11]) rfl ⟨⟨_, h29, ld_agg (hI.good.ca 1 rfl) ag64 rfl⟩, h30, h31, trivial⟩ ?_
   exact hI.fin 0 ⟨Sv.nil, rfl, (Sl.nil _ _), rfl⟩
  ·skip
   rw [if_neg hc26] at hF
   have hbhc26 : (decide ((1024 : Int) < (a1.length : Int))) = false := decide_eq_false hc26
   refine wcF (h25.trans (congrArg Value.bool hbhc26)) ?_
   refine wp_skip ?_
   refine wthen ?_
   refine wseq ?_
   refine wreg ?_
   refine lv (v := .agg (flat [ckI a0.Epoch, ckL s1]).toArray) rfl (r_cla (off := 0) (p := 0) (m := 2) (hI.good.ca 0 rfl) rfl ag64 h23 rfl rfl) rfl ?_
   refine le rfl (l_al hI rfl ze64) rfl ?_
   rintro _ w33 ⟨g32, rfl, hI⟩
   replace hI : Inv B w33 H12 [.cb g3 _ 64, .cb g5 _ 64, .cb g32 [ckI 0, ckL Sv.nil] 64] := hI
   refine lst rfl (l_st (off := 0) (p := 0) (m := 2) (new := [ckI a0.Epoch, ckL s1]) hI 2 rfl rfl sz64 rfl rfl rfl rfl rfl rfl) rfl ?_
   intro w34 hI
   replace hI : Inv B w34 H12 [.cb g3 _ 64, .cb g5 _ 64, .cb g32 [ckI a0.Epoch, ckL s1] 64] := hI
   refine lv (v := .int .i64 0) rfl (r_as rfl rfl) rfl ?_
   refine wend ?_
   refine wthen ?_
   refine wren (fun ρ35 eρ35 => ?_)
   have h36 : opd ρ35 52 (.tmp 1) = s2.v := (eρ35 1).trans h22
   have h37 : opd ρ35 52 (.tmp 4) = .pointer (some ⟨g5, 0 + 0, none⟩) := (eρ35 4).trans h24
   have h38 : opd ρ35 52 (.tmp 7) = .pointer (some ⟨g32, 0 + 0, none⟩) := eρ35 7
   have h39 : opd ρ35 52 (.tmp 8) = .int .i64 0 := eρ35 8
   clear eρ35
   refine wseq ?_
   refine wseq ?_
   refine wreg ?_
   refine lv (v := s2.v) rfl (r_mv rfl h36) rfl ?_
   refine lv (v := .int .i64 (a1.length : Int)) rfl (r_lenS rfl sl65 rfl (hs2.mono hleH12)) rfl ?_
   refine lv (v := .int .i64 0) rfl (r_mv rfl rfl) rfl ?_
   refine wend ?_
   refine wthen ?_
   refine wren (fun ρ40 eρ40 => ?_)
   have h41 : opd ρ40 52 (.tmp 1) = s2.v := (eρ40 1).trans h36
   have h42 : opd ρ40 52 (.tmp 4) = .pointer (some ⟨g5, 0 + 0, none⟩) := (eρ40 4).trans h37
   have h43 : opd ρ40 52 (.tmp 7) = .pointer (some ⟨g32, 0 + 0, none⟩) := (eρ40 7).trans h38
   have h44 : opd ρ40 52 (.tmp 8) = .int .i64 0 := (eρ40 8).trans h39
   have h45 : opd ρ40 52 (.tmp 21) = s2.v := eρ40 21
   have h46 : opd ρ40 52 (.tmp 22) = .int .i64 (a1.length : Int) := eρ40 22
   have h47 : opd ρ40 52 (.tmp 23) = .int .i64 0 := eρ40 23
   clear eρ40
   refine wp_block ?_
   have hbd48 := ((hs2.mono hleH12)).bd
   rw [((hs2.mono hleH12)).n] at hbd48
   obtain ⟨y48, hy48, hF48⟩ := Option.bind_eq_some_iff.1 hF
   refine wfor (n := 52) a1.length _ (fun (i48 : Nat) (σ48 : Int × Int × (List Member)) ρ' w' => ∃ (H201 : Hp) (s200 : Sv), Hle H12 H201 ∧ opd ρ' 52 (.tmp 1) = s2.v ∧ opd ρ' 52 (.tmp 4) = .pointer (some ⟨g5, 0 + 0, none⟩) ∧ opd ρ' 52 (.tmp 7) = .pointer (some ⟨g32, 0 + 0, none⟩) ∧ opd ρ' 52 (.tmp 8) = .int .i64 σ48.1 ∧ opd ρ' 52 (.tmp 21) = s2.v ∧ opd ρ' 52 (.tmp 22) = .int .i64 (a1.length : Int) ∧ opd ρ' 52 (.tmp 23) = .int .i64 (i48 : Int) ∧ Sl (Fl.ty fl_Member) H201 s200 σ48.2.2 ∧ Inv B w' H201 [.cb g5 [ckI 0, ckL Sv.nil] 64, .cb g32 [ckI σ48.2.1, ckL s200] 64]) hy48 ⟨H12, s1, (Hle.refl _), h41, h42, h43, h44, h45, h46, h47, (hs1.mono hleH12), (hI.keep [false, true, true])⟩ ?_
   rintro k48 i48 σ48 ρ209 w210 hk48 ⟨H201, s200, hleH201, h202, h203, h204, h205, h206, h207, h208, hs200, hI⟩ hy48
   refine wseq ?_
   refine wreg ?_
   refine lv (v := .bool (decide ((i48 : Int) < (a1.length : Int)))) rfl (r_lss rfl h208 h207 rfl) rfl ?_
   refine wend ?_
   refine wthen ?_
   refine wseq ?_
   by_cases hc211 : (i48 : Int) < (a1.length : Int)
   ·skip
    have hbhc211 : (decide ((i48 : Int) < (a1.length : Int))) = true := decide_eq_true hc211
    obtain ⟨k48, rfl⟩ : ∃ m, k48 = m + 1 := ⟨k48 - 1, by omega⟩
    obtain ⟨z48, hb48⟩ := forK_body hy48
    have hF := hb48
    have hlt48 : ((i48 : Nat) : Int) + 1 ≤ 9223372036854775807 := by omega
    refine wcT ((show opd _ _ _ = _ from rfl).trans (congrArg Value.bool hbhc211)) ?_
    refine wp_skip ?_
    refine wthen ?_
    refine wren (fun ρ212 eρ212 => ?_)
    have h213 : opd ρ212 52 (.tmp 1) = s2.v := (eρ212 1).trans h202
    have h214 : opd ρ212 52 (.tmp 4) = .pointer (some ⟨g5, 0 + 0, none⟩) := (eρ212 4).trans h203
    have h215 : opd ρ212 52 (.tmp 7) = .pointer (some ⟨g32, 0 + 0, none⟩) := (eρ212 7).trans h204
    have h216 : opd ρ212 52 (.tmp 8) = .int .i64 σ48.1 := (eρ212 8).trans h205
    have h217 : opd ρ212 52 (.tmp 21) = s2.v := (eρ212 21).trans h206
    have h218 : opd ρ212 52 (.tmp 22) = .int .i64 (a1.length : Int) := (eρ212 22).trans h207
    have h219 : opd ρ212 52 (.tmp 23) = .int .i64 (i48 : Int) := (eρ212 23).trans h208
    clear eρ212
    refine wseq ?_
    refine wp_block ?_
    refine wseq ?_
    refine wreg ?_
    refine lv (v := .int .i64 (i48 : Int)) rfl (r_mv rfl h219) rfl ?_
    obtain ⟨x220, hx220, hF⟩ := Option.bind_eq_some_iff.1 hF
    obtain ⟨b221, j222, _, hix223, hil224, ⟨s226, s227, s228, rfl, hs226, hs227, hs228⟩, hA225⟩ := ((hs2.mono hleH12).mono hleH201).ix hx220
    replace hA225 : At H201 b221 j222 [ckI x220.Block.Epoch, ckI x220.Block.Height, ckV flB x220.Block.Prev, ckV flB x220.Block.State, ckV flB x220.Block.Next, ckL s226, ckI x220.Cert.Round, ckL s227, ckI x220.Config.Epoch, ckL s228] := hA225
    refine lv (v := .pointer (some ⟨b221, j222 + 0, none⟩)) rfl (r_ixt rfl sl65 h217 h219 rfl hix223 hil224) rfl ?_
    refine lv (v := .agg (flat [ckI x220.Block.Epoch, ckI x220.Block.Height, ckV flB x220.Block.Prev, ckV flB x220.Block.State, ckV flB x220.Block.Next, ckL s226, ckI x220.Cert.Round, ckL s227, ckI x220.Config.Epoch, ckL s228]).toArray) rfl (r_cla (off := 0) (p := 0) (m := 10) (hA225.ca hI.good) rfl ag73 rfl rfl rfl) rfl ?_
    refine le rfl (l_al hI rfl ze73) rfl ?_
    rintro _ w230 ⟨g229, rfl, hI⟩
    replace hI : Inv B w230 H201 [.cb g5 _ 64, .cb g32 [ckI σ48.2.1, ckL s200] 64, .cb g229 [ckI 0, ckI 0, ckV flB (Vec.rep 32 0), ckV flB (Vec.rep 32 0), ckV flB (Vec.rep 32 0), ckL Sv.nil, ckI 0, ckL Sv.nil, ckI 0, ckL Sv.nil] 73] := hI
    refine lv (v := .int .i64 (i48 : Int)) rfl (r_as rfl rfl) rfl ?_
    refine lst rfl (l_st (off := 0) (p := 0) (m := 10) (new := [ckI x220.Block.Epoch, ckI x220.Block.Height, ckV flB x220.Block.Prev, ckV flB x220.Block.State, ckV flB x220.Block.Next, ckL s226, ckI x220.Cert.Round, ckL s227, ckI x220.Config.Epoch, ckL s228]) hI 2 rfl rfl sz73 rfl rfl rfl rfl rfl rfl) rfl ?_
    intro w231 hI
    replace hI : Inv B w231 H201 [.cb g5 _ 64, .cb g32 _ 64, .cb g229 [ckI x220.Block.Epoch, ckI x220.Block.Height, ckV flB x220.Block.Prev, ckV flB x220.Block.State, ckV flB x220.Block.Next, ckL s226, ckI x220.Cert.Round, ckL s227, ckI x220.Config.Epoch, ckL s228] 73] := hI
    refine wend ?_
    refine wthen ?_
    refine wren (fun ρ232 eρ232 => ?_)
    have h233 : opd ρ232 52 (.tmp 1) = s2.v := (eρ232 1).trans h213
    have h234 : opd ρ232 52 (.tmp 4) = .pointer (some ⟨g5, 0 + 0, none⟩) := (eρ232 4).trans h214
    have h235 : opd ρ232 52 (.tmp 7) = .pointer (some ⟨g32, 0 + 0, none⟩) := (eρ232 7).trans h215
    have h236 : opd ρ232 52 (.tmp 8) = .int .i64 σ48.1 := (eρ232 8).trans h216
    have h237 : opd ρ232 52 (.tmp 9) = .int .i64 (i48 : Int) := eρ232 9
    have h238 : opd ρ232 52 (.tmp 10) = .pointer (some ⟨g229, 0 + 0, none⟩) := eρ232 10
    have h239 : opd ρ232 52 (.tmp 21) = s2.v := (eρ232 21).trans h217
    have h240 : opd ρ232 52 (.tmp 22) = .int .i64 (a1.length : Int) := (eρ232 22).trans h218
    have h241 : opd ρ232 52 (.tmp 23) = .int .i64 (i48 : Int) := (eρ232 23).trans h219
    clear eρ232
    refine wseq ?_
    refine wseq ?_
    refine wreg ?_
    refine lv (v := .agg (flat [ckI σ48.2.1, ckL s200]).toArray) rfl (r_cla (off := 0) (p := 0) (m := 2) (hI.good.ca 1 rfl) rfl ag64 h235 rfl rfl) rfl ?_
    refine lv (v := .int .i64 σ48.1) rfl (r_mv rfl h236) rfl ?_
    refine lv (v := .agg (flat [ckI x220.Block.Epoch, ckI x220.Block.Height, ckV flB x220.Block.Prev, ckV flB x220.Block.State, ckV flB x220.Block.Next, ckL s226, ckI x220.Cert.Round, ckL s227, ckI x220.Config.Epoch, ckL s228]).toArray) rfl (r_cla (off := 0) (p := 0) (m := 10) (hI.good.ca 2 rfl) rfl ag73 h238 rfl rfl) rfl ?_
    obtain ⟨x242, hx242, hF⟩ := Option.bind_eq_some_iff.1 hF
    have hsp245 := spec_31 hx242 ((hT.mono hleH12).mono hleH201) (hI.part 0) hs200 hs226 hs227 hs228
    refine fc ([]) ([.cb g5 [ckI 0, ckL Sv.nil] 64, .cb g32 [ckI σ48.2.1, ckL s200] 64, .cb g229 [ckI x220.Block.Epoch, ckI x220.Block.Height, ckV flB x220.Block.Prev, ckV flB x220.Block.State, ckV flB x220.Block.Next, ckL s226, ckI x220.Cert.Round, ckL s227, ckI x220.Config.Epoch, ckL s228] 73]) (args := [.agg (flat [ckI σ48.2.1, ckL s200]).toArray, .int .i64 σ48.1, .agg (flat [ckI x220.Block.Epoch, ckI x220.Block.Height, ckV flB x220.Block.Prev, ckV flB x220.Block.State, ckV flB x220.Block.Next, ckL s226, ckI x220.Cert.Round, ckL s227, ckI x220.Config.Epoch, ckL s228]).toArray]) fc31 rfl rfl rfl hI (argc rfl (argc rfl (argc rfl rfl))) (hsp245) ?_
    rintro _ H243 _ w244 ⟨rfl, rfl⟩ hleH243 hI
    replace hI : Inv B w244 H243 [.cb g5 _ 64, .cb g32 _ 64, .cb g229 _ 73] := hI
    refine lv (v := .int .i64 x242) rfl (r_as rfl rfl) rfl ?_
    refine wend ?_
    refine wthen ?_
    refine wren (fun ρ246 eρ246 => ?_)
    have h247 : opd ρ246 52 (.tmp 1) = s2.v := (eρ246 1).trans h233
    have h248 : opd ρ246 52 (.tmp 4) = .pointer (some ⟨g5, 0 + 0, none⟩) := (eρ246 4).trans h234
    have h249 : opd ρ246 52 (.tmp 7) = .pointer (some ⟨g32, 0 + 0, none⟩) := (eρ246 7).trans h235
    have h250 : opd ρ246 52 (.tmp 9) = .int .i64 (i48 : Int) := (eρ246 9).trans h237
    have h251 : opd ρ246 52 (.tmp 10) = .pointer (some ⟨g229, 0 + 0, none⟩) := (eρ246 10).trans h238
    have h252 : opd ρ246 52 (.tmp 11) = .int .i64 x242 := eρ246 11
    have h253 : opd ρ246 52 (.tmp 21) = s2.v := (eρ246 21).trans h239
    have h254 : opd ρ246 52 (.tmp 22) = .int .i64 (a1.length : Int) := (eρ246 22).trans h240
    have h255 : opd ρ246 52 (.tmp 23) = .int .i64 (i48 : Int) := (eρ246 23).trans h241
    clear eρ246
    refine wseq ?_
    refine wreg ?_
    refine lv (v := .int .i64 x242) rfl (r_mv rfl h252) rfl ?_
    refine lv (v := .bool (decide (x242 ≠ 0))) rfl (r_neq rfl rfl rfl rfl) rfl ?_
    refine wend ?_
    refine wthen ?_
    refine wren (fun ρ256 eρ256 => ?_)
    have h257 : opd ρ256 52 (.tmp 1) = s2.v := (eρ256 1).trans h247
    have h258 : opd ρ256 52 (.tmp 4) = .pointer (some ⟨g5, 0 + 0, none⟩) := (eρ256 4).trans h248
    have h259 : opd ρ256 52 (.tmp 7) = .pointer (some ⟨g32, 0 + 0, none⟩) := (eρ256 7).trans h249
    have h260 : opd ρ256 52 (.tmp 9) = .int .i64 (i48 : Int) := (eρ256 9).trans h250
    have h261 : opd ρ256 52 (.tmp 10) = .pointer (some ⟨g229, 0 + 0, none⟩) := (eρ256 10).trans h251
    have h262 : opd ρ256 52 (.tmp 11) = .int .i64 x242 := (eρ256 11).trans h252
    have h263 : opd ρ256 52 (.tmp 21) = s2.v := (eρ256 21).trans h253
    have h264 : opd ρ256 52 (.tmp 22) = .int .i64 (a1.length : Int) := (eρ256 22).trans h254
    have h265 : opd ρ256 52 (.tmp 23) = .int .i64 (i48 : Int) := (eρ256 23).trans h255
    have h266 : opd ρ256 52 (.tmp 33) = .bool (decide (x242 ≠ 0)) := eρ256 33
    clear eρ256
    by_cases hc267 : x242 ≠ 0
    ·skip
     rw [if_pos hc267] at hF
     have hbhc267 : (decide (x242 ≠ 0)) = true := decide_eq_true hc267
     refine wcT (h266.trans (congrArg Value.bool hbhc267)) ?_
     refine wseq ?_
     refine wreg ?_
     refine lv (v := .agg (flat [ckI 0, ckL Sv.nil]).toArray) rfl (r_bldk (z := [[ckI 0], [ckL Sv.nil]]) (pc := []) rfl zg64 bf64 rfl rfl rfl rfl) rfl ?_
     refine lv (v := .int .i64 (i48 : Int)) rfl (r_mv rfl h260) rfl ?_
     refine lv (v := .int .i64 x242) rfl (r_mv rfl h262) rfl ?_
     refine lst rfl (l_st (off := 0) (p := 0) (m := 2) (new := [ckI 0, ckL Sv.nil]) hI 0 rfl rfl sz64 h258 rfl rfl rfl rfl rfl) rfl ?_
     intro w268 hI
     replace hI : Inv B w268 H243 [.cb g5 _ 64, .cb g32 _ 64, .cb g229 _ 73] := hI
     refine lv (v := .int .i64 (i48 : Int)) rfl (r_as rfl rfl) rfl ?_
     refine lv (v := .int .i64 x242) rfl (r_as rfl rfl) rfl ?_
     refine wend ?_
     refine wthen ?_
     refine wren (fun ρ269 eρ269 => ?_)
     have h270 : opd ρ269 52 (.tmp 4) = .pointer (some ⟨g5, 0 + 0, none⟩) := (eρ269 4).trans h258
     have h271 : opd ρ269 52 (.tmp 5) = .int .i64 (i48 : Int) := eρ269 5
     have h272 : opd ρ269 52 (.tmp 6) = .int .i64 x242 := eρ269 6
     clear eρ269
     refine wp_ret ?_
     refine thR ?_
     refine inR ?_
     refine thR ?_
     refine thR ?_
     obtain ⟨q273, hFn, hzq273⟩ := Option.map_eq_some_iff.1 hF
     clear hF
     obtain rfl := forK_inr hy48 (hb48.trans (congrArg some hzq273.symm))
     have hF0 := hF48
     try dsimp only at hF0
     have hF := hFn.trans hF0
     clear hFn hF0
     refine inR ?_
     refine thR ?_
     obtain rfl := Option.some.inj hF
     subst hB
     refine finR (rs := [.cell 4 64, .tmp 5, .tmp 6]) (vs := [.agg (flat [ckI 0, ckL Sv.nil]).toArray, .int .i64 (i48 : Int), .int .i64 x242]) rfl ⟨⟨_, h270, ld_agg (hI.good.ca 0 rfl) ag64 rfl⟩, h271, h272, trivial⟩ ?_
     exact hI.fin 0 ⟨Sv.nil, rfl, (Sl.nil _ _), rfl⟩
    ·skip
     rw [if_neg hc267] at hF
     have hbhc267 : (decide (x242 ≠ 0)) = false := decide_eq_false hc267
     refine wcF (h266.trans (congrArg Value.bool hbhc267)) ?_
     refine wp_skip ?_
     refine wthen ?_
     refine dstG (H0 := H243) (L0 := keepL [true, false, true] [.cb g5 [ckI 0, ckL Sv.nil] 64, .cb g32 [ckI σ48.2.1, ckL s200] 64, .cb g229 [ckI x220.Block.Epoch, ckI x220.Block.Height, ckV flB x220.Block.Prev, ckV flB x220.Block.State, ckV flB x220.Block.Next, ckL s226, ckI x220.Cert.Round, ckL s227, ckI x220.Config.Epoch, ckL s228] 73]) [] mixed rfl (by repeat (first | exact Pan.body | refine Pan.then ?_ | refine Pan.inBlock ?_ | refine Pan.noGoto ?_ | refine Pan.pure ?_)) hI (hI.good.weakm _ (Hle.refl _) rfl) ?_
     intro w274 hI hP
     refine dp (v := .pointer (some ⟨g229, 0 + 101, none⟩)) 0 (by kernel_rfl) rfl rfl (fun _ => l_fa (j := 0) (i := 0) rfl fl73_2 h261 rfl) rfl hP ?_
     refine dp (v := .pointer (some ⟨g229, 0 + 0, none⟩)) 2 (by kernel_rfl) rfl rfl (fun _ => l_fa (j := 0) (i := 0) rfl fl73_0 h261 rfl) rfl hP ?_
     refine dp (v := .pointer (some ⟨g229, 0 + 1, none⟩)) 3 (by kernel_rfl) rfl rfl (fun _ => l_fa (j := 0) (i := 0) rfl fl69_1 rfl rfl) rfl hP ?_
     refine dr (v := .agg (flat [ckI x220.Config.Epoch, ckL s228]).toArray) 1 (by kernel_rfl) rfl rfl (hI.good.weakm [true, false, true] (Hle.refl _) rfl) (fun _ hG => r_cla (off := 101) (p := 8) (m := 2) (hG.ca 1 rfl) rfl ag64 rfl rfl rfl) rfl hP ?_
     refine dr (v := .int .i64 x220.Block.Height) 4 (by kernel_rfl) rfl rfl (hI.good.weakm [true, false, true] (Hle.refl _) rfl) (fun _ hG => r_cl1 (off := 1) (p := 1) (hG.ca 1 rfl) rfl sc3 rfl rfl rfl) rfl hP ?_
     refine dst 5 (by kernel_rfl) rfl rfl rfl (l_st (off := 0) (p := 0) (m := 2) (new := [ckI x220.Config.Epoch, ckL s228]) hI 1 rfl rfl sz64 h259 rfl rfl rfl rfl rfl) rfl ?_
     intro w275 hI
     replace hI : Inv B w275 H243 [.cb g5 _ 64, .cb g32 [ckI x220.Config.Epoch, ckL s228] 64, .cb g229 _ 73] := hI
     refine ⟨(hI.good.weakm [true, false, true] (Hle.refl _) rfl), ?_⟩
     refine dp (v := .int .i64 x220.Block.Height) 6 (by kernel_rfl) rfl rfl (fun _ => r_as rfl rfl) rfl hP ?_
     refine dend (by kernel_rfl) ?_
     refine inN ?_
     refine wthen ?_
     refine wren (fun ρ276 eρ276 => ?_)
     have h277 : opd ρ276 52 (.tmp 1) = s2.v := (eρ276 1).trans h257
     have h278 : opd ρ276 52 (.tmp 4) = .pointer (some ⟨g5, 0 + 0, none⟩) := (eρ276 4).trans h258
     have h279 : opd ρ276 52 (.tmp 7) = .pointer (some ⟨g32, 0 + 0, none⟩) := (eρ276 7).trans h259
     have h280 : opd ρ276 52 (.tmp 8) = .int .i64 x220.Block.Height := eρ276 8
     have h281 : opd ρ276 52 (.tmp 21) = s2.v := (eρ276 21).trans h263
     have h282 : opd ρ276 52 (.tmp 22) = .int .i64 (a1.length : Int) := (eρ276 22).trans h264
     have h283 : opd ρ276 52 (.tmp 23) = .int .i64 (i48 : Int) := (eρ276 23).trans h265
     clear eρ276
     refine wreg ?_
     refine lv (v := .int .i64 ((i48 + 1 : Nat) : Int)) rfl (r_addn rfl h283 rfl hlt48) rfl ?_
     refine lv (v := .int .i64 ((i48 + 1 : Nat) : Int)) rfl (r_mv rfl rfl) rfl ?_
     refine wend ?_
     obtain rfl := Option.some.inj hF
     exact ⟨k48, (x220.Block.Height, x220.Config.Epoch, x220.Config.Members), _, rfl, rfl, ⟨H243, s228, (hleH201.trans hleH243), h277, h278, h279, h280, h281, h282, rfl, (hs228.mono hleH243), (hI.keep [true, true, false])⟩, forK_inl hy48 hb48⟩
   ·skip
    have hbhc211 : (decide ((i48 : Int) < (a1.length : Int))) = false := decide_eq_false hc211
    obtain rfl : k48 = 0 := by omega
    obtain rfl := forK_end hy48
    have hF := hF48
    try dsimp only at hF
    refine wcF ((show opd _ _ _ = _ from rfl).trans (congrArg Value.bool hbhc211)) ?_
    refine wp_exit ?_
    refine thE ?_
    refine thE ?_
    refine inX ?_
    refine wthen ?_
    refine wren (fun ρ284 eρ284 => ?_)
    have h285 : opd ρ284 52 (.tmp 1) = s2.v := (eρ284 1).trans h202
    have h286 : opd ρ284 52 (.tmp 4) = .pointer (some ⟨g5, 0 + 0, none⟩) := (eρ284 4).trans h203
    have h287 : opd ρ284 52 (.tmp 7) = .pointer (some ⟨g32, 0 + 0, none⟩) := (eρ284 7).trans h204
    clear eρ284
    refine wseq ?_
    refine dstG (H0 := H201) (L0 := keepL [true, true] [.cb g5 [ckI 0, ckL Sv.nil] 64, .cb g32 [ckI σ48.2.1, ckL s200] 64]) [9] mixed rfl (by repeat (first | exact Pan.body | refine Pan.then ?_ | refine Pan.inBlock ?_ | refine Pan.noGoto ?_ | refine Pan.pure ?_)) hI (hI.good.weakm _ (Hle.refl _) rfl) ?_
    intro w288 hI hP
    refine dp (v := .pointer (some ⟨g32, 0 + 0, none⟩)) 0 (by kernel_rfl) rfl rfl (fun _ => l_fa (j := 0) (i := 0) rfl fl64_0 h287 rfl) rfl hP ?_
    refine dp (v := .pointer (some ⟨g32, 0 + 1, none⟩)) 3 (by kernel_rfl) rfl rfl (fun _ => l_fa (j := 0) (i := 0) rfl fl64_1 h287 rfl) rfl hP ?_
    refine dp (v := s2.v) 7 (by kernel_rfl) rfl rfl (fun _ => r_mv rfl h285) rfl hP ?_
    refine dp (v := .int .i64 (a1.length : Int)) 8 (by kernel_rfl) rfl rfl (fun _ => r_lenS rfl sl65 rfl ((hs2.mono hleH12).mono hleH201)) rfl hP ?_
    refine dr (v := .int .i64 σ48.2.1) 1 (by kernel_rfl) rfl rfl (hI.good.weakm [true, true] (Hle.refl _) rfl) (fun _ hG => r_cl1 (off := 0) (p := 0) (hG.ca 1 rfl) rfl sc3 rfl rfl rfl) rfl hP ?_
    refine dr (v := s200.v) 4 (by kernel_rfl) rfl rfl (hI.good.weakm [true, true] (Hle.refl _) rfl) (fun _ hG => r_cl1 (off := 1) (p := 1) (hG.ca 1 rfl) rfl sc62 rfl rfl rfl) rfl hP ?_
    refine de 2 (by kernel_rfl) rfl rfl rfl (l_bs (t := (Fl.ty fl_Member)) (vs := []) (xs := []) hI rfl sl62 inf114 rfl rfl rfl .nil rfl) rfl ?_
    rintro _ w291 ⟨s289, H290, rfl, hI, hleH290, hs289, hfs289, hgs289⟩
    refine ⟨(hI.good.weakm [true, true] hleH290 rfl), ?_⟩
    replace hI := Inv.full (e := 114) (sz := 34) hI (show s289.n = s289.c from hfs289)
    replace hI : Inv B w291 H290 [.cb g5 _ 64, .cb g32 _ 64, .own s289 114 34 none] := hI
    obtain ⟨x293, hx293, hF⟩ := Option.bind_eq_some_iff.1 hF
    refine de 5 (by kernel_rfl) rfl rfl rfl (l_app (t := (Fl.ty fl_Member)) hI 2 rfl rfl sl62 inf114 rfl rfl rfl rfl hs289 (hs200.mono hleH290) (appI_some hx293).1) rfl ?_
    rintro _ w297 ⟨s294, H295, gg296, rfl, hI, hleH295, hs294⟩
    rw [← (appI_some hx293).2] at hs294
    replace hI : Inv B w297 H295 [.cb g5 _ 64, .cb g32 _ 64, .own s294 114 34 gg296] := hI
    refine ⟨(hI.good.weakm [true, true, false] (hleH290.trans hleH295) rfl), ?_⟩
    refine dp (v := .agg (flat [ckI σ48.2.1, ckL s294]).toArray) 6 (by kernel_rfl) rfl rfl (fun _ => r_bldk (z := [[ckI 0], [ckL Sv.nil]]) (pc := [(0, [ckI σ48.2.1]), (1, [ckL s294])]) rfl zg64 bf64 rfl (argc (congrArg Value.cells rfl) (argc (congrArg Value.cells rfl) rfl)) rfl rfl) rfl hP ?_
    refine dsl 9 (by kernel_rfl) rfl rfl rfl (l_st (off := 0) (p := 0) (m := 2) (new := [ckI σ48.2.1, ckL s294]) hI 0 rfl rfl sz64 h286 rfl rfl rfl rfl rfl) rfl ?_
    intro w298 hI
    replace hI : Inv B w298 H295 [.cb g5 [ckI σ48.2.1, ckL s294] 64, .cb g32 _ 64, .own s294 114 34 gg296] := hI
    refine dp (v := .int .i64 (a1.length : Int)) 10 (by kernel_rfl) rfl rfl (fun _ => r_as rfl rfl) rfl hP ?_
    refine dp (v := .int .i64 0) 11 (by kernel_rfl) rfl rfl (fun _ => r_as rfl rfl) rfl hP ?_
    refine dend (by kernel_rfl) ?_
    refine wthen ?_
    refine wren (fun ρ299 eρ299 => ?_)
    have h300 : opd ρ299 52 (.tmp 4) = .pointer (some ⟨g5, 0 + 0, none⟩) := (eρ299 4).trans h286
    have h301 : opd ρ299 52 (.tmp 5) = .int .i64 (a1.length : Int) := eρ299 5
    have h302 : opd ρ299 52 (.tmp 6) = .int .i64 0 := eρ299 6
    clear eρ299
    refine wp_ret ?_
    obtain rfl := Option.some.inj hF
    subst hB
    refine finR (rs := [.cell 4 64, .tmp 5, .tmp 6]) (vs := [.agg (flat [ckI σ48.2.1, ckL s294]).toArray, .int .i64 (a1.length : Int), .int .i64 0]) rfl ⟨⟨_, h300, ld_agg (hI.good.ca 0 rfl) ag64 rfl⟩, h301, h302, trivial⟩ ?_
    exact hI.fin 0 ⟨s294, rfl, hs294, rfl⟩
 ·skip
  rw [if_neg hc20] at hF
  have hbhc20 : (!x11) = true := (by rw [(Bool.eq_false_iff.2 hc20)]; rfl)
  refine wcT (h19.trans (congrArg Value.bool hbhc20)) ?_
  refine wseq ?_
  refine wreg ?_
  refine lv (v := .agg (flat [ckI 0, ckL Sv.nil]).toArray) rfl (r_bldk (z := [[ckI 0], [ckL Sv.nil]]) (pc := []) rfl zg64 bf64 rfl rfl rfl rfl) rfl ?_
  refine lst rfl (l_st (off := 0) (p := 0) (m := 2) (new := [ckI 0, ckL Sv.nil]) hI 1 rfl rfl sz64 h18 rfl rfl rfl rfl rfl) rfl ?_
  intro w303 hI
  replace hI : Inv B w303 H12 [.cb g3 _ 64, .cb g5 _ 64] := hI
  refine lv (v := .int .i64 0) rfl (r_as rfl rfl) rfl ?_
  refine lv (v := .int .i64 1) rfl (r_as rfl rfl) rfl ?_
  refine wend ?_
  refine wthen ?_
  refine wren (fun ρ304 eρ304 => ?_)
  have h305 : opd ρ304 52 (.tmp 4) = .pointer (some ⟨g5, 0 + 0, none⟩) := (eρ304 4).trans h18
  have h306 : opd ρ304 52 (.tmp 5) = .int .i64 0 := eρ304 5
  have h307 : opd ρ304 52 (.tmp 6) = .int .i64 1 := eρ304 6
  clear eρ304
  refine wp_ret ?_
  refine thR ?_
  obtain rfl := Option.some.inj hF
  subst hB
  refine finR (rs := [.cell 4 64, .tmp 5, .tmp 6]) (vs := [.agg (flat [ckI 0, ckL Sv.nil]).toArray, .int .i64 0, .int .i64 1]) rfl ⟨⟨_, h305, ld_agg (hI.good.ca 1 rfl) ag64 rfl⟩, h306, h307, trivial⟩ ?_
  exact hI.fin 0 ⟨Sv.nil, rfl, (Sl.nil _ _), rfl⟩
noncomputable def M_wapentakelaw15_alive  : Option (Bool) := ((M_chain_Check (⟨0, [(⟨1, (⟨(Vec.rep 32 0), 0⟩ : Key)⟩ : Member)]⟩ : Config) []).bind fun x10 => (if x10.2.2 = 0 then (if x10.2.1 = 0 then (if (x10.1.Members.length : Int) = 1 then ((M_chain_Step (⟨0, [(⟨1, (⟨(Vec.rep 32 0), 0⟩ : Key)⟩ : Member)]⟩ : Config) 0 (⟨(⟨0, 0, (Vec.rep 32 0), (Vec.rep 32 0), (Vec.rep 32 0), []⟩ : Block), (⟨0, []⟩ : Cert), (⟨0, []⟩ : Config)⟩ : Link)).bind fun x26 => some (decide (x26 = 12))) else some false) else some false) else some false))
set_option maxHeartbeats 4000000 in
theorem spec_29 {w : World} {H : Hp}   {r : Bool} (hF : M_wapentakelaw15_alive  = some r) (hT : Tab H) (hG : Good w H [])  :
  Fine Tryd.prog 29 [] w H [] (fun H' v L' => v = .bool r ∧ L' = []) := by
 unfold M_wapentakelaw15_alive at hF
 unfold Fine
 obtain ⟨B, hB⟩ : ∃ B : Base, B = ⟨w, H, blks []⟩ := ⟨_, rfl⟩
 have hI : Inv B w H [] := by rw [hB]; exact Inv.start hG
 refine enter (n := 32) (args := []) Tryd.func29 rfl Tryd.ntmps29 (Nat.le_of_ble_eq_true rfl) ?_
 refine wseq ?_
 refine wreg ?_
 refine lv (v := .bool false) rfl (r_as rfl rfl) rfl ?_
 refine wend ?_
 refine wthen ?_
 refine wren (fun ρ1 eρ1 => ?_)
 clear eρ1
 refine wseq ?_
 refine wreg ?_
 refine lv (v := .agg (flat [ckI 1, ckV flB (Vec.rep 32 0), ckI 0]).toArray) rfl (r_bldk (z := [[ckI 0], [ckV flB (Vec.rep 32 0), ckI 0]]) (pc := [(0, [ckI 1])]) rfl zg114 bf114 rfl (argc (congrArg Value.cells rfl) rfl) rfl rfl) rfl ?_
 refine le rfl (l_bs (t := (Fl.ty fl_Member)) (vs := [.agg (flat [ckI 1, ckV flB (Vec.rep 32 0), ckI 0]).toArray]) (xs := [(⟨1, (⟨(Vec.rep 32 0), 0⟩ : Key)⟩ : Member)]) hI rfl sl62 inf114 rfl rfl (argc rfl rfl) (.cons rfl rfl .nil) rfl) rfl ?_
 rintro _ w4 ⟨s2, H3, rfl, hI, hleH3, hs2, hfs2, hgs2⟩
 refine lv (v := .agg (flat [ckI 0, ckL s2]).toArray) rfl (r_bldk (z := [[ckI 0], [ckL Sv.nil]]) (pc := [(1, [ckL s2])]) rfl zg64 bf64 rfl (argc (congrArg Value.cells rfl) rfl) rfl rfl) rfl ?_
 refine le rfl (l_al hI rfl ze64) rfl ?_
 rintro _ w6 ⟨g5, rfl, hI⟩
 replace hI : Inv B w6 H3 [.cb g5 [ckI 0, ckL Sv.nil] 64] := hI
 refine lst rfl (l_st (off := 0) (p := 0) (m := 2) (new := [ckI 0, ckL s2]) hI 0 rfl rfl sz64 rfl rfl rfl rfl rfl rfl) rfl ?_
 intro w7 hI
 replace hI : Inv B w7 H3 [.cb g5 [ckI 0, ckL s2] 64] := hI
 refine wend ?_
 refine wthen ?_
 refine wren (fun ρ8 eρ8 => ?_)
 have h9 : opd ρ8 32 (.tmp 1) = .pointer (some ⟨g5, 0 + 0, none⟩) := eρ8 1
 clear eρ8
 refine wseq ?_
 refine wreg ?_
 refine lv (v := .agg (flat [ckI 0, ckL s2]).toArray) rfl (r_cla (off := 0) (p := 0) (m := 2) (hI.good.ca 0 rfl) rfl ag64 h9 rfl rfl) rfl ?_
 obtain ⟨x10, hx10, hF⟩ := Option.bind_eq_some_iff.1 hF
 have hsp13 := spec_33 hx10 (hT.mono hleH3) (hI.part 0) hs2 (Sl.nil _ _)
 refine fc ([]) ([.cb g5 [ckI 0, ckL s2] 64]) (args := [.agg (flat [ckI 0, ckL s2]).toArray, Sv.nil.v]) fc33 rfl rfl rfl hI (argc rfl (argc rfl rfl)) (hsp13) ?_
 rintro _ H11 _ w12 ⟨s14, rfl, hs14, rfl⟩ hleH11 hI
 replace hI : Inv B w12 H11 [.cb g5 _ 64] := hI
 refine lv (v := .tuple #[.agg (flat [ckI x10.1.Epoch, ckL s14]).toArray, .int .i64 x10.2.1, .int .i64 x10.2.2]) rfl (r_mv rfl rfl) rfl ?_
 refine lv (v := .agg (flat [ckI x10.1.Epoch, ckL s14]).toArray) rfl (r_ext rfl rfl rfl) rfl ?_
 refine lv (v := .int .i64 x10.2.1) rfl (r_ext rfl rfl rfl) rfl ?_
 refine lv (v := .int .i64 x10.2.2) rfl (r_ext rfl rfl rfl) rfl ?_
 refine le rfl (l_al hI rfl ze64) rfl ?_
 rintro _ w16 ⟨g15, rfl, hI⟩
 replace hI : Inv B w16 H11 [.cb g5 _ 64, .cb g15 [ckI 0, ckL Sv.nil] 64] := hI
 refine lst rfl (l_st (off := 0) (p := 0) (m := 2) (new := [ckI x10.1.Epoch, ckL s14]) hI 1 rfl rfl sz64 rfl rfl rfl rfl rfl rfl) rfl ?_
 intro w17 hI
 replace hI : Inv B w17 H11 [.cb g5 _ 64, .cb g15 [ckI x10.1.Epoch, ckL s14] 64] := hI
 refine lv (v := .int .i64 x10.2.1) rfl (r_as rfl rfl) rfl ?_
 refine lv (v := .int .i64 x10.2.2) rfl (r_as rfl rfl) rfl ?_
 refine wend ?_
 refine wthen ?_
 refine wren (fun ρ18 eρ18 => ?_)
 have h19 : opd ρ18 32 (.tmp 1) = .pointer (some ⟨g5, 0 + 0, none⟩) := (eρ18 1).trans h9
 have h20 : opd ρ18 32 (.tmp 2) = .pointer (some ⟨g15, 0 + 0, none⟩) := eρ18 2
 have h21 : opd ρ18 32 (.tmp 3) = .int .i64 x10.2.1 := eρ18 3
 have h22 : opd ρ18 32 (.tmp 4) = .int .i64 x10.2.2 := eρ18 4
 clear eρ18
 refine wseq ?_
 refine wreg ?_
 refine lv (v := .int .i64 x10.2.2) rfl (r_mv rfl h22) rfl ?_
 refine lv (v := .bool (decide (x10.2.2 = 0))) rfl (r_eql rfl rfl rfl rfl) rfl ?_
 by_cases hc23 : x10.2.2 = 0
 ·skip
  rw [if_pos hc23] at hF
  have hbhc23 : (decide (x10.2.2 = 0)) = true := decide_eq_true hc23
  refine lv (v := .bool true) rfl (r_mv rfl ((show opd _ _ _ = _ from rfl).trans (congrArg Value.bool hbhc23))) rfl ?_
  refine lv (v := .int .i64 x10.2.1) rfl (r_mv rfl h21) rfl ?_
  refine lv (v := .bool (decide (x10.2.1 = 0))) rfl (r_eql rfl rfl rfl rfl) rfl ?_
  refine lv (v := .bool (decide (x10.2.1 = 0))) rfl (r_pkT rfl rfl rfl) rfl ?_
  by_cases hc24 : x10.2.1 = 0
  ·skip
   rw [if_pos hc24] at hF
   have hbhc24 : (decide (x10.2.1 = 0)) = true := decide_eq_true hc24
   refine lv (v := .bool true) rfl (r_mv rfl ((show opd _ _ _ = _ from rfl).trans (congrArg Value.bool hbhc24))) rfl ?_
   refine lv (v := .pointer (some ⟨g15, 0 + 1, none⟩)) rfl (l_fa (j := 0) (i := 0) rfl fl64_1 h20 rfl) rfl ?_
   refine lv (v := s14.v) rfl (r_cl1 (off := 1) (p := 1) (hI.good.ca 1 rfl) rfl sc62 rfl rfl rfl) rfl ?_
   refine lv (v := .int .i64 (x10.1.Members.length : Int)) rfl (r_lenS rfl sl62 rfl hs14) rfl ?_
   refine lv (v := .bool (decide ((x10.1.Members.length : Int) = 1))) rfl (r_eql rfl rfl rfl rfl) rfl ?_
   refine lv (v := .bool (decide ((x10.1.Members.length : Int) = 1))) rfl (r_pkT rfl rfl rfl) rfl ?_
   by_cases hc25 : (x10.1.Members.length : Int) = 1
   ·skip
    rw [if_pos hc25] at hF
    have hbhc25 : (decide ((x10.1.Members.length : Int) = 1)) = true := decide_eq_true hc25
    refine lv (v := .bool true) rfl (r_mv rfl ((show opd _ _ _ = _ from rfl).trans (congrArg Value.bool hbhc25))) rfl ?_
    refine lv (v := .agg (flat [ckI 0, ckL s2]).toArray) rfl (r_cla (off := 0) (p := 0) (m := 2) (hI.good.ca 0 rfl) rfl ag64 h19 rfl rfl) rfl ?_
    refine lv (v := .agg (flat [ckI 0, ckI 0, ckV flB (Vec.rep 32 0), ckV flB (Vec.rep 32 0), ckV flB (Vec.rep 32 0), ckL Sv.nil, ckI 0, ckL Sv.nil, ckI 0, ckL Sv.nil]).toArray) rfl (r_bldk (z := [[ckI 0, ckI 0, ckV flB (Vec.rep 32 0), ckV flB (Vec.rep 32 0), ckV flB (Vec.rep 32 0), ckL Sv.nil], [ckI 0, ckL Sv.nil], [ckI 0, ckL Sv.nil]]) (pc := []) rfl zg73 bf73 rfl rfl rfl rfl) rfl ?_
    obtain ⟨x26, hx26, hF⟩ := Option.bind_eq_some_iff.1 hF
    have hsp29 := spec_31 hx26 ((hT.mono hleH3).mono hleH11) (hI.part 0) (hs2.mono hleH11) (Sl.nil _ _) (Sl.nil _ _) (Sl.nil _ _)
    refine fc ([]) ([.cb g5 [ckI 0, ckL s2] 64, .cb g15 [ckI x10.1.Epoch, ckL s14] 64]) (args := [.agg (flat [ckI 0, ckL s2]).toArray, .int .i64 0, .agg (flat [ckI 0, ckI 0, ckV flB (Vec.rep 32 0), ckV flB (Vec.rep 32 0), ckV flB (Vec.rep 32 0), ckL Sv.nil, ckI 0, ckL Sv.nil, ckI 0, ckL Sv.nil]).toArray]) fc31 rfl rfl rfl hI (argc rfl (argc rfl (argc rfl rfl))) (hsp29) ?_
    rintro _ H27 _ w28 ⟨rfl, rfl⟩ hleH27 hI
    replace hI : Inv B w28 H27 [.cb g5 _ 64, .cb g15 _ 64] := hI
    refine lv (v := .bool (decide (x26 = 12))) rfl (r_eql rfl rfl rfl rfl) rfl ?_
    refine lv (v := .bool (decide (x26 = 12))) rfl (r_pkT rfl rfl rfl) rfl ?_
    refine lv (v := .bool (decide (x26 = 12))) rfl (r_as rfl rfl) rfl ?_
    refine wend ?_
    refine wthen ?_
    refine wren (fun ρ30 eρ30 => ?_)
    have h31 : opd ρ30 32 (.tmp 0) = .bool (decide (x26 = 12)) := eρ30 0
    clear eρ30
    refine wp_ret ?_
    obtain rfl := Option.some.inj hF
    subst hB
    refine finR (rs := [.tmp 0]) (vs := [.bool (decide (x26 = 12))]) rfl ⟨h31, trivial⟩ ?_
    exact hI.fin 0 ⟨rfl, rfl⟩
   ·skip
    rw [if_neg hc25] at hF
    have hbhc25 : (decide ((x10.1.Members.length : Int) = 1)) = false := decide_eq_false hc25
    refine lv (v := .bool false) rfl (r_mv rfl ((show opd _ _ _ = _ from rfl).trans (congrArg Value.bool hbhc25))) rfl ?_
    with_reducible refine lx (d := 27) (by kernel_rfl) (by kernel_rfl) ?_
    with_reducible refine lx (d := 28) (by kernel_rfl) (by kernel_rfl) ?_
    with_reducible refine lx (d := 29) (by kernel_rfl) (by kernel_rfl) ?_
    with_reducible refine lx (d := 30) (by kernel_rfl) (by kernel_rfl) ?_
    refine lv (v := .bool false) rfl (r_pkF rfl rfl rfl) rfl ?_
    refine lv (v := .bool false) rfl (r_as rfl rfl) rfl ?_
    refine wend ?_
    refine wthen ?_
    refine wren (fun ρ32 eρ32 => ?_)
    have h33 : opd ρ32 32 (.tmp 0) = .bool false := eρ32 0
    clear eρ32
    refine wp_ret ?_
    obtain rfl := Option.some.inj hF
    subst hB
    refine finR (rs := [.tmp 0]) (vs := [.bool false]) rfl ⟨h33, trivial⟩ ?_
    exact hI.fin 0 ⟨rfl, rfl⟩
  ·skip
   rw [if_neg hc24] at hF
   have hbhc24 : (decide (x10.2.1 = 0)) = false := decide_eq_false hc24
   refine lv (v := .bool false) rfl (r_mv rfl ((show opd _ _ _ = _ from rfl).trans (congrArg Value.bool hbhc24))) rfl ?_
   with_reducible refine lx (d := 21) (by kernel_rfl) (by kernel_rfl) ?_
   with_reducible refine lx (d := 22) (by kernel_rfl) (by kernel_rfl) ?_
   with_reducible refine lx (d := 23) (by kernel_rfl) (by kernel_rfl) ?_
   with_reducible refine lx (d := 24) (by kernel_rfl) (by kernel_rfl) ?_
   refine lv (v := .bool false) rfl (r_pkF rfl rfl rfl) rfl ?_
   refine lv (v := .bool false) rfl (r_mv rfl rfl) rfl ?_
   with_reducible refine lx (d := 27) (by kernel_rfl) (by kernel_rfl) ?_
   with_reducible refine lx (d := 28) (by kernel_rfl) (by kernel_rfl) ?_
   with_reducible refine lx (d := 29) (by kernel_rfl) (by kernel_rfl) ?_
   with_reducible refine lx (d := 30) (by kernel_rfl) (by kernel_rfl) ?_
   refine lv (v := .bool false) rfl (r_pkF rfl rfl rfl) rfl ?_
   refine lv (v := .bool false) rfl (r_as rfl rfl) rfl ?_
   refine wend ?_
   refine wthen ?_
   refine wren (fun ρ34 eρ34 => ?_)
   have h35 : opd ρ34 32 (.tmp 0) = .bool false := eρ34 0
   clear eρ34
   refine wp_ret ?_
   obtain rfl := Option.some.inj hF
   subst hB
   refine finR (rs := [.tmp 0]) (vs := [.bool false]) rfl ⟨h35, trivial⟩ ?_
   exact hI.fin 0 ⟨rfl, rfl⟩
 ·skip
  rw [if_neg hc23] at hF
  have hbhc23 : (decide (x10.2.2 = 0)) = false := decide_eq_false hc23
  refine lv (v := .bool false) rfl (r_mv rfl ((show opd _ _ _ = _ from rfl).trans (congrArg Value.bool hbhc23))) rfl ?_
  with_reducible refine lx (d := 17) (by kernel_rfl) (by kernel_rfl) ?_
  with_reducible refine lx (d := 18) (by kernel_rfl) (by kernel_rfl) ?_
  refine lv (v := .bool false) rfl (r_pkF rfl rfl rfl) rfl ?_
  refine lv (v := .bool false) rfl (r_mv rfl rfl) rfl ?_
  with_reducible refine lx (d := 21) (by kernel_rfl) (by kernel_rfl) ?_
  with_reducible refine lx (d := 22) (by kernel_rfl) (by kernel_rfl) ?_
  with_reducible refine lx (d := 23) (by kernel_rfl) (by kernel_rfl) ?_
  with_reducible refine lx (d := 24) (by kernel_rfl) (by kernel_rfl) ?_
  refine lv (v := .bool false) rfl (r_pkF rfl rfl rfl) rfl ?_
  refine lv (v := .bool false) rfl (r_mv rfl rfl) rfl ?_
  with_reducible refine lx (d := 27) (by kernel_rfl) (by kernel_rfl) ?_
  with_reducible refine lx (d := 28) (by kernel_rfl) (by kernel_rfl) ?_
  with_reducible refine lx (d := 29) (by kernel_rfl) (by kernel_rfl) ?_
  with_reducible refine lx (d := 30) (by kernel_rfl) (by kernel_rfl) ?_
  refine lv (v := .bool false) rfl (r_pkF rfl rfl rfl) rfl ?_
  refine lv (v := .bool false) rfl (r_as rfl rfl) rfl ?_
  refine wend ?_
  refine wthen ?_
  refine wren (fun ρ36 eρ36 => ?_)
  have h37 : opd ρ36 32 (.tmp 0) = .bool false := eρ36 0
  clear eρ36
  refine wp_ret ?_
  obtain rfl := Option.some.inj hF
  subst hB
  refine finR (rs := [.tmp 0]) (vs := [.bool false]) rfl ⟨h37, trivial⟩ ?_
  exact hI.fin 0 ⟨rfl, rfl⟩
end Go.Proofs.YtdebnncpclodcaaDoor.X
