/-
  Functions of the program: what each computes, and its walk. No condition beyond those that the lemmas name.
-/
import Derived.Test.YtdebnncpclodcaaDoorXPT
import Derived.Test.YtdebnncpclodcaaDoorXFa
import Derived.Test.YtdebnncpclodcaaDoorXFb
set_option linter.unusedSimpArgs false
set_option linter.unusedVariables false
set_option maxRecDepth 10000
namespace Go.Proofs.YtdebnncpclodcaaDoor.X
open Go.RowKit Go.Proofs.YtdebnncpclodcaaDoorW.PrintLast
noncomputable def M_block_Digest (a0 : Block) : Option ((Vec UInt8 32)) := ((M_block_Write (⟨[]⟩ : Code_Writer) a0).bind fun x16 => ((M_code_Writer_Bytes x16).bind fun x29 => ((M_sha_Of [[98, 108, 111, 99, 107], x29.1]).bind fun x39 => some x39)))
set_option maxHeartbeats 1000000 in
theorem spec_86 {w : World} {H : Hp} {a0 : Block} {s1 : Sv} {r : (Vec UInt8 32)} (hF : M_block_Digest a0 = some r) (hT : Tab H) (hG : Good w H []) (hs1 : Sl (Fl.ty fl_Request) H s1 a0.Requests) :
    Fine Tryd.prog 86 [.agg (flat [ckI a0.Epoch, ckI a0.Height, ckV flB a0.Prev, ckV flB a0.State, ckV flB a0.Next, ckL s1]).toArray] w H [] (fun H' v L' => v = .agg (flat [ckV flB r]).toArray ∧ L' = []) := by
  unfold M_block_Digest at hF
  unfold Fine
  obtain ⟨B, hB⟩ : ∃ B : Base, B = ⟨w, H, blks []⟩ := ⟨_, rfl⟩
  have hI : Inv B w H [] := by rw [hB]; exact Inv.start hG
  refine enter (n := 15) (args := [.agg (flat [ckI a0.Epoch, ckI a0.Height, ckV flB a0.Prev, ckV flB a0.State, ckV flB a0.Next, ckL s1]).toArray]) Tryd.func86 rfl Tryd.ntmps86 (Nat.le_of_ble_eq_true rfl) ?_
  refine wseq ?_
  refine wreg ?_
  refine le rfl (l_box (cks := [ckI a0.Epoch, ckI a0.Height, ckV flB a0.Prev, ckV flB a0.State, ckV flB a0.Next, ckL s1]) hI rfl rfl rfl) rfl ?_
  rintro _ w3 ⟨g2, rfl, hI⟩
  replace hI : Inv B w3 H [.cb g2 [ckI a0.Epoch, ckI a0.Height, ckV flB a0.Prev, ckV flB a0.State, ckV flB a0.Next, ckL s1] 69] := hI
  refine le rfl (l_al hI rfl ze29) rfl ?_
  rintro _ w5 ⟨g4, rfl, hI⟩
  replace hI : Inv B w5 H [.cb g2 [ckI a0.Epoch, ckI a0.Height, ckV flB a0.Prev, ckV flB a0.State, ckV flB a0.Next, ckL s1] 69, .cb g4 [ckV flB (Vec.rep 32 0)] 29] := hI
  refine wend ?_
  refine wthen ?_
  refine wren (fun ρ6 eρ6 => ?_)
  have h7 : opd ρ6 15 (.tmp 1) = .pointer (some ⟨g2, 0 + 0, none⟩) := eρ6 1
  have h8 : opd ρ6 15 (.tmp 2) = .pointer (some ⟨g4, 0 + 0, none⟩) := eρ6 2
  clear eρ6
  refine wseq ?_
  refine wreg ?_
  refine lv (v := .agg (flat [ckL Sv.nil]).toArray) rfl (r_bldk (z := [[ckL Sv.nil]]) (pc := []) rfl zg175 bf175 rfl rfl rfl rfl) rfl ?_
  refine le rfl (l_box (cks := [ckL Sv.nil]) hI rfl rfl rfl) rfl ?_
  rintro _ w10 ⟨g9, rfl, hI⟩
  replace hI : Inv B w10 H [.cb g2 [ckI a0.Epoch, ckI a0.Height, ckV flB a0.Prev, ckV flB a0.State, ckV flB a0.Next, ckL s1] 69, .cb g4 [ckV flB (Vec.rep 32 0)] 29, .cb g9 [ckL Sv.nil] 175] := hI
  refine lv (v := .pointer (some ⟨g9, 0 + 0, none⟩)) rfl (r_as rfl rfl) rfl ?_
  refine wend ?_
  refine wthen ?_
  refine wren (fun ρ11 eρ11 => ?_)
  have h12 : opd ρ11 15 (.tmp 1) = .pointer (some ⟨g2, 0 + 0, none⟩) := (eρ11 1).trans h7
  have h13 : opd ρ11 15 (.tmp 2) = .pointer (some ⟨g4, 0 + 0, none⟩) := (eρ11 2).trans h8
  have h14 : opd ρ11 15 (.tmp 3) = .pointer (some ⟨g9, 0 + 0, none⟩) := eρ11 3
  clear eρ11
  refine wseq ?_
  refine wreg ?_
  refine lv (v := .pointer (some ⟨g9, 0 + 0, none⟩)) rfl (r_mv rfl h14) rfl ?_
  refine lv (v := .agg (flat [ckI a0.Epoch, ckI a0.Height, ckV flB a0.Prev, ckV flB a0.State, ckV flB a0.Next, ckL s1]).toArray) rfl (r_cla (off := 0) (p := 0) (m := 6) (hI.good.ca 0 rfl) rfl ag69 h12 rfl rfl) rfl ?_
  replace hI := Inv.full (e := 5) (sz := 1) hI (show Sv.nil.n = Sv.nil.c from rfl)
  replace hI : Inv B w10 H [.cb g2 [ckI a0.Epoch, ckI a0.Height, ckV flB a0.Prev, ckV flB a0.State, ckV flB a0.Next, ckL s1] 69, .cb g4 [ckV flB (Vec.rep 32 0)] 29, .cb g9 [ckL Sv.nil] 175, .own Sv.nil 5 1 none] := hI
  replace hI := hI.bring 3 rfl
  replace hI := hI.bring 3 rfl
  replace hI : Inv B w10 H [.cb g9 [ckL Sv.nil] 175, .own Sv.nil 5 1 none, .cb g2 [ckI a0.Epoch, ckI a0.Height, ckV flB a0.Prev, ckV flB a0.State, ckV flB a0.Next, ckL s1] 69, .cb g4 [ckV flB (Vec.rep 32 0)] 29] := hI
  obtain ⟨x16, hx16, hF⟩ := Option.bind_eq_some_iff.1 hF
  have hsp19 := spec_135 hx16 hT (hI.part 2) (Sl.nil _ _) hs1
  refine fc ([.cb g9 [ckL Sv.nil] 175, .own Sv.nil 5 1 none]) ([.cb g2 [ckI a0.Epoch, ckI a0.Height, ckV flB a0.Prev, ckV flB a0.State, ckV flB a0.Next, ckL s1] 69, .cb g4 [ckV flB (Vec.rep 32 0)] 29]) (args := [.pointer (some ⟨g9, 0 + 0, none⟩), .agg (flat [ckI a0.Epoch, ckI a0.Height, ckV flB a0.Prev, ckV flB a0.State, ckV flB a0.Next, ckL s1]).toArray]) fc135 rfl rfl rfl hI (argc rfl (argc rfl rfl)) (hsp19) ?_
  rintro _ H17 _ w18 ⟨s20, gg21, rfl, hs20, rfl⟩ hleH17 hI
  replace hI : Inv B w18 H17 [.cb g9 [ckL s20] 175, .own s20 5 1 gg21, .cb g2 [ckI a0.Epoch, ckI a0.Height, ckV flB a0.Prev, ckV flB a0.State, ckV flB a0.Next, ckL s1] 69, .cb g4 [ckV flB (Vec.rep 32 0)] 29] := hI
  refine wend ?_
  refine wthen ?_
  refine wren (fun ρ22 eρ22 => ?_)
  have h23 : opd ρ22 15 (.tmp 2) = .pointer (some ⟨g4, 0 + 0, none⟩) := (eρ22 2).trans h13
  have h24 : opd ρ22 15 (.tmp 3) = .pointer (some ⟨g9, 0 + 0, none⟩) := (eρ22 3).trans h14
  clear eρ22
  refine wseq ?_
  refine wreg ?_
  refine le rfl (l_bs (t := (Fl.ty flB)) (vs := [bv 98, bv 108, bv 111, bv 99, bv 107]) (xs := [98, 108, 111, 99, 107]) hI rfl sl158 inf5 rfl rfl (argc rfl (argc rfl (argc rfl (argc rfl (argc rfl rfl))))) (.cons rfl rfl (.cons rfl rfl (.cons rfl rfl (.cons rfl rfl (.cons rfl rfl .nil))))) rfl) rfl ?_
  rintro _ w27 ⟨s25, H26, rfl, hI, hleH26, hs25, hfs25, hgs25⟩
  refine le rfl (l_cvc (t := flB.ty) hI rfl un158 un5 rfl hs25 hgs25) rfl ?_
  rintro _ w28 ⟨rfl, hI⟩
  replace hI : Inv B w28 H26 [.cb g9 [ckL s20] 175, .own s20 5 1 gg21, .cb g2 [ckI a0.Epoch, ckI a0.Height, ckV flB a0.Prev, ckV flB a0.State, ckV flB a0.Next, ckL s1] 69, .cb g4 [ckV flB (Vec.rep 32 0)] 29] := hI
  refine lv (v := .pointer (some ⟨g9, 0 + 0, none⟩)) rfl (r_mv rfl h24) rfl ?_
  obtain ⟨x29, hx29, hF⟩ := Option.bind_eq_some_iff.1 hF
  have hsp32 := spec_100 hx29 ((hT.mono hleH17).mono hleH26) (hI.part 2) (hs20.mono hleH26)
  refine fc ([.cb g9 [ckL s20] 175, .own s20 5 1 gg21]) ([.cb g2 [ckI a0.Epoch, ckI a0.Height, ckV flB a0.Prev, ckV flB a0.State, ckV flB a0.Next, ckL s1] 69, .cb g4 [ckV flB (Vec.rep 32 0)] 29]) (args := [.pointer (some ⟨g9, 0 + 0, none⟩)]) fc100 rfl rfl rfl hI (argc rfl rfl) (hsp32) ?_
  rintro _ H30 _ w31 ⟨s33, s34, gg35, rfl, hs33, hs34, rfl⟩ hleH30 hI
  replace hI : Inv B w31 H30 [.cb g9 [ckL s34] 175, .own s34 5 1 gg35, .cb g2 [ckI a0.Epoch, ckI a0.Height, ckV flB a0.Prev, ckV flB a0.State, ckV flB a0.Next, ckL s1] 69, .cb g4 [ckV flB (Vec.rep 32 0)] 29] := hI
  refine le rfl (l_bs (t := (Ty.sl (Fl.ty flB))) (vs := [s25.v, s33.v]) (xs := [[98, 108, 111, 99, 107], x29.1]) hI rfl sl228 inf158 rfl rfl (argc rfl (argc rfl rfl)) (.cons rfl ⟨s25, rfl, (hs25.mono hleH30)⟩ (.cons rfl ⟨s33, rfl, hs33⟩ .nil)) rfl) rfl ?_
  rintro _ w38 ⟨s36, H37, rfl, hI, hleH37, hs36, hfs36, hgs36⟩
  obtain ⟨x39, hx39, hF⟩ := Option.bind_eq_some_iff.1 hF
  have hsp42 := spec_99 hx39 ((((hT.mono hleH17).mono hleH26).mono hleH30).mono hleH37) (hI.part 0) hs36
  refine fc ([]) ([.cb g9 [ckL s34] 175, .own s34 5 1 gg35, .cb g2 [ckI a0.Epoch, ckI a0.Height, ckV flB a0.Prev, ckV flB a0.State, ckV flB a0.Next, ckL s1] 69, .cb g4 [ckV flB (Vec.rep 32 0)] 29]) (args := [s36.v]) fc99 rfl rfl rfl hI (argc rfl rfl) (hsp42) ?_
  rintro _ H40 _ w41 ⟨rfl, rfl⟩ hleH40 hI
  replace hI : Inv B w41 H40 [.cb g9 [ckL s34] 175, .own s34 5 1 gg35, .cb g2 [ckI a0.Epoch, ckI a0.Height, ckV flB a0.Prev, ckV flB a0.State, ckV flB a0.Next, ckL s1] 69, .cb g4 [ckV flB (Vec.rep 32 0)] 29] := hI
  refine lst rfl (l_st (off := 0) (p := 0) (m := 1) (new := [ckV flB x39]) hI 3 rfl rfl sz29 h23 rfl rfl rfl rfl rfl) rfl ?_
  intro w43 hI
  replace hI : Inv B w43 H40 [.cb g9 [ckL s34] 175, .own s34 5 1 gg35, .cb g2 [ckI a0.Epoch, ckI a0.Height, ckV flB a0.Prev, ckV flB a0.State, ckV flB a0.Next, ckL s1] 69, .cb g4 [ckV flB x39] 29] := hI
  refine wend ?_
  refine wthen ?_
  refine wren (fun ρ44 eρ44 => ?_)
  have h45 : opd ρ44 15 (.tmp 2) = .pointer (some ⟨g4, 0 + 0, none⟩) := (eρ44 2).trans h23
  clear eρ44
  refine wp_ret ?_
  obtain rfl := Option.some.inj hF
  subst hB
  refine finR (rs := [.cell 2 29]) (vs := [.agg (flat [ckV flB x39]).toArray]) rfl ⟨⟨_, h45, ld_agg (hI.good.ca 3 rfl) ag29 rfl⟩, trivial⟩ ?_
  exact hI.fin 0 ⟨rfl, rfl⟩
noncomputable def M_request_short (a0 : List (List UInt8)) : Option (Bool) := ((forK (fun (i8 : Nat) (σ8 : Unit) => (((a0[i8]?).bind fun x47 => (if (1024 : Int) < (x47.length : Int) then ((some false).map Sum.inr) else some (.inl ()))) : Option (Unit ⊕ Bool))) a0.length 0 ()).bind fun y => match y with | .inl _ => some true | .inr r => some r)
set_option maxHeartbeats 1000000 in
theorem spec_160 {w : World} {H : Hp} {a0 : List (List UInt8)} {s1 : Sv} {r : Bool} (hF : M_request_short a0 = some r) (hT : Tab H) (hG : Good w H []) (hs1 : Sl (Fl.ty flS) H s1 a0) :
    Fine Tryd.prog 160 [s1.v] w H [] (fun H' v L' => v = .bool r ∧ L' = []) := by
  unfold M_request_short at hF
  unfold Fine
  obtain ⟨B, hB⟩ : ∃ B : Base, B = ⟨w, H, blks []⟩ := ⟨_, rfl⟩
  have hI : Inv B w H [] := by rw [hB]; exact Inv.start hG
  refine enter (n := 15) (args := [s1.v]) Tryd.func160 rfl Tryd.ntmps160 (Nat.le_of_ble_eq_true rfl) ?_
  refine wseq ?_
  refine wreg ?_
  refine lv (v := .bool false) rfl (r_as rfl rfl) rfl ?_
  refine wend ?_
  refine wthen ?_
  refine wren (fun ρ2 eρ2 => ?_)
  have h3 : opd ρ2 15 (.tmp 0) = s1.v := eρ2 0
  clear eρ2
  refine wseq ?_
  refine wseq ?_
  refine wreg ?_
  refine lv (v := s1.v) rfl (r_mv rfl h3) rfl ?_
  refine lv (v := .int .i64 (a0.length : Int)) rfl (r_lenS rfl sl199 rfl hs1) rfl ?_
  refine lv (v := .int .i64 0) rfl (r_mv rfl rfl) rfl ?_
  refine wend ?_
  refine wthen ?_
  refine wren (fun ρ4 eρ4 => ?_)
  have h5 : opd ρ4 15 (.tmp 5) = s1.v := eρ4 5
  have h6 : opd ρ4 15 (.tmp 6) = .int .i64 (a0.length : Int) := eρ4 6
  have h7 : opd ρ4 15 (.tmp 7) = .int .i64 0 := eρ4 7
  clear eρ4
  refine wp_block ?_
  have hbd8 := (hs1).bd
  rw [(hs1).n] at hbd8
  obtain ⟨y8, hy8, hF8⟩ := Option.bind_eq_some_iff.1 hF
  refine wfor (n := 15) a0.length _ (fun (i8 : Nat) (σ8 : Unit) ρ' w' => ∃ (H36 : Hp), Hle H H36 ∧ opd ρ' 15 (.tmp 5) = s1.v ∧ opd ρ' 15 (.tmp 6) = .int .i64 (a0.length : Int) ∧ opd ρ' 15 (.tmp 7) = .int .i64 (i8 : Int) ∧ Inv B w' H36 []) hy8 ⟨H, (Hle.refl _), h5, h6, h7, hI⟩ ?_
  rintro k8 i8 σ8 ρ40 w41 hk8 ⟨H36, hleH36, h37, h38, h39, hI⟩ hy8
  refine wseq ?_
  refine wreg ?_
  refine lv (v := .bool (decide ((i8 : Int) < (a0.length : Int)))) rfl (r_lss rfl h39 h38 rfl) rfl ?_
  refine wend ?_
  refine wthen ?_
  refine wseq ?_
  by_cases hc42 : (i8 : Int) < (a0.length : Int)
  · skip
    have hbhc42 : (decide ((i8 : Int) < (a0.length : Int))) = true := decide_eq_true hc42
    obtain ⟨k8, rfl⟩ : ∃ m, k8 = m + 1 := ⟨k8 - 1, by omega⟩
    obtain ⟨z8, hb8⟩ := forK_body hy8
    have hF := hb8
    have hlt8 : ((i8 : Nat) : Int) + 1 ≤ 9223372036854775807 := by omega
    refine wcT ((show opd _ _ _ = _ from rfl).trans (congrArg Value.bool hbhc42)) ?_
    refine wp_skip ?_
    refine wthen ?_
    refine wren (fun ρ43 eρ43 => ?_)
    have h44 : opd ρ43 15 (.tmp 5) = s1.v := (eρ43 5).trans h37
    have h45 : opd ρ43 15 (.tmp 6) = .int .i64 (a0.length : Int) := (eρ43 6).trans h38
    have h46 : opd ρ43 15 (.tmp 7) = .int .i64 (i8 : Int) := (eρ43 7).trans h39
    clear eρ43
    refine wseq ?_
    refine wp_block ?_
    refine wseq ?_
    refine wreg ?_
    obtain ⟨x47, hx47, hF⟩ := Option.bind_eq_some_iff.1 hF
    obtain ⟨b48, j49, hix50, hil51, hA52⟩ := (hs1.mono hleH36).ixf hx47
    replace hA52 : At H36 b48 j49 [ckS x47] := hA52
    refine lv (v := .pointer (some ⟨b48, j49 + 0, none⟩)) rfl (r_ixt rfl sl199 h44 h46 rfl hix50 hil51) rfl ?_
    refine lv (v := strv x47) rfl (r_cl1 (off := 0) (p := 0) (hA52.ca hI.good) rfl sc9 rfl rfl rfl) rfl ?_
    refine lv (v := strv x47) rfl (r_as rfl rfl) rfl ?_
    refine wend ?_
    refine wthen ?_
    refine wren (fun ρ53 eρ53 => ?_)
    have h54 : opd ρ53 15 (.tmp 4) = strv x47 := eρ53 4
    have h55 : opd ρ53 15 (.tmp 5) = s1.v := (eρ53 5).trans h44
    have h56 : opd ρ53 15 (.tmp 6) = .int .i64 (a0.length : Int) := (eρ53 6).trans h45
    have h57 : opd ρ53 15 (.tmp 7) = .int .i64 (i8 : Int) := (eρ53 7).trans h46
    clear eρ53
    refine wseq ?_
    refine wreg ?_
    refine lv (v := strv x47) rfl (r_mv rfl h54) rfl ?_
    refine lv (v := .int .i64 (x47.length : Int)) rfl (r_lenT rfl un9 rfl) rfl ?_
    refine lv (v := .bool (decide ((1024 : Int) < (x47.length : Int)))) rfl (r_gtr rfl rfl rfl rfl) rfl ?_
    refine wend ?_
    refine wthen ?_
    refine wren (fun ρ58 eρ58 => ?_)
    have h59 : opd ρ58 15 (.tmp 5) = s1.v := (eρ58 5).trans h55
    have h60 : opd ρ58 15 (.tmp 6) = .int .i64 (a0.length : Int) := (eρ58 6).trans h56
    have h61 : opd ρ58 15 (.tmp 7) = .int .i64 (i8 : Int) := (eρ58 7).trans h57
    have h62 : opd ρ58 15 (.tmp 13) = .bool (decide ((1024 : Int) < (x47.length : Int))) := eρ58 13
    clear eρ58
    by_cases hc63 : (1024 : Int) < (x47.length : Int)
    · skip
      rw [if_pos hc63] at hF
      have hbhc63 : (decide ((1024 : Int) < (x47.length : Int))) = true := decide_eq_true hc63
      refine wcT (h62.trans (congrArg Value.bool hbhc63)) ?_
      refine wseq ?_
      refine wreg ?_
      refine lv (v := .bool false) rfl (r_as rfl rfl) rfl ?_
      refine wend ?_
      refine wthen ?_
      refine wren (fun ρ64 eρ64 => ?_)
      have h65 : opd ρ64 15 (.tmp 2) = .bool false := eρ64 2
      clear eρ64
      refine wp_ret ?_
      refine inR ?_
      refine thR ?_
      refine thR ?_
      obtain ⟨q66, hFn, hzq66⟩ := Option.map_eq_some_iff.1 hF
      clear hF
      obtain rfl := forK_inr hy8 (hb8.trans (congrArg some hzq66.symm))
      have hF0 := hF8
      try dsimp only at hF0
      have hF := hFn.trans hF0
      clear hFn hF0
      refine inR ?_
      refine thR ?_
      obtain rfl := Option.some.inj hF
      subst hB
      refine finR (rs := [.tmp 2]) (vs := [.bool false]) rfl ⟨h65, trivial⟩ ?_
      exact hI.fin 0 ⟨rfl, rfl⟩
    · skip
      rw [if_neg hc63] at hF
      have hbhc63 : (decide ((1024 : Int) < (x47.length : Int))) = false := decide_eq_false hc63
      refine wcF (h62.trans (congrArg Value.bool hbhc63)) ?_
      refine wp_skip ?_
      refine inN ?_
      refine wthen ?_
      refine wreg ?_
      refine lv (v := .int .i64 ((i8 + 1 : Nat) : Int)) rfl (r_addn rfl h61 rfl hlt8) rfl ?_
      refine lv (v := .int .i64 ((i8 + 1 : Nat) : Int)) rfl (r_mv rfl rfl) rfl ?_
      refine wend ?_
      obtain rfl := Option.some.inj hF
      exact ⟨k8, (), _, rfl, rfl, ⟨H36, hleH36, h59, h60, rfl, hI⟩, forK_inl hy8 hb8⟩
  · skip
    have hbhc42 : (decide ((i8 : Int) < (a0.length : Int))) = false := decide_eq_false hc42
    obtain rfl : k8 = 0 := by omega
    obtain rfl := forK_end hy8
    have hF := hF8
    try dsimp only at hF
    refine wcF ((show opd _ _ _ = _ from rfl).trans (congrArg Value.bool hbhc42)) ?_
    refine wp_exit ?_
    refine thE ?_
    refine thE ?_
    refine inX ?_
    refine wthen ?_
    refine wren (fun ρ67 eρ67 => ?_)
    clear eρ67
    refine wseq ?_
    refine wreg ?_
    refine lv (v := .bool true) rfl (r_as rfl rfl) rfl ?_
    refine wend ?_
    refine wthen ?_
    refine wren (fun ρ68 eρ68 => ?_)
    have h69 : opd ρ68 15 (.tmp 2) = .bool true := eρ68 2
    clear eρ68
    refine wp_ret ?_
    obtain rfl := Option.some.inj hF
    subst hB
    refine finR (rs := [.tmp 2]) (vs := [.bool true]) rfl ⟨h69, trivial⟩ ?_
    exact hI.fin 0 ⟨rfl, rfl⟩
noncomputable def M_request_Good (a0 : Request) : Option (Bool) := (if (1 : Int) ≤ a0.Client then (if a0.Client ≤ 64 then (if (1 : Int) ≤ a0.Num then (if a0.Num ≤ 1099511627776 then (if (1 : Int) ≤ a0.Op.Kind then (if a0.Op.Kind ≤ 7 then ((M_request_short [a0.Op.Key, a0.Op.Val, a0.Op.Old]).bind fun x20 => some x20) else some false) else some false) else some false) else some false) else some false) else some false)
set_option maxHeartbeats 4000000 in
theorem spec_136 {w : World} {H : Hp} {a0 : Request}  {r : Bool} (hF : M_request_Good a0 = some r) (hT : Tab H) (hG : Good w H [])  :
    Fine Tryd.prog 136 [.agg (flat [ckI a0.Client, ckI a0.Num, ckI a0.Op.Kind, ckS a0.Op.Key, ckS a0.Op.Val, ckS a0.Op.Old, ckI a0.Op.Change.Kind, ckI a0.Op.Change.Id, ckI a0.Op.Change.New, ckV flB a0.Op.Change.Key.Root, ckI a0.Op.Change.Key.Height]).toArray] w H [] (fun H' v L' => v = .bool r ∧ L' = []) := by
  unfold M_request_Good at hF
  unfold Fine
  obtain ⟨B, hB⟩ : ∃ B : Base, B = ⟨w, H, blks []⟩ := ⟨_, rfl⟩
  have hI : Inv B w H [] := by rw [hB]; exact Inv.start hG
  refine enter (n := 44) (args := [.agg (flat [ckI a0.Client, ckI a0.Num, ckI a0.Op.Kind, ckS a0.Op.Key, ckS a0.Op.Val, ckS a0.Op.Old, ckI a0.Op.Change.Kind, ckI a0.Op.Change.Id, ckI a0.Op.Change.New, ckV flB a0.Op.Change.Key.Root, ckI a0.Op.Change.Key.Height]).toArray]) Tryd.func136 rfl Tryd.ntmps136 (Nat.le_of_ble_eq_true rfl) ?_
  refine wseq ?_
  refine wreg ?_
  refine le rfl (l_box (cks := [ckI a0.Client, ckI a0.Num, ckI a0.Op.Kind, ckS a0.Op.Key, ckS a0.Op.Val, ckS a0.Op.Old, ckI a0.Op.Change.Kind, ckI a0.Op.Change.Id, ckI a0.Op.Change.New, ckV flB a0.Op.Change.Key.Root, ckI a0.Op.Change.Key.Height]) hI rfl rfl rfl) rfl ?_
  rintro _ w2 ⟨g1, rfl, hI⟩
  replace hI : Inv B w2 H [.cb g1 [ckI a0.Client, ckI a0.Num, ckI a0.Op.Kind, ckS a0.Op.Key, ckS a0.Op.Val, ckS a0.Op.Old, ckI a0.Op.Change.Kind, ckI a0.Op.Change.Id, ckI a0.Op.Change.New, ckV flB a0.Op.Change.Key.Root, ckI a0.Op.Change.Key.Height] 192] := hI
  refine lv (v := .bool false) rfl (r_as rfl rfl) rfl ?_
  refine wend ?_
  refine wthen ?_
  refine wren (fun ρ3 eρ3 => ?_)
  have h4 : opd ρ3 44 (.tmp 1) = .pointer (some ⟨g1, 0 + 0, none⟩) := eρ3 1
  clear eρ3
  refine wseq ?_
  refine wreg ?_
  refine lv (v := .pointer (some ⟨g1, 0 + 2, none⟩)) rfl (l_fa (j := 0) (i := 0) rfl fl192_2 h4 rfl) rfl ?_
  refine lv (v := .agg (flat [ckI a0.Op.Kind, ckS a0.Op.Key, ckS a0.Op.Val, ckS a0.Op.Old, ckI a0.Op.Change.Kind, ckI a0.Op.Change.Id, ckI a0.Op.Change.New, ckV flB a0.Op.Change.Key.Root, ckI a0.Op.Change.Key.Height]).toArray) rfl (r_cla (off := 2) (p := 2) (m := 9) (hI.good.ca 0 rfl) rfl ag190 rfl rfl rfl) rfl ?_
  refine le rfl (l_al hI rfl ze190) rfl ?_
  rintro _ w6 ⟨g5, rfl, hI⟩
  replace hI : Inv B w6 H [.cb g1 [ckI a0.Client, ckI a0.Num, ckI a0.Op.Kind, ckS a0.Op.Key, ckS a0.Op.Val, ckS a0.Op.Old, ckI a0.Op.Change.Kind, ckI a0.Op.Change.Id, ckI a0.Op.Change.New, ckV flB a0.Op.Change.Key.Root, ckI a0.Op.Change.Key.Height] 192, .cb g5 [ckI 0, ckS [], ckS [], ckS [], ckI 0, ckI 0, ckI 0, ckV flB (Vec.rep 32 0), ckI 0] 190] := hI
  refine lst rfl (l_st (off := 0) (p := 0) (m := 9) (new := [ckI a0.Op.Kind, ckS a0.Op.Key, ckS a0.Op.Val, ckS a0.Op.Old, ckI a0.Op.Change.Kind, ckI a0.Op.Change.Id, ckI a0.Op.Change.New, ckV flB a0.Op.Change.Key.Root, ckI a0.Op.Change.Key.Height]) hI 1 rfl rfl sz190 rfl rfl rfl rfl rfl rfl) rfl ?_
  intro w7 hI
  replace hI : Inv B w7 H [.cb g1 [ckI a0.Client, ckI a0.Num, ckI a0.Op.Kind, ckS a0.Op.Key, ckS a0.Op.Val, ckS a0.Op.Old, ckI a0.Op.Change.Kind, ckI a0.Op.Change.Id, ckI a0.Op.Change.New, ckV flB a0.Op.Change.Key.Root, ckI a0.Op.Change.Key.Height] 192, .cb g5 [ckI a0.Op.Kind, ckS a0.Op.Key, ckS a0.Op.Val, ckS a0.Op.Old, ckI a0.Op.Change.Kind, ckI a0.Op.Change.Id, ckI a0.Op.Change.New, ckV flB a0.Op.Change.Key.Root, ckI a0.Op.Change.Key.Height] 190] := hI
  refine wend ?_
  refine wthen ?_
  refine wren (fun ρ8 eρ8 => ?_)
  have h9 : opd ρ8 44 (.tmp 1) = .pointer (some ⟨g1, 0 + 0, none⟩) := (eρ8 1).trans h4
  have h10 : opd ρ8 44 (.tmp 3) = .pointer (some ⟨g5, 0 + 0, none⟩) := eρ8 3
  clear eρ8
  refine wseq ?_
  refine wreg ?_
  refine lv (v := .pointer (some ⟨g1, 0 + 0, none⟩)) rfl (l_fa (j := 0) (i := 0) rfl fl192_0 h9 rfl) rfl ?_
  refine lv (v := .int .i64 a0.Client) rfl (r_cl1 (off := 0) (p := 0) (hI.good.ca 0 rfl) rfl sc3 rfl rfl rfl) rfl ?_
  refine lv (v := .bool (decide ((1 : Int) ≤ a0.Client))) rfl (r_geq rfl rfl rfl rfl) rfl ?_
  by_cases hc11 : (1 : Int) ≤ a0.Client
  · skip
    rw [if_pos hc11] at hF
    have hbhc11 : (decide ((1 : Int) ≤ a0.Client)) = true := decide_eq_true hc11
    refine lv (v := .bool true) rfl (r_mv rfl ((show opd _ _ _ = _ from rfl).trans (congrArg Value.bool hbhc11))) rfl ?_
    refine lv (v := .pointer (some ⟨g1, 0 + 0, none⟩)) rfl (l_fa (j := 0) (i := 0) rfl fl192_0 h9 rfl) rfl ?_
    refine lv (v := .int .i64 a0.Client) rfl (r_cl1 (off := 0) (p := 0) (hI.good.ca 0 rfl) rfl sc3 rfl rfl rfl) rfl ?_
    refine lv (v := .bool (decide (a0.Client ≤ 64))) rfl (r_leq rfl rfl rfl rfl) rfl ?_
    refine lv (v := .bool (decide (a0.Client ≤ 64))) rfl (r_pkT rfl rfl rfl) rfl ?_
    by_cases hc12 : a0.Client ≤ 64
    · skip
      rw [if_pos hc12] at hF
      have hbhc12 : (decide (a0.Client ≤ 64)) = true := decide_eq_true hc12
      refine lv (v := .bool true) rfl (r_mv rfl ((show opd _ _ _ = _ from rfl).trans (congrArg Value.bool hbhc12))) rfl ?_
      refine lv (v := .pointer (some ⟨g1, 0 + 1, none⟩)) rfl (l_fa (j := 0) (i := 0) rfl fl192_1 h9 rfl) rfl ?_
      refine lv (v := .int .i64 a0.Num) rfl (r_cl1 (off := 1) (p := 1) (hI.good.ca 0 rfl) rfl sc3 rfl rfl rfl) rfl ?_
      refine lv (v := .bool (decide ((1 : Int) ≤ a0.Num))) rfl (r_geq rfl rfl rfl rfl) rfl ?_
      refine lv (v := .bool (decide ((1 : Int) ≤ a0.Num))) rfl (r_pkT rfl rfl rfl) rfl ?_
      by_cases hc13 : (1 : Int) ≤ a0.Num
      · skip
        rw [if_pos hc13] at hF
        have hbhc13 : (decide ((1 : Int) ≤ a0.Num)) = true := decide_eq_true hc13
        refine lv (v := .bool true) rfl (r_mv rfl ((show opd _ _ _ = _ from rfl).trans (congrArg Value.bool hbhc13))) rfl ?_
        refine lv (v := .pointer (some ⟨g1, 0 + 1, none⟩)) rfl (l_fa (j := 0) (i := 0) rfl fl192_1 h9 rfl) rfl ?_
        refine lv (v := .int .i64 a0.Num) rfl (r_cl1 (off := 1) (p := 1) (hI.good.ca 0 rfl) rfl sc3 rfl rfl rfl) rfl ?_
        refine lv (v := .bool (decide (a0.Num ≤ 1099511627776))) rfl (r_leq rfl rfl rfl rfl) rfl ?_
        refine lv (v := .bool (decide (a0.Num ≤ 1099511627776))) rfl (r_pkT rfl rfl rfl) rfl ?_
        by_cases hc14 : a0.Num ≤ 1099511627776
        · skip
          rw [if_pos hc14] at hF
          have hbhc14 : (decide (a0.Num ≤ 1099511627776)) = true := decide_eq_true hc14
          refine lv (v := .bool true) rfl (r_mv rfl ((show opd _ _ _ = _ from rfl).trans (congrArg Value.bool hbhc14))) rfl ?_
          refine lv (v := .pointer (some ⟨g5, 0 + 0, none⟩)) rfl (l_fa (j := 0) (i := 0) rfl fl190_0 h10 rfl) rfl ?_
          refine lv (v := .int .i64 a0.Op.Kind) rfl (r_cl1 (off := 0) (p := 0) (hI.good.ca 1 rfl) rfl sc3 rfl rfl rfl) rfl ?_
          refine lv (v := .bool (decide ((1 : Int) ≤ a0.Op.Kind))) rfl (r_geq rfl rfl rfl rfl) rfl ?_
          refine lv (v := .bool (decide ((1 : Int) ≤ a0.Op.Kind))) rfl (r_pkT rfl rfl rfl) rfl ?_
          by_cases hc15 : (1 : Int) ≤ a0.Op.Kind
          · skip
            rw [if_pos hc15] at hF
            have hbhc15 : (decide ((1 : Int) ≤ a0.Op.Kind)) = true := decide_eq_true hc15
            refine lv (v := .bool true) rfl (r_mv rfl ((show opd _ _ _ = _ from rfl).trans (congrArg Value.bool hbhc15))) rfl ?_
            refine lv (v := .pointer (some ⟨g5, 0 + 0, none⟩)) rfl (l_fa (j := 0) (i := 0) rfl fl190_0 h10 rfl) rfl ?_
            refine lv (v := .int .i64 a0.Op.Kind) rfl (r_cl1 (off := 0) (p := 0) (hI.good.ca 1 rfl) rfl sc3 rfl rfl rfl) rfl ?_
            refine lv (v := .bool (decide (a0.Op.Kind ≤ 7))) rfl (r_leq rfl rfl rfl rfl) rfl ?_
            refine lv (v := .bool (decide (a0.Op.Kind ≤ 7))) rfl (r_pkT rfl rfl rfl) rfl ?_
            by_cases hc16 : a0.Op.Kind ≤ 7
            · skip
              rw [if_pos hc16] at hF
              have hbhc16 : (decide (a0.Op.Kind ≤ 7)) = true := decide_eq_true hc16
              refine lv (v := .bool true) rfl (r_mv rfl ((show opd _ _ _ = _ from rfl).trans (congrArg Value.bool hbhc16))) rfl ?_
              refine lv (v := .pointer (some ⟨g5, 0 + 1, none⟩)) rfl (l_fa (j := 0) (i := 0) rfl fl190_1 h10 rfl) rfl ?_
              refine lv (v := strv a0.Op.Key) rfl (r_cl1 (off := 1) (p := 1) (hI.good.ca 1 rfl) rfl sc9 rfl rfl rfl) rfl ?_
              refine lv (v := .pointer (some ⟨g5, 0 + 2, none⟩)) rfl (l_fa (j := 0) (i := 0) rfl fl190_2 h10 rfl) rfl ?_
              refine lv (v := strv a0.Op.Val) rfl (r_cl1 (off := 2) (p := 2) (hI.good.ca 1 rfl) rfl sc9 rfl rfl rfl) rfl ?_
              refine lv (v := .pointer (some ⟨g5, 0 + 3, none⟩)) rfl (l_fa (j := 0) (i := 0) rfl fl190_3 h10 rfl) rfl ?_
              refine lv (v := strv a0.Op.Old) rfl (r_cl1 (off := 3) (p := 3) (hI.good.ca 1 rfl) rfl sc9 rfl rfl rfl) rfl ?_
              refine le rfl (l_bs (t := (Fl.ty flS)) (vs := [strv a0.Op.Key, strv a0.Op.Val, strv a0.Op.Old]) (xs := [a0.Op.Key, a0.Op.Val, a0.Op.Old]) hI rfl sl199 inf9 rfl rfl (argc rfl (argc rfl (argc rfl rfl))) (.cons rfl rfl (.cons rfl rfl (.cons rfl rfl .nil))) rfl) rfl ?_
              rintro _ w19 ⟨s17, H18, rfl, hI, hleH18, hs17, hfs17, hgs17⟩
              obtain ⟨x20, hx20, hF⟩ := Option.bind_eq_some_iff.1 hF
              have hsp23 := spec_160 hx20 (hT.mono hleH18) (hI.part 0) hs17
              refine fc ([]) ([.cb g1 [ckI a0.Client, ckI a0.Num, ckI a0.Op.Kind, ckS a0.Op.Key, ckS a0.Op.Val, ckS a0.Op.Old, ckI a0.Op.Change.Kind, ckI a0.Op.Change.Id, ckI a0.Op.Change.New, ckV flB a0.Op.Change.Key.Root, ckI a0.Op.Change.Key.Height] 192, .cb g5 [ckI a0.Op.Kind, ckS a0.Op.Key, ckS a0.Op.Val, ckS a0.Op.Old, ckI a0.Op.Change.Kind, ckI a0.Op.Change.Id, ckI a0.Op.Change.New, ckV flB a0.Op.Change.Key.Root, ckI a0.Op.Change.Key.Height] 190]) (args := [s17.v]) fc160 rfl rfl rfl hI (argc rfl rfl) (hsp23) ?_
              rintro _ H21 _ w22 ⟨rfl, rfl⟩ hleH21 hI
              replace hI : Inv B w22 H21 [.cb g1 [ckI a0.Client, ckI a0.Num, ckI a0.Op.Kind, ckS a0.Op.Key, ckS a0.Op.Val, ckS a0.Op.Old, ckI a0.Op.Change.Kind, ckI a0.Op.Change.Id, ckI a0.Op.Change.New, ckV flB a0.Op.Change.Key.Root, ckI a0.Op.Change.Key.Height] 192, .cb g5 [ckI a0.Op.Kind, ckS a0.Op.Key, ckS a0.Op.Val, ckS a0.Op.Old, ckI a0.Op.Change.Kind, ckI a0.Op.Change.Id, ckI a0.Op.Change.New, ckV flB a0.Op.Change.Key.Root, ckI a0.Op.Change.Key.Height] 190] := hI
              refine lv (v := .bool x20) rfl (r_pkT rfl rfl rfl) rfl ?_
              refine lv (v := .bool x20) rfl (r_as rfl rfl) rfl ?_
              refine wend ?_
              refine wthen ?_
              refine wren (fun ρ24 eρ24 => ?_)
              have h25 : opd ρ24 44 (.tmp 2) = .bool x20 := eρ24 2
              clear eρ24
              refine wp_ret ?_
              obtain rfl := Option.some.inj hF
              subst hB
              refine finR (rs := [.tmp 2]) (vs := [.bool x20]) rfl ⟨h25, trivial⟩ ?_
              exact hI.fin 0 ⟨rfl, rfl⟩
            · skip
              rw [if_neg hc16] at hF
              have hbhc16 : (decide (a0.Op.Kind ≤ 7)) = false := decide_eq_false hc16
              refine lv (v := .bool false) rfl (r_mv rfl ((show opd _ _ _ = _ from rfl).trans (congrArg Value.bool hbhc16))) rfl ?_
              with_reducible refine lx (d := 35) (by kernel_rfl) (by kernel_rfl) ?_
              with_reducible refine lx (d := 36) (by kernel_rfl) (by kernel_rfl) ?_
              with_reducible refine lx (d := 37) (by kernel_rfl) (by kernel_rfl) ?_
              with_reducible refine lx (d := 38) (by kernel_rfl) (by kernel_rfl) ?_
              with_reducible refine lx (d := 39) (by kernel_rfl) (by kernel_rfl) ?_
              with_reducible refine lx (d := 40) (by kernel_rfl) (by kernel_rfl) ?_
              with_reducible refine lx (d := 41) (by kernel_rfl) (by kernel_rfl) ?_
              with_reducible refine lx (d := 42) (by kernel_rfl) (by kernel_rfl) ?_
              refine lv (v := .bool false) rfl (r_pkF rfl rfl rfl) rfl ?_
              refine lv (v := .bool false) rfl (r_as rfl rfl) rfl ?_
              refine wend ?_
              refine wthen ?_
              refine wren (fun ρ26 eρ26 => ?_)
              have h27 : opd ρ26 44 (.tmp 2) = .bool false := eρ26 2
              clear eρ26
              refine wp_ret ?_
              obtain rfl := Option.some.inj hF
              subst hB
              refine finR (rs := [.tmp 2]) (vs := [.bool false]) rfl ⟨h27, trivial⟩ ?_
              exact hI.fin 0 ⟨rfl, rfl⟩
          · skip
            rw [if_neg hc15] at hF
            have hbhc15 : (decide ((1 : Int) ≤ a0.Op.Kind)) = false := decide_eq_false hc15
            refine lv (v := .bool false) rfl (r_mv rfl ((show opd _ _ _ = _ from rfl).trans (congrArg Value.bool hbhc15))) rfl ?_
            with_reducible refine lx (d := 30) (by kernel_rfl) (by kernel_rfl) ?_
            with_reducible refine lx (d := 31) (by kernel_rfl) (by kernel_rfl) ?_
            with_reducible refine lx (d := 32) (by kernel_rfl) (by kernel_rfl) ?_
            refine lv (v := .bool false) rfl (r_pkF rfl rfl rfl) rfl ?_
            refine lv (v := .bool false) rfl (r_mv rfl rfl) rfl ?_
            with_reducible refine lx (d := 35) (by kernel_rfl) (by kernel_rfl) ?_
            with_reducible refine lx (d := 36) (by kernel_rfl) (by kernel_rfl) ?_
            with_reducible refine lx (d := 37) (by kernel_rfl) (by kernel_rfl) ?_
            with_reducible refine lx (d := 38) (by kernel_rfl) (by kernel_rfl) ?_
            with_reducible refine lx (d := 39) (by kernel_rfl) (by kernel_rfl) ?_
            with_reducible refine lx (d := 40) (by kernel_rfl) (by kernel_rfl) ?_
            with_reducible refine lx (d := 41) (by kernel_rfl) (by kernel_rfl) ?_
            with_reducible refine lx (d := 42) (by kernel_rfl) (by kernel_rfl) ?_
            refine lv (v := .bool false) rfl (r_pkF rfl rfl rfl) rfl ?_
            refine lv (v := .bool false) rfl (r_as rfl rfl) rfl ?_
            refine wend ?_
            refine wthen ?_
            refine wren (fun ρ28 eρ28 => ?_)
            have h29 : opd ρ28 44 (.tmp 2) = .bool false := eρ28 2
            clear eρ28
            refine wp_ret ?_
            obtain rfl := Option.some.inj hF
            subst hB
            refine finR (rs := [.tmp 2]) (vs := [.bool false]) rfl ⟨h29, trivial⟩ ?_
            exact hI.fin 0 ⟨rfl, rfl⟩
        · skip
          rw [if_neg hc14] at hF
          have hbhc14 : (decide (a0.Num ≤ 1099511627776)) = false := decide_eq_false hc14
          refine lv (v := .bool false) rfl (r_mv rfl ((show opd _ _ _ = _ from rfl).trans (congrArg Value.bool hbhc14))) rfl ?_
          with_reducible refine lx (d := 25) (by kernel_rfl) (by kernel_rfl) ?_
          with_reducible refine lx (d := 26) (by kernel_rfl) (by kernel_rfl) ?_
          with_reducible refine lx (d := 27) (by kernel_rfl) (by kernel_rfl) ?_
          refine lv (v := .bool false) rfl (r_pkF rfl rfl rfl) rfl ?_
          refine lv (v := .bool false) rfl (r_mv rfl rfl) rfl ?_
          with_reducible refine lx (d := 30) (by kernel_rfl) (by kernel_rfl) ?_
          with_reducible refine lx (d := 31) (by kernel_rfl) (by kernel_rfl) ?_
          with_reducible refine lx (d := 32) (by kernel_rfl) (by kernel_rfl) ?_
          refine lv (v := .bool false) rfl (r_pkF rfl rfl rfl) rfl ?_
          refine lv (v := .bool false) rfl (r_mv rfl rfl) rfl ?_
          with_reducible refine lx (d := 35) (by kernel_rfl) (by kernel_rfl) ?_
          with_reducible refine lx (d := 36) (by kernel_rfl) (by kernel_rfl) ?_
          with_reducible refine lx (d := 37) (by kernel_rfl) (by kernel_rfl) ?_
          with_reducible refine lx (d := 38) (by kernel_rfl) (by kernel_rfl) ?_
          with_reducible refine lx (d := 39) (by kernel_rfl) (by kernel_rfl) ?_
          with_reducible refine lx (d := 40) (by kernel_rfl) (by kernel_rfl) ?_
          with_reducible refine lx (d := 41) (by kernel_rfl) (by kernel_rfl) ?_
          with_reducible refine lx (d := 42) (by kernel_rfl) (by kernel_rfl) ?_
          refine lv (v := .bool false) rfl (r_pkF rfl rfl rfl) rfl ?_
          refine lv (v := .bool false) rfl (r_as rfl rfl) rfl ?_
          refine wend ?_
          refine wthen ?_
          refine wren (fun ρ30 eρ30 => ?_)
          have h31 : opd ρ30 44 (.tmp 2) = .bool false := eρ30 2
          clear eρ30
          refine wp_ret ?_
          obtain rfl := Option.some.inj hF
          subst hB
          refine finR (rs := [.tmp 2]) (vs := [.bool false]) rfl ⟨h31, trivial⟩ ?_
          exact hI.fin 0 ⟨rfl, rfl⟩
      · skip
        rw [if_neg hc13] at hF
        have hbhc13 : (decide ((1 : Int) ≤ a0.Num)) = false := decide_eq_false hc13
        refine lv (v := .bool false) rfl (r_mv rfl ((show opd _ _ _ = _ from rfl).trans (congrArg Value.bool hbhc13))) rfl ?_
        with_reducible refine lx (d := 20) (by kernel_rfl) (by kernel_rfl) ?_
        with_reducible refine lx (d := 21) (by kernel_rfl) (by kernel_rfl) ?_
        with_reducible refine lx (d := 22) (by kernel_rfl) (by kernel_rfl) ?_
        refine lv (v := .bool false) rfl (r_pkF rfl rfl rfl) rfl ?_
        refine lv (v := .bool false) rfl (r_mv rfl rfl) rfl ?_
        with_reducible refine lx (d := 25) (by kernel_rfl) (by kernel_rfl) ?_
        with_reducible refine lx (d := 26) (by kernel_rfl) (by kernel_rfl) ?_
        with_reducible refine lx (d := 27) (by kernel_rfl) (by kernel_rfl) ?_
        refine lv (v := .bool false) rfl (r_pkF rfl rfl rfl) rfl ?_
        refine lv (v := .bool false) rfl (r_mv rfl rfl) rfl ?_
        with_reducible refine lx (d := 30) (by kernel_rfl) (by kernel_rfl) ?_
        with_reducible refine lx (d := 31) (by kernel_rfl) (by kernel_rfl) ?_
        with_reducible refine lx (d := 32) (by kernel_rfl) (by kernel_rfl) ?_
        refine lv (v := .bool false) rfl (r_pkF rfl rfl rfl) rfl ?_
        refine lv (v := .bool false) rfl (r_mv rfl rfl) rfl ?_
        with_reducible refine lx (d := 35) (by kernel_rfl) (by kernel_rfl) ?_
        with_reducible refine lx (d := 36) (by kernel_rfl) (by kernel_rfl) ?_
        with_reducible refine lx (d := 37) (by kernel_rfl) (by kernel_rfl) ?_
        with_reducible refine lx (d := 38) (by kernel_rfl) (by kernel_rfl) ?_
        with_reducible refine lx (d := 39) (by kernel_rfl) (by kernel_rfl) ?_
        with_reducible refine lx (d := 40) (by kernel_rfl) (by kernel_rfl) ?_
        with_reducible refine lx (d := 41) (by kernel_rfl) (by kernel_rfl) ?_
        with_reducible refine lx (d := 42) (by kernel_rfl) (by kernel_rfl) ?_
        refine lv (v := .bool false) rfl (r_pkF rfl rfl rfl) rfl ?_
        refine lv (v := .bool false) rfl (r_as rfl rfl) rfl ?_
        refine wend ?_
        refine wthen ?_
        refine wren (fun ρ32 eρ32 => ?_)
        have h33 : opd ρ32 44 (.tmp 2) = .bool false := eρ32 2
        clear eρ32
        refine wp_ret ?_
        obtain rfl := Option.some.inj hF
        subst hB
        refine finR (rs := [.tmp 2]) (vs := [.bool false]) rfl ⟨h33, trivial⟩ ?_
        exact hI.fin 0 ⟨rfl, rfl⟩
    · skip
      rw [if_neg hc12] at hF
      have hbhc12 : (decide (a0.Client ≤ 64)) = false := decide_eq_false hc12
      refine lv (v := .bool false) rfl (r_mv rfl ((show opd _ _ _ = _ from rfl).trans (congrArg Value.bool hbhc12))) rfl ?_
      with_reducible refine lx (d := 15) (by kernel_rfl) (by kernel_rfl) ?_
      with_reducible refine lx (d := 16) (by kernel_rfl) (by kernel_rfl) ?_
      with_reducible refine lx (d := 17) (by kernel_rfl) (by kernel_rfl) ?_
      refine lv (v := .bool false) rfl (r_pkF rfl rfl rfl) rfl ?_
      refine lv (v := .bool false) rfl (r_mv rfl rfl) rfl ?_
      with_reducible refine lx (d := 20) (by kernel_rfl) (by kernel_rfl) ?_
      with_reducible refine lx (d := 21) (by kernel_rfl) (by kernel_rfl) ?_
      with_reducible refine lx (d := 22) (by kernel_rfl) (by kernel_rfl) ?_
      refine lv (v := .bool false) rfl (r_pkF rfl rfl rfl) rfl ?_
      refine lv (v := .bool false) rfl (r_mv rfl rfl) rfl ?_
      with_reducible refine lx (d := 25) (by kernel_rfl) (by kernel_rfl) ?_
      with_reducible refine lx (d := 26) (by kernel_rfl) (by kernel_rfl) ?_
      with_reducible refine lx (d := 27) (by kernel_rfl) (by kernel_rfl) ?_
      refine lv (v := .bool false) rfl (r_pkF rfl rfl rfl) rfl ?_
      refine lv (v := .bool false) rfl (r_mv rfl rfl) rfl ?_
      with_reducible refine lx (d := 30) (by kernel_rfl) (by kernel_rfl) ?_
      with_reducible refine lx (d := 31) (by kernel_rfl) (by kernel_rfl) ?_
      with_reducible refine lx (d := 32) (by kernel_rfl) (by kernel_rfl) ?_
      refine lv (v := .bool false) rfl (r_pkF rfl rfl rfl) rfl ?_
      refine lv (v := .bool false) rfl (r_mv rfl rfl) rfl ?_
      with_reducible refine lx (d := 35) (by kernel_rfl) (by kernel_rfl) ?_
      with_reducible refine lx (d := 36) (by kernel_rfl) (by kernel_rfl) ?_
      with_reducible refine lx (d := 37) (by kernel_rfl) (by kernel_rfl) ?_
      with_reducible refine lx (d := 38) (by kernel_rfl) (by kernel_rfl) ?_
      with_reducible refine lx (d := 39) (by kernel_rfl) (by kernel_rfl) ?_
      with_reducible refine lx (d := 40) (by kernel_rfl) (by kernel_rfl) ?_
      with_reducible refine lx (d := 41) (by kernel_rfl) (by kernel_rfl) ?_
      with_reducible refine lx (d := 42) (by kernel_rfl) (by kernel_rfl) ?_
      refine lv (v := .bool false) rfl (r_pkF rfl rfl rfl) rfl ?_
      refine lv (v := .bool false) rfl (r_as rfl rfl) rfl ?_
      refine wend ?_
      refine wthen ?_
      refine wren (fun ρ34 eρ34 => ?_)
      have h35 : opd ρ34 44 (.tmp 2) = .bool false := eρ34 2
      clear eρ34
      refine wp_ret ?_
      obtain rfl := Option.some.inj hF
      subst hB
      refine finR (rs := [.tmp 2]) (vs := [.bool false]) rfl ⟨h35, trivial⟩ ?_
      exact hI.fin 0 ⟨rfl, rfl⟩
  · skip
    rw [if_neg hc11] at hF
    have hbhc11 : (decide ((1 : Int) ≤ a0.Client)) = false := decide_eq_false hc11
    refine lv (v := .bool false) rfl (r_mv rfl ((show opd _ _ _ = _ from rfl).trans (congrArg Value.bool hbhc11))) rfl ?_
    with_reducible refine lx (d := 10) (by kernel_rfl) (by kernel_rfl) ?_
    with_reducible refine lx (d := 11) (by kernel_rfl) (by kernel_rfl) ?_
    with_reducible refine lx (d := 12) (by kernel_rfl) (by kernel_rfl) ?_
    refine lv (v := .bool false) rfl (r_pkF rfl rfl rfl) rfl ?_
    refine lv (v := .bool false) rfl (r_mv rfl rfl) rfl ?_
    with_reducible refine lx (d := 15) (by kernel_rfl) (by kernel_rfl) ?_
    with_reducible refine lx (d := 16) (by kernel_rfl) (by kernel_rfl) ?_
    with_reducible refine lx (d := 17) (by kernel_rfl) (by kernel_rfl) ?_
    refine lv (v := .bool false) rfl (r_pkF rfl rfl rfl) rfl ?_
    refine lv (v := .bool false) rfl (r_mv rfl rfl) rfl ?_
    with_reducible refine lx (d := 20) (by kernel_rfl) (by kernel_rfl) ?_
    with_reducible refine lx (d := 21) (by kernel_rfl) (by kernel_rfl) ?_
    with_reducible refine lx (d := 22) (by kernel_rfl) (by kernel_rfl) ?_
    refine lv (v := .bool false) rfl (r_pkF rfl rfl rfl) rfl ?_
    refine lv (v := .bool false) rfl (r_mv rfl rfl) rfl ?_
    with_reducible refine lx (d := 25) (by kernel_rfl) (by kernel_rfl) ?_
    with_reducible refine lx (d := 26) (by kernel_rfl) (by kernel_rfl) ?_
    with_reducible refine lx (d := 27) (by kernel_rfl) (by kernel_rfl) ?_
    refine lv (v := .bool false) rfl (r_pkF rfl rfl rfl) rfl ?_
    refine lv (v := .bool false) rfl (r_mv rfl rfl) rfl ?_
    with_reducible refine lx (d := 30) (by kernel_rfl) (by kernel_rfl) ?_
    with_reducible refine lx (d := 31) (by kernel_rfl) (by kernel_rfl) ?_
    with_reducible refine lx (d := 32) (by kernel_rfl) (by kernel_rfl) ?_
    refine lv (v := .bool false) rfl (r_pkF rfl rfl rfl) rfl ?_
    refine lv (v := .bool false) rfl (r_mv rfl rfl) rfl ?_
    with_reducible refine lx (d := 35) (by kernel_rfl) (by kernel_rfl) ?_
    with_reducible refine lx (d := 36) (by kernel_rfl) (by kernel_rfl) ?_
    with_reducible refine lx (d := 37) (by kernel_rfl) (by kernel_rfl) ?_
    with_reducible refine lx (d := 38) (by kernel_rfl) (by kernel_rfl) ?_
    with_reducible refine lx (d := 39) (by kernel_rfl) (by kernel_rfl) ?_
    with_reducible refine lx (d := 40) (by kernel_rfl) (by kernel_rfl) ?_
    with_reducible refine lx (d := 41) (by kernel_rfl) (by kernel_rfl) ?_
    with_reducible refine lx (d := 42) (by kernel_rfl) (by kernel_rfl) ?_
    refine lv (v := .bool false) rfl (r_pkF rfl rfl rfl) rfl ?_
    refine lv (v := .bool false) rfl (r_as rfl rfl) rfl ?_
    refine wend ?_
    refine wthen ?_
    refine wren (fun ρ36 eρ36 => ?_)
    have h37 : opd ρ36 44 (.tmp 2) = .bool false := eρ36 2
    clear eρ36
    refine wp_ret ?_
    obtain rfl := Option.some.inj hF
    subst hB
    refine finR (rs := [.tmp 2]) (vs := [.bool false]) rfl ⟨h37, trivial⟩ ?_
    exact hI.fin 0 ⟨rfl, rfl⟩
noncomputable def M_block_Good (a0 : Block) : Option (Bool) := (if a0.Epoch < 0 then some false else (if (1073741824 : Int) < a0.Epoch then some false else (if a0.Height < 1 then some false else (if (1024 : Int) < a0.Height then some false else (if (8 : Int) < (a0.Requests.length : Int) then some false else ((forK (fun (i40 : Nat) (σ40 : Unit) => (((a0.Requests[i40]?).bind fun x86 => ((M_request_Good x86).bind fun x100 => (if x100 = true then some (.inl ()) else ((some false).map Sum.inr)))) : Option (Unit ⊕ Bool))) a0.Requests.length 0 ()).bind fun y => match y with | .inl _ => some true | .inr r => some r))))))
set_option maxHeartbeats 4000000 in
theorem spec_87 {w : World} {H : Hp} {a0 : Block} {s1 : Sv} {r : Bool} (hF : M_block_Good a0 = some r) (hT : Tab H) (hG : Good w H []) (hs1 : Sl (Fl.ty fl_Request) H s1 a0.Requests) :
    Fine Tryd.prog 87 [.agg (flat [ckI a0.Epoch, ckI a0.Height, ckV flB a0.Prev, ckV flB a0.State, ckV flB a0.Next, ckL s1]).toArray] w H [] (fun H' v L' => v = .bool r ∧ L' = []) := by
  unfold M_block_Good at hF
  unfold Fine
  obtain ⟨B, hB⟩ : ∃ B : Base, B = ⟨w, H, blks []⟩ := ⟨_, rfl⟩
  have hI : Inv B w H [] := by rw [hB]; exact Inv.start hG
  refine enter (n := 40) (args := [.agg (flat [ckI a0.Epoch, ckI a0.Height, ckV flB a0.Prev, ckV flB a0.State, ckV flB a0.Next, ckL s1]).toArray]) Tryd.func87 rfl Tryd.ntmps87 (Nat.le_of_ble_eq_true rfl) ?_
  refine wseq ?_
  refine wreg ?_
  refine le rfl (l_box (cks := [ckI a0.Epoch, ckI a0.Height, ckV flB a0.Prev, ckV flB a0.State, ckV flB a0.Next, ckL s1]) hI rfl rfl rfl) rfl ?_
  rintro _ w3 ⟨g2, rfl, hI⟩
  replace hI : Inv B w3 H [.cb g2 [ckI a0.Epoch, ckI a0.Height, ckV flB a0.Prev, ckV flB a0.State, ckV flB a0.Next, ckL s1] 69] := hI
  refine lv (v := .bool false) rfl (r_as rfl rfl) rfl ?_
  refine wend ?_
  refine wthen ?_
  refine wren (fun ρ4 eρ4 => ?_)
  have h5 : opd ρ4 40 (.tmp 1) = .pointer (some ⟨g2, 0 + 0, none⟩) := eρ4 1
  clear eρ4
  refine wseq ?_
  refine wseq ?_
  refine wreg ?_
  refine lv (v := .pointer (some ⟨g2, 0 + 0, none⟩)) rfl (l_fa (j := 0) (i := 0) rfl fl69_0 h5 rfl) rfl ?_
  refine lv (v := .int .i64 a0.Epoch) rfl (r_cl1 (off := 0) (p := 0) (hI.good.ca 0 rfl) rfl sc3 rfl rfl rfl) rfl ?_
  refine lv (v := .bool (decide (a0.Epoch < 0))) rfl (r_lss rfl rfl rfl rfl) rfl ?_
  by_cases hc6 : a0.Epoch < 0
  · skip
    rw [if_pos hc6] at hF
    have hbhc6 : (decide (a0.Epoch < 0)) = true := decide_eq_true hc6
    refine lv (v := .bool true) rfl (r_mv rfl ((show opd _ _ _ = _ from rfl).trans (congrArg Value.bool hbhc6))) rfl ?_
    with_reducible refine lx (d := 9) (by kernel_rfl) (by kernel_rfl) ?_
    with_reducible refine lx (d := 10) (by kernel_rfl) (by kernel_rfl) ?_
    with_reducible refine lx (d := 11) (by kernel_rfl) (by kernel_rfl) ?_
    refine lv (v := .bool true) rfl (r_pkT rfl rfl rfl) rfl ?_
    refine lv (v := .bool true) rfl (r_mv rfl rfl) rfl ?_
    with_reducible refine lx (d := 14) (by kernel_rfl) (by kernel_rfl) ?_
    with_reducible refine lx (d := 15) (by kernel_rfl) (by kernel_rfl) ?_
    with_reducible refine lx (d := 16) (by kernel_rfl) (by kernel_rfl) ?_
    refine lv (v := .bool true) rfl (r_pkT rfl rfl rfl) rfl ?_
    refine lv (v := .bool true) rfl (r_mv rfl rfl) rfl ?_
    with_reducible refine lx (d := 19) (by kernel_rfl) (by kernel_rfl) ?_
    with_reducible refine lx (d := 20) (by kernel_rfl) (by kernel_rfl) ?_
    with_reducible refine lx (d := 21) (by kernel_rfl) (by kernel_rfl) ?_
    refine lv (v := .bool true) rfl (r_pkT rfl rfl rfl) rfl ?_
    refine lv (v := .bool true) rfl (r_mv rfl rfl) rfl ?_
    with_reducible refine lx (d := 24) (by kernel_rfl) (by kernel_rfl) ?_
    with_reducible refine lx (d := 25) (by kernel_rfl) (by kernel_rfl) ?_
    with_reducible refine lx (d := 26) (by kernel_rfl) (by kernel_rfl) ?_
    with_reducible refine lx (d := 27) (by kernel_rfl) (by kernel_rfl) ?_
    refine lv (v := .bool true) rfl (r_pkT rfl rfl rfl) rfl ?_
    refine wend ?_
    refine wthen ?_
    refine wren (fun ρ7 eρ7 => ?_)
    have h8 : opd ρ7 40 (.tmp 1) = .pointer (some ⟨g2, 0 + 0, none⟩) := (eρ7 1).trans h5
    have h9 : opd ρ7 40 (.tmp 28) = .bool true := eρ7 28
    clear eρ7
    refine wcT h9 ?_
    refine wseq ?_
    refine wreg ?_
    refine lv (v := .bool false) rfl (r_as rfl rfl) rfl ?_
    refine wend ?_
    refine wthen ?_
    refine wren (fun ρ10 eρ10 => ?_)
    have h11 : opd ρ10 40 (.tmp 2) = .bool false := eρ10 2
    clear eρ10
    refine wp_ret ?_
    refine thR ?_
    obtain rfl := Option.some.inj hF
    subst hB
    refine finR (rs := [.tmp 2]) (vs := [.bool false]) rfl ⟨h11, trivial⟩ ?_
    exact hI.fin 0 ⟨rfl, rfl⟩
  · skip
    rw [if_neg hc6] at hF
    have hbhc6 : (decide (a0.Epoch < 0)) = false := decide_eq_false hc6
    refine lv (v := .bool false) rfl (r_mv rfl ((show opd _ _ _ = _ from rfl).trans (congrArg Value.bool hbhc6))) rfl ?_
    refine lv (v := .pointer (some ⟨g2, 0 + 0, none⟩)) rfl (l_fa (j := 0) (i := 0) rfl fl69_0 h5 rfl) rfl ?_
    refine lv (v := .int .i64 a0.Epoch) rfl (r_cl1 (off := 0) (p := 0) (hI.good.ca 0 rfl) rfl sc3 rfl rfl rfl) rfl ?_
    refine lv (v := .bool (decide ((1073741824 : Int) < a0.Epoch))) rfl (r_gtr rfl rfl rfl rfl) rfl ?_
    refine lv (v := .bool (decide ((1073741824 : Int) < a0.Epoch))) rfl (r_pkF rfl rfl rfl) rfl ?_
    by_cases hc12 : (1073741824 : Int) < a0.Epoch
    · skip
      rw [if_pos hc12] at hF
      have hbhc12 : (decide ((1073741824 : Int) < a0.Epoch)) = true := decide_eq_true hc12
      refine lv (v := .bool true) rfl (r_mv rfl ((show opd _ _ _ = _ from rfl).trans (congrArg Value.bool hbhc12))) rfl ?_
      with_reducible refine lx (d := 14) (by kernel_rfl) (by kernel_rfl) ?_
      with_reducible refine lx (d := 15) (by kernel_rfl) (by kernel_rfl) ?_
      with_reducible refine lx (d := 16) (by kernel_rfl) (by kernel_rfl) ?_
      refine lv (v := .bool true) rfl (r_pkT rfl rfl rfl) rfl ?_
      refine lv (v := .bool true) rfl (r_mv rfl rfl) rfl ?_
      with_reducible refine lx (d := 19) (by kernel_rfl) (by kernel_rfl) ?_
      with_reducible refine lx (d := 20) (by kernel_rfl) (by kernel_rfl) ?_
      with_reducible refine lx (d := 21) (by kernel_rfl) (by kernel_rfl) ?_
      refine lv (v := .bool true) rfl (r_pkT rfl rfl rfl) rfl ?_
      refine lv (v := .bool true) rfl (r_mv rfl rfl) rfl ?_
      with_reducible refine lx (d := 24) (by kernel_rfl) (by kernel_rfl) ?_
      with_reducible refine lx (d := 25) (by kernel_rfl) (by kernel_rfl) ?_
      with_reducible refine lx (d := 26) (by kernel_rfl) (by kernel_rfl) ?_
      with_reducible refine lx (d := 27) (by kernel_rfl) (by kernel_rfl) ?_
      refine lv (v := .bool true) rfl (r_pkT rfl rfl rfl) rfl ?_
      refine wend ?_
      refine wthen ?_
      refine wren (fun ρ13 eρ13 => ?_)
      have h14 : opd ρ13 40 (.tmp 1) = .pointer (some ⟨g2, 0 + 0, none⟩) := (eρ13 1).trans h5
      have h15 : opd ρ13 40 (.tmp 28) = .bool true := eρ13 28
      clear eρ13
      refine wcT h15 ?_
      refine wseq ?_
      refine wreg ?_
      refine lv (v := .bool false) rfl (r_as rfl rfl) rfl ?_
      refine wend ?_
      refine wthen ?_
      refine wren (fun ρ16 eρ16 => ?_)
      have h17 : opd ρ16 40 (.tmp 2) = .bool false := eρ16 2
      clear eρ16
      refine wp_ret ?_
      refine thR ?_
      obtain rfl := Option.some.inj hF
      subst hB
      refine finR (rs := [.tmp 2]) (vs := [.bool false]) rfl ⟨h17, trivial⟩ ?_
      exact hI.fin 0 ⟨rfl, rfl⟩
    · skip
      rw [if_neg hc12] at hF
      have hbhc12 : (decide ((1073741824 : Int) < a0.Epoch)) = false := decide_eq_false hc12
      refine lv (v := .bool false) rfl (r_mv rfl ((show opd _ _ _ = _ from rfl).trans (congrArg Value.bool hbhc12))) rfl ?_
      refine lv (v := .pointer (some ⟨g2, 0 + 1, none⟩)) rfl (l_fa (j := 0) (i := 0) rfl fl69_1 h5 rfl) rfl ?_
      refine lv (v := .int .i64 a0.Height) rfl (r_cl1 (off := 1) (p := 1) (hI.good.ca 0 rfl) rfl sc3 rfl rfl rfl) rfl ?_
      refine lv (v := .bool (decide (a0.Height < 1))) rfl (r_lss rfl rfl rfl rfl) rfl ?_
      refine lv (v := .bool (decide (a0.Height < 1))) rfl (r_pkF rfl rfl rfl) rfl ?_
      by_cases hc18 : a0.Height < 1
      · skip
        rw [if_pos hc18] at hF
        have hbhc18 : (decide (a0.Height < 1)) = true := decide_eq_true hc18
        refine lv (v := .bool true) rfl (r_mv rfl ((show opd _ _ _ = _ from rfl).trans (congrArg Value.bool hbhc18))) rfl ?_
        with_reducible refine lx (d := 19) (by kernel_rfl) (by kernel_rfl) ?_
        with_reducible refine lx (d := 20) (by kernel_rfl) (by kernel_rfl) ?_
        with_reducible refine lx (d := 21) (by kernel_rfl) (by kernel_rfl) ?_
        refine lv (v := .bool true) rfl (r_pkT rfl rfl rfl) rfl ?_
        refine lv (v := .bool true) rfl (r_mv rfl rfl) rfl ?_
        with_reducible refine lx (d := 24) (by kernel_rfl) (by kernel_rfl) ?_
        with_reducible refine lx (d := 25) (by kernel_rfl) (by kernel_rfl) ?_
        with_reducible refine lx (d := 26) (by kernel_rfl) (by kernel_rfl) ?_
        with_reducible refine lx (d := 27) (by kernel_rfl) (by kernel_rfl) ?_
        refine lv (v := .bool true) rfl (r_pkT rfl rfl rfl) rfl ?_
        refine wend ?_
        refine wthen ?_
        refine wren (fun ρ19 eρ19 => ?_)
        have h20 : opd ρ19 40 (.tmp 1) = .pointer (some ⟨g2, 0 + 0, none⟩) := (eρ19 1).trans h5
        have h21 : opd ρ19 40 (.tmp 28) = .bool true := eρ19 28
        clear eρ19
        refine wcT h21 ?_
        refine wseq ?_
        refine wreg ?_
        refine lv (v := .bool false) rfl (r_as rfl rfl) rfl ?_
        refine wend ?_
        refine wthen ?_
        refine wren (fun ρ22 eρ22 => ?_)
        have h23 : opd ρ22 40 (.tmp 2) = .bool false := eρ22 2
        clear eρ22
        refine wp_ret ?_
        refine thR ?_
        obtain rfl := Option.some.inj hF
        subst hB
        refine finR (rs := [.tmp 2]) (vs := [.bool false]) rfl ⟨h23, trivial⟩ ?_
        exact hI.fin 0 ⟨rfl, rfl⟩
      · skip
        rw [if_neg hc18] at hF
        have hbhc18 : (decide (a0.Height < 1)) = false := decide_eq_false hc18
        refine lv (v := .bool false) rfl (r_mv rfl ((show opd _ _ _ = _ from rfl).trans (congrArg Value.bool hbhc18))) rfl ?_
        refine lv (v := .pointer (some ⟨g2, 0 + 1, none⟩)) rfl (l_fa (j := 0) (i := 0) rfl fl69_1 h5 rfl) rfl ?_
        refine lv (v := .int .i64 a0.Height) rfl (r_cl1 (off := 1) (p := 1) (hI.good.ca 0 rfl) rfl sc3 rfl rfl rfl) rfl ?_
        refine lv (v := .bool (decide ((1024 : Int) < a0.Height))) rfl (r_gtr rfl rfl rfl rfl) rfl ?_
        refine lv (v := .bool (decide ((1024 : Int) < a0.Height))) rfl (r_pkF rfl rfl rfl) rfl ?_
        by_cases hc24 : (1024 : Int) < a0.Height
        · skip
          rw [if_pos hc24] at hF
          have hbhc24 : (decide ((1024 : Int) < a0.Height)) = true := decide_eq_true hc24
          refine lv (v := .bool true) rfl (r_mv rfl ((show opd _ _ _ = _ from rfl).trans (congrArg Value.bool hbhc24))) rfl ?_
          with_reducible refine lx (d := 24) (by kernel_rfl) (by kernel_rfl) ?_
          with_reducible refine lx (d := 25) (by kernel_rfl) (by kernel_rfl) ?_
          with_reducible refine lx (d := 26) (by kernel_rfl) (by kernel_rfl) ?_
          with_reducible refine lx (d := 27) (by kernel_rfl) (by kernel_rfl) ?_
          refine lv (v := .bool true) rfl (r_pkT rfl rfl rfl) rfl ?_
          refine wend ?_
          refine wthen ?_
          refine wren (fun ρ25 eρ25 => ?_)
          have h26 : opd ρ25 40 (.tmp 1) = .pointer (some ⟨g2, 0 + 0, none⟩) := (eρ25 1).trans h5
          have h27 : opd ρ25 40 (.tmp 28) = .bool true := eρ25 28
          clear eρ25
          refine wcT h27 ?_
          refine wseq ?_
          refine wreg ?_
          refine lv (v := .bool false) rfl (r_as rfl rfl) rfl ?_
          refine wend ?_
          refine wthen ?_
          refine wren (fun ρ28 eρ28 => ?_)
          have h29 : opd ρ28 40 (.tmp 2) = .bool false := eρ28 2
          clear eρ28
          refine wp_ret ?_
          refine thR ?_
          obtain rfl := Option.some.inj hF
          subst hB
          refine finR (rs := [.tmp 2]) (vs := [.bool false]) rfl ⟨h29, trivial⟩ ?_
          exact hI.fin 0 ⟨rfl, rfl⟩
        · skip
          rw [if_neg hc24] at hF
          have hbhc24 : (decide ((1024 : Int) < a0.Height)) = false := decide_eq_false hc24
          refine lv (v := .bool false) rfl (r_mv rfl ((show opd _ _ _ = _ from rfl).trans (congrArg Value.bool hbhc24))) rfl ?_
          refine lv (v := .pointer (some ⟨g2, 0 + 98, none⟩)) rfl (l_fa (j := 0) (i := 0) rfl fl69_5 h5 rfl) rfl ?_
          refine lv (v := s1.v) rfl (r_cl1 (off := 98) (p := 5) (hI.good.ca 0 rfl) rfl sc67 rfl rfl rfl) rfl ?_
          refine lv (v := .int .i64 (a0.Requests.length : Int)) rfl (r_lenS rfl sl67 rfl hs1) rfl ?_
          refine lv (v := .bool (decide ((8 : Int) < (a0.Requests.length : Int)))) rfl (r_gtr rfl rfl rfl rfl) rfl ?_
          refine lv (v := .bool (decide ((8 : Int) < (a0.Requests.length : Int)))) rfl (r_pkF rfl rfl rfl) rfl ?_
          refine wend ?_
          refine wthen ?_
          refine wren (fun ρ30 eρ30 => ?_)
          have h31 : opd ρ30 40 (.tmp 1) = .pointer (some ⟨g2, 0 + 0, none⟩) := (eρ30 1).trans h5
          have h32 : opd ρ30 40 (.tmp 28) = .bool (decide ((8 : Int) < (a0.Requests.length : Int))) := eρ30 28
          clear eρ30
          by_cases hc33 : (8 : Int) < (a0.Requests.length : Int)
          · skip
            rw [if_pos hc33] at hF
            have hbhc33 : (decide ((8 : Int) < (a0.Requests.length : Int))) = true := decide_eq_true hc33
            refine wcT (h32.trans (congrArg Value.bool hbhc33)) ?_
            refine wseq ?_
            refine wreg ?_
            refine lv (v := .bool false) rfl (r_as rfl rfl) rfl ?_
            refine wend ?_
            refine wthen ?_
            refine wren (fun ρ34 eρ34 => ?_)
            have h35 : opd ρ34 40 (.tmp 2) = .bool false := eρ34 2
            clear eρ34
            refine wp_ret ?_
            refine thR ?_
            obtain rfl := Option.some.inj hF
            subst hB
            refine finR (rs := [.tmp 2]) (vs := [.bool false]) rfl ⟨h35, trivial⟩ ?_
            exact hI.fin 0 ⟨rfl, rfl⟩
          · skip
            rw [if_neg hc33] at hF
            have hbhc33 : (decide ((8 : Int) < (a0.Requests.length : Int))) = false := decide_eq_false hc33
            refine wcF (h32.trans (congrArg Value.bool hbhc33)) ?_
            refine wp_skip ?_
            refine wthen ?_
            refine wseq ?_
            refine wseq ?_
            refine wreg ?_
            refine lv (v := .pointer (some ⟨g2, 0 + 98, none⟩)) rfl (l_fa (j := 0) (i := 0) rfl fl69_5 h31 rfl) rfl ?_
            refine lv (v := s1.v) rfl (r_cl1 (off := 98) (p := 5) (hI.good.ca 0 rfl) rfl sc67 rfl rfl rfl) rfl ?_
            refine lv (v := .int .i64 (a0.Requests.length : Int)) rfl (r_lenS rfl sl67 rfl hs1) rfl ?_
            refine lv (v := .int .i64 0) rfl (r_mv rfl rfl) rfl ?_
            refine wend ?_
            refine wthen ?_
            refine wren (fun ρ36 eρ36 => ?_)
            have h37 : opd ρ36 40 (.tmp 30) = s1.v := eρ36 30
            have h38 : opd ρ36 40 (.tmp 31) = .int .i64 (a0.Requests.length : Int) := eρ36 31
            have h39 : opd ρ36 40 (.tmp 32) = .int .i64 0 := eρ36 32
            clear eρ36
            refine wp_block ?_
            have hbd40 := (hs1).bd
            rw [(hs1).n] at hbd40
            obtain ⟨y40, hy40, hF40⟩ := Option.bind_eq_some_iff.1 hF
            refine wfor (n := 40) a0.Requests.length _ (fun (i40 : Nat) (σ40 : Unit) ρ' w' => ∃ (H75 : Hp), Hle H H75 ∧ opd ρ' 40 (.tmp 30) = s1.v ∧ opd ρ' 40 (.tmp 31) = .int .i64 (a0.Requests.length : Int) ∧ opd ρ' 40 (.tmp 32) = .int .i64 (i40 : Int) ∧ Inv B w' H75 []) hy40 ⟨H, (Hle.refl _), h37, h38, h39, (hI.keep [false])⟩ ?_
            rintro k40 i40 σ40 ρ79 w80 hk40 ⟨H75, hleH75, h76, h77, h78, hI⟩ hy40
            refine wseq ?_
            refine wreg ?_
            refine lv (v := .bool (decide ((i40 : Int) < (a0.Requests.length : Int)))) rfl (r_lss rfl h78 h77 rfl) rfl ?_
            refine wend ?_
            refine wthen ?_
            refine wseq ?_
            by_cases hc81 : (i40 : Int) < (a0.Requests.length : Int)
            · skip
              have hbhc81 : (decide ((i40 : Int) < (a0.Requests.length : Int))) = true := decide_eq_true hc81
              obtain ⟨k40, rfl⟩ : ∃ m, k40 = m + 1 := ⟨k40 - 1, by omega⟩
              obtain ⟨z40, hb40⟩ := forK_body hy40
              have hF := hb40
              have hlt40 : ((i40 : Nat) : Int) + 1 ≤ 9223372036854775807 := by omega
              refine wcT ((show opd _ _ _ = _ from rfl).trans (congrArg Value.bool hbhc81)) ?_
              refine wp_skip ?_
              refine wthen ?_
              refine wren (fun ρ82 eρ82 => ?_)
              have h83 : opd ρ82 40 (.tmp 30) = s1.v := (eρ82 30).trans h76
              have h84 : opd ρ82 40 (.tmp 31) = .int .i64 (a0.Requests.length : Int) := (eρ82 31).trans h77
              have h85 : opd ρ82 40 (.tmp 32) = .int .i64 (i40 : Int) := (eρ82 32).trans h78
              clear eρ82
              refine wseq ?_
              refine wp_block ?_
              refine wseq ?_
              refine wreg ?_
              obtain ⟨x86, hx86, hF⟩ := Option.bind_eq_some_iff.1 hF
              obtain ⟨b87, j88, hix89, hil90, hA91⟩ := (hs1.mono hleH75).ixf hx86
              replace hA91 : At H75 b87 j88 [ckI x86.Client, ckI x86.Num, ckI x86.Op.Kind, ckS x86.Op.Key, ckS x86.Op.Val, ckS x86.Op.Old, ckI x86.Op.Change.Kind, ckI x86.Op.Change.Id, ckI x86.Op.Change.New, ckV flB x86.Op.Change.Key.Root, ckI x86.Op.Change.Key.Height] := hA91
              refine lv (v := .pointer (some ⟨b87, j88 + 0, none⟩)) rfl (r_ixt rfl sl67 h83 h85 rfl hix89 hil90) rfl ?_
              refine lv (v := .agg (flat [ckI x86.Client, ckI x86.Num, ckI x86.Op.Kind, ckS x86.Op.Key, ckS x86.Op.Val, ckS x86.Op.Old, ckI x86.Op.Change.Kind, ckI x86.Op.Change.Id, ckI x86.Op.Change.New, ckV flB x86.Op.Change.Key.Root, ckI x86.Op.Change.Key.Height]).toArray) rfl (r_cla (off := 0) (p := 0) (m := 11) (hA91.ca hI.good) rfl ag192 rfl rfl rfl) rfl ?_
              refine le rfl (l_al hI rfl ze192) rfl ?_
              rintro _ w93 ⟨g92, rfl, hI⟩
              replace hI : Inv B w93 H75 [.cb g92 [ckI 0, ckI 0, ckI 0, ckS [], ckS [], ckS [], ckI 0, ckI 0, ckI 0, ckV flB (Vec.rep 32 0), ckI 0] 192] := hI
              refine lst rfl (l_st (off := 0) (p := 0) (m := 11) (new := [ckI x86.Client, ckI x86.Num, ckI x86.Op.Kind, ckS x86.Op.Key, ckS x86.Op.Val, ckS x86.Op.Old, ckI x86.Op.Change.Kind, ckI x86.Op.Change.Id, ckI x86.Op.Change.New, ckV flB x86.Op.Change.Key.Root, ckI x86.Op.Change.Key.Height]) hI 0 rfl rfl sz192 rfl rfl rfl rfl rfl rfl) rfl ?_
              intro w94 hI
              replace hI : Inv B w94 H75 [.cb g92 [ckI x86.Client, ckI x86.Num, ckI x86.Op.Kind, ckS x86.Op.Key, ckS x86.Op.Val, ckS x86.Op.Old, ckI x86.Op.Change.Kind, ckI x86.Op.Change.Id, ckI x86.Op.Change.New, ckV flB x86.Op.Change.Key.Root, ckI x86.Op.Change.Key.Height] 192] := hI
              refine wend ?_
              refine wthen ?_
              refine wren (fun ρ95 eρ95 => ?_)
              have h96 : opd ρ95 40 (.tmp 4) = .pointer (some ⟨g92, 0 + 0, none⟩) := eρ95 4
              have h97 : opd ρ95 40 (.tmp 30) = s1.v := (eρ95 30).trans h83
              have h98 : opd ρ95 40 (.tmp 31) = .int .i64 (a0.Requests.length : Int) := (eρ95 31).trans h84
              have h99 : opd ρ95 40 (.tmp 32) = .int .i64 (i40 : Int) := (eρ95 32).trans h85
              clear eρ95
              refine wseq ?_
              refine wreg ?_
              refine lv (v := .agg (flat [ckI x86.Client, ckI x86.Num, ckI x86.Op.Kind, ckS x86.Op.Key, ckS x86.Op.Val, ckS x86.Op.Old, ckI x86.Op.Change.Kind, ckI x86.Op.Change.Id, ckI x86.Op.Change.New, ckV flB x86.Op.Change.Key.Root, ckI x86.Op.Change.Key.Height]).toArray) rfl (r_cla (off := 0) (p := 0) (m := 11) (hI.good.ca 0 rfl) rfl ag192 h96 rfl rfl) rfl ?_
              obtain ⟨x100, hx100, hF⟩ := Option.bind_eq_some_iff.1 hF
              have hsp103 := spec_136 hx100 (hT.mono hleH75) (hI.part 0) 
              refine fc ([]) ([.cb g92 [ckI x86.Client, ckI x86.Num, ckI x86.Op.Kind, ckS x86.Op.Key, ckS x86.Op.Val, ckS x86.Op.Old, ckI x86.Op.Change.Kind, ckI x86.Op.Change.Id, ckI x86.Op.Change.New, ckV flB x86.Op.Change.Key.Root, ckI x86.Op.Change.Key.Height] 192]) (args := [.agg (flat [ckI x86.Client, ckI x86.Num, ckI x86.Op.Kind, ckS x86.Op.Key, ckS x86.Op.Val, ckS x86.Op.Old, ckI x86.Op.Change.Kind, ckI x86.Op.Change.Id, ckI x86.Op.Change.New, ckV flB x86.Op.Change.Key.Root, ckI x86.Op.Change.Key.Height]).toArray]) fc136 rfl rfl rfl hI (argc rfl rfl) (hsp103) ?_
              rintro _ H101 _ w102 ⟨rfl, rfl⟩ hleH101 hI
              replace hI : Inv B w102 H101 [.cb g92 [ckI x86.Client, ckI x86.Num, ckI x86.Op.Kind, ckS x86.Op.Key, ckS x86.Op.Val, ckS x86.Op.Old, ckI x86.Op.Change.Kind, ckI x86.Op.Change.Id, ckI x86.Op.Change.New, ckV flB x86.Op.Change.Key.Root, ckI x86.Op.Change.Key.Height] 192] := hI
              refine lv (v := .bool (!x100)) rfl (r_not rfl rfl) rfl ?_
              refine wend ?_
              refine wthen ?_
              refine wren (fun ρ104 eρ104 => ?_)
              have h105 : opd ρ104 40 (.tmp 30) = s1.v := (eρ104 30).trans h97
              have h106 : opd ρ104 40 (.tmp 31) = .int .i64 (a0.Requests.length : Int) := (eρ104 31).trans h98
              have h107 : opd ρ104 40 (.tmp 32) = .int .i64 (i40 : Int) := (eρ104 32).trans h99
              have h108 : opd ρ104 40 (.tmp 38) = .bool (!x100) := eρ104 38
              clear eρ104
              by_cases hc109 : x100 = true
              · skip
                rw [if_pos hc109] at hF
                have hbhc109 : (!x100) = false := (by rw [hc109]; rfl)
                refine wcF (h108.trans (congrArg Value.bool hbhc109)) ?_
                refine wp_skip ?_
                refine inN ?_
                refine wthen ?_
                refine wreg ?_
                refine lv (v := .int .i64 ((i40 + 1 : Nat) : Int)) rfl (r_addn rfl h107 rfl hlt40) rfl ?_
                refine lv (v := .int .i64 ((i40 + 1 : Nat) : Int)) rfl (r_mv rfl rfl) rfl ?_
                refine wend ?_
                obtain rfl := Option.some.inj hF
                exact ⟨k40, (), _, rfl, rfl, ⟨H101, (hleH75.trans hleH101), h105, h106, rfl, (hI.keep [false])⟩, forK_inl hy40 hb40⟩
              · skip
                rw [if_neg hc109] at hF
                have hbhc109 : (!x100) = true := (by rw [(Bool.eq_false_iff.2 hc109)]; rfl)
                refine wcT (h108.trans (congrArg Value.bool hbhc109)) ?_
                refine wseq ?_
                refine wreg ?_
                refine lv (v := .bool false) rfl (r_as rfl rfl) rfl ?_
                refine wend ?_
                refine wthen ?_
                refine wren (fun ρ110 eρ110 => ?_)
                have h111 : opd ρ110 40 (.tmp 2) = .bool false := eρ110 2
                clear eρ110
                refine wp_ret ?_
                refine inR ?_
                refine thR ?_
                refine thR ?_
                obtain ⟨q112, hFn, hzq112⟩ := Option.map_eq_some_iff.1 hF
                clear hF
                obtain rfl := forK_inr hy40 (hb40.trans (congrArg some hzq112.symm))
                have hF0 := hF40
                try dsimp only at hF0
                have hF := hFn.trans hF0
                clear hFn hF0
                refine inR ?_
                refine thR ?_
                obtain rfl := Option.some.inj hF
                subst hB
                refine finR (rs := [.tmp 2]) (vs := [.bool false]) rfl ⟨h111, trivial⟩ ?_
                exact hI.fin 0 ⟨rfl, rfl⟩
            · skip
              have hbhc81 : (decide ((i40 : Int) < (a0.Requests.length : Int))) = false := decide_eq_false hc81
              obtain rfl : k40 = 0 := by omega
              obtain rfl := forK_end hy40
              have hF := hF40
              try dsimp only at hF
              refine wcF ((show opd _ _ _ = _ from rfl).trans (congrArg Value.bool hbhc81)) ?_
              refine wp_exit ?_
              refine thE ?_
              refine thE ?_
              refine inX ?_
              refine wthen ?_
              refine wren (fun ρ113 eρ113 => ?_)
              clear eρ113
              refine wseq ?_
              refine wreg ?_
              refine lv (v := .bool true) rfl (r_as rfl rfl) rfl ?_
              refine wend ?_
              refine wthen ?_
              refine wren (fun ρ114 eρ114 => ?_)
              have h115 : opd ρ114 40 (.tmp 2) = .bool true := eρ114 2
              clear eρ114
              refine wp_ret ?_
              obtain rfl := Option.some.inj hF
              subst hB
              refine finR (rs := [.tmp 2]) (vs := [.bool true]) rfl ⟨h115, trivial⟩ ?_
              exact hI.fin 0 ⟨rfl, rfl⟩
noncomputable def M_config_Faults (a0 : Config) : Option (Int) := some (wI (Int.tdiv (if (0 : Int) > (wI ((a0.Members.length : Int) - 1)) then 0 else (wI ((a0.Members.length : Int) - 1))) 3))
set_option maxHeartbeats 1000000 in
theorem spec_94 {w : World} {H : Hp} {a0 : Config} {s1 : Sv} {r : Int} (hF : M_config_Faults a0 = some r) (hT : Tab H) (hG : Good w H []) (hs1 : Sl (Fl.ty fl_Member) H s1 a0.Members) :
    Fine Tryd.prog 94 [.agg (flat [ckI a0.Epoch, ckL s1]).toArray] w H [] (fun H' v L' => v = .int .i64 r ∧ L' = []) := by
  unfold M_config_Faults at hF
  unfold Fine
  obtain ⟨B, hB⟩ : ∃ B : Base, B = ⟨w, H, blks []⟩ := ⟨_, rfl⟩
  have hI : Inv B w H [] := by rw [hB]; exact Inv.start hG
  refine enter (n := 9) (args := [.agg (flat [ckI a0.Epoch, ckL s1]).toArray]) Tryd.func94 rfl Tryd.ntmps94 (Nat.le_of_ble_eq_true rfl) ?_
  refine wseq ?_
  refine wreg ?_
  refine le rfl (l_box (cks := [ckI a0.Epoch, ckL s1]) hI rfl rfl rfl) rfl ?_
  rintro _ w3 ⟨g2, rfl, hI⟩
  replace hI : Inv B w3 H [.cb g2 [ckI a0.Epoch, ckL s1] 64] := hI
  refine lv (v := .int .i64 0) rfl (r_as rfl rfl) rfl ?_
  refine wend ?_
  refine wthen ?_
  refine wren (fun ρ4 eρ4 => ?_)
  have h5 : opd ρ4 9 (.tmp 1) = .pointer (some ⟨g2, 0 + 0, none⟩) := eρ4 1
  clear eρ4
  refine wseq ?_
  refine wreg ?_
  refine lv (v := .pointer (some ⟨g2, 0 + 1, none⟩)) rfl (l_fa (j := 0) (i := 0) rfl fl64_1 h5 rfl) rfl ?_
  refine lv (v := s1.v) rfl (r_cl1 (off := 1) (p := 1) (hI.good.ca 0 rfl) rfl sc62 rfl rfl rfl) rfl ?_
  refine lv (v := .int .i64 (a0.Members.length : Int)) rfl (r_lenS rfl sl62 rfl hs1) rfl ?_
  refine lv (v := .int .i64 (wI ((a0.Members.length : Int) - 1))) rfl (r_subw rfl rfl rfl) rfl ?_
  refine lv (v := .int .i64 (if (0 : Int) > (wI ((a0.Members.length : Int) - 1)) then 0 else (wI ((a0.Members.length : Int) - 1)))) rfl (r_max rfl rfl rfl rfl) rfl ?_
  refine lv (v := .int .i64 (wI (Int.tdiv (if (0 : Int) > (wI ((a0.Members.length : Int) - 1)) then 0 else (wI ((a0.Members.length : Int) - 1))) 3))) rfl (r_quo rfl rfl rfl (by decide)) rfl ?_
  refine lv (v := .int .i64 (wI (Int.tdiv (if (0 : Int) > (wI ((a0.Members.length : Int) - 1)) then 0 else (wI ((a0.Members.length : Int) - 1))) 3))) rfl (r_as rfl rfl) rfl ?_
  refine wend ?_
  refine wthen ?_
  refine wren (fun ρ6 eρ6 => ?_)
  have h7 : opd ρ6 9 (.tmp 2) = .int .i64 (wI (Int.tdiv (if (0 : Int) > (wI ((a0.Members.length : Int) - 1)) then 0 else (wI ((a0.Members.length : Int) - 1))) 3)) := eρ6 2
  clear eρ6
  refine wp_ret ?_
  obtain rfl := Option.some.inj hF
  subst hB
  refine finR (rs := [.tmp 2]) (vs := [.int .i64 (wI (Int.tdiv (if (0 : Int) > (wI ((a0.Members.length : Int) - 1)) then 0 else (wI ((a0.Members.length : Int) - 1))) 3))]) rfl ⟨h7, trivial⟩ ?_
  exact hI.fin 0 ⟨rfl, rfl⟩
noncomputable def M_config_Quorum (a0 : Config) : Option (Int) := ((M_config_Faults a0).bind fun x7 => some (wI ((wI (Int.tdiv (wI ((a0.Members.length : Int) + x7)) 2)) + 1)))
set_option maxHeartbeats 1000000 in
theorem spec_88 {w : World} {H : Hp} {a0 : Config} {s1 : Sv} {r : Int} (hF : M_config_Quorum a0 = some r) (hT : Tab H) (hG : Good w H []) (hs1 : Sl (Fl.ty fl_Member) H s1 a0.Members) :
    Fine Tryd.prog 88 [.agg (flat [ckI a0.Epoch, ckL s1]).toArray] w H [] (fun H' v L' => v = .int .i64 r ∧ L' = []) := by
  unfold M_config_Quorum at hF
  unfold Fine
  obtain ⟨B, hB⟩ : ∃ B : Base, B = ⟨w, H, blks []⟩ := ⟨_, rfl⟩
  have hI : Inv B w H [] := by rw [hB]; exact Inv.start hG
  refine enter (n := 11) (args := [.agg (flat [ckI a0.Epoch, ckL s1]).toArray]) Tryd.func88 rfl Tryd.ntmps88 (Nat.le_of_ble_eq_true rfl) ?_
  refine wseq ?_
  refine wreg ?_
  refine le rfl (l_box (cks := [ckI a0.Epoch, ckL s1]) hI rfl rfl rfl) rfl ?_
  rintro _ w3 ⟨g2, rfl, hI⟩
  replace hI : Inv B w3 H [.cb g2 [ckI a0.Epoch, ckL s1] 64] := hI
  refine lv (v := .int .i64 0) rfl (r_as rfl rfl) rfl ?_
  refine wend ?_
  refine wthen ?_
  refine wren (fun ρ4 eρ4 => ?_)
  have h5 : opd ρ4 11 (.tmp 1) = .pointer (some ⟨g2, 0 + 0, none⟩) := eρ4 1
  clear eρ4
  refine wseq ?_
  refine dstG (H0 := H) (L0 := keepL [true] [.cb g2 [ckI a0.Epoch, ckL s1] 64]) [] mixed rfl (by repeat (first | exact Pan.body | refine Pan.then ?_ | refine Pan.inBlock ?_ | refine Pan.noGoto ?_ | refine Pan.pure ?_)) hI (hI.good.weakm _ (Hle.refl _) rfl) ?_
  intro w6 hI hP
  refine dp (v := .pointer (some ⟨g2, 0 + 1, none⟩)) 0 (by kernel_rfl) rfl rfl (fun _ => l_fa (j := 0) (i := 0) rfl fl64_1 h5 rfl) rfl hP ?_
  refine dr (v := s1.v) 1 (by kernel_rfl) rfl rfl (hI.good.weakm [true] (Hle.refl _) rfl) (fun _ hG => r_cl1 (off := 1) (p := 1) (hG.ca 0 rfl) rfl sc62 rfl rfl rfl) rfl hP ?_
  refine dp (v := .int .i64 (a0.Members.length : Int)) 2 (by kernel_rfl) rfl rfl (fun _ => r_lenS rfl sl62 rfl hs1) rfl hP ?_
  refine dr (v := .agg (flat [ckI a0.Epoch, ckL s1]).toArray) 3 (by kernel_rfl) rfl rfl (hI.good.weakm [true] (Hle.refl _) rfl) (fun _ hG => r_cla (off := 0) (p := 0) (m := 2) (hG.ca 0 rfl) rfl ag64 h5 rfl rfl) rfl hP ?_
  obtain ⟨x7, hx7, hF⟩ := Option.bind_eq_some_iff.1 hF
  have hsp10 := spec_94 hx7 hT (hI.part 0) hs1
  refine dfc 4 ([]) ([.cb g2 [ckI a0.Epoch, ckL s1] 64]) (args := [.agg (flat [ckI a0.Epoch, ckL s1]).toArray]) fc94 (by kernel_rfl) rfl rfl rfl rfl rfl hI (argc rfl rfl) (hsp10) ?_
  rintro _ H8 _ w9 ⟨rfl, rfl⟩ hleH8 hI
  replace hI : Inv B w9 H8 [.cb g2 [ckI a0.Epoch, ckL s1] 64] := hI
  refine ⟨(hI.good.weakm [true] hleH8 rfl), ?_⟩
  refine dp (v := .int .i64 (wI ((a0.Members.length : Int) + x7))) 5 (by kernel_rfl) rfl rfl (fun _ => r_addw rfl rfl rfl) rfl hP ?_
  refine dp (v := .int .i64 (wI (Int.tdiv (wI ((a0.Members.length : Int) + x7)) 2))) 6 (by kernel_rfl) rfl rfl (fun _ => r_quo rfl rfl rfl (by decide)) rfl hP ?_
  refine dp (v := .int .i64 (wI ((wI (Int.tdiv (wI ((a0.Members.length : Int) + x7)) 2)) + 1))) 7 (by kernel_rfl) rfl rfl (fun _ => r_addw rfl rfl rfl) rfl hP ?_
  refine dp (v := .int .i64 (wI ((wI (Int.tdiv (wI ((a0.Members.length : Int) + x7)) 2)) + 1))) 8 (by kernel_rfl) rfl rfl (fun _ => r_as rfl rfl) rfl hP ?_
  refine dend (by kernel_rfl) ?_
  refine wthen ?_
  refine wren (fun ρ11 eρ11 => ?_)
  have h12 : opd ρ11 11 (.tmp 2) = .int .i64 (wI ((wI (Int.tdiv (wI ((a0.Members.length : Int) + x7)) 2)) + 1)) := eρ11 2
  clear eρ11
  refine wp_ret ?_
  obtain rfl := Option.some.inj hF
  subst hB
  refine finR (rs := [.tmp 2]) (vs := [.int .i64 (wI ((wI (Int.tdiv (wI ((a0.Members.length : Int) + x7)) 2)) + 1))]) rfl ⟨h12, trivial⟩ ?_
  exact hI.fin 0 ⟨rfl, rfl⟩
noncomputable def M_cert_Check (a0 : Config) (a1 : Block) (a2 : Cert) : Option (Bool) := ((M_config_Good a0).bind fun x15 => (if x15 = true then ((M_block_Good a1).bind fun x20 => (if x20 = true then (if a1.Epoch ≠ a0.Epoch then some false else ((M_config_Quorum a0).bind fun x33 => (if (a2.Votes.length : Int) < x33 then some false else ((M_block_Digest a1).bind fun x45 => ((forK (fun (i72 : Nat) (σ72 : Int) => (((a2.Votes[i72]?).bind fun x346 => (if x346.From ≤ σ72 then ((some false).map Sum.inr) else (if x346.Kind ≠ 2 then ((some false).map Sum.inr) else (if x346.Height ≠ a1.Height then ((some false).map Sum.inr) else (if x346.Round ≠ a2.Round then ((some false).map Sum.inr) else (if x346.Digest = x45 then ((M_vote_Right a0 x346).bind fun x425 => (if x425 = true then some (.inl x346.From) else ((some false).map Sum.inr))) else ((some false).map Sum.inr))))))) : Option (Int ⊕ Bool))) a2.Votes.length 0 0).bind fun y => match y with | .inl σ72 => some true | .inr r => some r))))) else some false)) else some false))
set_option maxHeartbeats 4000000 in
theorem spec_46 {w : World} {H : Hp} {a0 : Config} {a1 : Block} {a2 : Cert} {s1 : Sv} {s2 : Sv} {s3 : Sv} {r : Bool} (hF : M_cert_Check a0 a1 a2 = some r) (hT : Tab H) (hG : Good w H []) (hs1 : Sl (Fl.ty fl_Member) H s1 a0.Members) (hs2 : Sl (Fl.ty fl_Request) H s2 a1.Requests) (hs3 : Sl ty_Vote H s3 a2.Votes) :
    Fine Tryd.prog 46 [.agg (flat [ckI a0.Epoch, ckL s1]).toArray, .agg (flat [ckI a1.Epoch, ckI a1.Height, ckV flB a1.Prev, ckV flB a1.State, ckV flB a1.Next, ckL s2]).toArray, .agg (flat [ckI a2.Round, ckL s3]).toArray] w H [] (fun H' v L' => v = .bool r ∧ L' = []) := by
  unfold M_cert_Check at hF
  unfold Fine
  obtain ⟨B, hB⟩ : ∃ B : Base, B = ⟨w, H, blks []⟩ := ⟨_, rfl⟩
  have hI : Inv B w H [] := by rw [hB]; exact Inv.start hG
  refine enter (n := 81) (args := [.agg (flat [ckI a0.Epoch, ckL s1]).toArray, .agg (flat [ckI a1.Epoch, ckI a1.Height, ckV flB a1.Prev, ckV flB a1.State, ckV flB a1.Next, ckL s2]).toArray, .agg (flat [ckI a2.Round, ckL s3]).toArray]) Tryd.func46 rfl Tryd.ntmps46 (Nat.le_of_ble_eq_true rfl) ?_
  refine wseq ?_
  refine wreg ?_
  refine le rfl (l_box (cks := [ckI a0.Epoch, ckL s1]) hI rfl rfl rfl) rfl ?_
  rintro _ w5 ⟨g4, rfl, hI⟩
  replace hI : Inv B w5 H [.cb g4 [ckI a0.Epoch, ckL s1] 64] := hI
  refine le rfl (l_box (cks := [ckI a1.Epoch, ckI a1.Height, ckV flB a1.Prev, ckV flB a1.State, ckV flB a1.Next, ckL s2]) hI rfl rfl rfl) rfl ?_
  rintro _ w7 ⟨g6, rfl, hI⟩
  replace hI : Inv B w7 H [.cb g4 [ckI a0.Epoch, ckL s1] 64, .cb g6 [ckI a1.Epoch, ckI a1.Height, ckV flB a1.Prev, ckV flB a1.State, ckV flB a1.Next, ckL s2] 69] := hI
  refine le rfl (l_box (cks := [ckI a2.Round, ckL s3]) hI rfl rfl rfl) rfl ?_
  rintro _ w9 ⟨g8, rfl, hI⟩
  replace hI : Inv B w9 H [.cb g4 [ckI a0.Epoch, ckL s1] 64, .cb g6 [ckI a1.Epoch, ckI a1.Height, ckV flB a1.Prev, ckV flB a1.State, ckV flB a1.Next, ckL s2] 69, .cb g8 [ckI a2.Round, ckL s3] 71] := hI
  refine lv (v := .bool false) rfl (r_as rfl rfl) rfl ?_
  refine wend ?_
  refine wthen ?_
  refine wren (fun ρ10 eρ10 => ?_)
  have h11 : opd ρ10 81 (.tmp 3) = .pointer (some ⟨g4, 0 + 0, none⟩) := eρ10 3
  have h12 : opd ρ10 81 (.tmp 4) = .pointer (some ⟨g6, 0 + 0, none⟩) := eρ10 4
  have h13 : opd ρ10 81 (.tmp 5) = .pointer (some ⟨g8, 0 + 0, none⟩) := eρ10 5
  clear eρ10
  refine wseq ?_
  refine wseq ?_
  refine dstG (H0 := H) (L0 := keepL [true, true, true] [.cb g4 [ckI a0.Epoch, ckL s1] 64, .cb g6 [ckI a1.Epoch, ckI a1.Height, ckV flB a1.Prev, ckV flB a1.State, ckV flB a1.Next, ckL s2] 69, .cb g8 [ckI a2.Round, ckL s3] 71]) [] mixed rfl (by repeat (first | exact Pan.body | refine Pan.then ?_ | refine Pan.inBlock ?_ | refine Pan.noGoto ?_ | refine Pan.pure ?_)) hI (hI.good.weakm _ (Hle.refl _) rfl) ?_
  intro w14 hI hP
  refine dr (v := .agg (flat [ckI a0.Epoch, ckL s1]).toArray) 0 (by kernel_rfl) rfl rfl (hI.good.weakm [true, true, true] (Hle.refl _) rfl) (fun _ hG => r_cla (off := 0) (p := 0) (m := 2) (hG.ca 0 rfl) rfl ag64 h11 rfl rfl) rfl hP ?_
  obtain ⟨x15, hx15, hF⟩ := Option.bind_eq_some_iff.1 hF
  have hsp18 := spec_65 hx15 hT (hI.part 0) hs1
  refine dfc 1 ([]) ([.cb g4 [ckI a0.Epoch, ckL s1] 64, .cb g6 [ckI a1.Epoch, ckI a1.Height, ckV flB a1.Prev, ckV flB a1.State, ckV flB a1.Next, ckL s2] 69, .cb g8 [ckI a2.Round, ckL s3] 71]) (args := [.agg (flat [ckI a0.Epoch, ckL s1]).toArray]) fc65 (by kernel_rfl) rfl rfl rfl rfl rfl hI (argc rfl rfl) (hsp18) ?_
  rintro _ H16 _ w17 ⟨rfl, rfl⟩ hleH16 hI
  replace hI : Inv B w17 H16 [.cb g4 [ckI a0.Epoch, ckL s1] 64, .cb g6 [ckI a1.Epoch, ckI a1.Height, ckV flB a1.Prev, ckV flB a1.State, ckV flB a1.Next, ckL s2] 69, .cb g8 [ckI a2.Round, ckL s3] 71] := hI
  refine ⟨(hI.good.weakm [true, true, true] hleH16 rfl), ?_⟩
  refine dp (v := .bool (!x15)) 2 (by kernel_rfl) rfl rfl (fun _ => r_not rfl rfl) rfl hP ?_
  by_cases hc19 : x15 = true
  · skip
    rw [if_pos hc19] at hF
    have hbhc19 : (!x15) = false := (by rw [hc19]; rfl)
    refine dp (v := .bool false) 3 (by kernel_rfl) rfl rfl (fun _ => r_mv rfl ((show opd _ _ _ = _ from rfl).trans (congrArg Value.bool hbhc19))) rfl hP ?_
    refine dr (v := .agg (flat [ckI a1.Epoch, ckI a1.Height, ckV flB a1.Prev, ckV flB a1.State, ckV flB a1.Next, ckL s2]).toArray) 4 (by kernel_rfl) rfl rfl (hI.good.weakm [true, true, true] hleH16 rfl) (fun _ hG => r_cla (off := 0) (p := 0) (m := 6) (hG.ca 1 rfl) rfl ag69 h12 rfl rfl) rfl hP ?_
    obtain ⟨x20, hx20, hF⟩ := Option.bind_eq_some_iff.1 hF
    have hsp23 := spec_87 hx20 (hT.mono hleH16) (hI.part 0) (hs2.mono hleH16)
    refine dfc 5 ([]) ([.cb g4 [ckI a0.Epoch, ckL s1] 64, .cb g6 [ckI a1.Epoch, ckI a1.Height, ckV flB a1.Prev, ckV flB a1.State, ckV flB a1.Next, ckL s2] 69, .cb g8 [ckI a2.Round, ckL s3] 71]) (args := [.agg (flat [ckI a1.Epoch, ckI a1.Height, ckV flB a1.Prev, ckV flB a1.State, ckV flB a1.Next, ckL s2]).toArray]) fc87 (by kernel_rfl) rfl rfl rfl rfl rfl hI (argc rfl rfl) (hsp23) ?_
    rintro _ H21 _ w22 ⟨rfl, rfl⟩ hleH21 hI
    replace hI : Inv B w22 H21 [.cb g4 [ckI a0.Epoch, ckL s1] 64, .cb g6 [ckI a1.Epoch, ckI a1.Height, ckV flB a1.Prev, ckV flB a1.State, ckV flB a1.Next, ckL s2] 69, .cb g8 [ckI a2.Round, ckL s3] 71] := hI
    refine ⟨(hI.good.weakm [true, true, true] (hleH16.trans hleH21) rfl), ?_⟩
    refine dp (v := .bool (!x20)) 6 (by kernel_rfl) rfl rfl (fun _ => r_not rfl rfl) rfl hP ?_
    refine dp (v := .bool (!x20)) 7 (by kernel_rfl) rfl rfl (fun _ => r_pkF rfl rfl rfl) rfl hP ?_
    by_cases hc24 : x20 = true
    · skip
      rw [if_pos hc24] at hF
      have hbhc24 : (!x20) = false := (by rw [hc24]; rfl)
      refine dp (v := .bool false) 8 (by kernel_rfl) rfl rfl (fun _ => r_mv rfl ((show opd _ _ _ = _ from rfl).trans (congrArg Value.bool hbhc24))) rfl hP ?_
      refine dp (v := .pointer (some ⟨g6, 0 + 0, none⟩)) 9 (by kernel_rfl) rfl rfl (fun _ => l_fa (j := 0) (i := 0) rfl fl69_0 h12 rfl) rfl hP ?_
      refine dp (v := .pointer (some ⟨g4, 0 + 0, none⟩)) 11 (by kernel_rfl) rfl rfl (fun _ => l_fa (j := 0) (i := 0) rfl fl64_0 h11 rfl) rfl hP ?_
      refine dr (v := .int .i64 a1.Epoch) 10 (by kernel_rfl) rfl rfl (hI.good.weakm [true, true, true] (hleH16.trans hleH21) rfl) (fun _ hG => r_cl1 (off := 0) (p := 0) (hG.ca 1 rfl) rfl sc3 rfl rfl rfl) rfl hP ?_
      refine dr (v := .int .i64 a0.Epoch) 12 (by kernel_rfl) rfl rfl (hI.good.weakm [true, true, true] (hleH16.trans hleH21) rfl) (fun _ hG => r_cl1 (off := 0) (p := 0) (hG.ca 0 rfl) rfl sc3 rfl rfl rfl) rfl hP ?_
      refine dp (v := .bool (decide (a1.Epoch ≠ a0.Epoch))) 13 (by kernel_rfl) rfl rfl (fun _ => r_neq rfl rfl rfl rfl) rfl hP ?_
      refine dp (v := .bool (decide (a1.Epoch ≠ a0.Epoch))) 14 (by kernel_rfl) rfl rfl (fun _ => r_pkF rfl rfl rfl) rfl hP ?_
      by_cases hc25 : a1.Epoch ≠ a0.Epoch
      · skip
        rw [if_pos hc25] at hF
        have hbhc25 : (decide (a1.Epoch ≠ a0.Epoch)) = true := decide_eq_true hc25
        refine dp (v := .bool true) 15 (by kernel_rfl) rfl rfl (fun _ => r_mv rfl ((show opd _ _ _ = _ from rfl).trans (congrArg Value.bool hbhc25))) rfl hP ?_
        refine dx 16 (by kernel_rfl) rfl (by kernel_rfl) rfl hP ?_
        refine dx 17 (by kernel_rfl) rfl (by kernel_rfl) rfl hP ?_
        refine dx 18 (by kernel_rfl) rfl (by kernel_rfl) rfl hP ?_
        refine dx 19 (by kernel_rfl) rfl (by kernel_rfl) rfl hP ?_
        refine dx 20 (by kernel_rfl) rfl (by kernel_rfl) rfl hP ?_
        refine dx 21 (by kernel_rfl) rfl (by kernel_rfl) rfl hP ?_
        refine dp (v := .bool true) 22 (by kernel_rfl) rfl rfl (fun _ => r_pkT rfl rfl rfl) rfl hP ?_
        refine dend (by kernel_rfl) ?_
        refine wthen ?_
        refine wren (fun ρ26 eρ26 => ?_)
        have h27 : opd ρ26 81 (.tmp 3) = .pointer (some ⟨g4, 0 + 0, none⟩) := (eρ26 3).trans h11
        have h28 : opd ρ26 81 (.tmp 4) = .pointer (some ⟨g6, 0 + 0, none⟩) := (eρ26 4).trans h12
        have h29 : opd ρ26 81 (.tmp 5) = .pointer (some ⟨g8, 0 + 0, none⟩) := (eρ26 5).trans h13
        have h30 : opd ρ26 81 (.tmp 33) = .bool true := eρ26 33
        clear eρ26
        refine wcT h30 ?_
        refine wseq ?_
        refine wreg ?_
        refine lv (v := .bool false) rfl (r_as rfl rfl) rfl ?_
        refine wend ?_
        refine wthen ?_
        refine wren (fun ρ31 eρ31 => ?_)
        have h32 : opd ρ31 81 (.tmp 6) = .bool false := eρ31 6
        clear eρ31
        refine wp_ret ?_
        refine thR ?_
        obtain rfl := Option.some.inj hF
        subst hB
        refine finR (rs := [.tmp 6]) (vs := [.bool false]) rfl ⟨h32, trivial⟩ ?_
        exact hI.fin 0 ⟨rfl, rfl⟩
      · skip
        rw [if_neg hc25] at hF
        have hbhc25 : (decide (a1.Epoch ≠ a0.Epoch)) = false := decide_eq_false hc25
        refine dp (v := .bool false) 15 (by kernel_rfl) rfl rfl (fun _ => r_mv rfl ((show opd _ _ _ = _ from rfl).trans (congrArg Value.bool hbhc25))) rfl hP ?_
        refine dp (v := .pointer (some ⟨g8, 0 + 1, none⟩)) 16 (by kernel_rfl) rfl rfl (fun _ => l_fa (j := 0) (i := 0) rfl fl71_1 h13 rfl) rfl hP ?_
        refine dr (v := s3.v) 17 (by kernel_rfl) rfl rfl (hI.good.weakm [true, true, true] (hleH16.trans hleH21) rfl) (fun _ hG => r_cl1 (off := 1) (p := 1) (hG.ca 2 rfl) rfl sc22 rfl rfl rfl) rfl hP ?_
        refine dp (v := .int .i64 (a2.Votes.length : Int)) 18 (by kernel_rfl) rfl rfl (fun _ => r_lenS rfl sl22 rfl ((hs3.mono hleH16).mono hleH21)) rfl hP ?_
        refine dr (v := .agg (flat [ckI a0.Epoch, ckL s1]).toArray) 19 (by kernel_rfl) rfl rfl (hI.good.weakm [true, true, true] (hleH16.trans hleH21) rfl) (fun _ hG => r_cla (off := 0) (p := 0) (m := 2) (hG.ca 0 rfl) rfl ag64 h11 rfl rfl) rfl hP ?_
        obtain ⟨x33, hx33, hF⟩ := Option.bind_eq_some_iff.1 hF
        have hsp36 := spec_88 hx33 ((hT.mono hleH16).mono hleH21) (hI.part 0) ((hs1.mono hleH16).mono hleH21)
        refine dfc 20 ([]) ([.cb g4 [ckI a0.Epoch, ckL s1] 64, .cb g6 [ckI a1.Epoch, ckI a1.Height, ckV flB a1.Prev, ckV flB a1.State, ckV flB a1.Next, ckL s2] 69, .cb g8 [ckI a2.Round, ckL s3] 71]) (args := [.agg (flat [ckI a0.Epoch, ckL s1]).toArray]) fc88 (by kernel_rfl) rfl rfl rfl rfl rfl hI (argc rfl rfl) (hsp36) ?_
        rintro _ H34 _ w35 ⟨rfl, rfl⟩ hleH34 hI
        replace hI : Inv B w35 H34 [.cb g4 [ckI a0.Epoch, ckL s1] 64, .cb g6 [ckI a1.Epoch, ckI a1.Height, ckV flB a1.Prev, ckV flB a1.State, ckV flB a1.Next, ckL s2] 69, .cb g8 [ckI a2.Round, ckL s3] 71] := hI
        refine ⟨(hI.good.weakm [true, true, true] ((hleH16.trans hleH21).trans hleH34) rfl), ?_⟩
        refine dp (v := .bool (decide ((a2.Votes.length : Int) < x33))) 21 (by kernel_rfl) rfl rfl (fun _ => r_lss rfl rfl rfl rfl) rfl hP ?_
        refine dp (v := .bool (decide ((a2.Votes.length : Int) < x33))) 22 (by kernel_rfl) rfl rfl (fun _ => r_pkF rfl rfl rfl) rfl hP ?_
        refine dend (by kernel_rfl) ?_
        refine wthen ?_
        refine wren (fun ρ37 eρ37 => ?_)
        have h38 : opd ρ37 81 (.tmp 3) = .pointer (some ⟨g4, 0 + 0, none⟩) := (eρ37 3).trans h11
        have h39 : opd ρ37 81 (.tmp 4) = .pointer (some ⟨g6, 0 + 0, none⟩) := (eρ37 4).trans h12
        have h40 : opd ρ37 81 (.tmp 5) = .pointer (some ⟨g8, 0 + 0, none⟩) := (eρ37 5).trans h13
        have h41 : opd ρ37 81 (.tmp 33) = .bool (decide ((a2.Votes.length : Int) < x33)) := eρ37 33
        clear eρ37
        by_cases hc42 : (a2.Votes.length : Int) < x33
        · skip
          rw [if_pos hc42] at hF
          have hbhc42 : (decide ((a2.Votes.length : Int) < x33)) = true := decide_eq_true hc42
          refine wcT (h41.trans (congrArg Value.bool hbhc42)) ?_
          refine wseq ?_
          refine wreg ?_
          refine lv (v := .bool false) rfl (r_as rfl rfl) rfl ?_
          refine wend ?_
          refine wthen ?_
          refine wren (fun ρ43 eρ43 => ?_)
          have h44 : opd ρ43 81 (.tmp 6) = .bool false := eρ43 6
          clear eρ43
          refine wp_ret ?_
          refine thR ?_
          obtain rfl := Option.some.inj hF
          subst hB
          refine finR (rs := [.tmp 6]) (vs := [.bool false]) rfl ⟨h44, trivial⟩ ?_
          exact hI.fin 0 ⟨rfl, rfl⟩
        · skip
          rw [if_neg hc42] at hF
          have hbhc42 : (decide ((a2.Votes.length : Int) < x33)) = false := decide_eq_false hc42
          refine wcF (h41.trans (congrArg Value.bool hbhc42)) ?_
          refine wp_skip ?_
          refine wthen ?_
          refine wseq ?_
          refine wreg ?_
          refine lv (v := .agg (flat [ckI a1.Epoch, ckI a1.Height, ckV flB a1.Prev, ckV flB a1.State, ckV flB a1.Next, ckL s2]).toArray) rfl (r_cla (off := 0) (p := 0) (m := 6) (hI.good.ca 1 rfl) rfl ag69 h39 rfl rfl) rfl ?_
          obtain ⟨x45, hx45, hF⟩ := Option.bind_eq_some_iff.1 hF
          have hsp48 := spec_86 hx45 (((hT.mono hleH16).mono hleH21).mono hleH34) (hI.part 0) (((hs2.mono hleH16).mono hleH21).mono hleH34)
          refine fc ([]) ([.cb g4 [ckI a0.Epoch, ckL s1] 64, .cb g6 [ckI a1.Epoch, ckI a1.Height, ckV flB a1.Prev, ckV flB a1.State, ckV flB a1.Next, ckL s2] 69, .cb g8 [ckI a2.Round, ckL s3] 71]) (args := [.agg (flat [ckI a1.Epoch, ckI a1.Height, ckV flB a1.Prev, ckV flB a1.State, ckV flB a1.Next, ckL s2]).toArray]) fc86 rfl rfl rfl hI (argc rfl rfl) (hsp48) ?_
          rintro _ H46 _ w47 ⟨rfl, rfl⟩ hleH46 hI
          replace hI : Inv B w47 H46 [.cb g4 [ckI a0.Epoch, ckL s1] 64, .cb g6 [ckI a1.Epoch, ckI a1.Height, ckV flB a1.Prev, ckV flB a1.State, ckV flB a1.Next, ckL s2] 69, .cb g8 [ckI a2.Round, ckL s3] 71] := hI
          refine le rfl (l_al hI rfl ze29) rfl ?_
          rintro _ w50 ⟨g49, rfl, hI⟩
          replace hI : Inv B w50 H46 [.cb g4 [ckI a0.Epoch, ckL s1] 64, .cb g6 [ckI a1.Epoch, ckI a1.Height, ckV flB a1.Prev, ckV flB a1.State, ckV flB a1.Next, ckL s2] 69, .cb g8 [ckI a2.Round, ckL s3] 71, .cb g49 [ckV flB (Vec.rep 32 0)] 29] := hI
          refine lst rfl (l_st (off := 0) (p := 0) (m := 1) (new := [ckV flB x45]) hI 3 rfl rfl sz29 rfl rfl rfl rfl rfl rfl) rfl ?_
          intro w51 hI
          replace hI : Inv B w51 H46 [.cb g4 [ckI a0.Epoch, ckL s1] 64, .cb g6 [ckI a1.Epoch, ckI a1.Height, ckV flB a1.Prev, ckV flB a1.State, ckV flB a1.Next, ckL s2] 69, .cb g8 [ckI a2.Round, ckL s3] 71, .cb g49 [ckV flB x45] 29] := hI
          refine wend ?_
          refine wthen ?_
          refine wren (fun ρ52 eρ52 => ?_)
          have h53 : opd ρ52 81 (.tmp 3) = .pointer (some ⟨g4, 0 + 0, none⟩) := (eρ52 3).trans h38
          have h54 : opd ρ52 81 (.tmp 4) = .pointer (some ⟨g6, 0 + 0, none⟩) := (eρ52 4).trans h39
          have h55 : opd ρ52 81 (.tmp 5) = .pointer (some ⟨g8, 0 + 0, none⟩) := (eρ52 5).trans h40
          have h56 : opd ρ52 81 (.tmp 7) = .pointer (some ⟨g49, 0 + 0, none⟩) := eρ52 7
          clear eρ52
          refine wseq ?_
          refine wreg ?_
          refine lv (v := .int .i64 0) rfl (r_as rfl rfl) rfl ?_
          refine wend ?_
          refine wthen ?_
          refine wren (fun ρ57 eρ57 => ?_)
          have h58 : opd ρ57 81 (.tmp 3) = .pointer (some ⟨g4, 0 + 0, none⟩) := (eρ57 3).trans h53
          have h59 : opd ρ57 81 (.tmp 4) = .pointer (some ⟨g6, 0 + 0, none⟩) := (eρ57 4).trans h54
          have h60 : opd ρ57 81 (.tmp 5) = .pointer (some ⟨g8, 0 + 0, none⟩) := (eρ57 5).trans h55
          have h61 : opd ρ57 81 (.tmp 7) = .pointer (some ⟨g49, 0 + 0, none⟩) := (eρ57 7).trans h56
          have h62 : opd ρ57 81 (.tmp 8) = .int .i64 0 := eρ57 8
          clear eρ57
          refine wseq ?_
          refine wseq ?_
          refine wreg ?_
          refine lv (v := .pointer (some ⟨g8, 0 + 1, none⟩)) rfl (l_fa (j := 0) (i := 0) rfl fl71_1 h60 rfl) rfl ?_
          refine lv (v := s3.v) rfl (r_cl1 (off := 1) (p := 1) (hI.good.ca 2 rfl) rfl sc22 rfl rfl rfl) rfl ?_
          refine lv (v := .int .i64 (a2.Votes.length : Int)) rfl (r_lenS rfl sl22 rfl ((((hs3.mono hleH16).mono hleH21).mono hleH34).mono hleH46)) rfl ?_
          refine lv (v := .int .i64 0) rfl (r_mv rfl rfl) rfl ?_
          refine wend ?_
          refine wthen ?_
          refine wren (fun ρ63 eρ63 => ?_)
          have h64 : opd ρ63 81 (.tmp 3) = .pointer (some ⟨g4, 0 + 0, none⟩) := (eρ63 3).trans h58
          have h65 : opd ρ63 81 (.tmp 4) = .pointer (some ⟨g6, 0 + 0, none⟩) := (eρ63 4).trans h59
          have h66 : opd ρ63 81 (.tmp 5) = .pointer (some ⟨g8, 0 + 0, none⟩) := (eρ63 5).trans h60
          have h67 : opd ρ63 81 (.tmp 7) = .pointer (some ⟨g49, 0 + 0, none⟩) := (eρ63 7).trans h61
          have h68 : opd ρ63 81 (.tmp 8) = .int .i64 0 := (eρ63 8).trans h62
          have h69 : opd ρ63 81 (.tmp 37) = s3.v := eρ63 37
          have h70 : opd ρ63 81 (.tmp 38) = .int .i64 (a2.Votes.length : Int) := eρ63 38
          have h71 : opd ρ63 81 (.tmp 39) = .int .i64 0 := eρ63 39
          clear eρ63
          refine wp_block ?_
          have hbd72 := (((((hs3.mono hleH16).mono hleH21).mono hleH34).mono hleH46)).bd
          rw [(((((hs3.mono hleH16).mono hleH21).mono hleH34).mono hleH46)).n] at hbd72
          obtain ⟨y72, hy72, hF72⟩ := Option.bind_eq_some_iff.1 hF
          refine wfor (n := 81) a2.Votes.length _ (fun (i72 : Nat) (σ72 : Int) ρ' w' => ∃ (H325 : Hp), Hle H46 H325 ∧ opd ρ' 81 (.tmp 3) = .pointer (some ⟨g4, 0 + 0, none⟩) ∧ opd ρ' 81 (.tmp 4) = .pointer (some ⟨g6, 0 + 0, none⟩) ∧ opd ρ' 81 (.tmp 5) = .pointer (some ⟨g8, 0 + 0, none⟩) ∧ opd ρ' 81 (.tmp 7) = .pointer (some ⟨g49, 0 + 0, none⟩) ∧ opd ρ' 81 (.tmp 8) = .int .i64 σ72 ∧ opd ρ' 81 (.tmp 37) = s3.v ∧ opd ρ' 81 (.tmp 38) = .int .i64 (a2.Votes.length : Int) ∧ opd ρ' 81 (.tmp 39) = .int .i64 (i72 : Int) ∧ Inv B w' H325 [.cb g4 [ckI a0.Epoch, ckL s1] 64, .cb g6 [ckI a1.Epoch, ckI a1.Height, ckV flB a1.Prev, ckV flB a1.State, ckV flB a1.Next, ckL s2] 69, .cb g8 [ckI a2.Round, ckL s3] 71, .cb g49 [ckV flB x45] 29]) hy72 ⟨H46, (Hle.refl _), h64, h65, h66, h67, h68, h69, h70, h71, hI⟩ ?_
          rintro k72 i72 σ72 ρ334 w335 hk72 ⟨H325, hleH325, h326, h327, h328, h329, h330, h331, h332, h333, hI⟩ hy72
          refine wseq ?_
          refine wreg ?_
          refine lv (v := .bool (decide ((i72 : Int) < (a2.Votes.length : Int)))) rfl (r_lss rfl h333 h332 rfl) rfl ?_
          refine wend ?_
          refine wthen ?_
          refine wseq ?_
          by_cases hc336 : (i72 : Int) < (a2.Votes.length : Int)
          · skip
            have hbhc336 : (decide ((i72 : Int) < (a2.Votes.length : Int))) = true := decide_eq_true hc336
            obtain ⟨k72, rfl⟩ : ∃ m, k72 = m + 1 := ⟨k72 - 1, by omega⟩
            obtain ⟨z72, hb72⟩ := forK_body hy72
            have hF := hb72
            have hlt72 : ((i72 : Nat) : Int) + 1 ≤ 9223372036854775807 := by omega
            refine wcT ((show opd _ _ _ = _ from rfl).trans (congrArg Value.bool hbhc336)) ?_
            refine wp_skip ?_
            refine wthen ?_
            refine wren (fun ρ337 eρ337 => ?_)
            have h338 : opd ρ337 81 (.tmp 3) = .pointer (some ⟨g4, 0 + 0, none⟩) := (eρ337 3).trans h326
            have h339 : opd ρ337 81 (.tmp 4) = .pointer (some ⟨g6, 0 + 0, none⟩) := (eρ337 4).trans h327
            have h340 : opd ρ337 81 (.tmp 5) = .pointer (some ⟨g8, 0 + 0, none⟩) := (eρ337 5).trans h328
            have h341 : opd ρ337 81 (.tmp 7) = .pointer (some ⟨g49, 0 + 0, none⟩) := (eρ337 7).trans h329
            have h342 : opd ρ337 81 (.tmp 8) = .int .i64 σ72 := (eρ337 8).trans h330
            have h343 : opd ρ337 81 (.tmp 37) = s3.v := (eρ337 37).trans h331
            have h344 : opd ρ337 81 (.tmp 38) = .int .i64 (a2.Votes.length : Int) := (eρ337 38).trans h332
            have h345 : opd ρ337 81 (.tmp 39) = .int .i64 (i72 : Int) := (eρ337 39).trans h333
            clear eρ337
            refine wseq ?_
            refine wp_block ?_
            refine wseq ?_
            refine wreg ?_
            obtain ⟨x346, hx346, hF⟩ := Option.bind_eq_some_iff.1 hF
            obtain ⟨b347, j348, _, hix349, hil350, ⟨s352, s353, s354, rfl, hs352, hs353, hs354⟩, hA351⟩ := (((((hs3.mono hleH16).mono hleH21).mono hleH34).mono hleH46).mono hleH325).ix hx346
            replace hA351 : At H325 b347 j348 [ckI x346.Kind, ckI x346.Epoch, ckI x346.Height, ckI x346.Round, ckV flB x346.Digest, ckI x346.From, ckI x346.Sig.Leaf, ckL s352, ckL s353, ckL s354] := hA351
            refine lv (v := .pointer (some ⟨b347, j348 + 0, none⟩)) rfl (r_ixt rfl sl22 h343 h345 rfl hix349 hil350) rfl ?_
            refine lv (v := .agg (flat [ckI x346.Kind, ckI x346.Epoch, ckI x346.Height, ckI x346.Round, ckV flB x346.Digest, ckI x346.From, ckI x346.Sig.Leaf, ckL s352, ckL s353, ckL s354]).toArray) rfl (r_cla (off := 0) (p := 0) (m := 10) (hA351.ca hI.good) rfl ag35 rfl rfl rfl) rfl ?_
            refine le rfl (l_al hI rfl ze35) rfl ?_
            rintro _ w356 ⟨g355, rfl, hI⟩
            replace hI : Inv B w356 H325 [.cb g4 [ckI a0.Epoch, ckL s1] 64, .cb g6 [ckI a1.Epoch, ckI a1.Height, ckV flB a1.Prev, ckV flB a1.State, ckV flB a1.Next, ckL s2] 69, .cb g8 [ckI a2.Round, ckL s3] 71, .cb g49 [ckV flB x45] 29, .cb g355 [ckI 0, ckI 0, ckI 0, ckI 0, ckV flB (Vec.rep 32 0), ckI 0, ckI 0, ckL Sv.nil, ckL Sv.nil, ckL Sv.nil] 35] := hI
            refine lst rfl (l_st (off := 0) (p := 0) (m := 10) (new := [ckI x346.Kind, ckI x346.Epoch, ckI x346.Height, ckI x346.Round, ckV flB x346.Digest, ckI x346.From, ckI x346.Sig.Leaf, ckL s352, ckL s353, ckL s354]) hI 4 rfl rfl sz35 rfl rfl rfl rfl rfl rfl) rfl ?_
            intro w357 hI
            replace hI : Inv B w357 H325 [.cb g4 [ckI a0.Epoch, ckL s1] 64, .cb g6 [ckI a1.Epoch, ckI a1.Height, ckV flB a1.Prev, ckV flB a1.State, ckV flB a1.Next, ckL s2] 69, .cb g8 [ckI a2.Round, ckL s3] 71, .cb g49 [ckV flB x45] 29, .cb g355 [ckI x346.Kind, ckI x346.Epoch, ckI x346.Height, ckI x346.Round, ckV flB x346.Digest, ckI x346.From, ckI x346.Sig.Leaf, ckL s352, ckL s353, ckL s354] 35] := hI
            refine wend ?_
            refine wthen ?_
            refine wren (fun ρ358 eρ358 => ?_)
            have h359 : opd ρ358 81 (.tmp 3) = .pointer (some ⟨g4, 0 + 0, none⟩) := (eρ358 3).trans h338
            have h360 : opd ρ358 81 (.tmp 4) = .pointer (some ⟨g6, 0 + 0, none⟩) := (eρ358 4).trans h339
            have h361 : opd ρ358 81 (.tmp 5) = .pointer (some ⟨g8, 0 + 0, none⟩) := (eρ358 5).trans h340
            have h362 : opd ρ358 81 (.tmp 7) = .pointer (some ⟨g49, 0 + 0, none⟩) := (eρ358 7).trans h341
            have h363 : opd ρ358 81 (.tmp 8) = .int .i64 σ72 := (eρ358 8).trans h342
            have h364 : opd ρ358 81 (.tmp 10) = .pointer (some ⟨g355, 0 + 0, none⟩) := eρ358 10
            have h365 : opd ρ358 81 (.tmp 37) = s3.v := (eρ358 37).trans h343
            have h366 : opd ρ358 81 (.tmp 38) = .int .i64 (a2.Votes.length : Int) := (eρ358 38).trans h344
            have h367 : opd ρ358 81 (.tmp 39) = .int .i64 (i72 : Int) := (eρ358 39).trans h345
            clear eρ358
            refine wseq ?_
            refine wseq ?_
            refine wreg ?_
            refine lv (v := .pointer (some ⟨g355, 0 + 36, none⟩)) rfl (l_fa (j := 0) (i := 0) rfl fl35_5 h364 rfl) rfl ?_
            refine lv (v := .int .i64 x346.From) rfl (r_cl1 (off := 36) (p := 5) (hI.good.ca 4 rfl) rfl sc3 rfl rfl rfl) rfl ?_
            refine lv (v := .int .i64 σ72) rfl (r_mv rfl h363) rfl ?_
            refine lv (v := .bool (decide (x346.From ≤ σ72))) rfl (r_leq rfl rfl rfl rfl) rfl ?_
            by_cases hc368 : x346.From ≤ σ72
            · skip
              rw [if_pos hc368] at hF
              have hbhc368 : (decide (x346.From ≤ σ72)) = true := decide_eq_true hc368
              refine lv (v := .bool true) rfl (r_mv rfl ((show opd _ _ _ = _ from rfl).trans (congrArg Value.bool hbhc368))) rfl ?_
              with_reducible refine lx (d := 48) (by kernel_rfl) (by kernel_rfl) ?_
              with_reducible refine lx (d := 49) (by kernel_rfl) (by kernel_rfl) ?_
              with_reducible refine lx (d := 50) (by kernel_rfl) (by kernel_rfl) ?_
              refine lv (v := .bool true) rfl (r_pkT rfl rfl rfl) rfl ?_
              refine lv (v := .bool true) rfl (r_mv rfl rfl) rfl ?_
              with_reducible refine lx (d := 53) (by kernel_rfl) (by kernel_rfl) ?_
              with_reducible refine lx (d := 54) (by kernel_rfl) (by kernel_rfl) ?_
              with_reducible refine lx (d := 55) (by kernel_rfl) (by kernel_rfl) ?_
              with_reducible refine lx (d := 56) (by kernel_rfl) (by kernel_rfl) ?_
              with_reducible refine lx (d := 57) (by kernel_rfl) (by kernel_rfl) ?_
              refine lv (v := .bool true) rfl (r_pkT rfl rfl rfl) rfl ?_
              refine lv (v := .bool true) rfl (r_mv rfl rfl) rfl ?_
              with_reducible refine lx (d := 60) (by kernel_rfl) (by kernel_rfl) ?_
              with_reducible refine lx (d := 61) (by kernel_rfl) (by kernel_rfl) ?_
              with_reducible refine lx (d := 62) (by kernel_rfl) (by kernel_rfl) ?_
              with_reducible refine lx (d := 63) (by kernel_rfl) (by kernel_rfl) ?_
              with_reducible refine lx (d := 64) (by kernel_rfl) (by kernel_rfl) ?_
              refine lv (v := .bool true) rfl (r_pkT rfl rfl rfl) rfl ?_
              refine lv (v := .bool true) rfl (r_mv rfl rfl) rfl ?_
              with_reducible refine lx (d := 67) (by kernel_rfl) (by kernel_rfl) ?_
              with_reducible refine lx (d := 68) (by kernel_rfl) (by kernel_rfl) ?_
              with_reducible refine lx (d := 69) (by kernel_rfl) (by kernel_rfl) ?_
              with_reducible refine lx (d := 70) (by kernel_rfl) (by kernel_rfl) ?_
              refine lv (v := .bool true) rfl (r_pkT rfl rfl rfl) rfl ?_
              refine lv (v := .bool true) rfl (r_mv rfl rfl) rfl ?_
              with_reducible refine lx (d := 73) (by kernel_rfl) (by kernel_rfl) ?_
              with_reducible refine lx (d := 74) (by kernel_rfl) (by kernel_rfl) ?_
              with_reducible refine lx (d := 75) (by kernel_rfl) (by kernel_rfl) ?_
              with_reducible refine lx (d := 76) (by kernel_rfl) (by kernel_rfl) ?_
              refine lv (v := .bool true) rfl (r_pkT rfl rfl rfl) rfl ?_
              refine wend ?_
              refine wthen ?_
              refine wren (fun ρ369 eρ369 => ?_)
              have h370 : opd ρ369 81 (.tmp 3) = .pointer (some ⟨g4, 0 + 0, none⟩) := (eρ369 3).trans h359
              have h371 : opd ρ369 81 (.tmp 4) = .pointer (some ⟨g6, 0 + 0, none⟩) := (eρ369 4).trans h360
              have h372 : opd ρ369 81 (.tmp 5) = .pointer (some ⟨g8, 0 + 0, none⟩) := (eρ369 5).trans h361
              have h373 : opd ρ369 81 (.tmp 7) = .pointer (some ⟨g49, 0 + 0, none⟩) := (eρ369 7).trans h362
              have h374 : opd ρ369 81 (.tmp 10) = .pointer (some ⟨g355, 0 + 0, none⟩) := (eρ369 10).trans h364
              have h375 : opd ρ369 81 (.tmp 37) = s3.v := (eρ369 37).trans h365
              have h376 : opd ρ369 81 (.tmp 38) = .int .i64 (a2.Votes.length : Int) := (eρ369 38).trans h366
              have h377 : opd ρ369 81 (.tmp 39) = .int .i64 (i72 : Int) := (eρ369 39).trans h367
              have h378 : opd ρ369 81 (.tmp 77) = .bool true := eρ369 77
              clear eρ369
              refine wcT h378 ?_
              refine wseq ?_
              refine wreg ?_
              refine lv (v := .bool false) rfl (r_as rfl rfl) rfl ?_
              refine wend ?_
              refine wthen ?_
              refine wren (fun ρ379 eρ379 => ?_)
              have h380 : opd ρ379 81 (.tmp 6) = .bool false := eρ379 6
              clear eρ379
              refine wp_ret ?_
              refine thR ?_
              refine inR ?_
              refine thR ?_
              refine thR ?_
              obtain ⟨q381, hFn, hzq381⟩ := Option.map_eq_some_iff.1 hF
              clear hF
              obtain rfl := forK_inr hy72 (hb72.trans (congrArg some hzq381.symm))
              have hF0 := hF72
              try dsimp only at hF0
              have hF := hFn.trans hF0
              clear hFn hF0
              refine inR ?_
              refine thR ?_
              obtain rfl := Option.some.inj hF
              subst hB
              refine finR (rs := [.tmp 6]) (vs := [.bool false]) rfl ⟨h380, trivial⟩ ?_
              exact hI.fin 0 ⟨rfl, rfl⟩
            · skip
              rw [if_neg hc368] at hF
              have hbhc368 : (decide (x346.From ≤ σ72)) = false := decide_eq_false hc368
              refine lv (v := .bool false) rfl (r_mv rfl ((show opd _ _ _ = _ from rfl).trans (congrArg Value.bool hbhc368))) rfl ?_
              refine lv (v := .pointer (some ⟨g355, 0 + 0, none⟩)) rfl (l_fa (j := 0) (i := 0) rfl fl35_0 h364 rfl) rfl ?_
              refine lv (v := .int .i64 x346.Kind) rfl (r_cl1 (off := 0) (p := 0) (hI.good.ca 4 rfl) rfl sc3 rfl rfl rfl) rfl ?_
              refine lv (v := .bool (decide (x346.Kind ≠ 2))) rfl (r_neq rfl rfl rfl rfl) rfl ?_
              refine lv (v := .bool (decide (x346.Kind ≠ 2))) rfl (r_pkF rfl rfl rfl) rfl ?_
              by_cases hc382 : x346.Kind ≠ 2
              · skip
                rw [if_pos hc382] at hF
                have hbhc382 : (decide (x346.Kind ≠ 2)) = true := decide_eq_true hc382
                refine lv (v := .bool true) rfl (r_mv rfl ((show opd _ _ _ = _ from rfl).trans (congrArg Value.bool hbhc382))) rfl ?_
                with_reducible refine lx (d := 53) (by kernel_rfl) (by kernel_rfl) ?_
                with_reducible refine lx (d := 54) (by kernel_rfl) (by kernel_rfl) ?_
                with_reducible refine lx (d := 55) (by kernel_rfl) (by kernel_rfl) ?_
                with_reducible refine lx (d := 56) (by kernel_rfl) (by kernel_rfl) ?_
                with_reducible refine lx (d := 57) (by kernel_rfl) (by kernel_rfl) ?_
                refine lv (v := .bool true) rfl (r_pkT rfl rfl rfl) rfl ?_
                refine lv (v := .bool true) rfl (r_mv rfl rfl) rfl ?_
                with_reducible refine lx (d := 60) (by kernel_rfl) (by kernel_rfl) ?_
                with_reducible refine lx (d := 61) (by kernel_rfl) (by kernel_rfl) ?_
                with_reducible refine lx (d := 62) (by kernel_rfl) (by kernel_rfl) ?_
                with_reducible refine lx (d := 63) (by kernel_rfl) (by kernel_rfl) ?_
                with_reducible refine lx (d := 64) (by kernel_rfl) (by kernel_rfl) ?_
                refine lv (v := .bool true) rfl (r_pkT rfl rfl rfl) rfl ?_
                refine lv (v := .bool true) rfl (r_mv rfl rfl) rfl ?_
                with_reducible refine lx (d := 67) (by kernel_rfl) (by kernel_rfl) ?_
                with_reducible refine lx (d := 68) (by kernel_rfl) (by kernel_rfl) ?_
                with_reducible refine lx (d := 69) (by kernel_rfl) (by kernel_rfl) ?_
                with_reducible refine lx (d := 70) (by kernel_rfl) (by kernel_rfl) ?_
                refine lv (v := .bool true) rfl (r_pkT rfl rfl rfl) rfl ?_
                refine lv (v := .bool true) rfl (r_mv rfl rfl) rfl ?_
                with_reducible refine lx (d := 73) (by kernel_rfl) (by kernel_rfl) ?_
                with_reducible refine lx (d := 74) (by kernel_rfl) (by kernel_rfl) ?_
                with_reducible refine lx (d := 75) (by kernel_rfl) (by kernel_rfl) ?_
                with_reducible refine lx (d := 76) (by kernel_rfl) (by kernel_rfl) ?_
                refine lv (v := .bool true) rfl (r_pkT rfl rfl rfl) rfl ?_
                refine wend ?_
                refine wthen ?_
                refine wren (fun ρ383 eρ383 => ?_)
                have h384 : opd ρ383 81 (.tmp 3) = .pointer (some ⟨g4, 0 + 0, none⟩) := (eρ383 3).trans h359
                have h385 : opd ρ383 81 (.tmp 4) = .pointer (some ⟨g6, 0 + 0, none⟩) := (eρ383 4).trans h360
                have h386 : opd ρ383 81 (.tmp 5) = .pointer (some ⟨g8, 0 + 0, none⟩) := (eρ383 5).trans h361
                have h387 : opd ρ383 81 (.tmp 7) = .pointer (some ⟨g49, 0 + 0, none⟩) := (eρ383 7).trans h362
                have h388 : opd ρ383 81 (.tmp 10) = .pointer (some ⟨g355, 0 + 0, none⟩) := (eρ383 10).trans h364
                have h389 : opd ρ383 81 (.tmp 37) = s3.v := (eρ383 37).trans h365
                have h390 : opd ρ383 81 (.tmp 38) = .int .i64 (a2.Votes.length : Int) := (eρ383 38).trans h366
                have h391 : opd ρ383 81 (.tmp 39) = .int .i64 (i72 : Int) := (eρ383 39).trans h367
                have h392 : opd ρ383 81 (.tmp 77) = .bool true := eρ383 77
                clear eρ383
                refine wcT h392 ?_
                refine wseq ?_
                refine wreg ?_
                refine lv (v := .bool false) rfl (r_as rfl rfl) rfl ?_
                refine wend ?_
                refine wthen ?_
                refine wren (fun ρ393 eρ393 => ?_)
                have h394 : opd ρ393 81 (.tmp 6) = .bool false := eρ393 6
                clear eρ393
                refine wp_ret ?_
                refine thR ?_
                refine inR ?_
                refine thR ?_
                refine thR ?_
                obtain ⟨q395, hFn, hzq395⟩ := Option.map_eq_some_iff.1 hF
                clear hF
                obtain rfl := forK_inr hy72 (hb72.trans (congrArg some hzq395.symm))
                have hF0 := hF72
                try dsimp only at hF0
                have hF := hFn.trans hF0
                clear hFn hF0
                refine inR ?_
                refine thR ?_
                obtain rfl := Option.some.inj hF
                subst hB
                refine finR (rs := [.tmp 6]) (vs := [.bool false]) rfl ⟨h394, trivial⟩ ?_
                exact hI.fin 0 ⟨rfl, rfl⟩
              · skip
                rw [if_neg hc382] at hF
                have hbhc382 : (decide (x346.Kind ≠ 2)) = false := decide_eq_false hc382
                refine lv (v := .bool false) rfl (r_mv rfl ((show opd _ _ _ = _ from rfl).trans (congrArg Value.bool hbhc382))) rfl ?_
                refine lv (v := .pointer (some ⟨g355, 0 + 2, none⟩)) rfl (l_fa (j := 0) (i := 0) rfl fl35_2 h364 rfl) rfl ?_
                refine lv (v := .int .i64 x346.Height) rfl (r_cl1 (off := 2) (p := 2) (hI.good.ca 4 rfl) rfl sc3 rfl rfl rfl) rfl ?_
                refine lv (v := .pointer (some ⟨g6, 0 + 1, none⟩)) rfl (l_fa (j := 0) (i := 0) rfl fl69_1 h360 rfl) rfl ?_
                refine lv (v := .int .i64 a1.Height) rfl (r_cl1 (off := 1) (p := 1) (hI.good.ca 1 rfl) rfl sc3 rfl rfl rfl) rfl ?_
                refine lv (v := .bool (decide (x346.Height ≠ a1.Height))) rfl (r_neq rfl rfl rfl rfl) rfl ?_
                refine lv (v := .bool (decide (x346.Height ≠ a1.Height))) rfl (r_pkF rfl rfl rfl) rfl ?_
                by_cases hc396 : x346.Height ≠ a1.Height
                · skip
                  rw [if_pos hc396] at hF
                  have hbhc396 : (decide (x346.Height ≠ a1.Height)) = true := decide_eq_true hc396
                  refine lv (v := .bool true) rfl (r_mv rfl ((show opd _ _ _ = _ from rfl).trans (congrArg Value.bool hbhc396))) rfl ?_
                  with_reducible refine lx (d := 60) (by kernel_rfl) (by kernel_rfl) ?_
                  with_reducible refine lx (d := 61) (by kernel_rfl) (by kernel_rfl) ?_
                  with_reducible refine lx (d := 62) (by kernel_rfl) (by kernel_rfl) ?_
                  with_reducible refine lx (d := 63) (by kernel_rfl) (by kernel_rfl) ?_
                  with_reducible refine lx (d := 64) (by kernel_rfl) (by kernel_rfl) ?_
                  refine lv (v := .bool true) rfl (r_pkT rfl rfl rfl) rfl ?_
                  refine lv (v := .bool true) rfl (r_mv rfl rfl) rfl ?_
                  with_reducible refine lx (d := 67) (by kernel_rfl) (by kernel_rfl) ?_
                  with_reducible refine lx (d := 68) (by kernel_rfl) (by kernel_rfl) ?_
                  with_reducible refine lx (d := 69) (by kernel_rfl) (by kernel_rfl) ?_
                  with_reducible refine lx (d := 70) (by kernel_rfl) (by kernel_rfl) ?_
                  refine lv (v := .bool true) rfl (r_pkT rfl rfl rfl) rfl ?_
                  refine lv (v := .bool true) rfl (r_mv rfl rfl) rfl ?_
                  with_reducible refine lx (d := 73) (by kernel_rfl) (by kernel_rfl) ?_
                  with_reducible refine lx (d := 74) (by kernel_rfl) (by kernel_rfl) ?_
                  with_reducible refine lx (d := 75) (by kernel_rfl) (by kernel_rfl) ?_
                  with_reducible refine lx (d := 76) (by kernel_rfl) (by kernel_rfl) ?_
                  refine lv (v := .bool true) rfl (r_pkT rfl rfl rfl) rfl ?_
                  refine wend ?_
                  refine wthen ?_
                  refine wren (fun ρ397 eρ397 => ?_)
                  have h398 : opd ρ397 81 (.tmp 3) = .pointer (some ⟨g4, 0 + 0, none⟩) := (eρ397 3).trans h359
                  have h399 : opd ρ397 81 (.tmp 4) = .pointer (some ⟨g6, 0 + 0, none⟩) := (eρ397 4).trans h360
                  have h400 : opd ρ397 81 (.tmp 5) = .pointer (some ⟨g8, 0 + 0, none⟩) := (eρ397 5).trans h361
                  have h401 : opd ρ397 81 (.tmp 7) = .pointer (some ⟨g49, 0 + 0, none⟩) := (eρ397 7).trans h362
                  have h402 : opd ρ397 81 (.tmp 10) = .pointer (some ⟨g355, 0 + 0, none⟩) := (eρ397 10).trans h364
                  have h403 : opd ρ397 81 (.tmp 37) = s3.v := (eρ397 37).trans h365
                  have h404 : opd ρ397 81 (.tmp 38) = .int .i64 (a2.Votes.length : Int) := (eρ397 38).trans h366
                  have h405 : opd ρ397 81 (.tmp 39) = .int .i64 (i72 : Int) := (eρ397 39).trans h367
                  have h406 : opd ρ397 81 (.tmp 77) = .bool true := eρ397 77
                  clear eρ397
                  refine wcT h406 ?_
                  refine wseq ?_
                  refine wreg ?_
                  refine lv (v := .bool false) rfl (r_as rfl rfl) rfl ?_
                  refine wend ?_
                  refine wthen ?_
                  refine wren (fun ρ407 eρ407 => ?_)
                  have h408 : opd ρ407 81 (.tmp 6) = .bool false := eρ407 6
                  clear eρ407
                  refine wp_ret ?_
                  refine thR ?_
                  refine inR ?_
                  refine thR ?_
                  refine thR ?_
                  obtain ⟨q409, hFn, hzq409⟩ := Option.map_eq_some_iff.1 hF
                  clear hF
                  obtain rfl := forK_inr hy72 (hb72.trans (congrArg some hzq409.symm))
                  have hF0 := hF72
                  try dsimp only at hF0
                  have hF := hFn.trans hF0
                  clear hFn hF0
                  refine inR ?_
                  refine thR ?_
                  obtain rfl := Option.some.inj hF
                  subst hB
                  refine finR (rs := [.tmp 6]) (vs := [.bool false]) rfl ⟨h408, trivial⟩ ?_
                  exact hI.fin 0 ⟨rfl, rfl⟩
                · skip
                  rw [if_neg hc396] at hF
                  have hbhc396 : (decide (x346.Height ≠ a1.Height)) = false := decide_eq_false hc396
                  refine lv (v := .bool false) rfl (r_mv rfl ((show opd _ _ _ = _ from rfl).trans (congrArg Value.bool hbhc396))) rfl ?_
                  refine lv (v := .pointer (some ⟨g355, 0 + 3, none⟩)) rfl (l_fa (j := 0) (i := 0) rfl fl35_3 h364 rfl) rfl ?_
                  refine lv (v := .int .i64 x346.Round) rfl (r_cl1 (off := 3) (p := 3) (hI.good.ca 4 rfl) rfl sc3 rfl rfl rfl) rfl ?_
                  refine lv (v := .pointer (some ⟨g8, 0 + 0, none⟩)) rfl (l_fa (j := 0) (i := 0) rfl fl71_0 h361 rfl) rfl ?_
                  refine lv (v := .int .i64 a2.Round) rfl (r_cl1 (off := 0) (p := 0) (hI.good.ca 2 rfl) rfl sc3 rfl rfl rfl) rfl ?_
                  refine lv (v := .bool (decide (x346.Round ≠ a2.Round))) rfl (r_neq rfl rfl rfl rfl) rfl ?_
                  refine lv (v := .bool (decide (x346.Round ≠ a2.Round))) rfl (r_pkF rfl rfl rfl) rfl ?_
                  by_cases hc410 : x346.Round ≠ a2.Round
                  · skip
                    rw [if_pos hc410] at hF
                    have hbhc410 : (decide (x346.Round ≠ a2.Round)) = true := decide_eq_true hc410
                    refine lv (v := .bool true) rfl (r_mv rfl ((show opd _ _ _ = _ from rfl).trans (congrArg Value.bool hbhc410))) rfl ?_
                    with_reducible refine lx (d := 67) (by kernel_rfl) (by kernel_rfl) ?_
                    with_reducible refine lx (d := 68) (by kernel_rfl) (by kernel_rfl) ?_
                    with_reducible refine lx (d := 69) (by kernel_rfl) (by kernel_rfl) ?_
                    with_reducible refine lx (d := 70) (by kernel_rfl) (by kernel_rfl) ?_
                    refine lv (v := .bool true) rfl (r_pkT rfl rfl rfl) rfl ?_
                    refine lv (v := .bool true) rfl (r_mv rfl rfl) rfl ?_
                    with_reducible refine lx (d := 73) (by kernel_rfl) (by kernel_rfl) ?_
                    with_reducible refine lx (d := 74) (by kernel_rfl) (by kernel_rfl) ?_
                    with_reducible refine lx (d := 75) (by kernel_rfl) (by kernel_rfl) ?_
                    with_reducible refine lx (d := 76) (by kernel_rfl) (by kernel_rfl) ?_
                    refine lv (v := .bool true) rfl (r_pkT rfl rfl rfl) rfl ?_
                    refine wend ?_
                    refine wthen ?_
                    refine wren (fun ρ411 eρ411 => ?_)
                    have h412 : opd ρ411 81 (.tmp 3) = .pointer (some ⟨g4, 0 + 0, none⟩) := (eρ411 3).trans h359
                    have h413 : opd ρ411 81 (.tmp 4) = .pointer (some ⟨g6, 0 + 0, none⟩) := (eρ411 4).trans h360
                    have h414 : opd ρ411 81 (.tmp 5) = .pointer (some ⟨g8, 0 + 0, none⟩) := (eρ411 5).trans h361
                    have h415 : opd ρ411 81 (.tmp 7) = .pointer (some ⟨g49, 0 + 0, none⟩) := (eρ411 7).trans h362
                    have h416 : opd ρ411 81 (.tmp 10) = .pointer (some ⟨g355, 0 + 0, none⟩) := (eρ411 10).trans h364
                    have h417 : opd ρ411 81 (.tmp 37) = s3.v := (eρ411 37).trans h365
                    have h418 : opd ρ411 81 (.tmp 38) = .int .i64 (a2.Votes.length : Int) := (eρ411 38).trans h366
                    have h419 : opd ρ411 81 (.tmp 39) = .int .i64 (i72 : Int) := (eρ411 39).trans h367
                    have h420 : opd ρ411 81 (.tmp 77) = .bool true := eρ411 77
                    clear eρ411
                    refine wcT h420 ?_
                    refine wseq ?_
                    refine wreg ?_
                    refine lv (v := .bool false) rfl (r_as rfl rfl) rfl ?_
                    refine wend ?_
                    refine wthen ?_
                    refine wren (fun ρ421 eρ421 => ?_)
                    have h422 : opd ρ421 81 (.tmp 6) = .bool false := eρ421 6
                    clear eρ421
                    refine wp_ret ?_
                    refine thR ?_
                    refine inR ?_
                    refine thR ?_
                    refine thR ?_
                    obtain ⟨q423, hFn, hzq423⟩ := Option.map_eq_some_iff.1 hF
                    clear hF
                    obtain rfl := forK_inr hy72 (hb72.trans (congrArg some hzq423.symm))
                    have hF0 := hF72
                    try dsimp only at hF0
                    have hF := hFn.trans hF0
                    clear hFn hF0
                    refine inR ?_
                    refine thR ?_
                    obtain rfl := Option.some.inj hF
                    subst hB
                    refine finR (rs := [.tmp 6]) (vs := [.bool false]) rfl ⟨h422, trivial⟩ ?_
                    exact hI.fin 0 ⟨rfl, rfl⟩
                  · skip
                    rw [if_neg hc410] at hF
                    have hbhc410 : (decide (x346.Round ≠ a2.Round)) = false := decide_eq_false hc410
                    refine lv (v := .bool false) rfl (r_mv rfl ((show opd _ _ _ = _ from rfl).trans (congrArg Value.bool hbhc410))) rfl ?_
                    refine lv (v := .pointer (some ⟨g355, 0 + 4, none⟩)) rfl (l_fa (j := 0) (i := 0) rfl fl35_4 h364 rfl) rfl ?_
                    refine lv (v := .agg (flat [ckV flB x346.Digest]).toArray) rfl (r_cla (off := 4) (p := 4) (m := 1) (hI.good.ca 4 rfl) rfl ag29 rfl rfl rfl) rfl ?_
                    refine lv (v := .agg (flat [ckV flB x45]).toArray) rfl (r_cla (off := 0) (p := 0) (m := 1) (hI.good.ca 3 rfl) rfl ag29 h362 rfl rfl) rfl ?_
                    refine lv (v := .bool (!decide (x346.Digest = x45))) rfl (r_neb rfl ba29 rfl rfl) rfl ?_
                    refine lv (v := .bool (!decide (x346.Digest = x45))) rfl (r_pkF rfl rfl rfl) rfl ?_
                    by_cases hc424 : x346.Digest = x45
                    · skip
                      rw [if_pos hc424] at hF
                      have hbhc424 : (!decide (x346.Digest = x45)) = false := (by rw [decide_eq_true hc424]; rfl)
                      refine lv (v := .bool false) rfl (r_mv rfl ((show opd _ _ _ = _ from rfl).trans (congrArg Value.bool hbhc424))) rfl ?_
                      refine lv (v := .agg (flat [ckI a0.Epoch, ckL s1]).toArray) rfl (r_cla (off := 0) (p := 0) (m := 2) (hI.good.ca 0 rfl) rfl ag64 h359 rfl rfl) rfl ?_
                      refine lv (v := .agg (flat [ckI x346.Kind, ckI x346.Epoch, ckI x346.Height, ckI x346.Round, ckV flB x346.Digest, ckI x346.From, ckI x346.Sig.Leaf, ckL s352, ckL s353, ckL s354]).toArray) rfl (r_cla (off := 0) (p := 0) (m := 10) (hI.good.ca 4 rfl) rfl ag35 h364 rfl rfl) rfl ?_
                      obtain ⟨x425, hx425, hF⟩ := Option.bind_eq_some_iff.1 hF
                      have hsp428 := spec_55 hx425 (((((hT.mono hleH16).mono hleH21).mono hleH34).mono hleH46).mono hleH325) (hI.part 0) (((((hs1.mono hleH16).mono hleH21).mono hleH34).mono hleH46).mono hleH325) hs352 hs353 hs354
                      refine fc ([]) ([.cb g4 [ckI a0.Epoch, ckL s1] 64, .cb g6 [ckI a1.Epoch, ckI a1.Height, ckV flB a1.Prev, ckV flB a1.State, ckV flB a1.Next, ckL s2] 69, .cb g8 [ckI a2.Round, ckL s3] 71, .cb g49 [ckV flB x45] 29, .cb g355 [ckI x346.Kind, ckI x346.Epoch, ckI x346.Height, ckI x346.Round, ckV flB x346.Digest, ckI x346.From, ckI x346.Sig.Leaf, ckL s352, ckL s353, ckL s354] 35]) (args := [.agg (flat [ckI a0.Epoch, ckL s1]).toArray, .agg (flat [ckI x346.Kind, ckI x346.Epoch, ckI x346.Height, ckI x346.Round, ckV flB x346.Digest, ckI x346.From, ckI x346.Sig.Leaf, ckL s352, ckL s353, ckL s354]).toArray]) fc55 rfl rfl rfl hI (argc rfl (argc rfl rfl)) (hsp428) ?_
                      rintro _ H426 _ w427 ⟨rfl, rfl⟩ hleH426 hI
                      replace hI : Inv B w427 H426 [.cb g4 [ckI a0.Epoch, ckL s1] 64, .cb g6 [ckI a1.Epoch, ckI a1.Height, ckV flB a1.Prev, ckV flB a1.State, ckV flB a1.Next, ckL s2] 69, .cb g8 [ckI a2.Round, ckL s3] 71, .cb g49 [ckV flB x45] 29, .cb g355 [ckI x346.Kind, ckI x346.Epoch, ckI x346.Height, ckI x346.Round, ckV flB x346.Digest, ckI x346.From, ckI x346.Sig.Leaf, ckL s352, ckL s353, ckL s354] 35] := hI
                      refine lv (v := .bool (!x425)) rfl (r_not rfl rfl) rfl ?_
                      refine lv (v := .bool (!x425)) rfl (r_pkF rfl rfl rfl) rfl ?_
                      refine wend ?_
                      refine wthen ?_
                      refine wren (fun ρ429 eρ429 => ?_)
                      have h430 : opd ρ429 81 (.tmp 3) = .pointer (some ⟨g4, 0 + 0, none⟩) := (eρ429 3).trans h359
                      have h431 : opd ρ429 81 (.tmp 4) = .pointer (some ⟨g6, 0 + 0, none⟩) := (eρ429 4).trans h360
                      have h432 : opd ρ429 81 (.tmp 5) = .pointer (some ⟨g8, 0 + 0, none⟩) := (eρ429 5).trans h361
                      have h433 : opd ρ429 81 (.tmp 7) = .pointer (some ⟨g49, 0 + 0, none⟩) := (eρ429 7).trans h362
                      have h434 : opd ρ429 81 (.tmp 10) = .pointer (some ⟨g355, 0 + 0, none⟩) := (eρ429 10).trans h364
                      have h435 : opd ρ429 81 (.tmp 37) = s3.v := (eρ429 37).trans h365
                      have h436 : opd ρ429 81 (.tmp 38) = .int .i64 (a2.Votes.length : Int) := (eρ429 38).trans h366
                      have h437 : opd ρ429 81 (.tmp 39) = .int .i64 (i72 : Int) := (eρ429 39).trans h367
                      have h438 : opd ρ429 81 (.tmp 77) = .bool (!x425) := eρ429 77
                      clear eρ429
                      by_cases hc439 : x425 = true
                      · skip
                        rw [if_pos hc439] at hF
                        have hbhc439 : (!x425) = false := (by rw [hc439]; rfl)
                        refine wcF (h438.trans (congrArg Value.bool hbhc439)) ?_
                        refine wp_skip ?_
                        refine wthen ?_
                        refine wreg ?_
                        refine lv (v := .pointer (some ⟨g355, 0 + 36, none⟩)) rfl (l_fa (j := 0) (i := 0) rfl fl35_5 h434 rfl) rfl ?_
                        refine lv (v := .int .i64 x346.From) rfl (r_cl1 (off := 36) (p := 5) (hI.good.ca 4 rfl) rfl sc3 rfl rfl rfl) rfl ?_
                        refine lv (v := .int .i64 x346.From) rfl (r_as rfl rfl) rfl ?_
                        refine wend ?_
                        refine inN ?_
                        refine wthen ?_
                        refine wren (fun ρ440 eρ440 => ?_)
                        have h441 : opd ρ440 81 (.tmp 3) = .pointer (some ⟨g4, 0 + 0, none⟩) := (eρ440 3).trans h430
                        have h442 : opd ρ440 81 (.tmp 4) = .pointer (some ⟨g6, 0 + 0, none⟩) := (eρ440 4).trans h431
                        have h443 : opd ρ440 81 (.tmp 5) = .pointer (some ⟨g8, 0 + 0, none⟩) := (eρ440 5).trans h432
                        have h444 : opd ρ440 81 (.tmp 7) = .pointer (some ⟨g49, 0 + 0, none⟩) := (eρ440 7).trans h433
                        have h445 : opd ρ440 81 (.tmp 8) = .int .i64 x346.From := eρ440 8
                        have h446 : opd ρ440 81 (.tmp 37) = s3.v := (eρ440 37).trans h435
                        have h447 : opd ρ440 81 (.tmp 38) = .int .i64 (a2.Votes.length : Int) := (eρ440 38).trans h436
                        have h448 : opd ρ440 81 (.tmp 39) = .int .i64 (i72 : Int) := (eρ440 39).trans h437
                        clear eρ440
                        refine wreg ?_
                        refine lv (v := .int .i64 ((i72 + 1 : Nat) : Int)) rfl (r_addn rfl h448 rfl hlt72) rfl ?_
                        refine lv (v := .int .i64 ((i72 + 1 : Nat) : Int)) rfl (r_mv rfl rfl) rfl ?_
                        refine wend ?_
                        obtain rfl := Option.some.inj hF
                        exact ⟨k72, x346.From, _, rfl, rfl, ⟨H426, (hleH325.trans hleH426), h441, h442, h443, h444, h445, h446, h447, rfl, (hI.keep [true, true, true, true, false])⟩, forK_inl hy72 hb72⟩
                      · skip
                        rw [if_neg hc439] at hF
                        have hbhc439 : (!x425) = true := (by rw [(Bool.eq_false_iff.2 hc439)]; rfl)
                        refine wcT (h438.trans (congrArg Value.bool hbhc439)) ?_
                        refine wseq ?_
                        refine wreg ?_
                        refine lv (v := .bool false) rfl (r_as rfl rfl) rfl ?_
                        refine wend ?_
                        refine wthen ?_
                        refine wren (fun ρ449 eρ449 => ?_)
                        have h450 : opd ρ449 81 (.tmp 6) = .bool false := eρ449 6
                        clear eρ449
                        refine wp_ret ?_
                        refine thR ?_
                        refine inR ?_
                        refine thR ?_
                        refine thR ?_
                        obtain ⟨q451, hFn, hzq451⟩ := Option.map_eq_some_iff.1 hF
                        clear hF
                        obtain rfl := forK_inr hy72 (hb72.trans (congrArg some hzq451.symm))
                        have hF0 := hF72
                        try dsimp only at hF0
                        have hF := hFn.trans hF0
                        clear hFn hF0
                        refine inR ?_
                        refine thR ?_
                        obtain rfl := Option.some.inj hF
                        subst hB
                        refine finR (rs := [.tmp 6]) (vs := [.bool false]) rfl ⟨h450, trivial⟩ ?_
                        exact hI.fin 0 ⟨rfl, rfl⟩
                    · skip
                      rw [if_neg hc424] at hF
                      have hbhc424 : (!decide (x346.Digest = x45)) = true := (by rw [decide_eq_false hc424]; rfl)
                      refine lv (v := .bool true) rfl (r_mv rfl ((show opd _ _ _ = _ from rfl).trans (congrArg Value.bool hbhc424))) rfl ?_
                      with_reducible refine lx (d := 73) (by kernel_rfl) (by kernel_rfl) ?_
                      with_reducible refine lx (d := 74) (by kernel_rfl) (by kernel_rfl) ?_
                      with_reducible refine lx (d := 75) (by kernel_rfl) (by kernel_rfl) ?_
                      with_reducible refine lx (d := 76) (by kernel_rfl) (by kernel_rfl) ?_
                      refine lv (v := .bool true) rfl (r_pkT rfl rfl rfl) rfl ?_
                      refine wend ?_
                      refine wthen ?_
                      refine wren (fun ρ452 eρ452 => ?_)
                      have h453 : opd ρ452 81 (.tmp 3) = .pointer (some ⟨g4, 0 + 0, none⟩) := (eρ452 3).trans h359
                      have h454 : opd ρ452 81 (.tmp 4) = .pointer (some ⟨g6, 0 + 0, none⟩) := (eρ452 4).trans h360
                      have h455 : opd ρ452 81 (.tmp 5) = .pointer (some ⟨g8, 0 + 0, none⟩) := (eρ452 5).trans h361
                      have h456 : opd ρ452 81 (.tmp 7) = .pointer (some ⟨g49, 0 + 0, none⟩) := (eρ452 7).trans h362
                      have h457 : opd ρ452 81 (.tmp 10) = .pointer (some ⟨g355, 0 + 0, none⟩) := (eρ452 10).trans h364
                      have h458 : opd ρ452 81 (.tmp 37) = s3.v := (eρ452 37).trans h365
                      have h459 : opd ρ452 81 (.tmp 38) = .int .i64 (a2.Votes.length : Int) := (eρ452 38).trans h366
                      have h460 : opd ρ452 81 (.tmp 39) = .int .i64 (i72 : Int) := (eρ452 39).trans h367
                      have h461 : opd ρ452 81 (.tmp 77) = .bool true := eρ452 77
                      clear eρ452
                      refine wcT h461 ?_
                      refine wseq ?_
                      refine wreg ?_
                      refine lv (v := .bool false) rfl (r_as rfl rfl) rfl ?_
                      refine wend ?_
                      refine wthen ?_
                      refine wren (fun ρ462 eρ462 => ?_)
                      have h463 : opd ρ462 81 (.tmp 6) = .bool false := eρ462 6
                      clear eρ462
                      refine wp_ret ?_
                      refine thR ?_
                      refine inR ?_
                      refine thR ?_
                      refine thR ?_
                      obtain ⟨q464, hFn, hzq464⟩ := Option.map_eq_some_iff.1 hF
                      clear hF
                      obtain rfl := forK_inr hy72 (hb72.trans (congrArg some hzq464.symm))
                      have hF0 := hF72
                      try dsimp only at hF0
                      have hF := hFn.trans hF0
                      clear hFn hF0
                      refine inR ?_
                      refine thR ?_
                      obtain rfl := Option.some.inj hF
                      subst hB
                      refine finR (rs := [.tmp 6]) (vs := [.bool false]) rfl ⟨h463, trivial⟩ ?_
                      exact hI.fin 0 ⟨rfl, rfl⟩
          · skip
            have hbhc336 : (decide ((i72 : Int) < (a2.Votes.length : Int))) = false := decide_eq_false hc336
            obtain rfl : k72 = 0 := by omega
            obtain rfl := forK_end hy72
            have hF := hF72
            try dsimp only at hF
            refine wcF ((show opd _ _ _ = _ from rfl).trans (congrArg Value.bool hbhc336)) ?_
            refine wp_exit ?_
            refine thE ?_
            refine thE ?_
            refine inX ?_
            refine wthen ?_
            refine wren (fun ρ465 eρ465 => ?_)
            clear eρ465
            refine wseq ?_
            refine wreg ?_
            refine lv (v := .bool true) rfl (r_as rfl rfl) rfl ?_
            refine wend ?_
            refine wthen ?_
            refine wren (fun ρ466 eρ466 => ?_)
            have h467 : opd ρ466 81 (.tmp 6) = .bool true := eρ466 6
            clear eρ466
            refine wp_ret ?_
            obtain rfl := Option.some.inj hF
            subst hB
            refine finR (rs := [.tmp 6]) (vs := [.bool true]) rfl ⟨h467, trivial⟩ ?_
            exact hI.fin 0 ⟨rfl, rfl⟩
    · skip
      rw [if_neg hc24] at hF
      have hbhc24 : (!x20) = true := (by rw [(Bool.eq_false_iff.2 hc24)]; rfl)
      refine dp (v := .bool true) 8 (by kernel_rfl) rfl rfl (fun _ => r_mv rfl ((show opd _ _ _ = _ from rfl).trans (congrArg Value.bool hbhc24))) rfl hP ?_
      refine dx 9 (by kernel_rfl) rfl (by kernel_rfl) rfl hP ?_
      refine dx 10 (by kernel_rfl) rfl (by kernel_rfl) rfl hP ?_
      refine dx 11 (by kernel_rfl) rfl (by kernel_rfl) rfl hP ?_
      refine dx 12 (by kernel_rfl) rfl (by kernel_rfl) rfl hP ?_
      refine dx 13 (by kernel_rfl) rfl (by kernel_rfl) rfl hP ?_
      refine dp (v := .bool true) 14 (by kernel_rfl) rfl rfl (fun _ => r_pkT rfl rfl rfl) rfl hP ?_
      refine dp (v := .bool true) 15 (by kernel_rfl) rfl rfl (fun _ => r_mv rfl rfl) rfl hP ?_
      refine dx 16 (by kernel_rfl) rfl (by kernel_rfl) rfl hP ?_
      refine dx 17 (by kernel_rfl) rfl (by kernel_rfl) rfl hP ?_
      refine dx 18 (by kernel_rfl) rfl (by kernel_rfl) rfl hP ?_
      refine dx 19 (by kernel_rfl) rfl (by kernel_rfl) rfl hP ?_
      refine dx 20 (by kernel_rfl) rfl (by kernel_rfl) rfl hP ?_
      refine dx 21 (by kernel_rfl) rfl (by kernel_rfl) rfl hP ?_
      refine dp (v := .bool true) 22 (by kernel_rfl) rfl rfl (fun _ => r_pkT rfl rfl rfl) rfl hP ?_
      refine dend (by kernel_rfl) ?_
      refine wthen ?_
      refine wren (fun ρ468 eρ468 => ?_)
      have h469 : opd ρ468 81 (.tmp 3) = .pointer (some ⟨g4, 0 + 0, none⟩) := (eρ468 3).trans h11
      have h470 : opd ρ468 81 (.tmp 4) = .pointer (some ⟨g6, 0 + 0, none⟩) := (eρ468 4).trans h12
      have h471 : opd ρ468 81 (.tmp 5) = .pointer (some ⟨g8, 0 + 0, none⟩) := (eρ468 5).trans h13
      have h472 : opd ρ468 81 (.tmp 33) = .bool true := eρ468 33
      clear eρ468
      refine wcT h472 ?_
      refine wseq ?_
      refine wreg ?_
      refine lv (v := .bool false) rfl (r_as rfl rfl) rfl ?_
      refine wend ?_
      refine wthen ?_
      refine wren (fun ρ473 eρ473 => ?_)
      have h474 : opd ρ473 81 (.tmp 6) = .bool false := eρ473 6
      clear eρ473
      refine wp_ret ?_
      refine thR ?_
      obtain rfl := Option.some.inj hF
      subst hB
      refine finR (rs := [.tmp 6]) (vs := [.bool false]) rfl ⟨h474, trivial⟩ ?_
      exact hI.fin 0 ⟨rfl, rfl⟩
  · skip
    rw [if_neg hc19] at hF
    have hbhc19 : (!x15) = true := (by rw [(Bool.eq_false_iff.2 hc19)]; rfl)
    refine dp (v := .bool true) 3 (by kernel_rfl) rfl rfl (fun _ => r_mv rfl ((show opd _ _ _ = _ from rfl).trans (congrArg Value.bool hbhc19))) rfl hP ?_
    refine dx 4 (by kernel_rfl) rfl (by kernel_rfl) rfl hP ?_
    refine dx 5 (by kernel_rfl) rfl (by kernel_rfl) rfl hP ?_
    refine dx 6 (by kernel_rfl) rfl (by kernel_rfl) rfl hP ?_
    refine dp (v := .bool true) 7 (by kernel_rfl) rfl rfl (fun _ => r_pkT rfl rfl rfl) rfl hP ?_
    refine dp (v := .bool true) 8 (by kernel_rfl) rfl rfl (fun _ => r_mv rfl rfl) rfl hP ?_
    refine dx 9 (by kernel_rfl) rfl (by kernel_rfl) rfl hP ?_
    refine dx 10 (by kernel_rfl) rfl (by kernel_rfl) rfl hP ?_
    refine dx 11 (by kernel_rfl) rfl (by kernel_rfl) rfl hP ?_
    refine dx 12 (by kernel_rfl) rfl (by kernel_rfl) rfl hP ?_
    refine dx 13 (by kernel_rfl) rfl (by kernel_rfl) rfl hP ?_
    refine dp (v := .bool true) 14 (by kernel_rfl) rfl rfl (fun _ => r_pkT rfl rfl rfl) rfl hP ?_
    refine dp (v := .bool true) 15 (by kernel_rfl) rfl rfl (fun _ => r_mv rfl rfl) rfl hP ?_
    refine dx 16 (by kernel_rfl) rfl (by kernel_rfl) rfl hP ?_
    refine dx 17 (by kernel_rfl) rfl (by kernel_rfl) rfl hP ?_
    refine dx 18 (by kernel_rfl) rfl (by kernel_rfl) rfl hP ?_
    refine dx 19 (by kernel_rfl) rfl (by kernel_rfl) rfl hP ?_
    refine dx 20 (by kernel_rfl) rfl (by kernel_rfl) rfl hP ?_
    refine dx 21 (by kernel_rfl) rfl (by kernel_rfl) rfl hP ?_
    refine dp (v := .bool true) 22 (by kernel_rfl) rfl rfl (fun _ => r_pkT rfl rfl rfl) rfl hP ?_
    refine dend (by kernel_rfl) ?_
    refine wthen ?_
    refine wren (fun ρ475 eρ475 => ?_)
    have h476 : opd ρ475 81 (.tmp 3) = .pointer (some ⟨g4, 0 + 0, none⟩) := (eρ475 3).trans h11
    have h477 : opd ρ475 81 (.tmp 4) = .pointer (some ⟨g6, 0 + 0, none⟩) := (eρ475 4).trans h12
    have h478 : opd ρ475 81 (.tmp 5) = .pointer (some ⟨g8, 0 + 0, none⟩) := (eρ475 5).trans h13
    have h479 : opd ρ475 81 (.tmp 33) = .bool true := eρ475 33
    clear eρ475
    refine wcT h479 ?_
    refine wseq ?_
    refine wreg ?_
    refine lv (v := .bool false) rfl (r_as rfl rfl) rfl ?_
    refine wend ?_
    refine wthen ?_
    refine wren (fun ρ480 eρ480 => ?_)
    have h481 : opd ρ480 81 (.tmp 6) = .bool false := eρ480 6
    clear eρ480
    refine wp_ret ?_
    refine thR ?_
    obtain rfl := Option.some.inj hF
    subst hB
    refine finR (rs := [.tmp 6]) (vs := [.bool false]) rfl ⟨h481, trivial⟩ ?_
    exact hI.fin 0 ⟨rfl, rfl⟩
noncomputable def M_cert_Make (a0 : Config) (a1 : List Vote) : Option (Cert × Bool) := ((M_config_Quorum a0).bind fun x11 => (if (a1.length : Int) < x11 then some ((⟨0, []⟩ : Cert), false) else ((a1[0]?).bind fun x30 => ((cutI a1 0 x11).bind fun x39 => ((appI 152 ([] : List Vote) x39).bind fun x45 => some ((⟨x30.Round, x45⟩ : Cert), true))))))
set_option maxHeartbeats 1000000 in
theorem spec_49 {w : World} {H : Hp} {a0 : Config} {a1 : List Vote} {s1 : Sv} {s2 : Sv} {r : Cert × Bool} (hF : M_cert_Make a0 a1 = some r) (hT : Tab H) (hG : Good w H []) (hs1 : Sl (Fl.ty fl_Member) H s1 a0.Members) (hs2 : Sl ty_Vote H s2 a1) :
    Fine Tryd.prog 49 [.agg (flat [ckI a0.Epoch, ckL s1]).toArray, s2.v] w H [] (fun H' v L' => ∃ s900 : Sv, v = .tuple #[.agg (flat [ckI r.1.Round, ckL s900]).toArray, .bool r.2] ∧ Sl ty_Vote H' s900 r.1.Votes ∧ L' = []) := by
  unfold M_cert_Make at hF
  unfold Fine
  obtain ⟨B, hB⟩ : ∃ B : Base, B = ⟨w, H, blks []⟩ := ⟨_, rfl⟩
  have hI : Inv B w H [] := by rw [hB]; exact Inv.start hG
  refine enter (n := 24) (args := [.agg (flat [ckI a0.Epoch, ckL s1]).toArray, s2.v]) Tryd.func49 rfl Tryd.ntmps49 (Nat.le_of_ble_eq_true rfl) ?_
  refine wseq ?_
  refine wreg ?_
  refine le rfl (l_box (cks := [ckI a0.Epoch, ckL s1]) hI rfl rfl rfl) rfl ?_
  rintro _ w4 ⟨g3, rfl, hI⟩
  replace hI : Inv B w4 H [.cb g3 [ckI a0.Epoch, ckL s1] 64] := hI
  refine le rfl (l_al hI rfl ze71) rfl ?_
  rintro _ w6 ⟨g5, rfl, hI⟩
  replace hI : Inv B w6 H [.cb g3 [ckI a0.Epoch, ckL s1] 64, .cb g5 [ckI 0, ckL Sv.nil] 71] := hI
  refine lv (v := .bool false) rfl (r_as rfl rfl) rfl ?_
  refine wend ?_
  refine wthen ?_
  refine wren (fun ρ7 eρ7 => ?_)
  have h8 : opd ρ7 24 (.tmp 1) = s2.v := eρ7 1
  have h9 : opd ρ7 24 (.tmp 2) = .pointer (some ⟨g3, 0 + 0, none⟩) := eρ7 2
  have h10 : opd ρ7 24 (.tmp 4) = .pointer (some ⟨g5, 0 + 0, none⟩) := eρ7 4
  clear eρ7
  refine wseq ?_
  refine wreg ?_
  refine lv (v := .agg (flat [ckI a0.Epoch, ckL s1]).toArray) rfl (r_cla (off := 0) (p := 0) (m := 2) (hI.good.ca 0 rfl) rfl ag64 h9 rfl rfl) rfl ?_
  obtain ⟨x11, hx11, hF⟩ := Option.bind_eq_some_iff.1 hF
  have hsp14 := spec_88 hx11 hT (hI.part 0) hs1
  refine fc ([]) ([.cb g3 [ckI a0.Epoch, ckL s1] 64, .cb g5 [ckI 0, ckL Sv.nil] 71]) (args := [.agg (flat [ckI a0.Epoch, ckL s1]).toArray]) fc88 rfl rfl rfl hI (argc rfl rfl) (hsp14) ?_
  rintro _ H12 _ w13 ⟨rfl, rfl⟩ hleH12 hI
  replace hI : Inv B w13 H12 [.cb g3 [ckI a0.Epoch, ckL s1] 64, .cb g5 [ckI 0, ckL Sv.nil] 71] := hI
  refine lv (v := .int .i64 x11) rfl (r_as rfl rfl) rfl ?_
  refine wend ?_
  refine wthen ?_
  refine wren (fun ρ15 eρ15 => ?_)
  have h16 : opd ρ15 24 (.tmp 1) = s2.v := (eρ15 1).trans h8
  have h17 : opd ρ15 24 (.tmp 4) = .pointer (some ⟨g5, 0 + 0, none⟩) := (eρ15 4).trans h10
  have h18 : opd ρ15 24 (.tmp 6) = .int .i64 x11 := eρ15 6
  clear eρ15
  refine wseq ?_
  refine wseq ?_
  refine wreg ?_
  refine lv (v := s2.v) rfl (r_mv rfl h16) rfl ?_
  refine lv (v := .int .i64 (a1.length : Int)) rfl (r_lenS rfl sl22 rfl (hs2.mono hleH12)) rfl ?_
  refine lv (v := .int .i64 x11) rfl (r_mv rfl h18) rfl ?_
  refine lv (v := .bool (decide ((a1.length : Int) < x11))) rfl (r_lss rfl rfl rfl rfl) rfl ?_
  refine wend ?_
  refine wthen ?_
  refine wren (fun ρ19 eρ19 => ?_)
  have h20 : opd ρ19 24 (.tmp 1) = s2.v := (eρ19 1).trans h16
  have h21 : opd ρ19 24 (.tmp 4) = .pointer (some ⟨g5, 0 + 0, none⟩) := (eρ19 4).trans h17
  have h22 : opd ρ19 24 (.tmp 6) = .int .i64 x11 := (eρ19 6).trans h18
  have h23 : opd ρ19 24 (.tmp 12) = .bool (decide ((a1.length : Int) < x11)) := eρ19 12
  clear eρ19
  by_cases hc24 : (a1.length : Int) < x11
  · skip
    rw [if_pos hc24] at hF
    have hbhc24 : (decide ((a1.length : Int) < x11)) = true := decide_eq_true hc24
    refine wcT (h23.trans (congrArg Value.bool hbhc24)) ?_
    refine wseq ?_
    refine wreg ?_
    refine lv (v := .agg (flat [ckI 0, ckL Sv.nil]).toArray) rfl (r_bldk (z := [[ckI 0], [ckL Sv.nil]]) (pc := []) rfl zg71 bf71 rfl rfl rfl rfl) rfl ?_
    refine lst rfl (l_st (off := 0) (p := 0) (m := 2) (new := [ckI 0, ckL Sv.nil]) hI 1 rfl rfl sz71 h21 rfl rfl rfl rfl rfl) rfl ?_
    intro w25 hI
    replace hI : Inv B w25 H12 [.cb g3 [ckI a0.Epoch, ckL s1] 64, .cb g5 [ckI 0, ckL Sv.nil] 71] := hI
    refine lv (v := .bool false) rfl (r_as rfl rfl) rfl ?_
    refine wend ?_
    refine wthen ?_
    refine wren (fun ρ26 eρ26 => ?_)
    have h27 : opd ρ26 24 (.tmp 4) = .pointer (some ⟨g5, 0 + 0, none⟩) := (eρ26 4).trans h21
    have h28 : opd ρ26 24 (.tmp 5) = .bool false := eρ26 5
    clear eρ26
    refine wp_ret ?_
    refine thR ?_
    obtain rfl := Option.some.inj hF
    subst hB
    refine finR (rs := [.cell 4 71, .tmp 5]) (vs := [.agg (flat [ckI 0, ckL Sv.nil]).toArray, .bool false]) rfl ⟨⟨_, h27, ld_agg (hI.good.ca 1 rfl) ag71 rfl⟩, h28, trivial⟩ ?_
    exact hI.fin 0 ⟨Sv.nil, rfl, (Sl.nil _ _), rfl⟩
  · skip
    rw [if_neg hc24] at hF
    have hbhc24 : (decide ((a1.length : Int) < x11)) = false := decide_eq_false hc24
    refine wcF (h23.trans (congrArg Value.bool hbhc24)) ?_
    refine wp_skip ?_
    refine wthen ?_
    refine wseq ?_
    refine dstG (H0 := H12) (L0 := keepL [true, true] [.cb g3 [ckI a0.Epoch, ckL s1] 64, .cb g5 [ckI 0, ckL Sv.nil] 71]) [10] mixed rfl (by repeat (first | exact Pan.body | refine Pan.then ?_ | refine Pan.inBlock ?_ | refine Pan.noGoto ?_ | refine Pan.pure ?_)) hI (hI.good.weakm _ (Hle.refl _) rfl) ?_
    intro w29 hI hP
    refine dp (v := s2.v) 0 (by kernel_rfl) rfl rfl (fun _ => r_mv rfl h20) rfl hP ?_
    obtain ⟨x30, hx30, hF⟩ := Option.bind_eq_some_iff.1 hF
    obtain ⟨b31, j32, _, hix33, hil34, ⟨s36, s37, s38, rfl, hs36, hs37, hs38⟩, hA35⟩ := (hs2.mono hleH12).ix hx30
    replace hA35 : At H12 b31 j32 [ckI x30.Kind, ckI x30.Epoch, ckI x30.Height, ckI x30.Round, ckV flB x30.Digest, ckI x30.From, ckI x30.Sig.Leaf, ckL s36, ckL s37, ckL s38] := hA35
    refine dp (v := .pointer (some ⟨b31, j32 + 0, none⟩)) 1 (by kernel_rfl) rfl rfl (fun _ => r_ixt rfl sl22 rfl rfl rfl hix33 hil34) rfl hP ?_
    refine dp (v := .pointer (some ⟨b31, j32 + 3, none⟩)) 2 (by kernel_rfl) rfl rfl (fun _ => l_fa (j := j32) (i := 0) rfl fl35_3 rfl rfl) rfl hP ?_
    refine dp (v := s2.v) 5 (by kernel_rfl) rfl rfl (fun _ => r_mv rfl h20) rfl hP ?_
    refine dp (v := .int .i64 x11) 6 (by kernel_rfl) rfl rfl (fun _ => r_mv rfl h22) rfl hP ?_
    obtain ⟨x39, hx39, hF⟩ := Option.bind_eq_some_iff.1 hF
    obtain ⟨s40, es40⟩ : ∃ z : Sv, z = s2.cut 0 (x11 : Int).toNat 41 := ⟨_, rfl⟩
    have hs40 := Sl.cutI (hs2.mono hleH12) hx39 es40
    refine dp (v := s40.v) 7 (by kernel_rfl) rfl rfl (fun _ => s_slh rfl sl22 rfl rfl (hs2.mono hleH12) hx39 es40) rfl hP ?_
    refine dr (v := .int .i64 x30.Round) 3 (by kernel_rfl) rfl rfl (hI.good.weakm [true, true] (Hle.refl _) rfl) (fun _ hG => r_cl1 (off := 3) (p := 3) (hA35.ca hG) rfl sc3 rfl rfl rfl) rfl hP ?_
    refine de 4 (by kernel_rfl) rfl rfl rfl (l_bs (t := ty_Vote) (vs := []) (xs := []) hI rfl sl22 inf35 rfl rfl rfl .nil rfl) rfl ?_
    rintro _ w43 ⟨s41, H42, rfl, hI, hleH42, hs41, hfs41, hgs41⟩
    refine ⟨(hI.good.weakm [true, true] hleH42 rfl), ?_⟩
    replace hI := Inv.full (e := 35) (sz := 41) hI (show s41.n = s41.c from hfs41)
    replace hI : Inv B w43 H42 [.cb g3 [ckI a0.Epoch, ckL s1] 64, .cb g5 [ckI 0, ckL Sv.nil] 71, .own s41 35 41 none] := hI
    obtain ⟨x45, hx45, hF⟩ := Option.bind_eq_some_iff.1 hF
    refine de 8 (by kernel_rfl) rfl rfl rfl (l_app (t := ty_Vote) hI 2 rfl rfl sl22 inf35 rfl rfl rfl rfl hs41 (hs40.mono hleH42) (appI_some hx45).1) rfl ?_
    rintro _ w49 ⟨s46, H47, gg48, rfl, hI, hleH47, hs46⟩
    rw [← (appI_some hx45).2] at hs46
    replace hI : Inv B w49 H47 [.cb g3 [ckI a0.Epoch, ckL s1] 64, .cb g5 [ckI 0, ckL Sv.nil] 71, .own s46 35 41 gg48] := hI
    refine ⟨(hI.good.weakm [true, true, false] (hleH42.trans hleH47) rfl), ?_⟩
    refine dp (v := .agg (flat [ckI x30.Round, ckL s46]).toArray) 9 (by kernel_rfl) rfl rfl (fun _ => r_bldk (z := [[ckI 0], [ckL Sv.nil]]) (pc := [(0, [ckI x30.Round]), (1, [ckL s46])]) rfl zg71 bf71 rfl (argc (congrArg Value.cells rfl) (argc (congrArg Value.cells rfl) rfl)) rfl rfl) rfl hP ?_
    refine dsl 10 (by kernel_rfl) rfl rfl rfl (l_st (off := 0) (p := 0) (m := 2) (new := [ckI x30.Round, ckL s46]) hI 1 rfl rfl sz71 h21 rfl rfl rfl rfl rfl) rfl ?_
    intro w50 hI
    replace hI : Inv B w50 H47 [.cb g3 [ckI a0.Epoch, ckL s1] 64, .cb g5 [ckI x30.Round, ckL s46] 71, .own s46 35 41 gg48] := hI
    refine dp (v := .bool true) 11 (by kernel_rfl) rfl rfl (fun _ => r_as rfl rfl) rfl hP ?_
    refine dend (by kernel_rfl) ?_
    refine wthen ?_
    refine wren (fun ρ51 eρ51 => ?_)
    have h52 : opd ρ51 24 (.tmp 4) = .pointer (some ⟨g5, 0 + 0, none⟩) := (eρ51 4).trans h21
    have h53 : opd ρ51 24 (.tmp 5) = .bool true := eρ51 5
    clear eρ51
    refine wp_ret ?_
    obtain rfl := Option.some.inj hF
    subst hB
    refine finR (rs := [.cell 4 71, .tmp 5]) (vs := [.agg (flat [ckI x30.Round, ckL s46]).toArray, .bool true]) rfl ⟨⟨_, h52, ld_agg (hI.good.ca 1 rfl) ag71 rfl⟩, h53, trivial⟩ ?_
    exact hI.fin 0 ⟨s46, rfl, hs46, rfl⟩
noncomputable def M_once_secret (a0 : Vec UInt8 32) (a1 : Int) (a2 : Int) (a3 : Int) : Option ((Vec UInt8 32)) := ((forK (fun (i28 : Nat) (σ28 : (Vec UInt8 16)) => ((if (0 : Int) ≤ (wI ((56 : Int) - (wI ((8 : Int) * (i28 : Int))))) then (if (0 : Int) ≤ (wI ((56 : Int) - (wI ((8 : Int) * (i28 : Int))))) then ((σ28.l[i28]?).bind fun x136 => ((ixI (Vec.set σ28 i28 (u8I ((shrQ (u64I a1) (wI ((56 : Int) - (wI ((8 : Int) * (i28 : Int)))))).toNat : Int))).l (wI ((8 : Int) + (i28 : Int)))).bind fun x139 => some (.inl (Vec.set (Vec.set σ28 i28 (u8I ((shrQ (u64I a1) (wI ((56 : Int) - (wI ((8 : Int) * (i28 : Int)))))).toNat : Int))) ((wI ((8 : Int) + (i28 : Int)) : Int).toNat) (u8I ((shrQ (u64I (wI ((wI ((2 : Int) * a2)) + a3))) (wI ((56 : Int) - (wI ((8 : Int) * (i28 : Int)))))).toNat : Int)))))) else none) else none) : Option ((Vec UInt8 16) ⊕ (Vec UInt8 32)))) 8 0 (Vec.rep 16 0)).bind fun y => match y with | .inl σ28 => ((M_sha_Of [[2], a0.l, σ28.l]).bind fun x167 => some x167) | .inr r => some r)
set_option maxHeartbeats 4000000 in
theorem spec_143 {w : World} {H : Hp} {a0 : Vec UInt8 32} {a1 : Int} {a2 : Int} {a3 : Int}  {r : (Vec UInt8 32)} (hF : M_once_secret a0 a1 a2 a3 = some r) (hT : Tab H) (hG : Good w H [])  :
    Fine Tryd.prog 143 [.agg (flat [ckV flB a0]).toArray, .int .i64 a1, .int .i64 a2, .int .i64 a3] w H [] (fun H' v L' => v = .agg (flat [ckV flB r]).toArray ∧ L' = []) := by
  unfold M_once_secret at hF
  unfold Fine
  obtain ⟨B, hB⟩ : ∃ B : Base, B = ⟨w, H, blks []⟩ := ⟨_, rfl⟩
  have hI : Inv B w H [] := by rw [hB]; exact Inv.start hG
  refine enter (n := 42) (args := [.agg (flat [ckV flB a0]).toArray, .int .i64 a1, .int .i64 a2, .int .i64 a3]) Tryd.func143 rfl Tryd.ntmps143 (Nat.le_of_ble_eq_true rfl) ?_
  refine wseq ?_
  refine wreg ?_
  refine le rfl (l_box (cks := [ckV flB a0]) hI rfl rfl rfl) rfl ?_
  rintro _ w2 ⟨g1, rfl, hI⟩
  replace hI : Inv B w2 H [.cb g1 [ckV flB a0] 29] := hI
  refine le rfl (l_al hI rfl ze29) rfl ?_
  rintro _ w4 ⟨g3, rfl, hI⟩
  replace hI : Inv B w4 H [.cb g1 [ckV flB a0] 29, .cb g3 [ckV flB (Vec.rep 32 0)] 29] := hI
  refine wend ?_
  refine wthen ?_
  refine wren (fun ρ5 eρ5 => ?_)
  have h6 : opd ρ5 42 (.tmp 1) = .int .i64 a1 := eρ5 1
  have h7 : opd ρ5 42 (.tmp 2) = .int .i64 a2 := eρ5 2
  have h8 : opd ρ5 42 (.tmp 3) = .int .i64 a3 := eρ5 3
  have h9 : opd ρ5 42 (.tmp 4) = .pointer (some ⟨g1, 0 + 0, none⟩) := eρ5 4
  have h10 : opd ρ5 42 (.tmp 8) = .pointer (some ⟨g3, 0 + 0, none⟩) := eρ5 8
  clear eρ5
  refine wseq ?_
  refine wreg ?_
  refine le rfl (l_al hI rfl ze254) rfl ?_
  rintro _ w12 ⟨g11, rfl, hI⟩
  replace hI : Inv B w12 H [.cb g1 [ckV flB a0] 29, .cb g3 [ckV flB (Vec.rep 32 0)] 29, .cb g11 [ckV flB (Vec.rep 16 0)] 254] := hI
  refine wend ?_
  refine wthen ?_
  refine wren (fun ρ13 eρ13 => ?_)
  have h14 : opd ρ13 42 (.tmp 1) = .int .i64 a1 := (eρ13 1).trans h6
  have h15 : opd ρ13 42 (.tmp 2) = .int .i64 a2 := (eρ13 2).trans h7
  have h16 : opd ρ13 42 (.tmp 3) = .int .i64 a3 := (eρ13 3).trans h8
  have h17 : opd ρ13 42 (.tmp 4) = .pointer (some ⟨g1, 0 + 0, none⟩) := (eρ13 4).trans h9
  have h18 : opd ρ13 42 (.tmp 8) = .pointer (some ⟨g3, 0 + 0, none⟩) := (eρ13 8).trans h10
  have h19 : opd ρ13 42 (.tmp 9) = .pointer (some ⟨g11, 0 + 0, none⟩) := eρ13 9
  clear eρ13
  refine wseq ?_
  refine wseq ?_
  refine wreg ?_
  refine lv (v := .int .i64 0) rfl (r_mv rfl rfl) rfl ?_
  refine wend ?_
  refine wthen ?_
  refine wren (fun ρ20 eρ20 => ?_)
  have h21 : opd ρ20 42 (.tmp 1) = .int .i64 a1 := (eρ20 1).trans h14
  have h22 : opd ρ20 42 (.tmp 2) = .int .i64 a2 := (eρ20 2).trans h15
  have h23 : opd ρ20 42 (.tmp 3) = .int .i64 a3 := (eρ20 3).trans h16
  have h24 : opd ρ20 42 (.tmp 4) = .pointer (some ⟨g1, 0 + 0, none⟩) := (eρ20 4).trans h17
  have h25 : opd ρ20 42 (.tmp 8) = .pointer (some ⟨g3, 0 + 0, none⟩) := (eρ20 8).trans h18
  have h26 : opd ρ20 42 (.tmp 9) = .pointer (some ⟨g11, 0 + 0, none⟩) := (eρ20 9).trans h19
  have h27 : opd ρ20 42 (.tmp 11) = .int .i64 0 := eρ20 11
  clear eρ20
  refine wp_block ?_
  obtain ⟨y28, hy28, hF28⟩ := Option.bind_eq_some_iff.1 hF
  refine wfor (n := 42) 8 _ (fun (i28 : Nat) (σ28 : (Vec UInt8 16)) ρ' w' => ∃ (H105 : Hp), Hle H H105 ∧ opd ρ' 42 (.tmp 1) = .int .i64 a1 ∧ opd ρ' 42 (.tmp 2) = .int .i64 a2 ∧ opd ρ' 42 (.tmp 3) = .int .i64 a3 ∧ opd ρ' 42 (.tmp 4) = .pointer (some ⟨g1, 0 + 0, none⟩) ∧ opd ρ' 42 (.tmp 8) = .pointer (some ⟨g3, 0 + 0, none⟩) ∧ opd ρ' 42 (.tmp 9) = .pointer (some ⟨g11, 0 + 0, none⟩) ∧ opd ρ' 42 (.tmp 11) = .int .i64 (i28 : Int) ∧ Inv B w' H105 [.cb g1 [ckV flB a0] 29, .cb g3 [ckV flB (Vec.rep 32 0)] 29, .cb g11 [ckV flB σ28] 254]) hy28 ⟨H, (Hle.refl _), h21, h22, h23, h24, h25, h26, h27, hI⟩ ?_
  rintro k28 i28 σ28 ρ113 w114 hk28 ⟨H105, hleH105, h106, h107, h108, h109, h110, h111, h112, hI⟩ hy28
  refine wseq ?_
  refine wreg ?_
  refine lv (v := .bool (decide ((i28 : Int) < 8))) rfl (r_lss rfl h112 rfl rfl) rfl ?_
  refine wend ?_
  refine wthen ?_
  refine wseq ?_
  by_cases hc115 : (i28 : Int) < 8
  · skip
    have hbhc115 : (decide ((i28 : Int) < 8)) = true := decide_eq_true hc115
    obtain ⟨k28, rfl⟩ : ∃ m, k28 = m + 1 := ⟨k28 - 1, by omega⟩
    obtain ⟨z28, hb28⟩ := forK_body hy28
    have hF := hb28
    have hlt28 : ((i28 : Nat) : Int) + 1 ≤ 9223372036854775807 := by omega
    refine wcT ((show opd _ _ _ = _ from rfl).trans (congrArg Value.bool hbhc115)) ?_
    refine wp_skip ?_
    refine wthen ?_
    refine wren (fun ρ116 eρ116 => ?_)
    have h117 : opd ρ116 42 (.tmp 1) = .int .i64 a1 := (eρ116 1).trans h106
    have h118 : opd ρ116 42 (.tmp 2) = .int .i64 a2 := (eρ116 2).trans h107
    have h119 : opd ρ116 42 (.tmp 3) = .int .i64 a3 := (eρ116 3).trans h108
    have h120 : opd ρ116 42 (.tmp 4) = .pointer (some ⟨g1, 0 + 0, none⟩) := (eρ116 4).trans h109
    have h121 : opd ρ116 42 (.tmp 8) = .pointer (some ⟨g3, 0 + 0, none⟩) := (eρ116 8).trans h110
    have h122 : opd ρ116 42 (.tmp 9) = .pointer (some ⟨g11, 0 + 0, none⟩) := (eρ116 9).trans h111
    have h123 : opd ρ116 42 (.tmp 11) = .int .i64 (i28 : Int) := (eρ116 11).trans h112
    clear eρ116
    refine wseq ?_
    refine wp_block ?_
    refine wseq ?_
    refine wreg ?_
    refine lv (v := .int .i64 (i28 : Int)) rfl (r_mv rfl h123) rfl ?_
    refine lv (v := .int .i64 (i28 : Int)) rfl (r_as rfl rfl) rfl ?_
    refine wend ?_
    refine wthen ?_
    refine wren (fun ρ124 eρ124 => ?_)
    have h125 : opd ρ124 42 (.tmp 1) = .int .i64 a1 := (eρ124 1).trans h117
    have h126 : opd ρ124 42 (.tmp 2) = .int .i64 a2 := (eρ124 2).trans h118
    have h127 : opd ρ124 42 (.tmp 3) = .int .i64 a3 := (eρ124 3).trans h119
    have h128 : opd ρ124 42 (.tmp 4) = .pointer (some ⟨g1, 0 + 0, none⟩) := (eρ124 4).trans h120
    have h129 : opd ρ124 42 (.tmp 8) = .pointer (some ⟨g3, 0 + 0, none⟩) := (eρ124 8).trans h121
    have h130 : opd ρ124 42 (.tmp 9) = .pointer (some ⟨g11, 0 + 0, none⟩) := (eρ124 9).trans h122
    have h131 : opd ρ124 42 (.tmp 10) = .int .i64 (i28 : Int) := eρ124 10
    have h132 : opd ρ124 42 (.tmp 11) = .int .i64 (i28 : Int) := (eρ124 11).trans h123
    clear eρ124
    refine dstG (H0 := H105) (L0 := keepL [true, true, true] [.cb g1 [ckV flB a0] 29, .cb g3 [ckV flB (Vec.rep 32 0)] 29, .cb g11 [ckV flB σ28] 254]) [21, 23] mixed rfl (by repeat (first | exact Pan.body | refine Pan.then ?_ | refine Pan.inBlock ?_ | refine Pan.noGoto ?_ | refine Pan.pure ?_)) hI (hI.good.weakm _ (Hle.refl _) rfl) ?_
    intro w133 hI hP
    refine dp (v := .int .i64 (i28 : Int)) 0 (by kernel_rfl) rfl rfl (fun _ => r_mv rfl h131) rfl hP ?_
    refine dp (v := .int .i64 (i28 : Int)) 1 (by kernel_rfl) rfl rfl (fun _ => r_mv rfl h131) rfl hP ?_
    refine dp (v := .int .i64 (wI ((8 : Int) + (i28 : Int)))) 2 (by kernel_rfl) rfl rfl (fun _ => r_addw rfl rfl rfl) rfl hP ?_
    refine dp (v := .int .i64 a1) 3 (by kernel_rfl) rfl rfl (fun _ => r_mv rfl h125) rfl hP ?_
    refine dp (v := u64v (u64I a1)) 4 (by kernel_rfl) rfl rfl (fun _ => c_u64 rfl un3 un234 rfl) rfl hP ?_
    refine dp (v := .int .i64 (i28 : Int)) 5 (by kernel_rfl) rfl rfl (fun _ => r_mv rfl h131) rfl hP ?_
    refine dp (v := .int .i64 (wI ((8 : Int) * (i28 : Int)))) 6 (by kernel_rfl) rfl rfl (fun _ => r_mulw rfl rfl rfl) rfl hP ?_
    refine dp (v := .int .i64 (wI ((56 : Int) - (wI ((8 : Int) * (i28 : Int)))))) 7 (by kernel_rfl) rfl rfl (fun _ => r_subw rfl rfl rfl) rfl hP ?_
    by_cases hc134 : (0 : Int) ≤ (wI ((56 : Int) - (wI ((8 : Int) * (i28 : Int)))))
    · rw [if_pos hc134] at hF
      refine dp (v := u64v (shrQ (u64I a1) (wI ((56 : Int) - (wI ((8 : Int) * (i28 : Int))))))) 8 (by kernel_rfl) rfl rfl (fun _ => r_shrQ rfl rfl rfl hc134) rfl hP ?_
      refine dp (v := bv (u8I ((shrQ (u64I a1) (wI ((56 : Int) - (wI ((8 : Int) * (i28 : Int)))))).toNat : Int))) 9 (by kernel_rfl) rfl rfl (fun _ => c_i8 rfl un234 un5 rfl) rfl hP ?_
      refine dp (v := .int .i64 a2) 10 (by kernel_rfl) rfl rfl (fun _ => r_mv rfl h126) rfl hP ?_
      refine dp (v := .int .i64 (wI ((2 : Int) * a2))) 11 (by kernel_rfl) rfl rfl (fun _ => r_mulw rfl rfl rfl) rfl hP ?_
      refine dp (v := .int .i64 a3) 12 (by kernel_rfl) rfl rfl (fun _ => r_mv rfl h127) rfl hP ?_
      refine dp (v := .int .i64 (wI ((wI ((2 : Int) * a2)) + a3))) 13 (by kernel_rfl) rfl rfl (fun _ => r_addw rfl rfl rfl) rfl hP ?_
      refine dp (v := u64v (u64I (wI ((wI ((2 : Int) * a2)) + a3)))) 14 (by kernel_rfl) rfl rfl (fun _ => c_u64 rfl un3 un234 rfl) rfl hP ?_
      refine dp (v := .int .i64 (i28 : Int)) 15 (by kernel_rfl) rfl rfl (fun _ => r_mv rfl h131) rfl hP ?_
      refine dp (v := .int .i64 (wI ((8 : Int) * (i28 : Int)))) 16 (by kernel_rfl) rfl rfl (fun _ => r_mulw rfl rfl rfl) rfl hP ?_
      refine dp (v := .int .i64 (wI ((56 : Int) - (wI ((8 : Int) * (i28 : Int)))))) 17 (by kernel_rfl) rfl rfl (fun _ => r_subw rfl rfl rfl) rfl hP ?_
      by_cases hc135 : (0 : Int) ≤ (wI ((56 : Int) - (wI ((8 : Int) * (i28 : Int)))))
      · rw [if_pos hc135] at hF
        refine dp (v := u64v (shrQ (u64I (wI ((wI ((2 : Int) * a2)) + a3))) (wI ((56 : Int) - (wI ((8 : Int) * (i28 : Int))))))) 18 (by kernel_rfl) rfl rfl (fun _ => r_shrQ rfl rfl rfl hc135) rfl hP ?_
        refine dp (v := bv (u8I ((shrQ (u64I (wI ((wI ((2 : Int) * a2)) + a3))) (wI ((56 : Int) - (wI ((8 : Int) * (i28 : Int)))))).toNat : Int))) 19 (by kernel_rfl) rfl rfl (fun _ => c_i8 rfl un234 un5 rfl) rfl hP ?_
        obtain ⟨x136, hx136, hF⟩ := Option.bind_eq_some_iff.1 hF
        obtain ⟨q137, eq137⟩ : ∃ z, z = 0 + 0 + i28 * 1 := ⟨_, rfl⟩
        refine dp (v := .pointer (some ⟨g11, q137 + 0, none⟩)) 20 (by kernel_rfl) rfl rfl (fun _ => r_ixq rfl ar254 h130 rfl rfl (Vec.lt hx136) eq137) rfl hP ?_
        refine dsl 21 (by kernel_rfl) rfl rfl rfl (l_sta (f := flB) (m := 16) (vv := σ28) (off := 0) (p := 0) (k := i28) (x1 := (u8I ((shrQ (u64I a1) (wI ((56 : Int) - (wI ((8 : Int) * (i28 : Int)))))).toNat : Int))) hI 2 rfl rfl sz5 rfl eq137 rfl rfl rfl rfl hx136 rfl) rfl ?_
        intro w138 hI
        replace hI : Inv B w138 H105 [.cb g1 [ckV flB a0] 29, .cb g3 [ckV flB (Vec.rep 32 0)] 29, .cb g11 [ckV flB (Vec.set σ28 i28 (u8I ((shrQ (u64I a1) (wI ((56 : Int) - (wI ((8 : Int) * (i28 : Int)))))).toNat : Int)))] 254] := hI
        obtain ⟨x139, hx139, hF⟩ := Option.bind_eq_some_iff.1 hF
        obtain ⟨q140, eq140⟩ : ∃ z, z = 0 + 0 + ((wI ((8 : Int) + (i28 : Int)) : Int).toNat) * 1 := ⟨_, rfl⟩
        refine dp (v := .pointer (some ⟨g11, q140 + 0, none⟩)) 22 (by kernel_rfl) rfl rfl (fun _ => r_ixq rfl ar254 h130 rfl (ixI_some hx139).2 (Vec.lt (ixI_some hx139).1) eq140) rfl hP ?_
        refine dsl 23 (by kernel_rfl) rfl rfl rfl (l_sta (f := flB) (m := 16) (vv := (Vec.set σ28 i28 (u8I ((shrQ (u64I a1) (wI ((56 : Int) - (wI ((8 : Int) * (i28 : Int)))))).toNat : Int)))) (off := 0) (p := 0) (k := ((wI ((8 : Int) + (i28 : Int)) : Int).toNat)) (x1 := (u8I ((shrQ (u64I (wI ((wI ((2 : Int) * a2)) + a3))) (wI ((56 : Int) - (wI ((8 : Int) * (i28 : Int)))))).toNat : Int))) hI 2 rfl rfl sz5 rfl eq140 rfl rfl rfl rfl (ixI_some hx139).1 rfl) rfl ?_
        intro w141 hI
        replace hI : Inv B w141 H105 [.cb g1 [ckV flB a0] 29, .cb g3 [ckV flB (Vec.rep 32 0)] 29, .cb g11 [ckV flB (Vec.set (Vec.set σ28 i28 (u8I ((shrQ (u64I a1) (wI ((56 : Int) - (wI ((8 : Int) * (i28 : Int)))))).toNat : Int))) ((wI ((8 : Int) + (i28 : Int)) : Int).toNat) (u8I ((shrQ (u64I (wI ((wI ((2 : Int) * a2)) + a3))) (wI ((56 : Int) - (wI ((8 : Int) * (i28 : Int)))))).toNat : Int)))] 254] := hI
        refine dend (by kernel_rfl) ?_
        refine inN ?_
        refine wthen ?_
        refine wren (fun ρ142 eρ142 => ?_)
        have h143 : opd ρ142 42 (.tmp 1) = .int .i64 a1 := (eρ142 1).trans h125
        have h144 : opd ρ142 42 (.tmp 2) = .int .i64 a2 := (eρ142 2).trans h126
        have h145 : opd ρ142 42 (.tmp 3) = .int .i64 a3 := (eρ142 3).trans h127
        have h146 : opd ρ142 42 (.tmp 4) = .pointer (some ⟨g1, 0 + 0, none⟩) := (eρ142 4).trans h128
        have h147 : opd ρ142 42 (.tmp 8) = .pointer (some ⟨g3, 0 + 0, none⟩) := (eρ142 8).trans h129
        have h148 : opd ρ142 42 (.tmp 9) = .pointer (some ⟨g11, 0 + 0, none⟩) := (eρ142 9).trans h130
        have h149 : opd ρ142 42 (.tmp 11) = .int .i64 (i28 : Int) := (eρ142 11).trans h132
        clear eρ142
        refine wreg ?_
        refine lv (v := .int .i64 ((i28 + 1 : Nat) : Int)) rfl (r_addn rfl h149 rfl hlt28) rfl ?_
        refine lv (v := .int .i64 ((i28 + 1 : Nat) : Int)) rfl (r_mv rfl rfl) rfl ?_
        refine wend ?_
        obtain rfl := Option.some.inj hF
        exact ⟨k28, (Vec.set (Vec.set σ28 i28 (u8I ((shrQ (u64I a1) (wI ((56 : Int) - (wI ((8 : Int) * (i28 : Int)))))).toNat : Int))) ((wI ((8 : Int) + (i28 : Int)) : Int).toNat) (u8I ((shrQ (u64I (wI ((wI ((2 : Int) * a2)) + a3))) (wI ((56 : Int) - (wI ((8 : Int) * (i28 : Int)))))).toNat : Int))), _, rfl, rfl, ⟨H105, hleH105, h143, h144, h145, h146, h147, h148, rfl, hI⟩, forK_inl hy28 hb28⟩
      · rw [if_neg hc135] at hF; cases hF
    · rw [if_neg hc134] at hF; cases hF
  · skip
    have hbhc115 : (decide ((i28 : Int) < 8)) = false := decide_eq_false hc115
    obtain rfl : k28 = 0 := by omega
    obtain rfl := forK_end hy28
    have hF := hF28
    try dsimp only at hF
    refine wcF ((show opd _ _ _ = _ from rfl).trans (congrArg Value.bool hbhc115)) ?_
    refine wp_exit ?_
    refine thE ?_
    refine thE ?_
    refine inX ?_
    refine wthen ?_
    refine wren (fun ρ150 eρ150 => ?_)
    have h151 : opd ρ150 42 (.tmp 4) = .pointer (some ⟨g1, 0 + 0, none⟩) := (eρ150 4).trans h109
    have h152 : opd ρ150 42 (.tmp 8) = .pointer (some ⟨g3, 0 + 0, none⟩) := (eρ150 8).trans h110
    have h153 : opd ρ150 42 (.tmp 9) = .pointer (some ⟨g11, 0 + 0, none⟩) := (eρ150 9).trans h111
    clear eρ150
    refine wseq ?_
    refine dstG (H0 := H105) (L0 := keepL [false, true, false] [.cb g1 [ckV flB a0] 29, .cb g3 [ckV flB (Vec.rep 32 0)] 29, .cb g11 [ckV flB σ28] 254]) [5] mixed rfl (by repeat (first | exact Pan.body | refine Pan.then ?_ | refine Pan.inBlock ?_ | refine Pan.noGoto ?_ | refine Pan.pure ?_)) hI (hI.good.weakm _ (Hle.refl _) rfl) ?_
    intro w154 hI hP
    obtain ⟨H155, hI, hleH155, hA156⟩ := hI.freeze' 0 rfl
    replace hI : Inv B w154 H155 [.cb g3 [ckV flB (Vec.rep 32 0)] 29, .cb g11 [ckV flB σ28] 254] := hI
    replace hA156 : At H155 g1 0 [ckV flB a0] := hA156
    have hs157 := At.sl (f := flB) (m := 32) (off := 0) (p := 0) hA156 rfl rfl rfl
    obtain ⟨s157, es157⟩ : ∃ z : Sv, z = ⟨some ⟨g1, 0 + 0, none⟩, 32, 32⟩ := ⟨_, rfl⟩
    rw [← es157] at hs157
    have hfs157 : s157.n = s157.c := by rw [es157]
    refine dp (v := s157.v) 1 (by kernel_rfl) rfl rfl (fun _ => (by rw [es157]; exact r_sla' rfl ar29 h151)) rfl hP ?_
    obtain ⟨H158, hI, hleH158, hA159⟩ := hI.freeze' 1 rfl
    replace hI : Inv B w154 H158 [.cb g3 [ckV flB (Vec.rep 32 0)] 29] := hI
    replace hA159 : At H158 g11 0 [ckV flB σ28] := hA159
    have hs160 := At.sl (f := flB) (m := 16) (off := 0) (p := 0) hA159 rfl rfl rfl
    obtain ⟨s160, es160⟩ : ∃ z : Sv, z = ⟨some ⟨g11, 0 + 0, none⟩, 16, 16⟩ := ⟨_, rfl⟩
    rw [← es160] at hs160
    have hfs160 : s160.n = s160.c := by rw [es160]
    refine dp (v := s160.v) 2 (by kernel_rfl) rfl rfl (fun _ => (by rw [es160]; exact r_sla' rfl ar254 h153)) rfl hP ?_
    refine de 0 (by kernel_rfl) rfl rfl rfl (l_bs (t := (Fl.ty flB)) (vs := [bv 2]) (xs := [2]) hI rfl sl158 inf5 rfl rfl (argc rfl rfl) (.cons rfl rfl .nil) rfl) rfl ?_
    rintro _ w163 ⟨s161, H162, rfl, hI, hleH162, hs161, hfs161, hgs161⟩
    refine ⟨(hI.good.weakm [true] ((hleH155.trans hleH158).trans hleH162) rfl), ?_⟩
    refine de 3 (by kernel_rfl) rfl rfl rfl (l_bs (t := (Ty.sl (Fl.ty flB))) (vs := [s161.v, s157.v, s160.v]) (xs := [[2], a0.l, σ28.l]) hI rfl sl228 inf158 rfl rfl (argc rfl (argc rfl (argc rfl rfl))) (.cons rfl ⟨s161, rfl, hs161⟩ (.cons rfl ⟨s157, rfl, ((hs157.mono hleH158).mono hleH162)⟩ (.cons rfl ⟨s160, rfl, (hs160.mono hleH162)⟩ .nil))) rfl) rfl ?_
    rintro _ w166 ⟨s164, H165, rfl, hI, hleH165, hs164, hfs164, hgs164⟩
    refine ⟨(hI.good.weakm [true] (((hleH155.trans hleH158).trans hleH162).trans hleH165) rfl), ?_⟩
    obtain ⟨x167, hx167, hF⟩ := Option.bind_eq_some_iff.1 hF
    have hsp170 := spec_99 hx167 (((((hT.mono hleH105).mono hleH155).mono hleH158).mono hleH162).mono hleH165) (hI.part 0) hs164
    refine dfc 4 ([]) ([.cb g3 [ckV flB (Vec.rep 32 0)] 29]) (args := [s164.v]) fc99 (by kernel_rfl) rfl rfl rfl rfl rfl hI (argc rfl rfl) (hsp170) ?_
    rintro _ H168 _ w169 ⟨rfl, rfl⟩ hleH168 hI
    replace hI : Inv B w169 H168 [.cb g3 [ckV flB (Vec.rep 32 0)] 29] := hI
    refine ⟨(hI.good.weakm [true] ((((hleH155.trans hleH158).trans hleH162).trans hleH165).trans hleH168) rfl), ?_⟩
    refine dsl 5 (by kernel_rfl) rfl rfl rfl (l_st (off := 0) (p := 0) (m := 1) (new := [ckV flB x167]) hI 0 rfl rfl sz29 h152 rfl rfl rfl rfl rfl) rfl ?_
    intro w171 hI
    replace hI : Inv B w171 H168 [.cb g3 [ckV flB x167] 29] := hI
    refine dend (by kernel_rfl) ?_
    refine wthen ?_
    refine wren (fun ρ172 eρ172 => ?_)
    have h173 : opd ρ172 42 (.tmp 8) = .pointer (some ⟨g3, 0 + 0, none⟩) := (eρ172 8).trans h152
    clear eρ172
    refine wp_ret ?_
    obtain rfl := Option.some.inj hF
    subst hB
    refine finR (rs := [.cell 8 29]) (vs := [.agg (flat [ckV flB x167]).toArray]) rfl ⟨⟨_, h173, ld_agg (hI.good.ca 0 rfl) ag29 rfl⟩, trivial⟩ ?_
    exact hI.fin 0 ⟨rfl, rfl⟩
noncomputable def M_once_Public (a0 : Vec UInt8 32) (a1 : Int) : Option ((Vec UInt8 32)) := ((forK (fun (i20 : Nat) (σ20 : (List (Vec UInt8 32))) => (((M_once_secret a0 a1 (i20 : Int) 0).bind fun x184 => ((M_once_shut x184).bind fun x188 => ((M_once_secret a0 a1 (i20 : Int) 1).bind fun x192 => ((M_once_shut x192).bind fun x196 => ((appI 32 σ20 [x188, x196]).bind fun x203 => some (.inl x203)))))) : Option ((List (Vec UInt8 32)) ⊕ (Vec UInt8 32)))) 32 0 []).bind fun y => match y with | .inl σ20 => ((M_once_whole σ20).bind fun x217 => some x217) | .inr r => some r)
set_option maxHeartbeats 4000000 in
theorem spec_95 {w : World} {H : Hp} {a0 : Vec UInt8 32} {a1 : Int}  {r : (Vec UInt8 32)} (hF : M_once_Public a0 a1 = some r) (hT : Tab H) (hG : Good w H [])  :
    Fine Tryd.prog 95 [.agg (flat [ckV flB a0]).toArray, .int .i64 a1] w H [] (fun H' v L' => v = .agg (flat [ckV flB r]).toArray ∧ L' = []) := by
  unfold M_once_Public at hF
  unfold Fine
  obtain ⟨B, hB⟩ : ∃ B : Base, B = ⟨w, H, blks []⟩ := ⟨_, rfl⟩
  have hI : Inv B w H [] := by rw [hB]; exact Inv.start hG
  refine enter (n := 26) (args := [.agg (flat [ckV flB a0]).toArray, .int .i64 a1]) Tryd.func95 rfl Tryd.ntmps95 (Nat.le_of_ble_eq_true rfl) ?_
  refine wseq ?_
  refine wreg ?_
  refine le rfl (l_box (cks := [ckV flB a0]) hI rfl rfl rfl) rfl ?_
  rintro _ w2 ⟨g1, rfl, hI⟩
  replace hI : Inv B w2 H [.cb g1 [ckV flB a0] 29] := hI
  refine le rfl (l_al hI rfl ze29) rfl ?_
  rintro _ w4 ⟨g3, rfl, hI⟩
  replace hI : Inv B w4 H [.cb g1 [ckV flB a0] 29, .cb g3 [ckV flB (Vec.rep 32 0)] 29] := hI
  refine wend ?_
  refine wthen ?_
  refine wren (fun ρ5 eρ5 => ?_)
  have h6 : opd ρ5 26 (.tmp 1) = .int .i64 a1 := eρ5 1
  have h7 : opd ρ5 26 (.tmp 2) = .pointer (some ⟨g1, 0 + 0, none⟩) := eρ5 2
  have h8 : opd ρ5 26 (.tmp 4) = .pointer (some ⟨g3, 0 + 0, none⟩) := eρ5 4
  clear eρ5
  refine wseq ?_
  refine wreg ?_
  refine lv (v := Sv.nil.v) rfl (r_as rfl rfl) rfl ?_
  refine wend ?_
  refine wthen ?_
  refine wren (fun ρ9 eρ9 => ?_)
  have h10 : opd ρ9 26 (.tmp 1) = .int .i64 a1 := (eρ9 1).trans h6
  have h11 : opd ρ9 26 (.tmp 2) = .pointer (some ⟨g1, 0 + 0, none⟩) := (eρ9 2).trans h7
  have h12 : opd ρ9 26 (.tmp 4) = .pointer (some ⟨g3, 0 + 0, none⟩) := (eρ9 4).trans h8
  have h13 : opd ρ9 26 (.tmp 5) = Sv.nil.v := eρ9 5
  clear eρ9
  refine wseq ?_
  refine wseq ?_
  refine wreg ?_
  refine lv (v := .int .i64 0) rfl (r_mv rfl rfl) rfl ?_
  refine wend ?_
  refine wthen ?_
  refine wren (fun ρ14 eρ14 => ?_)
  have h15 : opd ρ14 26 (.tmp 1) = .int .i64 a1 := (eρ14 1).trans h10
  have h16 : opd ρ14 26 (.tmp 2) = .pointer (some ⟨g1, 0 + 0, none⟩) := (eρ14 2).trans h11
  have h17 : opd ρ14 26 (.tmp 4) = .pointer (some ⟨g3, 0 + 0, none⟩) := (eρ14 4).trans h12
  have h18 : opd ρ14 26 (.tmp 5) = Sv.nil.v := (eρ14 5).trans h13
  have h19 : opd ρ14 26 (.tmp 7) = .int .i64 0 := eρ14 7
  clear eρ14
  refine wp_block ?_
  replace hI := Inv.full (e := 29) (sz := 32) hI (show Sv.nil.n = Sv.nil.c from rfl)
  replace hI : Inv B w4 H [.cb g1 [ckV flB a0] 29, .cb g3 [ckV flB (Vec.rep 32 0)] 29, .own Sv.nil 29 32 none] := hI
  obtain ⟨y20, hy20, hF20⟩ := Option.bind_eq_some_iff.1 hF
  refine wfor (n := 26) 32 _ (fun (i20 : Nat) (σ20 : (List (Vec UInt8 32))) ρ' w' => ∃ (H161 : Hp) (s159 : Sv) (gg160 : Option Nat), Hle H H161 ∧ opd ρ' 26 (.tmp 1) = .int .i64 a1 ∧ opd ρ' 26 (.tmp 2) = .pointer (some ⟨g1, 0 + 0, none⟩) ∧ opd ρ' 26 (.tmp 4) = .pointer (some ⟨g3, 0 + 0, none⟩) ∧ opd ρ' 26 (.tmp 5) = s159.v ∧ opd ρ' 26 (.tmp 7) = .int .i64 (i20 : Int) ∧ Sl (Fl.ty (flV flB 32)) H161 s159 σ20 ∧ Inv B w' H161 [.cb g1 [ckV flB a0] 29, .cb g3 [ckV flB (Vec.rep 32 0)] 29, .own s159 29 32 gg160]) hy20 ⟨H, Sv.nil, none, (Hle.refl _), h15, h16, h17, h18, h19, (Sl.nil _ _), hI⟩ ?_
  rintro k20 i20 σ20 ρ167 w168 hk20 ⟨H161, s159, gg160, hleH161, h162, h163, h164, h165, h166, hs159, hI⟩ hy20
  refine wseq ?_
  refine wreg ?_
  refine lv (v := .bool (decide ((i20 : Int) < 32))) rfl (r_lss rfl h166 rfl rfl) rfl ?_
  refine wend ?_
  refine wthen ?_
  refine wseq ?_
  by_cases hc169 : (i20 : Int) < 32
  · skip
    have hbhc169 : (decide ((i20 : Int) < 32)) = true := decide_eq_true hc169
    obtain ⟨k20, rfl⟩ : ∃ m, k20 = m + 1 := ⟨k20 - 1, by omega⟩
    obtain ⟨z20, hb20⟩ := forK_body hy20
    have hF := hb20
    have hlt20 : ((i20 : Nat) : Int) + 1 ≤ 9223372036854775807 := by omega
    refine wcT ((show opd _ _ _ = _ from rfl).trans (congrArg Value.bool hbhc169)) ?_
    refine wp_skip ?_
    refine wthen ?_
    refine wren (fun ρ170 eρ170 => ?_)
    have h171 : opd ρ170 26 (.tmp 1) = .int .i64 a1 := (eρ170 1).trans h162
    have h172 : opd ρ170 26 (.tmp 2) = .pointer (some ⟨g1, 0 + 0, none⟩) := (eρ170 2).trans h163
    have h173 : opd ρ170 26 (.tmp 4) = .pointer (some ⟨g3, 0 + 0, none⟩) := (eρ170 4).trans h164
    have h174 : opd ρ170 26 (.tmp 5) = s159.v := (eρ170 5).trans h165
    have h175 : opd ρ170 26 (.tmp 7) = .int .i64 (i20 : Int) := (eρ170 7).trans h166
    clear eρ170
    refine wseq ?_
    refine wp_block ?_
    refine wseq ?_
    refine wreg ?_
    refine lv (v := .int .i64 (i20 : Int)) rfl (r_mv rfl h175) rfl ?_
    refine lv (v := .int .i64 (i20 : Int)) rfl (r_as rfl rfl) rfl ?_
    refine wend ?_
    refine wthen ?_
    refine wren (fun ρ176 eρ176 => ?_)
    have h177 : opd ρ176 26 (.tmp 1) = .int .i64 a1 := (eρ176 1).trans h171
    have h178 : opd ρ176 26 (.tmp 2) = .pointer (some ⟨g1, 0 + 0, none⟩) := (eρ176 2).trans h172
    have h179 : opd ρ176 26 (.tmp 4) = .pointer (some ⟨g3, 0 + 0, none⟩) := (eρ176 4).trans h173
    have h180 : opd ρ176 26 (.tmp 5) = s159.v := (eρ176 5).trans h174
    have h181 : opd ρ176 26 (.tmp 6) = .int .i64 (i20 : Int) := eρ176 6
    have h182 : opd ρ176 26 (.tmp 7) = .int .i64 (i20 : Int) := (eρ176 7).trans h175
    clear eρ176
    refine dstG (H0 := H161) (L0 := keepL [true, true, true] [.cb g1 [ckV flB a0] 29, .cb g3 [ckV flB (Vec.rep 32 0)] 29, .own s159 29 32 gg160]) [12] mixed rfl (by repeat (first | exact Pan.body | refine Pan.then ?_ | refine Pan.inBlock ?_ | refine Pan.noGoto ?_ | refine Pan.pure ?_)) hI (hI.good.weakm _ (Hle.refl _) rfl) ?_
    intro w183 hI hP
    refine dp (v := s159.v) 0 (by kernel_rfl) rfl rfl (fun _ => r_mv rfl h180) rfl hP ?_
    refine dp (v := .int .i64 a1) 2 (by kernel_rfl) rfl rfl (fun _ => r_mv rfl h177) rfl hP ?_
    refine dp (v := .int .i64 (i20 : Int)) 3 (by kernel_rfl) rfl rfl (fun _ => r_mv rfl h181) rfl hP ?_
    refine dp (v := .int .i64 a1) 7 (by kernel_rfl) rfl rfl (fun _ => r_mv rfl h177) rfl hP ?_
    refine dp (v := .int .i64 (i20 : Int)) 8 (by kernel_rfl) rfl rfl (fun _ => r_mv rfl h181) rfl hP ?_
    refine dr (v := .agg (flat [ckV flB a0]).toArray) 1 (by kernel_rfl) rfl rfl (hI.good.weakm [true, true, true] (Hle.refl _) rfl) (fun _ hG => r_cla (off := 0) (p := 0) (m := 1) (hG.ca 0 rfl) rfl ag29 h178 rfl rfl) rfl hP ?_
    refine dr (v := .agg (flat [ckV flB a0]).toArray) 6 (by kernel_rfl) rfl rfl (hI.good.weakm [true, true, true] (Hle.refl _) rfl) (fun _ hG => r_cla (off := 0) (p := 0) (m := 1) (hG.ca 0 rfl) rfl ag29 h178 rfl rfl) rfl hP ?_
    obtain ⟨x184, hx184, hF⟩ := Option.bind_eq_some_iff.1 hF
    have hsp187 := spec_143 hx184 (hT.mono hleH161) (hI.part 0) 
    refine dfc 4 ([]) ([.cb g1 [ckV flB a0] 29, .cb g3 [ckV flB (Vec.rep 32 0)] 29, .own s159 29 32 gg160]) (args := [.agg (flat [ckV flB a0]).toArray, .int .i64 a1, .int .i64 (i20 : Int), .int .i64 0]) fc143 (by kernel_rfl) rfl rfl rfl rfl rfl hI (argc rfl (argc rfl (argc rfl (argc rfl rfl)))) (hsp187) ?_
    rintro _ H185 _ w186 ⟨rfl, rfl⟩ hleH185 hI
    replace hI : Inv B w186 H185 [.cb g1 [ckV flB a0] 29, .cb g3 [ckV flB (Vec.rep 32 0)] 29, .own s159 29 32 gg160] := hI
    refine ⟨(hI.good.weakm [true, true, true] hleH185 rfl), ?_⟩
    obtain ⟨x188, hx188, hF⟩ := Option.bind_eq_some_iff.1 hF
    have hsp191 := spec_104 hx188 ((hT.mono hleH161).mono hleH185) (hI.part 0) 
    refine dfc 5 ([]) ([.cb g1 [ckV flB a0] 29, .cb g3 [ckV flB (Vec.rep 32 0)] 29, .own s159 29 32 gg160]) (args := [.agg (flat [ckV flB x184]).toArray]) fc104 (by kernel_rfl) rfl rfl rfl rfl rfl hI (argc rfl rfl) (hsp191) ?_
    rintro _ H189 _ w190 ⟨rfl, rfl⟩ hleH189 hI
    replace hI : Inv B w190 H189 [.cb g1 [ckV flB a0] 29, .cb g3 [ckV flB (Vec.rep 32 0)] 29, .own s159 29 32 gg160] := hI
    refine ⟨(hI.good.weakm [true, true, true] (hleH185.trans hleH189) rfl), ?_⟩
    obtain ⟨x192, hx192, hF⟩ := Option.bind_eq_some_iff.1 hF
    have hsp195 := spec_143 hx192 (((hT.mono hleH161).mono hleH185).mono hleH189) (hI.part 0) 
    refine dfc 9 ([]) ([.cb g1 [ckV flB a0] 29, .cb g3 [ckV flB (Vec.rep 32 0)] 29, .own s159 29 32 gg160]) (args := [.agg (flat [ckV flB a0]).toArray, .int .i64 a1, .int .i64 (i20 : Int), .int .i64 1]) fc143 (by kernel_rfl) rfl rfl rfl rfl rfl hI (argc rfl (argc rfl (argc rfl (argc rfl rfl)))) (hsp195) ?_
    rintro _ H193 _ w194 ⟨rfl, rfl⟩ hleH193 hI
    replace hI : Inv B w194 H193 [.cb g1 [ckV flB a0] 29, .cb g3 [ckV flB (Vec.rep 32 0)] 29, .own s159 29 32 gg160] := hI
    refine ⟨(hI.good.weakm [true, true, true] ((hleH185.trans hleH189).trans hleH193) rfl), ?_⟩
    obtain ⟨x196, hx196, hF⟩ := Option.bind_eq_some_iff.1 hF
    have hsp199 := spec_104 hx196 ((((hT.mono hleH161).mono hleH185).mono hleH189).mono hleH193) (hI.part 0) 
    refine dfc 10 ([]) ([.cb g1 [ckV flB a0] 29, .cb g3 [ckV flB (Vec.rep 32 0)] 29, .own s159 29 32 gg160]) (args := [.agg (flat [ckV flB x192]).toArray]) fc104 (by kernel_rfl) rfl rfl rfl rfl rfl hI (argc rfl rfl) (hsp199) ?_
    rintro _ H197 _ w198 ⟨rfl, rfl⟩ hleH197 hI
    replace hI : Inv B w198 H197 [.cb g1 [ckV flB a0] 29, .cb g3 [ckV flB (Vec.rep 32 0)] 29, .own s159 29 32 gg160] := hI
    refine ⟨(hI.good.weakm [true, true, true] (((hleH185.trans hleH189).trans hleH193).trans hleH197) rfl), ?_⟩
    refine de 11 (by kernel_rfl) rfl rfl rfl (l_bs (t := (Fl.ty (flV flB 32))) (vs := [.agg (flat [ckV flB x188]).toArray, .agg (flat [ckV flB x196]).toArray]) (xs := [x188, x196]) hI rfl sl27 inf29 rfl rfl (argc rfl (argc rfl rfl)) (.cons rfl rfl (.cons rfl rfl .nil)) rfl) rfl ?_
    rintro _ w202 ⟨s200, H201, rfl, hI, hleH201, hs200, hfs200, hgs200⟩
    refine ⟨(hI.good.weakm [true, true, true] ((((hleH185.trans hleH189).trans hleH193).trans hleH197).trans hleH201) rfl), ?_⟩
    obtain ⟨x203, hx203, hF⟩ := Option.bind_eq_some_iff.1 hF
    refine del 12 (by kernel_rfl) rfl rfl rfl (l_app (t := (Fl.ty (flV flB 32))) hI 2 rfl rfl sl27 inf29 rfl rfl rfl rfl (((((hs159.mono hleH185).mono hleH189).mono hleH193).mono hleH197).mono hleH201) hs200 (appI_some hx203).1) rfl ?_
    rintro _ w207 ⟨s204, H205, gg206, rfl, hI, hleH205, hs204⟩
    rw [← (appI_some hx203).2] at hs204
    replace hI : Inv B w207 H205 [.cb g1 [ckV flB a0] 29, .cb g3 [ckV flB (Vec.rep 32 0)] 29, .own s204 29 32 gg206] := hI
    refine dp (v := s204.v) 13 (by kernel_rfl) rfl rfl (fun _ => r_as rfl rfl) rfl hP ?_
    refine dend (by kernel_rfl) ?_
    refine inN ?_
    refine wthen ?_
    refine wren (fun ρ208 eρ208 => ?_)
    have h209 : opd ρ208 26 (.tmp 1) = .int .i64 a1 := (eρ208 1).trans h177
    have h210 : opd ρ208 26 (.tmp 2) = .pointer (some ⟨g1, 0 + 0, none⟩) := (eρ208 2).trans h178
    have h211 : opd ρ208 26 (.tmp 4) = .pointer (some ⟨g3, 0 + 0, none⟩) := (eρ208 4).trans h179
    have h212 : opd ρ208 26 (.tmp 5) = s204.v := eρ208 5
    have h213 : opd ρ208 26 (.tmp 7) = .int .i64 (i20 : Int) := (eρ208 7).trans h182
    clear eρ208
    refine wreg ?_
    refine lv (v := .int .i64 ((i20 + 1 : Nat) : Int)) rfl (r_addn rfl h213 rfl hlt20) rfl ?_
    refine lv (v := .int .i64 ((i20 + 1 : Nat) : Int)) rfl (r_mv rfl rfl) rfl ?_
    refine wend ?_
    obtain rfl := Option.some.inj hF
    exact ⟨k20, x203, _, rfl, rfl, ⟨H205, s204, gg206, ((((((hleH161.trans hleH185).trans hleH189).trans hleH193).trans hleH197).trans hleH201).trans hleH205), h209, h210, h211, h212, rfl, hs204, hI⟩, forK_inl hy20 hb20⟩
  · skip
    have hbhc169 : (decide ((i20 : Int) < 32)) = false := decide_eq_false hc169
    obtain rfl : k20 = 0 := by omega
    obtain rfl := forK_end hy20
    have hF := hF20
    try dsimp only at hF
    refine wcF ((show opd _ _ _ = _ from rfl).trans (congrArg Value.bool hbhc169)) ?_
    refine wp_exit ?_
    refine thE ?_
    refine thE ?_
    refine inX ?_
    refine wthen ?_
    refine wren (fun ρ214 eρ214 => ?_)
    have h215 : opd ρ214 26 (.tmp 4) = .pointer (some ⟨g3, 0 + 0, none⟩) := (eρ214 4).trans h164
    have h216 : opd ρ214 26 (.tmp 5) = s159.v := (eρ214 5).trans h165
    clear eρ214
    refine wseq ?_
    refine wreg ?_
    refine lv (v := s159.v) rfl (r_mv rfl h216) rfl ?_
    obtain ⟨x217, hx217, hF⟩ := Option.bind_eq_some_iff.1 hF
    have hsp220 := spec_106 hx217 (hT.mono hleH161) (hI.part 0) hs159
    refine fc ([]) ([.cb g1 [ckV flB a0] 29, .cb g3 [ckV flB (Vec.rep 32 0)] 29, .own s159 29 32 gg160]) (args := [s159.v]) fc106 rfl rfl rfl hI (argc rfl rfl) (hsp220) ?_
    rintro _ H218 _ w219 ⟨rfl, rfl⟩ hleH218 hI
    replace hI : Inv B w219 H218 [.cb g1 [ckV flB a0] 29, .cb g3 [ckV flB (Vec.rep 32 0)] 29, .own s159 29 32 gg160] := hI
    refine lst rfl (l_st (off := 0) (p := 0) (m := 1) (new := [ckV flB x217]) hI 1 rfl rfl sz29 h215 rfl rfl rfl rfl rfl) rfl ?_
    intro w221 hI
    replace hI : Inv B w221 H218 [.cb g1 [ckV flB a0] 29, .cb g3 [ckV flB x217] 29, .own s159 29 32 gg160] := hI
    refine wend ?_
    refine wthen ?_
    refine wren (fun ρ222 eρ222 => ?_)
    have h223 : opd ρ222 26 (.tmp 4) = .pointer (some ⟨g3, 0 + 0, none⟩) := (eρ222 4).trans h215
    clear eρ222
    refine wp_ret ?_
    obtain rfl := Option.some.inj hF
    subst hB
    refine finR (rs := [.cell 4 29]) (vs := [.agg (flat [ckV flB x217]).toArray]) rfl ⟨⟨_, h223, ld_agg (hI.good.ca 1 rfl) ag29 rfl⟩, trivial⟩ ?_
    exact hI.fin 0 ⟨rfl, rfl⟩
noncomputable def M_keys_New (a0 : Vec UInt8 32) (a1 : Int) : Option ((Option Keys_Tree) × Int) := (if a1 < 0 then some (none, 1) else (if (6 : Int) < a1 then some (none, 1) else (if (0 : Int) ≤ a1 then ((forK (fun (i34 : Nat) (σ34 : (List (Vec UInt8 32))) => (((M_once_Public a0 (i34 : Int)).bind fun x165 => ((M_keys_leaf x165).bind fun x169 => ((appI 32 σ34 [x169]).bind fun x176 => some (.inl x176)))) : Option ((List (Vec UInt8 32)) ⊕ ((Option Keys_Tree) × Int)))) ((shlI (1 : Int) a1 : Int).toNat) 0 []).bind fun y => match y with | .inl σ34 => some ((some (⟨a0, a1, σ34⟩ : Keys_Tree)), 0) | .inr r => some r) else none)))
set_option maxHeartbeats 4000000 in
theorem spec_52 {w : World} {H : Hp} {a0 : Vec UInt8 32} {a1 : Int}  {r : (Option Keys_Tree) × Int} (hF : M_keys_New a0 a1 = some r) (hT : Tab H) (hG : Good w H [])  :
    Fine Tryd.prog 52 [.agg (flat [ckV flB a0]).toArray, .int .i64 a1] w H [] (fun H' v L' => (r.1 = none ∧ v = .tuple #[.pointer none, .int .i64 r.2] ∧ L' = []) ∨ (∃ t : Keys_Tree, ∃ s901 : Sv, ∃ g900 : Nat, r.1 = some t ∧ v = .tuple #[.pointer (some ⟨g900, 0 + 0, none⟩), .int .i64 r.2] ∧ Sl (Fl.ty (flV flB 32)) H' s901 t.leaves_ ∧ L' = [.cb g900 [ckV flB t.seed_, ckI t.height_, ckL s901] 168])) := by
  unfold M_keys_New at hF
  unfold Fine
  obtain ⟨B, hB⟩ : ∃ B : Base, B = ⟨w, H, blks []⟩ := ⟨_, rfl⟩
  have hI : Inv B w H [] := by rw [hB]; exact Inv.start hG
  refine enter (n := 38) (args := [.agg (flat [ckV flB a0]).toArray, .int .i64 a1]) Tryd.func52 rfl Tryd.ntmps52 (Nat.le_of_ble_eq_true rfl) ?_
  refine wseq ?_
  refine wreg ?_
  refine le rfl (l_box (cks := [ckV flB a0]) hI rfl rfl rfl) rfl ?_
  rintro _ w2 ⟨g1, rfl, hI⟩
  replace hI : Inv B w2 H [.cb g1 [ckV flB a0] 29] := hI
  refine lv (v := .pointer none) rfl (r_as rfl rfl) rfl ?_
  refine lv (v := .int .i64 0) rfl (r_as rfl rfl) rfl ?_
  refine wend ?_
  refine wthen ?_
  refine wren (fun ρ3 eρ3 => ?_)
  have h4 : opd ρ3 38 (.tmp 1) = .int .i64 a1 := eρ3 1
  have h5 : opd ρ3 38 (.tmp 2) = .pointer (some ⟨g1, 0 + 0, none⟩) := eρ3 2
  clear eρ3
  refine wseq ?_
  refine wseq ?_
  refine wreg ?_
  refine lv (v := .int .i64 a1) rfl (r_mv rfl h4) rfl ?_
  refine lv (v := .bool (decide (a1 < 0))) rfl (r_lss rfl rfl rfl rfl) rfl ?_
  by_cases hc6 : a1 < 0
  · skip
    rw [if_pos hc6] at hF
    have hbhc6 : (decide (a1 < 0)) = true := decide_eq_true hc6
    refine lv (v := .bool true) rfl (r_mv rfl ((show opd _ _ _ = _ from rfl).trans (congrArg Value.bool hbhc6))) rfl ?_
    with_reducible refine lx (d := 11) (by kernel_rfl) (by kernel_rfl) ?_
    with_reducible refine lx (d := 12) (by kernel_rfl) (by kernel_rfl) ?_
    refine lv (v := .bool true) rfl (r_pkT rfl rfl rfl) rfl ?_
    refine wend ?_
    refine wthen ?_
    refine wren (fun ρ7 eρ7 => ?_)
    have h8 : opd ρ7 38 (.tmp 1) = .int .i64 a1 := (eρ7 1).trans h4
    have h9 : opd ρ7 38 (.tmp 2) = .pointer (some ⟨g1, 0 + 0, none⟩) := (eρ7 2).trans h5
    have h10 : opd ρ7 38 (.tmp 13) = .bool true := eρ7 13
    clear eρ7
    refine wcT h10 ?_
    refine wseq ?_
    refine wreg ?_
    refine lv (v := .pointer none) rfl (r_as rfl rfl) rfl ?_
    refine lv (v := .int .i64 1) rfl (r_as rfl rfl) rfl ?_
    refine wend ?_
    refine wthen ?_
    refine wren (fun ρ11 eρ11 => ?_)
    have h12 : opd ρ11 38 (.tmp 4) = .pointer none := eρ11 4
    have h13 : opd ρ11 38 (.tmp 5) = .int .i64 1 := eρ11 5
    clear eρ11
    refine wp_ret ?_
    refine thR ?_
    obtain rfl := Option.some.inj hF
    subst hB
    refine finR (rs := [.tmp 4, .tmp 5]) (vs := [.pointer none, .int .i64 1]) rfl ⟨h12, h13, trivial⟩ ?_
    exact hI.fin 0 (.inl ⟨rfl, rfl, rfl⟩)
  · skip
    rw [if_neg hc6] at hF
    have hbhc6 : (decide (a1 < 0)) = false := decide_eq_false hc6
    refine lv (v := .bool false) rfl (r_mv rfl ((show opd _ _ _ = _ from rfl).trans (congrArg Value.bool hbhc6))) rfl ?_
    refine lv (v := .int .i64 a1) rfl (r_mv rfl h4) rfl ?_
    refine lv (v := .bool (decide ((6 : Int) < a1))) rfl (r_gtr rfl rfl rfl rfl) rfl ?_
    refine lv (v := .bool (decide ((6 : Int) < a1))) rfl (r_pkF rfl rfl rfl) rfl ?_
    refine wend ?_
    refine wthen ?_
    refine wren (fun ρ14 eρ14 => ?_)
    have h15 : opd ρ14 38 (.tmp 1) = .int .i64 a1 := (eρ14 1).trans h4
    have h16 : opd ρ14 38 (.tmp 2) = .pointer (some ⟨g1, 0 + 0, none⟩) := (eρ14 2).trans h5
    have h17 : opd ρ14 38 (.tmp 13) = .bool (decide ((6 : Int) < a1)) := eρ14 13
    clear eρ14
    by_cases hc18 : (6 : Int) < a1
    · skip
      rw [if_pos hc18] at hF
      have hbhc18 : (decide ((6 : Int) < a1)) = true := decide_eq_true hc18
      refine wcT (h17.trans (congrArg Value.bool hbhc18)) ?_
      refine wseq ?_
      refine wreg ?_
      refine lv (v := .pointer none) rfl (r_as rfl rfl) rfl ?_
      refine lv (v := .int .i64 1) rfl (r_as rfl rfl) rfl ?_
      refine wend ?_
      refine wthen ?_
      refine wren (fun ρ19 eρ19 => ?_)
      have h20 : opd ρ19 38 (.tmp 4) = .pointer none := eρ19 4
      have h21 : opd ρ19 38 (.tmp 5) = .int .i64 1 := eρ19 5
      clear eρ19
      refine wp_ret ?_
      refine thR ?_
      obtain rfl := Option.some.inj hF
      subst hB
      refine finR (rs := [.tmp 4, .tmp 5]) (vs := [.pointer none, .int .i64 1]) rfl ⟨h20, h21, trivial⟩ ?_
      exact hI.fin 0 (.inl ⟨rfl, rfl, rfl⟩)
    · skip
      rw [if_neg hc18] at hF
      have hbhc18 : (decide ((6 : Int) < a1)) = false := decide_eq_false hc18
      refine wcF (h17.trans (congrArg Value.bool hbhc18)) ?_
      refine wp_skip ?_
      refine wthen ?_
      refine wseq ?_
      refine wreg ?_
      refine lv (v := .agg (flat [ckV flB a0]).toArray) rfl (r_cla (off := 0) (p := 0) (m := 1) (hI.good.ca 0 rfl) rfl ag29 h16 rfl rfl) rfl ?_
      refine lv (v := .int .i64 a1) rfl (r_mv rfl h15) rfl ?_
      refine lv (v := .agg (flat [ckV flB a0, ckI a1, ckL Sv.nil]).toArray) rfl (r_bldk (z := [[ckV flB (Vec.rep 32 0)], [ckI 0], [ckL Sv.nil]]) (pc := [(0, [ckV flB a0]), (1, [ckI a1])]) rfl zg168 bf168 rfl (argc (congrArg Value.cells rfl) (argc (congrArg Value.cells rfl) rfl)) rfl rfl) rfl ?_
      refine le rfl (l_box (cks := [ckV flB a0, ckI a1, ckL Sv.nil]) hI rfl rfl rfl) rfl ?_
      rintro _ w23 ⟨g22, rfl, hI⟩
      replace hI : Inv B w23 H [.cb g1 [ckV flB a0] 29, .cb g22 [ckV flB a0, ckI a1, ckL Sv.nil] 168] := hI
      refine lv (v := .pointer (some ⟨g22, 0 + 0, none⟩)) rfl (r_as rfl rfl) rfl ?_
      refine wend ?_
      refine wthen ?_
      refine wren (fun ρ24 eρ24 => ?_)
      have h25 : opd ρ24 38 (.tmp 1) = .int .i64 a1 := (eρ24 1).trans h15
      have h26 : opd ρ24 38 (.tmp 2) = .pointer (some ⟨g1, 0 + 0, none⟩) := (eρ24 2).trans h16
      have h27 : opd ρ24 38 (.tmp 6) = .pointer (some ⟨g22, 0 + 0, none⟩) := eρ24 6
      clear eρ24
      refine wseq ?_
      refine wseq ?_
      refine wreg ?_
      refine lv (v := .int .i64 a1) rfl (r_mv rfl h25) rfl ?_
      by_cases hc28 : (0 : Int) ≤ a1
      · rw [if_pos hc28] at hF
        refine lv (v := .int .i64 (shlI (1 : Int) a1)) rfl (r_shlI rfl rfl rfl hc28) rfl ?_
        refine lv (v := .int .i64 0) rfl (r_mv rfl rfl) rfl ?_
        refine wend ?_
        refine wthen ?_
        refine wren (fun ρ29 eρ29 => ?_)
        have h30 : opd ρ29 38 (.tmp 2) = .pointer (some ⟨g1, 0 + 0, none⟩) := (eρ29 2).trans h26
        have h31 : opd ρ29 38 (.tmp 6) = .pointer (some ⟨g22, 0 + 0, none⟩) := (eρ29 6).trans h27
        have h32 : opd ρ29 38 (.tmp 19) = .int .i64 (shlI (1 : Int) a1) := eρ29 19
        have h33 : opd ρ29 38 (.tmp 20) = .int .i64 0 := eρ29 20
        clear eρ29
        refine wp_block ?_
        replace hI := Inv.full (e := 29) (sz := 32) hI (show Sv.nil.n = Sv.nil.c from rfl)
        replace hI : Inv B w23 H [.cb g1 [ckV flB a0] 29, .cb g22 [ckV flB a0, ckI a1, ckL Sv.nil] 168, .own Sv.nil 29 32 none] := hI
        have hbd34 : shlI (1 : Int) a1 ≤ 9223372036854775807 := by first | (simp only [wI, shlI]; exact (i64_range _).2) | omega
        obtain ⟨y34, hy34, hF34⟩ := Option.bind_eq_some_iff.1 hF
        refine wfor (n := 38) ((shlI (1 : Int) a1 : Int).toNat) _ (fun (i34 : Nat) (σ34 : (List (Vec UInt8 32))) ρ' w' => ∃ (H145 : Hp) (s143 : Sv) (gg144 : Option Nat), Hle H H145 ∧ opd ρ' 38 (.tmp 2) = .pointer (some ⟨g1, 0 + 0, none⟩) ∧ opd ρ' 38 (.tmp 6) = .pointer (some ⟨g22, 0 + 0, none⟩) ∧ opd ρ' 38 (.tmp 19) = .int .i64 (shlI (1 : Int) a1) ∧ opd ρ' 38 (.tmp 20) = .int .i64 (i34 : Int) ∧ Sl (Fl.ty (flV flB 32)) H145 s143 σ34 ∧ Inv B w' H145 [.cb g1 [ckV flB a0] 29, .cb g22 [ckV flB a0, ckI a1, ckL s143] 168, .own s143 29 32 gg144]) hy34 ⟨H, Sv.nil, none, (Hle.refl _), h30, h31, h32, h33, (Sl.nil _ _), hI⟩ ?_
        rintro k34 i34 σ34 ρ150 w151 hk34 ⟨H145, s143, gg144, hleH145, h146, h147, h148, h149, hs143, hI⟩ hy34
        refine wseq ?_
        refine wreg ?_
        refine lv (v := .bool (decide ((i34 : Int) < (shlI (1 : Int) a1)))) rfl (r_lss rfl h149 h148 rfl) rfl ?_
        refine wend ?_
        refine wthen ?_
        refine wseq ?_
        by_cases hc152 : (i34 : Int) < (shlI (1 : Int) a1)
        · skip
          have hbhc152 : (decide ((i34 : Int) < (shlI (1 : Int) a1))) = true := decide_eq_true hc152
          obtain ⟨k34, rfl⟩ : ∃ m, k34 = m + 1 := ⟨k34 - 1, by omega⟩
          obtain ⟨z34, hb34⟩ := forK_body hy34
          have hF := hb34
          have hlt34 : ((i34 : Nat) : Int) + 1 ≤ 9223372036854775807 := by omega
          refine wcT ((show opd _ _ _ = _ from rfl).trans (congrArg Value.bool hbhc152)) ?_
          refine wp_skip ?_
          refine wthen ?_
          refine wren (fun ρ153 eρ153 => ?_)
          have h154 : opd ρ153 38 (.tmp 2) = .pointer (some ⟨g1, 0 + 0, none⟩) := (eρ153 2).trans h146
          have h155 : opd ρ153 38 (.tmp 6) = .pointer (some ⟨g22, 0 + 0, none⟩) := (eρ153 6).trans h147
          have h156 : opd ρ153 38 (.tmp 19) = .int .i64 (shlI (1 : Int) a1) := (eρ153 19).trans h148
          have h157 : opd ρ153 38 (.tmp 20) = .int .i64 (i34 : Int) := (eρ153 20).trans h149
          clear eρ153
          refine wseq ?_
          refine wp_block ?_
          refine wseq ?_
          refine wreg ?_
          refine lv (v := .int .i64 (i34 : Int)) rfl (r_mv rfl h157) rfl ?_
          refine lv (v := .int .i64 (i34 : Int)) rfl (r_as rfl rfl) rfl ?_
          refine wend ?_
          refine wthen ?_
          refine wren (fun ρ158 eρ158 => ?_)
          have h159 : opd ρ158 38 (.tmp 2) = .pointer (some ⟨g1, 0 + 0, none⟩) := (eρ158 2).trans h154
          have h160 : opd ρ158 38 (.tmp 6) = .pointer (some ⟨g22, 0 + 0, none⟩) := (eρ158 6).trans h155
          have h161 : opd ρ158 38 (.tmp 7) = .int .i64 (i34 : Int) := eρ158 7
          have h162 : opd ρ158 38 (.tmp 19) = .int .i64 (shlI (1 : Int) a1) := (eρ158 19).trans h156
          have h163 : opd ρ158 38 (.tmp 20) = .int .i64 (i34 : Int) := (eρ158 20).trans h157
          clear eρ158
          refine dstG (H0 := H145) (L0 := keepL [true, true, true] [.cb g1 [ckV flB a0] 29, .cb g22 [ckV flB a0, ckI a1, ckL s143] 168, .own s143 29 32 gg144]) [10, 13] mixed rfl (by repeat (first | exact Pan.body | refine Pan.then ?_ | refine Pan.inBlock ?_ | refine Pan.noGoto ?_ | refine Pan.pure ?_)) hI (hI.good.weakm _ (Hle.refl _) rfl) ?_
          intro w164 hI hP
          refine dp (v := .pointer (some ⟨g22, 0 + 0, none⟩)) 0 (by kernel_rfl) rfl rfl (fun _ => r_mv rfl h160) rfl hP ?_
          refine dp (v := .pointer (some ⟨g22, 0 + 0, none⟩)) 1 (by kernel_rfl) rfl rfl (fun _ => r_mv rfl h160) rfl hP ?_
          refine dp (v := .pointer (some ⟨g22, 0 + 0, none⟩)) 2 (by kernel_rfl) rfl rfl (fun _ => r_nilc rfl rfl) rfl hP ?_
          refine dp (v := .pointer (some ⟨g22, 0 + 33, none⟩)) 3 (by kernel_rfl) rfl rfl (fun _ => l_fa (j := 0) (i := 0) rfl fl168_2 rfl rfl) rfl hP ?_
          refine dp (v := .int .i64 (i34 : Int)) 6 (by kernel_rfl) rfl rfl (fun _ => r_mv rfl h161) rfl hP ?_
          refine dr (v := s143.v) 4 (by kernel_rfl) rfl rfl (hI.good.weakm [true, true, true] (Hle.refl _) rfl) (fun _ hG => r_cl1 (off := 33) (p := 2) (hG.ca 1 rfl) rfl sc27 rfl rfl rfl) rfl hP ?_
          refine dr (v := .agg (flat [ckV flB a0]).toArray) 5 (by kernel_rfl) rfl rfl (hI.good.weakm [true, true, true] (Hle.refl _) rfl) (fun _ hG => r_cla (off := 0) (p := 0) (m := 1) (hG.ca 0 rfl) rfl ag29 h159 rfl rfl) rfl hP ?_
          obtain ⟨x165, hx165, hF⟩ := Option.bind_eq_some_iff.1 hF
          have hsp168 := spec_95 hx165 (hT.mono hleH145) (hI.part 0) 
          refine dfc 7 ([]) ([.cb g1 [ckV flB a0] 29, .cb g22 [ckV flB a0, ckI a1, ckL s143] 168, .own s143 29 32 gg144]) (args := [.agg (flat [ckV flB a0]).toArray, .int .i64 (i34 : Int)]) fc95 (by kernel_rfl) rfl rfl rfl rfl rfl hI (argc rfl (argc rfl rfl)) (hsp168) ?_
          rintro _ H166 _ w167 ⟨rfl, rfl⟩ hleH166 hI
          replace hI : Inv B w167 H166 [.cb g1 [ckV flB a0] 29, .cb g22 [ckV flB a0, ckI a1, ckL s143] 168, .own s143 29 32 gg144] := hI
          refine ⟨(hI.good.weakm [true, true, true] hleH166 rfl), ?_⟩
          obtain ⟨x169, hx169, hF⟩ := Option.bind_eq_some_iff.1 hF
          have hsp172 := spec_61 hx169 ((hT.mono hleH145).mono hleH166) (hI.part 0) 
          refine dfc 8 ([]) ([.cb g1 [ckV flB a0] 29, .cb g22 [ckV flB a0, ckI a1, ckL s143] 168, .own s143 29 32 gg144]) (args := [.agg (flat [ckV flB x165]).toArray]) fc61 (by kernel_rfl) rfl rfl rfl rfl rfl hI (argc rfl rfl) (hsp172) ?_
          rintro _ H170 _ w171 ⟨rfl, rfl⟩ hleH170 hI
          replace hI : Inv B w171 H170 [.cb g1 [ckV flB a0] 29, .cb g22 [ckV flB a0, ckI a1, ckL s143] 168, .own s143 29 32 gg144] := hI
          refine ⟨(hI.good.weakm [true, true, true] (hleH166.trans hleH170) rfl), ?_⟩
          refine de 9 (by kernel_rfl) rfl rfl rfl (l_bs (t := (Fl.ty (flV flB 32))) (vs := [.agg (flat [ckV flB x169]).toArray]) (xs := [x169]) hI rfl sl27 inf29 rfl rfl (argc rfl rfl) (.cons rfl rfl .nil) rfl) rfl ?_
          rintro _ w175 ⟨s173, H174, rfl, hI, hleH174, hs173, hfs173, hgs173⟩
          refine ⟨(hI.good.weakm [true, true, true] ((hleH166.trans hleH170).trans hleH174) rfl), ?_⟩
          obtain ⟨x176, hx176, hF⟩ := Option.bind_eq_some_iff.1 hF
          refine del 10 (by kernel_rfl) rfl rfl rfl (l_app (t := (Fl.ty (flV flB 32))) hI 2 rfl rfl sl27 inf29 rfl rfl rfl rfl (((hs143.mono hleH166).mono hleH170).mono hleH174) hs173 (appI_some hx176).1) rfl ?_
          rintro _ w180 ⟨s177, H178, gg179, rfl, hI, hleH178, hs177⟩
          rw [← (appI_some hx176).2] at hs177
          replace hI : Inv B w180 H178 [.cb g1 [ckV flB a0] 29, .cb g22 [ckV flB a0, ckI a1, ckL s143] 168, .own s177 29 32 gg179] := hI
          refine dp (v := .pointer (some ⟨g22, 0 + 0, none⟩)) 11 (by kernel_rfl) rfl rfl (fun _ => r_nilc rfl rfl) rfl hP ?_
          refine dp (v := .pointer (some ⟨g22, 0 + 33, none⟩)) 12 (by kernel_rfl) rfl rfl (fun _ => l_fa (j := 0) (i := 0) rfl fl168_2 rfl rfl) rfl hP ?_
          refine dsl 13 (by kernel_rfl) rfl rfl rfl (l_st (off := 33) (p := 2) (m := 1) (new := [ckL s177]) hI 1 rfl rfl sz27 rfl rfl rfl rfl rfl rfl) rfl ?_
          intro w181 hI
          replace hI : Inv B w181 H178 [.cb g1 [ckV flB a0] 29, .cb g22 [ckV flB a0, ckI a1, ckL s177] 168, .own s177 29 32 gg179] := hI
          refine dend (by kernel_rfl) ?_
          refine inN ?_
          refine wthen ?_
          refine wren (fun ρ182 eρ182 => ?_)
          have h183 : opd ρ182 38 (.tmp 2) = .pointer (some ⟨g1, 0 + 0, none⟩) := (eρ182 2).trans h159
          have h184 : opd ρ182 38 (.tmp 6) = .pointer (some ⟨g22, 0 + 0, none⟩) := (eρ182 6).trans h160
          have h185 : opd ρ182 38 (.tmp 19) = .int .i64 (shlI (1 : Int) a1) := (eρ182 19).trans h162
          have h186 : opd ρ182 38 (.tmp 20) = .int .i64 (i34 : Int) := (eρ182 20).trans h163
          clear eρ182
          refine wreg ?_
          refine lv (v := .int .i64 ((i34 + 1 : Nat) : Int)) rfl (r_addn rfl h186 rfl hlt34) rfl ?_
          refine lv (v := .int .i64 ((i34 + 1 : Nat) : Int)) rfl (r_mv rfl rfl) rfl ?_
          refine wend ?_
          obtain rfl := Option.some.inj hF
          exact ⟨k34, x176, _, rfl, rfl, ⟨H178, s177, gg179, ((((hleH145.trans hleH166).trans hleH170).trans hleH174).trans hleH178), h183, h184, h185, rfl, hs177, hI⟩, forK_inl hy34 hb34⟩
        · skip
          have hbhc152 : (decide ((i34 : Int) < (shlI (1 : Int) a1))) = false := decide_eq_false hc152
          obtain rfl : k34 = 0 := by omega
          obtain rfl := forK_end hy34
          have hF := hF34
          try dsimp only at hF
          refine wcF ((show opd _ _ _ = _ from rfl).trans (congrArg Value.bool hbhc152)) ?_
          refine wp_exit ?_
          refine thE ?_
          refine thE ?_
          refine inX ?_
          refine wthen ?_
          refine wren (fun ρ187 eρ187 => ?_)
          have h188 : opd ρ187 38 (.tmp 6) = .pointer (some ⟨g22, 0 + 0, none⟩) := (eρ187 6).trans h147
          clear eρ187
          refine wseq ?_
          refine wreg ?_
          refine lv (v := .pointer (some ⟨g22, 0 + 0, none⟩)) rfl (r_mv rfl h188) rfl ?_
          refine lv (v := .pointer (some ⟨g22, 0 + 0, none⟩)) rfl (r_as rfl rfl) rfl ?_
          refine lv (v := .int .i64 0) rfl (r_as rfl rfl) rfl ?_
          refine wend ?_
          refine wthen ?_
          refine wren (fun ρ189 eρ189 => ?_)
          have h190 : opd ρ189 38 (.tmp 4) = .pointer (some ⟨g22, 0 + 0, none⟩) := eρ189 4
          have h191 : opd ρ189 38 (.tmp 5) = .int .i64 0 := eρ189 5
          clear eρ189
          refine wp_ret ?_
          obtain rfl := Option.some.inj hF
          replace hI := hI.bring 1 rfl
          replace hI : Inv B w151 H145 [.cb g22 [ckV flB a0, ckI a1, ckL s143] 168, .cb g1 [ckV flB a0] 29, .own s143 29 32 gg144] := hI
          subst hB
          refine finR (rs := [.tmp 4, .tmp 5]) (vs := [.pointer (some ⟨g22, 0 + 0, none⟩), .int .i64 0]) rfl ⟨h190, h191, trivial⟩ ?_
          exact hI.fin 1 (.inr ⟨_, s143, g22, rfl, rfl, hs143, rfl⟩)
      · rw [if_neg hc28] at hF; cases hF
noncomputable def M_tree_up (a0 : List (Vec UInt8 32)) : Option ((List (Vec UInt8 32))) := (runL (fun (σ11 : (List (Vec UInt8 32)) × Int) => ((if σ11.2 < (a0.length : Int) then (if (wI (σ11.2 + 1)) = (a0.length : Int) then ((ixI a0 σ11.2).bind fun x176 => ((appI 32 σ11.1 [x176]).bind fun x185 => ((some x185).map Sum.inr))) else ((ixI a0 σ11.2).bind fun x196 => ((ixI a0 (wI (σ11.2 + 1))).bind fun x202 => ((M_sha_Pair 1 x196 x202).bind fun x208 => ((appI 32 σ11.1 [x208]).bind fun x215 => some (.inl (x215, wI (σ11.2 + 2)))))))) else ((some σ11.1).map Sum.inr)) : Option (((List (Vec UInt8 32)) × Int) ⊕ (List (Vec UInt8 32))))) ([], 0))
set_option maxHeartbeats 4000000 in
theorem spec_144 {w : World} {H : Hp} {a0 : List (Vec UInt8 32)} {s1 : Sv} {r : (List (Vec UInt8 32))} (hF : M_tree_up a0 = some r) (hT : Tab H) (hG : Good w H []) (hs1 : Sl (Fl.ty (flV flB 32)) H s1 a0) :
    Fine Tryd.prog 144 [s1.v] w H [] (fun H' v L' => ∃ s900 : Sv, v = s900.v ∧ Sl (Fl.ty (flV flB 32)) H' s900 r ∧ L' = []) := by
  unfold M_tree_up at hF
  unfold Fine
  obtain ⟨B, hB⟩ : ∃ B : Base, B = ⟨w, H, blks []⟩ := ⟨_, rfl⟩
  have hI : Inv B w H [] := by rw [hB]; exact Inv.start hG
  refine enter (n := 37) (args := [s1.v]) Tryd.func144 rfl Tryd.ntmps144 (Nat.le_of_ble_eq_true rfl) ?_
  refine wseq ?_
  refine wreg ?_
  refine lv (v := Sv.nil.v) rfl (r_as rfl rfl) rfl ?_
  refine wend ?_
  refine wthen ?_
  refine wren (fun ρ2 eρ2 => ?_)
  have h3 : opd ρ2 37 (.tmp 0) = s1.v := eρ2 0
  clear eρ2
  refine wseq ?_
  refine wreg ?_
  refine lv (v := Sv.nil.v) rfl (r_as rfl rfl) rfl ?_
  refine wend ?_
  refine wthen ?_
  refine wren (fun ρ4 eρ4 => ?_)
  have h5 : opd ρ4 37 (.tmp 0) = s1.v := (eρ4 0).trans h3
  have h6 : opd ρ4 37 (.tmp 3) = Sv.nil.v := eρ4 3
  clear eρ4
  refine wseq ?_
  refine wseq ?_
  refine wreg ?_
  refine lv (v := .int .i64 0) rfl (r_as rfl rfl) rfl ?_
  refine wend ?_
  refine wthen ?_
  refine wren (fun ρ7 eρ7 => ?_)
  have h8 : opd ρ7 37 (.tmp 0) = s1.v := (eρ7 0).trans h5
  have h9 : opd ρ7 37 (.tmp 3) = Sv.nil.v := (eρ7 3).trans h6
  have h10 : opd ρ7 37 (.tmp 4) = .int .i64 0 := eρ7 4
  clear eρ7
  refine wp_block ?_
  replace hI := Inv.full (e := 29) (sz := 32) hI (show Sv.nil.n = Sv.nil.c from rfl)
  replace hI : Inv B w H [.own Sv.nil 29 32 none] := hI
  refine wrun (n := 37) _ (fun (σ11 : (List (Vec UInt8 32)) × Int) ρ' w' => ∃ (H158 : Hp) (s156 : Sv) (gg157 : Option Nat), Hle H H158 ∧ opd ρ' 37 (.tmp 0) = s1.v ∧ opd ρ' 37 (.tmp 3) = s156.v ∧ opd ρ' 37 (.tmp 4) = .int .i64 σ11.2 ∧ Sl (Fl.ty (flV flB 32)) H158 s156 σ11.1 ∧ Inv B w' H158 [.own s156 29 32 gg157]) hF ⟨H, Sv.nil, none, (Hle.refl _), h8, h9, h10, (Sl.nil _ _), hI⟩ ?_
  rintro k11 σ11 ρ162 w163 ⟨H158, s156, gg157, hleH158, h159, h160, h161, hs156, hI⟩ hy11
  obtain ⟨z11, hb11⟩ := iterK_body hy11
  have hF := hb11
  refine wseq ?_
  refine wseq ?_
  refine wreg ?_
  refine lv (v := .int .i64 σ11.2) rfl (r_mv rfl h161) rfl ?_
  refine lv (v := s1.v) rfl (r_mv rfl h159) rfl ?_
  refine lv (v := .int .i64 (a0.length : Int)) rfl (r_lenS rfl sl27 rfl (hs1.mono hleH158)) rfl ?_
  refine lv (v := .bool (decide (σ11.2 < (a0.length : Int)))) rfl (r_lss rfl rfl rfl rfl) rfl ?_
  refine wend ?_
  refine wthen ?_
  refine wren (fun ρ164 eρ164 => ?_)
  have h165 : opd ρ164 37 (.tmp 0) = s1.v := (eρ164 0).trans h159
  have h166 : opd ρ164 37 (.tmp 3) = s156.v := (eρ164 3).trans h160
  have h167 : opd ρ164 37 (.tmp 4) = .int .i64 σ11.2 := (eρ164 4).trans h161
  have h168 : opd ρ164 37 (.tmp 8) = .bool (decide (σ11.2 < (a0.length : Int))) := eρ164 8
  clear eρ164
  by_cases hc169 : σ11.2 < (a0.length : Int)
  · skip
    rw [if_pos hc169] at hF
    have hbhc169 : (decide (σ11.2 < (a0.length : Int))) = true := decide_eq_true hc169
    refine wcT (h168.trans (congrArg Value.bool hbhc169)) ?_
    refine wp_skip ?_
    refine wthen ?_
    refine wseq ?_
    refine wp_block ?_
    refine wseq ?_
    refine wseq ?_
    refine wreg ?_
    refine lv (v := .int .i64 σ11.2) rfl (r_mv rfl h167) rfl ?_
    refine lv (v := .int .i64 (wI (σ11.2 + 1))) rfl (r_addw rfl rfl rfl) rfl ?_
    refine lv (v := s1.v) rfl (r_mv rfl h165) rfl ?_
    refine lv (v := .int .i64 (a0.length : Int)) rfl (r_lenS rfl sl27 rfl (hs1.mono hleH158)) rfl ?_
    refine lv (v := .bool (decide ((wI (σ11.2 + 1)) = (a0.length : Int)))) rfl (r_eql rfl rfl rfl rfl) rfl ?_
    refine wend ?_
    refine wthen ?_
    refine wren (fun ρ170 eρ170 => ?_)
    have h171 : opd ρ170 37 (.tmp 0) = s1.v := (eρ170 0).trans h165
    have h172 : opd ρ170 37 (.tmp 3) = s156.v := (eρ170 3).trans h166
    have h173 : opd ρ170 37 (.tmp 4) = .int .i64 σ11.2 := (eρ170 4).trans h167
    have h174 : opd ρ170 37 (.tmp 15) = .bool (decide ((wI (σ11.2 + 1)) = (a0.length : Int))) := eρ170 15
    clear eρ170
    by_cases hc175 : (wI (σ11.2 + 1)) = (a0.length : Int)
    · skip
      rw [if_pos hc175] at hF
      have hbhc175 : (decide ((wI (σ11.2 + 1)) = (a0.length : Int))) = true := decide_eq_true hc175
      refine wcT (h174.trans (congrArg Value.bool hbhc175)) ?_
      refine wseq ?_
      refine wreg ?_
      refine lv (v := s156.v) rfl (r_mv rfl h172) rfl ?_
      refine lv (v := s1.v) rfl (r_mv rfl h171) rfl ?_
      refine lv (v := .int .i64 σ11.2) rfl (r_mv rfl h173) rfl ?_
      obtain ⟨x176, hx176, hF⟩ := Option.bind_eq_some_iff.1 hF
      obtain ⟨b177, j178, hix179, hil180, hA181⟩ := (hs1.mono hleH158).ixf (ixI_some hx176).1
      replace hA181 : At H158 b177 j178 [ckV flB x176] := hA181
      refine lv (v := .pointer (some ⟨b177, j178 + 0, none⟩)) rfl (r_ixt rfl sl27 rfl rfl (ixI_some hx176).2 hix179 hil180) rfl ?_
      refine lv (v := .agg (flat [ckV flB x176]).toArray) rfl (r_cla (off := 0) (p := 0) (m := 1) (hA181.ca hI.good) rfl ag29 rfl rfl rfl) rfl ?_
      refine le rfl (l_bs (t := (Fl.ty (flV flB 32))) (vs := [.agg (flat [ckV flB x176]).toArray]) (xs := [x176]) hI rfl sl27 inf29 rfl rfl (argc rfl rfl) (.cons rfl rfl .nil) rfl) rfl ?_
      rintro _ w184 ⟨s182, H183, rfl, hI, hleH183, hs182, hfs182, hgs182⟩
      obtain ⟨x185, hx185, hF⟩ := Option.bind_eq_some_iff.1 hF
      refine le rfl (l_app (t := (Fl.ty (flV flB 32))) hI 0 rfl rfl sl27 inf29 rfl rfl rfl rfl (hs156.mono hleH183) hs182 (appI_some hx185).1) rfl ?_
      rintro _ w189 ⟨s186, H187, gg188, rfl, hI, hleH187, hs186⟩
      rw [← (appI_some hx185).2] at hs186
      replace hI : Inv B w189 H187 [.own s186 29 32 gg188] := hI
      refine lv (v := s186.v) rfl (r_as rfl rfl) rfl ?_
      refine wend ?_
      refine wthen ?_
      refine wren (fun ρ190 eρ190 => ?_)
      have h191 : opd ρ190 37 (.tmp 3) = s186.v := eρ190 3
      clear eρ190
      refine wp_exit ?_
      refine thE ?_
      refine inO rfl ?_
      refine thE ?_
      refine thE ?_
      obtain ⟨q192, hFn, hzq192⟩ := Option.map_eq_some_iff.1 hF
      clear hF
      have hy0 := iterK_inr hy11 (hb11.trans (congrArg some hzq192.symm))
      rw [← hy0] at hFn
      have hF := hFn
      clear hFn
      refine inX ?_
      refine wthen ?_
      refine wseq ?_
      refine wreg ?_
      refine lv (v := s186.v) rfl (r_mv rfl h191) rfl ?_
      refine lv (v := s186.v) rfl (r_as rfl rfl) rfl ?_
      refine wend ?_
      refine wthen ?_
      refine wren (fun ρ193 eρ193 => ?_)
      have h194 : opd ρ193 37 (.tmp 2) = s186.v := eρ193 2
      clear eρ193
      refine wp_ret ?_
      obtain rfl := Option.some.inj hF
      subst hB
      refine finR (rs := [.tmp 2]) (vs := [s186.v]) rfl ⟨h194, trivial⟩ ?_
      exact hI.fin 0 ⟨s186, rfl, hs186, rfl⟩
    · skip
      rw [if_neg hc175] at hF
      have hbhc175 : (decide ((wI (σ11.2 + 1)) = (a0.length : Int))) = false := decide_eq_false hc175
      refine wcF (h174.trans (congrArg Value.bool hbhc175)) ?_
      refine wp_skip ?_
      refine wthen ?_
      refine dstG (H0 := H158) (L0 := keepL [true] [.own s156 29 32 gg157]) [12] mixed rfl (by repeat (first | exact Pan.body | refine Pan.then ?_ | refine Pan.inBlock ?_ | refine Pan.noGoto ?_ | refine Pan.pure ?_)) hI (hI.good.weakm _ (Hle.refl _) rfl) ?_
      intro w195 hI hP
      refine dp (v := s156.v) 0 (by kernel_rfl) rfl rfl (fun _ => r_mv rfl h172) rfl hP ?_
      refine dp (v := s1.v) 1 (by kernel_rfl) rfl rfl (fun _ => r_mv rfl h171) rfl hP ?_
      refine dp (v := .int .i64 σ11.2) 2 (by kernel_rfl) rfl rfl (fun _ => r_mv rfl h173) rfl hP ?_
      obtain ⟨x196, hx196, hF⟩ := Option.bind_eq_some_iff.1 hF
      obtain ⟨b197, j198, hix199, hil200, hA201⟩ := (hs1.mono hleH158).ixf (ixI_some hx196).1
      replace hA201 : At H158 b197 j198 [ckV flB x196] := hA201
      refine dp (v := .pointer (some ⟨b197, j198 + 0, none⟩)) 3 (by kernel_rfl) rfl rfl (fun _ => r_ixt rfl sl27 rfl rfl (ixI_some hx196).2 hix199 hil200) rfl hP ?_
      refine dp (v := s1.v) 5 (by kernel_rfl) rfl rfl (fun _ => r_mv rfl h171) rfl hP ?_
      refine dp (v := .int .i64 σ11.2) 6 (by kernel_rfl) rfl rfl (fun _ => r_mv rfl h173) rfl hP ?_
      refine dp (v := .int .i64 (wI (σ11.2 + 1))) 7 (by kernel_rfl) rfl rfl (fun _ => r_addw rfl rfl rfl) rfl hP ?_
      obtain ⟨x202, hx202, hF⟩ := Option.bind_eq_some_iff.1 hF
      obtain ⟨b203, j204, hix205, hil206, hA207⟩ := (hs1.mono hleH158).ixf (ixI_some hx202).1
      replace hA207 : At H158 b203 j204 [ckV flB x202] := hA207
      refine dp (v := .pointer (some ⟨b203, j204 + 0, none⟩)) 8 (by kernel_rfl) rfl rfl (fun _ => r_ixt rfl sl27 rfl rfl (ixI_some hx202).2 hix205 hil206) rfl hP ?_
      refine dr (v := .agg (flat [ckV flB x196]).toArray) 4 (by kernel_rfl) rfl rfl (hI.good.weakm [true] (Hle.refl _) rfl) (fun _ hG => r_cla (off := 0) (p := 0) (m := 1) (hA201.ca hG) rfl ag29 rfl rfl rfl) rfl hP ?_
      refine dr (v := .agg (flat [ckV flB x202]).toArray) 9 (by kernel_rfl) rfl rfl (hI.good.weakm [true] (Hle.refl _) rfl) (fun _ hG => r_cla (off := 0) (p := 0) (m := 1) (hA207.ca hG) rfl ag29 rfl rfl rfl) rfl hP ?_
      obtain ⟨x208, hx208, hF⟩ := Option.bind_eq_some_iff.1 hF
      have hsp211 := spec_107 hx208 (hT.mono hleH158) (hI.part 0) 
      refine dfc 10 ([]) ([.own s156 29 32 gg157]) (args := [bv 1, .agg (flat [ckV flB x196]).toArray, .agg (flat [ckV flB x202]).toArray]) fc107 (by kernel_rfl) rfl rfl rfl rfl rfl hI (argc rfl (argc rfl (argc rfl rfl))) (hsp211) ?_
      rintro _ H209 _ w210 ⟨rfl, rfl⟩ hleH209 hI
      replace hI : Inv B w210 H209 [.own s156 29 32 gg157] := hI
      refine ⟨(hI.good.weakm [true] hleH209 rfl), ?_⟩
      refine de 11 (by kernel_rfl) rfl rfl rfl (l_bs (t := (Fl.ty (flV flB 32))) (vs := [.agg (flat [ckV flB x208]).toArray]) (xs := [x208]) hI rfl sl27 inf29 rfl rfl (argc rfl rfl) (.cons rfl rfl .nil) rfl) rfl ?_
      rintro _ w214 ⟨s212, H213, rfl, hI, hleH213, hs212, hfs212, hgs212⟩
      refine ⟨(hI.good.weakm [true] (hleH209.trans hleH213) rfl), ?_⟩
      obtain ⟨x215, hx215, hF⟩ := Option.bind_eq_some_iff.1 hF
      refine del 12 (by kernel_rfl) rfl rfl rfl (l_app (t := (Fl.ty (flV flB 32))) hI 0 rfl rfl sl27 inf29 rfl rfl rfl rfl ((hs156.mono hleH209).mono hleH213) hs212 (appI_some hx215).1) rfl ?_
      rintro _ w219 ⟨s216, H217, gg218, rfl, hI, hleH217, hs216⟩
      rw [← (appI_some hx215).2] at hs216
      replace hI : Inv B w219 H217 [.own s216 29 32 gg218] := hI
      refine dp (v := s216.v) 13 (by kernel_rfl) rfl rfl (fun _ => r_as rfl rfl) rfl hP ?_
      refine dend (by kernel_rfl) ?_
      refine inN ?_
      refine wthen ?_
      refine wren (fun ρ220 eρ220 => ?_)
      have h221 : opd ρ220 37 (.tmp 0) = s1.v := (eρ220 0).trans h171
      have h222 : opd ρ220 37 (.tmp 3) = s216.v := eρ220 3
      have h223 : opd ρ220 37 (.tmp 4) = .int .i64 σ11.2 := (eρ220 4).trans h173
      clear eρ220
      refine wreg ?_
      refine lv (v := .int .i64 σ11.2) rfl (r_mv rfl h223) rfl ?_
      refine lv (v := .int .i64 (wI (σ11.2 + 2))) rfl (r_addw rfl rfl rfl) rfl ?_
      refine lv (v := .int .i64 (wI (σ11.2 + 2))) rfl (r_as rfl rfl) rfl ?_
      refine wend ?_
      obtain rfl := Option.some.inj hF
      exact ⟨(x215, wI (σ11.2 + 2)), _, rfl, ⟨H217, s216, gg218, (((hleH158.trans hleH209).trans hleH213).trans hleH217), h221, h222, rfl, hs216, hI⟩, iterK_inl hy11 hb11⟩
  · skip
    rw [if_neg hc169] at hF
    have hbhc169 : (decide (σ11.2 < (a0.length : Int))) = false := decide_eq_false hc169
    refine wcF (h168.trans (congrArg Value.bool hbhc169)) ?_
    refine wp_exit ?_
    refine thE ?_
    refine thE ?_
    obtain ⟨q224, hFn, hzq224⟩ := Option.map_eq_some_iff.1 hF
    clear hF
    have hy0 := iterK_inr hy11 (hb11.trans (congrArg some hzq224.symm))
    rw [← hy0] at hFn
    have hF := hFn
    clear hFn
    refine inX ?_
    refine wthen ?_
    refine wseq ?_
    refine wreg ?_
    refine lv (v := s156.v) rfl (r_mv rfl h166) rfl ?_
    refine lv (v := s156.v) rfl (r_as rfl rfl) rfl ?_
    refine wend ?_
    refine wthen ?_
    refine wren (fun ρ225 eρ225 => ?_)
    have h226 : opd ρ225 37 (.tmp 2) = s156.v := eρ225 2
    clear eρ225
    refine wp_ret ?_
    obtain rfl := Option.some.inj hF
    subst hB
    refine finR (rs := [.tmp 2]) (vs := [s156.v]) rfl ⟨h226, trivial⟩ ?_
    exact hI.fin 0 ⟨s156, rfl, hs156, rfl⟩
noncomputable def M_tree_Path (a0 : Int) (a1 : List (Vec UInt8 32)) : Option ((List (Vec UInt8 32)) × Bool) := (if a0 < 0 then some ([], false) else (if (a1.length : Int) ≤ a0 then some ([], false) else ((appI 32 ([] : List (Vec UInt8 32)) a1).bind fun x29 => (runL (fun (σ38 : Int × (List (Vec UInt8 32)) × (List (Vec UInt8 32))) => ((if (1 : Int) < (σ38.2.2.length : Int) then (((if (bits .xor .i64 σ38.1 1) < (σ38.2.2.length : Int) then ((ixI σ38.2.2 (bits .xor .i64 σ38.1 1)).bind fun x194 => ((appI 32 σ38.2.1 [x194]).bind fun x203 => some x203)) else some σ38.2.1)).bind fun (x172 : (List (Vec UInt8 32))) => ((M_tree_up σ38.2.2).bind fun x208 => some (.inl (wI (Int.tdiv σ38.1 2), x172, x208)))) else ((some (σ38.2.1, true)).map Sum.inr)) : Option ((Int × (List (Vec UInt8 32)) × (List (Vec UInt8 32))) ⊕ ((List (Vec UInt8 32)) × Bool)))) (a0, [], x29)))))
set_option maxHeartbeats 4000000 in
theorem spec_96 {w : World} {H : Hp} {a0 : Int} {a1 : List (Vec UInt8 32)} {s1 : Sv} {r : (List (Vec UInt8 32)) × Bool} (hF : M_tree_Path a0 a1 = some r) (hT : Tab H) (hG : Good w H []) (hs1 : Sl (Fl.ty (flV flB 32)) H s1 a1) :
    Fine Tryd.prog 96 [.int .i64 a0, s1.v] w H [] (fun H' v L' => ∃ s900 : Sv, v = .tuple #[s900.v, .bool r.2] ∧ Sl (Fl.ty (flV flB 32)) H' s900 r.1 ∧ L' = []) := by
  unfold M_tree_Path at hF
  unfold Fine
  obtain ⟨B, hB⟩ : ∃ B : Base, B = ⟨w, H, blks []⟩ := ⟨_, rfl⟩
  have hI : Inv B w H [] := by rw [hB]; exact Inv.start hG
  refine enter (n := 41) (args := [.int .i64 a0, s1.v]) Tryd.func96 rfl Tryd.ntmps96 (Nat.le_of_ble_eq_true rfl) ?_
  refine wseq ?_
  refine wreg ?_
  refine lv (v := Sv.nil.v) rfl (r_as rfl rfl) rfl ?_
  refine lv (v := .bool false) rfl (r_as rfl rfl) rfl ?_
  refine wend ?_
  refine wthen ?_
  refine wren (fun ρ2 eρ2 => ?_)
  have h3 : opd ρ2 41 (.tmp 0) = .int .i64 a0 := eρ2 0
  have h4 : opd ρ2 41 (.tmp 1) = s1.v := eρ2 1
  clear eρ2
  refine wseq ?_
  refine wseq ?_
  refine wreg ?_
  refine lv (v := .int .i64 a0) rfl (r_mv rfl h3) rfl ?_
  refine lv (v := .bool (decide (a0 < 0))) rfl (r_lss rfl rfl rfl rfl) rfl ?_
  by_cases hc5 : a0 < 0
  · skip
    rw [if_pos hc5] at hF
    have hbhc5 : (decide (a0 < 0)) = true := decide_eq_true hc5
    refine lv (v := .bool true) rfl (r_mv rfl ((show opd _ _ _ = _ from rfl).trans (congrArg Value.bool hbhc5))) rfl ?_
    with_reducible refine lx (d := 12) (by kernel_rfl) (by kernel_rfl) ?_
    with_reducible refine lx (d := 13) (by kernel_rfl) (by kernel_rfl) ?_
    with_reducible refine lx (d := 14) (by kernel_rfl) (by kernel_rfl) ?_
    with_reducible refine lx (d := 15) (by kernel_rfl) (by kernel_rfl) ?_
    refine lv (v := .bool true) rfl (r_pkT rfl rfl rfl) rfl ?_
    refine wend ?_
    refine wthen ?_
    refine wren (fun ρ6 eρ6 => ?_)
    have h7 : opd ρ6 41 (.tmp 0) = .int .i64 a0 := (eρ6 0).trans h3
    have h8 : opd ρ6 41 (.tmp 1) = s1.v := (eρ6 1).trans h4
    have h9 : opd ρ6 41 (.tmp 16) = .bool true := eρ6 16
    clear eρ6
    refine wcT h9 ?_
    refine wseq ?_
    refine wreg ?_
    refine lv (v := Sv.nil.v) rfl (r_as rfl rfl) rfl ?_
    refine lv (v := .bool false) rfl (r_as rfl rfl) rfl ?_
    refine wend ?_
    refine wthen ?_
    refine wren (fun ρ10 eρ10 => ?_)
    have h11 : opd ρ10 41 (.tmp 4) = Sv.nil.v := eρ10 4
    have h12 : opd ρ10 41 (.tmp 5) = .bool false := eρ10 5
    clear eρ10
    refine wp_ret ?_
    refine thR ?_
    obtain rfl := Option.some.inj hF
    subst hB
    refine finR (rs := [.tmp 4, .tmp 5]) (vs := [Sv.nil.v, .bool false]) rfl ⟨h11, h12, trivial⟩ ?_
    exact hI.fin 0 ⟨Sv.nil, rfl, (Sl.nil _ _), rfl⟩
  · skip
    rw [if_neg hc5] at hF
    have hbhc5 : (decide (a0 < 0)) = false := decide_eq_false hc5
    refine lv (v := .bool false) rfl (r_mv rfl ((show opd _ _ _ = _ from rfl).trans (congrArg Value.bool hbhc5))) rfl ?_
    refine lv (v := .int .i64 a0) rfl (r_mv rfl h3) rfl ?_
    refine lv (v := s1.v) rfl (r_mv rfl h4) rfl ?_
    refine lv (v := .int .i64 (a1.length : Int)) rfl (r_lenS rfl sl27 rfl hs1) rfl ?_
    refine lv (v := .bool (decide ((a1.length : Int) ≤ a0))) rfl (r_geq rfl rfl rfl rfl) rfl ?_
    refine lv (v := .bool (decide ((a1.length : Int) ≤ a0))) rfl (r_pkF rfl rfl rfl) rfl ?_
    refine wend ?_
    refine wthen ?_
    refine wren (fun ρ13 eρ13 => ?_)
    have h14 : opd ρ13 41 (.tmp 0) = .int .i64 a0 := (eρ13 0).trans h3
    have h15 : opd ρ13 41 (.tmp 1) = s1.v := (eρ13 1).trans h4
    have h16 : opd ρ13 41 (.tmp 16) = .bool (decide ((a1.length : Int) ≤ a0)) := eρ13 16
    clear eρ13
    by_cases hc17 : (a1.length : Int) ≤ a0
    · skip
      rw [if_pos hc17] at hF
      have hbhc17 : (decide ((a1.length : Int) ≤ a0)) = true := decide_eq_true hc17
      refine wcT (h16.trans (congrArg Value.bool hbhc17)) ?_
      refine wseq ?_
      refine wreg ?_
      refine lv (v := Sv.nil.v) rfl (r_as rfl rfl) rfl ?_
      refine lv (v := .bool false) rfl (r_as rfl rfl) rfl ?_
      refine wend ?_
      refine wthen ?_
      refine wren (fun ρ18 eρ18 => ?_)
      have h19 : opd ρ18 41 (.tmp 4) = Sv.nil.v := eρ18 4
      have h20 : opd ρ18 41 (.tmp 5) = .bool false := eρ18 5
      clear eρ18
      refine wp_ret ?_
      refine thR ?_
      obtain rfl := Option.some.inj hF
      subst hB
      refine finR (rs := [.tmp 4, .tmp 5]) (vs := [Sv.nil.v, .bool false]) rfl ⟨h19, h20, trivial⟩ ?_
      exact hI.fin 0 ⟨Sv.nil, rfl, (Sl.nil _ _), rfl⟩
    · skip
      rw [if_neg hc17] at hF
      have hbhc17 : (decide ((a1.length : Int) ≤ a0)) = false := decide_eq_false hc17
      refine wcF (h16.trans (congrArg Value.bool hbhc17)) ?_
      refine wp_skip ?_
      refine wthen ?_
      refine wseq ?_
      refine wreg ?_
      refine lv (v := Sv.nil.v) rfl (r_as rfl rfl) rfl ?_
      refine wend ?_
      refine wthen ?_
      refine wren (fun ρ21 eρ21 => ?_)
      have h22 : opd ρ21 41 (.tmp 0) = .int .i64 a0 := (eρ21 0).trans h14
      have h23 : opd ρ21 41 (.tmp 1) = s1.v := (eρ21 1).trans h15
      have h24 : opd ρ21 41 (.tmp 6) = Sv.nil.v := eρ21 6
      clear eρ21
      refine wseq ?_
      refine wreg ?_
      refine le rfl (l_bs (t := (Fl.ty (flV flB 32))) (vs := []) (xs := []) hI rfl sl27 inf29 rfl rfl rfl .nil rfl) rfl ?_
      rintro _ w27 ⟨s25, H26, rfl, hI, hleH26, hs25, hfs25, hgs25⟩
      refine lv (v := s1.v) rfl (r_mv rfl h23) rfl ?_
      replace hI := Inv.full (e := 29) (sz := 32) hI (show s25.n = s25.c from hfs25)
      replace hI : Inv B w27 H26 [.own s25 29 32 none] := hI
      obtain ⟨x29, hx29, hF⟩ := Option.bind_eq_some_iff.1 hF
      refine le rfl (l_app (t := (Fl.ty (flV flB 32))) hI 0 rfl rfl sl27 inf29 rfl rfl rfl rfl hs25 (hs1.mono hleH26) (appI_some hx29).1) rfl ?_
      rintro _ w33 ⟨s30, H31, gg32, rfl, hI, hleH31, hs30⟩
      rw [← (appI_some hx29).2] at hs30
      replace hI : Inv B w33 H31 [.own s30 29 32 gg32] := hI
      refine lv (v := s30.v) rfl (r_as rfl rfl) rfl ?_
      refine wend ?_
      refine wthen ?_
      refine wren (fun ρ34 eρ34 => ?_)
      have h35 : opd ρ34 41 (.tmp 0) = .int .i64 a0 := (eρ34 0).trans h22
      have h36 : opd ρ34 41 (.tmp 6) = Sv.nil.v := (eρ34 6).trans h24
      have h37 : opd ρ34 41 (.tmp 7) = s30.v := eρ34 7
      clear eρ34
      refine wseq ?_
      refine wp_block ?_
      replace hI := Inv.full (e := 29) (sz := 32) hI (show Sv.nil.n = Sv.nil.c from rfl)
      replace hI : Inv B w33 H31 [.own s30 29 32 gg32, .own Sv.nil 29 32 none] := hI
      refine wrun (n := 41) _ (fun (σ38 : Int × (List (Vec UInt8 32)) × (List (Vec UInt8 32))) ρ' w' => ∃ (H158 : Hp) (s155 s156 : Sv) (gg157 : Option Nat), Hle H31 H158 ∧ opd ρ' 41 (.tmp 0) = .int .i64 σ38.1 ∧ opd ρ' 41 (.tmp 6) = s155.v ∧ opd ρ' 41 (.tmp 7) = s156.v ∧ Sl (Fl.ty (flV flB 32)) H158 s155 σ38.2.1 ∧ Sl (Fl.ty (flV flB 32)) H158 s156 σ38.2.2 ∧ Inv B w' H158 [.own s155 29 32 gg157]) hF ⟨H31, Sv.nil, s30, none, (Hle.refl _), h35, h36, h37, (Sl.nil _ _), hs30, (hI.keep [false, true])⟩ ?_
      rintro k38 σ38 ρ162 w163 ⟨H158, s155, s156, gg157, hleH158, h159, h160, h161, hs155, hs156, hI⟩ hy38
      obtain ⟨z38, hb38⟩ := iterK_body hy38
      have hF := hb38
      refine wseq ?_
      refine wseq ?_
      refine wreg ?_
      refine lv (v := s156.v) rfl (r_mv rfl h161) rfl ?_
      refine lv (v := .int .i64 (σ38.2.2.length : Int)) rfl (r_lenS rfl sl27 rfl hs156) rfl ?_
      refine lv (v := .bool (decide ((1 : Int) < (σ38.2.2.length : Int)))) rfl (r_gtr rfl rfl rfl rfl) rfl ?_
      refine wend ?_
      refine wthen ?_
      refine wren (fun ρ164 eρ164 => ?_)
      have h165 : opd ρ164 41 (.tmp 0) = .int .i64 σ38.1 := (eρ164 0).trans h159
      have h166 : opd ρ164 41 (.tmp 6) = s155.v := (eρ164 6).trans h160
      have h167 : opd ρ164 41 (.tmp 7) = s156.v := (eρ164 7).trans h161
      have h168 : opd ρ164 41 (.tmp 22) = .bool (decide ((1 : Int) < (σ38.2.2.length : Int))) := eρ164 22
      clear eρ164
      by_cases hc169 : (1 : Int) < (σ38.2.2.length : Int)
      · skip
        rw [if_pos hc169] at hF
        have hbhc169 : (decide ((1 : Int) < (σ38.2.2.length : Int))) = true := decide_eq_true hc169
        refine wcT (h168.trans (congrArg Value.bool hbhc169)) ?_
        refine wp_skip ?_
        refine wthen ?_
        obtain ⟨x172, hx172, hF⟩ := Option.bind_eq_some_iff.1 hF
        refine wcut (fun ρ' w' => ∃ (H173 : Hp) (s175 : Sv) (gg176 : Option Nat), Hle H158 H173 ∧ opd ρ' 41 (.tmp 0) = .int .i64 σ38.1 ∧ opd ρ' 41 (.tmp 6) = s175.v ∧ opd ρ' 41 (.tmp 7) = s156.v ∧ Sl (Fl.ty (flV flB 32)) H173 s175 x172 ∧ Inv B w' H173 [.own s175 29 32 gg176]) ?_ ?_
        · skip
          replace hF := hx172
          refine wp_block ?_
          refine wseq ?_
          refine wreg ?_
          refine lv (v := .int .i64 σ38.1) rfl (r_mv rfl h165) rfl ?_
          refine lv (v := .int .i64 (bits .xor .i64 σ38.1 1)) rfl (r_xor rfl rfl rfl) rfl ?_
          refine lv (v := .int .i64 (bits .xor .i64 σ38.1 1)) rfl (r_as rfl rfl) rfl ?_
          refine wend ?_
          refine wthen ?_
          refine wren (fun ρ182 eρ182 => ?_)
          have h183 : opd ρ182 41 (.tmp 0) = .int .i64 σ38.1 := (eρ182 0).trans h165
          have h184 : opd ρ182 41 (.tmp 6) = s155.v := (eρ182 6).trans h166
          have h185 : opd ρ182 41 (.tmp 7) = s156.v := (eρ182 7).trans h167
          have h186 : opd ρ182 41 (.tmp 8) = .int .i64 (bits .xor .i64 σ38.1 1) := eρ182 8
          clear eρ182
          refine wseq ?_
          refine wreg ?_
          refine lv (v := .int .i64 (bits .xor .i64 σ38.1 1)) rfl (r_mv rfl h186) rfl ?_
          refine lv (v := s156.v) rfl (r_mv rfl h185) rfl ?_
          refine lv (v := .int .i64 (σ38.2.2.length : Int)) rfl (r_lenS rfl sl27 rfl hs156) rfl ?_
          refine lv (v := .bool (decide ((bits .xor .i64 σ38.1 1) < (σ38.2.2.length : Int)))) rfl (r_lss rfl rfl rfl rfl) rfl ?_
          refine wend ?_
          refine wthen ?_
          refine wren (fun ρ187 eρ187 => ?_)
          have h188 : opd ρ187 41 (.tmp 0) = .int .i64 σ38.1 := (eρ187 0).trans h183
          have h189 : opd ρ187 41 (.tmp 6) = s155.v := (eρ187 6).trans h184
          have h190 : opd ρ187 41 (.tmp 7) = s156.v := (eρ187 7).trans h185
          have h191 : opd ρ187 41 (.tmp 8) = .int .i64 (bits .xor .i64 σ38.1 1) := (eρ187 8).trans h186
          have h192 : opd ρ187 41 (.tmp 32) = .bool (decide ((bits .xor .i64 σ38.1 1) < (σ38.2.2.length : Int))) := eρ187 32
          clear eρ187
          by_cases hc193 : (bits .xor .i64 σ38.1 1) < (σ38.2.2.length : Int)
          · skip
            rw [if_pos hc193] at hF
            have hbhc193 : (decide ((bits .xor .i64 σ38.1 1) < (σ38.2.2.length : Int))) = true := decide_eq_true hc193
            refine wcT (h192.trans (congrArg Value.bool hbhc193)) ?_
            refine wreg ?_
            refine lv (v := s155.v) rfl (r_mv rfl h189) rfl ?_
            refine lv (v := s156.v) rfl (r_mv rfl h190) rfl ?_
            refine lv (v := .int .i64 (bits .xor .i64 σ38.1 1)) rfl (r_mv rfl h191) rfl ?_
            obtain ⟨x194, hx194, hF⟩ := Option.bind_eq_some_iff.1 hF
            obtain ⟨b195, j196, hix197, hil198, hA199⟩ := hs156.ixf (ixI_some hx194).1
            replace hA199 : At H158 b195 j196 [ckV flB x194] := hA199
            refine lv (v := .pointer (some ⟨b195, j196 + 0, none⟩)) rfl (r_ixt rfl sl27 rfl rfl (ixI_some hx194).2 hix197 hil198) rfl ?_
            refine lv (v := .agg (flat [ckV flB x194]).toArray) rfl (r_cla (off := 0) (p := 0) (m := 1) (hA199.ca hI.good) rfl ag29 rfl rfl rfl) rfl ?_
            refine le rfl (l_bs (t := (Fl.ty (flV flB 32))) (vs := [.agg (flat [ckV flB x194]).toArray]) (xs := [x194]) hI rfl sl27 inf29 rfl rfl (argc rfl rfl) (.cons rfl rfl .nil) rfl) rfl ?_
            rintro _ w202 ⟨s200, H201, rfl, hI, hleH201, hs200, hfs200, hgs200⟩
            obtain ⟨x203, hx203, hF⟩ := Option.bind_eq_some_iff.1 hF
            refine le rfl (l_app (t := (Fl.ty (flV flB 32))) hI 0 rfl rfl sl27 inf29 rfl rfl rfl rfl (hs155.mono hleH201) hs200 (appI_some hx203).1) rfl ?_
            rintro _ w207 ⟨s204, H205, gg206, rfl, hI, hleH205, hs204⟩
            rw [← (appI_some hx203).2] at hs204
            replace hI : Inv B w207 H205 [.own s204 29 32 gg206] := hI
            refine lv (v := s204.v) rfl (r_as rfl rfl) rfl ?_
            refine wend ?_
            refine inN ?_
            obtain rfl := Option.some.inj hF
            exact wmid ⟨H205, s204, gg206, (hleH201.trans hleH205), h188, rfl, h190, hs204, hI⟩
          · skip
            rw [if_neg hc193] at hF
            have hbhc193 : (decide ((bits .xor .i64 σ38.1 1) < (σ38.2.2.length : Int))) = false := decide_eq_false hc193
            refine wcF (h192.trans (congrArg Value.bool hbhc193)) ?_
            refine wp_skip ?_
            refine inN ?_
            obtain rfl := Option.some.inj hF
            exact wmid ⟨H158, s155, gg157, (Hle.refl _), h188, h189, h190, hs155, hI⟩
        rintro ρ177 w174 ⟨H173, s175, gg176, hleH173, h178, h179, h180, hs175, hI⟩
        refine wreg ?_
        refine lv (v := s156.v) rfl (r_mv rfl h180) rfl ?_
        obtain ⟨x208, hx208, hF⟩ := Option.bind_eq_some_iff.1 hF
        have hsp211 := spec_144 hx208 ((((hT.mono hleH26).mono hleH31).mono hleH158).mono hleH173) (hI.part 0) (hs156.mono hleH173)
        refine fc ([]) ([.own s175 29 32 gg176]) (args := [s156.v]) fc144 rfl rfl rfl hI (argc rfl rfl) (hsp211) ?_
        rintro _ H209 _ w210 ⟨s212, rfl, hs212, rfl⟩ hleH209 hI
        replace hI : Inv B w210 H209 [.own s175 29 32 gg176] := hI
        refine lv (v := .int .i64 σ38.1) rfl (r_mv rfl h178) rfl ?_
        refine lv (v := .int .i64 (wI (Int.tdiv σ38.1 2))) rfl (r_quo rfl rfl rfl (by decide)) rfl ?_
        refine lv (v := s212.v) rfl (r_as rfl rfl) rfl ?_
        refine lv (v := .int .i64 (wI (Int.tdiv σ38.1 2))) rfl (r_as rfl rfl) rfl ?_
        refine wend ?_
        obtain rfl := Option.some.inj hF
        exact ⟨(wI (Int.tdiv σ38.1 2), x172, x208), _, rfl, ⟨H209, s175, s212, gg176, ((hleH158.trans hleH173).trans hleH209), rfl, h179, rfl, (hs175.mono hleH209), hs212, hI⟩, iterK_inl hy38 hb38⟩
      · skip
        rw [if_neg hc169] at hF
        have hbhc169 : (decide ((1 : Int) < (σ38.2.2.length : Int))) = false := decide_eq_false hc169
        refine wcF (h168.trans (congrArg Value.bool hbhc169)) ?_
        refine wp_exit ?_
        refine thE ?_
        refine thE ?_
        obtain ⟨q213, hFn, hzq213⟩ := Option.map_eq_some_iff.1 hF
        clear hF
        have hy0 := iterK_inr hy38 (hb38.trans (congrArg some hzq213.symm))
        rw [← hy0] at hFn
        have hF := hFn
        clear hFn
        refine inX ?_
        refine wthen ?_
        refine wseq ?_
        refine wreg ?_
        refine lv (v := s155.v) rfl (r_mv rfl h166) rfl ?_
        refine lv (v := s155.v) rfl (r_as rfl rfl) rfl ?_
        refine lv (v := .bool true) rfl (r_as rfl rfl) rfl ?_
        refine wend ?_
        refine wthen ?_
        refine wren (fun ρ214 eρ214 => ?_)
        have h215 : opd ρ214 41 (.tmp 4) = s155.v := eρ214 4
        have h216 : opd ρ214 41 (.tmp 5) = .bool true := eρ214 5
        clear eρ214
        refine wp_ret ?_
        obtain rfl := Option.some.inj hF
        subst hB
        refine finR (rs := [.tmp 4, .tmp 5]) (vs := [s155.v, .bool true]) rfl ⟨h215, h216, trivial⟩ ?_
        exact hI.fin 0 ⟨s155, rfl, hs155, rfl⟩
end Go.Proofs.YtdebnncpclodcaaDoor.X
