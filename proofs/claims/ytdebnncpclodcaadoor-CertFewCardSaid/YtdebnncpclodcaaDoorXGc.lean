/-
  Functions of the program: what each computes, and its walk. No condition beyond those that the lemmas name.
-/
import Derived.Test.YtdebnncpclodcaaDoorXPT
import Derived.Test.YtdebnncpclodcaaDoorXGa
import Derived.Test.YtdebnncpclodcaaDoorXGb
set_option linter.unusedSimpArgs false
set_option linter.unusedVariables false
set_option maxRecDepth 10000
namespace Go.Proofs.YtdebnncpclodcaaDoor.X
open Go.RowKit Go.Proofs.YtdebnncpclodcaaDoorW.PrintLast
noncomputable def M_block_Digest (a0 : Block) : Option ((Vec UInt8 32)) := ((M_block_Write (⟨[]⟩ : Code_Writer) a0).bind fun x16 => ((M_code_Writer_Bytes x16).bind fun x29 => ((M_sha_Of [[98, 108, 111, 99, 107], x29.1]).bind fun x39 => some x39)))
set_option maxHeartbeats 1000000 in
theorem spec_86 {w : World} {H : Hp} {a0 : Block} {s1 : Sv} {r : (Vec UInt8 32)} (hF : M_block_Digest a0 = some r) (hT : Tab H) (hG : Good w H []) (hs1 : Sl (Fl.ty fl_Request) H s1 a0.Requests) :
    Fine Tryd.prog 86 [.agg (flat [ckI a0.Epoch, ckI a0.Height, ckV flB a0.Prev, ckV flB a0.State, ckV flB a0.Next, ckL s1]).toArray] w H [] (fun H' v L' => v = .agg (flat [ckV flB r]).toArray ∧ L' = []) := by
  unfold M_block_Digest at hF
  unfold Fine
  obtain ⟨B, hB⟩ : ∃ B : Base, B = ⟨w, H, blks []⟩ := ⟨_, rfl⟩
  have hI : Inv B w H [] := by rw [hB]; exact Inv.start hG
  refine enter (n := 15) (args := [.agg (flat [ckI a0.Epoch, ckI a0.Height, ckV flB a0.Prev, ckV flB a0.State, ckV flB a0.Next, ckL s1]).toArray]) Tryd.func86 rfl Tryd.ntmps86 (Nat.le_of_ble_eq_true rfl) ?_
  refine wseq ?_
  refine wreg ?_
  refine le rfl (l_box (cks := [ckI a0.Epoch, ckI a0.Height, ckV flB a0.Prev, ckV flB a0.State, ckV flB a0.Next, ckL s1]) hI rfl rfl rfl) rfl ?_
  rintro _ w3 ⟨g2, rfl, hI⟩
  replace hI : Inv B w3 H [.cb g2 [ckI a0.Epoch, ckI a0.Height, ckV flB a0.Prev, ckV flB a0.State, ckV flB a0.Next, ckL s1] 69] := hI
  refine le rfl (l_al hI rfl ze29) rfl ?_
  rintro _ w5 ⟨g4, rfl, hI⟩
  replace hI : Inv B w5 H [.cb g2 [ckI a0.Epoch, ckI a0.Height, ckV flB a0.Prev, ckV flB a0.State, ckV flB a0.Next, ckL s1] 69, .cb g4 [ckV flB (Vec.rep 32 0)] 29] := hI
  refine wend ?_
  refine wthen ?_
  refine wren (fun ρ6 eρ6 => ?_)
  have h7 : opd ρ6 15 (.tmp 1) = .pointer (some ⟨g2, 0 + 0, none⟩) := eρ6 1
  have h8 : opd ρ6 15 (.tmp 2) = .pointer (some ⟨g4, 0 + 0, none⟩) := eρ6 2
  clear eρ6
  refine wseq ?_
  refine wreg ?_
  refine lv (v := .agg (flat [ckL Sv.nil]).toArray) rfl (r_bldk (z := [[ckL Sv.nil]]) (pc := []) rfl zg175 bf175 rfl rfl rfl rfl) rfl ?_
  refine le rfl (l_box (cks := [ckL Sv.nil]) hI rfl rfl rfl) rfl ?_
  rintro _ w10 ⟨g9, rfl, hI⟩
  replace hI : Inv B w10 H [.cb g2 [ckI a0.Epoch, ckI a0.Height, ckV flB a0.Prev, ckV flB a0.State, ckV flB a0.Next, ckL s1] 69, .cb g4 [ckV flB (Vec.rep 32 0)] 29, .cb g9 [ckL Sv.nil] 175] := hI
  refine lv (v := .pointer (some ⟨g9, 0 + 0, none⟩)) rfl (r_as rfl rfl) rfl ?_
  refine wend ?_
  refine wthen ?_
  refine wren (fun ρ11 eρ11 => ?_)
  have h12 : opd ρ11 15 (.tmp 1) = .pointer (some ⟨g2, 0 + 0, none⟩) := (eρ11 1).trans h7
  have h13 : opd ρ11 15 (.tmp 2) = .pointer (some ⟨g4, 0 + 0, none⟩) := (eρ11 2).trans h8
  have h14 : opd ρ11 15 (.tmp 3) = .pointer (some ⟨g9, 0 + 0, none⟩) := eρ11 3
  clear eρ11
  refine wseq ?_
  refine wreg ?_
  refine lv (v := .pointer (some ⟨g9, 0 + 0, none⟩)) rfl (r_mv rfl h14) rfl ?_
  refine lv (v := .agg (flat [ckI a0.Epoch, ckI a0.Height, ckV flB a0.Prev, ckV flB a0.State, ckV flB a0.Next, ckL s1]).toArray) rfl (r_cla (off := 0) (p := 0) (m := 6) (hI.good.ca 0 rfl) rfl ag69 h12 rfl rfl) rfl ?_
  replace hI := Inv.full (e := 5) (sz := 1) hI (show Sv.nil.n = Sv.nil.c from rfl)
  replace hI : Inv B w10 H [.cb g2 [ckI a0.Epoch, ckI a0.Height, ckV flB a0.Prev, ckV flB a0.State, ckV flB a0.Next, ckL s1] 69, .cb g4 [ckV flB (Vec.rep 32 0)] 29, .cb g9 [ckL Sv.nil] 175, .own Sv.nil 5 1 none] := hI
  replace hI := hI.bring 3 rfl
  replace hI := hI.bring 3 rfl
  replace hI : Inv B w10 H [.cb g9 [ckL Sv.nil] 175, .own Sv.nil 5 1 none, .cb g2 [ckI a0.Epoch, ckI a0.Height, ckV flB a0.Prev, ckV flB a0.State, ckV flB a0.Next, ckL s1] 69, .cb g4 [ckV flB (Vec.rep 32 0)] 29] := hI
  obtain ⟨x16, hx16, hF⟩ := Option.bind_eq_some_iff.1 hF
  have hsp19 := spec_135 hx16 hT (hI.part 2) (Sl.nil _ _) hs1
  refine fc ([.cb g9 [ckL Sv.nil] 175, .own Sv.nil 5 1 none]) ([.cb g2 [ckI a0.Epoch, ckI a0.Height, ckV flB a0.Prev, ckV flB a0.State, ckV flB a0.Next, ckL s1] 69, .cb g4 [ckV flB (Vec.rep 32 0)] 29]) (args := [.pointer (some ⟨g9, 0 + 0, none⟩), .agg (flat [ckI a0.Epoch, ckI a0.Height, ckV flB a0.Prev, ckV flB a0.State, ckV flB a0.Next, ckL s1]).toArray]) fc135 rfl rfl rfl hI (argc rfl (argc rfl rfl)) (hsp19) ?_
  rintro _ H17 _ w18 ⟨s20, gg21, rfl, hs20, rfl⟩ hleH17 hI
  replace hI : Inv B w18 H17 [.cb g9 [ckL s20] 175, .own s20 5 1 gg21, .cb g2 [ckI a0.Epoch, ckI a0.Height, ckV flB a0.Prev, ckV flB a0.State, ckV flB a0.Next, ckL s1] 69, .cb g4 [ckV flB (Vec.rep 32 0)] 29] := hI
  refine wend ?_
  refine wthen ?_
  refine wren (fun ρ22 eρ22 => ?_)
  have h23 : opd ρ22 15 (.tmp 2) = .pointer (some ⟨g4, 0 + 0, none⟩) := (eρ22 2).trans h13
  have h24 : opd ρ22 15 (.tmp 3) = .pointer (some ⟨g9, 0 + 0, none⟩) := (eρ22 3).trans h14
  clear eρ22
  refine wseq ?_
  refine wreg ?_
  refine le rfl (l_bs (t := (Fl.ty flB)) (vs := [bv 98, bv 108, bv 111, bv 99, bv 107]) (xs := [98, 108, 111, 99, 107]) hI rfl sl158 inf5 rfl rfl (argc rfl (argc rfl (argc rfl (argc rfl (argc rfl rfl))))) (.cons rfl rfl (.cons rfl rfl (.cons rfl rfl (.cons rfl rfl (.cons rfl rfl .nil))))) rfl) rfl ?_
  rintro _ w27 ⟨s25, H26, rfl, hI, hleH26, hs25, hfs25, hgs25⟩
  refine le rfl (l_cvc (t := flB.ty) hI rfl un158 un5 rfl hs25 hgs25) rfl ?_
  rintro _ w28 ⟨rfl, hI⟩
  replace hI : Inv B w28 H26 [.cb g9 [ckL s20] 175, .own s20 5 1 gg21, .cb g2 [ckI a0.Epoch, ckI a0.Height, ckV flB a0.Prev, ckV flB a0.State, ckV flB a0.Next, ckL s1] 69, .cb g4 [ckV flB (Vec.rep 32 0)] 29] := hI
  refine lv (v := .pointer (some ⟨g9, 0 + 0, none⟩)) rfl (r_mv rfl h24) rfl ?_
  obtain ⟨x29, hx29, hF⟩ := Option.bind_eq_some_iff.1 hF
  have hsp32 := spec_100 hx29 ((hT.mono hleH17).mono hleH26) (hI.part 2) (hs20.mono hleH26)
  refine fc ([.cb g9 [ckL s20] 175, .own s20 5 1 gg21]) ([.cb g2 [ckI a0.Epoch, ckI a0.Height, ckV flB a0.Prev, ckV flB a0.State, ckV flB a0.Next, ckL s1] 69, .cb g4 [ckV flB (Vec.rep 32 0)] 29]) (args := [.pointer (some ⟨g9, 0 + 0, none⟩)]) fc100 rfl rfl rfl hI (argc rfl rfl) (hsp32) ?_
  rintro _ H30 _ w31 ⟨s33, s34, gg35, rfl, hs33, hs34, rfl⟩ hleH30 hI
  replace hI : Inv B w31 H30 [.cb g9 [ckL s34] 175, .own s34 5 1 gg35, .cb g2 [ckI a0.Epoch, ckI a0.Height, ckV flB a0.Prev, ckV flB a0.State, ckV flB a0.Next, ckL s1] 69, .cb g4 [ckV flB (Vec.rep 32 0)] 29] := hI
  refine le rfl (l_bs (t := (Ty.sl (Fl.ty flB))) (vs := [s25.v, s33.v]) (xs := [[98, 108, 111, 99, 107], x29.1]) hI rfl sl228 inf158 rfl rfl (argc rfl (argc rfl rfl)) (.cons rfl ⟨s25, rfl, (hs25.mono hleH30)⟩ (.cons rfl ⟨s33, rfl, hs33⟩ .nil)) rfl) rfl ?_
  rintro _ w38 ⟨s36, H37, rfl, hI, hleH37, hs36, hfs36, hgs36⟩
  obtain ⟨x39, hx39, hF⟩ := Option.bind_eq_some_iff.1 hF
  have hsp42 := spec_99 hx39 ((((hT.mono hleH17).mono hleH26).mono hleH30).mono hleH37) (hI.part 0) hs36
  refine fc ([]) ([.cb g9 [ckL s34] 175, .own s34 5 1 gg35, .cb g2 [ckI a0.Epoch, ckI a0.Height, ckV flB a0.Prev, ckV flB a0.State, ckV flB a0.Next, ckL s1] 69, .cb g4 [ckV flB (Vec.rep 32 0)] 29]) (args := [s36.v]) fc99 rfl rfl rfl hI (argc rfl rfl) (hsp42) ?_
  rintro _ H40 _ w41 ⟨rfl, rfl⟩ hleH40 hI
  replace hI : Inv B w41 H40 [.cb g9 [ckL s34] 175, .own s34 5 1 gg35, .cb g2 [ckI a0.Epoch, ckI a0.Height, ckV flB a0.Prev, ckV flB a0.State, ckV flB a0.Next, ckL s1] 69, .cb g4 [ckV flB (Vec.rep 32 0)] 29] := hI
  refine lst rfl (l_st (off := 0) (p := 0) (m := 1) (new := [ckV flB x39]) hI 3 rfl rfl sz29 h23 rfl rfl rfl rfl rfl) rfl ?_
  intro w43 hI
  replace hI : Inv B w43 H40 [.cb g9 [ckL s34] 175, .own s34 5 1 gg35, .cb g2 [ckI a0.Epoch, ckI a0.Height, ckV flB a0.Prev, ckV flB a0.State, ckV flB a0.Next, ckL s1] 69, .cb g4 [ckV flB x39] 29] := hI
  refine wend ?_
  refine wthen ?_
  refine wren (fun ρ44 eρ44 => ?_)
  have h45 : opd ρ44 15 (.tmp 2) = .pointer (some ⟨g4, 0 + 0, none⟩) := (eρ44 2).trans h23
  clear eρ44
  refine wp_ret ?_
  obtain rfl := Option.some.inj hF
  subst hB
  refine finR (rs := [.cell 2 29]) (vs := [.agg (flat [ckV flB x39]).toArray]) rfl ⟨⟨_, h45, ld_agg (hI.good.ca 3 rfl) ag29 rfl⟩, trivial⟩ ?_
  exact hI.fin 0 ⟨rfl, rfl⟩
noncomputable def M_request_short (a0 : List (List UInt8)) : Option (Bool) := ((forK (fun (i8 : Nat) (σ8 : Unit) => (((a0[i8]?).bind fun x47 => (if (1024 : Int) < (x47.length : Int) then ((some false).map Sum.inr) else some (.inl ()))) : Option (Unit ⊕ Bool))) a0.length 0 ()).bind fun y => match y with | .inl _ => some true | .inr r => some r)
set_option maxHeartbeats 1000000 in
theorem spec_160 {w : World} {H : Hp} {a0 : List (List UInt8)} {s1 : Sv} {r : Bool} (hF : M_request_short a0 = some r) (hT : Tab H) (hG : Good w H []) (hs1 : Sl (Fl.ty flS) H s1 a0) :
    Fine Tryd.prog 160 [s1.v] w H [] (fun H' v L' => v = .bool r ∧ L' = []) := by
  unfold M_request_short at hF
  unfold Fine
  obtain ⟨B, hB⟩ : ∃ B : Base, B = ⟨w, H, blks []⟩ := ⟨_, rfl⟩
  have hI : Inv B w H [] := by rw [hB]; exact Inv.start hG
  refine enter (n := 15) (args := [s1.v]) Tryd.func160 rfl Tryd.ntmps160 (Nat.le_of_ble_eq_true rfl) ?_
  refine wseq ?_
  refine wreg ?_
  refine lv (v := .bool false) rfl (r_as rfl rfl) rfl ?_
  refine wend ?_
  refine wthen ?_
  refine wren (fun ρ2 eρ2 => ?_)
  have h3 : opd ρ2 15 (.tmp 0) = s1.v := eρ2 0
  clear eρ2
  refine wseq ?_
  refine wseq ?_
  refine wreg ?_
  refine lv (v := s1.v) rfl (r_mv rfl h3) rfl ?_
  refine lv (v := .int .i64 (a0.length : Int)) rfl (r_lenS rfl sl199 rfl hs1) rfl ?_
  refine lv (v := .int .i64 0) rfl (r_mv rfl rfl) rfl ?_
  refine wend ?_
  refine wthen ?_
  refine wren (fun ρ4 eρ4 => ?_)
  have h5 : opd ρ4 15 (.tmp 5) = s1.v := eρ4 5
  have h6 : opd ρ4 15 (.tmp 6) = .int .i64 (a0.length : Int) := eρ4 6
  have h7 : opd ρ4 15 (.tmp 7) = .int .i64 0 := eρ4 7
  clear eρ4
  refine wp_block ?_
  have hbd8 := (hs1).bd
  rw [(hs1).n] at hbd8
  obtain ⟨y8, hy8, hF8⟩ := Option.bind_eq_some_iff.1 hF
  refine wfor (n := 15) a0.length _ (fun (i8 : Nat) (σ8 : Unit) ρ' w' => ∃ (H36 : Hp), Hle H H36 ∧ opd ρ' 15 (.tmp 5) = s1.v ∧ opd ρ' 15 (.tmp 6) = .int .i64 (a0.length : Int) ∧ opd ρ' 15 (.tmp 7) = .int .i64 (i8 : Int) ∧ Inv B w' H36 []) hy8 ⟨H, (Hle.refl _), h5, h6, h7, hI⟩ ?_
  rintro k8 i8 σ8 ρ40 w41 hk8 ⟨H36, hleH36, h37, h38, h39, hI⟩ hy8
  refine wseq ?_
  refine wreg ?_
  refine lv (v := .bool (decide ((i8 : Int) < (a0.length : Int)))) rfl (r_lss rfl h39 h38 rfl) rfl ?_
  refine wend ?_
  refine wthen ?_
  refine wseq ?_
  by_cases hc42 : (i8 : Int) < (a0.length : Int)
  · skip
    have hbhc42 : (decide ((i8 : Int) < (a0.length : Int))) = true := decide_eq_true hc42
    obtain ⟨k8, rfl⟩ : ∃ m, k8 = m + 1 := ⟨k8 - 1, by omega⟩
    obtain ⟨z8, hb8⟩ := forK_body hy8
    have hF := hb8
    have hlt8 : ((i8 : Nat) : Int) + 1 ≤ 9223372036854775807 := by omega
    refine wcT ((show opd _ _ _ = _ from rfl).trans (congrArg Value.bool hbhc42)) ?_
    refine wp_skip ?_
    refine wthen ?_
    refine wren (fun ρ43 eρ43 => ?_)
    have h44 : opd ρ43 15 (.tmp 5) = s1.v := (eρ43 5).trans h37
    have h45 : opd ρ43 15 (.tmp 6) = .int .i64 (a0.length : Int) := (eρ43 6).trans h38
    have h46 : opd ρ43 15 (.tmp 7) = .int .i64 (i8 : Int) := (eρ43 7).trans h39
    clear eρ43
    refine wseq ?_
    refine wp_block ?_
    refine wseq ?_
    refine wreg ?_
    obtain ⟨x47, hx47, hF⟩ := Option.bind_eq_some_iff.1 hF
    obtain ⟨b48, j49, hix50, hil51, hA52⟩ := (hs1.mono hleH36).ixf hx47
    replace hA52 : At H36 b48 j49 [ckS x47] := hA52
    refine lv (v := .pointer (some ⟨b48, j49 + 0, none⟩)) rfl (r_ixt rfl sl199 h44 h46 rfl hix50 hil51) rfl ?_
    refine lv (v := strv x47) rfl (r_cl1 (off := 0) (p := 0) (hA52.ca hI.good) rfl sc9 rfl rfl rfl) rfl ?_
    refine lv (v := strv x47) rfl (r_as rfl rfl) rfl ?_
    refine wend ?_
    refine wthen ?_
    refine wren (fun ρ53 eρ53 => ?_)
    have h54 : opd ρ53 15 (.tmp 4) = strv x47 := eρ53 4
    have h55 : opd ρ53 15 (.tmp 5) = s1.v := (eρ53 5).trans h44
    have h56 : opd ρ53 15 (.tmp 6) = .int .i64 (a0.length : Int) := (eρ53 6).trans h45
    have h57 : opd ρ53 15 (.tmp 7) = .int .i64 (i8 : Int) := (eρ53 7).trans h46
    clear eρ53
    refine wseq ?_
    refine wreg ?_
    refine lv (v := strv x47) rfl (r_mv rfl h54) rfl ?_
    refine lv (v := .int .i64 (x47.length : Int)) rfl (r_lenT rfl un9 rfl) rfl ?_
    refine lv (v := .bool (decide ((1024 : Int) < (x47.length : Int)))) rfl (r_gtr rfl rfl rfl rfl) rfl ?_
    refine wend ?_
    refine wthen ?_
    refine wren (fun ρ58 eρ58 => ?_)
    have h59 : opd ρ58 15 (.tmp 5) = s1.v := (eρ58 5).trans h55
    have h60 : opd ρ58 15 (.tmp 6) = .int .i64 (a0.length : Int) := (eρ58 6).trans h56
    have h61 : opd ρ58 15 (.tmp 7) = .int .i64 (i8 : Int) := (eρ58 7).trans h57
    have h62 : opd ρ58 15 (.tmp 13) = .bool (decide ((1024 : Int) < (x47.length : Int))) := eρ58 13
    clear eρ58
    by_cases hc63 : (1024 : Int) < (x47.length : Int)
    · skip
      rw [if_pos hc63] at hF
      have hbhc63 : (decide ((1024 : Int) < (x47.length : Int))) = true := decide_eq_true hc63
      refine wcT (h62.trans (congrArg Value.bool hbhc63)) ?_
      refine wseq ?_
      refine wreg ?_
      refine lv (v := .bool false) rfl (r_as rfl rfl) rfl ?_
      refine wend ?_
      refine wthen ?_
      refine wren (fun ρ64 eρ64 => ?_)
      have h65 : opd ρ64 15 (.tmp 2) = .bool false := eρ64 2
      clear eρ64
      refine wp_ret ?_
      refine inR ?_
      refine thR ?_
      refine thR ?_
      obtain ⟨q66, hFn, hzq66⟩ := Option.map_eq_some_iff.1 hF
      clear hF
      obtain rfl := forK_inr hy8 (hb8.trans (congrArg some hzq66.symm))
      have hF0 := hF8
      try dsimp only at hF0
      have hF := hFn.trans hF0
      clear hFn hF0
      refine inR ?_
      refine thR ?_
      obtain rfl := Option.some.inj hF
      subst hB
      refine finR (rs := [.tmp 2]) (vs := [.bool false]) rfl ⟨h65, trivial⟩ ?_
      exact hI.fin 0 ⟨rfl, rfl⟩
    · skip
      rw [if_neg hc63] at hF
      have hbhc63 : (decide ((1024 : Int) < (x47.length : Int))) = false := decide_eq_false hc63
      refine wcF (h62.trans (congrArg Value.bool hbhc63)) ?_
      refine wp_skip ?_
      refine inN ?_
      refine wthen ?_
      refine wreg ?_
      refine lv (v := .int .i64 ((i8 + 1 : Nat) : Int)) rfl (r_addn rfl h61 rfl hlt8) rfl ?_
      refine lv (v := .int .i64 ((i8 + 1 : Nat) : Int)) rfl (r_mv rfl rfl) rfl ?_
      refine wend ?_
      obtain rfl := Option.some.inj hF
      exact ⟨k8, (), _, rfl, rfl, ⟨H36, hleH36, h59, h60, rfl, hI⟩, forK_inl hy8 hb8⟩
  · skip
    have hbhc42 : (decide ((i8 : Int) < (a0.length : Int))) = false := decide_eq_false hc42
    obtain rfl : k8 = 0 := by omega
    obtain rfl := forK_end hy8
    have hF := hF8
    try dsimp only at hF
    refine wcF ((show opd _ _ _ = _ from rfl).trans (congrArg Value.bool hbhc42)) ?_
    refine wp_exit ?_
    refine thE ?_
    refine thE ?_
    refine inX ?_
    refine wthen ?_
    refine wren (fun ρ67 eρ67 => ?_)
    clear eρ67
    refine wseq ?_
    refine wreg ?_
    refine lv (v := .bool true) rfl (r_as rfl rfl) rfl ?_
    refine wend ?_
    refine wthen ?_
    refine wren (fun ρ68 eρ68 => ?_)
    have h69 : opd ρ68 15 (.tmp 2) = .bool true := eρ68 2
    clear eρ68
    refine wp_ret ?_
    obtain rfl := Option.some.inj hF
    subst hB
    refine finR (rs := [.tmp 2]) (vs := [.bool true]) rfl ⟨h69, trivial⟩ ?_
    exact hI.fin 0 ⟨rfl, rfl⟩
noncomputable def M_request_Good (a0 : Request) : Option (Bool) := (if (1 : Int) ≤ a0.Client then (if a0.Client ≤ 64 then (if (1 : Int) ≤ a0.Num then (if a0.Num ≤ 1099511627776 then (if (1 : Int) ≤ a0.Op.Kind then (if a0.Op.Kind ≤ 7 then ((M_request_short [a0.Op.Key, a0.Op.Val, a0.Op.Old]).bind fun x20 => some x20) else some false) else some false) else some false) else some false) else some false) else some false)
set_option maxHeartbeats 4000000 in
theorem spec_136 {w : World} {H : Hp} {a0 : Request}  {r : Bool} (hF : M_request_Good a0 = some r) (hT : Tab H) (hG : Good w H [])  :
    Fine Tryd.prog 136 [.agg (flat [ckI a0.Client, ckI a0.Num, ckI a0.Op.Kind, ckS a0.Op.Key, ckS a0.Op.Val, ckS a0.Op.Old, ckI a0.Op.Change.Kind, ckI a0.Op.Change.Id, ckI a0.Op.Change.New, ckV flB a0.Op.Change.Key.Root, ckI a0.Op.Change.Key.Height]).toArray] w H [] (fun H' v L' => v = .bool r ∧ L' = []) := by
  unfold M_request_Good at hF
  unfold Fine
  obtain ⟨B, hB⟩ : ∃ B : Base, B = ⟨w, H, blks []⟩ := ⟨_, rfl⟩
  have hI : Inv B w H [] := by rw [hB]; exact Inv.start hG
  refine enter (n := 44) (args := [.agg (flat [ckI a0.Client, ckI a0.Num, ckI a0.Op.Kind, ckS a0.Op.Key, ckS a0.Op.Val, ckS a0.Op.Old, ckI a0.Op.Change.Kind, ckI a0.Op.Change.Id, ckI a0.Op.Change.New, ckV flB a0.Op.Change.Key.Root, ckI a0.Op.Change.Key.Height]).toArray]) Tryd.func136 rfl Tryd.ntmps136 (Nat.le_of_ble_eq_true rfl) ?_
  refine wseq ?_
  refine wreg ?_
  refine le rfl (l_box (cks := [ckI a0.Client, ckI a0.Num, ckI a0.Op.Kind, ckS a0.Op.Key, ckS a0.Op.Val, ckS a0.Op.Old, ckI a0.Op.Change.Kind, ckI a0.Op.Change.Id, ckI a0.Op.Change.New, ckV flB a0.Op.Change.Key.Root, ckI a0.Op.Change.Key.Height]) hI rfl rfl rfl) rfl ?_
  rintro _ w2 ⟨g1, rfl, hI⟩
  replace hI : Inv B w2 H [.cb g1 [ckI a0.Client, ckI a0.Num, ckI a0.Op.Kind, ckS a0.Op.Key, ckS a0.Op.Val, ckS a0.Op.Old, ckI a0.Op.Change.Kind, ckI a0.Op.Change.Id, ckI a0.Op.Change.New, ckV flB a0.Op.Change.Key.Root, ckI a0.Op.Change.Key.Height] 192] := hI
  refine lv (v := .bool false) rfl (r_as rfl rfl) rfl ?_
  refine wend ?_
  refine wthen ?_
  refine wren (fun ρ3 eρ3 => ?_)
  have h4 : opd ρ3 44 (.tmp 1) = .pointer (some ⟨g1, 0 + 0, none⟩) := eρ3 1
  clear eρ3
  refine wseq ?_
  refine wreg ?_
  refine lv (v := .pointer (some ⟨g1, 0 + 2, none⟩)) rfl (l_fa (j := 0) (i := 0) rfl fl192_2 h4 rfl) rfl ?_
  refine lv (v := .agg (flat [ckI a0.Op.Kind, ckS a0.Op.Key, ckS a0.Op.Val, ckS a0.Op.Old, ckI a0.Op.Change.Kind, ckI a0.Op.Change.Id, ckI a0.Op.Change.New, ckV flB a0.Op.Change.Key.Root, ckI a0.Op.Change.Key.Height]).toArray) rfl (r_cla (off := 2) (p := 2) (m := 9) (hI.good.ca 0 rfl) rfl ag190 rfl rfl rfl) rfl ?_
  refine le rfl (l_al hI rfl ze190) rfl ?_
  rintro _ w6 ⟨g5, rfl, hI⟩
  replace hI : Inv B w6 H [.cb g1 [ckI a0.Client, ckI a0.Num, ckI a0.Op.Kind, ckS a0.Op.Key, ckS a0.Op.Val, ckS a0.Op.Old, ckI a0.Op.Change.Kind, ckI a0.Op.Change.Id, ckI a0.Op.Change.New, ckV flB a0.Op.Change.Key.Root, ckI a0.Op.Change.Key.Height] 192, .cb g5 [ckI 0, ckS [], ckS [], ckS [], ckI 0, ckI 0, ckI 0, ckV flB (Vec.rep 32 0), ckI 0] 190] := hI
  refine lst rfl (l_st (off := 0) (p := 0) (m := 9) (new := [ckI a0.Op.Kind, ckS a0.Op.Key, ckS a0.Op.Val, ckS a0.Op.Old, ckI a0.Op.Change.Kind, ckI a0.Op.Change.Id, ckI a0.Op.Change.New, ckV flB a0.Op.Change.Key.Root, ckI a0.Op.Change.Key.Height]) hI 1 rfl rfl sz190 rfl rfl rfl rfl rfl rfl) rfl ?_
  intro w7 hI
  replace hI : Inv B w7 H [.cb g1 [ckI a0.Client, ckI a0.Num, ckI a0.Op.Kind, ckS a0.Op.Key, ckS a0.Op.Val, ckS a0.Op.Old, ckI a0.Op.Change.Kind, ckI a0.Op.Change.Id, ckI a0.Op.Change.New, ckV flB a0.Op.Change.Key.Root, ckI a0.Op.Change.Key.Height] 192, .cb g5 [ckI a0.Op.Kind, ckS a0.Op.Key, ckS a0.Op.Val, ckS a0.Op.Old, ckI a0.Op.Change.Kind, ckI a0.Op.Change.Id, ckI a0.Op.Change.New, ckV flB a0.Op.Change.Key.Root, ckI a0.Op.Change.Key.Height] 190] := hI
  refine wend ?_
  refine wthen ?_
  refine wren (fun ρ8 eρ8 => ?_)
  have h9 : opd ρ8 44 (.tmp 1) = .pointer (some ⟨g1, 0 + 0, none⟩) := (eρ8 1).trans h4
  have h10 : opd ρ8 44 (.tmp 3) = .pointer (some ⟨g5, 0 + 0, none⟩) := eρ8 3
  clear eρ8
  refine wseq ?_
  refine wreg ?_
  refine lv (v := .pointer (some ⟨g1, 0 + 0, none⟩)) rfl (l_fa (j := 0) (i := 0) rfl fl192_0 h9 rfl) rfl ?_
  refine lv (v := .int .i64 a0.Client) rfl (r_cl1 (off := 0) (p := 0) (hI.good.ca 0 rfl) rfl sc3 rfl rfl rfl) rfl ?_
  refine lv (v := .bool (decide ((1 : Int) ≤ a0.Client))) rfl (r_geq rfl rfl rfl rfl) rfl ?_
  by_cases hc11 : (1 : Int) ≤ a0.Client
  · skip
    rw [if_pos hc11] at hF
    have hbhc11 : (decide ((1 : Int) ≤ a0.Client)) = true := decide_eq_true hc11
    refine lv (v := .bool true) rfl (r_mv rfl ((show opd _ _ _ = _ from rfl).trans (congrArg Value.bool hbhc11))) rfl ?_
    refine lv (v := .pointer (some ⟨g1, 0 + 0, none⟩)) rfl (l_fa (j := 0) (i := 0) rfl fl192_0 h9 rfl) rfl ?_
    refine lv (v := .int .i64 a0.Client) rfl (r_cl1 (off := 0) (p := 0) (hI.good.ca 0 rfl) rfl sc3 rfl rfl rfl) rfl ?_
    refine lv (v := .bool (decide (a0.Client ≤ 64))) rfl (r_leq rfl rfl rfl rfl) rfl ?_
    refine lv (v := .bool (decide (a0.Client ≤ 64))) rfl (r_pkT rfl rfl rfl) rfl ?_
    by_cases hc12 : a0.Client ≤ 64
    · skip
      rw [if_pos hc12] at hF
      have hbhc12 : (decide (a0.Client ≤ 64)) = true := decide_eq_true hc12
      refine lv (v := .bool true) rfl (r_mv rfl ((show opd _ _ _ = _ from rfl).trans (congrArg Value.bool hbhc12))) rfl ?_
      refine lv (v := .pointer (some ⟨g1, 0 + 1, none⟩)) rfl (l_fa (j := 0) (i := 0) rfl fl192_1 h9 rfl) rfl ?_
      refine lv (v := .int .i64 a0.Num) rfl (r_cl1 (off := 1) (p := 1) (hI.good.ca 0 rfl) rfl sc3 rfl rfl rfl) rfl ?_
      refine lv (v := .bool (decide ((1 : Int) ≤ a0.Num))) rfl (r_geq rfl rfl rfl rfl) rfl ?_
      refine lv (v := .bool (decide ((1 : Int) ≤ a0.Num))) rfl (r_pkT rfl rfl rfl) rfl ?_
      by_cases hc13 : (1 : Int) ≤ a0.Num
      · skip
        rw [if_pos hc13] at hF
        have hbhc13 : (decide ((1 : Int) ≤ a0.Num)) = true := decide_eq_true hc13
        refine lv (v := .bool true) rfl (r_mv rfl ((show opd _ _ _ = _ from rfl).trans (congrArg Value.bool hbhc13))) rfl ?_
        refine lv (v := .pointer (some ⟨g1, 0 + 1, none⟩)) rfl (l_fa (j := 0) (i := 0) rfl fl192_1 h9 rfl) rfl ?_
        refine lv (v := .int .i64 a0.Num) rfl (r_cl1 (off := 1) (p := 1) (hI.good.ca 0 rfl) rfl sc3 rfl rfl rfl) rfl ?_
        refine lv (v := .bool (decide (a0.Num ≤ 1099511627776))) rfl (r_leq rfl rfl rfl rfl) rfl ?_
        refine lv (v := .bool (decide (a0.Num ≤ 1099511627776))) rfl (r_pkT rfl rfl rfl) rfl ?_
        by_cases hc14 : a0.Num ≤ 1099511627776
        · skip
          rw [if_pos hc14] at hF
          have hbhc14 : (decide (a0.Num ≤ 1099511627776)) = true := decide_eq_true hc14
          refine lv (v := .bool true) rfl (r_mv rfl ((show opd _ _ _ = _ from rfl).trans (congrArg Value.bool hbhc14))) rfl ?_
          refine lv (v := .pointer (some ⟨g5, 0 + 0, none⟩)) rfl (l_fa (j := 0) (i := 0) rfl fl190_0 h10 rfl) rfl ?_
          refine lv (v := .int .i64 a0.Op.Kind) rfl (r_cl1 (off := 0) (p := 0) (hI.good.ca 1 rfl) rfl sc3 rfl rfl rfl) rfl ?_
          refine lv (v := .bool (decide ((1 : Int) ≤ a0.Op.Kind))) rfl (r_geq rfl rfl rfl rfl) rfl ?_
          refine lv (v := .bool (decide ((1 : Int) ≤ a0.Op.Kind))) rfl (r_pkT rfl rfl rfl) rfl ?_
          by_cases hc15 : (1 : Int) ≤ a0.Op.Kind
          · skip
            rw [if_pos hc15] at hF
            have hbhc15 : (decide ((1 : Int) ≤ a0.Op.Kind)) = true := decide_eq_true hc15
            refine lv (v := .bool true) rfl (r_mv rfl ((show opd _ _ _ = _ from rfl).trans (congrArg Value.bool hbhc15))) rfl ?_
            refine lv (v := .pointer (some ⟨g5, 0 + 0, none⟩)) rfl (l_fa (j := 0) (i := 0) rfl fl190_0 h10 rfl) rfl ?_
            refine lv (v := .int .i64 a0.Op.Kind) rfl (r_cl1 (off := 0) (p := 0) (hI.good.ca 1 rfl) rfl sc3 rfl rfl rfl) rfl ?_
            refine lv (v := .bool (decide (a0.Op.Kind ≤ 7))) rfl (r_leq rfl rfl rfl rfl) rfl ?_
            refine lv (v := .bool (decide (a0.Op.Kind ≤ 7))) rfl (r_pkT rfl rfl rfl) rfl ?_
            by_cases hc16 : a0.Op.Kind ≤ 7
            · skip
              rw [if_pos hc16] at hF
              have hbhc16 : (decide (a0.Op.Kind ≤ 7)) = true := decide_eq_true hc16
              refine lv (v := .bool true) rfl (r_mv rfl ((show opd _ _ _ = _ from rfl).trans (congrArg Value.bool hbhc16))) rfl ?_
              refine lv (v := .pointer (some ⟨g5, 0 + 1, none⟩)) rfl (l_fa (j := 0) (i := 0) rfl fl190_1 h10 rfl) rfl ?_
              refine lv (v := strv a0.Op.Key) rfl (r_cl1 (off := 1) (p := 1) (hI.good.ca 1 rfl) rfl sc9 rfl rfl rfl) rfl ?_
              refine lv (v := .pointer (some ⟨g5, 0 + 2, none⟩)) rfl (l_fa (j := 0) (i := 0) rfl fl190_2 h10 rfl) rfl ?_
              refine lv (v := strv a0.Op.Val) rfl (r_cl1 (off := 2) (p := 2) (hI.good.ca 1 rfl) rfl sc9 rfl rfl rfl) rfl ?_
              refine lv (v := .pointer (some ⟨g5, 0 + 3, none⟩)) rfl (l_fa (j := 0) (i := 0) rfl fl190_3 h10 rfl) rfl ?_
              refine lv (v := strv a0.Op.Old) rfl (r_cl1 (off := 3) (p := 3) (hI.good.ca 1 rfl) rfl sc9 rfl rfl rfl) rfl ?_
              refine le rfl (l_bs (t := (Fl.ty flS)) (vs := [strv a0.Op.Key, strv a0.Op.Val, strv a0.Op.Old]) (xs := [a0.Op.Key, a0.Op.Val, a0.Op.Old]) hI rfl sl199 inf9 rfl rfl (argc rfl (argc rfl (argc rfl rfl))) (.cons rfl rfl (.cons rfl rfl (.cons rfl rfl .nil))) rfl) rfl ?_
              rintro _ w19 ⟨s17, H18, rfl, hI, hleH18, hs17, hfs17, hgs17⟩
              obtain ⟨x20, hx20, hF⟩ := Option.bind_eq_some_iff.1 hF
              have hsp23 := spec_160 hx20 (hT.mono hleH18) (hI.part 0) hs17
              refine fc ([]) ([.cb g1 [ckI a0.Client, ckI a0.Num, ckI a0.Op.Kind, ckS a0.Op.Key, ckS a0.Op.Val, ckS a0.Op.Old, ckI a0.Op.Change.Kind, ckI a0.Op.Change.Id, ckI a0.Op.Change.New, ckV flB a0.Op.Change.Key.Root, ckI a0.Op.Change.Key.Height] 192, .cb g5 [ckI a0.Op.Kind, ckS a0.Op.Key, ckS a0.Op.Val, ckS a0.Op.Old, ckI a0.Op.Change.Kind, ckI a0.Op.Change.Id, ckI a0.Op.Change.New, ckV flB a0.Op.Change.Key.Root, ckI a0.Op.Change.Key.Height] 190]) (args := [s17.v]) fc160 rfl rfl rfl hI (argc rfl rfl) (hsp23) ?_
              rintro _ H21 _ w22 ⟨rfl, rfl⟩ hleH21 hI
              replace hI : Inv B w22 H21 [.cb g1 [ckI a0.Client, ckI a0.Num, ckI a0.Op.Kind, ckS a0.Op.Key, ckS a0.Op.Val, ckS a0.Op.Old, ckI a0.Op.Change.Kind, ckI a0.Op.Change.Id, ckI a0.Op.Change.New, ckV flB a0.Op.Change.Key.Root, ckI a0.Op.Change.Key.Height] 192, .cb g5 [ckI a0.Op.Kind, ckS a0.Op.Key, ckS a0.Op.Val, ckS a0.Op.Old, ckI a0.Op.Change.Kind, ckI a0.Op.Change.Id, ckI a0.Op.Change.New, ckV flB a0.Op.Change.Key.Root, ckI a0.Op.Change.Key.Height] 190] := hI
              refine lv (v := .bool x20) rfl (r_pkT rfl rfl rfl) rfl ?_
              refine lv (v := .bool x20) rfl (r_as rfl rfl) rfl ?_
              refine wend ?_
              refine wthen ?_
              refine wren (fun ρ24 eρ24 => ?_)
              have h25 : opd ρ24 44 (.tmp 2) = .bool x20 := eρ24 2
              clear eρ24
              refine wp_ret ?_
              obtain rfl := Option.some.inj hF
              subst hB
              refine finR (rs := [.tmp 2]) (vs := [.bool x20]) rfl ⟨h25, trivial⟩ ?_
              exact hI.fin 0 ⟨rfl, rfl⟩
            · skip
              rw [if_neg hc16] at hF
              have hbhc16 : (decide (a0.Op.Kind ≤ 7)) = false := decide_eq_false hc16
              refine lv (v := .bool false) rfl (r_mv rfl ((show opd _ _ _ = _ from rfl).trans (congrArg Value.bool hbhc16))) rfl ?_
              with_reducible refine lx (d := 35) (by kernel_rfl) (by kernel_rfl) ?_
              with_reducible refine lx (d := 36) (by kernel_rfl) (by kernel_rfl) ?_
              with_reducible refine lx (d := 37) (by kernel_rfl) (by kernel_rfl) ?_
              with_reducible refine lx (d := 38) (by kernel_rfl) (by kernel_rfl) ?_
              with_reducible refine lx (d := 39) (by kernel_rfl) (by kernel_rfl) ?_
              with_reducible refine lx (d := 40) (by kernel_rfl) (by kernel_rfl) ?_
              with_reducible refine lx (d := 41) (by kernel_rfl) (by kernel_rfl) ?_
              with_reducible refine lx (d := 42) (by kernel_rfl) (by kernel_rfl) ?_
              refine lv (v := .bool false) rfl (r_pkF rfl rfl rfl) rfl ?_
              refine lv (v := .bool false) rfl (r_as rfl rfl) rfl ?_
              refine wend ?_
              refine wthen ?_
              refine wren (fun ρ26 eρ26 => ?_)
              have h27 : opd ρ26 44 (.tmp 2) = .bool false := eρ26 2
              clear eρ26
              refine wp_ret ?_
              obtain rfl := Option.some.inj hF
              subst hB
              refine finR (rs := [.tmp 2]) (vs := [.bool false]) rfl ⟨h27, trivial⟩ ?_
              exact hI.fin 0 ⟨rfl, rfl⟩
          · skip
            rw [if_neg hc15] at hF
            have hbhc15 : (decide ((1 : Int) ≤ a0.Op.Kind)) = false := decide_eq_false hc15
            refine lv (v := .bool false) rfl (r_mv rfl ((show opd _ _ _ = _ from rfl).trans (congrArg Value.bool hbhc15))) rfl ?_
            with_reducible refine lx (d := 30) (by kernel_rfl) (by kernel_rfl) ?_
            with_reducible refine lx (d := 31) (by kernel_rfl) (by kernel_rfl) ?_
            with_reducible refine lx (d := 32) (by kernel_rfl) (by kernel_rfl) ?_
            refine lv (v := .bool false) rfl (r_pkF rfl rfl rfl) rfl ?_
            refine lv (v := .bool false) rfl (r_mv rfl rfl) rfl ?_
            with_reducible refine lx (d := 35) (by kernel_rfl) (by kernel_rfl) ?_
            with_reducible refine lx (d := 36) (by kernel_rfl) (by kernel_rfl) ?_
            with_reducible refine lx (d := 37) (by kernel_rfl) (by kernel_rfl) ?_
            with_reducible refine lx (d := 38) (by kernel_rfl) (by kernel_rfl) ?_
            with_reducible refine lx (d := 39) (by kernel_rfl) (by kernel_rfl) ?_
            with_reducible refine lx (d := 40) (by kernel_rfl) (by kernel_rfl) ?_
            with_reducible refine lx (d := 41) (by kernel_rfl) (by kernel_rfl) ?_
            with_reducible refine lx (d := 42) (by kernel_rfl) (by kernel_rfl) ?_
            refine lv (v := .bool false) rfl (r_pkF rfl rfl rfl) rfl ?_
            refine lv (v := .bool false) rfl (r_as rfl rfl) rfl ?_
            refine wend ?_
            refine wthen ?_
            refine wren (fun ρ28 eρ28 => ?_)
            have h29 : opd ρ28 44 (.tmp 2) = .bool false := eρ28 2
            clear eρ28
            refine wp_ret ?_
            obtain rfl := Option.some.inj hF
            subst hB
            refine finR (rs := [.tmp 2]) (vs := [.bool false]) rfl ⟨h29, trivial⟩ ?_
            exact hI.fin 0 ⟨rfl, rfl⟩
        · skip
          rw [if_neg hc14] at hF
          have hbhc14 : (decide (a0.Num ≤ 1099511627776)) = false := decide_eq_false hc14
          refine lv (v := .bool false) rfl (r_mv rfl ((show opd _ _ _ = _ from rfl).trans (congrArg Value.bool hbhc14))) rfl ?_
          with_reducible refine lx (d := 25) (by kernel_rfl) (by kernel_rfl) ?_
          with_reducible refine lx (d := 26) (by kernel_rfl) (by kernel_rfl) ?_
          with_reducible refine lx (d := 27) (by kernel_rfl) (by kernel_rfl) ?_
          refine lv (v := .bool false) rfl (r_pkF rfl rfl rfl) rfl ?_
          refine lv (v := .bool false) rfl (r_mv rfl rfl) rfl ?_
          with_reducible refine lx (d := 30) (by kernel_rfl) (by kernel_rfl) ?_
          with_reducible refine lx (d := 31) (by kernel_rfl) (by kernel_rfl) ?_
          with_reducible refine lx (d := 32) (by kernel_rfl) (by kernel_rfl) ?_
          refine lv (v := .bool false) rfl (r_pkF rfl rfl rfl) rfl ?_
          refine lv (v := .bool false) rfl (r_mv rfl rfl) rfl ?_
          with_reducible refine lx (d := 35) (by kernel_rfl) (by kernel_rfl) ?_
          with_reducible refine lx (d := 36) (by kernel_rfl) (by kernel_rfl) ?_
          with_reducible refine lx (d := 37) (by kernel_rfl) (by kernel_rfl) ?_
          with_reducible refine lx (d := 38) (by kernel_rfl) (by kernel_rfl) ?_
          with_reducible refine lx (d := 39) (by kernel_rfl) (by kernel_rfl) ?_
          with_reducible refine lx (d := 40) (by kernel_rfl) (by kernel_rfl) ?_
          with_reducible refine lx (d := 41) (by kernel_rfl) (by kernel_rfl) ?_
          with_reducible refine lx (d := 42) (by kernel_rfl) (by kernel_rfl) ?_
          refine lv (v := .bool false) rfl (r_pkF rfl rfl rfl) rfl ?_
          refine lv (v := .bool false) rfl (r_as rfl rfl) rfl ?_
          refine wend ?_
          refine wthen ?_
          refine wren (fun ρ30 eρ30 => ?_)
          have h31 : opd ρ30 44 (.tmp 2) = .bool false := eρ30 2
          clear eρ30
          refine wp_ret ?_
          obtain rfl := Option.some.inj hF
          subst hB
          refine finR (rs := [.tmp 2]) (vs := [.bool false]) rfl ⟨h31, trivial⟩ ?_
          exact hI.fin 0 ⟨rfl, rfl⟩
      · skip
        rw [if_neg hc13] at hF
        have hbhc13 : (decide ((1 : Int) ≤ a0.Num)) = false := decide_eq_false hc13
        refine lv (v := .bool false) rfl (r_mv rfl ((show opd _ _ _ = _ from rfl).trans (congrArg Value.bool hbhc13))) rfl ?_
        with_reducible refine lx (d := 20) (by kernel_rfl) (by kernel_rfl) ?_
        with_reducible refine lx (d := 21) (by kernel_rfl) (by kernel_rfl) ?_
        with_reducible refine lx (d := 22) (by kernel_rfl) (by kernel_rfl) ?_
        refine lv (v := .bool false) rfl (r_pkF rfl rfl rfl) rfl ?_
        refine lv (v := .bool false) rfl (r_mv rfl rfl) rfl ?_
        with_reducible refine lx (d := 25) (by kernel_rfl) (by kernel_rfl) ?_
        with_reducible refine lx (d := 26) (by kernel_rfl) (by kernel_rfl) ?_
        with_reducible refine lx (d := 27) (by kernel_rfl) (by kernel_rfl) ?_
        refine lv (v := .bool false) rfl (r_pkF rfl rfl rfl) rfl ?_
        refine lv (v := .bool false) rfl (r_mv rfl rfl) rfl ?_
        with_reducible refine lx (d := 30) (by kernel_rfl) (by kernel_rfl) ?_
        with_reducible refine lx (d := 31) (by kernel_rfl) (by kernel_rfl) ?_
        with_reducible refine lx (d := 32) (by kernel_rfl) (by kernel_rfl) ?_
        refine lv (v := .bool false) rfl (r_pkF rfl rfl rfl) rfl ?_
        refine lv (v := .bool false) rfl (r_mv rfl rfl) rfl ?_
        with_reducible refine lx (d := 35) (by kernel_rfl) (by kernel_rfl) ?_
        with_reducible refine lx (d := 36) (by kernel_rfl) (by kernel_rfl) ?_
        with_reducible refine lx (d := 37) (by kernel_rfl) (by kernel_rfl) ?_
        with_reducible refine lx (d := 38) (by kernel_rfl) (by kernel_rfl) ?_
        with_reducible refine lx (d := 39) (by kernel_rfl) (by kernel_rfl) ?_
        with_reducible refine lx (d := 40) (by kernel_rfl) (by kernel_rfl) ?_
        with_reducible refine lx (d := 41) (by kernel_rfl) (by kernel_rfl) ?_
        with_reducible refine lx (d := 42) (by kernel_rfl) (by kernel_rfl) ?_
        refine lv (v := .bool false) rfl (r_pkF rfl rfl rfl) rfl ?_
        refine lv (v := .bool false) rfl (r_as rfl rfl) rfl ?_
        refine wend ?_
        refine wthen ?_
        refine wren (fun ρ32 eρ32 => ?_)
        have h33 : opd ρ32 44 (.tmp 2) = .bool false := eρ32 2
        clear eρ32
        refine wp_ret ?_
        obtain rfl := Option.some.inj hF
        subst hB
        refine finR (rs := [.tmp 2]) (vs := [.bool false]) rfl ⟨h33, trivial⟩ ?_
        exact hI.fin 0 ⟨rfl, rfl⟩
    · skip
      rw [if_neg hc12] at hF
      have hbhc12 : (decide (a0.Client ≤ 64)) = false := decide_eq_false hc12
      refine lv (v := .bool false) rfl (r_mv rfl ((show opd _ _ _ = _ from rfl).trans (congrArg Value.bool hbhc12))) rfl ?_
      with_reducible refine lx (d := 15) (by kernel_rfl) (by kernel_rfl) ?_
      with_reducible refine lx (d := 16) (by kernel_rfl) (by kernel_rfl) ?_
      with_reducible refine lx (d := 17) (by kernel_rfl) (by kernel_rfl) ?_
      refine lv (v := .bool false) rfl (r_pkF rfl rfl rfl) rfl ?_
      refine lv (v := .bool false) rfl (r_mv rfl rfl) rfl ?_
      with_reducible refine lx (d := 20) (by kernel_rfl) (by kernel_rfl) ?_
      with_reducible refine lx (d := 21) (by kernel_rfl) (by kernel_rfl) ?_
      with_reducible refine lx (d := 22) (by kernel_rfl) (by kernel_rfl) ?_
      refine lv (v := .bool false) rfl (r_pkF rfl rfl rfl) rfl ?_
      refine lv (v := .bool false) rfl (r_mv rfl rfl) rfl ?_
      with_reducible refine lx (d := 25) (by kernel_rfl) (by kernel_rfl) ?_
      with_reducible refine lx (d := 26) (by kernel_rfl) (by kernel_rfl) ?_
      with_reducible refine lx (d := 27) (by kernel_rfl) (by kernel_rfl) ?_
      refine lv (v := .bool false) rfl (r_pkF rfl rfl rfl) rfl ?_
      refine lv (v := .bool false) rfl (r_mv rfl rfl) rfl ?_
      with_reducible refine lx (d := 30) (by kernel_rfl) (by kernel_rfl) ?_
      with_reducible refine lx (d := 31) (by kernel_rfl) (by kernel_rfl) ?_
      with_reducible refine lx (d := 32) (by kernel_rfl) (by kernel_rfl) ?_
      refine lv (v := .bool false) rfl (r_pkF rfl rfl rfl) rfl ?_
      refine lv (v := .bool false) rfl (r_mv rfl rfl) rfl ?_
      with_reducible refine lx (d := 35) (by kernel_rfl) (by kernel_rfl) ?_
      with_reducible refine lx (d := 36) (by kernel_rfl) (by kernel_rfl) ?_
      with_reducible refine lx (d := 37) (by kernel_rfl) (by kernel_rfl) ?_
      with_reducible refine lx (d := 38) (by kernel_rfl) (by kernel_rfl) ?_
      with_reducible refine lx (d := 39) (by kernel_rfl) (by kernel_rfl) ?_
      with_reducible refine lx (d := 40) (by kernel_rfl) (by kernel_rfl) ?_
      with_reducible refine lx (d := 41) (by kernel_rfl) (by kernel_rfl) ?_
      with_reducible refine lx (d := 42) (by kernel_rfl) (by kernel_rfl) ?_
      refine lv (v := .bool false) rfl (r_pkF rfl rfl rfl) rfl ?_
      refine lv (v := .bool false) rfl (r_as rfl rfl) rfl ?_
      refine wend ?_
      refine wthen ?_
      refine wren (fun ρ34 eρ34 => ?_)
      have h35 : opd ρ34 44 (.tmp 2) = .bool false := eρ34 2
      clear eρ34
      refine wp_ret ?_
      obtain rfl := Option.some.inj hF
      subst hB
      refine finR (rs := [.tmp 2]) (vs := [.bool false]) rfl ⟨h35, trivial⟩ ?_
      exact hI.fin 0 ⟨rfl, rfl⟩
  · skip
    rw [if_neg hc11] at hF
    have hbhc11 : (decide ((1 : Int) ≤ a0.Client)) = false := decide_eq_false hc11
    refine lv (v := .bool false) rfl (r_mv rfl ((show opd _ _ _ = _ from rfl).trans (congrArg Value.bool hbhc11))) rfl ?_
    with_reducible refine lx (d := 10) (by kernel_rfl) (by kernel_rfl) ?_
    with_reducible refine lx (d := 11) (by kernel_rfl) (by kernel_rfl) ?_
    with_reducible refine lx (d := 12) (by kernel_rfl) (by kernel_rfl) ?_
    refine lv (v := .bool false) rfl (r_pkF rfl rfl rfl) rfl ?_
    refine lv (v := .bool false) rfl (r_mv rfl rfl) rfl ?_
    with_reducible refine lx (d := 15) (by kernel_rfl) (by kernel_rfl) ?_
    with_reducible refine lx (d := 16) (by kernel_rfl) (by kernel_rfl) ?_
    with_reducible refine lx (d := 17) (by kernel_rfl) (by kernel_rfl) ?_
    refine lv (v := .bool false) rfl (r_pkF rfl rfl rfl) rfl ?_
    refine lv (v := .bool false) rfl (r_mv rfl rfl) rfl ?_
    with_reducible refine lx (d := 20) (by kernel_rfl) (by kernel_rfl) ?_
    with_reducible refine lx (d := 21) (by kernel_rfl) (by kernel_rfl) ?_
    with_reducible refine lx (d := 22) (by kernel_rfl) (by kernel_rfl) ?_
    refine lv (v := .bool false) rfl (r_pkF rfl rfl rfl) rfl ?_
    refine lv (v := .bool false) rfl (r_mv rfl rfl) rfl ?_
    with_reducible refine lx (d := 25) (by kernel_rfl) (by kernel_rfl) ?_
    with_reducible refine lx (d := 26) (by kernel_rfl) (by kernel_rfl) ?_
    with_reducible refine lx (d := 27) (by kernel_rfl) (by kernel_rfl) ?_
    refine lv (v := .bool false) rfl (r_pkF rfl rfl rfl) rfl ?_
    refine lv (v := .bool false) rfl (r_mv rfl rfl) rfl ?_
    with_reducible refine lx (d := 30) (by kernel_rfl) (by kernel_rfl) ?_
    with_reducible refine lx (d := 31) (by kernel_rfl) (by kernel_rfl) ?_
    with_reducible refine lx (d := 32) (by kernel_rfl) (by kernel_rfl) ?_
    refine lv (v := .bool false) rfl (r_pkF rfl rfl rfl) rfl ?_
    refine lv (v := .bool false) rfl (r_mv rfl rfl) rfl ?_
    with_reducible refine lx (d := 35) (by kernel_rfl) (by kernel_rfl) ?_
    with_reducible refine lx (d := 36) (by kernel_rfl) (by kernel_rfl) ?_
    with_reducible refine lx (d := 37) (by kernel_rfl) (by kernel_rfl) ?_
    with_reducible refine lx (d := 38) (by kernel_rfl) (by kernel_rfl) ?_
    with_reducible refine lx (d := 39) (by kernel_rfl) (by kernel_rfl) ?_
    with_reducible refine lx (d := 40) (by kernel_rfl) (by kernel_rfl) ?_
    with_reducible refine lx (d := 41) (by kernel_rfl) (by kernel_rfl) ?_
    with_reducible refine lx (d := 42) (by kernel_rfl) (by kernel_rfl) ?_
    refine lv (v := .bool false) rfl (r_pkF rfl rfl rfl) rfl ?_
    refine lv (v := .bool false) rfl (r_as rfl rfl) rfl ?_
    refine wend ?_
    refine wthen ?_
    refine wren (fun ρ36 eρ36 => ?_)
    have h37 : opd ρ36 44 (.tmp 2) = .bool false := eρ36 2
    clear eρ36
    refine wp_ret ?_
    obtain rfl := Option.some.inj hF
    subst hB
    refine finR (rs := [.tmp 2]) (vs := [.bool false]) rfl ⟨h37, trivial⟩ ?_
    exact hI.fin 0 ⟨rfl, rfl⟩
noncomputable def M_block_Good (a0 : Block) : Option (Bool) := (if a0.Epoch < 0 then some false else (if (1073741824 : Int) < a0.Epoch then some false else (if a0.Height < 1 then some false else (if (1024 : Int) < a0.Height then some false else (if (8 : Int) < (a0.Requests.length : Int) then some false else ((forK (fun (i40 : Nat) (σ40 : Unit) => (((a0.Requests[i40]?).bind fun x86 => ((M_request_Good x86).bind fun x100 => (if x100 = true then some (.inl ()) else ((some false).map Sum.inr)))) : Option (Unit ⊕ Bool))) a0.Requests.length 0 ()).bind fun y => match y with | .inl _ => some true | .inr r => some r))))))
set_option maxHeartbeats 4000000 in
theorem spec_87 {w : World} {H : Hp} {a0 : Block} {s1 : Sv} {r : Bool} (hF : M_block_Good a0 = some r) (hT : Tab H) (hG : Good w H []) (hs1 : Sl (Fl.ty fl_Request) H s1 a0.Requests) :
    Fine Tryd.prog 87 [.agg (flat [ckI a0.Epoch, ckI a0.Height, ckV flB a0.Prev, ckV flB a0.State, ckV flB a0.Next, ckL s1]).toArray] w H [] (fun H' v L' => v = .bool r ∧ L' = []) := by
  unfold M_block_Good at hF
  unfold Fine
  obtain ⟨B, hB⟩ : ∃ B : Base, B = ⟨w, H, blks []⟩ := ⟨_, rfl⟩
  have hI : Inv B w H [] := by rw [hB]; exact Inv.start hG
  refine enter (n := 40) (args := [.agg (flat [ckI a0.Epoch, ckI a0.Height, ckV flB a0.Prev, ckV flB a0.State, ckV flB a0.Next, ckL s1]).toArray]) Tryd.func87 rfl Tryd.ntmps87 (Nat.le_of_ble_eq_true rfl) ?_
  refine wseq ?_
  refine wreg ?_
  refine le rfl (l_box (cks := [ckI a0.Epoch, ckI a0.Height, ckV flB a0.Prev, ckV flB a0.State, ckV flB a0.Next, ckL s1]) hI rfl rfl rfl) rfl ?_
  rintro _ w3 ⟨g2, rfl, hI⟩
  replace hI : Inv B w3 H [.cb g2 [ckI a0.Epoch, ckI a0.Height, ckV flB a0.Prev, ckV flB a0.State, ckV flB a0.Next, ckL s1] 69] := hI
  refine lv (v := .bool false) rfl (r_as rfl rfl) rfl ?_
  refine wend ?_
  refine wthen ?_
  refine wren (fun ρ4 eρ4 => ?_)
  have h5 : opd ρ4 40 (.tmp 1) = .pointer (some ⟨g2, 0 + 0, none⟩) := eρ4 1
  clear eρ4
  refine wseq ?_
  refine wseq ?_
  refine wreg ?_
  refine lv (v := .pointer (some ⟨g2, 0 + 0, none⟩)) rfl (l_fa (j := 0) (i := 0) rfl fl69_0 h5 rfl) rfl ?_
  refine lv (v := .int .i64 a0.Epoch) rfl (r_cl1 (off := 0) (p := 0) (hI.good.ca 0 rfl) rfl sc3 rfl rfl rfl) rfl ?_
  refine lv (v := .bool (decide (a0.Epoch < 0))) rfl (r_lss rfl rfl rfl rfl) rfl ?_
  by_cases hc6 : a0.Epoch < 0
  · skip
    rw [if_pos hc6] at hF
    have hbhc6 : (decide (a0.Epoch < 0)) = true := decide_eq_true hc6
    refine lv (v := .bool true) rfl (r_mv rfl ((show opd _ _ _ = _ from rfl).trans (congrArg Value.bool hbhc6))) rfl ?_
    with_reducible refine lx (d := 9) (by kernel_rfl) (by kernel_rfl) ?_
    with_reducible refine lx (d := 10) (by kernel_rfl) (by kernel_rfl) ?_
    with_reducible refine lx (d := 11) (by kernel_rfl) (by kernel_rfl) ?_
    refine lv (v := .bool true) rfl (r_pkT rfl rfl rfl) rfl ?_
    refine lv (v := .bool true) rfl (r_mv rfl rfl) rfl ?_
    with_reducible refine lx (d := 14) (by kernel_rfl) (by kernel_rfl) ?_
    with_reducible refine lx (d := 15) (by kernel_rfl) (by kernel_rfl) ?_
    with_reducible refine lx (d := 16) (by kernel_rfl) (by kernel_rfl) ?_
    refine lv (v := .bool true) rfl (r_pkT rfl rfl rfl) rfl ?_
    refine lv (v := .bool true) rfl (r_mv rfl rfl) rfl ?_
    with_reducible refine lx (d := 19) (by kernel_rfl) (by kernel_rfl) ?_
    with_reducible refine lx (d := 20) (by kernel_rfl) (by kernel_rfl) ?_
    with_reducible refine lx (d := 21) (by kernel_rfl) (by kernel_rfl) ?_
    refine lv (v := .bool true) rfl (r_pkT rfl rfl rfl) rfl ?_
    refine lv (v := .bool true) rfl (r_mv rfl rfl) rfl ?_
    with_reducible refine lx (d := 24) (by kernel_rfl) (by kernel_rfl) ?_
    with_reducible refine lx (d := 25) (by kernel_rfl) (by kernel_rfl) ?_
    with_reducible refine lx (d := 26) (by kernel_rfl) (by kernel_rfl) ?_
    with_reducible refine lx (d := 27) (by kernel_rfl) (by kernel_rfl) ?_
    refine lv (v := .bool true) rfl (r_pkT rfl rfl rfl) rfl ?_
    refine wend ?_
    refine wthen ?_
    refine wren (fun ρ7 eρ7 => ?_)
    have h8 : opd ρ7 40 (.tmp 1) = .pointer (some ⟨g2, 0 + 0, none⟩) := (eρ7 1).trans h5
    have h9 : opd ρ7 40 (.tmp 28) = .bool true := eρ7 28
    clear eρ7
    refine wcT h9 ?_
    refine wseq ?_
    refine wreg ?_
    refine lv (v := .bool false) rfl (r_as rfl rfl) rfl ?_
    refine wend ?_
    refine wthen ?_
    refine wren (fun ρ10 eρ10 => ?_)
    have h11 : opd ρ10 40 (.tmp 2) = .bool false := eρ10 2
    clear eρ10
    refine wp_ret ?_
    refine thR ?_
    obtain rfl := Option.some.inj hF
    subst hB
    refine finR (rs := [.tmp 2]) (vs := [.bool false]) rfl ⟨h11, trivial⟩ ?_
    exact hI.fin 0 ⟨rfl, rfl⟩
  · skip
    rw [if_neg hc6] at hF
    have hbhc6 : (decide (a0.Epoch < 0)) = false := decide_eq_false hc6
    refine lv (v := .bool false) rfl (r_mv rfl ((show opd _ _ _ = _ from rfl).trans (congrArg Value.bool hbhc6))) rfl ?_
    refine lv (v := .pointer (some ⟨g2, 0 + 0, none⟩)) rfl (l_fa (j := 0) (i := 0) rfl fl69_0 h5 rfl) rfl ?_
    refine lv (v := .int .i64 a0.Epoch) rfl (r_cl1 (off := 0) (p := 0) (hI.good.ca 0 rfl) rfl sc3 rfl rfl rfl) rfl ?_
    refine lv (v := .bool (decide ((1073741824 : Int) < a0.Epoch))) rfl (r_gtr rfl rfl rfl rfl) rfl ?_
    refine lv (v := .bool (decide ((1073741824 : Int) < a0.Epoch))) rfl (r_pkF rfl rfl rfl) rfl ?_
    by_cases hc12 : (1073741824 : Int) < a0.Epoch
    · skip
      rw [if_pos hc12] at hF
      have hbhc12 : (decide ((1073741824 : Int) < a0.Epoch)) = true := decide_eq_true hc12
      refine lv (v := .bool true) rfl (r_mv rfl ((show opd _ _ _ = _ from rfl).trans (congrArg Value.bool hbhc12))) rfl ?_
      with_reducible refine lx (d := 14) (by kernel_rfl) (by kernel_rfl) ?_
      with_reducible refine lx (d := 15) (by kernel_rfl) (by kernel_rfl) ?_
      with_reducible refine lx (d := 16) (by kernel_rfl) (by kernel_rfl) ?_
      refine lv (v := .bool true) rfl (r_pkT rfl rfl rfl) rfl ?_
      refine lv (v := .bool true) rfl (r_mv rfl rfl) rfl ?_
      with_reducible refine lx (d := 19) (by kernel_rfl) (by kernel_rfl) ?_
      with_reducible refine lx (d := 20) (by kernel_rfl) (by kernel_rfl) ?_
      with_reducible refine lx (d := 21) (by kernel_rfl) (by kernel_rfl) ?_
      refine lv (v := .bool true) rfl (r_pkT rfl rfl rfl) rfl ?_
      refine lv (v := .bool true) rfl (r_mv rfl rfl) rfl ?_
      with_reducible refine lx (d := 24) (by kernel_rfl) (by kernel_rfl) ?_
      with_reducible refine lx (d := 25) (by kernel_rfl) (by kernel_rfl) ?_
      with_reducible refine lx (d := 26) (by kernel_rfl) (by kernel_rfl) ?_
      with_reducible refine lx (d := 27) (by kernel_rfl) (by kernel_rfl) ?_
      refine lv (v := .bool true) rfl (r_pkT rfl rfl rfl) rfl ?_
      refine wend ?_
      refine wthen ?_
      refine wren (fun ρ13 eρ13 => ?_)
      have h14 : opd ρ13 40 (.tmp 1) = .pointer (some ⟨g2, 0 + 0, none⟩) := (eρ13 1).trans h5
      have h15 : opd ρ13 40 (.tmp 28) = .bool true := eρ13 28
      clear eρ13
      refine wcT h15 ?_
      refine wseq ?_
      refine wreg ?_
      refine lv (v := .bool false) rfl (r_as rfl rfl) rfl ?_
      refine wend ?_
      refine wthen ?_
      refine wren (fun ρ16 eρ16 => ?_)
      have h17 : opd ρ16 40 (.tmp 2) = .bool false := eρ16 2
      clear eρ16
      refine wp_ret ?_
      refine thR ?_
      obtain rfl := Option.some.inj hF
      subst hB
      refine finR (rs := [.tmp 2]) (vs := [.bool false]) rfl ⟨h17, trivial⟩ ?_
      exact hI.fin 0 ⟨rfl, rfl⟩
    · skip
      rw [if_neg hc12] at hF
      have hbhc12 : (decide ((1073741824 : Int) < a0.Epoch)) = false := decide_eq_false hc12
      refine lv (v := .bool false) rfl (r_mv rfl ((show opd _ _ _ = _ from rfl).trans (congrArg Value.bool hbhc12))) rfl ?_
      refine lv (v := .pointer (some ⟨g2, 0 + 1, none⟩)) rfl (l_fa (j := 0) (i := 0) rfl fl69_1 h5 rfl) rfl ?_
      refine lv (v := .int .i64 a0.Height) rfl (r_cl1 (off := 1) (p := 1) (hI.good.ca 0 rfl) rfl sc3 rfl rfl rfl) rfl ?_
      refine lv (v := .bool (decide (a0.Height < 1))) rfl (r_lss rfl rfl rfl rfl) rfl ?_
      refine lv (v := .bool (decide (a0.Height < 1))) rfl (r_pkF rfl rfl rfl) rfl ?_
      by_cases hc18 : a0.Height < 1
      · skip
        rw [if_pos hc18] at hF
        have hbhc18 : (decide (a0.Height < 1)) = true := decide_eq_true hc18
        refine lv (v := .bool true) rfl (r_mv rfl ((show opd _ _ _ = _ from rfl).trans (congrArg Value.bool hbhc18))) rfl ?_
        with_reducible refine lx (d := 19) (by kernel_rfl) (by kernel_rfl) ?_
        with_reducible refine lx (d := 20) (by kernel_rfl) (by kernel_rfl) ?_
        with_reducible refine lx (d := 21) (by kernel_rfl) (by kernel_rfl) ?_
        refine lv (v := .bool true) rfl (r_pkT rfl rfl rfl) rfl ?_
        refine lv (v := .bool true) rfl (r_mv rfl rfl) rfl ?_
        with_reducible refine lx (d := 24) (by kernel_rfl) (by kernel_rfl) ?_
        with_reducible refine lx (d := 25) (by kernel_rfl) (by kernel_rfl) ?_
        with_reducible refine lx (d := 26) (by kernel_rfl) (by kernel_rfl) ?_
        with_reducible refine lx (d := 27) (by kernel_rfl) (by kernel_rfl) ?_
        refine lv (v := .bool true) rfl (r_pkT rfl rfl rfl) rfl ?_
        refine wend ?_
        refine wthen ?_
        refine wren (fun ρ19 eρ19 => ?_)
        have h20 : opd ρ19 40 (.tmp 1) = .pointer (some ⟨g2, 0 + 0, none⟩) := (eρ19 1).trans h5
        have h21 : opd ρ19 40 (.tmp 28) = .bool true := eρ19 28
        clear eρ19
        refine wcT h21 ?_
        refine wseq ?_
        refine wreg ?_
        refine lv (v := .bool false) rfl (r_as rfl rfl) rfl ?_
        refine wend ?_
        refine wthen ?_
        refine wren (fun ρ22 eρ22 => ?_)
        have h23 : opd ρ22 40 (.tmp 2) = .bool false := eρ22 2
        clear eρ22
        refine wp_ret ?_
        refine thR ?_
        obtain rfl := Option.some.inj hF
        subst hB
        refine finR (rs := [.tmp 2]) (vs := [.bool false]) rfl ⟨h23, trivial⟩ ?_
        exact hI.fin 0 ⟨rfl, rfl⟩
      · skip
        rw [if_neg hc18] at hF
        have hbhc18 : (decide (a0.Height < 1)) = false := decide_eq_false hc18
        refine lv (v := .bool false) rfl (r_mv rfl ((show opd _ _ _ = _ from rfl).trans (congrArg Value.bool hbhc18))) rfl ?_
        refine lv (v := .pointer (some ⟨g2, 0 + 1, none⟩)) rfl (l_fa (j := 0) (i := 0) rfl fl69_1 h5 rfl) rfl ?_
        refine lv (v := .int .i64 a0.Height) rfl (r_cl1 (off := 1) (p := 1) (hI.good.ca 0 rfl) rfl sc3 rfl rfl rfl) rfl ?_
        refine lv (v := .bool (decide ((1024 : Int) < a0.Height))) rfl (r_gtr rfl rfl rfl rfl) rfl ?_
        refine lv (v := .bool (decide ((1024 : Int) < a0.Height))) rfl (r_pkF rfl rfl rfl) rfl ?_
        by_cases hc24 : (1024 : Int) < a0.Height
        · skip
          rw [if_pos hc24] at hF
          have hbhc24 : (decide ((1024 : Int) < a0.Height)) = true := decide_eq_true hc24
          refine lv (v := .bool true) rfl (r_mv rfl ((show opd _ _ _ = _ from rfl).trans (congrArg Value.bool hbhc24))) rfl ?_
          with_reducible refine lx (d := 24) (by kernel_rfl) (by kernel_rfl) ?_
          with_reducible refine lx (d := 25) (by kernel_rfl) (by kernel_rfl) ?_
          with_reducible refine lx (d := 26) (by kernel_rfl) (by kernel_rfl) ?_
          with_reducible refine lx (d := 27) (by kernel_rfl) (by kernel_rfl) ?_
          refine lv (v := .bool true) rfl (r_pkT rfl rfl rfl) rfl ?_
          refine wend ?_
          refine wthen ?_
          refine wren (fun ρ25 eρ25 => ?_)
          have h26 : opd ρ25 40 (.tmp 1) = .pointer (some ⟨g2, 0 + 0, none⟩) := (eρ25 1).trans h5
          have h27 : opd ρ25 40 (.tmp 28) = .bool true := eρ25 28
          clear eρ25
          refine wcT h27 ?_
          refine wseq ?_
          refine wreg ?_
          refine lv (v := .bool false) rfl (r_as rfl rfl) rfl ?_
          refine wend ?_
          refine wthen ?_
          refine wren (fun ρ28 eρ28 => ?_)
          have h29 : opd ρ28 40 (.tmp 2) = .bool false := eρ28 2
          clear eρ28
          refine wp_ret ?_
          refine thR ?_
          obtain rfl := Option.some.inj hF
          subst hB
          refine finR (rs := [.tmp 2]) (vs := [.bool false]) rfl ⟨h29, trivial⟩ ?_
          exact hI.fin 0 ⟨rfl, rfl⟩
        · skip
          rw [if_neg hc24] at hF
          have hbhc24 : (decide ((1024 : Int) < a0.Height)) = false := decide_eq_false hc24
          refine lv (v := .bool false) rfl (r_mv rfl ((show opd _ _ _ = _ from rfl).trans (congrArg Value.bool hbhc24))) rfl ?_
          refine lv (v := .pointer (some ⟨g2, 0 + 98, none⟩)) rfl (l_fa (j := 0) (i := 0) rfl fl69_5 h5 rfl) rfl ?_
          refine lv (v := s1.v) rfl (r_cl1 (off := 98) (p := 5) (hI.good.ca 0 rfl) rfl sc67 rfl rfl rfl) rfl ?_
          refine lv (v := .int .i64 (a0.Requests.length : Int)) rfl (r_lenS rfl sl67 rfl hs1) rfl ?_
          refine lv (v := .bool (decide ((8 : Int) < (a0.Requests.length : Int)))) rfl (r_gtr rfl rfl rfl rfl) rfl ?_
          refine lv (v := .bool (decide ((8 : Int) < (a0.Requests.length : Int)))) rfl (r_pkF rfl rfl rfl) rfl ?_
          refine wend ?_
          refine wthen ?_
          refine wren (fun ρ30 eρ30 => ?_)
          have h31 : opd ρ30 40 (.tmp 1) = .pointer (some ⟨g2, 0 + 0, none⟩) := (eρ30 1).trans h5
          have h32 : opd ρ30 40 (.tmp 28) = .bool (decide ((8 : Int) < (a0.Requests.length : Int))) := eρ30 28
          clear eρ30
          by_cases hc33 : (8 : Int) < (a0.Requests.length : Int)
          · skip
            rw [if_pos hc33] at hF
            have hbhc33 : (decide ((8 : Int) < (a0.Requests.length : Int))) = true := decide_eq_true hc33
            refine wcT (h32.trans (congrArg Value.bool hbhc33)) ?_
            refine wseq ?_
            refine wreg ?_
            refine lv (v := .bool false) rfl (r_as rfl rfl) rfl ?_
            refine wend ?_
            refine wthen ?_
            refine wren (fun ρ34 eρ34 => ?_)
            have h35 : opd ρ34 40 (.tmp 2) = .bool false := eρ34 2
            clear eρ34
            refine wp_ret ?_
            refine thR ?_
            obtain rfl := Option.some.inj hF
            subst hB
            refine finR (rs := [.tmp 2]) (vs := [.bool false]) rfl ⟨h35, trivial⟩ ?_
            exact hI.fin 0 ⟨rfl, rfl⟩
          · skip
            rw [if_neg hc33] at hF
            have hbhc33 : (decide ((8 : Int) < (a0.Requests.length : Int))) = false := decide_eq_false hc33
            refine wcF (h32.trans (congrArg Value.bool hbhc33)) ?_
            refine wp_skip ?_
            refine wthen ?_
            refine wseq ?_
            refine wseq ?_
            refine wreg ?_
            refine lv (v := .pointer (some ⟨g2, 0 + 98, none⟩)) rfl (l_fa (j := 0) (i := 0) rfl fl69_5 h31 rfl) rfl ?_
            refine lv (v := s1.v) rfl (r_cl1 (off := 98) (p := 5) (hI.good.ca 0 rfl) rfl sc67 rfl rfl rfl) rfl ?_
            refine lv (v := .int .i64 (a0.Requests.length : Int)) rfl (r_lenS rfl sl67 rfl hs1) rfl ?_
            refine lv (v := .int .i64 0) rfl (r_mv rfl rfl) rfl ?_
            refine wend ?_
            refine wthen ?_
            refine wren (fun ρ36 eρ36 => ?_)
            have h37 : opd ρ36 40 (.tmp 30) = s1.v := eρ36 30
            have h38 : opd ρ36 40 (.tmp 31) = .int .i64 (a0.Requests.length : Int) := eρ36 31
            have h39 : opd ρ36 40 (.tmp 32) = .int .i64 0 := eρ36 32
            clear eρ36
            refine wp_block ?_
            have hbd40 := (hs1).bd
            rw [(hs1).n] at hbd40
            obtain ⟨y40, hy40, hF40⟩ := Option.bind_eq_some_iff.1 hF
            refine wfor (n := 40) a0.Requests.length _ (fun (i40 : Nat) (σ40 : Unit) ρ' w' => ∃ (H75 : Hp), Hle H H75 ∧ opd ρ' 40 (.tmp 30) = s1.v ∧ opd ρ' 40 (.tmp 31) = .int .i64 (a0.Requests.length : Int) ∧ opd ρ' 40 (.tmp 32) = .int .i64 (i40 : Int) ∧ Inv B w' H75 []) hy40 ⟨H, (Hle.refl _), h37, h38, h39, (hI.keep [false])⟩ ?_
            rintro k40 i40 σ40 ρ79 w80 hk40 ⟨H75, hleH75, h76, h77, h78, hI⟩ hy40
            refine wseq ?_
            refine wreg ?_
            refine lv (v := .bool (decide ((i40 : Int) < (a0.Requests.length : Int)))) rfl (r_lss rfl h78 h77 rfl) rfl ?_
            refine wend ?_
            refine wthen ?_
            refine wseq ?_
            by_cases hc81 : (i40 : Int) < (a0.Requests.length : Int)
            · skip
              have hbhc81 : (decide ((i40 : Int) < (a0.Requests.length : Int))) = true := decide_eq_true hc81
              obtain ⟨k40, rfl⟩ : ∃ m, k40 = m + 1 := ⟨k40 - 1, by omega⟩
              obtain ⟨z40, hb40⟩ := forK_body hy40
              have hF := hb40
              have hlt40 : ((i40 : Nat) : Int) + 1 ≤ 9223372036854775807 := by omega
              refine wcT ((show opd _ _ _ = _ from rfl).trans (congrArg Value.bool hbhc81)) ?_
              refine wp_skip ?_
              refine wthen ?_
              refine wren (fun ρ82 eρ82 => ?_)
              have h83 : opd ρ82 40 (.tmp 30) = s1.v := (eρ82 30).trans h76
              have h84 : opd ρ82 40 (.tmp 31) = .int .i64 (a0.Requests.length : Int) := (eρ82 31).trans h77
              have h85 : opd ρ82 40 (.tmp 32) = .int .i64 (i40 : Int) := (eρ82 32).trans h78
              clear eρ82
              refine wseq ?_
              refine wp_block ?_
              refine wseq ?_
              refine wreg ?_
              obtain ⟨x86, hx86, hF⟩ := Option.bind_eq_some_iff.1 hF
              obtain ⟨b87, j88, hix89, hil90, hA91⟩ := (hs1.mono hleH75).ixf hx86
              replace hA91 : At H75 b87 j88 [ckI x86.Client, ckI x86.Num, ckI x86.Op.Kind, ckS x86.Op.Key, ckS x86.Op.Val, ckS x86.Op.Old, ckI x86.Op.Change.Kind, ckI x86.Op.Change.Id, ckI x86.Op.Change.New, ckV flB x86.Op.Change.Key.Root, ckI x86.Op.Change.Key.Height] := hA91
              refine lv (v := .pointer (some ⟨b87, j88 + 0, none⟩)) rfl (r_ixt rfl sl67 h83 h85 rfl hix89 hil90) rfl ?_
              refine lv (v := .agg (flat [ckI x86.Client, ckI x86.Num, ckI x86.Op.Kind, ckS x86.Op.Key, ckS x86.Op.Val, ckS x86.Op.Old, ckI x86.Op.Change.Kind, ckI x86.Op.Change.Id, ckI x86.Op.Change.New, ckV flB x86.Op.Change.Key.Root, ckI x86.Op.Change.Key.Height]).toArray) rfl (r_cla (off := 0) (p := 0) (m := 11) (hA91.ca hI.good) rfl ag192 rfl rfl rfl) rfl ?_
              refine le rfl (l_al hI rfl ze192) rfl ?_
              rintro _ w93 ⟨g92, rfl, hI⟩
              replace hI : Inv B w93 H75 [.cb g92 [ckI 0, ckI 0, ckI 0, ckS [], ckS [], ckS [], ckI 0, ckI 0, ckI 0, ckV flB (Vec.rep 32 0), ckI 0] 192] := hI
              refine lst rfl (l_st (off := 0) (p := 0) (m := 11) (new := [ckI x86.Client, ckI x86.Num, ckI x86.Op.Kind, ckS x86.Op.Key, ckS x86.Op.Val, ckS x86.Op.Old, ckI x86.Op.Change.Kind, ckI x86.Op.Change.Id, ckI x86.Op.Change.New, ckV flB x86.Op.Change.Key.Root, ckI x86.Op.Change.Key.Height]) hI 0 rfl rfl sz192 rfl rfl rfl rfl rfl rfl) rfl ?_
              intro w94 hI
              replace hI : Inv B w94 H75 [.cb g92 [ckI x86.Client, ckI x86.Num, ckI x86.Op.Kind, ckS x86.Op.Key, ckS x86.Op.Val, ckS x86.Op.Old, ckI x86.Op.Change.Kind, ckI x86.Op.Change.Id, ckI x86.Op.Change.New, ckV flB x86.Op.Change.Key.Root, ckI x86.Op.Change.Key.Height] 192] := hI
              refine wend ?_
              refine wthen ?_
              refine wren (fun ρ95 eρ95 => ?_)
              have h96 : opd ρ95 40 (.tmp 4) = .pointer (some ⟨g92, 0 + 0, none⟩) := eρ95 4
              have h97 : opd ρ95 40 (.tmp 30) = s1.v := (eρ95 30).trans h83
              have h98 : opd ρ95 40 (.tmp 31) = .int .i64 (a0.Requests.length : Int) := (eρ95 31).trans h84
              have h99 : opd ρ95 40 (.tmp 32) = .int .i64 (i40 : Int) := (eρ95 32).trans h85
              clear eρ95
              refine wseq ?_
              refine wreg ?_
              refine lv (v := .agg (flat [ckI x86.Client, ckI x86.Num, ckI x86.Op.Kind, ckS x86.Op.Key, ckS x86.Op.Val, ckS x86.Op.Old, ckI x86.Op.Change.Kind, ckI x86.Op.Change.Id, ckI x86.Op.Change.New, ckV flB x86.Op.Change.Key.Root, ckI x86.Op.Change.Key.Height]).toArray) rfl (r_cla (off := 0) (p := 0) (m := 11) (hI.good.ca 0 rfl) rfl ag192 h96 rfl rfl) rfl ?_
              obtain ⟨x100, hx100, hF⟩ := Option.bind_eq_some_iff.1 hF
              have hsp103 := spec_136 hx100 (hT.mono hleH75) (hI.part 0) 
              refine fc ([]) ([.cb g92 [ckI x86.Client, ckI x86.Num, ckI x86.Op.Kind, ckS x86.Op.Key, ckS x86.Op.Val, ckS x86.Op.Old, ckI x86.Op.Change.Kind, ckI x86.Op.Change.Id, ckI x86.Op.Change.New, ckV flB x86.Op.Change.Key.Root, ckI x86.Op.Change.Key.Height] 192]) (args := [.agg (flat [ckI x86.Client, ckI x86.Num, ckI x86.Op.Kind, ckS x86.Op.Key, ckS x86.Op.Val, ckS x86.Op.Old, ckI x86.Op.Change.Kind, ckI x86.Op.Change.Id, ckI x86.Op.Change.New, ckV flB x86.Op.Change.Key.Root, ckI x86.Op.Change.Key.Height]).toArray]) fc136 rfl rfl rfl hI (argc rfl rfl) (hsp103) ?_
              rintro _ H101 _ w102 ⟨rfl, rfl⟩ hleH101 hI
              replace hI : Inv B w102 H101 [.cb g92 [ckI x86.Client, ckI x86.Num, ckI x86.Op.Kind, ckS x86.Op.Key, ckS x86.Op.Val, ckS x86.Op.Old, ckI x86.Op.Change.Kind, ckI x86.Op.Change.Id, ckI x86.Op.Change.New, ckV flB x86.Op.Change.Key.Root, ckI x86.Op.Change.Key.Height] 192] := hI
              refine lv (v := .bool (!x100)) rfl (r_not rfl rfl) rfl ?_
              refine wend ?_
              refine wthen ?_
              refine wren (fun ρ104 eρ104 => ?_)
              have h105 : opd ρ104 40 (.tmp 30) = s1.v := (eρ104 30).trans h97
              have h106 : opd ρ104 40 (.tmp 31) = .int .i64 (a0.Requests.length : Int) := (eρ104 31).trans h98
              have h107 : opd ρ104 40 (.tmp 32) = .int .i64 (i40 : Int) := (eρ104 32).trans h99
              have h108 : opd ρ104 40 (.tmp 38) = .bool (!x100) := eρ104 38
              clear eρ104
              by_cases hc109 : x100 = true
              · skip
                rw [if_pos hc109] at hF
                have hbhc109 : (!x100) = false := (by rw [hc109]; rfl)
                refine wcF (h108.trans (congrArg Value.bool hbhc109)) ?_
                refine wp_skip ?_
                refine inN ?_
                refine wthen ?_
                refine wreg ?_
                refine lv (v := .int .i64 ((i40 + 1 : Nat) : Int)) rfl (r_addn rfl h107 rfl hlt40) rfl ?_
                refine lv (v := .int .i64 ((i40 + 1 : Nat) : Int)) rfl (r_mv rfl rfl) rfl ?_
                refine wend ?_
                obtain rfl := Option.some.inj hF
                exact ⟨k40, (), _, rfl, rfl, ⟨H101, (hleH75.trans hleH101), h105, h106, rfl, (hI.keep [false])⟩, forK_inl hy40 hb40⟩
              · skip
                rw [if_neg hc109] at hF
                have hbhc109 : (!x100) = true := (by rw [(Bool.eq_false_iff.2 hc109)]; rfl)
                refine wcT (h108.trans (congrArg Value.bool hbhc109)) ?_
                refine wseq ?_
                refine wreg ?_
                refine lv (v := .bool false) rfl (r_as rfl rfl) rfl ?_
                refine wend ?_
                refine wthen ?_
                refine wren (fun ρ110 eρ110 => ?_)
                have h111 : opd ρ110 40 (.tmp 2) = .bool false := eρ110 2
                clear eρ110
                refine wp_ret ?_
                refine inR ?_
                refine thR ?_
                refine thR ?_
                obtain ⟨q112, hFn, hzq112⟩ := Option.map_eq_some_iff.1 hF
                clear hF
                obtain rfl := forK_inr hy40 (hb40.trans (congrArg some hzq112.symm))
                have hF0 := hF40
                try dsimp only at hF0
                have hF := hFn.trans hF0
                clear hFn hF0
                refine inR ?_
                refine thR ?_
                obtain rfl := Option.some.inj hF
                subst hB
                refine finR (rs := [.tmp 2]) (vs := [.bool false]) rfl ⟨h111, trivial⟩ ?_
                exact hI.fin 0 ⟨rfl, rfl⟩
            · skip
              have hbhc81 : (decide ((i40 : Int) < (a0.Requests.length : Int))) = false := decide_eq_false hc81
              obtain rfl : k40 = 0 := by omega
              obtain rfl := forK_end hy40
              have hF := hF40
              try dsimp only at hF
              refine wcF ((show opd _ _ _ = _ from rfl).trans (congrArg Value.bool hbhc81)) ?_
              refine wp_exit ?_
              refine thE ?_
              refine thE ?_
              refine inX ?_
              refine wthen ?_
              refine wren (fun ρ113 eρ113 => ?_)
              clear eρ113
              refine wseq ?_
              refine wreg ?_
              refine lv (v := .bool true) rfl (r_as rfl rfl) rfl ?_
              refine wend ?_
              refine wthen ?_
              refine wren (fun ρ114 eρ114 => ?_)
              have h115 : opd ρ114 40 (.tmp 2) = .bool true := eρ114 2
              clear eρ114
              refine wp_ret ?_
              obtain rfl := Option.some.inj hF
              subst hB
              refine finR (rs := [.tmp 2]) (vs := [.bool true]) rfl ⟨h115, trivial⟩ ?_
              exact hI.fin 0 ⟨rfl, rfl⟩
noncomputable def M_config_Faults (a0 : Config) : Option (Int) := some (wI (Int.tdiv (if (0 : Int) > (wI ((a0.Members.length : Int) - 1)) then 0 else (wI ((a0.Members.length : Int) - 1))) 3))
set_option maxHeartbeats 1000000 in
theorem spec_94 {w : World} {H : Hp} {a0 : Config} {s1 : Sv} {r : Int} (hF : M_config_Faults a0 = some r) (hT : Tab H) (hG : Good w H []) (hs1 : Sl (Fl.ty fl_Member) H s1 a0.Members) :
    Fine Tryd.prog 94 [.agg (flat [ckI a0.Epoch, ckL s1]).toArray] w H [] (fun H' v L' => v = .int .i64 r ∧ L' = []) := by
  unfold M_config_Faults at hF
  unfold Fine
  obtain ⟨B, hB⟩ : ∃ B : Base, B = ⟨w, H, blks []⟩ := ⟨_, rfl⟩
  have hI : Inv B w H [] := by rw [hB]; exact Inv.start hG
  refine enter (n := 9) (args := [.agg (flat [ckI a0.Epoch, ckL s1]).toArray]) Tryd.func94 rfl Tryd.ntmps94 (Nat.le_of_ble_eq_true rfl) ?_
  refine wseq ?_
  refine wreg ?_
  refine le rfl (l_box (cks := [ckI a0.Epoch, ckL s1]) hI rfl rfl rfl) rfl ?_
  rintro _ w3 ⟨g2, rfl, hI⟩
  replace hI : Inv B w3 H [.cb g2 [ckI a0.Epoch, ckL s1] 64] := hI
  refine lv (v := .int .i64 0) rfl (r_as rfl rfl) rfl ?_
  refine wend ?_
  refine wthen ?_
  refine wren (fun ρ4 eρ4 => ?_)
  have h5 : opd ρ4 9 (.tmp 1) = .pointer (some ⟨g2, 0 + 0, none⟩) := eρ4 1
  clear eρ4
  refine wseq ?_
  refine wreg ?_
  refine lv (v := .pointer (some ⟨g2, 0 + 1, none⟩)) rfl (l_fa (j := 0) (i := 0) rfl fl64_1 h5 rfl) rfl ?_
  refine lv (v := s1.v) rfl (r_cl1 (off := 1) (p := 1) (hI.good.ca 0 rfl) rfl sc62 rfl rfl rfl) rfl ?_
  refine lv (v := .int .i64 (a0.Members.length : Int)) rfl (r_lenS rfl sl62 rfl hs1) rfl ?_
  refine lv (v := .int .i64 (wI ((a0.Members.length : Int) - 1))) rfl (r_subw rfl rfl rfl) rfl ?_
  refine lv (v := .int .i64 (if (0 : Int) > (wI ((a0.Members.length : Int) - 1)) then 0 else (wI ((a0.Members.length : Int) - 1)))) rfl (r_max rfl rfl rfl rfl) rfl ?_
  refine lv (v := .int .i64 (wI (Int.tdiv (if (0 : Int) > (wI ((a0.Members.length : Int) - 1)) then 0 else (wI ((a0.Members.length : Int) - 1))) 3))) rfl (r_quo rfl rfl rfl (by decide)) rfl ?_
  refine lv (v := .int .i64 (wI (Int.tdiv (if (0 : Int) > (wI ((a0.Members.length : Int) - 1)) then 0 else (wI ((a0.Members.length : Int) - 1))) 3))) rfl (r_as rfl rfl) rfl ?_
  refine wend ?_
  refine wthen ?_
  refine wren (fun ρ6 eρ6 => ?_)
  have h7 : opd ρ6 9 (.tmp 2) = .int .i64 (wI (Int.tdiv (if (0 : Int) > (wI ((a0.Members.length : Int) - 1)) then 0 else (wI ((a0.Members.length : Int) - 1))) 3)) := eρ6 2
  clear eρ6
  refine wp_ret ?_
  obtain rfl := Option.some.inj hF
  subst hB
  refine finR (rs := [.tmp 2]) (vs := [.int .i64 (wI (Int.tdiv (if (0 : Int) > (wI ((a0.Members.length : Int) - 1)) then 0 else (wI ((a0.Members.length : Int) - 1))) 3))]) rfl ⟨h7, trivial⟩ ?_
  exact hI.fin 0 ⟨rfl, rfl⟩
noncomputable def M_config_Quorum (a0 : Config) : Option (Int) := ((M_config_Faults a0).bind fun x7 => some (wI ((wI (Int.tdiv (wI ((a0.Members.length : Int) + x7)) 2)) + 1)))
set_option maxHeartbeats 1000000 in
theorem spec_88 {w : World} {H : Hp} {a0 : Config} {s1 : Sv} {r : Int} (hF : M_config_Quorum a0 = some r) (hT : Tab H) (hG : Good w H []) (hs1 : Sl (Fl.ty fl_Member) H s1 a0.Members) :
    Fine Tryd.prog 88 [.agg (flat [ckI a0.Epoch, ckL s1]).toArray] w H [] (fun H' v L' => v = .int .i64 r ∧ L' = []) := by
  unfold M_config_Quorum at hF
  unfold Fine
  obtain ⟨B, hB⟩ : ∃ B : Base, B = ⟨w, H, blks []⟩ := ⟨_, rfl⟩
  have hI : Inv B w H [] := by rw [hB]; exact Inv.start hG
  refine enter (n := 11) (args := [.agg (flat [ckI a0.Epoch, ckL s1]).toArray]) Tryd.func88 rfl Tryd.ntmps88 (Nat.le_of_ble_eq_true rfl) ?_
  refine wseq ?_
  refine wreg ?_
  refine le rfl (l_box (cks := [ckI a0.Epoch, ckL s1]) hI rfl rfl rfl) rfl ?_
  rintro _ w3 ⟨g2, rfl, hI⟩
  replace hI : Inv B w3 H [.cb g2 [ckI a0.Epoch, ckL s1] 64] := hI
  refine lv (v := .int .i64 0) rfl (r_as rfl rfl) rfl ?_
  refine wend ?_
  refine wthen ?_
  refine wren (fun ρ4 eρ4 => ?_)
  have h5 : opd ρ4 11 (.tmp 1) = .pointer (some ⟨g2, 0 + 0, none⟩) := eρ4 1
  clear eρ4
  refine wseq ?_
  refine dstG (H0 := H) (L0 := keepL [true] [.cb g2 [ckI a0.Epoch, ckL s1] 64]) [] mixed rfl (by repeat (first | exact Pan.body | refine Pan.then ?_ | refine Pan.inBlock ?_ | refine Pan.noGoto ?_ | refine Pan.pure ?_)) hI (hI.good.weakm _ (Hle.refl _) rfl) ?_
  intro w6 hI hP
  refine dp (v := .pointer (some ⟨g2, 0 + 1, none⟩)) 0 (by kernel_rfl) rfl rfl (fun _ => l_fa (j := 0) (i := 0) rfl fl64_1 h5 rfl) rfl hP ?_
  refine dr (v := s1.v) 1 (by kernel_rfl) rfl rfl (hI.good.weakm [true] (Hle.refl _) rfl) (fun _ hG => r_cl1 (off := 1) (p := 1) (hG.ca 0 rfl) rfl sc62 rfl rfl rfl) rfl hP ?_
  refine dp (v := .int .i64 (a0.Members.length : Int)) 2 (by kernel_rfl) rfl rfl (fun _ => r_lenS rfl sl62 rfl hs1) rfl hP ?_
  refine dr (v := .agg (flat [ckI a0.Epoch, ckL s1]).toArray) 3 (by kernel_rfl) rfl rfl (hI.good.weakm [true] (Hle.refl _) rfl) (fun _ hG => r_cla (off := 0) (p := 0) (m := 2) (hG.ca 0 rfl) rfl ag64 h5 rfl rfl) rfl hP ?_
  obtain ⟨x7, hx7, hF⟩ := Option.bind_eq_some_iff.1 hF
  have hsp10 := spec_94 hx7 hT (hI.part 0) hs1
  refine dfc 4 ([]) ([.cb g2 [ckI a0.Epoch, ckL s1] 64]) (args := [.agg (flat [ckI a0.Epoch, ckL s1]).toArray]) fc94 (by kernel_rfl) rfl rfl rfl rfl rfl hI (argc rfl rfl) (hsp10) ?_
  rintro _ H8 _ w9 ⟨rfl, rfl⟩ hleH8 hI
  replace hI : Inv B w9 H8 [.cb g2 [ckI a0.Epoch, ckL s1] 64] := hI
  refine ⟨(hI.good.weakm [true] hleH8 rfl), ?_⟩
  refine dp (v := .int .i64 (wI ((a0.Members.length : Int) + x7))) 5 (by kernel_rfl) rfl rfl (fun _ => r_addw rfl rfl rfl) rfl hP ?_
  refine dp (v := .int .i64 (wI (Int.tdiv (wI ((a0.Members.length : Int) + x7)) 2))) 6 (by kernel_rfl) rfl rfl (fun _ => r_quo rfl rfl rfl (by decide)) rfl hP ?_
  refine dp (v := .int .i64 (wI ((wI (Int.tdiv (wI ((a0.Members.length : Int) + x7)) 2)) + 1))) 7 (by kernel_rfl) rfl rfl (fun _ => r_addw rfl rfl rfl) rfl hP ?_
  refine dp (v := .int .i64 (wI ((wI (Int.tdiv (wI ((a0.Members.length : Int) + x7)) 2)) + 1))) 8 (by kernel_rfl) rfl rfl (fun _ => r_as rfl rfl) rfl hP ?_
  refine dend (by kernel_rfl) ?_
  refine wthen ?_
  refine wren (fun ρ11 eρ11 => ?_)
  have h12 : opd ρ11 11 (.tmp 2) = .int .i64 (wI ((wI (Int.tdiv (wI ((a0.Members.length : Int) + x7)) 2)) + 1)) := eρ11 2
  clear eρ11
  refine wp_ret ?_
  obtain rfl := Option.some.inj hF
  subst hB
  refine finR (rs := [.tmp 2]) (vs := [.int .i64 (wI ((wI (Int.tdiv (wI ((a0.Members.length : Int) + x7)) 2)) + 1))]) rfl ⟨h12, trivial⟩ ?_
  exact hI.fin 0 ⟨rfl, rfl⟩
noncomputable def M_cert_Check (a0 : Config) (a1 : Block) (a2 : Cert) : Option (Bool) := ((M_config_Good a0).bind fun x15 => (if x15 = true then ((M_block_Good a1).bind fun x20 => (if x20 = true then (if a1.Epoch ≠ a0.Epoch then some false else ((M_config_Quorum a0).bind fun x33 => (if (a2.Votes.length : Int) < x33 then some false else ((M_block_Digest a1).bind fun x45 => ((forK (fun (i72 : Nat) (σ72 : Int) => (((a2.Votes[i72]?).bind fun x346 => (if x346.From ≤ σ72 then ((some false).map Sum.inr) else (if x346.Kind ≠ 2 then ((some false).map Sum.inr) else (if x346.Height ≠ a1.Height then ((some false).map Sum.inr) else (if x346.Round ≠ a2.Round then ((some false).map Sum.inr) else (if x346.Digest = x45 then ((M_vote_Right a0 x346).bind fun x425 => (if x425 = true then some (.inl x346.From) else ((some false).map Sum.inr))) else ((some false).map Sum.inr))))))) : Option (Int ⊕ Bool))) a2.Votes.length 0 0).bind fun y => match y with | .inl σ72 => some true | .inr r => some r))))) else some false)) else some false))
set_option maxHeartbeats 4000000 in
theorem spec_46 {w : World} {H : Hp} {a0 : Config} {a1 : Block} {a2 : Cert} {s1 : Sv} {s2 : Sv} {s3 : Sv} {r : Bool} (hF : M_cert_Check a0 a1 a2 = some r) (hT : Tab H) (hG : Good w H []) (hs1 : Sl (Fl.ty fl_Member) H s1 a0.Members) (hs2 : Sl (Fl.ty fl_Request) H s2 a1.Requests) (hs3 : Sl ty_Vote H s3 a2.Votes) :
    Fine Tryd.prog 46 [.agg (flat [ckI a0.Epoch, ckL s1]).toArray, .agg (flat [ckI a1.Epoch, ckI a1.Height, ckV flB a1.Prev, ckV flB a1.State, ckV flB a1.Next, ckL s2]).toArray, .agg (flat [ckI a2.Round, ckL s3]).toArray] w H [] (fun H' v L' => v = .bool r ∧ L' = []) := by
  unfold M_cert_Check at hF
  unfold Fine
  obtain ⟨B, hB⟩ : ∃ B : Base, B = ⟨w, H, blks []⟩ := ⟨_, rfl⟩
  have hI : Inv B w H [] := by rw [hB]; exact Inv.start hG
  refine enter (n := 81) (args := [.agg (flat [ckI a0.Epoch, ckL s1]).toArray, .agg (flat [ckI a1.Epoch, ckI a1.Height, ckV flB a1.Prev, ckV flB a1.State, ckV flB a1.Next, ckL s2]).toArray, .agg (flat [ckI a2.Round, ckL s3]).toArray]) Tryd.func46 rfl Tryd.ntmps46 (Nat.le_of_ble_eq_true rfl) ?_
  refine wseq ?_
  refine wreg ?_
  refine le rfl (l_box (cks := [ckI a0.Epoch, ckL s1]) hI rfl rfl rfl) rfl ?_
  rintro _ w5 ⟨g4, rfl, hI⟩
  replace hI : Inv B w5 H [.cb g4 [ckI a0.Epoch, ckL s1] 64] := hI
  refine le rfl (l_box (cks := [ckI a1.Epoch, ckI a1.Height, ckV flB a1.Prev, ckV flB a1.State, ckV flB a1.Next, ckL s2]) hI rfl rfl rfl) rfl ?_
  rintro _ w7 ⟨g6, rfl, hI⟩
  replace hI : Inv B w7 H [.cb g4 [ckI a0.Epoch, ckL s1] 64, .cb g6 [ckI a1.Epoch, ckI a1.Height, ckV flB a1.Prev, ckV flB a1.State, ckV flB a1.Next, ckL s2] 69] := hI
  refine le rfl (l_box (cks := [ckI a2.Round, ckL s3]) hI rfl rfl rfl) rfl ?_
  rintro _ w9 ⟨g8, rfl, hI⟩
  replace hI : Inv B w9 H [.cb g4 [ckI a0.Epoch, ckL s1] 64, .cb g6 [ckI a1.Epoch, ckI a1.Height, ckV flB a1.Prev, ckV flB a1.State, ckV flB a1.Next, ckL s2] 69, .cb g8 [ckI a2.Round, ckL s3] 71] := hI
  refine lv (v := .bool false) rfl (r_as rfl rfl) rfl ?_
  refine wend ?_
  refine wthen ?_
  refine wren (fun ρ10 eρ10 => ?_)
  have h11 : opd ρ10 81 (.tmp 3) = .pointer (some ⟨g4, 0 + 0, none⟩) := eρ10 3
  have h12 : opd ρ10 81 (.tmp 4) = .pointer (some ⟨g6, 0 + 0, none⟩) := eρ10 4
  have h13 : opd ρ10 81 (.tmp 5) = .pointer (some ⟨g8, 0 + 0, none⟩) := eρ10 5
  clear eρ10
  refine wseq ?_
  refine wseq ?_
  refine dstG (H0 := H) (L0 := keepL [true, true, true] [.cb g4 [ckI a0.Epoch, ckL s1] 64, .cb g6 [ckI a1.Epoch, ckI a1.Height, ckV flB a1.Prev, ckV flB a1.State, ckV flB a1.Next, ckL s2] 69, .cb g8 [ckI a2.Round, ckL s3] 71]) [] mixed rfl (by repeat (first | exact Pan.body | refine Pan.then ?_ | refine Pan.inBlock ?_ | refine Pan.noGoto ?_ | refine Pan.pure ?_)) hI (hI.good.weakm _ (Hle.refl _) rfl) ?_
  intro w14 hI hP
  refine dr (v := .agg (flat [ckI a0.Epoch, ckL s1]).toArray) 0 (by kernel_rfl) rfl rfl (hI.good.weakm [true, true, true] (Hle.refl _) rfl) (fun _ hG => r_cla (off := 0) (p := 0) (m := 2) (hG.ca 0 rfl) rfl ag64 h11 rfl rfl) rfl hP ?_
  obtain ⟨x15, hx15, hF⟩ := Option.bind_eq_some_iff.1 hF
  have hsp18 := spec_65 hx15 hT (hI.part 0) hs1
  refine dfc 1 ([]) ([.cb g4 [ckI a0.Epoch, ckL s1] 64, .cb g6 [ckI a1.Epoch, ckI a1.Height, ckV flB a1.Prev, ckV flB a1.State, ckV flB a1.Next, ckL s2] 69, .cb g8 [ckI a2.Round, ckL s3] 71]) (args := [.agg (flat [ckI a0.Epoch, ckL s1]).toArray]) fc65 (by kernel_rfl) rfl rfl rfl rfl rfl hI (argc rfl rfl) (hsp18) ?_
  rintro _ H16 _ w17 ⟨rfl, rfl⟩ hleH16 hI
  replace hI : Inv B w17 H16 [.cb g4 [ckI a0.Epoch, ckL s1] 64, .cb g6 [ckI a1.Epoch, ckI a1.Height, ckV flB a1.Prev, ckV flB a1.State, ckV flB a1.Next, ckL s2] 69, .cb g8 [ckI a2.Round, ckL s3] 71] := hI
  refine ⟨(hI.good.weakm [true, true, true] hleH16 rfl), ?_⟩
  refine dp (v := .bool (!x15)) 2 (by kernel_rfl) rfl rfl (fun _ => r_not rfl rfl) rfl hP ?_
  by_cases hc19 : x15 = true
  · skip
    rw [if_pos hc19] at hF
    have hbhc19 : (!x15) = false := (by rw [hc19]; rfl)
    refine dp (v := .bool false) 3 (by kernel_rfl) rfl rfl (fun _ => r_mv rfl ((show opd _ _ _ = _ from rfl).trans (congrArg Value.bool hbhc19))) rfl hP ?_
    refine dr (v := .agg (flat [ckI a1.Epoch, ckI a1.Height, ckV flB a1.Prev, ckV flB a1.State, ckV flB a1.Next, ckL s2]).toArray) 4 (by kernel_rfl) rfl rfl (hI.good.weakm [true, true, true] hleH16 rfl) (fun _ hG => r_cla (off := 0) (p := 0) (m := 6) (hG.ca 1 rfl) rfl ag69 h12 rfl rfl) rfl hP ?_
    obtain ⟨x20, hx20, hF⟩ := Option.bind_eq_some_iff.1 hF
    have hsp23 := spec_87 hx20 (hT.mono hleH16) (hI.part 0) (hs2.mono hleH16)
    refine dfc 5 ([]) ([.cb g4 [ckI a0.Epoch, ckL s1] 64, .cb g6 [ckI a1.Epoch, ckI a1.Height, ckV flB a1.Prev, ckV flB a1.State, ckV flB a1.Next, ckL s2] 69, .cb g8 [ckI a2.Round, ckL s3] 71]) (args := [.agg (flat [ckI a1.Epoch, ckI a1.Height, ckV flB a1.Prev, ckV flB a1.State, ckV flB a1.Next, ckL s2]).toArray]) fc87 (by kernel_rfl) rfl rfl rfl rfl rfl hI (argc rfl rfl) (hsp23) ?_
    rintro _ H21 _ w22 ⟨rfl, rfl⟩ hleH21 hI
    replace hI : Inv B w22 H21 [.cb g4 [ckI a0.Epoch, ckL s1] 64, .cb g6 [ckI a1.Epoch, ckI a1.Height, ckV flB a1.Prev, ckV flB a1.State, ckV flB a1.Next, ckL s2] 69, .cb g8 [ckI a2.Round, ckL s3] 71] := hI
    refine ⟨(hI.good.weakm [true, true, true] (hleH16.trans hleH21) rfl), ?_⟩
    refine dp (v := .bool (!x20)) 6 (by kernel_rfl) rfl rfl (fun _ => r_not rfl rfl) rfl hP ?_
    refine dp (v := .bool (!x20)) 7 (by kernel_rfl) rfl rfl (fun _ => r_pkF rfl rfl rfl) rfl hP ?_
    by_cases hc24 : x20 = true
    · skip
      rw [if_pos hc24] at hF
      have hbhc24 : (!x20) = false := (by rw [hc24]; rfl)
      refine dp (v := .bool false) 8 (by kernel_rfl) rfl rfl (fun _ => r_mv rfl ((show opd _ _ _ = _ from rfl).trans (congrArg Value.bool hbhc24))) rfl hP ?_
      refine dp (v := .pointer (some ⟨g6, 0 + 0, none⟩)) 9 (by kernel_rfl) rfl rfl (fun _ => l_fa (j := 0) (i := 0) rfl fl69_0 h12 rfl) rfl hP ?_
      refine dp (v := .pointer (some ⟨g4, 0 + 0, none⟩)) 11 (by kernel_rfl) rfl rfl (fun _ => l_fa (j := 0) (i := 0) rfl fl64_0 h11 rfl) rfl hP ?_
      refine dr (v := .int .i64 a1.Epoch) 10 (by kernel_rfl) rfl rfl (hI.good.weakm [true, true, true] (hleH16.trans hleH21) rfl) (fun _ hG => r_cl1 (off := 0) (p := 0) (hG.ca 1 rfl) rfl sc3 rfl rfl rfl) rfl hP ?_
      refine dr (v := .int .i64 a0.Epoch) 12 (by kernel_rfl) rfl rfl (hI.good.weakm [true, true, true] (hleH16.trans hleH21) rfl) (fun _ hG => r_cl1 (off := 0) (p := 0) (hG.ca 0 rfl) rfl sc3 rfl rfl rfl) rfl hP ?_
      refine dp (v := .bool (decide (a1.Epoch ≠ a0.Epoch))) 13 (by kernel_rfl) rfl rfl (fun _ => r_neq rfl rfl rfl rfl) rfl hP ?_
      refine dp (v := .bool (decide (a1.Epoch ≠ a0.Epoch))) 14 (by kernel_rfl) rfl rfl (fun _ => r_pkF rfl rfl rfl) rfl hP ?_
      by_cases hc25 : a1.Epoch ≠ a0.Epoch
      · skip
        rw [if_pos hc25] at hF
        have hbhc25 : (decide (a1.Epoch ≠ a0.Epoch)) = true := decide_eq_true hc25
        refine dp (v := .bool true) 15 (by kernel_rfl) rfl rfl (fun _ => r_mv rfl ((show opd _ _ _ = _ from rfl).trans (congrArg Value.bool hbhc25))) rfl hP ?_
        refine dx 16 (by kernel_rfl) rfl (by kernel_rfl) rfl hP ?_
        refine dx 17 (by kernel_rfl) rfl (by kernel_rfl) rfl hP ?_
        refine dx 18 (by kernel_rfl) rfl (by kernel_rfl) rfl hP ?_
        refine dx 19 (by kernel_rfl) rfl (by kernel_rfl) rfl hP ?_
        refine dx 20 (by kernel_rfl) rfl (by kernel_rfl) rfl hP ?_
        refine dx 21 (by kernel_rfl) rfl (by kernel_rfl) rfl hP ?_
        refine dp (v := .bool true) 22 (by kernel_rfl) rfl rfl (fun _ => r_pkT rfl rfl rfl) rfl hP ?_
        refine dend (by kernel_rfl) ?_
        refine wthen ?_
        refine wren (fun ρ26 eρ26 => ?_)
        have h27 : opd ρ26 81 (.tmp 3) = .pointer (some ⟨g4, 0 + 0, none⟩) := (eρ26 3).trans h11
        have h28 : opd ρ26 81 (.tmp 4) = .pointer (some ⟨g6, 0 + 0, none⟩) := (eρ26 4).trans h12
        have h29 : opd ρ26 81 (.tmp 5) = .pointer (some ⟨g8, 0 + 0, none⟩) := (eρ26 5).trans h13
        have h30 : opd ρ26 81 (.tmp 33) = .bool true := eρ26 33
        clear eρ26
        refine wcT h30 ?_
        refine wseq ?_
        refine wreg ?_
        refine lv (v := .bool false) rfl (r_as rfl rfl) rfl ?_
        refine wend ?_
        refine wthen ?_
        refine wren (fun ρ31 eρ31 => ?_)
        have h32 : opd ρ31 81 (.tmp 6) = .bool false := eρ31 6
        clear eρ31
        refine wp_ret ?_
        refine thR ?_
        obtain rfl := Option.some.inj hF
        subst hB
        refine finR (rs := [.tmp 6]) (vs := [.bool false]) rfl ⟨h32, trivial⟩ ?_
        exact hI.fin 0 ⟨rfl, rfl⟩
      · skip
        rw [if_neg hc25] at hF
        have hbhc25 : (decide (a1.Epoch ≠ a0.Epoch)) = false := decide_eq_false hc25
        refine dp (v := .bool false) 15 (by kernel_rfl) rfl rfl (fun _ => r_mv rfl ((show opd _ _ _ = _ from rfl).trans (congrArg Value.bool hbhc25))) rfl hP ?_
        refine dp (v := .pointer (some ⟨g8, 0 + 1, none⟩)) 16 (by kernel_rfl) rfl rfl (fun _ => l_fa (j := 0) (i := 0) rfl fl71_1 h13 rfl) rfl hP ?_
        refine dr (v := s3.v) 17 (by kernel_rfl) rfl rfl (hI.good.weakm [true, true, true] (hleH16.trans hleH21) rfl) (fun _ hG => r_cl1 (off := 1) (p := 1) (hG.ca 2 rfl) rfl sc22 rfl rfl rfl) rfl hP ?_
        refine dp (v := .int .i64 (a2.Votes.length : Int)) 18 (by kernel_rfl) rfl rfl (fun _ => r_lenS rfl sl22 rfl ((hs3.mono hleH16).mono hleH21)) rfl hP ?_
        refine dr (v := .agg (flat [ckI a0.Epoch, ckL s1]).toArray) 19 (by kernel_rfl) rfl rfl (hI.good.weakm [true, true, true] (hleH16.trans hleH21) rfl) (fun _ hG => r_cla (off := 0) (p := 0) (m := 2) (hG.ca 0 rfl) rfl ag64 h11 rfl rfl) rfl hP ?_
        obtain ⟨x33, hx33, hF⟩ := Option.bind_eq_some_iff.1 hF
        have hsp36 := spec_88 hx33 ((hT.mono hleH16).mono hleH21) (hI.part 0) ((hs1.mono hleH16).mono hleH21)
        refine dfc 20 ([]) ([.cb g4 [ckI a0.Epoch, ckL s1] 64, .cb g6 [ckI a1.Epoch, ckI a1.Height, ckV flB a1.Prev, ckV flB a1.State, ckV flB a1.Next, ckL s2] 69, .cb g8 [ckI a2.Round, ckL s3] 71]) (args := [.agg (flat [ckI a0.Epoch, ckL s1]).toArray]) fc88 (by kernel_rfl) rfl rfl rfl rfl rfl hI (argc rfl rfl) (hsp36) ?_
        rintro _ H34 _ w35 ⟨rfl, rfl⟩ hleH34 hI
        replace hI : Inv B w35 H34 [.cb g4 [ckI a0.Epoch, ckL s1] 64, .cb g6 [ckI a1.Epoch, ckI a1.Height, ckV flB a1.Prev, ckV flB a1.State, ckV flB a1.Next, ckL s2] 69, .cb g8 [ckI a2.Round, ckL s3] 71] := hI
        refine ⟨(hI.good.weakm [true, true, true] ((hleH16.trans hleH21).trans hleH34) rfl), ?_⟩
        refine dp (v := .bool (decide ((a2.Votes.length : Int) < x33))) 21 (by kernel_rfl) rfl rfl (fun _ => r_lss rfl rfl rfl rfl) rfl hP ?_
        refine dp (v := .bool (decide ((a2.Votes.length : Int) < x33))) 22 (by kernel_rfl) rfl rfl (fun _ => r_pkF rfl rfl rfl) rfl hP ?_
        refine dend (by kernel_rfl) ?_
        refine wthen ?_
        refine wren (fun ρ37 eρ37 => ?_)
        have h38 : opd ρ37 81 (.tmp 3) = .pointer (some ⟨g4, 0 + 0, none⟩) := (eρ37 3).trans h11
        have h39 : opd ρ37 81 (.tmp 4) = .pointer (some ⟨g6, 0 + 0, none⟩) := (eρ37 4).trans h12
        have h40 : opd ρ37 81 (.tmp 5) = .pointer (some ⟨g8, 0 + 0, none⟩) := (eρ37 5).trans h13
        have h41 : opd ρ37 81 (.tmp 33) = .bool (decide ((a2.Votes.length : Int) < x33)) := eρ37 33
        clear eρ37
        by_cases hc42 : (a2.Votes.length : Int) < x33
        · skip
          rw [if_pos hc42] at hF
          have hbhc42 : (decide ((a2.Votes.length : Int) < x33)) = true := decide_eq_true hc42
          refine wcT (h41.trans (congrArg Value.bool hbhc42)) ?_
          refine wseq ?_
          refine wreg ?_
          refine lv (v := .bool false) rfl (r_as rfl rfl) rfl ?_
          refine wend ?_
          refine wthen ?_
          refine wren (fun ρ43 eρ43 => ?_)
          have h44 : opd ρ43 81 (.tmp 6) = .bool false := eρ43 6
          clear eρ43
          refine wp_ret ?_
          refine thR ?_
          obtain rfl := Option.some.inj hF
          subst hB
          refine finR (rs := [.tmp 6]) (vs := [.bool false]) rfl ⟨h44, trivial⟩ ?_
          exact hI.fin 0 ⟨rfl, rfl⟩
        · skip
          rw [if_neg hc42] at hF
          have hbhc42 : (decide ((a2.Votes.length : Int) < x33)) = false := decide_eq_false hc42
          refine wcF (h41.trans (congrArg Value.bool hbhc42)) ?_
          refine wp_skip ?_
          refine wthen ?_
          refine wseq ?_
          refine wreg ?_
          refine lv (v := .agg (flat [ckI a1.Epoch, ckI a1.Height, ckV flB a1.Prev, ckV flB a1.State, ckV flB a1.Next, ckL s2]).toArray) rfl (r_cla (off := 0) (p := 0) (m := 6) (hI.good.ca 1 rfl) rfl ag69 h39 rfl rfl) rfl ?_
          obtain ⟨x45, hx45, hF⟩ := Option.bind_eq_some_iff.1 hF
          have hsp48 := spec_86 hx45 (((hT.mono hleH16).mono hleH21).mono hleH34) (hI.part 0) (((hs2.mono hleH16).mono hleH21).mono hleH34)
          refine fc ([]) ([.cb g4 [ckI a0.Epoch, ckL s1] 64, .cb g6 [ckI a1.Epoch, ckI a1.Height, ckV flB a1.Prev, ckV flB a1.State, ckV flB a1.Next, ckL s2] 69, .cb g8 [ckI a2.Round, ckL s3] 71]) (args := [.agg (flat [ckI a1.Epoch, ckI a1.Height, ckV flB a1.Prev, ckV flB a1.State, ckV flB a1.Next, ckL s2]).toArray]) fc86 rfl rfl rfl hI (argc rfl rfl) (hsp48) ?_
          rintro _ H46 _ w47 ⟨rfl, rfl⟩ hleH46 hI
          replace hI : Inv B w47 H46 [.cb g4 [ckI a0.Epoch, ckL s1] 64, .cb g6 [ckI a1.Epoch, ckI a1.Height, ckV flB a1.Prev, ckV flB a1.State, ckV flB a1.Next, ckL s2] 69, .cb g8 [ckI a2.Round, ckL s3] 71] := hI
          refine le rfl (l_al hI rfl ze29) rfl ?_
          rintro _ w50 ⟨g49, rfl, hI⟩
          replace hI : Inv B w50 H46 [.cb g4 [ckI a0.Epoch, ckL s1] 64, .cb g6 [ckI a1.Epoch, ckI a1.Height, ckV flB a1.Prev, ckV flB a1.State, ckV flB a1.Next, ckL s2] 69, .cb g8 [ckI a2.Round, ckL s3] 71, .cb g49 [ckV flB (Vec.rep 32 0)] 29] := hI
          refine lst rfl (l_st (off := 0) (p := 0) (m := 1) (new := [ckV flB x45]) hI 3 rfl rfl sz29 rfl rfl rfl rfl rfl rfl) rfl ?_
          intro w51 hI
          replace hI : Inv B w51 H46 [.cb g4 [ckI a0.Epoch, ckL s1] 64, .cb g6 [ckI a1.Epoch, ckI a1.Height, ckV flB a1.Prev, ckV flB a1.State, ckV flB a1.Next, ckL s2] 69, .cb g8 [ckI a2.Round, ckL s3] 71, .cb g49 [ckV flB x45] 29] := hI
          refine wend ?_
          refine wthen ?_
          refine wren (fun ρ52 eρ52 => ?_)
          have h53 : opd ρ52 81 (.tmp 3) = .pointer (some ⟨g4, 0 + 0, none⟩) := (eρ52 3).trans h38
          have h54 : opd ρ52 81 (.tmp 4) = .pointer (some ⟨g6, 0 + 0, none⟩) := (eρ52 4).trans h39
          have h55 : opd ρ52 81 (.tmp 5) = .pointer (some ⟨g8, 0 + 0, none⟩) := (eρ52 5).trans h40
          have h56 : opd ρ52 81 (.tmp 7) = .pointer (some ⟨g49, 0 + 0, none⟩) := eρ52 7
          clear eρ52
          refine wseq ?_
          refine wreg ?_
          refine lv (v := .int .i64 0) rfl (r_as rfl rfl) rfl ?_
          refine wend ?_
          refine wthen ?_
          refine wren (fun ρ57 eρ57 => ?_)
          have h58 : opd ρ57 81 (.tmp 3) = .pointer (some ⟨g4, 0 + 0, none⟩) := (eρ57 3).trans h53
          have h59 : opd ρ57 81 (.tmp 4) = .pointer (some ⟨g6, 0 + 0, none⟩) := (eρ57 4).trans h54
          have h60 : opd ρ57 81 (.tmp 5) = .pointer (some ⟨g8, 0 + 0, none⟩) := (eρ57 5).trans h55
          have h61 : opd ρ57 81 (.tmp 7) = .pointer (some ⟨g49, 0 + 0, none⟩) := (eρ57 7).trans h56
          have h62 : opd ρ57 81 (.tmp 8) = .int .i64 0 := eρ57 8
          clear eρ57
          refine wseq ?_
          refine wseq ?_
          refine wreg ?_
          refine lv (v := .pointer (some ⟨g8, 0 + 1, none⟩)) rfl (l_fa (j := 0) (i := 0) rfl fl71_1 h60 rfl) rfl ?_
          refine lv (v := s3.v) rfl (r_cl1 (off := 1) (p := 1) (hI.good.ca 2 rfl) rfl sc22 rfl rfl rfl) rfl ?_
          refine lv (v := .int .i64 (a2.Votes.length : Int)) rfl (r_lenS rfl sl22 rfl ((((hs3.mono hleH16).mono hleH21).mono hleH34).mono hleH46)) rfl ?_
          refine lv (v := .int .i64 0) rfl (r_mv rfl rfl) rfl ?_
          refine wend ?_
          refine wthen ?_
          refine wren (fun ρ63 eρ63 => ?_)
          have h64 : opd ρ63 81 (.tmp 3) = .pointer (some ⟨g4, 0 + 0, none⟩) := (eρ63 3).trans h58
          have h65 : opd ρ63 81 (.tmp 4) = .pointer (some ⟨g6, 0 + 0, none⟩) := (eρ63 4).trans h59
          have h66 : opd ρ63 81 (.tmp 5) = .pointer (some ⟨g8, 0 + 0, none⟩) := (eρ63 5).trans h60
          have h67 : opd ρ63 81 (.tmp 7) = .pointer (some ⟨g49, 0 + 0, none⟩) := (eρ63 7).trans h61
          have h68 : opd ρ63 81 (.tmp 8) = .int .i64 0 := (eρ63 8).trans h62
          have h69 : opd ρ63 81 (.tmp 37) = s3.v := eρ63 37
          have h70 : opd ρ63 81 (.tmp 38) = .int .i64 (a2.Votes.length : Int) := eρ63 38
          have h71 : opd ρ63 81 (.tmp 39) = .int .i64 0 := eρ63 39
          clear eρ63
          refine wp_block ?_
          have hbd72 := (((((hs3.mono hleH16).mono hleH21).mono hleH34).mono hleH46)).bd
          rw [(((((hs3.mono hleH16).mono hleH21).mono hleH34).mono hleH46)).n] at hbd72
          obtain ⟨y72, hy72, hF72⟩ := Option.bind_eq_some_iff.1 hF
          refine wfor (n := 81) a2.Votes.length _ (fun (i72 : Nat) (σ72 : Int) ρ' w' => ∃ (H325 : Hp), Hle H46 H325 ∧ opd ρ' 81 (.tmp 3) = .pointer (some ⟨g4, 0 + 0, none⟩) ∧ opd ρ' 81 (.tmp 4) = .pointer (some ⟨g6, 0 + 0, none⟩) ∧ opd ρ' 81 (.tmp 5) = .pointer (some ⟨g8, 0 + 0, none⟩) ∧ opd ρ' 81 (.tmp 7) = .pointer (some ⟨g49, 0 + 0, none⟩) ∧ opd ρ' 81 (.tmp 8) = .int .i64 σ72 ∧ opd ρ' 81 (.tmp 37) = s3.v ∧ opd ρ' 81 (.tmp 38) = .int .i64 (a2.Votes.length : Int) ∧ opd ρ' 81 (.tmp 39) = .int .i64 (i72 : Int) ∧ Inv B w' H325 [.cb g4 [ckI a0.Epoch, ckL s1] 64, .cb g6 [ckI a1.Epoch, ckI a1.Height, ckV flB a1.Prev, ckV flB a1.State, ckV flB a1.Next, ckL s2] 69, .cb g8 [ckI a2.Round, ckL s3] 71, .cb g49 [ckV flB x45] 29]) hy72 ⟨H46, (Hle.refl _), h64, h65, h66, h67, h68, h69, h70, h71, hI⟩ ?_
          rintro k72 i72 σ72 ρ334 w335 hk72 ⟨H325, hleH325, h326, h327, h328, h329, h330, h331, h332, h333, hI⟩ hy72
          refine wseq ?_
          refine wreg ?_
          refine lv (v := .bool (decide ((i72 : Int) < (a2.Votes.length : Int)))) rfl (r_lss rfl h333 h332 rfl) rfl ?_
          refine wend ?_
          refine wthen ?_
          refine wseq ?_
          by_cases hc336 : (i72 : Int) < (a2.Votes.length : Int)
          · skip
            have hbhc336 : (decide ((i72 : Int) < (a2.Votes.length : Int))) = true := decide_eq_true hc336
            obtain ⟨k72, rfl⟩ : ∃ m, k72 = m + 1 := ⟨k72 - 1, by omega⟩
            obtain ⟨z72, hb72⟩ := forK_body hy72
            have hF := hb72
            have hlt72 : ((i72 : Nat) : Int) + 1 ≤ 9223372036854775807 := by omega
            refine wcT ((show opd _ _ _ = _ from rfl).trans (congrArg Value.bool hbhc336)) ?_
            refine wp_skip ?_
            refine wthen ?_
            refine wren (fun ρ337 eρ337 => ?_)
            have h338 : opd ρ337 81 (.tmp 3) = .pointer (some ⟨g4, 0 + 0, none⟩) := (eρ337 3).trans h326
            have h339 : opd ρ337 81 (.tmp 4) = .pointer (some ⟨g6, 0 + 0, none⟩) := (eρ337 4).trans h327
            have h340 : opd ρ337 81 (.tmp 5) = .pointer (some ⟨g8, 0 + 0, none⟩) := (eρ337 5).trans h328
            have h341 : opd ρ337 81 (.tmp 7) = .pointer (some ⟨g49, 0 + 0, none⟩) := (eρ337 7).trans h329
            have h342 : opd ρ337 81 (.tmp 8) = .int .i64 σ72 := (eρ337 8).trans h330
            have h343 : opd ρ337 81 (.tmp 37) = s3.v := (eρ337 37).trans h331
            have h344 : opd ρ337 81 (.tmp 38) = .int .i64 (a2.Votes.length : Int) := (eρ337 38).trans h332
            have h345 : opd ρ337 81 (.tmp 39) = .int .i64 (i72 : Int) := (eρ337 39).trans h333
            clear eρ337
            refine wseq ?_
            refine wp_block ?_
            refine wseq ?_
            refine wreg ?_
            obtain ⟨x346, hx346, hF⟩ := Option.bind_eq_some_iff.1 hF
            obtain ⟨b347, j348, _, hix349, hil350, ⟨s352, s353, s354, rfl, hs352, hs353, hs354⟩, hA351⟩ := (((((hs3.mono hleH16).mono hleH21).mono hleH34).mono hleH46).mono hleH325).ix hx346
            replace hA351 : At H325 b347 j348 [ckI x346.Kind, ckI x346.Epoch, ckI x346.Height, ckI x346.Round, ckV flB x346.Digest, ckI x346.From, ckI x346.Sig.Leaf, ckL s352, ckL s353, ckL s354] := hA351
            refine lv (v := .pointer (some ⟨b347, j348 + 0, none⟩)) rfl (r_ixt rfl sl22 h343 h345 rfl hix349 hil350) rfl ?_
            refine lv (v := .agg (flat [ckI x346.Kind, ckI x346.Epoch, ckI x346.Height, ckI x346.Round, ckV flB x346.Digest, ckI x346.From, ckI x346.Sig.Leaf, ckL s352, ckL s353, ckL s354]).toArray) rfl (r_cla (off := 0) (p := 0) (m := 10) (hA351.ca hI.good) rfl ag35 rfl rfl rfl) rfl ?_
            refine le rfl (l_al hI rfl ze35) rfl ?_
            rintro _ w356 ⟨g355, rfl, hI⟩
            replace hI : Inv B w356 H325 [.cb g4 [ckI a0.Epoch, ckL s1] 64, .cb g6 [ckI a1.Epoch, ckI a1.Height, ckV flB a1.Prev, ckV flB a1.State, ckV flB a1.Next, ckL s2] 69, .cb g8 [ckI a2.Round, ckL s3] 71, .cb g49 [ckV flB x45] 29, .cb g355 [ckI 0, ckI 0, ckI 0, ckI 0, ckV flB (Vec.rep 32 0), ckI 0, ckI 0, ckL Sv.nil, ckL Sv.nil, ckL Sv.nil] 35] := hI
            refine lst rfl (l_st (off := 0) (p := 0) (m := 10) (new := [ckI x346.Kind, ckI x346.Epoch, ckI x346.Height, ckI x346.Round, ckV flB x346.Digest, ckI x346.From, ckI x346.Sig.Leaf, ckL s352, ckL s353, ckL s354]) hI 4 rfl rfl sz35 rfl rfl rfl rfl rfl rfl) rfl ?_
            intro w357 hI
            replace hI : Inv B w357 H325 [.cb g4 [ckI a0.Epoch, ckL s1] 64, .cb g6 [ckI a1.Epoch, ckI a1.Height, ckV flB a1.Prev, ckV flB a1.State, ckV flB a1.Next, ckL s2] 69, .cb g8 [ckI a2.Round, ckL s3] 71, .cb g49 [ckV flB x45] 29, .cb g355 [ckI x346.Kind, ckI x346.Epoch, ckI x346.Height, ckI x346.Round, ckV flB x346.Digest, ckI x346.From, ckI x346.Sig.Leaf, ckL s352, ckL s353, ckL s354] 35] := hI
            refine wend ?_
            refine wthen ?_
            refine wren (fun ρ358 eρ358 => ?_)
            have h359 : opd ρ358 81 (.tmp 3) = .pointer (some ⟨g4, 0 + 0, none⟩) := (eρ358 3).trans h338
            have h360 : opd ρ358 81 (.tmp 4) = .pointer (some ⟨g6, 0 + 0, none⟩) := (eρ358 4).trans h339
            have h361 : opd ρ358 81 (.tmp 5) = .pointer (some ⟨g8, 0 + 0, none⟩) := (eρ358 5).trans h340
            have h362 : opd ρ358 81 (.tmp 7) = .pointer (some ⟨g49, 0 + 0, none⟩) := (eρ358 7).trans h341
            have h363 : opd ρ358 81 (.tmp 8) = .int .i64 σ72 := (eρ358 8).trans h342
            have h364 : opd ρ358 81 (.tmp 10) = .pointer (some ⟨g355, 0 + 0, none⟩) := eρ358 10
            have h365 : opd ρ358 81 (.tmp 37) = s3.v := (eρ358 37).trans h343
            have h366 : opd ρ358 81 (.tmp 38) = .int .i64 (a2.Votes.length : Int) := (eρ358 38).trans h344
            have h367 : opd ρ358 81 (.tmp 39) = .int .i64 (i72 : Int) := (eρ358 39).trans h345
            clear eρ358
            refine wseq ?_
            refine wseq ?_
            refine wreg ?_
            refine lv (v := .pointer (some ⟨g355, 0 + 36, none⟩)) rfl (l_fa (j := 0) (i := 0) rfl fl35_5 h364 rfl) rfl ?_
            refine lv (v := .int .i64 x346.From) rfl (r_cl1 (off := 36) (p := 5) (hI.good.ca 4 rfl) rfl sc3 rfl rfl rfl) rfl ?_
            refine lv (v := .int .i64 σ72) rfl (r_mv rfl h363) rfl ?_
            refine lv (v := .bool (decide (x346.From ≤ σ72))) rfl (r_leq rfl rfl rfl rfl) rfl ?_
            by_cases hc368 : x346.From ≤ σ72
            · skip
              rw [if_pos hc368] at hF
              have hbhc368 : (decide (x346.From ≤ σ72)) = true := decide_eq_true hc368
              refine lv (v := .bool true) rfl (r_mv rfl ((show opd _ _ _ = _ from rfl).trans (congrArg Value.bool hbhc368))) rfl ?_
              with_reducible refine lx (d := 48) (by kernel_rfl) (by kernel_rfl) ?_
              with_reducible refine lx (d := 49) (by kernel_rfl) (by kernel_rfl) ?_
              with_reducible refine lx (d := 50) (by kernel_rfl) (by kernel_rfl) ?_
              refine lv (v := .bool true) rfl (r_pkT rfl rfl rfl) rfl ?_
              refine lv (v := .bool true) rfl (r_mv rfl rfl) rfl ?_
              with_reducible refine lx (d := 53) (by kernel_rfl) (by kernel_rfl) ?_
              with_reducible refine lx (d := 54) (by kernel_rfl) (by kernel_rfl) ?_
              with_reducible refine lx (d := 55) (by kernel_rfl) (by kernel_rfl) ?_
              with_reducible refine lx (d := 56) (by kernel_rfl) (by kernel_rfl) ?_
              with_reducible refine lx (d := 57) (by kernel_rfl) (by kernel_rfl) ?_
              refine lv (v := .bool true) rfl (r_pkT rfl rfl rfl) rfl ?_
              refine lv (v := .bool true) rfl (r_mv rfl rfl) rfl ?_
              with_reducible refine lx (d := 60) (by kernel_rfl) (by kernel_rfl) ?_
              with_reducible refine lx (d := 61) (by kernel_rfl) (by kernel_rfl) ?_
              with_reducible refine lx (d := 62) (by kernel_rfl) (by kernel_rfl) ?_
              with_reducible refine lx (d := 63) (by kernel_rfl) (by kernel_rfl) ?_
              with_reducible refine lx (d := 64) (by kernel_rfl) (by kernel_rfl) ?_
              refine lv (v := .bool true) rfl (r_pkT rfl rfl rfl) rfl ?_
              refine lv (v := .bool true) rfl (r_mv rfl rfl) rfl ?_
              with_reducible refine lx (d := 67) (by kernel_rfl) (by kernel_rfl) ?_
              with_reducible refine lx (d := 68) (by kernel_rfl) (by kernel_rfl) ?_
              with_reducible refine lx (d := 69) (by kernel_rfl) (by kernel_rfl) ?_
              with_reducible refine lx (d := 70) (by kernel_rfl) (by kernel_rfl) ?_
              refine lv (v := .bool true) rfl (r_pkT rfl rfl rfl) rfl ?_
              refine lv (v := .bool true) rfl (r_mv rfl rfl) rfl ?_
              with_reducible refine lx (d := 73) (by kernel_rfl) (by kernel_rfl) ?_
              with_reducible refine lx (d := 74) (by kernel_rfl) (by kernel_rfl) ?_
              with_reducible refine lx (d := 75) (by kernel_rfl) (by kernel_rfl) ?_
              with_reducible refine lx (d := 76) (by kernel_rfl) (by kernel_rfl) ?_
              refine lv (v := .bool true) rfl (r_pkT rfl rfl rfl) rfl ?_
              refine wend ?_
              refine wthen ?_
              refine wren (fun ρ369 eρ369 => ?_)
              have h370 : opd ρ369 81 (.tmp 3) = .pointer (some ⟨g4, 0 + 0, none⟩) := (eρ369 3).trans h359
              have h371 : opd ρ369 81 (.tmp 4) = .pointer (some ⟨g6, 0 + 0, none⟩) := (eρ369 4).trans h360
              have h372 : opd ρ369 81 (.tmp 5) = .pointer (some ⟨g8, 0 + 0, none⟩) := (eρ369 5).trans h361
              have h373 : opd ρ369 81 (.tmp 7) = .pointer (some ⟨g49, 0 + 0, none⟩) := (eρ369 7).trans h362
              have h374 : opd ρ369 81 (.tmp 10) = .pointer (some ⟨g355, 0 + 0, none⟩) := (eρ369 10).trans h364
              have h375 : opd ρ369 81 (.tmp 37) = s3.v := (eρ369 37).trans h365
              have h376 : opd ρ369 81 (.tmp 38) = .int .i64 (a2.Votes.length : Int) := (eρ369 38).trans h366
              have h377 : opd ρ369 81 (.tmp 39) = .int .i64 (i72 : Int) := (eρ369 39).trans h367
              have h378 : opd ρ369 81 (.tmp 77) = .bool true := eρ369 77
              clear eρ369
              refine wcT h378 ?_
              refine wseq ?_
              refine wreg ?_
              refine lv (v := .bool false) rfl (r_as rfl rfl) rfl ?_
              refine wend ?_
              refine wthen ?_
              refine wren (fun ρ379 eρ379 => ?_)
              have h380 : opd ρ379 81 (.tmp 6) = .bool false := eρ379 6
              clear eρ379
              refine wp_ret ?_
              refine thR ?_
              refine inR ?_
              refine thR ?_
              refine thR ?_
              obtain ⟨q381, hFn, hzq381⟩ := Option.map_eq_some_iff.1 hF
              clear hF
              obtain rfl := forK_inr hy72 (hb72.trans (congrArg some hzq381.symm))
              have hF0 := hF72
              try dsimp only at hF0
              have hF := hFn.trans hF0
              clear hFn hF0
              refine inR ?_
              refine thR ?_
              obtain rfl := Option.some.inj hF
              subst hB
              refine finR (rs := [.tmp 6]) (vs := [.bool false]) rfl ⟨h380, trivial⟩ ?_
              exact hI.fin 0 ⟨rfl, rfl⟩
            · skip
              rw [if_neg hc368] at hF
              have hbhc368 : (decide (x346.From ≤ σ72)) = false := decide_eq_false hc368
              refine lv (v := .bool false) rfl (r_mv rfl ((show opd _ _ _ = _ from rfl).trans (congrArg Value.bool hbhc368))) rfl ?_
              refine lv (v := .pointer (some ⟨g355, 0 + 0, none⟩)) rfl (l_fa (j := 0) (i := 0) rfl fl35_0 h364 rfl) rfl ?_
              refine lv (v := .int .i64 x346.Kind) rfl (r_cl1 (off := 0) (p := 0) (hI.good.ca 4 rfl) rfl sc3 rfl rfl rfl) rfl ?_
              refine lv (v := .bool (decide (x346.Kind ≠ 2))) rfl (r_neq rfl rfl rfl rfl) rfl ?_
              refine lv (v := .bool (decide (x346.Kind ≠ 2))) rfl (r_pkF rfl rfl rfl) rfl ?_
              by_cases hc382 : x346.Kind ≠ 2
              · skip
                rw [if_pos hc382] at hF
                have hbhc382 : (decide (x346.Kind ≠ 2)) = true := decide_eq_true hc382
                refine lv (v := .bool true) rfl (r_mv rfl ((show opd _ _ _ = _ from rfl).trans (congrArg Value.bool hbhc382))) rfl ?_
                with_reducible refine lx (d := 53) (by kernel_rfl) (by kernel_rfl) ?_
                with_reducible refine lx (d := 54) (by kernel_rfl) (by kernel_rfl) ?_
                with_reducible refine lx (d := 55) (by kernel_rfl) (by kernel_rfl) ?_
                with_reducible refine lx (d := 56) (by kernel_rfl) (by kernel_rfl) ?_
                with_reducible refine lx (d := 57) (by kernel_rfl) (by kernel_rfl) ?_
                refine lv (v := .bool true) rfl (r_pkT rfl rfl rfl) rfl ?_
                refine lv (v := .bool true) rfl (r_mv rfl rfl) rfl ?_
                with_reducible refine lx (d := 60) (by kernel_rfl) (by kernel_rfl) ?_
                with_reducible refine lx (d := 61) (by kernel_rfl) (by kernel_rfl) ?_
                with_reducible refine lx (d := 62) (by kernel_rfl) (by kernel_rfl) ?_
                with_reducible refine lx (d := 63) (by kernel_rfl) (by kernel_rfl) ?_
                with_reducible refine lx (d := 64) (by kernel_rfl) (by kernel_rfl) ?_
                refine lv (v := .bool true) rfl (r_pkT rfl rfl rfl) rfl ?_
                refine lv (v := .bool true) rfl (r_mv rfl rfl) rfl ?_
                with_reducible refine lx (d := 67) (by kernel_rfl) (by kernel_rfl) ?_
                with_reducible refine lx (d := 68) (by kernel_rfl) (by kernel_rfl) ?_
                with_reducible refine lx (d := 69) (by kernel_rfl) (by kernel_rfl) ?_
                with_reducible refine lx (d := 70) (by kernel_rfl) (by kernel_rfl) ?_
                refine lv (v := .bool true) rfl (r_pkT rfl rfl rfl) rfl ?_
                refine lv (v := .bool true) rfl (r_mv rfl rfl) rfl ?_
                with_reducible refine lx (d := 73) (by kernel_rfl) (by kernel_rfl) ?_
                with_reducible refine lx (d := 74) (by kernel_rfl) (by kernel_rfl) ?_
                with_reducible refine lx (d := 75) (by kernel_rfl) (by kernel_rfl) ?_
                with_reducible refine lx (d := 76) (by kernel_rfl) (by kernel_rfl) ?_
                refine lv (v := .bool true) rfl (r_pkT rfl rfl rfl) rfl ?_
                refine wend ?_
                refine wthen ?_
                refine wren (fun ρ383 eρ383 => ?_)
                have h384 : opd ρ383 81 (.tmp 3) = .pointer (some ⟨g4, 0 + 0, none⟩) := (eρ383 3).trans h359
                have h385 : opd ρ383 81 (.tmp 4) = .pointer (some ⟨g6, 0 + 0, none⟩) := (eρ383 4).trans h360
                have h386 : opd ρ383 81 (.tmp 5) = .pointer (some ⟨g8, 0 + 0, none⟩) := (eρ383 5).trans h361
                have h387 : opd ρ383 81 (.tmp 7) = .pointer (some ⟨g49, 0 + 0, none⟩) := (eρ383 7).trans h362
                have h388 : opd ρ383 81 (.tmp 10) = .pointer (some ⟨g355, 0 + 0, none⟩) := (eρ383 10).trans h364
                have h389 : opd ρ383 81 (.tmp 37) = s3.v := (eρ383 37).trans h365
                have h390 : opd ρ383 81 (.tmp 38) = .int .i64 (a2.Votes.length : Int) := (eρ383 38).trans h366
                have h391 : opd ρ383 81 (.tmp 39) = .int .i64 (i72 : Int) := (eρ383 39).trans h367
                have h392 : opd ρ383 81 (.tmp 77) = .bool true := eρ383 77
                clear eρ383
                refine wcT h392 ?_
                refine wseq ?_
                refine wreg ?_
                refine lv (v := .bool false) rfl (r_as rfl rfl) rfl ?_
                refine wend ?_
                refine wthen ?_
                refine wren (fun ρ393 eρ393 => ?_)
                have h394 : opd ρ393 81 (.tmp 6) = .bool false := eρ393 6
                clear eρ393
                refine wp_ret ?_
                refine thR ?_
                refine inR ?_
                refine thR ?_
                refine thR ?_
                obtain ⟨q395, hFn, hzq395⟩ := Option.map_eq_some_iff.1 hF
                clear hF
                obtain rfl := forK_inr hy72 (hb72.trans (congrArg some hzq395.symm))
                have hF0 := hF72
                try dsimp only at hF0
                have hF := hFn.trans hF0
                clear hFn hF0
                refine inR ?_
                refine thR ?_
                obtain rfl := Option.some.inj hF
                subst hB
                refine finR (rs := [.tmp 6]) (vs := [.bool false]) rfl ⟨h394, trivial⟩ ?_
                exact hI.fin 0 ⟨rfl, rfl⟩
              · skip
                rw [if_neg hc382] at hF
                have hbhc382 : (decide (x346.Kind ≠ 2)) = false := decide_eq_false hc382
                refine lv (v := .bool false) rfl (r_mv rfl ((show opd _ _ _ = _ from rfl).trans (congrArg Value.bool hbhc382))) rfl ?_
                refine lv (v := .pointer (some ⟨g355, 0 + 2, none⟩)) rfl (l_fa (j := 0) (i := 0) rfl fl35_2 h364 rfl) rfl ?_
                refine lv (v := .int .i64 x346.Height) rfl (r_cl1 (off := 2) (p := 2) (hI.good.ca 4 rfl) rfl sc3 rfl rfl rfl) rfl ?_
                refine lv (v := .pointer (some ⟨g6, 0 + 1, none⟩)) rfl (l_fa (j := 0) (i := 0) rfl fl69_1 h360 rfl) rfl ?_
                refine lv (v := .int .i64 a1.Height) rfl (r_cl1 (off := 1) (p := 1) (hI.good.ca 1 rfl) rfl sc3 rfl rfl rfl) rfl ?_
                refine lv (v := .bool (decide (x346.Height ≠ a1.Height))) rfl (r_neq rfl rfl rfl rfl) rfl ?_
                refine lv (v := .bool (decide (x346.Height ≠ a1.Height))) rfl (r_pkF rfl rfl rfl) rfl ?_
                by_cases hc396 : x346.Height ≠ a1.Height
                · skip
                  rw [if_pos hc396] at hF
                  have hbhc396 : (decide (x346.Height ≠ a1.Height)) = true := decide_eq_true hc396
                  refine lv (v := .bool true) rfl (r_mv rfl ((show opd _ _ _ = _ from rfl).trans (congrArg Value.bool hbhc396))) rfl ?_
                  with_reducible refine lx (d := 60) (by kernel_rfl) (by kernel_rfl) ?_
                  with_reducible refine lx (d := 61) (by kernel_rfl) (by kernel_rfl) ?_
                  with_reducible refine lx (d := 62) (by kernel_rfl) (by kernel_rfl) ?_
                  with_reducible refine lx (d := 63) (by kernel_rfl) (by kernel_rfl) ?_
                  with_reducible refine lx (d := 64) (by kernel_rfl) (by kernel_rfl) ?_
                  refine lv (v := .bool true) rfl (r_pkT rfl rfl rfl) rfl ?_
                  refine lv (v := .bool true) rfl (r_mv rfl rfl) rfl ?_
                  with_reducible refine lx (d := 67) (by kernel_rfl) (by kernel_rfl) ?_
                  with_reducible refine lx (d := 68) (by kernel_rfl) (by kernel_rfl) ?_
                  with_reducible refine lx (d := 69) (by kernel_rfl) (by kernel_rfl) ?_
                  with_reducible refine lx (d := 70) (by kernel_rfl) (by kernel_rfl) ?_
                  refine lv (v := .bool true) rfl (r_pkT rfl rfl rfl) rfl ?_
                  refine lv (v := .bool true) rfl (r_mv rfl rfl) rfl ?_
                  with_reducible refine lx (d := 73) (by kernel_rfl) (by kernel_rfl) ?_
                  with_reducible refine lx (d := 74) (by kernel_rfl) (by kernel_rfl) ?_
                  with_reducible refine lx (d := 75) (by kernel_rfl) (by kernel_rfl) ?_
                  with_reducible refine lx (d := 76) (by kernel_rfl) (by kernel_rfl) ?_
                  refine lv (v := .bool true) rfl (r_pkT rfl rfl rfl) rfl ?_
                  refine wend ?_
                  refine wthen ?_
                  refine wren (fun ρ397 eρ397 => ?_)
                  have h398 : opd ρ397 81 (.tmp 3) = .pointer (some ⟨g4, 0 + 0, none⟩) := (eρ397 3).trans h359
                  have h399 : opd ρ397 81 (.tmp 4) = .pointer (some ⟨g6, 0 + 0, none⟩) := (eρ397 4).trans h360
                  have h400 : opd ρ397 81 (.tmp 5) = .pointer (some ⟨g8, 0 + 0, none⟩) := (eρ397 5).trans h361
                  have h401 : opd ρ397 81 (.tmp 7) = .pointer (some ⟨g49, 0 + 0, none⟩) := (eρ397 7).trans h362
                  have h402 : opd ρ397 81 (.tmp 10) = .pointer (some ⟨g355, 0 + 0, none⟩) := (eρ397 10).trans h364
                  have h403 : opd ρ397 81 (.tmp 37) = s3.v := (eρ397 37).trans h365
                  have h404 : opd ρ397 81 (.tmp 38) = .int .i64 (a2.Votes.length : Int) := (eρ397 38).trans h366
                  have h405 : opd ρ397 81 (.tmp 39) = .int .i64 (i72 : Int) := (eρ397 39).trans h367
                  have h406 : opd ρ397 81 (.tmp 77) = .bool true := eρ397 77
                  clear eρ397
                  refine wcT h406 ?_
                  refine wseq ?_
                  refine wreg ?_
                  refine lv (v := .bool false) rfl (r_as rfl rfl) rfl ?_
                  refine wend ?_
                  refine wthen ?_
                  refine wren (fun ρ407 eρ407 => ?_)
                  have h408 : opd ρ407 81 (.tmp 6) = .bool false := eρ407 6
                  clear eρ407
                  refine wp_ret ?_
                  refine thR ?_
                  refine inR ?_
                  refine thR ?_
                  refine thR ?_
                  obtain ⟨q409, hFn, hzq409⟩ := Option.map_eq_some_iff.1 hF
                  clear hF
                  obtain rfl := forK_inr hy72 (hb72.trans (congrArg some hzq409.symm))
                  have hF0 := hF72
                  try dsimp only at hF0
                  have hF := hFn.trans hF0
                  clear hFn hF0
                  refine inR ?_
                  refine thR ?_
                  obtain rfl := Option.some.inj hF
                  subst hB
                  refine finR (rs := [.tmp 6]) (vs := [.bool false]) rfl ⟨h408, trivial⟩ ?_
                  exact hI.fin 0 ⟨rfl, rfl⟩
                · skip
                  rw [if_neg hc396] at hF
                  have hbhc396 : (decide (x346.Height ≠ a1.Height)) = false := decide_eq_false hc396
                  refine lv (v := .bool false) rfl (r_mv rfl ((show opd _ _ _ = _ from rfl).trans (congrArg Value.bool hbhc396))) rfl ?_
                  refine lv (v := .pointer (some ⟨g355, 0 + 3, none⟩)) rfl (l_fa (j := 0) (i := 0) rfl fl35_3 h364 rfl) rfl ?_
                  refine lv (v := .int .i64 x346.Round) rfl (r_cl1 (off := 3) (p := 3) (hI.good.ca 4 rfl) rfl sc3 rfl rfl rfl) rfl ?_
                  refine lv (v := .pointer (some ⟨g8, 0 + 0, none⟩)) rfl (l_fa (j := 0) (i := 0) rfl fl71_0 h361 rfl) rfl ?_
                  refine lv (v := .int .i64 a2.Round) rfl (r_cl1 (off := 0) (p := 0) (hI.good.ca 2 rfl) rfl sc3 rfl rfl rfl) rfl ?_
                  refine lv (v := .bool (decide (x346.Round ≠ a2.Round))) rfl (r_neq rfl rfl rfl rfl) rfl ?_
                  refine lv (v := .bool (decide (x346.Round ≠ a2.Round))) rfl (r_pkF rfl rfl rfl) rfl ?_
                  by_cases hc410 : x346.Round ≠ a2.Round
                  · skip
                    rw [if_pos hc410] at hF
                    have hbhc410 : (decide (x346.Round ≠ a2.Round)) = true := decide_eq_true hc410
                    refine lv (v := .bool true) rfl (r_mv rfl ((show opd _ _ _ = _ from rfl).trans (congrArg Value.bool hbhc410))) rfl ?_
                    with_reducible refine lx (d := 67) (by kernel_rfl) (by kernel_rfl) ?_
                    with_reducible refine lx (d := 68) (by kernel_rfl) (by kernel_rfl) ?_
                    with_reducible refine lx (d := 69) (by kernel_rfl) (by kernel_rfl) ?_
                    with_reducible refine lx (d := 70) (by kernel_rfl) (by kernel_rfl) ?_
                    refine lv (v := .bool true) rfl (r_pkT rfl rfl rfl) rfl ?_
                    refine lv (v := .bool true) rfl (r_mv rfl rfl) rfl ?_
                    with_reducible refine lx (d := 73) (by kernel_rfl) (by kernel_rfl) ?_
                    with_reducible refine lx (d := 74) (by kernel_rfl) (by kernel_rfl) ?_
                    with_reducible refine lx (d := 75) (by kernel_rfl) (by kernel_rfl) ?_
                    with_reducible refine lx (d := 76) (by kernel_rfl) (by kernel_rfl) ?_
                    refine lv (v := .bool true) rfl (r_pkT rfl rfl rfl) rfl ?_
                    refine wend ?_
                    refine wthen ?_
                    refine wren (fun ρ411 eρ411 => ?_)
                    have h412 : opd ρ411 81 (.tmp 3) = .pointer (some ⟨g4, 0 + 0, none⟩) := (eρ411 3).trans h359
                    have h413 : opd ρ411 81 (.tmp 4) = .pointer (some ⟨g6, 0 + 0, none⟩) := (eρ411 4).trans h360
                    have h414 : opd ρ411 81 (.tmp 5) = .pointer (some ⟨g8, 0 + 0, none⟩) := (eρ411 5).trans h361
                    have h415 : opd ρ411 81 (.tmp 7) = .pointer (some ⟨g49, 0 + 0, none⟩) := (eρ411 7).trans h362
                    have h416 : opd ρ411 81 (.tmp 10) = .pointer (some ⟨g355, 0 + 0, none⟩) := (eρ411 10).trans h364
                    have h417 : opd ρ411 81 (.tmp 37) = s3.v := (eρ411 37).trans h365
                    have h418 : opd ρ411 81 (.tmp 38) = .int .i64 (a2.Votes.length : Int) := (eρ411 38).trans h366
                    have h419 : opd ρ411 81 (.tmp 39) = .int .i64 (i72 : Int) := (eρ411 39).trans h367
                    have h420 : opd ρ411 81 (.tmp 77) = .bool true := eρ411 77
                    clear eρ411
                    refine wcT h420 ?_
                    refine wseq ?_
                    refine wreg ?_
                    refine lv (v := .bool false) rfl (r_as rfl rfl) rfl ?_
                    refine wend ?_
                    refine wthen ?_
                    refine wren (fun ρ421 eρ421 => ?_)
                    have h422 : opd ρ421 81 (.tmp 6) = .bool false := eρ421 6
                    clear eρ421
                    refine wp_ret ?_
                    refine thR ?_
                    refine inR ?_
                    refine thR ?_
                    refine thR ?_
                    obtain ⟨q423, hFn, hzq423⟩ := Option.map_eq_some_iff.1 hF
                    clear hF
                    obtain rfl := forK_inr hy72 (hb72.trans (congrArg some hzq423.symm))
                    have hF0 := hF72
                    try dsimp only at hF0
                    have hF := hFn.trans hF0
                    clear hFn hF0
                    refine inR ?_
                    refine thR ?_
                    obtain rfl := Option.some.inj hF
                    subst hB
                    refine finR (rs := [.tmp 6]) (vs := [.bool false]) rfl ⟨h422, trivial⟩ ?_
                    exact hI.fin 0 ⟨rfl, rfl⟩
                  · skip
                    rw [if_neg hc410] at hF
                    have hbhc410 : (decide (x346.Round ≠ a2.Round)) = false := decide_eq_false hc410
                    refine lv (v := .bool false) rfl (r_mv rfl ((show opd _ _ _ = _ from rfl).trans (congrArg Value.bool hbhc410))) rfl ?_
                    refine lv (v := .pointer (some ⟨g355, 0 + 4, none⟩)) rfl (l_fa (j := 0) (i := 0) rfl fl35_4 h364 rfl) rfl ?_
                    refine lv (v := .agg (flat [ckV flB x346.Digest]).toArray) rfl (r_cla (off := 4) (p := 4) (m := 1) (hI.good.ca 4 rfl) rfl ag29 rfl rfl rfl) rfl ?_
                    refine lv (v := .agg (flat [ckV flB x45]).toArray) rfl (r_cla (off := 0) (p := 0) (m := 1) (hI.good.ca 3 rfl) rfl ag29 h362 rfl rfl) rfl ?_
                    refine lv (v := .bool (!decide (x346.Digest = x45))) rfl (r_neb rfl ba29 rfl rfl) rfl ?_
                    refine lv (v := .bool (!decide (x346.Digest = x45))) rfl (r_pkF rfl rfl rfl) rfl ?_
                    by_cases hc424 : x346.Digest = x45
                    · skip
                      rw [if_pos hc424] at hF
                      have hbhc424 : (!decide (x346.Digest = x45)) = false := (by rw [decide_eq_true hc424]; rfl)
                      refine lv (v := .bool false) rfl (r_mv rfl ((show opd _ _ _ = _ from rfl).trans (congrArg Value.bool hbhc424))) rfl ?_
                      refine lv (v := .agg (flat [ckI a0.Epoch, ckL s1]).toArray) rfl (r_cla (off := 0) (p := 0) (m := 2) (hI.good.ca 0 rfl) rfl ag64 h359 rfl rfl) rfl ?_
                      refine lv (v := .agg (flat [ckI x346.Kind, ckI x346.Epoch, ckI x346.Height, ckI x346.Round, ckV flB x346.Digest, ckI x346.From, ckI x346.Sig.Leaf, ckL s352, ckL s353, ckL s354]).toArray) rfl (r_cla (off := 0) (p := 0) (m := 10) (hI.good.ca 4 rfl) rfl ag35 h364 rfl rfl) rfl ?_
                      obtain ⟨x425, hx425, hF⟩ := Option.bind_eq_some_iff.1 hF
                      have hsp428 := spec_55 hx425 (((((hT.mono hleH16).mono hleH21).mono hleH34).mono hleH46).mono hleH325) (hI.part 0) (((((hs1.mono hleH16).mono hleH21).mono hleH34).mono hleH46).mono hleH325) hs352 hs353 hs354
                      refine fc ([]) ([.cb g4 [ckI a0.Epoch, ckL s1] 64, .cb g6 [ckI a1.Epoch, ckI a1.Height, ckV flB a1.Prev, ckV flB a1.State, ckV flB a1.Next, ckL s2] 69, .cb g8 [ckI a2.Round, ckL s3] 71, .cb g49 [ckV flB x45] 29, .cb g355 [ckI x346.Kind, ckI x346.Epoch, ckI x346.Height, ckI x346.Round, ckV flB x346.Digest, ckI x346.From, ckI x346.Sig.Leaf, ckL s352, ckL s353, ckL s354] 35]) (args := [.agg (flat [ckI a0.Epoch, ckL s1]).toArray, .agg (flat [ckI x346.Kind, ckI x346.Epoch, ckI x346.Height, ckI x346.Round, ckV flB x346.Digest, ckI x346.From, ckI x346.Sig.Leaf, ckL s352, ckL s353, ckL s354]).toArray]) fc55 rfl rfl rfl hI (argc rfl (argc rfl rfl)) (hsp428) ?_
                      rintro _ H426 _ w427 ⟨rfl, rfl⟩ hleH426 hI
                      replace hI : Inv B w427 H426 [.cb g4 [ckI a0.Epoch, ckL s1] 64, .cb g6 [ckI a1.Epoch, ckI a1.Height, ckV flB a1.Prev, ckV flB a1.State, ckV flB a1.Next, ckL s2] 69, .cb g8 [ckI a2.Round, ckL s3] 71, .cb g49 [ckV flB x45] 29, .cb g355 [ckI x346.Kind, ckI x346.Epoch, ckI x346.Height, ckI x346.Round, ckV flB x346.Digest, ckI x346.From, ckI x346.Sig.Leaf, ckL s352, ckL s353, ckL s354] 35] := hI
                      refine lv (v := .bool (!x425)) rfl (r_not rfl rfl) rfl ?_
                      refine lv (v := .bool (!x425)) rfl (r_pkF rfl rfl rfl) rfl ?_
                      refine wend ?_
                      refine wthen ?_
                      refine wren (fun ρ429 eρ429 => ?_)
                      have h430 : opd ρ429 81 (.tmp 3) = .pointer (some ⟨g4, 0 + 0, none⟩) := (eρ429 3).trans h359
                      have h431 : opd ρ429 81 (.tmp 4) = .pointer (some ⟨g6, 0 + 0, none⟩) := (eρ429 4).trans h360
                      have h432 : opd ρ429 81 (.tmp 5) = .pointer (some ⟨g8, 0 + 0, none⟩) := (eρ429 5).trans h361
                      have h433 : opd ρ429 81 (.tmp 7) = .pointer (some ⟨g49, 0 + 0, none⟩) := (eρ429 7).trans h362
                      have h434 : opd ρ429 81 (.tmp 10) = .pointer (some ⟨g355, 0 + 0, none⟩) := (eρ429 10).trans h364
                      have h435 : opd ρ429 81 (.tmp 37) = s3.v := (eρ429 37).trans h365
                      have h436 : opd ρ429 81 (.tmp 38) = .int .i64 (a2.Votes.length : Int) := (eρ429 38).trans h366
                      have h437 : opd ρ429 81 (.tmp 39) = .int .i64 (i72 : Int) := (eρ429 39).trans h367
                      have h438 : opd ρ429 81 (.tmp 77) = .bool (!x425) := eρ429 77
                      clear eρ429
                      by_cases hc439 : x425 = true
                      · skip
                        rw [if_pos hc439] at hF
                        have hbhc439 : (!x425) = false := (by rw [hc439]; rfl)
                        refine wcF (h438.trans (congrArg Value.bool hbhc439)) ?_
                        refine wp_skip ?_
                        refine wthen ?_
                        refine wreg ?_
                        refine lv (v := .pointer (some ⟨g355, 0 + 36, none⟩)) rfl (l_fa (j := 0) (i := 0) rfl fl35_5 h434 rfl) rfl ?_
                        refine lv (v := .int .i64 x346.From) rfl (r_cl1 (off := 36) (p := 5) (hI.good.ca 4 rfl) rfl sc3 rfl rfl rfl) rfl ?_
                        refine lv (v := .int .i64 x346.From) rfl (r_as rfl rfl) rfl ?_
                        refine wend ?_
                        refine inN ?_
                        refine wthen ?_
                        refine wren (fun ρ440 eρ440 => ?_)
                        have h441 : opd ρ440 81 (.tmp 3) = .pointer (some ⟨g4, 0 + 0, none⟩) := (eρ440 3).trans h430
                        have h442 : opd ρ440 81 (.tmp 4) = .pointer (some ⟨g6, 0 + 0, none⟩) := (eρ440 4).trans h431
                        have h443 : opd ρ440 81 (.tmp 5) = .pointer (some ⟨g8, 0 + 0, none⟩) := (eρ440 5).trans h432
                        have h444 : opd ρ440 81 (.tmp 7) = .pointer (some ⟨g49, 0 + 0, none⟩) := (eρ440 7).trans h433
                        have h445 : opd ρ440 81 (.tmp 8) = .int .i64 x346.From := eρ440 8
                        have h446 : opd ρ440 81 (.tmp 37) = s3.v := (eρ440 37).trans h435
                        have h447 : opd ρ440 81 (.tmp 38) = .int .i64 (a2.Votes.length : Int) := (eρ440 38).trans h436
                        have h448 : opd ρ440 81 (.tmp 39) = .int .i64 (i72 : Int) := (eρ440 39).trans h437
                        clear eρ440
                        refine wreg ?_
                        refine lv (v := .int .i64 ((i72 + 1 : Nat) : Int)) rfl (r_addn rfl h448 rfl hlt72) rfl ?_
                        refine lv (v := .int .i64 ((i72 + 1 : Nat) : Int)) rfl (r_mv rfl rfl) rfl ?_
                        refine wend ?_
                        obtain rfl := Option.some.inj hF
                        exact ⟨k72, x346.From, _, rfl, rfl, ⟨H426, (hleH325.trans hleH426), h441, h442, h443, h444, h445, h446, h447, rfl, (hI.keep [true, true, true, true, false])⟩, forK_inl hy72 hb72⟩
                      · skip
                        rw [if_neg hc439] at hF
                        have hbhc439 : (!x425) = true := (by rw [(Bool.eq_false_iff.2 hc439)]; rfl)
                        refine wcT (h438.trans (congrArg Value.bool hbhc439)) ?_
                        refine wseq ?_
                        refine wreg ?_
                        refine lv (v := .bool false) rfl (r_as rfl rfl) rfl ?_
                        refine wend ?_
                        refine wthen ?_
                        refine wren (fun ρ449 eρ449 => ?_)
                        have h450 : opd ρ449 81 (.tmp 6) = .bool false := eρ449 6
                        clear eρ449
                        refine wp_ret ?_
                        refine thR ?_
                        refine inR ?_
                        refine thR ?_
                        refine thR ?_
                        obtain ⟨q451, hFn, hzq451⟩ := Option.map_eq_some_iff.1 hF
                        clear hF
                        obtain rfl := forK_inr hy72 (hb72.trans (congrArg some hzq451.symm))
                        have hF0 := hF72
                        try dsimp only at hF0
                        have hF := hFn.trans hF0
                        clear hFn hF0
                        refine inR ?_
                        refine thR ?_
                        obtain rfl := Option.some.inj hF
                        subst hB
                        refine finR (rs := [.tmp 6]) (vs := [.bool false]) rfl ⟨h450, trivial⟩ ?_
                        exact hI.fin 0 ⟨rfl, rfl⟩
                    · skip
                      rw [if_neg hc424] at hF
                      have hbhc424 : (!decide (x346.Digest = x45)) = true := (by rw [decide_eq_false hc424]; rfl)
                      refine lv (v := .bool true) rfl (r_mv rfl ((show opd _ _ _ = _ from rfl).trans (congrArg Value.bool hbhc424))) rfl ?_
                      with_reducible refine lx (d := 73) (by kernel_rfl) (by kernel_rfl) ?_
                      with_reducible refine lx (d := 74) (by kernel_rfl) (by kernel_rfl) ?_
                      with_reducible refine lx (d := 75) (by kernel_rfl) (by kernel_rfl) ?_
                      with_reducible refine lx (d := 76) (by kernel_rfl) (by kernel_rfl) ?_
                      refine lv (v := .bool true) rfl (r_pkT rfl rfl rfl) rfl ?_
                      refine wend ?_
                      refine wthen ?_
                      refine wren (fun ρ452 eρ452 => ?_)
                      have h453 : opd ρ452 81 (.tmp 3) = .pointer (some ⟨g4, 0 + 0, none⟩) := (eρ452 3).trans h359
                      have h454 : opd ρ452 81 (.tmp 4) = .pointer (some ⟨g6, 0 + 0, none⟩) := (eρ452 4).trans h360
                      have h455 : opd ρ452 81 (.tmp 5) = .pointer (some ⟨g8, 0 + 0, none⟩) := (eρ452 5).trans h361
                      have h456 : opd ρ452 81 (.tmp 7) = .pointer (some ⟨g49, 0 + 0, none⟩) := (eρ452 7).trans h362
                      have h457 : opd ρ452 81 (.tmp 10) = .pointer (some ⟨g355, 0 + 0, none⟩) := (eρ452 10).trans h364
                      have h458 : opd ρ452 81 (.tmp 37) = s3.v := (eρ452 37).trans h365
                      have h459 : opd ρ452 81 (.tmp 38) = .int .i64 (a2.Votes.length : Int) := (eρ452 38).trans h366
                      have h460 : opd ρ452 81 (.tmp 39) = .int .i64 (i72 : Int) := (eρ452 39).trans h367
                      have h461 : opd ρ452 81 (.tmp 77) = .bool true := eρ452 77
                      clear eρ452
                      refine wcT h461 ?_
                      refine wseq ?_
                      refine wreg ?_
                      refine lv (v := .bool false) rfl (r_as rfl rfl) rfl ?_
                      refine wend ?_
                      refine wthen ?_
                      refine wren (fun ρ462 eρ462 => ?_)
                      have h463 : opd ρ462 81 (.tmp 6) = .bool false := eρ462 6
                      clear eρ462
                      refine wp_ret ?_
                      refine thR ?_
                      refine inR ?_
                      refine thR ?_
                      refine thR ?_
                      obtain ⟨q464, hFn, hzq464⟩ := Option.map_eq_some_iff.1 hF
                      clear hF
                      obtain rfl := forK_inr hy72 (hb72.trans (congrArg some hzq464.symm))
                      have hF0 := hF72
                      try dsimp only at hF0
                      have hF := hFn.trans hF0
                      clear hFn hF0
                      refine inR ?_
                      refine thR ?_
                      obtain rfl := Option.some.inj hF
                      subst hB
                      refine finR (rs := [.tmp 6]) (vs := [.bool false]) rfl ⟨h463, trivial⟩ ?_
                      exact hI.fin 0 ⟨rfl, rfl⟩
          · skip
            have hbhc336 : (decide ((i72 : Int) < (a2.Votes.length : Int))) = false := decide_eq_false hc336
            obtain rfl : k72 = 0 := by omega
            obtain rfl := forK_end hy72
            have hF := hF72
            try dsimp only at hF
            refine wcF ((show opd _ _ _ = _ from rfl).trans (congrArg Value.bool hbhc336)) ?_
            refine wp_exit ?_
            refine thE ?_
            refine thE ?_
            refine inX ?_
            refine wthen ?_
            refine wren (fun ρ465 eρ465 => ?_)
            clear eρ465
            refine wseq ?_
            refine wreg ?_
            refine lv (v := .bool true) rfl (r_as rfl rfl) rfl ?_
            refine wend ?_
            refine wthen ?_
            refine wren (fun ρ466 eρ466 => ?_)
            have h467 : opd ρ466 81 (.tmp 6) = .bool true := eρ466 6
            clear eρ466
            refine wp_ret ?_
            obtain rfl := Option.some.inj hF
            subst hB
            refine finR (rs := [.tmp 6]) (vs := [.bool true]) rfl ⟨h467, trivial⟩ ?_
            exact hI.fin 0 ⟨rfl, rfl⟩
    · skip
      rw [if_neg hc24] at hF
      have hbhc24 : (!x20) = true := (by rw [(Bool.eq_false_iff.2 hc24)]; rfl)
      refine dp (v := .bool true) 8 (by kernel_rfl) rfl rfl (fun _ => r_mv rfl ((show opd _ _ _ = _ from rfl).trans (congrArg Value.bool hbhc24))) rfl hP ?_
      refine dx 9 (by kernel_rfl) rfl (by kernel_rfl) rfl hP ?_
      refine dx 10 (by kernel_rfl) rfl (by kernel_rfl) rfl hP ?_
      refine dx 11 (by kernel_rfl) rfl (by kernel_rfl) rfl hP ?_
      refine dx 12 (by kernel_rfl) rfl (by kernel_rfl) rfl hP ?_
      refine dx 13 (by kernel_rfl) rfl (by kernel_rfl) rfl hP ?_
      refine dp (v := .bool true) 14 (by kernel_rfl) rfl rfl (fun _ => r_pkT rfl rfl rfl) rfl hP ?_
      refine dp (v := .bool true) 15 (by kernel_rfl) rfl rfl (fun _ => r_mv rfl rfl) rfl hP ?_
      refine dx 16 (by kernel_rfl) rfl (by kernel_rfl) rfl hP ?_
      refine dx 17 (by kernel_rfl) rfl (by kernel_rfl) rfl hP ?_
      refine dx 18 (by kernel_rfl) rfl (by kernel_rfl) rfl hP ?_
      refine dx 19 (by kernel_rfl) rfl (by kernel_rfl) rfl hP ?_
      refine dx 20 (by kernel_rfl) rfl (by kernel_rfl) rfl hP ?_
      refine dx 21 (by kernel_rfl) rfl (by kernel_rfl) rfl hP ?_
      refine dp (v := .bool true) 22 (by kernel_rfl) rfl rfl (fun _ => r_pkT rfl rfl rfl) rfl hP ?_
      refine dend (by kernel_rfl) ?_
      refine wthen ?_
      refine wren (fun ρ468 eρ468 => ?_)
      have h469 : opd ρ468 81 (.tmp 3) = .pointer (some ⟨g4, 0 + 0, none⟩) := (eρ468 3).trans h11
      have h470 : opd ρ468 81 (.tmp 4) = .pointer (some ⟨g6, 0 + 0, none⟩) := (eρ468 4).trans h12
      have h471 : opd ρ468 81 (.tmp 5) = .pointer (some ⟨g8, 0 + 0, none⟩) := (eρ468 5).trans h13
      have h472 : opd ρ468 81 (.tmp 33) = .bool true := eρ468 33
      clear eρ468
      refine wcT h472 ?_
      refine wseq ?_
      refine wreg ?_
      refine lv (v := .bool false) rfl (r_as rfl rfl) rfl ?_
      refine wend ?_
      refine wthen ?_
      refine wren (fun ρ473 eρ473 => ?_)
      have h474 : opd ρ473 81 (.tmp 6) = .bool false := eρ473 6
      clear eρ473
      refine wp_ret ?_
      refine thR ?_
      obtain rfl := Option.some.inj hF
      subst hB
      refine finR (rs := [.tmp 6]) (vs := [.bool false]) rfl ⟨h474, trivial⟩ ?_
      exact hI.fin 0 ⟨rfl, rfl⟩
  · skip
    rw [if_neg hc19] at hF
    have hbhc19 : (!x15) = true := (by rw [(Bool.eq_false_iff.2 hc19)]; rfl)
    refine dp (v := .bool true) 3 (by kernel_rfl) rfl rfl (fun _ => r_mv rfl ((show opd _ _ _ = _ from rfl).trans (congrArg Value.bool hbhc19))) rfl hP ?_
    refine dx 4 (by kernel_rfl) rfl (by kernel_rfl) rfl hP ?_
    refine dx 5 (by kernel_rfl) rfl (by kernel_rfl) rfl hP ?_
    refine dx 6 (by kernel_rfl) rfl (by kernel_rfl) rfl hP ?_
    refine dp (v := .bool true) 7 (by kernel_rfl) rfl rfl (fun _ => r_pkT rfl rfl rfl) rfl hP ?_
    refine dp (v := .bool true) 8 (by kernel_rfl) rfl rfl (fun _ => r_mv rfl rfl) rfl hP ?_
    refine dx 9 (by kernel_rfl) rfl (by kernel_rfl) rfl hP ?_
    refine dx 10 (by kernel_rfl) rfl (by kernel_rfl) rfl hP ?_
    refine dx 11 (by kernel_rfl) rfl (by kernel_rfl) rfl hP ?_
    refine dx 12 (by kernel_rfl) rfl (by kernel_rfl) rfl hP ?_
    refine dx 13 (by kernel_rfl) rfl (by kernel_rfl) rfl hP ?_
    refine dp (v := .bool true) 14 (by kernel_rfl) rfl rfl (fun _ => r_pkT rfl rfl rfl) rfl hP ?_
    refine dp (v := .bool true) 15 (by kernel_rfl) rfl rfl (fun _ => r_mv rfl rfl) rfl hP ?_
    refine dx 16 (by kernel_rfl) rfl (by kernel_rfl) rfl hP ?_
    refine dx 17 (by kernel_rfl) rfl (by kernel_rfl) rfl hP ?_
    refine dx 18 (by kernel_rfl) rfl (by kernel_rfl) rfl hP ?_
    refine dx 19 (by kernel_rfl) rfl (by kernel_rfl) rfl hP ?_
    refine dx 20 (by kernel_rfl) rfl (by kernel_rfl) rfl hP ?_
    refine dx 21 (by kernel_rfl) rfl (by kernel_rfl) rfl hP ?_
    refine dp (v := .bool true) 22 (by kernel_rfl) rfl rfl (fun _ => r_pkT rfl rfl rfl) rfl hP ?_
    refine dend (by kernel_rfl) ?_
    refine wthen ?_
    refine wren (fun ρ475 eρ475 => ?_)
    have h476 : opd ρ475 81 (.tmp 3) = .pointer (some ⟨g4, 0 + 0, none⟩) := (eρ475 3).trans h11
    have h477 : opd ρ475 81 (.tmp 4) = .pointer (some ⟨g6, 0 + 0, none⟩) := (eρ475 4).trans h12
    have h478 : opd ρ475 81 (.tmp 5) = .pointer (some ⟨g8, 0 + 0, none⟩) := (eρ475 5).trans h13
    have h479 : opd ρ475 81 (.tmp 33) = .bool true := eρ475 33
    clear eρ475
    refine wcT h479 ?_
    refine wseq ?_
    refine wreg ?_
    refine lv (v := .bool false) rfl (r_as rfl rfl) rfl ?_
    refine wend ?_
    refine wthen ?_
    refine wren (fun ρ480 eρ480 => ?_)
    have h481 : opd ρ480 81 (.tmp 6) = .bool false := eρ480 6
    clear eρ480
    refine wp_ret ?_
    refine thR ?_
    obtain rfl := Option.some.inj hF
    subst hB
    refine finR (rs := [.tmp 6]) (vs := [.bool false]) rfl ⟨h481, trivial⟩ ?_
    exact hI.fin 0 ⟨rfl, rfl⟩
noncomputable def M_wapentakeref12_Great (a0 : Block) (a1 : Int) : Option (Bool) := (if (40 : Int) < (a0.Requests.length : Int) then some true else ((forK (fun (i25 : Nat) (σ25 : Int) => (((a0.Requests[i25]?).bind fun x405 => ((forK (fun (i436 : Nat) (σ436 : Int) => ((((⟨[x405.Op.Key, x405.Op.Val, x405.Op.Old], rfl⟩ : Vec (List UInt8) 3).l[i436]?).bind fun x540 => (if a1 < (wI (σ436 + (x540.length : Int))) then ((((some true).map Sum.inr)).map Sum.inr) else some (.inl (wI (σ436 + (x540.length : Int)))))) : Option (Int ⊕ (Int ⊕ Bool)))) 3 0 (wI (σ25 + 100))).bind fun y => match y with | .inl σ436 => some (.inl σ436) | .inr r => some r)) : Option (Int ⊕ Bool))) a0.Requests.length 0 0).bind fun y => match y with | .inl σ25 => some (decide (a1 < σ25)) | .inr r => some r))
set_option maxHeartbeats 4000000 in
theorem spec_64 {w : World} {H : Hp} {a0 : Block} {a1 : Int} {s1 : Sv} {r : Bool} (hF : M_wapentakeref12_Great a0 a1 = some r) (hT : Tab H) (hG : Good w H []) (hs1 : Sl (Fl.ty fl_Request) H s1 a0.Requests) :
    Fine Tryd.prog 64 [.agg (flat [ckI a0.Epoch, ckI a0.Height, ckV flB a0.Prev, ckV flB a0.State, ckV flB a0.Next, ckL s1]).toArray, .int .i64 a1] w H [] (fun H' v L' => v = .bool r ∧ L' = []) := by
  unfold M_wapentakeref12_Great at hF
  unfold Fine
  obtain ⟨B, hB⟩ : ∃ B : Base, B = ⟨w, H, blks []⟩ := ⟨_, rfl⟩
  have hI : Inv B w H [] := by rw [hB]; exact Inv.start hG
  refine enter (n := 48) (args := [.agg (flat [ckI a0.Epoch, ckI a0.Height, ckV flB a0.Prev, ckV flB a0.State, ckV flB a0.Next, ckL s1]).toArray, .int .i64 a1]) Tryd.func64 rfl Tryd.ntmps64 (Nat.le_of_ble_eq_true rfl) ?_
  refine wseq ?_
  refine wreg ?_
  refine le rfl (l_box (cks := [ckI a0.Epoch, ckI a0.Height, ckV flB a0.Prev, ckV flB a0.State, ckV flB a0.Next, ckL s1]) hI rfl rfl rfl) rfl ?_
  rintro _ w3 ⟨g2, rfl, hI⟩
  replace hI : Inv B w3 H [.cb g2 [ckI a0.Epoch, ckI a0.Height, ckV flB a0.Prev, ckV flB a0.State, ckV flB a0.Next, ckL s1] 69] := hI
  refine lv (v := .bool false) rfl (r_as rfl rfl) rfl ?_
  refine wend ?_
  refine wthen ?_
  refine wren (fun ρ4 eρ4 => ?_)
  have h5 : opd ρ4 48 (.tmp 1) = .int .i64 a1 := eρ4 1
  have h6 : opd ρ4 48 (.tmp 2) = .pointer (some ⟨g2, 0 + 0, none⟩) := eρ4 2
  clear eρ4
  refine wseq ?_
  refine wreg ?_
  refine lv (v := .int .i64 0) rfl (r_as rfl rfl) rfl ?_
  refine wend ?_
  refine wthen ?_
  refine wren (fun ρ7 eρ7 => ?_)
  have h8 : opd ρ7 48 (.tmp 1) = .int .i64 a1 := (eρ7 1).trans h5
  have h9 : opd ρ7 48 (.tmp 2) = .pointer (some ⟨g2, 0 + 0, none⟩) := (eρ7 2).trans h6
  have h10 : opd ρ7 48 (.tmp 5) = .int .i64 0 := eρ7 5
  clear eρ7
  refine wseq ?_
  refine wseq ?_
  refine wreg ?_
  refine lv (v := .pointer (some ⟨g2, 0 + 98, none⟩)) rfl (l_fa (j := 0) (i := 0) rfl fl69_5 h9 rfl) rfl ?_
  refine lv (v := s1.v) rfl (r_cl1 (off := 98) (p := 5) (hI.good.ca 0 rfl) rfl sc67 rfl rfl rfl) rfl ?_
  refine lv (v := .int .i64 (a0.Requests.length : Int)) rfl (r_lenS rfl sl67 rfl hs1) rfl ?_
  refine lv (v := .bool (decide ((40 : Int) < (a0.Requests.length : Int)))) rfl (r_gtr rfl rfl rfl rfl) rfl ?_
  refine wend ?_
  refine wthen ?_
  refine wren (fun ρ11 eρ11 => ?_)
  have h12 : opd ρ11 48 (.tmp 1) = .int .i64 a1 := (eρ11 1).trans h8
  have h13 : opd ρ11 48 (.tmp 2) = .pointer (some ⟨g2, 0 + 0, none⟩) := (eρ11 2).trans h9
  have h14 : opd ρ11 48 (.tmp 5) = .int .i64 0 := (eρ11 5).trans h10
  have h15 : opd ρ11 48 (.tmp 13) = .bool (decide ((40 : Int) < (a0.Requests.length : Int))) := eρ11 13
  clear eρ11
  by_cases hc16 : (40 : Int) < (a0.Requests.length : Int)
  · skip
    rw [if_pos hc16] at hF
    have hbhc16 : (decide ((40 : Int) < (a0.Requests.length : Int))) = true := decide_eq_true hc16
    refine wcT (h15.trans (congrArg Value.bool hbhc16)) ?_
    refine wseq ?_
    refine wreg ?_
    refine lv (v := .bool true) rfl (r_as rfl rfl) rfl ?_
    refine wend ?_
    refine wthen ?_
    refine wren (fun ρ17 eρ17 => ?_)
    have h18 : opd ρ17 48 (.tmp 4) = .bool true := eρ17 4
    clear eρ17
    refine wp_ret ?_
    refine thR ?_
    obtain rfl := Option.some.inj hF
    subst hB
    refine finR (rs := [.tmp 4]) (vs := [.bool true]) rfl ⟨h18, trivial⟩ ?_
    exact hI.fin 0 ⟨rfl, rfl⟩
  · skip
    rw [if_neg hc16] at hF
    have hbhc16 : (decide ((40 : Int) < (a0.Requests.length : Int))) = false := decide_eq_false hc16
    refine wcF (h15.trans (congrArg Value.bool hbhc16)) ?_
    refine wp_skip ?_
    refine wthen ?_
    refine wseq ?_
    refine wseq ?_
    refine wreg ?_
    refine lv (v := .pointer (some ⟨g2, 0 + 98, none⟩)) rfl (l_fa (j := 0) (i := 0) rfl fl69_5 h13 rfl) rfl ?_
    refine lv (v := s1.v) rfl (r_cl1 (off := 98) (p := 5) (hI.good.ca 0 rfl) rfl sc67 rfl rfl rfl) rfl ?_
    refine lv (v := .int .i64 (a0.Requests.length : Int)) rfl (r_lenS rfl sl67 rfl hs1) rfl ?_
    refine lv (v := .int .i64 0) rfl (r_mv rfl rfl) rfl ?_
    refine wend ?_
    refine wthen ?_
    refine wren (fun ρ19 eρ19 => ?_)
    have h20 : opd ρ19 48 (.tmp 1) = .int .i64 a1 := (eρ19 1).trans h12
    have h21 : opd ρ19 48 (.tmp 5) = .int .i64 0 := (eρ19 5).trans h14
    have h22 : opd ρ19 48 (.tmp 15) = s1.v := eρ19 15
    have h23 : opd ρ19 48 (.tmp 16) = .int .i64 (a0.Requests.length : Int) := eρ19 16
    have h24 : opd ρ19 48 (.tmp 17) = .int .i64 0 := eρ19 17
    clear eρ19
    refine wp_block ?_
    have hbd25 := (hs1).bd
    rw [(hs1).n] at hbd25
    obtain ⟨y25, hy25, hF25⟩ := Option.bind_eq_some_iff.1 hF
    refine wfor (n := 48) a0.Requests.length _ (fun (i25 : Nat) (σ25 : Int) ρ' w' => ∃ (H390 : Hp), Hle H H390 ∧ opd ρ' 48 (.tmp 1) = .int .i64 a1 ∧ opd ρ' 48 (.tmp 5) = .int .i64 σ25 ∧ opd ρ' 48 (.tmp 15) = s1.v ∧ opd ρ' 48 (.tmp 16) = .int .i64 (a0.Requests.length : Int) ∧ opd ρ' 48 (.tmp 17) = .int .i64 (i25 : Int) ∧ Inv B w' H390 []) hy25 ⟨H, (Hle.refl _), h20, h21, h22, h23, h24, (hI.keep [false])⟩ ?_
    rintro k25 i25 σ25 ρ396 w397 hk25 ⟨H390, hleH390, h391, h392, h393, h394, h395, hI⟩ hy25
    refine wseq ?_
    refine wreg ?_
    refine lv (v := .bool (decide ((i25 : Int) < (a0.Requests.length : Int)))) rfl (r_lss rfl h395 h394 rfl) rfl ?_
    refine wend ?_
    refine wthen ?_
    refine wseq ?_
    by_cases hc398 : (i25 : Int) < (a0.Requests.length : Int)
    · skip
      have hbhc398 : (decide ((i25 : Int) < (a0.Requests.length : Int))) = true := decide_eq_true hc398
      obtain ⟨k25, rfl⟩ : ∃ m, k25 = m + 1 := ⟨k25 - 1, by omega⟩
      obtain ⟨z25, hb25⟩ := forK_body hy25
      have hF := hb25
      have hlt25 : ((i25 : Nat) : Int) + 1 ≤ 9223372036854775807 := by omega
      refine wcT ((show opd _ _ _ = _ from rfl).trans (congrArg Value.bool hbhc398)) ?_
      refine wp_skip ?_
      refine wthen ?_
      refine wren (fun ρ399 eρ399 => ?_)
      have h400 : opd ρ399 48 (.tmp 1) = .int .i64 a1 := (eρ399 1).trans h391
      have h401 : opd ρ399 48 (.tmp 5) = .int .i64 σ25 := (eρ399 5).trans h392
      have h402 : opd ρ399 48 (.tmp 15) = s1.v := (eρ399 15).trans h393
      have h403 : opd ρ399 48 (.tmp 16) = .int .i64 (a0.Requests.length : Int) := (eρ399 16).trans h394
      have h404 : opd ρ399 48 (.tmp 17) = .int .i64 (i25 : Int) := (eρ399 17).trans h395
      clear eρ399
      refine wseq ?_
      refine wp_block ?_
      refine wseq ?_
      refine wreg ?_
      obtain ⟨x405, hx405, hF⟩ := Option.bind_eq_some_iff.1 hF
      obtain ⟨b406, j407, hix408, hil409, hA410⟩ := (hs1.mono hleH390).ixf hx405
      replace hA410 : At H390 b406 j407 [ckI x405.Client, ckI x405.Num, ckI x405.Op.Kind, ckS x405.Op.Key, ckS x405.Op.Val, ckS x405.Op.Old, ckI x405.Op.Change.Kind, ckI x405.Op.Change.Id, ckI x405.Op.Change.New, ckV flB x405.Op.Change.Key.Root, ckI x405.Op.Change.Key.Height] := hA410
      refine lv (v := .pointer (some ⟨b406, j407 + 0, none⟩)) rfl (r_ixt rfl sl67 h402 h404 rfl hix408 hil409) rfl ?_
      refine lv (v := .agg (flat [ckI x405.Client, ckI x405.Num, ckI x405.Op.Kind, ckS x405.Op.Key, ckS x405.Op.Val, ckS x405.Op.Old, ckI x405.Op.Change.Kind, ckI x405.Op.Change.Id, ckI x405.Op.Change.New, ckV flB x405.Op.Change.Key.Root, ckI x405.Op.Change.Key.Height]).toArray) rfl (r_cla (off := 0) (p := 0) (m := 11) (hA410.ca hI.good) rfl ag192 rfl rfl rfl) rfl ?_
      refine le rfl (l_al hI rfl ze192) rfl ?_
      rintro _ w412 ⟨g411, rfl, hI⟩
      replace hI : Inv B w412 H390 [.cb g411 [ckI 0, ckI 0, ckI 0, ckS [], ckS [], ckS [], ckI 0, ckI 0, ckI 0, ckV flB (Vec.rep 32 0), ckI 0] 192] := hI
      refine lst rfl (l_st (off := 0) (p := 0) (m := 11) (new := [ckI x405.Client, ckI x405.Num, ckI x405.Op.Kind, ckS x405.Op.Key, ckS x405.Op.Val, ckS x405.Op.Old, ckI x405.Op.Change.Kind, ckI x405.Op.Change.Id, ckI x405.Op.Change.New, ckV flB x405.Op.Change.Key.Root, ckI x405.Op.Change.Key.Height]) hI 0 rfl rfl sz192 rfl rfl rfl rfl rfl rfl) rfl ?_
      intro w413 hI
      replace hI : Inv B w413 H390 [.cb g411 [ckI x405.Client, ckI x405.Num, ckI x405.Op.Kind, ckS x405.Op.Key, ckS x405.Op.Val, ckS x405.Op.Old, ckI x405.Op.Change.Kind, ckI x405.Op.Change.Id, ckI x405.Op.Change.New, ckV flB x405.Op.Change.Key.Root, ckI x405.Op.Change.Key.Height] 192] := hI
      refine wend ?_
      refine wthen ?_
      refine wren (fun ρ414 eρ414 => ?_)
      have h415 : opd ρ414 48 (.tmp 1) = .int .i64 a1 := (eρ414 1).trans h400
      have h416 : opd ρ414 48 (.tmp 5) = .int .i64 σ25 := (eρ414 5).trans h401
      have h417 : opd ρ414 48 (.tmp 7) = .pointer (some ⟨g411, 0 + 0, none⟩) := eρ414 7
      have h418 : opd ρ414 48 (.tmp 15) = s1.v := (eρ414 15).trans h402
      have h419 : opd ρ414 48 (.tmp 16) = .int .i64 (a0.Requests.length : Int) := (eρ414 16).trans h403
      have h420 : opd ρ414 48 (.tmp 17) = .int .i64 (i25 : Int) := (eρ414 17).trans h404
      clear eρ414
      refine wseq ?_
      refine wreg ?_
      refine lv (v := .int .i64 σ25) rfl (r_mv rfl h416) rfl ?_
      refine lv (v := .int .i64 (wI (σ25 + 100))) rfl (r_addw rfl rfl rfl) rfl ?_
      refine lv (v := .int .i64 (wI (σ25 + 100))) rfl (r_as rfl rfl) rfl ?_
      refine wend ?_
      refine wthen ?_
      refine wren (fun ρ421 eρ421 => ?_)
      have h422 : opd ρ421 48 (.tmp 1) = .int .i64 a1 := (eρ421 1).trans h415
      have h423 : opd ρ421 48 (.tmp 5) = .int .i64 (wI (σ25 + 100)) := eρ421 5
      have h424 : opd ρ421 48 (.tmp 7) = .pointer (some ⟨g411, 0 + 0, none⟩) := (eρ421 7).trans h417
      have h425 : opd ρ421 48 (.tmp 15) = s1.v := (eρ421 15).trans h418
      have h426 : opd ρ421 48 (.tmp 16) = .int .i64 (a0.Requests.length : Int) := (eρ421 16).trans h419
      have h427 : opd ρ421 48 (.tmp 17) = .int .i64 (i25 : Int) := (eρ421 17).trans h420
      clear eρ421
      refine wseq ?_
      refine wreg ?_
      refine lv (v := .pointer (some ⟨g411, 0 + 2, none⟩)) rfl (l_fa (j := 0) (i := 0) rfl fl192_2 h424 rfl) rfl ?_
      refine lv (v := .pointer (some ⟨g411, 0 + 3, none⟩)) rfl (l_fa (j := 0) (i := 2) rfl fl190_1 rfl rfl) rfl ?_
      refine lv (v := strv x405.Op.Key) rfl (r_cl1 (off := 3) (p := 3) (hI.good.ca 0 rfl) rfl sc9 rfl rfl rfl) rfl ?_
      refine lv (v := .pointer (some ⟨g411, 0 + 2, none⟩)) rfl (l_fa (j := 0) (i := 0) rfl fl192_2 h424 rfl) rfl ?_
      refine lv (v := .pointer (some ⟨g411, 0 + 4, none⟩)) rfl (l_fa (j := 0) (i := 2) rfl fl190_2 rfl rfl) rfl ?_
      refine lv (v := strv x405.Op.Val) rfl (r_cl1 (off := 4) (p := 4) (hI.good.ca 0 rfl) rfl sc9 rfl rfl rfl) rfl ?_
      refine lv (v := .pointer (some ⟨g411, 0 + 2, none⟩)) rfl (l_fa (j := 0) (i := 0) rfl fl192_2 h424 rfl) rfl ?_
      refine lv (v := .pointer (some ⟨g411, 0 + 5, none⟩)) rfl (l_fa (j := 0) (i := 2) rfl fl190_3 rfl rfl) rfl ?_
      refine lv (v := strv x405.Op.Old) rfl (r_cl1 (off := 5) (p := 5) (hI.good.ca 0 rfl) rfl sc9 rfl rfl rfl) rfl ?_
      refine lv (v := .agg (flat [ckV flS (⟨[x405.Op.Key, x405.Op.Val, x405.Op.Old], rfl⟩ : Vec (List UInt8) 3)]).toArray) rfl (r_bldv (f := flS) (xs := [x405.Op.Key, x405.Op.Val, x405.Op.Old]) (vs := [strv x405.Op.Key, strv x405.Op.Val, strv x405.Op.Old]) rfl ze193 rfl ar193 rfl (argc rfl (argc rfl (argc rfl rfl))) rfl) rfl ?_
      refine lv (v := .int .i64 0) rfl (r_mv rfl rfl) rfl ?_
      refine wend ?_
      refine wthen ?_
      refine wren (fun ρ428 eρ428 => ?_)
      have h429 : opd ρ428 48 (.tmp 1) = .int .i64 a1 := (eρ428 1).trans h422
      have h430 : opd ρ428 48 (.tmp 5) = .int .i64 (wI (σ25 + 100)) := (eρ428 5).trans h423
      have h431 : opd ρ428 48 (.tmp 15) = s1.v := (eρ428 15).trans h425
      have h432 : opd ρ428 48 (.tmp 16) = .int .i64 (a0.Requests.length : Int) := (eρ428 16).trans h426
      have h433 : opd ρ428 48 (.tmp 17) = .int .i64 (i25 : Int) := (eρ428 17).trans h427
      have h434 : opd ρ428 48 (.tmp 32) = .agg (flat [ckV flS (⟨[x405.Op.Key, x405.Op.Val, x405.Op.Old], rfl⟩ : Vec (List UInt8) 3)]).toArray := eρ428 32
      have h435 : opd ρ428 48 (.tmp 33) = .int .i64 0 := eρ428 33
      clear eρ428
      refine wp_block ?_
      obtain ⟨y436, hy436, hF436⟩ := Option.bind_eq_some_iff.1 hF
      refine wfor (n := 48) 3 _ (fun (i436 : Nat) (σ436 : Int) ρ' w' => ∃ (H521 : Hp), Hle H390 H521 ∧ opd ρ' 48 (.tmp 1) = .int .i64 a1 ∧ opd ρ' 48 (.tmp 5) = .int .i64 σ436 ∧ opd ρ' 48 (.tmp 15) = s1.v ∧ opd ρ' 48 (.tmp 16) = .int .i64 (a0.Requests.length : Int) ∧ opd ρ' 48 (.tmp 17) = .int .i64 (i25 : Int) ∧ opd ρ' 48 (.tmp 32) = .agg (flat [ckV flS (⟨[x405.Op.Key, x405.Op.Val, x405.Op.Old], rfl⟩ : Vec (List UInt8) 3)]).toArray ∧ opd ρ' 48 (.tmp 33) = .int .i64 (i436 : Int) ∧ Inv B w' H521 []) hy436 ⟨H390, (Hle.refl _), h429, h430, h431, h432, h433, h434, h435, (hI.keep [false])⟩ ?_
      rintro k436 i436 σ436 ρ529 w530 hk436 ⟨H521, hleH521, h522, h523, h524, h525, h526, h527, h528, hI⟩ hy436
      refine wseq ?_
      refine wreg ?_
      refine lv (v := .bool (decide ((i436 : Int) < 3))) rfl (r_lss rfl h528 rfl rfl) rfl ?_
      refine wend ?_
      refine wthen ?_
      refine wseq ?_
      by_cases hc531 : (i436 : Int) < 3
      · skip
        have hbhc531 : (decide ((i436 : Int) < 3)) = true := decide_eq_true hc531
        obtain ⟨k436, rfl⟩ : ∃ m, k436 = m + 1 := ⟨k436 - 1, by omega⟩
        obtain ⟨z436, hb436⟩ := forK_body hy436
        have hF := hb436
        have hlt436 : ((i436 : Nat) : Int) + 1 ≤ 9223372036854775807 := by omega
        refine wcT ((show opd _ _ _ = _ from rfl).trans (congrArg Value.bool hbhc531)) ?_
        refine wp_skip ?_
        refine wthen ?_
        refine wren (fun ρ532 eρ532 => ?_)
        have h533 : opd ρ532 48 (.tmp 1) = .int .i64 a1 := (eρ532 1).trans h522
        have h534 : opd ρ532 48 (.tmp 5) = .int .i64 σ436 := (eρ532 5).trans h523
        have h535 : opd ρ532 48 (.tmp 15) = s1.v := (eρ532 15).trans h524
        have h536 : opd ρ532 48 (.tmp 16) = .int .i64 (a0.Requests.length : Int) := (eρ532 16).trans h525
        have h537 : opd ρ532 48 (.tmp 17) = .int .i64 (i25 : Int) := (eρ532 17).trans h526
        have h538 : opd ρ532 48 (.tmp 32) = .agg (flat [ckV flS (⟨[x405.Op.Key, x405.Op.Val, x405.Op.Old], rfl⟩ : Vec (List UInt8) 3)]).toArray := (eρ532 32).trans h527
        have h539 : opd ρ532 48 (.tmp 33) = .int .i64 (i436 : Int) := (eρ532 33).trans h528
        clear eρ532
        refine wseq ?_
        refine wp_block ?_
        refine wseq ?_
        refine wreg ?_
        obtain ⟨x540, hx540, hF⟩ := Option.bind_eq_some_iff.1 hF
        refine lv (v := strv x540) rfl (r_ixv1 (f := flS) rfl ar193 sc9 h538 h539 rfl hx540 rfl) rfl ?_
        refine lv (v := strv x540) rfl (r_as rfl rfl) rfl ?_
        refine wend ?_
        refine wthen ?_
        refine wren (fun ρ541 eρ541 => ?_)
        have h542 : opd ρ541 48 (.tmp 1) = .int .i64 a1 := (eρ541 1).trans h533
        have h543 : opd ρ541 48 (.tmp 5) = .int .i64 σ436 := (eρ541 5).trans h534
        have h544 : opd ρ541 48 (.tmp 9) = strv x540 := eρ541 9
        have h545 : opd ρ541 48 (.tmp 15) = s1.v := (eρ541 15).trans h535
        have h546 : opd ρ541 48 (.tmp 16) = .int .i64 (a0.Requests.length : Int) := (eρ541 16).trans h536
        have h547 : opd ρ541 48 (.tmp 17) = .int .i64 (i25 : Int) := (eρ541 17).trans h537
        have h548 : opd ρ541 48 (.tmp 32) = .agg (flat [ckV flS (⟨[x405.Op.Key, x405.Op.Val, x405.Op.Old], rfl⟩ : Vec (List UInt8) 3)]).toArray := (eρ541 32).trans h538
        have h549 : opd ρ541 48 (.tmp 33) = .int .i64 (i436 : Int) := (eρ541 33).trans h539
        clear eρ541
        refine wseq ?_
        refine wreg ?_
        refine lv (v := .int .i64 σ436) rfl (r_mv rfl h543) rfl ?_
        refine lv (v := strv x540) rfl (r_mv rfl h544) rfl ?_
        refine lv (v := .int .i64 (x540.length : Int)) rfl (r_lenT rfl un9 rfl) rfl ?_
        refine lv (v := .int .i64 (wI (σ436 + (x540.length : Int)))) rfl (r_addw rfl rfl rfl) rfl ?_
        refine lv (v := .int .i64 (wI (σ436 + (x540.length : Int)))) rfl (r_as rfl rfl) rfl ?_
        refine wend ?_
        refine wthen ?_
        refine wren (fun ρ550 eρ550 => ?_)
        have h551 : opd ρ550 48 (.tmp 1) = .int .i64 a1 := (eρ550 1).trans h542
        have h552 : opd ρ550 48 (.tmp 5) = .int .i64 (wI (σ436 + (x540.length : Int))) := eρ550 5
        have h553 : opd ρ550 48 (.tmp 15) = s1.v := (eρ550 15).trans h545
        have h554 : opd ρ550 48 (.tmp 16) = .int .i64 (a0.Requests.length : Int) := (eρ550 16).trans h546
        have h555 : opd ρ550 48 (.tmp 17) = .int .i64 (i25 : Int) := (eρ550 17).trans h547
        have h556 : opd ρ550 48 (.tmp 32) = .agg (flat [ckV flS (⟨[x405.Op.Key, x405.Op.Val, x405.Op.Old], rfl⟩ : Vec (List UInt8) 3)]).toArray := (eρ550 32).trans h548
        have h557 : opd ρ550 48 (.tmp 33) = .int .i64 (i436 : Int) := (eρ550 33).trans h549
        clear eρ550
        refine wseq ?_
        refine wreg ?_
        refine lv (v := .int .i64 (wI (σ436 + (x540.length : Int)))) rfl (r_mv rfl h552) rfl ?_
        refine lv (v := .int .i64 a1) rfl (r_mv rfl h551) rfl ?_
        refine lv (v := .bool (decide (a1 < (wI (σ436 + (x540.length : Int)))))) rfl (r_gtr rfl rfl rfl rfl) rfl ?_
        refine wend ?_
        refine wthen ?_
        refine wren (fun ρ558 eρ558 => ?_)
        have h559 : opd ρ558 48 (.tmp 1) = .int .i64 a1 := (eρ558 1).trans h551
        have h560 : opd ρ558 48 (.tmp 5) = .int .i64 (wI (σ436 + (x540.length : Int))) := (eρ558 5).trans h552
        have h561 : opd ρ558 48 (.tmp 15) = s1.v := (eρ558 15).trans h553
        have h562 : opd ρ558 48 (.tmp 16) = .int .i64 (a0.Requests.length : Int) := (eρ558 16).trans h554
        have h563 : opd ρ558 48 (.tmp 17) = .int .i64 (i25 : Int) := (eρ558 17).trans h555
        have h564 : opd ρ558 48 (.tmp 32) = .agg (flat [ckV flS (⟨[x405.Op.Key, x405.Op.Val, x405.Op.Old], rfl⟩ : Vec (List UInt8) 3)]).toArray := (eρ558 32).trans h556
        have h565 : opd ρ558 48 (.tmp 33) = .int .i64 (i436 : Int) := (eρ558 33).trans h557
        have h566 : opd ρ558 48 (.tmp 42) = .bool (decide (a1 < (wI (σ436 + (x540.length : Int))))) := eρ558 42
        clear eρ558
        by_cases hc567 : a1 < (wI (σ436 + (x540.length : Int)))
        · skip
          rw [if_pos hc567] at hF
          have hbhc567 : (decide (a1 < (wI (σ436 + (x540.length : Int))))) = true := decide_eq_true hc567
          refine wcT (h566.trans (congrArg Value.bool hbhc567)) ?_
          refine wseq ?_
          refine wreg ?_
          refine lv (v := .bool true) rfl (r_as rfl rfl) rfl ?_
          refine wend ?_
          refine wthen ?_
          refine wren (fun ρ568 eρ568 => ?_)
          have h569 : opd ρ568 48 (.tmp 4) = .bool true := eρ568 4
          clear eρ568
          refine wp_ret ?_
          refine inR ?_
          refine thR ?_
          refine thR ?_
          obtain ⟨q570, hFn, hzq570⟩ := Option.map_eq_some_iff.1 hF
          clear hF
          obtain rfl := forK_inr hy436 (hb436.trans (congrArg some hzq570.symm))
          have hF0 := hF436
          try dsimp only at hF0
          have hF := hFn.trans hF0
          clear hFn hF0
          refine inR ?_
          refine inR ?_
          refine thR ?_
          refine thR ?_
          obtain ⟨q571, hFn, hzq571⟩ := Option.map_eq_some_iff.1 hF
          clear hF
          obtain rfl := forK_inr hy25 (hb25.trans (congrArg some hzq571.symm))
          have hF0 := hF25
          try dsimp only at hF0
          have hF := hFn.trans hF0
          clear hFn hF0
          refine inR ?_
          refine thR ?_
          obtain rfl := Option.some.inj hF
          subst hB
          refine finR (rs := [.tmp 4]) (vs := [.bool true]) rfl ⟨h569, trivial⟩ ?_
          exact hI.fin 0 ⟨rfl, rfl⟩
        · skip
          rw [if_neg hc567] at hF
          have hbhc567 : (decide (a1 < (wI (σ436 + (x540.length : Int))))) = false := decide_eq_false hc567
          refine wcF (h566.trans (congrArg Value.bool hbhc567)) ?_
          refine wp_skip ?_
          refine inN ?_
          refine wthen ?_
          refine wreg ?_
          refine lv (v := .int .i64 ((i436 + 1 : Nat) : Int)) rfl (r_addn rfl h565 rfl hlt436) rfl ?_
          refine lv (v := .int .i64 ((i436 + 1 : Nat) : Int)) rfl (r_mv rfl rfl) rfl ?_
          refine wend ?_
          obtain rfl := Option.some.inj hF
          exact ⟨k436, (wI (σ436 + (x540.length : Int))), _, rfl, rfl, ⟨H521, hleH521, h559, h560, h561, h562, h563, h564, rfl, hI⟩, forK_inl hy436 hb436⟩
      · skip
        have hbhc531 : (decide ((i436 : Int) < 3)) = false := decide_eq_false hc531
        obtain rfl : k436 = 0 := by omega
        obtain rfl := forK_end hy436
        have hF := hF436
        try dsimp only at hF
        refine wcF ((show opd _ _ _ = _ from rfl).trans (congrArg Value.bool hbhc531)) ?_
        refine wp_exit ?_
        refine thE ?_
        refine thE ?_
        refine inX ?_
        refine inN ?_
        refine wthen ?_
        refine wren (fun ρ572 eρ572 => ?_)
        have h573 : opd ρ572 48 (.tmp 1) = .int .i64 a1 := (eρ572 1).trans h522
        have h574 : opd ρ572 48 (.tmp 5) = .int .i64 σ436 := (eρ572 5).trans h523
        have h575 : opd ρ572 48 (.tmp 15) = s1.v := (eρ572 15).trans h524
        have h576 : opd ρ572 48 (.tmp 16) = .int .i64 (a0.Requests.length : Int) := (eρ572 16).trans h525
        have h577 : opd ρ572 48 (.tmp 17) = .int .i64 (i25 : Int) := (eρ572 17).trans h526
        clear eρ572
        refine wreg ?_
        refine lv (v := .int .i64 ((i25 + 1 : Nat) : Int)) rfl (r_addn rfl h577 rfl hlt25) rfl ?_
        refine lv (v := .int .i64 ((i25 + 1 : Nat) : Int)) rfl (r_mv rfl rfl) rfl ?_
        refine wend ?_
        obtain rfl := Option.some.inj hF
        exact ⟨k25, σ436, _, rfl, rfl, ⟨H521, (hleH390.trans hleH521), h573, h574, h575, h576, rfl, hI⟩, forK_inl hy25 hb25⟩
    · skip
      have hbhc398 : (decide ((i25 : Int) < (a0.Requests.length : Int))) = false := decide_eq_false hc398
      obtain rfl : k25 = 0 := by omega
      obtain rfl := forK_end hy25
      have hF := hF25
      try dsimp only at hF
      refine wcF ((show opd _ _ _ = _ from rfl).trans (congrArg Value.bool hbhc398)) ?_
      refine wp_exit ?_
      refine thE ?_
      refine thE ?_
      refine inX ?_
      refine wthen ?_
      refine wren (fun ρ578 eρ578 => ?_)
      have h579 : opd ρ578 48 (.tmp 1) = .int .i64 a1 := (eρ578 1).trans h391
      have h580 : opd ρ578 48 (.tmp 5) = .int .i64 σ25 := (eρ578 5).trans h392
      clear eρ578
      refine wseq ?_
      refine wreg ?_
      refine lv (v := .int .i64 σ25) rfl (r_mv rfl h580) rfl ?_
      refine lv (v := .int .i64 a1) rfl (r_mv rfl h579) rfl ?_
      refine lv (v := .bool (decide (a1 < σ25))) rfl (r_gtr rfl rfl rfl rfl) rfl ?_
      refine lv (v := .bool (decide (a1 < σ25))) rfl (r_as rfl rfl) rfl ?_
      refine wend ?_
      refine wthen ?_
      refine wren (fun ρ581 eρ581 => ?_)
      have h582 : opd ρ581 48 (.tmp 4) = .bool (decide (a1 < σ25)) := eρ581 4
      clear eρ581
      refine wp_ret ?_
      obtain rfl := Option.some.inj hF
      subst hB
      refine finR (rs := [.tmp 4]) (vs := [.bool (decide (a1 < σ25))]) rfl ⟨h582, trivial⟩ ?_
      exact hI.fin 0 ⟨rfl, rfl⟩
end Go.Proofs.YtdebnncpclodcaaDoor.X
