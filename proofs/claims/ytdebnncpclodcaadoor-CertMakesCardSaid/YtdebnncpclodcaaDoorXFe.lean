/-
  Functions of the program: what each computes, and its walk. No condition beyond those that the lemmas name.
-/
import Derived.Test.YtdebnncpclodcaaDoorXPT
import Derived.Test.YtdebnncpclodcaaDoorXFd
import Derived.Test.YtdebnncpclodcaaDoorXFc
set_option linter.unusedSimpArgs false
set_option linter.unusedVariables false
set_option maxRecDepth 10000
namespace Go.Proofs.YtdebnncpclodcaaDoor.X
open Go.RowKit Go.Proofs.YtdebnncpclodcaaDoorW.PrintLast
noncomputable def M_wapentakelaw14_CertMakes (a0 : Config) (a1 : Block) (a2 : Cert) : Option (Bool) := ((M_wapentakelaw14_alive).bind fun x14 => (if x14 = true then ((M_wapentakelaw14_great a0 a1 a2).bind fun x24 => (if x24 = true then some true else ((M_wapentakeref08_Quorum (a0.Members.length : Int)).bind fun x36 => ((M_cert_Make a0 a2.Votes).bind fun x45 => (if (a2.Votes.length : Int) < x36 then (if x45.2 = true then some false else ((M_wapentakeref14_Same x45.1 (⟨0, []⟩ : Cert)).bind fun x72 => (if x72 = true then ((M_cert_Check a0 a1 a2).bind fun x77 => some (!x77)) else some false))) else ((a2.Votes[0]?).bind fun x86 => ((cutI a2.Votes 0 x36).bind fun x95 => (if x45.2 = true then ((M_wapentakeref14_Same x45.1 (⟨x86.Round, x95⟩ : Cert)).bind fun x108 => (if x108 = true then ((M_cert_Check a0 a1 a2).bind fun x113 => (if x113 = true then ((M_cert_Check a0 a1 x45.1).bind fun x118 => some x118) else some true)) else some false)) else some false)))))))) else some false))
set_option maxHeartbeats 4000000 in
theorem spec_10 {w : World} {H : Hp} {a0 : Config} {a1 : Block} {a2 : Cert} {s1 : Sv} {s2 : Sv} {s3 : Sv} {r : Bool} (hF : M_wapentakelaw14_CertMakes a0 a1 a2 = some r) (hT : Tab H) (hG : Good w H []) (hs1 : Sl (Fl.ty fl_Member) H s1 a0.Members) (hs2 : Sl (Fl.ty fl_Request) H s2 a1.Requests) (hs3 : Sl ty_Vote H s3 a2.Votes) :
    Fine Tryd.prog 10 [.agg (flat [ckI a0.Epoch, ckL s1]).toArray, .agg (flat [ckI a1.Epoch, ckI a1.Height, ckV flB a1.Prev, ckV flB a1.State, ckV flB a1.Next, ckL s2]).toArray, .agg (flat [ckI a2.Round, ckL s3]).toArray] w H [] (fun H' v L' => v = .bool r ∧ L' = []) := by
  unfold M_wapentakelaw14_CertMakes at hF
  unfold Fine
  obtain ⟨B, hB⟩ : ∃ B : Base, B = ⟨w, H, blks []⟩ := ⟨_, rfl⟩
  have hI : Inv B w H [] := by rw [hB]; exact Inv.start hG
  refine enter (n := 76) (args := [.agg (flat [ckI a0.Epoch, ckL s1]).toArray, .agg (flat [ckI a1.Epoch, ckI a1.Height, ckV flB a1.Prev, ckV flB a1.State, ckV flB a1.Next, ckL s2]).toArray, .agg (flat [ckI a2.Round, ckL s3]).toArray]) Tryd.func10 rfl Tryd.ntmps10 (Nat.le_of_ble_eq_true rfl) ?_
  refine wseq ?_
  refine wreg ?_
  refine le rfl (l_box (cks := [ckI a0.Epoch, ckL s1]) hI rfl rfl rfl) rfl ?_
  rintro _ w5 ⟨g4, rfl, hI⟩
  replace hI : Inv B w5 H [.cb g4 [ckI a0.Epoch, ckL s1] 64] := hI
  refine le rfl (l_box (cks := [ckI a1.Epoch, ckI a1.Height, ckV flB a1.Prev, ckV flB a1.State, ckV flB a1.Next, ckL s2]) hI rfl rfl rfl) rfl ?_
  rintro _ w7 ⟨g6, rfl, hI⟩
  replace hI : Inv B w7 H [.cb g4 [ckI a0.Epoch, ckL s1] 64, .cb g6 [ckI a1.Epoch, ckI a1.Height, ckV flB a1.Prev, ckV flB a1.State, ckV flB a1.Next, ckL s2] 69] := hI
  refine le rfl (l_box (cks := [ckI a2.Round, ckL s3]) hI rfl rfl rfl) rfl ?_
  rintro _ w9 ⟨g8, rfl, hI⟩
  replace hI : Inv B w9 H [.cb g4 [ckI a0.Epoch, ckL s1] 64, .cb g6 [ckI a1.Epoch, ckI a1.Height, ckV flB a1.Prev, ckV flB a1.State, ckV flB a1.Next, ckL s2] 69, .cb g8 [ckI a2.Round, ckL s3] 71] := hI
  refine lv (v := .bool false) rfl (r_as rfl rfl) rfl ?_
  refine wend ?_
  refine wthen ?_
  refine wren (fun ρ10 eρ10 => ?_)
  have h11 : opd ρ10 76 (.tmp 3) = .pointer (some ⟨g4, 0 + 0, none⟩) := eρ10 3
  have h12 : opd ρ10 76 (.tmp 4) = .pointer (some ⟨g6, 0 + 0, none⟩) := eρ10 4
  have h13 : opd ρ10 76 (.tmp 5) = .pointer (some ⟨g8, 0 + 0, none⟩) := eρ10 5
  clear eρ10
  refine wseq ?_
  refine wseq ?_
  refine wreg ?_
  obtain ⟨x14, hx14, hF⟩ := Option.bind_eq_some_iff.1 hF
  have hsp17 := spec_44 hx14 hT (hI.part 0) 
  refine fc ([]) ([.cb g4 [ckI a0.Epoch, ckL s1] 64, .cb g6 [ckI a1.Epoch, ckI a1.Height, ckV flB a1.Prev, ckV flB a1.State, ckV flB a1.Next, ckL s2] 69, .cb g8 [ckI a2.Round, ckL s3] 71]) (args := []) fc44 rfl rfl rfl hI rfl (hsp17) ?_
  rintro _ H15 _ w16 ⟨rfl, rfl⟩ hleH15 hI
  replace hI : Inv B w16 H15 [.cb g4 [ckI a0.Epoch, ckL s1] 64, .cb g6 [ckI a1.Epoch, ckI a1.Height, ckV flB a1.Prev, ckV flB a1.State, ckV flB a1.Next, ckL s2] 69, .cb g8 [ckI a2.Round, ckL s3] 71] := hI
  refine lv (v := .bool (!x14)) rfl (r_not rfl rfl) rfl ?_
  refine wend ?_
  refine wthen ?_
  refine wren (fun ρ18 eρ18 => ?_)
  have h19 : opd ρ18 76 (.tmp 3) = .pointer (some ⟨g4, 0 + 0, none⟩) := (eρ18 3).trans h11
  have h20 : opd ρ18 76 (.tmp 4) = .pointer (some ⟨g6, 0 + 0, none⟩) := (eρ18 4).trans h12
  have h21 : opd ρ18 76 (.tmp 5) = .pointer (some ⟨g8, 0 + 0, none⟩) := (eρ18 5).trans h13
  have h22 : opd ρ18 76 (.tmp 12) = .bool (!x14) := eρ18 12
  clear eρ18
  by_cases hc23 : x14 = true
  · skip
    rw [if_pos hc23] at hF
    have hbhc23 : (!x14) = false := (by rw [hc23]; rfl)
    refine wcF (h22.trans (congrArg Value.bool hbhc23)) ?_
    refine wp_skip ?_
    refine wthen ?_
    refine wseq ?_
    refine wseq ?_
    refine wreg ?_
    refine lv (v := .agg (flat [ckI a0.Epoch, ckL s1]).toArray) rfl (r_cla (off := 0) (p := 0) (m := 2) (hI.good.ca 0 rfl) rfl ag64 h19 rfl rfl) rfl ?_
    refine lv (v := .agg (flat [ckI a1.Epoch, ckI a1.Height, ckV flB a1.Prev, ckV flB a1.State, ckV flB a1.Next, ckL s2]).toArray) rfl (r_cla (off := 0) (p := 0) (m := 6) (hI.good.ca 1 rfl) rfl ag69 h20 rfl rfl) rfl ?_
    refine lv (v := .agg (flat [ckI a2.Round, ckL s3]).toArray) rfl (r_cla (off := 0) (p := 0) (m := 2) (hI.good.ca 2 rfl) rfl ag71 h21 rfl rfl) rfl ?_
    obtain ⟨x24, hx24, hF⟩ := Option.bind_eq_some_iff.1 hF
    have hsp27 := spec_45 hx24 (hT.mono hleH15) (hI.part 0) (hs1.mono hleH15) (hs2.mono hleH15) (hs3.mono hleH15)
    refine fc ([]) ([.cb g4 [ckI a0.Epoch, ckL s1] 64, .cb g6 [ckI a1.Epoch, ckI a1.Height, ckV flB a1.Prev, ckV flB a1.State, ckV flB a1.Next, ckL s2] 69, .cb g8 [ckI a2.Round, ckL s3] 71]) (args := [.agg (flat [ckI a0.Epoch, ckL s1]).toArray, .agg (flat [ckI a1.Epoch, ckI a1.Height, ckV flB a1.Prev, ckV flB a1.State, ckV flB a1.Next, ckL s2]).toArray, .agg (flat [ckI a2.Round, ckL s3]).toArray]) fc45 rfl rfl rfl hI (argc rfl (argc rfl (argc rfl rfl))) (hsp27) ?_
    rintro _ H25 _ w26 ⟨rfl, rfl⟩ hleH25 hI
    replace hI : Inv B w26 H25 [.cb g4 [ckI a0.Epoch, ckL s1] 64, .cb g6 [ckI a1.Epoch, ckI a1.Height, ckV flB a1.Prev, ckV flB a1.State, ckV flB a1.Next, ckL s2] 69, .cb g8 [ckI a2.Round, ckL s3] 71] := hI
    refine wend ?_
    refine wthen ?_
    refine wren (fun ρ28 eρ28 => ?_)
    have h29 : opd ρ28 76 (.tmp 3) = .pointer (some ⟨g4, 0 + 0, none⟩) := (eρ28 3).trans h19
    have h30 : opd ρ28 76 (.tmp 4) = .pointer (some ⟨g6, 0 + 0, none⟩) := (eρ28 4).trans h20
    have h31 : opd ρ28 76 (.tmp 5) = .pointer (some ⟨g8, 0 + 0, none⟩) := (eρ28 5).trans h21
    have h32 : opd ρ28 76 (.tmp 16) = .bool x24 := eρ28 16
    clear eρ28
    by_cases hc33 : x24 = true
    · skip
      rw [if_pos hc33] at hF
      have hbhc33 : x24 = true := hc33
      refine wcT (h32.trans (congrArg Value.bool hbhc33)) ?_
      refine wseq ?_
      refine wreg ?_
      refine lv (v := .bool true) rfl (r_as rfl rfl) rfl ?_
      refine wend ?_
      refine wthen ?_
      refine wren (fun ρ34 eρ34 => ?_)
      have h35 : opd ρ34 76 (.tmp 6) = .bool true := eρ34 6
      clear eρ34
      refine wp_ret ?_
      refine thR ?_
      obtain rfl := Option.some.inj hF
      subst hB
      refine finR (rs := [.tmp 6]) (vs := [.bool true]) rfl ⟨h35, trivial⟩ ?_
      exact hI.fin 0 ⟨rfl, rfl⟩
    · skip
      rw [if_neg hc33] at hF
      have hbhc33 : x24 = false := (Bool.eq_false_iff.2 hc33)
      refine wcF (h32.trans (congrArg Value.bool hbhc33)) ?_
      refine wp_skip ?_
      refine wthen ?_
      refine wseq ?_
      refine wreg ?_
      refine lv (v := .pointer (some ⟨g4, 0 + 1, none⟩)) rfl (l_fa (j := 0) (i := 0) rfl fl64_1 h29 rfl) rfl ?_
      refine lv (v := s1.v) rfl (r_cl1 (off := 1) (p := 1) (hI.good.ca 0 rfl) rfl sc62 rfl rfl rfl) rfl ?_
      refine lv (v := .int .i64 (a0.Members.length : Int)) rfl (r_lenS rfl sl62 rfl ((hs1.mono hleH15).mono hleH25)) rfl ?_
      obtain ⟨x36, hx36, hF⟩ := Option.bind_eq_some_iff.1 hF
      have hsp39 := spec_48 hx36 ((hT.mono hleH15).mono hleH25) (hI.part 0) 
      refine fc ([]) ([.cb g4 [ckI a0.Epoch, ckL s1] 64, .cb g6 [ckI a1.Epoch, ckI a1.Height, ckV flB a1.Prev, ckV flB a1.State, ckV flB a1.Next, ckL s2] 69, .cb g8 [ckI a2.Round, ckL s3] 71]) (args := [.int .i64 (a0.Members.length : Int)]) fc48 rfl rfl rfl hI (argc rfl rfl) (hsp39) ?_
      rintro _ H37 _ w38 ⟨rfl, rfl⟩ hleH37 hI
      replace hI : Inv B w38 H37 [.cb g4 [ckI a0.Epoch, ckL s1] 64, .cb g6 [ckI a1.Epoch, ckI a1.Height, ckV flB a1.Prev, ckV flB a1.State, ckV flB a1.Next, ckL s2] 69, .cb g8 [ckI a2.Round, ckL s3] 71] := hI
      refine lv (v := .int .i64 x36) rfl (r_as rfl rfl) rfl ?_
      refine wend ?_
      refine wthen ?_
      refine wren (fun ρ40 eρ40 => ?_)
      have h41 : opd ρ40 76 (.tmp 3) = .pointer (some ⟨g4, 0 + 0, none⟩) := (eρ40 3).trans h29
      have h42 : opd ρ40 76 (.tmp 4) = .pointer (some ⟨g6, 0 + 0, none⟩) := (eρ40 4).trans h30
      have h43 : opd ρ40 76 (.tmp 5) = .pointer (some ⟨g8, 0 + 0, none⟩) := (eρ40 5).trans h31
      have h44 : opd ρ40 76 (.tmp 7) = .int .i64 x36 := eρ40 7
      clear eρ40
      refine wseq ?_
      refine wreg ?_
      refine lv (v := .agg (flat [ckI a0.Epoch, ckL s1]).toArray) rfl (r_cla (off := 0) (p := 0) (m := 2) (hI.good.ca 0 rfl) rfl ag64 h41 rfl rfl) rfl ?_
      refine lv (v := .pointer (some ⟨g8, 0 + 1, none⟩)) rfl (l_fa (j := 0) (i := 0) rfl fl71_1 h43 rfl) rfl ?_
      refine lv (v := s3.v) rfl (r_cl1 (off := 1) (p := 1) (hI.good.ca 2 rfl) rfl sc22 rfl rfl rfl) rfl ?_
      obtain ⟨x45, hx45, hF⟩ := Option.bind_eq_some_iff.1 hF
      have hsp48 := spec_49 hx45 (((hT.mono hleH15).mono hleH25).mono hleH37) (hI.part 0) (((hs1.mono hleH15).mono hleH25).mono hleH37) (((hs3.mono hleH15).mono hleH25).mono hleH37)
      refine fc ([]) ([.cb g4 [ckI a0.Epoch, ckL s1] 64, .cb g6 [ckI a1.Epoch, ckI a1.Height, ckV flB a1.Prev, ckV flB a1.State, ckV flB a1.Next, ckL s2] 69, .cb g8 [ckI a2.Round, ckL s3] 71]) (args := [.agg (flat [ckI a0.Epoch, ckL s1]).toArray, s3.v]) fc49 rfl rfl rfl hI (argc rfl (argc rfl rfl)) (hsp48) ?_
      rintro _ H46 _ w47 ⟨s49, rfl, hs49, rfl⟩ hleH46 hI
      replace hI : Inv B w47 H46 [.cb g4 [ckI a0.Epoch, ckL s1] 64, .cb g6 [ckI a1.Epoch, ckI a1.Height, ckV flB a1.Prev, ckV flB a1.State, ckV flB a1.Next, ckL s2] 69, .cb g8 [ckI a2.Round, ckL s3] 71] := hI
      refine lv (v := .tuple #[.agg (flat [ckI x45.1.Round, ckL s49]).toArray, .bool x45.2]) rfl (r_mv rfl rfl) rfl ?_
      refine lv (v := .agg (flat [ckI x45.1.Round, ckL s49]).toArray) rfl (r_ext rfl rfl rfl) rfl ?_
      refine lv (v := .bool x45.2) rfl (r_ext rfl rfl rfl) rfl ?_
      refine le rfl (l_al hI rfl ze71) rfl ?_
      rintro _ w51 ⟨g50, rfl, hI⟩
      replace hI : Inv B w51 H46 [.cb g4 [ckI a0.Epoch, ckL s1] 64, .cb g6 [ckI a1.Epoch, ckI a1.Height, ckV flB a1.Prev, ckV flB a1.State, ckV flB a1.Next, ckL s2] 69, .cb g8 [ckI a2.Round, ckL s3] 71, .cb g50 [ckI 0, ckL Sv.nil] 71] := hI
      refine lst rfl (l_st (off := 0) (p := 0) (m := 2) (new := [ckI x45.1.Round, ckL s49]) hI 3 rfl rfl sz71 rfl rfl rfl rfl rfl rfl) rfl ?_
      intro w52 hI
      replace hI : Inv B w52 H46 [.cb g4 [ckI a0.Epoch, ckL s1] 64, .cb g6 [ckI a1.Epoch, ckI a1.Height, ckV flB a1.Prev, ckV flB a1.State, ckV flB a1.Next, ckL s2] 69, .cb g8 [ckI a2.Round, ckL s3] 71, .cb g50 [ckI x45.1.Round, ckL s49] 71] := hI
      refine lv (v := .bool x45.2) rfl (r_as rfl rfl) rfl ?_
      refine wend ?_
      refine wthen ?_
      refine wren (fun ρ53 eρ53 => ?_)
      have h54 : opd ρ53 76 (.tmp 3) = .pointer (some ⟨g4, 0 + 0, none⟩) := (eρ53 3).trans h41
      have h55 : opd ρ53 76 (.tmp 4) = .pointer (some ⟨g6, 0 + 0, none⟩) := (eρ53 4).trans h42
      have h56 : opd ρ53 76 (.tmp 5) = .pointer (some ⟨g8, 0 + 0, none⟩) := (eρ53 5).trans h43
      have h57 : opd ρ53 76 (.tmp 7) = .int .i64 x36 := (eρ53 7).trans h44
      have h58 : opd ρ53 76 (.tmp 8) = .pointer (some ⟨g50, 0 + 0, none⟩) := eρ53 8
      have h59 : opd ρ53 76 (.tmp 9) = .bool x45.2 := eρ53 9
      clear eρ53
      refine wseq ?_
      refine wseq ?_
      refine wreg ?_
      refine lv (v := .pointer (some ⟨g8, 0 + 1, none⟩)) rfl (l_fa (j := 0) (i := 0) rfl fl71_1 h56 rfl) rfl ?_
      refine lv (v := s3.v) rfl (r_cl1 (off := 1) (p := 1) (hI.good.ca 2 rfl) rfl sc22 rfl rfl rfl) rfl ?_
      refine lv (v := .int .i64 (a2.Votes.length : Int)) rfl (r_lenS rfl sl22 rfl ((((hs3.mono hleH15).mono hleH25).mono hleH37).mono hleH46)) rfl ?_
      refine lv (v := .int .i64 x36) rfl (r_mv rfl h57) rfl ?_
      refine lv (v := .bool (decide ((a2.Votes.length : Int) < x36))) rfl (r_lss rfl rfl rfl rfl) rfl ?_
      refine wend ?_
      refine wthen ?_
      refine wren (fun ρ60 eρ60 => ?_)
      have h61 : opd ρ60 76 (.tmp 3) = .pointer (some ⟨g4, 0 + 0, none⟩) := (eρ60 3).trans h54
      have h62 : opd ρ60 76 (.tmp 4) = .pointer (some ⟨g6, 0 + 0, none⟩) := (eρ60 4).trans h55
      have h63 : opd ρ60 76 (.tmp 5) = .pointer (some ⟨g8, 0 + 0, none⟩) := (eρ60 5).trans h56
      have h64 : opd ρ60 76 (.tmp 7) = .int .i64 x36 := (eρ60 7).trans h57
      have h65 : opd ρ60 76 (.tmp 8) = .pointer (some ⟨g50, 0 + 0, none⟩) := (eρ60 8).trans h58
      have h66 : opd ρ60 76 (.tmp 9) = .bool x45.2 := (eρ60 9).trans h59
      have h67 : opd ρ60 76 (.tmp 32) = .bool (decide ((a2.Votes.length : Int) < x36)) := eρ60 32
      clear eρ60
      by_cases hc68 : (a2.Votes.length : Int) < x36
      · skip
        rw [if_pos hc68] at hF
        have hbhc68 : (decide ((a2.Votes.length : Int) < x36)) = true := decide_eq_true hc68
        refine wcT (h67.trans (congrArg Value.bool hbhc68)) ?_
        refine wseq ?_
        refine wreg ?_
        refine lv (v := .bool x45.2) rfl (r_mv rfl h66) rfl ?_
        refine lv (v := .bool (!x45.2)) rfl (r_not rfl rfl) rfl ?_
        by_cases hc69 : x45.2 = true
        · skip
          rw [if_pos hc69] at hF
          have hbhc69 : (!x45.2) = false := (by rw [hc69]; rfl)
          refine lv (v := .bool false) rfl (r_mv rfl ((show opd _ _ _ = _ from rfl).trans (congrArg Value.bool hbhc69))) rfl ?_
          with_reducible refine lx (d := 36) (by kernel_rfl) (by kernel_rfl) ?_
          with_reducible refine lx (d := 37) (by kernel_rfl) (by kernel_rfl) ?_
          with_reducible refine lx (d := 38) (by kernel_rfl) (by kernel_rfl) ?_
          refine lv (v := .bool false) rfl (r_pkF rfl rfl rfl) rfl ?_
          refine lv (v := .bool false) rfl (r_mv rfl rfl) rfl ?_
          with_reducible refine lx (d := 41) (by kernel_rfl) (by kernel_rfl) ?_
          with_reducible refine lx (d := 42) (by kernel_rfl) (by kernel_rfl) ?_
          with_reducible refine lx (d := 43) (by kernel_rfl) (by kernel_rfl) ?_
          with_reducible refine lx (d := 44) (by kernel_rfl) (by kernel_rfl) ?_
          with_reducible refine lx (d := 45) (by kernel_rfl) (by kernel_rfl) ?_
          refine lv (v := .bool false) rfl (r_pkF rfl rfl rfl) rfl ?_
          refine lv (v := .bool false) rfl (r_as rfl rfl) rfl ?_
          refine wend ?_
          refine wthen ?_
          refine wren (fun ρ70 eρ70 => ?_)
          have h71 : opd ρ70 76 (.tmp 6) = .bool false := eρ70 6
          clear eρ70
          refine wp_ret ?_
          refine thR ?_
          obtain rfl := Option.some.inj hF
          subst hB
          refine finR (rs := [.tmp 6]) (vs := [.bool false]) rfl ⟨h71, trivial⟩ ?_
          exact hI.fin 0 ⟨rfl, rfl⟩
        · skip
          rw [if_neg hc69] at hF
          have hbhc69 : (!x45.2) = true := (by rw [(Bool.eq_false_iff.2 hc69)]; rfl)
          refine lv (v := .bool true) rfl (r_mv rfl ((show opd _ _ _ = _ from rfl).trans (congrArg Value.bool hbhc69))) rfl ?_
          refine lv (v := .agg (flat [ckI x45.1.Round, ckL s49]).toArray) rfl (r_cla (off := 0) (p := 0) (m := 2) (hI.good.ca 3 rfl) rfl ag71 h65 rfl rfl) rfl ?_
          refine lv (v := .agg (flat [ckI 0, ckL Sv.nil]).toArray) rfl (r_bldk (z := [[ckI 0], [ckL Sv.nil]]) (pc := []) rfl zg71 bf71 rfl rfl rfl rfl) rfl ?_
          obtain ⟨x72, hx72, hF⟩ := Option.bind_eq_some_iff.1 hF
          have hsp75 := spec_50 hx72 ((((hT.mono hleH15).mono hleH25).mono hleH37).mono hleH46) (hI.part 0) hs49 (Sl.nil _ _)
          refine fc ([]) ([.cb g4 [ckI a0.Epoch, ckL s1] 64, .cb g6 [ckI a1.Epoch, ckI a1.Height, ckV flB a1.Prev, ckV flB a1.State, ckV flB a1.Next, ckL s2] 69, .cb g8 [ckI a2.Round, ckL s3] 71, .cb g50 [ckI x45.1.Round, ckL s49] 71]) (args := [.agg (flat [ckI x45.1.Round, ckL s49]).toArray, .agg (flat [ckI 0, ckL Sv.nil]).toArray]) fc50 rfl rfl rfl hI (argc rfl (argc rfl rfl)) (hsp75) ?_
          rintro _ H73 _ w74 ⟨rfl, rfl⟩ hleH73 hI
          replace hI : Inv B w74 H73 [.cb g4 [ckI a0.Epoch, ckL s1] 64, .cb g6 [ckI a1.Epoch, ckI a1.Height, ckV flB a1.Prev, ckV flB a1.State, ckV flB a1.Next, ckL s2] 69, .cb g8 [ckI a2.Round, ckL s3] 71, .cb g50 [ckI x45.1.Round, ckL s49] 71] := hI
          refine lv (v := .bool x72) rfl (r_pkT rfl rfl rfl) rfl ?_
          by_cases hc76 : x72 = true
          · skip
            rw [if_pos hc76] at hF
            have hbhc76 : x72 = true := hc76
            refine lv (v := .bool true) rfl (r_mv rfl ((show opd _ _ _ = _ from rfl).trans (congrArg Value.bool hbhc76))) rfl ?_
            refine lv (v := .agg (flat [ckI a0.Epoch, ckL s1]).toArray) rfl (r_cla (off := 0) (p := 0) (m := 2) (hI.good.ca 0 rfl) rfl ag64 h61 rfl rfl) rfl ?_
            refine lv (v := .agg (flat [ckI a1.Epoch, ckI a1.Height, ckV flB a1.Prev, ckV flB a1.State, ckV flB a1.Next, ckL s2]).toArray) rfl (r_cla (off := 0) (p := 0) (m := 6) (hI.good.ca 1 rfl) rfl ag69 h62 rfl rfl) rfl ?_
            refine lv (v := .agg (flat [ckI a2.Round, ckL s3]).toArray) rfl (r_cla (off := 0) (p := 0) (m := 2) (hI.good.ca 2 rfl) rfl ag71 h63 rfl rfl) rfl ?_
            obtain ⟨x77, hx77, hF⟩ := Option.bind_eq_some_iff.1 hF
            have hsp80 := spec_46 hx77 (((((hT.mono hleH15).mono hleH25).mono hleH37).mono hleH46).mono hleH73) (hI.part 0) (((((hs1.mono hleH15).mono hleH25).mono hleH37).mono hleH46).mono hleH73) (((((hs2.mono hleH15).mono hleH25).mono hleH37).mono hleH46).mono hleH73) (((((hs3.mono hleH15).mono hleH25).mono hleH37).mono hleH46).mono hleH73)
            refine fc ([]) ([.cb g4 [ckI a0.Epoch, ckL s1] 64, .cb g6 [ckI a1.Epoch, ckI a1.Height, ckV flB a1.Prev, ckV flB a1.State, ckV flB a1.Next, ckL s2] 69, .cb g8 [ckI a2.Round, ckL s3] 71, .cb g50 [ckI x45.1.Round, ckL s49] 71]) (args := [.agg (flat [ckI a0.Epoch, ckL s1]).toArray, .agg (flat [ckI a1.Epoch, ckI a1.Height, ckV flB a1.Prev, ckV flB a1.State, ckV flB a1.Next, ckL s2]).toArray, .agg (flat [ckI a2.Round, ckL s3]).toArray]) fc46 rfl rfl rfl hI (argc rfl (argc rfl (argc rfl rfl))) (hsp80) ?_
            rintro _ H78 _ w79 ⟨rfl, rfl⟩ hleH78 hI
            replace hI : Inv B w79 H78 [.cb g4 [ckI a0.Epoch, ckL s1] 64, .cb g6 [ckI a1.Epoch, ckI a1.Height, ckV flB a1.Prev, ckV flB a1.State, ckV flB a1.Next, ckL s2] 69, .cb g8 [ckI a2.Round, ckL s3] 71, .cb g50 [ckI x45.1.Round, ckL s49] 71] := hI
            refine lv (v := .bool (!x77)) rfl (r_not rfl rfl) rfl ?_
            refine lv (v := .bool (!x77)) rfl (r_pkT rfl rfl rfl) rfl ?_
            refine lv (v := .bool (!x77)) rfl (r_as rfl rfl) rfl ?_
            refine wend ?_
            refine wthen ?_
            refine wren (fun ρ81 eρ81 => ?_)
            have h82 : opd ρ81 76 (.tmp 6) = .bool (!x77) := eρ81 6
            clear eρ81
            refine wp_ret ?_
            refine thR ?_
            obtain rfl := Option.some.inj hF
            subst hB
            refine finR (rs := [.tmp 6]) (vs := [.bool (!x77)]) rfl ⟨h82, trivial⟩ ?_
            exact hI.fin 0 ⟨rfl, rfl⟩
          · skip
            rw [if_neg hc76] at hF
            have hbhc76 : x72 = false := (Bool.eq_false_iff.2 hc76)
            refine lv (v := .bool false) rfl (r_mv rfl ((show opd _ _ _ = _ from rfl).trans (congrArg Value.bool hbhc76))) rfl ?_
            with_reducible refine lx (d := 41) (by kernel_rfl) (by kernel_rfl) ?_
            with_reducible refine lx (d := 42) (by kernel_rfl) (by kernel_rfl) ?_
            with_reducible refine lx (d := 43) (by kernel_rfl) (by kernel_rfl) ?_
            with_reducible refine lx (d := 44) (by kernel_rfl) (by kernel_rfl) ?_
            with_reducible refine lx (d := 45) (by kernel_rfl) (by kernel_rfl) ?_
            refine lv (v := .bool false) rfl (r_pkF rfl rfl rfl) rfl ?_
            refine lv (v := .bool false) rfl (r_as rfl rfl) rfl ?_
            refine wend ?_
            refine wthen ?_
            refine wren (fun ρ83 eρ83 => ?_)
            have h84 : opd ρ83 76 (.tmp 6) = .bool false := eρ83 6
            clear eρ83
            refine wp_ret ?_
            refine thR ?_
            obtain rfl := Option.some.inj hF
            subst hB
            refine finR (rs := [.tmp 6]) (vs := [.bool false]) rfl ⟨h84, trivial⟩ ?_
            exact hI.fin 0 ⟨rfl, rfl⟩
      · skip
        rw [if_neg hc68] at hF
        have hbhc68 : (decide ((a2.Votes.length : Int) < x36)) = false := decide_eq_false hc68
        refine wcF (h67.trans (congrArg Value.bool hbhc68)) ?_
        refine wp_skip ?_
        refine wthen ?_
        refine wseq ?_
        refine dstG (H0 := H46) (L0 := keepL [true, true, true, true] [.cb g4 [ckI a0.Epoch, ckL s1] 64, .cb g6 [ckI a1.Epoch, ckI a1.Height, ckV flB a1.Prev, ckV flB a1.State, ckV flB a1.Next, ckL s2] 69, .cb g8 [ckI a2.Round, ckL s3] 71, .cb g50 [ckI x45.1.Round, ckL s49] 71]) [11] mixed rfl (by repeat (first | exact Pan.body | refine Pan.then ?_ | refine Pan.inBlock ?_ | refine Pan.noGoto ?_ | refine Pan.pure ?_)) hI (hI.good.weakm _ (Hle.refl _) rfl) ?_
        intro w85 hI hP
        refine dp (v := .pointer (some ⟨g8, 0 + 1, none⟩)) 0 (by kernel_rfl) rfl rfl (fun _ => l_fa (j := 0) (i := 0) rfl fl71_1 h63 rfl) rfl hP ?_
        refine dp (v := .pointer (some ⟨g8, 0 + 1, none⟩)) 5 (by kernel_rfl) rfl rfl (fun _ => l_fa (j := 0) (i := 0) rfl fl71_1 h63 rfl) rfl hP ?_
        refine dp (v := .int .i64 x36) 7 (by kernel_rfl) rfl rfl (fun _ => r_mv rfl h64) rfl hP ?_
        refine dr (v := s3.v) 1 (by kernel_rfl) rfl rfl (hI.good.weakm [true, true, true, true] (Hle.refl _) rfl) (fun _ hG => r_cl1 (off := 1) (p := 1) (hG.ca 2 rfl) rfl sc22 rfl rfl rfl) rfl hP ?_
        obtain ⟨x86, hx86, hF⟩ := Option.bind_eq_some_iff.1 hF
        obtain ⟨b87, j88, _, hix89, hil90, ⟨s92, s93, s94, rfl, hs92, hs93, hs94⟩, hA91⟩ := ((((hs3.mono hleH15).mono hleH25).mono hleH37).mono hleH46).ix hx86
        replace hA91 : At H46 b87 j88 [ckI x86.Kind, ckI x86.Epoch, ckI x86.Height, ckI x86.Round, ckV flB x86.Digest, ckI x86.From, ckI x86.Sig.Leaf, ckL s92, ckL s93, ckL s94] := hA91
        refine dp (v := .pointer (some ⟨b87, j88 + 0, none⟩)) 2 (by kernel_rfl) rfl rfl (fun _ => r_ixt rfl sl22 rfl rfl rfl hix89 hil90) rfl hP ?_
        refine dp (v := .pointer (some ⟨b87, j88 + 3, none⟩)) 3 (by kernel_rfl) rfl rfl (fun _ => l_fa (j := j88) (i := 0) rfl fl35_3 rfl rfl) rfl hP ?_
        refine dr (v := .int .i64 x86.Round) 4 (by kernel_rfl) rfl rfl (hI.good.weakm [true, true, true, true] (Hle.refl _) rfl) (fun _ hG => r_cl1 (off := 3) (p := 3) (hA91.ca hG) rfl sc3 rfl rfl rfl) rfl hP ?_
        refine dr (v := s3.v) 6 (by kernel_rfl) rfl rfl (hI.good.weakm [true, true, true, true] (Hle.refl _) rfl) (fun _ hG => r_cl1 (off := 1) (p := 1) (hG.ca 2 rfl) rfl sc22 rfl rfl rfl) rfl hP ?_
        obtain ⟨x95, hx95, hF⟩ := Option.bind_eq_some_iff.1 hF
        obtain ⟨s96, es96⟩ : ∃ z : Sv, z = s3.cut 0 (x36 : Int).toNat 41 := ⟨_, rfl⟩
        have hs96 := Sl.cutI ((((hs3.mono hleH15).mono hleH25).mono hleH37).mono hleH46) hx95 es96
        refine dp (v := s96.v) 8 (by kernel_rfl) rfl rfl (fun _ => s_slh rfl sl22 rfl rfl ((((hs3.mono hleH15).mono hleH25).mono hleH37).mono hleH46) hx95 es96) rfl hP ?_
        refine dp (v := .agg (flat [ckI x86.Round, ckL s96]).toArray) 9 (by kernel_rfl) rfl rfl (fun _ => r_bldk (z := [[ckI 0], [ckL Sv.nil]]) (pc := [(0, [ckI x86.Round]), (1, [ckL s96])]) rfl zg71 bf71 rfl (argc (congrArg Value.cells rfl) (argc (congrArg Value.cells rfl) rfl)) rfl rfl) rfl hP ?_
        refine de 10 (by kernel_rfl) rfl rfl rfl (l_al hI rfl ze71) rfl ?_
        rintro _ w98 ⟨g97, rfl, hI⟩
        replace hI : Inv B w98 H46 [.cb g4 [ckI a0.Epoch, ckL s1] 64, .cb g6 [ckI a1.Epoch, ckI a1.Height, ckV flB a1.Prev, ckV flB a1.State, ckV flB a1.Next, ckL s2] 69, .cb g8 [ckI a2.Round, ckL s3] 71, .cb g50 [ckI x45.1.Round, ckL s49] 71, .cb g97 [ckI 0, ckL Sv.nil] 71] := hI
        refine ⟨(hI.good.weakm [true, true, true, true, false] (Hle.refl _) rfl), ?_⟩
        refine dsl 11 (by kernel_rfl) rfl rfl rfl (l_st (off := 0) (p := 0) (m := 2) (new := [ckI x86.Round, ckL s96]) hI 4 rfl rfl sz71 rfl rfl rfl rfl rfl rfl) rfl ?_
        intro w99 hI
        replace hI : Inv B w99 H46 [.cb g4 [ckI a0.Epoch, ckL s1] 64, .cb g6 [ckI a1.Epoch, ckI a1.Height, ckV flB a1.Prev, ckV flB a1.State, ckV flB a1.Next, ckL s2] 69, .cb g8 [ckI a2.Round, ckL s3] 71, .cb g50 [ckI x45.1.Round, ckL s49] 71, .cb g97 [ckI x86.Round, ckL s96] 71] := hI
        refine dend (by kernel_rfl) ?_
        refine wthen ?_
        refine wren (fun ρ100 eρ100 => ?_)
        have h101 : opd ρ100 76 (.tmp 3) = .pointer (some ⟨g4, 0 + 0, none⟩) := (eρ100 3).trans h61
        have h102 : opd ρ100 76 (.tmp 4) = .pointer (some ⟨g6, 0 + 0, none⟩) := (eρ100 4).trans h62
        have h103 : opd ρ100 76 (.tmp 5) = .pointer (some ⟨g8, 0 + 0, none⟩) := (eρ100 5).trans h63
        have h104 : opd ρ100 76 (.tmp 8) = .pointer (some ⟨g50, 0 + 0, none⟩) := (eρ100 8).trans h65
        have h105 : opd ρ100 76 (.tmp 9) = .bool x45.2 := (eρ100 9).trans h66
        have h106 : opd ρ100 76 (.tmp 10) = .pointer (some ⟨g97, 0 + 0, none⟩) := eρ100 10
        clear eρ100
        refine wseq ?_
        refine wreg ?_
        refine lv (v := .bool x45.2) rfl (r_mv rfl h105) rfl ?_
        by_cases hc107 : x45.2 = true
        · skip
          rw [if_pos hc107] at hF
          have hbhc107 : x45.2 = true := hc107
          refine lv (v := .bool true) rfl (r_mv rfl ((show opd _ _ _ = _ from rfl).trans (congrArg Value.bool hbhc107))) rfl ?_
          refine lv (v := .agg (flat [ckI x45.1.Round, ckL s49]).toArray) rfl (r_cla (off := 0) (p := 0) (m := 2) (hI.good.ca 3 rfl) rfl ag71 h104 rfl rfl) rfl ?_
          refine lv (v := .agg (flat [ckI x86.Round, ckL s96]).toArray) rfl (r_cla (off := 0) (p := 0) (m := 2) (hI.good.ca 4 rfl) rfl ag71 h106 rfl rfl) rfl ?_
          obtain ⟨x108, hx108, hF⟩ := Option.bind_eq_some_iff.1 hF
          have hsp111 := spec_50 hx108 ((((hT.mono hleH15).mono hleH25).mono hleH37).mono hleH46) (hI.part 0) hs49 hs96
          refine fc ([]) ([.cb g4 [ckI a0.Epoch, ckL s1] 64, .cb g6 [ckI a1.Epoch, ckI a1.Height, ckV flB a1.Prev, ckV flB a1.State, ckV flB a1.Next, ckL s2] 69, .cb g8 [ckI a2.Round, ckL s3] 71, .cb g50 [ckI x45.1.Round, ckL s49] 71, .cb g97 [ckI x86.Round, ckL s96] 71]) (args := [.agg (flat [ckI x45.1.Round, ckL s49]).toArray, .agg (flat [ckI x86.Round, ckL s96]).toArray]) fc50 rfl rfl rfl hI (argc rfl (argc rfl rfl)) (hsp111) ?_
          rintro _ H109 _ w110 ⟨rfl, rfl⟩ hleH109 hI
          replace hI : Inv B w110 H109 [.cb g4 [ckI a0.Epoch, ckL s1] 64, .cb g6 [ckI a1.Epoch, ckI a1.Height, ckV flB a1.Prev, ckV flB a1.State, ckV flB a1.Next, ckL s2] 69, .cb g8 [ckI a2.Round, ckL s3] 71, .cb g50 [ckI x45.1.Round, ckL s49] 71, .cb g97 [ckI x86.Round, ckL s96] 71] := hI
          refine lv (v := .bool x108) rfl (r_pkT rfl rfl rfl) rfl ?_
          by_cases hc112 : x108 = true
          · skip
            rw [if_pos hc112] at hF
            have hbhc112 : x108 = true := hc112
            refine lv (v := .bool true) rfl (r_mv rfl ((show opd _ _ _ = _ from rfl).trans (congrArg Value.bool hbhc112))) rfl ?_
            refine lv (v := .agg (flat [ckI a0.Epoch, ckL s1]).toArray) rfl (r_cla (off := 0) (p := 0) (m := 2) (hI.good.ca 0 rfl) rfl ag64 h101 rfl rfl) rfl ?_
            refine lv (v := .agg (flat [ckI a1.Epoch, ckI a1.Height, ckV flB a1.Prev, ckV flB a1.State, ckV flB a1.Next, ckL s2]).toArray) rfl (r_cla (off := 0) (p := 0) (m := 6) (hI.good.ca 1 rfl) rfl ag69 h102 rfl rfl) rfl ?_
            refine lv (v := .agg (flat [ckI a2.Round, ckL s3]).toArray) rfl (r_cla (off := 0) (p := 0) (m := 2) (hI.good.ca 2 rfl) rfl ag71 h103 rfl rfl) rfl ?_
            obtain ⟨x113, hx113, hF⟩ := Option.bind_eq_some_iff.1 hF
            have hsp116 := spec_46 hx113 (((((hT.mono hleH15).mono hleH25).mono hleH37).mono hleH46).mono hleH109) (hI.part 0) (((((hs1.mono hleH15).mono hleH25).mono hleH37).mono hleH46).mono hleH109) (((((hs2.mono hleH15).mono hleH25).mono hleH37).mono hleH46).mono hleH109) (((((hs3.mono hleH15).mono hleH25).mono hleH37).mono hleH46).mono hleH109)
            refine fc ([]) ([.cb g4 [ckI a0.Epoch, ckL s1] 64, .cb g6 [ckI a1.Epoch, ckI a1.Height, ckV flB a1.Prev, ckV flB a1.State, ckV flB a1.Next, ckL s2] 69, .cb g8 [ckI a2.Round, ckL s3] 71, .cb g50 [ckI x45.1.Round, ckL s49] 71, .cb g97 [ckI x86.Round, ckL s96] 71]) (args := [.agg (flat [ckI a0.Epoch, ckL s1]).toArray, .agg (flat [ckI a1.Epoch, ckI a1.Height, ckV flB a1.Prev, ckV flB a1.State, ckV flB a1.Next, ckL s2]).toArray, .agg (flat [ckI a2.Round, ckL s3]).toArray]) fc46 rfl rfl rfl hI (argc rfl (argc rfl (argc rfl rfl))) (hsp116) ?_
            rintro _ H114 _ w115 ⟨rfl, rfl⟩ hleH114 hI
            replace hI : Inv B w115 H114 [.cb g4 [ckI a0.Epoch, ckL s1] 64, .cb g6 [ckI a1.Epoch, ckI a1.Height, ckV flB a1.Prev, ckV flB a1.State, ckV flB a1.Next, ckL s2] 69, .cb g8 [ckI a2.Round, ckL s3] 71, .cb g50 [ckI x45.1.Round, ckL s49] 71, .cb g97 [ckI x86.Round, ckL s96] 71] := hI
            refine lv (v := .bool (!x113)) rfl (r_not rfl rfl) rfl ?_
            by_cases hc117 : x113 = true
            · skip
              rw [if_pos hc117] at hF
              have hbhc117 : (!x113) = false := (by rw [hc117]; rfl)
              refine lv (v := .bool false) rfl (r_mv rfl ((show opd _ _ _ = _ from rfl).trans (congrArg Value.bool hbhc117))) rfl ?_
              refine lv (v := .agg (flat [ckI a0.Epoch, ckL s1]).toArray) rfl (r_cla (off := 0) (p := 0) (m := 2) (hI.good.ca 0 rfl) rfl ag64 h101 rfl rfl) rfl ?_
              refine lv (v := .agg (flat [ckI a1.Epoch, ckI a1.Height, ckV flB a1.Prev, ckV flB a1.State, ckV flB a1.Next, ckL s2]).toArray) rfl (r_cla (off := 0) (p := 0) (m := 6) (hI.good.ca 1 rfl) rfl ag69 h102 rfl rfl) rfl ?_
              refine lv (v := .agg (flat [ckI x45.1.Round, ckL s49]).toArray) rfl (r_cla (off := 0) (p := 0) (m := 2) (hI.good.ca 3 rfl) rfl ag71 h104 rfl rfl) rfl ?_
              obtain ⟨x118, hx118, hF⟩ := Option.bind_eq_some_iff.1 hF
              have hsp121 := spec_46 hx118 ((((((hT.mono hleH15).mono hleH25).mono hleH37).mono hleH46).mono hleH109).mono hleH114) (hI.part 0) ((((((hs1.mono hleH15).mono hleH25).mono hleH37).mono hleH46).mono hleH109).mono hleH114) ((((((hs2.mono hleH15).mono hleH25).mono hleH37).mono hleH46).mono hleH109).mono hleH114) ((hs49.mono hleH109).mono hleH114)
              refine fc ([]) ([.cb g4 [ckI a0.Epoch, ckL s1] 64, .cb g6 [ckI a1.Epoch, ckI a1.Height, ckV flB a1.Prev, ckV flB a1.State, ckV flB a1.Next, ckL s2] 69, .cb g8 [ckI a2.Round, ckL s3] 71, .cb g50 [ckI x45.1.Round, ckL s49] 71, .cb g97 [ckI x86.Round, ckL s96] 71]) (args := [.agg (flat [ckI a0.Epoch, ckL s1]).toArray, .agg (flat [ckI a1.Epoch, ckI a1.Height, ckV flB a1.Prev, ckV flB a1.State, ckV flB a1.Next, ckL s2]).toArray, .agg (flat [ckI x45.1.Round, ckL s49]).toArray]) fc46 rfl rfl rfl hI (argc rfl (argc rfl (argc rfl rfl))) (hsp121) ?_
              rintro _ H119 _ w120 ⟨rfl, rfl⟩ hleH119 hI
              replace hI : Inv B w120 H119 [.cb g4 [ckI a0.Epoch, ckL s1] 64, .cb g6 [ckI a1.Epoch, ckI a1.Height, ckV flB a1.Prev, ckV flB a1.State, ckV flB a1.Next, ckL s2] 69, .cb g8 [ckI a2.Round, ckL s3] 71, .cb g50 [ckI x45.1.Round, ckL s49] 71, .cb g97 [ckI x86.Round, ckL s96] 71] := hI
              refine lv (v := .bool x118) rfl (r_pkF rfl rfl rfl) rfl ?_
              refine lv (v := .bool x118) rfl (r_pkT rfl rfl rfl) rfl ?_
              refine lv (v := .bool x118) rfl (r_as rfl rfl) rfl ?_
              refine wend ?_
              refine wthen ?_
              refine wren (fun ρ122 eρ122 => ?_)
              have h123 : opd ρ122 76 (.tmp 6) = .bool x118 := eρ122 6
              clear eρ122
              refine wp_ret ?_
              obtain rfl := Option.some.inj hF
              subst hB
              refine finR (rs := [.tmp 6]) (vs := [.bool x118]) rfl ⟨h123, trivial⟩ ?_
              exact hI.fin 0 ⟨rfl, rfl⟩
            · skip
              rw [if_neg hc117] at hF
              have hbhc117 : (!x113) = true := (by rw [(Bool.eq_false_iff.2 hc117)]; rfl)
              refine lv (v := .bool true) rfl (r_mv rfl ((show opd _ _ _ = _ from rfl).trans (congrArg Value.bool hbhc117))) rfl ?_
              with_reducible refine lx (d := 70) (by kernel_rfl) (by kernel_rfl) ?_
              with_reducible refine lx (d := 71) (by kernel_rfl) (by kernel_rfl) ?_
              with_reducible refine lx (d := 72) (by kernel_rfl) (by kernel_rfl) ?_
              with_reducible refine lx (d := 73) (by kernel_rfl) (by kernel_rfl) ?_
              refine lv (v := .bool true) rfl (r_pkT rfl rfl rfl) rfl ?_
              refine lv (v := .bool true) rfl (r_pkT rfl rfl rfl) rfl ?_
              refine lv (v := .bool true) rfl (r_as rfl rfl) rfl ?_
              refine wend ?_
              refine wthen ?_
              refine wren (fun ρ124 eρ124 => ?_)
              have h125 : opd ρ124 76 (.tmp 6) = .bool true := eρ124 6
              clear eρ124
              refine wp_ret ?_
              obtain rfl := Option.some.inj hF
              subst hB
              refine finR (rs := [.tmp 6]) (vs := [.bool true]) rfl ⟨h125, trivial⟩ ?_
              exact hI.fin 0 ⟨rfl, rfl⟩
          · skip
            rw [if_neg hc112] at hF
            have hbhc112 : x108 = false := (Bool.eq_false_iff.2 hc112)
            refine lv (v := .bool false) rfl (r_mv rfl ((show opd _ _ _ = _ from rfl).trans (congrArg Value.bool hbhc112))) rfl ?_
            with_reducible refine lx (d := 64) (by kernel_rfl) (by kernel_rfl) ?_
            with_reducible refine lx (d := 65) (by kernel_rfl) (by kernel_rfl) ?_
            with_reducible refine lx (d := 66) (by kernel_rfl) (by kernel_rfl) ?_
            with_reducible refine lx (d := 67) (by kernel_rfl) (by kernel_rfl) ?_
            with_reducible refine lx (d := 68) (by kernel_rfl) (by kernel_rfl) ?_
            with_reducible refine lx (d := 69) (by kernel_rfl) (by kernel_rfl) ?_
            with_reducible refine lx (d := 70) (by kernel_rfl) (by kernel_rfl) ?_
            with_reducible refine lx (d := 71) (by kernel_rfl) (by kernel_rfl) ?_
            with_reducible refine lx (d := 72) (by kernel_rfl) (by kernel_rfl) ?_
            with_reducible refine lx (d := 73) (by kernel_rfl) (by kernel_rfl) ?_
            with_reducible refine lx (d := 74) (by kernel_rfl) (by kernel_rfl) ?_
            refine lv (v := .bool false) rfl (r_pkF rfl rfl rfl) rfl ?_
            refine lv (v := .bool false) rfl (r_as rfl rfl) rfl ?_
            refine wend ?_
            refine wthen ?_
            refine wren (fun ρ126 eρ126 => ?_)
            have h127 : opd ρ126 76 (.tmp 6) = .bool false := eρ126 6
            clear eρ126
            refine wp_ret ?_
            obtain rfl := Option.some.inj hF
            subst hB
            refine finR (rs := [.tmp 6]) (vs := [.bool false]) rfl ⟨h127, trivial⟩ ?_
            exact hI.fin 0 ⟨rfl, rfl⟩
        · skip
          rw [if_neg hc107] at hF
          have hbhc107 : x45.2 = false := (Bool.eq_false_iff.2 hc107)
          refine lv (v := .bool false) rfl (r_mv rfl ((show opd _ _ _ = _ from rfl).trans (congrArg Value.bool hbhc107))) rfl ?_
          with_reducible refine lx (d := 59) (by kernel_rfl) (by kernel_rfl) ?_
          with_reducible refine lx (d := 60) (by kernel_rfl) (by kernel_rfl) ?_
          with_reducible refine lx (d := 61) (by kernel_rfl) (by kernel_rfl) ?_
          refine lv (v := .bool false) rfl (r_pkF rfl rfl rfl) rfl ?_
          refine lv (v := .bool false) rfl (r_mv rfl rfl) rfl ?_
          with_reducible refine lx (d := 64) (by kernel_rfl) (by kernel_rfl) ?_
          with_reducible refine lx (d := 65) (by kernel_rfl) (by kernel_rfl) ?_
          with_reducible refine lx (d := 66) (by kernel_rfl) (by kernel_rfl) ?_
          with_reducible refine lx (d := 67) (by kernel_rfl) (by kernel_rfl) ?_
          with_reducible refine lx (d := 68) (by kernel_rfl) (by kernel_rfl) ?_
          with_reducible refine lx (d := 69) (by kernel_rfl) (by kernel_rfl) ?_
          with_reducible refine lx (d := 70) (by kernel_rfl) (by kernel_rfl) ?_
          with_reducible refine lx (d := 71) (by kernel_rfl) (by kernel_rfl) ?_
          with_reducible refine lx (d := 72) (by kernel_rfl) (by kernel_rfl) ?_
          with_reducible refine lx (d := 73) (by kernel_rfl) (by kernel_rfl) ?_
          with_reducible refine lx (d := 74) (by kernel_rfl) (by kernel_rfl) ?_
          refine lv (v := .bool false) rfl (r_pkF rfl rfl rfl) rfl ?_
          refine lv (v := .bool false) rfl (r_as rfl rfl) rfl ?_
          refine wend ?_
          refine wthen ?_
          refine wren (fun ρ128 eρ128 => ?_)
          have h129 : opd ρ128 76 (.tmp 6) = .bool false := eρ128 6
          clear eρ128
          refine wp_ret ?_
          obtain rfl := Option.some.inj hF
          subst hB
          refine finR (rs := [.tmp 6]) (vs := [.bool false]) rfl ⟨h129, trivial⟩ ?_
          exact hI.fin 0 ⟨rfl, rfl⟩
  · skip
    rw [if_neg hc23] at hF
    have hbhc23 : (!x14) = true := (by rw [(Bool.eq_false_iff.2 hc23)]; rfl)
    refine wcT (h22.trans (congrArg Value.bool hbhc23)) ?_
    refine wseq ?_
    refine wreg ?_
    refine lv (v := .bool false) rfl (r_as rfl rfl) rfl ?_
    refine wend ?_
    refine wthen ?_
    refine wren (fun ρ130 eρ130 => ?_)
    have h131 : opd ρ130 76 (.tmp 6) = .bool false := eρ130 6
    clear eρ130
    refine wp_ret ?_
    refine thR ?_
    obtain rfl := Option.some.inj hF
    subst hB
    refine finR (rs := [.tmp 6]) (vs := [.bool false]) rfl ⟨h131, trivial⟩ ?_
    exact hI.fin 0 ⟨rfl, rfl⟩
end Go.Proofs.YtdebnncpclodcaaDoor.X
