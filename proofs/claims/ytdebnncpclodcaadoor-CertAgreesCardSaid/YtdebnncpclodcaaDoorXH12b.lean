/-
  Functions of the program: what each computes, and its walk. No condition beyond those that the lemmas name.
-/
import Derived.Test.YtdebnncpclodcaaDoorXPT
import Derived.Test.YtdebnncpclodcaaDoorXH12a
import Derived.Test.YtdebnncpclodcaaDoorXGc
set_option linter.unusedSimpArgs false
set_option linter.unusedVariables false
set_option maxRecDepth 10000
namespace Go.Proofs.YtdebnncpclodcaaDoor.X
open Go.RowKit Go.Proofs.YtdebnncpclodcaaDoorW.PrintLast
noncomputable def M_wapentakelaw14_CertAgrees (a0 : Config) (a1 : Block) (a2 : Cert) (a3 : Block) (a4 : Cert) : Option (Bool) := ((M_wapentakelaw14_alive).bind fun x22 => (if x22 = true then ((M_wapentakelaw14_great a0 a1 a2).bind fun x34 => (if x34 = true then some true else ((M_wapentakelaw14_great a0 a3 a4).bind fun x46 => (if x46 = true then some true else (if a1.Height ≠ a3.Height then some true else (if a2.Round ≠ a4.Round then some true else ((M_cert_Check a0 a1 a2).bind fun x74 => (if x74 = true then ((M_cert_Check a0 a3 a4).bind fun x79 => (if x79 = true then ((forK (fun (i101 : Nat) (σ101 : Int) => (((a2.Votes[i101]?).bind fun x617 => ((forK (fun (i648 : Nat) (σ648 : Int) => (((a4.Votes[i648]?).bind fun x800 => (if x800.From = x617.From then some (.inl (wI (σ648 + 1))) else some (.inl σ648))) : Option (Int ⊕ (Int ⊕ Bool)))) a4.Votes.length 0 σ101).bind fun y => match y with | .inl σ648 => some (.inl σ648) | .inr r => some r)) : Option (Int ⊕ Bool))) a2.Votes.length 0 0).bind fun y => match y with | .inl σ101 => ((M_config_Weak a0).bind fun x858 => some (decide (x858 ≤ σ101))) | .inr r => some r) else some true)) else some true)))))))) else some false))
set_option maxHeartbeats 4000000 in
theorem spec_12 {w : World} {H : Hp} {a0 : Config} {a1 : Block} {a2 : Cert} {a3 : Block} {a4 : Cert} {s1 : Sv} {s2 : Sv} {s3 : Sv} {s4 : Sv} {s5 : Sv} {r : Bool} (hF : M_wapentakelaw14_CertAgrees a0 a1 a2 a3 a4 = some r) (hT : Tab H) (hG : Good w H []) (hs1 : Sl (Fl.ty fl_Member) H s1 a0.Members) (hs2 : Sl (Fl.ty fl_Request) H s2 a1.Requests) (hs3 : Sl ty_Vote H s3 a2.Votes) (hs4 : Sl (Fl.ty fl_Request) H s4 a3.Requests) (hs5 : Sl ty_Vote H s5 a4.Votes) :
    Fine Tryd.prog 12 [.agg (flat [ckI a0.Epoch, ckL s1]).toArray, .agg (flat [ckI a1.Epoch, ckI a1.Height, ckV flB a1.Prev, ckV flB a1.State, ckV flB a1.Next, ckL s2]).toArray, .agg (flat [ckI a2.Round, ckL s3]).toArray, .agg (flat [ckI a3.Epoch, ckI a3.Height, ckV flB a3.Prev, ckV flB a3.State, ckV flB a3.Next, ckL s4]).toArray, .agg (flat [ckI a4.Round, ckL s5]).toArray] w H [] (fun H' v L' => v = .bool r ∧ L' = []) := by
  unfold M_wapentakelaw14_CertAgrees at hF
  unfold Fine
  obtain ⟨B, hB⟩ : ∃ B : Base, B = ⟨w, H, blks []⟩ := ⟨_, rfl⟩
  have hI : Inv B w H [] := by rw [hB]; exact Inv.start hG
  refine enter (n := 83) (args := [.agg (flat [ckI a0.Epoch, ckL s1]).toArray, .agg (flat [ckI a1.Epoch, ckI a1.Height, ckV flB a1.Prev, ckV flB a1.State, ckV flB a1.Next, ckL s2]).toArray, .agg (flat [ckI a2.Round, ckL s3]).toArray, .agg (flat [ckI a3.Epoch, ckI a3.Height, ckV flB a3.Prev, ckV flB a3.State, ckV flB a3.Next, ckL s4]).toArray, .agg (flat [ckI a4.Round, ckL s5]).toArray]) Tryd.func12 rfl Tryd.ntmps12 (Nat.le_of_ble_eq_true rfl) ?_
  refine wseq ?_
  refine wreg ?_
  refine le rfl (l_box (cks := [ckI a0.Epoch, ckL s1]) hI rfl rfl rfl) rfl ?_
  rintro _ w7 ⟨g6, rfl, hI⟩
  replace hI : Inv B w7 H [.cb g6 [ckI a0.Epoch, ckL s1] 64] := hI
  refine le rfl (l_box (cks := [ckI a1.Epoch, ckI a1.Height, ckV flB a1.Prev, ckV flB a1.State, ckV flB a1.Next, ckL s2]) hI rfl rfl rfl) rfl ?_
  rintro _ w9 ⟨g8, rfl, hI⟩
  replace hI : Inv B w9 H [.cb g6 [ckI a0.Epoch, ckL s1] 64, .cb g8 [ckI a1.Epoch, ckI a1.Height, ckV flB a1.Prev, ckV flB a1.State, ckV flB a1.Next, ckL s2] 69] := hI
  refine le rfl (l_box (cks := [ckI a2.Round, ckL s3]) hI rfl rfl rfl) rfl ?_
  rintro _ w11 ⟨g10, rfl, hI⟩
  replace hI : Inv B w11 H [.cb g6 [ckI a0.Epoch, ckL s1] 64, .cb g8 [ckI a1.Epoch, ckI a1.Height, ckV flB a1.Prev, ckV flB a1.State, ckV flB a1.Next, ckL s2] 69, .cb g10 [ckI a2.Round, ckL s3] 71] := hI
  refine le rfl (l_box (cks := [ckI a3.Epoch, ckI a3.Height, ckV flB a3.Prev, ckV flB a3.State, ckV flB a3.Next, ckL s4]) hI rfl rfl rfl) rfl ?_
  rintro _ w13 ⟨g12, rfl, hI⟩
  replace hI : Inv B w13 H [.cb g6 [ckI a0.Epoch, ckL s1] 64, .cb g8 [ckI a1.Epoch, ckI a1.Height, ckV flB a1.Prev, ckV flB a1.State, ckV flB a1.Next, ckL s2] 69, .cb g10 [ckI a2.Round, ckL s3] 71, .cb g12 [ckI a3.Epoch, ckI a3.Height, ckV flB a3.Prev, ckV flB a3.State, ckV flB a3.Next, ckL s4] 69] := hI
  refine le rfl (l_box (cks := [ckI a4.Round, ckL s5]) hI rfl rfl rfl) rfl ?_
  rintro _ w15 ⟨g14, rfl, hI⟩
  replace hI : Inv B w15 H [.cb g6 [ckI a0.Epoch, ckL s1] 64, .cb g8 [ckI a1.Epoch, ckI a1.Height, ckV flB a1.Prev, ckV flB a1.State, ckV flB a1.Next, ckL s2] 69, .cb g10 [ckI a2.Round, ckL s3] 71, .cb g12 [ckI a3.Epoch, ckI a3.Height, ckV flB a3.Prev, ckV flB a3.State, ckV flB a3.Next, ckL s4] 69, .cb g14 [ckI a4.Round, ckL s5] 71] := hI
  refine lv (v := .bool false) rfl (r_as rfl rfl) rfl ?_
  refine wend ?_
  refine wthen ?_
  refine wren (fun ρ16 eρ16 => ?_)
  have h17 : opd ρ16 83 (.tmp 5) = .pointer (some ⟨g6, 0 + 0, none⟩) := eρ16 5
  have h18 : opd ρ16 83 (.tmp 6) = .pointer (some ⟨g8, 0 + 0, none⟩) := eρ16 6
  have h19 : opd ρ16 83 (.tmp 7) = .pointer (some ⟨g10, 0 + 0, none⟩) := eρ16 7
  have h20 : opd ρ16 83 (.tmp 8) = .pointer (some ⟨g12, 0 + 0, none⟩) := eρ16 8
  have h21 : opd ρ16 83 (.tmp 9) = .pointer (some ⟨g14, 0 + 0, none⟩) := eρ16 9
  clear eρ16
  refine wseq ?_
  refine wseq ?_
  refine wreg ?_
  obtain ⟨x22, hx22, hF⟩ := Option.bind_eq_some_iff.1 hF
  have hsp25 := spec_44 hx22 hT (hI.part 0) 
  refine fc ([]) ([.cb g6 [ckI a0.Epoch, ckL s1] 64, .cb g8 [ckI a1.Epoch, ckI a1.Height, ckV flB a1.Prev, ckV flB a1.State, ckV flB a1.Next, ckL s2] 69, .cb g10 [ckI a2.Round, ckL s3] 71, .cb g12 [ckI a3.Epoch, ckI a3.Height, ckV flB a3.Prev, ckV flB a3.State, ckV flB a3.Next, ckL s4] 69, .cb g14 [ckI a4.Round, ckL s5] 71]) (args := []) fc44 rfl rfl rfl hI rfl (hsp25) ?_
  rintro _ H23 _ w24 ⟨rfl, rfl⟩ hleH23 hI
  replace hI : Inv B w24 H23 [.cb g6 [ckI a0.Epoch, ckL s1] 64, .cb g8 [ckI a1.Epoch, ckI a1.Height, ckV flB a1.Prev, ckV flB a1.State, ckV flB a1.Next, ckL s2] 69, .cb g10 [ckI a2.Round, ckL s3] 71, .cb g12 [ckI a3.Epoch, ckI a3.Height, ckV flB a3.Prev, ckV flB a3.State, ckV flB a3.Next, ckL s4] 69, .cb g14 [ckI a4.Round, ckL s5] 71] := hI
  refine lv (v := .bool (!x22)) rfl (r_not rfl rfl) rfl ?_
  refine wend ?_
  refine wthen ?_
  refine wren (fun ρ26 eρ26 => ?_)
  have h27 : opd ρ26 83 (.tmp 5) = .pointer (some ⟨g6, 0 + 0, none⟩) := (eρ26 5).trans h17
  have h28 : opd ρ26 83 (.tmp 6) = .pointer (some ⟨g8, 0 + 0, none⟩) := (eρ26 6).trans h18
  have h29 : opd ρ26 83 (.tmp 7) = .pointer (some ⟨g10, 0 + 0, none⟩) := (eρ26 7).trans h19
  have h30 : opd ρ26 83 (.tmp 8) = .pointer (some ⟨g12, 0 + 0, none⟩) := (eρ26 8).trans h20
  have h31 : opd ρ26 83 (.tmp 9) = .pointer (some ⟨g14, 0 + 0, none⟩) := (eρ26 9).trans h21
  have h32 : opd ρ26 83 (.tmp 17) = .bool (!x22) := eρ26 17
  clear eρ26
  by_cases hc33 : x22 = true
  · skip
    rw [if_pos hc33] at hF
    have hbhc33 : (!x22) = false := (by rw [hc33]; rfl)
    refine wcF (h32.trans (congrArg Value.bool hbhc33)) ?_
    refine wp_skip ?_
    refine wthen ?_
    refine wseq ?_
    refine wseq ?_
    refine wreg ?_
    refine lv (v := .agg (flat [ckI a0.Epoch, ckL s1]).toArray) rfl (r_cla (off := 0) (p := 0) (m := 2) (hI.good.ca 0 rfl) rfl ag64 h27 rfl rfl) rfl ?_
    refine lv (v := .agg (flat [ckI a1.Epoch, ckI a1.Height, ckV flB a1.Prev, ckV flB a1.State, ckV flB a1.Next, ckL s2]).toArray) rfl (r_cla (off := 0) (p := 0) (m := 6) (hI.good.ca 1 rfl) rfl ag69 h28 rfl rfl) rfl ?_
    refine lv (v := .agg (flat [ckI a2.Round, ckL s3]).toArray) rfl (r_cla (off := 0) (p := 0) (m := 2) (hI.good.ca 2 rfl) rfl ag71 h29 rfl rfl) rfl ?_
    obtain ⟨x34, hx34, hF⟩ := Option.bind_eq_some_iff.1 hF
    have hsp37 := spec_45 hx34 (hT.mono hleH23) (hI.part 0) (hs1.mono hleH23) (hs2.mono hleH23) (hs3.mono hleH23)
    refine fc ([]) ([.cb g6 [ckI a0.Epoch, ckL s1] 64, .cb g8 [ckI a1.Epoch, ckI a1.Height, ckV flB a1.Prev, ckV flB a1.State, ckV flB a1.Next, ckL s2] 69, .cb g10 [ckI a2.Round, ckL s3] 71, .cb g12 [ckI a3.Epoch, ckI a3.Height, ckV flB a3.Prev, ckV flB a3.State, ckV flB a3.Next, ckL s4] 69, .cb g14 [ckI a4.Round, ckL s5] 71]) (args := [.agg (flat [ckI a0.Epoch, ckL s1]).toArray, .agg (flat [ckI a1.Epoch, ckI a1.Height, ckV flB a1.Prev, ckV flB a1.State, ckV flB a1.Next, ckL s2]).toArray, .agg (flat [ckI a2.Round, ckL s3]).toArray]) fc45 rfl rfl rfl hI (argc rfl (argc rfl (argc rfl rfl))) (hsp37) ?_
    rintro _ H35 _ w36 ⟨rfl, rfl⟩ hleH35 hI
    replace hI : Inv B w36 H35 [.cb g6 [ckI a0.Epoch, ckL s1] 64, .cb g8 [ckI a1.Epoch, ckI a1.Height, ckV flB a1.Prev, ckV flB a1.State, ckV flB a1.Next, ckL s2] 69, .cb g10 [ckI a2.Round, ckL s3] 71, .cb g12 [ckI a3.Epoch, ckI a3.Height, ckV flB a3.Prev, ckV flB a3.State, ckV flB a3.Next, ckL s4] 69, .cb g14 [ckI a4.Round, ckL s5] 71] := hI
    by_cases hc38 : x34 = true
    · skip
      rw [if_pos hc38] at hF
      have hbhc38 : x34 = true := hc38
      refine lv (v := .bool true) rfl (r_mv rfl ((show opd _ _ _ = _ from rfl).trans (congrArg Value.bool hbhc38))) rfl ?_
      with_reducible refine lx (d := 23) (by kernel_rfl) (by kernel_rfl) ?_
      with_reducible refine lx (d := 24) (by kernel_rfl) (by kernel_rfl) ?_
      with_reducible refine lx (d := 25) (by kernel_rfl) (by kernel_rfl) ?_
      with_reducible refine lx (d := 26) (by kernel_rfl) (by kernel_rfl) ?_
      refine lv (v := .bool true) rfl (r_pkT rfl rfl rfl) rfl ?_
      refine lv (v := .bool true) rfl (r_mv rfl rfl) rfl ?_
      with_reducible refine lx (d := 29) (by kernel_rfl) (by kernel_rfl) ?_
      with_reducible refine lx (d := 30) (by kernel_rfl) (by kernel_rfl) ?_
      with_reducible refine lx (d := 31) (by kernel_rfl) (by kernel_rfl) ?_
      with_reducible refine lx (d := 32) (by kernel_rfl) (by kernel_rfl) ?_
      with_reducible refine lx (d := 33) (by kernel_rfl) (by kernel_rfl) ?_
      refine lv (v := .bool true) rfl (r_pkT rfl rfl rfl) rfl ?_
      refine lv (v := .bool true) rfl (r_mv rfl rfl) rfl ?_
      with_reducible refine lx (d := 36) (by kernel_rfl) (by kernel_rfl) ?_
      with_reducible refine lx (d := 37) (by kernel_rfl) (by kernel_rfl) ?_
      with_reducible refine lx (d := 38) (by kernel_rfl) (by kernel_rfl) ?_
      with_reducible refine lx (d := 39) (by kernel_rfl) (by kernel_rfl) ?_
      with_reducible refine lx (d := 40) (by kernel_rfl) (by kernel_rfl) ?_
      refine lv (v := .bool true) rfl (r_pkT rfl rfl rfl) rfl ?_
      refine lv (v := .bool true) rfl (r_mv rfl rfl) rfl ?_
      with_reducible refine lx (d := 43) (by kernel_rfl) (by kernel_rfl) ?_
      with_reducible refine lx (d := 44) (by kernel_rfl) (by kernel_rfl) ?_
      with_reducible refine lx (d := 45) (by kernel_rfl) (by kernel_rfl) ?_
      with_reducible refine lx (d := 46) (by kernel_rfl) (by kernel_rfl) ?_
      with_reducible refine lx (d := 47) (by kernel_rfl) (by kernel_rfl) ?_
      refine lv (v := .bool true) rfl (r_pkT rfl rfl rfl) rfl ?_
      refine lv (v := .bool true) rfl (r_mv rfl rfl) rfl ?_
      with_reducible refine lx (d := 50) (by kernel_rfl) (by kernel_rfl) ?_
      with_reducible refine lx (d := 51) (by kernel_rfl) (by kernel_rfl) ?_
      with_reducible refine lx (d := 52) (by kernel_rfl) (by kernel_rfl) ?_
      with_reducible refine lx (d := 53) (by kernel_rfl) (by kernel_rfl) ?_
      with_reducible refine lx (d := 54) (by kernel_rfl) (by kernel_rfl) ?_
      refine lv (v := .bool true) rfl (r_pkT rfl rfl rfl) rfl ?_
      refine wend ?_
      refine wthen ?_
      refine wren (fun ρ39 eρ39 => ?_)
      have h40 : opd ρ39 83 (.tmp 5) = .pointer (some ⟨g6, 0 + 0, none⟩) := (eρ39 5).trans h27
      have h41 : opd ρ39 83 (.tmp 7) = .pointer (some ⟨g10, 0 + 0, none⟩) := (eρ39 7).trans h29
      have h42 : opd ρ39 83 (.tmp 9) = .pointer (some ⟨g14, 0 + 0, none⟩) := (eρ39 9).trans h31
      have h43 : opd ρ39 83 (.tmp 55) = .bool true := eρ39 55
      clear eρ39
      refine wcT h43 ?_
      refine wseq ?_
      refine wreg ?_
      refine lv (v := .bool true) rfl (r_as rfl rfl) rfl ?_
      refine wend ?_
      refine wthen ?_
      refine wren (fun ρ44 eρ44 => ?_)
      have h45 : opd ρ44 83 (.tmp 10) = .bool true := eρ44 10
      clear eρ44
      refine wp_ret ?_
      refine thR ?_
      obtain rfl := Option.some.inj hF
      subst hB
      refine finR (rs := [.tmp 10]) (vs := [.bool true]) rfl ⟨h45, trivial⟩ ?_
      exact hI.fin 0 ⟨rfl, rfl⟩
    · skip
      rw [if_neg hc38] at hF
      have hbhc38 : x34 = false := (Bool.eq_false_iff.2 hc38)
      refine lv (v := .bool false) rfl (r_mv rfl ((show opd _ _ _ = _ from rfl).trans (congrArg Value.bool hbhc38))) rfl ?_
      refine lv (v := .agg (flat [ckI a0.Epoch, ckL s1]).toArray) rfl (r_cla (off := 0) (p := 0) (m := 2) (hI.good.ca 0 rfl) rfl ag64 h27 rfl rfl) rfl ?_
      refine lv (v := .agg (flat [ckI a3.Epoch, ckI a3.Height, ckV flB a3.Prev, ckV flB a3.State, ckV flB a3.Next, ckL s4]).toArray) rfl (r_cla (off := 0) (p := 0) (m := 6) (hI.good.ca 3 rfl) rfl ag69 h30 rfl rfl) rfl ?_
      refine lv (v := .agg (flat [ckI a4.Round, ckL s5]).toArray) rfl (r_cla (off := 0) (p := 0) (m := 2) (hI.good.ca 4 rfl) rfl ag71 h31 rfl rfl) rfl ?_
      obtain ⟨x46, hx46, hF⟩ := Option.bind_eq_some_iff.1 hF
      have hsp49 := spec_45 hx46 ((hT.mono hleH23).mono hleH35) (hI.part 0) ((hs1.mono hleH23).mono hleH35) ((hs4.mono hleH23).mono hleH35) ((hs5.mono hleH23).mono hleH35)
      refine fc ([]) ([.cb g6 [ckI a0.Epoch, ckL s1] 64, .cb g8 [ckI a1.Epoch, ckI a1.Height, ckV flB a1.Prev, ckV flB a1.State, ckV flB a1.Next, ckL s2] 69, .cb g10 [ckI a2.Round, ckL s3] 71, .cb g12 [ckI a3.Epoch, ckI a3.Height, ckV flB a3.Prev, ckV flB a3.State, ckV flB a3.Next, ckL s4] 69, .cb g14 [ckI a4.Round, ckL s5] 71]) (args := [.agg (flat [ckI a0.Epoch, ckL s1]).toArray, .agg (flat [ckI a3.Epoch, ckI a3.Height, ckV flB a3.Prev, ckV flB a3.State, ckV flB a3.Next, ckL s4]).toArray, .agg (flat [ckI a4.Round, ckL s5]).toArray]) fc45 rfl rfl rfl hI (argc rfl (argc rfl (argc rfl rfl))) (hsp49) ?_
      rintro _ H47 _ w48 ⟨rfl, rfl⟩ hleH47 hI
      replace hI : Inv B w48 H47 [.cb g6 [ckI a0.Epoch, ckL s1] 64, .cb g8 [ckI a1.Epoch, ckI a1.Height, ckV flB a1.Prev, ckV flB a1.State, ckV flB a1.Next, ckL s2] 69, .cb g10 [ckI a2.Round, ckL s3] 71, .cb g12 [ckI a3.Epoch, ckI a3.Height, ckV flB a3.Prev, ckV flB a3.State, ckV flB a3.Next, ckL s4] 69, .cb g14 [ckI a4.Round, ckL s5] 71] := hI
      refine lv (v := .bool x46) rfl (r_pkF rfl rfl rfl) rfl ?_
      by_cases hc50 : x46 = true
      · skip
        rw [if_pos hc50] at hF
        have hbhc50 : x46 = true := hc50
        refine lv (v := .bool true) rfl (r_mv rfl ((show opd _ _ _ = _ from rfl).trans (congrArg Value.bool hbhc50))) rfl ?_
        with_reducible refine lx (d := 29) (by kernel_rfl) (by kernel_rfl) ?_
        with_reducible refine lx (d := 30) (by kernel_rfl) (by kernel_rfl) ?_
        with_reducible refine lx (d := 31) (by kernel_rfl) (by kernel_rfl) ?_
        with_reducible refine lx (d := 32) (by kernel_rfl) (by kernel_rfl) ?_
        with_reducible refine lx (d := 33) (by kernel_rfl) (by kernel_rfl) ?_
        refine lv (v := .bool true) rfl (r_pkT rfl rfl rfl) rfl ?_
        refine lv (v := .bool true) rfl (r_mv rfl rfl) rfl ?_
        with_reducible refine lx (d := 36) (by kernel_rfl) (by kernel_rfl) ?_
        with_reducible refine lx (d := 37) (by kernel_rfl) (by kernel_rfl) ?_
        with_reducible refine lx (d := 38) (by kernel_rfl) (by kernel_rfl) ?_
        with_reducible refine lx (d := 39) (by kernel_rfl) (by kernel_rfl) ?_
        with_reducible refine lx (d := 40) (by kernel_rfl) (by kernel_rfl) ?_
        refine lv (v := .bool true) rfl (r_pkT rfl rfl rfl) rfl ?_
        refine lv (v := .bool true) rfl (r_mv rfl rfl) rfl ?_
        with_reducible refine lx (d := 43) (by kernel_rfl) (by kernel_rfl) ?_
        with_reducible refine lx (d := 44) (by kernel_rfl) (by kernel_rfl) ?_
        with_reducible refine lx (d := 45) (by kernel_rfl) (by kernel_rfl) ?_
        with_reducible refine lx (d := 46) (by kernel_rfl) (by kernel_rfl) ?_
        with_reducible refine lx (d := 47) (by kernel_rfl) (by kernel_rfl) ?_
        refine lv (v := .bool true) rfl (r_pkT rfl rfl rfl) rfl ?_
        refine lv (v := .bool true) rfl (r_mv rfl rfl) rfl ?_
        with_reducible refine lx (d := 50) (by kernel_rfl) (by kernel_rfl) ?_
        with_reducible refine lx (d := 51) (by kernel_rfl) (by kernel_rfl) ?_
        with_reducible refine lx (d := 52) (by kernel_rfl) (by kernel_rfl) ?_
        with_reducible refine lx (d := 53) (by kernel_rfl) (by kernel_rfl) ?_
        with_reducible refine lx (d := 54) (by kernel_rfl) (by kernel_rfl) ?_
        refine lv (v := .bool true) rfl (r_pkT rfl rfl rfl) rfl ?_
        refine wend ?_
        refine wthen ?_
        refine wren (fun ρ51 eρ51 => ?_)
        have h52 : opd ρ51 83 (.tmp 5) = .pointer (some ⟨g6, 0 + 0, none⟩) := (eρ51 5).trans h27
        have h53 : opd ρ51 83 (.tmp 7) = .pointer (some ⟨g10, 0 + 0, none⟩) := (eρ51 7).trans h29
        have h54 : opd ρ51 83 (.tmp 9) = .pointer (some ⟨g14, 0 + 0, none⟩) := (eρ51 9).trans h31
        have h55 : opd ρ51 83 (.tmp 55) = .bool true := eρ51 55
        clear eρ51
        refine wcT h55 ?_
        refine wseq ?_
        refine wreg ?_
        refine lv (v := .bool true) rfl (r_as rfl rfl) rfl ?_
        refine wend ?_
        refine wthen ?_
        refine wren (fun ρ56 eρ56 => ?_)
        have h57 : opd ρ56 83 (.tmp 10) = .bool true := eρ56 10
        clear eρ56
        refine wp_ret ?_
        refine thR ?_
        obtain rfl := Option.some.inj hF
        subst hB
        refine finR (rs := [.tmp 10]) (vs := [.bool true]) rfl ⟨h57, trivial⟩ ?_
        exact hI.fin 0 ⟨rfl, rfl⟩
      · skip
        rw [if_neg hc50] at hF
        have hbhc50 : x46 = false := (Bool.eq_false_iff.2 hc50)
        refine lv (v := .bool false) rfl (r_mv rfl ((show opd _ _ _ = _ from rfl).trans (congrArg Value.bool hbhc50))) rfl ?_
        refine lv (v := .pointer (some ⟨g8, 0 + 1, none⟩)) rfl (l_fa (j := 0) (i := 0) rfl fl69_1 h28 rfl) rfl ?_
        refine lv (v := .int .i64 a1.Height) rfl (r_cl1 (off := 1) (p := 1) (hI.good.ca 1 rfl) rfl sc3 rfl rfl rfl) rfl ?_
        refine lv (v := .pointer (some ⟨g12, 0 + 1, none⟩)) rfl (l_fa (j := 0) (i := 0) rfl fl69_1 h30 rfl) rfl ?_
        refine lv (v := .int .i64 a3.Height) rfl (r_cl1 (off := 1) (p := 1) (hI.good.ca 3 rfl) rfl sc3 rfl rfl rfl) rfl ?_
        refine lv (v := .bool (decide (a1.Height ≠ a3.Height))) rfl (r_neq rfl rfl rfl rfl) rfl ?_
        refine lv (v := .bool (decide (a1.Height ≠ a3.Height))) rfl (r_pkF rfl rfl rfl) rfl ?_
        by_cases hc58 : a1.Height ≠ a3.Height
        · skip
          rw [if_pos hc58] at hF
          have hbhc58 : (decide (a1.Height ≠ a3.Height)) = true := decide_eq_true hc58
          refine lv (v := .bool true) rfl (r_mv rfl ((show opd _ _ _ = _ from rfl).trans (congrArg Value.bool hbhc58))) rfl ?_
          with_reducible refine lx (d := 36) (by kernel_rfl) (by kernel_rfl) ?_
          with_reducible refine lx (d := 37) (by kernel_rfl) (by kernel_rfl) ?_
          with_reducible refine lx (d := 38) (by kernel_rfl) (by kernel_rfl) ?_
          with_reducible refine lx (d := 39) (by kernel_rfl) (by kernel_rfl) ?_
          with_reducible refine lx (d := 40) (by kernel_rfl) (by kernel_rfl) ?_
          refine lv (v := .bool true) rfl (r_pkT rfl rfl rfl) rfl ?_
          refine lv (v := .bool true) rfl (r_mv rfl rfl) rfl ?_
          with_reducible refine lx (d := 43) (by kernel_rfl) (by kernel_rfl) ?_
          with_reducible refine lx (d := 44) (by kernel_rfl) (by kernel_rfl) ?_
          with_reducible refine lx (d := 45) (by kernel_rfl) (by kernel_rfl) ?_
          with_reducible refine lx (d := 46) (by kernel_rfl) (by kernel_rfl) ?_
          with_reducible refine lx (d := 47) (by kernel_rfl) (by kernel_rfl) ?_
          refine lv (v := .bool true) rfl (r_pkT rfl rfl rfl) rfl ?_
          refine lv (v := .bool true) rfl (r_mv rfl rfl) rfl ?_
          with_reducible refine lx (d := 50) (by kernel_rfl) (by kernel_rfl) ?_
          with_reducible refine lx (d := 51) (by kernel_rfl) (by kernel_rfl) ?_
          with_reducible refine lx (d := 52) (by kernel_rfl) (by kernel_rfl) ?_
          with_reducible refine lx (d := 53) (by kernel_rfl) (by kernel_rfl) ?_
          with_reducible refine lx (d := 54) (by kernel_rfl) (by kernel_rfl) ?_
          refine lv (v := .bool true) rfl (r_pkT rfl rfl rfl) rfl ?_
          refine wend ?_
          refine wthen ?_
          refine wren (fun ρ59 eρ59 => ?_)
          have h60 : opd ρ59 83 (.tmp 5) = .pointer (some ⟨g6, 0 + 0, none⟩) := (eρ59 5).trans h27
          have h61 : opd ρ59 83 (.tmp 7) = .pointer (some ⟨g10, 0 + 0, none⟩) := (eρ59 7).trans h29
          have h62 : opd ρ59 83 (.tmp 9) = .pointer (some ⟨g14, 0 + 0, none⟩) := (eρ59 9).trans h31
          have h63 : opd ρ59 83 (.tmp 55) = .bool true := eρ59 55
          clear eρ59
          refine wcT h63 ?_
          refine wseq ?_
          refine wreg ?_
          refine lv (v := .bool true) rfl (r_as rfl rfl) rfl ?_
          refine wend ?_
          refine wthen ?_
          refine wren (fun ρ64 eρ64 => ?_)
          have h65 : opd ρ64 83 (.tmp 10) = .bool true := eρ64 10
          clear eρ64
          refine wp_ret ?_
          refine thR ?_
          obtain rfl := Option.some.inj hF
          subst hB
          refine finR (rs := [.tmp 10]) (vs := [.bool true]) rfl ⟨h65, trivial⟩ ?_
          exact hI.fin 0 ⟨rfl, rfl⟩
        · skip
          rw [if_neg hc58] at hF
          have hbhc58 : (decide (a1.Height ≠ a3.Height)) = false := decide_eq_false hc58
          refine lv (v := .bool false) rfl (r_mv rfl ((show opd _ _ _ = _ from rfl).trans (congrArg Value.bool hbhc58))) rfl ?_
          refine lv (v := .pointer (some ⟨g10, 0 + 0, none⟩)) rfl (l_fa (j := 0) (i := 0) rfl fl71_0 h29 rfl) rfl ?_
          refine lv (v := .int .i64 a2.Round) rfl (r_cl1 (off := 0) (p := 0) (hI.good.ca 2 rfl) rfl sc3 rfl rfl rfl) rfl ?_
          refine lv (v := .pointer (some ⟨g14, 0 + 0, none⟩)) rfl (l_fa (j := 0) (i := 0) rfl fl71_0 h31 rfl) rfl ?_
          refine lv (v := .int .i64 a4.Round) rfl (r_cl1 (off := 0) (p := 0) (hI.good.ca 4 rfl) rfl sc3 rfl rfl rfl) rfl ?_
          refine lv (v := .bool (decide (a2.Round ≠ a4.Round))) rfl (r_neq rfl rfl rfl rfl) rfl ?_
          refine lv (v := .bool (decide (a2.Round ≠ a4.Round))) rfl (r_pkF rfl rfl rfl) rfl ?_
          by_cases hc66 : a2.Round ≠ a4.Round
          · skip
            rw [if_pos hc66] at hF
            have hbhc66 : (decide (a2.Round ≠ a4.Round)) = true := decide_eq_true hc66
            refine lv (v := .bool true) rfl (r_mv rfl ((show opd _ _ _ = _ from rfl).trans (congrArg Value.bool hbhc66))) rfl ?_
            with_reducible refine lx (d := 43) (by kernel_rfl) (by kernel_rfl) ?_
            with_reducible refine lx (d := 44) (by kernel_rfl) (by kernel_rfl) ?_
            with_reducible refine lx (d := 45) (by kernel_rfl) (by kernel_rfl) ?_
            with_reducible refine lx (d := 46) (by kernel_rfl) (by kernel_rfl) ?_
            with_reducible refine lx (d := 47) (by kernel_rfl) (by kernel_rfl) ?_
            refine lv (v := .bool true) rfl (r_pkT rfl rfl rfl) rfl ?_
            refine lv (v := .bool true) rfl (r_mv rfl rfl) rfl ?_
            with_reducible refine lx (d := 50) (by kernel_rfl) (by kernel_rfl) ?_
            with_reducible refine lx (d := 51) (by kernel_rfl) (by kernel_rfl) ?_
            with_reducible refine lx (d := 52) (by kernel_rfl) (by kernel_rfl) ?_
            with_reducible refine lx (d := 53) (by kernel_rfl) (by kernel_rfl) ?_
            with_reducible refine lx (d := 54) (by kernel_rfl) (by kernel_rfl) ?_
            refine lv (v := .bool true) rfl (r_pkT rfl rfl rfl) rfl ?_
            refine wend ?_
            refine wthen ?_
            refine wren (fun ρ67 eρ67 => ?_)
            have h68 : opd ρ67 83 (.tmp 5) = .pointer (some ⟨g6, 0 + 0, none⟩) := (eρ67 5).trans h27
            have h69 : opd ρ67 83 (.tmp 7) = .pointer (some ⟨g10, 0 + 0, none⟩) := (eρ67 7).trans h29
            have h70 : opd ρ67 83 (.tmp 9) = .pointer (some ⟨g14, 0 + 0, none⟩) := (eρ67 9).trans h31
            have h71 : opd ρ67 83 (.tmp 55) = .bool true := eρ67 55
            clear eρ67
            refine wcT h71 ?_
            refine wseq ?_
            refine wreg ?_
            refine lv (v := .bool true) rfl (r_as rfl rfl) rfl ?_
            refine wend ?_
            refine wthen ?_
            refine wren (fun ρ72 eρ72 => ?_)
            have h73 : opd ρ72 83 (.tmp 10) = .bool true := eρ72 10
            clear eρ72
            refine wp_ret ?_
            refine thR ?_
            obtain rfl := Option.some.inj hF
            subst hB
            refine finR (rs := [.tmp 10]) (vs := [.bool true]) rfl ⟨h73, trivial⟩ ?_
            exact hI.fin 0 ⟨rfl, rfl⟩
          · skip
            rw [if_neg hc66] at hF
            have hbhc66 : (decide (a2.Round ≠ a4.Round)) = false := decide_eq_false hc66
            refine lv (v := .bool false) rfl (r_mv rfl ((show opd _ _ _ = _ from rfl).trans (congrArg Value.bool hbhc66))) rfl ?_
            refine lv (v := .agg (flat [ckI a0.Epoch, ckL s1]).toArray) rfl (r_cla (off := 0) (p := 0) (m := 2) (hI.good.ca 0 rfl) rfl ag64 h27 rfl rfl) rfl ?_
            refine lv (v := .agg (flat [ckI a1.Epoch, ckI a1.Height, ckV flB a1.Prev, ckV flB a1.State, ckV flB a1.Next, ckL s2]).toArray) rfl (r_cla (off := 0) (p := 0) (m := 6) (hI.good.ca 1 rfl) rfl ag69 h28 rfl rfl) rfl ?_
            refine lv (v := .agg (flat [ckI a2.Round, ckL s3]).toArray) rfl (r_cla (off := 0) (p := 0) (m := 2) (hI.good.ca 2 rfl) rfl ag71 h29 rfl rfl) rfl ?_
            obtain ⟨x74, hx74, hF⟩ := Option.bind_eq_some_iff.1 hF
            have hsp77 := spec_46 hx74 (((hT.mono hleH23).mono hleH35).mono hleH47) (hI.part 0) (((hs1.mono hleH23).mono hleH35).mono hleH47) (((hs2.mono hleH23).mono hleH35).mono hleH47) (((hs3.mono hleH23).mono hleH35).mono hleH47)
            refine fc ([]) ([.cb g6 [ckI a0.Epoch, ckL s1] 64, .cb g8 [ckI a1.Epoch, ckI a1.Height, ckV flB a1.Prev, ckV flB a1.State, ckV flB a1.Next, ckL s2] 69, .cb g10 [ckI a2.Round, ckL s3] 71, .cb g12 [ckI a3.Epoch, ckI a3.Height, ckV flB a3.Prev, ckV flB a3.State, ckV flB a3.Next, ckL s4] 69, .cb g14 [ckI a4.Round, ckL s5] 71]) (args := [.agg (flat [ckI a0.Epoch, ckL s1]).toArray, .agg (flat [ckI a1.Epoch, ckI a1.Height, ckV flB a1.Prev, ckV flB a1.State, ckV flB a1.Next, ckL s2]).toArray, .agg (flat [ckI a2.Round, ckL s3]).toArray]) fc46 rfl rfl rfl hI (argc rfl (argc rfl (argc rfl rfl))) (hsp77) ?_
            rintro _ H75 _ w76 ⟨rfl, rfl⟩ hleH75 hI
            replace hI : Inv B w76 H75 [.cb g6 [ckI a0.Epoch, ckL s1] 64, .cb g8 [ckI a1.Epoch, ckI a1.Height, ckV flB a1.Prev, ckV flB a1.State, ckV flB a1.Next, ckL s2] 69, .cb g10 [ckI a2.Round, ckL s3] 71, .cb g12 [ckI a3.Epoch, ckI a3.Height, ckV flB a3.Prev, ckV flB a3.State, ckV flB a3.Next, ckL s4] 69, .cb g14 [ckI a4.Round, ckL s5] 71] := hI
            refine lv (v := .bool (!x74)) rfl (r_not rfl rfl) rfl ?_
            refine lv (v := .bool (!x74)) rfl (r_pkF rfl rfl rfl) rfl ?_
            by_cases hc78 : x74 = true
            · skip
              rw [if_pos hc78] at hF
              have hbhc78 : (!x74) = false := (by rw [hc78]; rfl)
              refine lv (v := .bool false) rfl (r_mv rfl ((show opd _ _ _ = _ from rfl).trans (congrArg Value.bool hbhc78))) rfl ?_
              refine lv (v := .agg (flat [ckI a0.Epoch, ckL s1]).toArray) rfl (r_cla (off := 0) (p := 0) (m := 2) (hI.good.ca 0 rfl) rfl ag64 h27 rfl rfl) rfl ?_
              refine lv (v := .agg (flat [ckI a3.Epoch, ckI a3.Height, ckV flB a3.Prev, ckV flB a3.State, ckV flB a3.Next, ckL s4]).toArray) rfl (r_cla (off := 0) (p := 0) (m := 6) (hI.good.ca 3 rfl) rfl ag69 h30 rfl rfl) rfl ?_
              refine lv (v := .agg (flat [ckI a4.Round, ckL s5]).toArray) rfl (r_cla (off := 0) (p := 0) (m := 2) (hI.good.ca 4 rfl) rfl ag71 h31 rfl rfl) rfl ?_
              obtain ⟨x79, hx79, hF⟩ := Option.bind_eq_some_iff.1 hF
              have hsp82 := spec_46 hx79 ((((hT.mono hleH23).mono hleH35).mono hleH47).mono hleH75) (hI.part 0) ((((hs1.mono hleH23).mono hleH35).mono hleH47).mono hleH75) ((((hs4.mono hleH23).mono hleH35).mono hleH47).mono hleH75) ((((hs5.mono hleH23).mono hleH35).mono hleH47).mono hleH75)
              refine fc ([]) ([.cb g6 [ckI a0.Epoch, ckL s1] 64, .cb g8 [ckI a1.Epoch, ckI a1.Height, ckV flB a1.Prev, ckV flB a1.State, ckV flB a1.Next, ckL s2] 69, .cb g10 [ckI a2.Round, ckL s3] 71, .cb g12 [ckI a3.Epoch, ckI a3.Height, ckV flB a3.Prev, ckV flB a3.State, ckV flB a3.Next, ckL s4] 69, .cb g14 [ckI a4.Round, ckL s5] 71]) (args := [.agg (flat [ckI a0.Epoch, ckL s1]).toArray, .agg (flat [ckI a3.Epoch, ckI a3.Height, ckV flB a3.Prev, ckV flB a3.State, ckV flB a3.Next, ckL s4]).toArray, .agg (flat [ckI a4.Round, ckL s5]).toArray]) fc46 rfl rfl rfl hI (argc rfl (argc rfl (argc rfl rfl))) (hsp82) ?_
              rintro _ H80 _ w81 ⟨rfl, rfl⟩ hleH80 hI
              replace hI : Inv B w81 H80 [.cb g6 [ckI a0.Epoch, ckL s1] 64, .cb g8 [ckI a1.Epoch, ckI a1.Height, ckV flB a1.Prev, ckV flB a1.State, ckV flB a1.Next, ckL s2] 69, .cb g10 [ckI a2.Round, ckL s3] 71, .cb g12 [ckI a3.Epoch, ckI a3.Height, ckV flB a3.Prev, ckV flB a3.State, ckV flB a3.Next, ckL s4] 69, .cb g14 [ckI a4.Round, ckL s5] 71] := hI
              refine lv (v := .bool (!x79)) rfl (r_not rfl rfl) rfl ?_
              refine lv (v := .bool (!x79)) rfl (r_pkF rfl rfl rfl) rfl ?_
              refine wend ?_
              refine wthen ?_
              refine wren (fun ρ83 eρ83 => ?_)
              have h84 : opd ρ83 83 (.tmp 5) = .pointer (some ⟨g6, 0 + 0, none⟩) := (eρ83 5).trans h27
              have h85 : opd ρ83 83 (.tmp 7) = .pointer (some ⟨g10, 0 + 0, none⟩) := (eρ83 7).trans h29
              have h86 : opd ρ83 83 (.tmp 9) = .pointer (some ⟨g14, 0 + 0, none⟩) := (eρ83 9).trans h31
              have h87 : opd ρ83 83 (.tmp 55) = .bool (!x79) := eρ83 55
              clear eρ83
              by_cases hc88 : x79 = true
              · skip
                rw [if_pos hc88] at hF
                have hbhc88 : (!x79) = false := (by rw [hc88]; rfl)
                refine wcF (h87.trans (congrArg Value.bool hbhc88)) ?_
                refine wp_skip ?_
                refine wthen ?_
                refine wseq ?_
                refine wreg ?_
                refine lv (v := .int .i64 0) rfl (r_as rfl rfl) rfl ?_
                refine wend ?_
                refine wthen ?_
                refine wren (fun ρ89 eρ89 => ?_)
                have h90 : opd ρ89 83 (.tmp 5) = .pointer (some ⟨g6, 0 + 0, none⟩) := (eρ89 5).trans h84
                have h91 : opd ρ89 83 (.tmp 7) = .pointer (some ⟨g10, 0 + 0, none⟩) := (eρ89 7).trans h85
                have h92 : opd ρ89 83 (.tmp 9) = .pointer (some ⟨g14, 0 + 0, none⟩) := (eρ89 9).trans h86
                have h93 : opd ρ89 83 (.tmp 11) = .int .i64 0 := eρ89 11
                clear eρ89
                refine wseq ?_
                refine wseq ?_
                refine wreg ?_
                refine lv (v := .pointer (some ⟨g10, 0 + 1, none⟩)) rfl (l_fa (j := 0) (i := 0) rfl fl71_1 h91 rfl) rfl ?_
                refine lv (v := s3.v) rfl (r_cl1 (off := 1) (p := 1) (hI.good.ca 2 rfl) rfl sc22 rfl rfl rfl) rfl ?_
                refine lv (v := .int .i64 (a2.Votes.length : Int)) rfl (r_lenS rfl sl22 rfl (((((hs3.mono hleH23).mono hleH35).mono hleH47).mono hleH75).mono hleH80)) rfl ?_
                refine lv (v := .int .i64 0) rfl (r_mv rfl rfl) rfl ?_
                refine wend ?_
                refine wthen ?_
                refine wren (fun ρ94 eρ94 => ?_)
                have h95 : opd ρ94 83 (.tmp 5) = .pointer (some ⟨g6, 0 + 0, none⟩) := (eρ94 5).trans h90
                have h96 : opd ρ94 83 (.tmp 9) = .pointer (some ⟨g14, 0 + 0, none⟩) := (eρ94 9).trans h92
                have h97 : opd ρ94 83 (.tmp 11) = .int .i64 0 := (eρ94 11).trans h93
                have h98 : opd ρ94 83 (.tmp 57) = s3.v := eρ94 57
                have h99 : opd ρ94 83 (.tmp 58) = .int .i64 (a2.Votes.length : Int) := eρ94 58
                have h100 : opd ρ94 83 (.tmp 59) = .int .i64 0 := eρ94 59
                clear eρ94
                refine wp_block ?_
                have hbd101 := ((((((hs3.mono hleH23).mono hleH35).mono hleH47).mono hleH75).mono hleH80)).bd
                rw [((((((hs3.mono hleH23).mono hleH35).mono hleH47).mono hleH75).mono hleH80)).n] at hbd101
                obtain ⟨y101, hy101, hF101⟩ := Option.bind_eq_some_iff.1 hF
                refine wfor (n := 83) a2.Votes.length _ (fun (i101 : Nat) (σ101 : Int) ρ' w' => ∃ (H600 : Hp), Hle H80 H600 ∧ opd ρ' 83 (.tmp 5) = .pointer (some ⟨g6, 0 + 0, none⟩) ∧ opd ρ' 83 (.tmp 9) = .pointer (some ⟨g14, 0 + 0, none⟩) ∧ opd ρ' 83 (.tmp 11) = .int .i64 σ101 ∧ opd ρ' 83 (.tmp 57) = s3.v ∧ opd ρ' 83 (.tmp 58) = .int .i64 (a2.Votes.length : Int) ∧ opd ρ' 83 (.tmp 59) = .int .i64 (i101 : Int) ∧ Inv B w' H600 [.cb g6 [ckI a0.Epoch, ckL s1] 64, .cb g14 [ckI a4.Round, ckL s5] 71]) hy101 ⟨H80, (Hle.refl _), h95, h96, h97, h98, h99, h100, (hI.keep [true, false, false, false, true])⟩ ?_
                rintro k101 i101 σ101 ρ607 w608 hk101 ⟨H600, hleH600, h601, h602, h603, h604, h605, h606, hI⟩ hy101
                refine wseq ?_
                refine wreg ?_
                refine lv (v := .bool (decide ((i101 : Int) < (a2.Votes.length : Int)))) rfl (r_lss rfl h606 h605 rfl) rfl ?_
                refine wend ?_
                refine wthen ?_
                refine wseq ?_
                by_cases hc609 : (i101 : Int) < (a2.Votes.length : Int)
                · skip
                  have hbhc609 : (decide ((i101 : Int) < (a2.Votes.length : Int))) = true := decide_eq_true hc609
                  obtain ⟨k101, rfl⟩ : ∃ m, k101 = m + 1 := ⟨k101 - 1, by omega⟩
                  obtain ⟨z101, hb101⟩ := forK_body hy101
                  have hF := hb101
                  have hlt101 : ((i101 : Nat) : Int) + 1 ≤ 9223372036854775807 := by omega
                  refine wcT ((show opd _ _ _ = _ from rfl).trans (congrArg Value.bool hbhc609)) ?_
                  refine wp_skip ?_
                  refine wthen ?_
                  refine wren (fun ρ610 eρ610 => ?_)
                  have h611 : opd ρ610 83 (.tmp 5) = .pointer (some ⟨g6, 0 + 0, none⟩) := (eρ610 5).trans h601
                  have h612 : opd ρ610 83 (.tmp 9) = .pointer (some ⟨g14, 0 + 0, none⟩) := (eρ610 9).trans h602
                  have h613 : opd ρ610 83 (.tmp 11) = .int .i64 σ101 := (eρ610 11).trans h603
                  have h614 : opd ρ610 83 (.tmp 57) = s3.v := (eρ610 57).trans h604
                  have h615 : opd ρ610 83 (.tmp 58) = .int .i64 (a2.Votes.length : Int) := (eρ610 58).trans h605
                  have h616 : opd ρ610 83 (.tmp 59) = .int .i64 (i101 : Int) := (eρ610 59).trans h606
                  clear eρ610
                  refine wseq ?_
                  refine wp_block ?_
                  refine wseq ?_
                  refine wreg ?_
                  obtain ⟨x617, hx617, hF⟩ := Option.bind_eq_some_iff.1 hF
                  obtain ⟨b618, j619, _, hix620, hil621, ⟨s623, s624, s625, rfl, hs623, hs624, hs625⟩, hA622⟩ := ((((((hs3.mono hleH23).mono hleH35).mono hleH47).mono hleH75).mono hleH80).mono hleH600).ix hx617
                  replace hA622 : At H600 b618 j619 [ckI x617.Kind, ckI x617.Epoch, ckI x617.Height, ckI x617.Round, ckV flB x617.Digest, ckI x617.From, ckI x617.Sig.Leaf, ckL s623, ckL s624, ckL s625] := hA622
                  refine lv (v := .pointer (some ⟨b618, j619 + 0, none⟩)) rfl (r_ixt rfl sl22 h614 h616 rfl hix620 hil621) rfl ?_
                  refine lv (v := .agg (flat [ckI x617.Kind, ckI x617.Epoch, ckI x617.Height, ckI x617.Round, ckV flB x617.Digest, ckI x617.From, ckI x617.Sig.Leaf, ckL s623, ckL s624, ckL s625]).toArray) rfl (r_cla (off := 0) (p := 0) (m := 10) (hA622.ca hI.good) rfl ag35 rfl rfl rfl) rfl ?_
                  refine le rfl (l_al hI rfl ze35) rfl ?_
                  rintro _ w627 ⟨g626, rfl, hI⟩
                  replace hI : Inv B w627 H600 [.cb g6 [ckI a0.Epoch, ckL s1] 64, .cb g14 [ckI a4.Round, ckL s5] 71, .cb g626 [ckI 0, ckI 0, ckI 0, ckI 0, ckV flB (Vec.rep 32 0), ckI 0, ckI 0, ckL Sv.nil, ckL Sv.nil, ckL Sv.nil] 35] := hI
                  refine lst rfl (l_st (off := 0) (p := 0) (m := 10) (new := [ckI x617.Kind, ckI x617.Epoch, ckI x617.Height, ckI x617.Round, ckV flB x617.Digest, ckI x617.From, ckI x617.Sig.Leaf, ckL s623, ckL s624, ckL s625]) hI 2 rfl rfl sz35 rfl rfl rfl rfl rfl rfl) rfl ?_
                  intro w628 hI
                  replace hI : Inv B w628 H600 [.cb g6 [ckI a0.Epoch, ckL s1] 64, .cb g14 [ckI a4.Round, ckL s5] 71, .cb g626 [ckI x617.Kind, ckI x617.Epoch, ckI x617.Height, ckI x617.Round, ckV flB x617.Digest, ckI x617.From, ckI x617.Sig.Leaf, ckL s623, ckL s624, ckL s625] 35] := hI
                  refine wend ?_
                  refine wthen ?_
                  refine wren (fun ρ629 eρ629 => ?_)
                  have h630 : opd ρ629 83 (.tmp 5) = .pointer (some ⟨g6, 0 + 0, none⟩) := (eρ629 5).trans h611
                  have h631 : opd ρ629 83 (.tmp 9) = .pointer (some ⟨g14, 0 + 0, none⟩) := (eρ629 9).trans h612
                  have h632 : opd ρ629 83 (.tmp 11) = .int .i64 σ101 := (eρ629 11).trans h613
                  have h633 : opd ρ629 83 (.tmp 13) = .pointer (some ⟨g626, 0 + 0, none⟩) := eρ629 13
                  have h634 : opd ρ629 83 (.tmp 57) = s3.v := (eρ629 57).trans h614
                  have h635 : opd ρ629 83 (.tmp 58) = .int .i64 (a2.Votes.length : Int) := (eρ629 58).trans h615
                  have h636 : opd ρ629 83 (.tmp 59) = .int .i64 (i101 : Int) := (eρ629 59).trans h616
                  clear eρ629
                  refine wseq ?_
                  refine wreg ?_
                  refine lv (v := .pointer (some ⟨g14, 0 + 1, none⟩)) rfl (l_fa (j := 0) (i := 0) rfl fl71_1 h631 rfl) rfl ?_
                  refine lv (v := s5.v) rfl (r_cl1 (off := 1) (p := 1) (hI.good.ca 1 rfl) rfl sc22 rfl rfl rfl) rfl ?_
                  refine lv (v := .int .i64 (a4.Votes.length : Int)) rfl (r_lenS rfl sl22 rfl ((((((hs5.mono hleH23).mono hleH35).mono hleH47).mono hleH75).mono hleH80).mono hleH600)) rfl ?_
                  refine lv (v := .int .i64 0) rfl (r_mv rfl rfl) rfl ?_
                  refine wend ?_
                  refine wthen ?_
                  refine wren (fun ρ637 eρ637 => ?_)
                  have h638 : opd ρ637 83 (.tmp 5) = .pointer (some ⟨g6, 0 + 0, none⟩) := (eρ637 5).trans h630
                  have h639 : opd ρ637 83 (.tmp 9) = .pointer (some ⟨g14, 0 + 0, none⟩) := (eρ637 9).trans h631
                  have h640 : opd ρ637 83 (.tmp 11) = .int .i64 σ101 := (eρ637 11).trans h632
                  have h641 : opd ρ637 83 (.tmp 13) = .pointer (some ⟨g626, 0 + 0, none⟩) := (eρ637 13).trans h633
                  have h642 : opd ρ637 83 (.tmp 57) = s3.v := (eρ637 57).trans h634
                  have h643 : opd ρ637 83 (.tmp 58) = .int .i64 (a2.Votes.length : Int) := (eρ637 58).trans h635
                  have h644 : opd ρ637 83 (.tmp 59) = .int .i64 (i101 : Int) := (eρ637 59).trans h636
                  have h645 : opd ρ637 83 (.tmp 64) = s5.v := eρ637 64
                  have h646 : opd ρ637 83 (.tmp 65) = .int .i64 (a4.Votes.length : Int) := eρ637 65
                  have h647 : opd ρ637 83 (.tmp 66) = .int .i64 0 := eρ637 66
                  clear eρ637
                  refine wp_block ?_
                  have hbd648 := (((((((hs5.mono hleH23).mono hleH35).mono hleH47).mono hleH75).mono hleH80).mono hleH600)).bd
                  rw [(((((((hs5.mono hleH23).mono hleH35).mono hleH47).mono hleH75).mono hleH80).mono hleH600)).n] at hbd648
                  obtain ⟨y648, hy648, hF648⟩ := Option.bind_eq_some_iff.1 hF
                  refine wfor (n := 83) a4.Votes.length _ (fun (i648 : Nat) (σ648 : Int) ρ' w' => ∃ (H775 : Hp), Hle H600 H775 ∧ opd ρ' 83 (.tmp 5) = .pointer (some ⟨g6, 0 + 0, none⟩) ∧ opd ρ' 83 (.tmp 9) = .pointer (some ⟨g14, 0 + 0, none⟩) ∧ opd ρ' 83 (.tmp 11) = .int .i64 σ648 ∧ opd ρ' 83 (.tmp 13) = .pointer (some ⟨g626, 0 + 0, none⟩) ∧ opd ρ' 83 (.tmp 57) = s3.v ∧ opd ρ' 83 (.tmp 58) = .int .i64 (a2.Votes.length : Int) ∧ opd ρ' 83 (.tmp 59) = .int .i64 (i101 : Int) ∧ opd ρ' 83 (.tmp 64) = s5.v ∧ opd ρ' 83 (.tmp 65) = .int .i64 (a4.Votes.length : Int) ∧ opd ρ' 83 (.tmp 66) = .int .i64 (i648 : Int) ∧ Inv B w' H775 [.cb g6 [ckI a0.Epoch, ckL s1] 64, .cb g14 [ckI a4.Round, ckL s5] 71, .cb g626 [ckI x617.Kind, ckI x617.Epoch, ckI x617.Height, ckI x617.Round, ckV flB x617.Digest, ckI x617.From, ckI x617.Sig.Leaf, ckL s623, ckL s624, ckL s625] 35]) hy648 ⟨H600, (Hle.refl _), h638, h639, h640, h641, h642, h643, h644, h645, h646, h647, hI⟩ ?_
                  rintro k648 i648 σ648 ρ786 w787 hk648 ⟨H775, hleH775, h776, h777, h778, h779, h780, h781, h782, h783, h784, h785, hI⟩ hy648
                  refine wseq ?_
                  refine wreg ?_
                  refine lv (v := .bool (decide ((i648 : Int) < (a4.Votes.length : Int)))) rfl (r_lss rfl h785 h784 rfl) rfl ?_
                  refine wend ?_
                  refine wthen ?_
                  refine wseq ?_
                  by_cases hc788 : (i648 : Int) < (a4.Votes.length : Int)
                  · skip
                    have hbhc788 : (decide ((i648 : Int) < (a4.Votes.length : Int))) = true := decide_eq_true hc788
                    obtain ⟨k648, rfl⟩ : ∃ m, k648 = m + 1 := ⟨k648 - 1, by omega⟩
                    obtain ⟨z648, hb648⟩ := forK_body hy648
                    have hF := hb648
                    have hlt648 : ((i648 : Nat) : Int) + 1 ≤ 9223372036854775807 := by omega
                    refine wcT ((show opd _ _ _ = _ from rfl).trans (congrArg Value.bool hbhc788)) ?_
                    refine wp_skip ?_
                    refine wthen ?_
                    refine wren (fun ρ789 eρ789 => ?_)
                    have h790 : opd ρ789 83 (.tmp 5) = .pointer (some ⟨g6, 0 + 0, none⟩) := (eρ789 5).trans h776
                    have h791 : opd ρ789 83 (.tmp 9) = .pointer (some ⟨g14, 0 + 0, none⟩) := (eρ789 9).trans h777
                    have h792 : opd ρ789 83 (.tmp 11) = .int .i64 σ648 := (eρ789 11).trans h778
                    have h793 : opd ρ789 83 (.tmp 13) = .pointer (some ⟨g626, 0 + 0, none⟩) := (eρ789 13).trans h779
                    have h794 : opd ρ789 83 (.tmp 57) = s3.v := (eρ789 57).trans h780
                    have h795 : opd ρ789 83 (.tmp 58) = .int .i64 (a2.Votes.length : Int) := (eρ789 58).trans h781
                    have h796 : opd ρ789 83 (.tmp 59) = .int .i64 (i101 : Int) := (eρ789 59).trans h782
                    have h797 : opd ρ789 83 (.tmp 64) = s5.v := (eρ789 64).trans h783
                    have h798 : opd ρ789 83 (.tmp 65) = .int .i64 (a4.Votes.length : Int) := (eρ789 65).trans h784
                    have h799 : opd ρ789 83 (.tmp 66) = .int .i64 (i648 : Int) := (eρ789 66).trans h785
                    clear eρ789
                    refine wseq ?_
                    refine wp_block ?_
                    refine wseq ?_
                    refine wreg ?_
                    obtain ⟨x800, hx800, hF⟩ := Option.bind_eq_some_iff.1 hF
                    obtain ⟨b801, j802, _, hix803, hil804, ⟨s806, s807, s808, rfl, hs806, hs807, hs808⟩, hA805⟩ := (((((((hs5.mono hleH23).mono hleH35).mono hleH47).mono hleH75).mono hleH80).mono hleH600).mono hleH775).ix hx800
                    replace hA805 : At H775 b801 j802 [ckI x800.Kind, ckI x800.Epoch, ckI x800.Height, ckI x800.Round, ckV flB x800.Digest, ckI x800.From, ckI x800.Sig.Leaf, ckL s806, ckL s807, ckL s808] := hA805
                    refine lv (v := .pointer (some ⟨b801, j802 + 0, none⟩)) rfl (r_ixt rfl sl22 h797 h799 rfl hix803 hil804) rfl ?_
                    refine lv (v := .agg (flat [ckI x800.Kind, ckI x800.Epoch, ckI x800.Height, ckI x800.Round, ckV flB x800.Digest, ckI x800.From, ckI x800.Sig.Leaf, ckL s806, ckL s807, ckL s808]).toArray) rfl (r_cla (off := 0) (p := 0) (m := 10) (hA805.ca hI.good) rfl ag35 rfl rfl rfl) rfl ?_
                    refine le rfl (l_al hI rfl ze35) rfl ?_
                    rintro _ w810 ⟨g809, rfl, hI⟩
                    replace hI : Inv B w810 H775 [.cb g6 [ckI a0.Epoch, ckL s1] 64, .cb g14 [ckI a4.Round, ckL s5] 71, .cb g626 [ckI x617.Kind, ckI x617.Epoch, ckI x617.Height, ckI x617.Round, ckV flB x617.Digest, ckI x617.From, ckI x617.Sig.Leaf, ckL s623, ckL s624, ckL s625] 35, .cb g809 [ckI 0, ckI 0, ckI 0, ckI 0, ckV flB (Vec.rep 32 0), ckI 0, ckI 0, ckL Sv.nil, ckL Sv.nil, ckL Sv.nil] 35] := hI
                    refine lst rfl (l_st (off := 0) (p := 0) (m := 10) (new := [ckI x800.Kind, ckI x800.Epoch, ckI x800.Height, ckI x800.Round, ckV flB x800.Digest, ckI x800.From, ckI x800.Sig.Leaf, ckL s806, ckL s807, ckL s808]) hI 3 rfl rfl sz35 rfl rfl rfl rfl rfl rfl) rfl ?_
                    intro w811 hI
                    replace hI : Inv B w811 H775 [.cb g6 [ckI a0.Epoch, ckL s1] 64, .cb g14 [ckI a4.Round, ckL s5] 71, .cb g626 [ckI x617.Kind, ckI x617.Epoch, ckI x617.Height, ckI x617.Round, ckV flB x617.Digest, ckI x617.From, ckI x617.Sig.Leaf, ckL s623, ckL s624, ckL s625] 35, .cb g809 [ckI x800.Kind, ckI x800.Epoch, ckI x800.Height, ckI x800.Round, ckV flB x800.Digest, ckI x800.From, ckI x800.Sig.Leaf, ckL s806, ckL s807, ckL s808] 35] := hI
                    refine wend ?_
                    refine wthen ?_
                    refine wren (fun ρ812 eρ812 => ?_)
                    have h813 : opd ρ812 83 (.tmp 5) = .pointer (some ⟨g6, 0 + 0, none⟩) := (eρ812 5).trans h790
                    have h814 : opd ρ812 83 (.tmp 9) = .pointer (some ⟨g14, 0 + 0, none⟩) := (eρ812 9).trans h791
                    have h815 : opd ρ812 83 (.tmp 11) = .int .i64 σ648 := (eρ812 11).trans h792
                    have h816 : opd ρ812 83 (.tmp 13) = .pointer (some ⟨g626, 0 + 0, none⟩) := (eρ812 13).trans h793
                    have h817 : opd ρ812 83 (.tmp 15) = .pointer (some ⟨g809, 0 + 0, none⟩) := eρ812 15
                    have h818 : opd ρ812 83 (.tmp 57) = s3.v := (eρ812 57).trans h794
                    have h819 : opd ρ812 83 (.tmp 58) = .int .i64 (a2.Votes.length : Int) := (eρ812 58).trans h795
                    have h820 : opd ρ812 83 (.tmp 59) = .int .i64 (i101 : Int) := (eρ812 59).trans h796
                    have h821 : opd ρ812 83 (.tmp 64) = s5.v := (eρ812 64).trans h797
                    have h822 : opd ρ812 83 (.tmp 65) = .int .i64 (a4.Votes.length : Int) := (eρ812 65).trans h798
                    have h823 : opd ρ812 83 (.tmp 66) = .int .i64 (i648 : Int) := (eρ812 66).trans h799
                    clear eρ812
                    refine wseq ?_
                    refine wreg ?_
                    refine lv (v := .pointer (some ⟨g809, 0 + 36, none⟩)) rfl (l_fa (j := 0) (i := 0) rfl fl35_5 h817 rfl) rfl ?_
                    refine lv (v := .int .i64 x800.From) rfl (r_cl1 (off := 36) (p := 5) (hI.good.ca 3 rfl) rfl sc3 rfl rfl rfl) rfl ?_
                    refine lv (v := .pointer (some ⟨g626, 0 + 36, none⟩)) rfl (l_fa (j := 0) (i := 0) rfl fl35_5 h816 rfl) rfl ?_
                    refine lv (v := .int .i64 x617.From) rfl (r_cl1 (off := 36) (p := 5) (hI.good.ca 2 rfl) rfl sc3 rfl rfl rfl) rfl ?_
                    refine lv (v := .bool (decide (x800.From = x617.From))) rfl (r_eql rfl rfl rfl rfl) rfl ?_
                    refine wend ?_
                    refine wthen ?_
                    refine wren (fun ρ824 eρ824 => ?_)
                    have h825 : opd ρ824 83 (.tmp 5) = .pointer (some ⟨g6, 0 + 0, none⟩) := (eρ824 5).trans h813
                    have h826 : opd ρ824 83 (.tmp 9) = .pointer (some ⟨g14, 0 + 0, none⟩) := (eρ824 9).trans h814
                    have h827 : opd ρ824 83 (.tmp 11) = .int .i64 σ648 := (eρ824 11).trans h815
                    have h828 : opd ρ824 83 (.tmp 13) = .pointer (some ⟨g626, 0 + 0, none⟩) := (eρ824 13).trans h816
                    have h829 : opd ρ824 83 (.tmp 57) = s3.v := (eρ824 57).trans h818
                    have h830 : opd ρ824 83 (.tmp 58) = .int .i64 (a2.Votes.length : Int) := (eρ824 58).trans h819
                    have h831 : opd ρ824 83 (.tmp 59) = .int .i64 (i101 : Int) := (eρ824 59).trans h820
                    have h832 : opd ρ824 83 (.tmp 64) = s5.v := (eρ824 64).trans h821
                    have h833 : opd ρ824 83 (.tmp 65) = .int .i64 (a4.Votes.length : Int) := (eρ824 65).trans h822
                    have h834 : opd ρ824 83 (.tmp 66) = .int .i64 (i648 : Int) := (eρ824 66).trans h823
                    have h835 : opd ρ824 83 (.tmp 74) = .bool (decide (x800.From = x617.From)) := eρ824 74
                    clear eρ824
                    by_cases hc836 : x800.From = x617.From
                    · skip
                      rw [if_pos hc836] at hF
                      have hbhc836 : (decide (x800.From = x617.From)) = true := decide_eq_true hc836
                      refine wcT (h835.trans (congrArg Value.bool hbhc836)) ?_
                      refine wreg ?_
                      refine lv (v := .int .i64 σ648) rfl (r_mv rfl h827) rfl ?_
                      refine lv (v := .int .i64 (wI (σ648 + 1))) rfl (r_addw rfl rfl rfl) rfl ?_
                      refine lv (v := .int .i64 (wI (σ648 + 1))) rfl (r_as rfl rfl) rfl ?_
                      refine wend ?_
                      refine inN ?_
                      refine wthen ?_
                      refine wren (fun ρ837 eρ837 => ?_)
                      have h838 : opd ρ837 83 (.tmp 5) = .pointer (some ⟨g6, 0 + 0, none⟩) := (eρ837 5).trans h825
                      have h839 : opd ρ837 83 (.tmp 9) = .pointer (some ⟨g14, 0 + 0, none⟩) := (eρ837 9).trans h826
                      have h840 : opd ρ837 83 (.tmp 11) = .int .i64 (wI (σ648 + 1)) := eρ837 11
                      have h841 : opd ρ837 83 (.tmp 13) = .pointer (some ⟨g626, 0 + 0, none⟩) := (eρ837 13).trans h828
                      have h842 : opd ρ837 83 (.tmp 57) = s3.v := (eρ837 57).trans h829
                      have h843 : opd ρ837 83 (.tmp 58) = .int .i64 (a2.Votes.length : Int) := (eρ837 58).trans h830
                      have h844 : opd ρ837 83 (.tmp 59) = .int .i64 (i101 : Int) := (eρ837 59).trans h831
                      have h845 : opd ρ837 83 (.tmp 64) = s5.v := (eρ837 64).trans h832
                      have h846 : opd ρ837 83 (.tmp 65) = .int .i64 (a4.Votes.length : Int) := (eρ837 65).trans h833
                      have h847 : opd ρ837 83 (.tmp 66) = .int .i64 (i648 : Int) := (eρ837 66).trans h834
                      clear eρ837
                      refine wreg ?_
                      refine lv (v := .int .i64 ((i648 + 1 : Nat) : Int)) rfl (r_addn rfl h847 rfl hlt648) rfl ?_
                      refine lv (v := .int .i64 ((i648 + 1 : Nat) : Int)) rfl (r_mv rfl rfl) rfl ?_
                      refine wend ?_
                      obtain rfl := Option.some.inj hF
                      exact ⟨k648, (wI (σ648 + 1)), _, rfl, rfl, ⟨H775, hleH775, h838, h839, h840, h841, h842, h843, h844, h845, h846, rfl, (hI.keep [true, true, true, false])⟩, forK_inl hy648 hb648⟩
                    · skip
                      rw [if_neg hc836] at hF
                      have hbhc836 : (decide (x800.From = x617.From)) = false := decide_eq_false hc836
                      refine wcF (h835.trans (congrArg Value.bool hbhc836)) ?_
                      refine wp_skip ?_
                      refine inN ?_
                      refine wthen ?_
                      refine wreg ?_
                      refine lv (v := .int .i64 ((i648 + 1 : Nat) : Int)) rfl (r_addn rfl h834 rfl hlt648) rfl ?_
                      refine lv (v := .int .i64 ((i648 + 1 : Nat) : Int)) rfl (r_mv rfl rfl) rfl ?_
                      refine wend ?_
                      obtain rfl := Option.some.inj hF
                      exact ⟨k648, σ648, _, rfl, rfl, ⟨H775, hleH775, h825, h826, h827, h828, h829, h830, h831, h832, h833, rfl, (hI.keep [true, true, true, false])⟩, forK_inl hy648 hb648⟩
                  · skip
                    have hbhc788 : (decide ((i648 : Int) < (a4.Votes.length : Int))) = false := decide_eq_false hc788
                    obtain rfl : k648 = 0 := by omega
                    obtain rfl := forK_end hy648
                    have hF := hF648
                    try dsimp only at hF
                    refine wcF ((show opd _ _ _ = _ from rfl).trans (congrArg Value.bool hbhc788)) ?_
                    refine wp_exit ?_
                    refine thE ?_
                    refine thE ?_
                    refine inX ?_
                    refine inN ?_
                    refine wthen ?_
                    refine wren (fun ρ848 eρ848 => ?_)
                    have h849 : opd ρ848 83 (.tmp 5) = .pointer (some ⟨g6, 0 + 0, none⟩) := (eρ848 5).trans h776
                    have h850 : opd ρ848 83 (.tmp 9) = .pointer (some ⟨g14, 0 + 0, none⟩) := (eρ848 9).trans h777
                    have h851 : opd ρ848 83 (.tmp 11) = .int .i64 σ648 := (eρ848 11).trans h778
                    have h852 : opd ρ848 83 (.tmp 57) = s3.v := (eρ848 57).trans h780
                    have h853 : opd ρ848 83 (.tmp 58) = .int .i64 (a2.Votes.length : Int) := (eρ848 58).trans h781
                    have h854 : opd ρ848 83 (.tmp 59) = .int .i64 (i101 : Int) := (eρ848 59).trans h782
                    clear eρ848
                    refine wreg ?_
                    refine lv (v := .int .i64 ((i101 + 1 : Nat) : Int)) rfl (r_addn rfl h854 rfl hlt101) rfl ?_
                    refine lv (v := .int .i64 ((i101 + 1 : Nat) : Int)) rfl (r_mv rfl rfl) rfl ?_
                    refine wend ?_
                    obtain rfl := Option.some.inj hF
                    exact ⟨k101, σ648, _, rfl, rfl, ⟨H775, (hleH600.trans hleH775), h849, h850, h851, h852, h853, rfl, (hI.keep [true, true, false])⟩, forK_inl hy101 hb101⟩
                · skip
                  have hbhc609 : (decide ((i101 : Int) < (a2.Votes.length : Int))) = false := decide_eq_false hc609
                  obtain rfl : k101 = 0 := by omega
                  obtain rfl := forK_end hy101
                  have hF := hF101
                  try dsimp only at hF
                  refine wcF ((show opd _ _ _ = _ from rfl).trans (congrArg Value.bool hbhc609)) ?_
                  refine wp_exit ?_
                  refine thE ?_
                  refine thE ?_
                  refine inX ?_
                  refine wthen ?_
                  refine wren (fun ρ855 eρ855 => ?_)
                  have h856 : opd ρ855 83 (.tmp 5) = .pointer (some ⟨g6, 0 + 0, none⟩) := (eρ855 5).trans h601
                  have h857 : opd ρ855 83 (.tmp 11) = .int .i64 σ101 := (eρ855 11).trans h603
                  clear eρ855
                  refine wseq ?_
                  refine wreg ?_
                  refine lv (v := .int .i64 σ101) rfl (r_mv rfl h857) rfl ?_
                  refine lv (v := .agg (flat [ckI a0.Epoch, ckL s1]).toArray) rfl (r_cla (off := 0) (p := 0) (m := 2) (hI.good.ca 0 rfl) rfl ag64 h856 rfl rfl) rfl ?_
                  obtain ⟨x858, hx858, hF⟩ := Option.bind_eq_some_iff.1 hF
                  have hsp861 := spec_51 hx858 ((((((hT.mono hleH23).mono hleH35).mono hleH47).mono hleH75).mono hleH80).mono hleH600) (hI.part 0) ((((((hs1.mono hleH23).mono hleH35).mono hleH47).mono hleH75).mono hleH80).mono hleH600)
                  refine fc ([]) ([.cb g6 [ckI a0.Epoch, ckL s1] 64, .cb g14 [ckI a4.Round, ckL s5] 71]) (args := [.agg (flat [ckI a0.Epoch, ckL s1]).toArray]) fc51 rfl rfl rfl hI (argc rfl rfl) (hsp861) ?_
                  rintro _ H859 _ w860 ⟨rfl, rfl⟩ hleH859 hI
                  replace hI : Inv B w860 H859 [.cb g6 [ckI a0.Epoch, ckL s1] 64, .cb g14 [ckI a4.Round, ckL s5] 71] := hI
                  refine lv (v := .bool (decide (x858 ≤ σ101))) rfl (r_geq rfl rfl rfl rfl) rfl ?_
                  refine lv (v := .bool (decide (x858 ≤ σ101))) rfl (r_as rfl rfl) rfl ?_
                  refine wend ?_
                  refine wthen ?_
                  refine wren (fun ρ862 eρ862 => ?_)
                  have h863 : opd ρ862 83 (.tmp 10) = .bool (decide (x858 ≤ σ101)) := eρ862 10
                  clear eρ862
                  refine wp_ret ?_
                  obtain rfl := Option.some.inj hF
                  subst hB
                  refine finR (rs := [.tmp 10]) (vs := [.bool (decide (x858 ≤ σ101))]) rfl ⟨h863, trivial⟩ ?_
                  exact hI.fin 0 ⟨rfl, rfl⟩
              · skip
                rw [if_neg hc88] at hF
                have hbhc88 : (!x79) = true := (by rw [(Bool.eq_false_iff.2 hc88)]; rfl)
                refine wcT (h87.trans (congrArg Value.bool hbhc88)) ?_
                refine wseq ?_
                refine wreg ?_
                refine lv (v := .bool true) rfl (r_as rfl rfl) rfl ?_
                refine wend ?_
                refine wthen ?_
                refine wren (fun ρ864 eρ864 => ?_)
                have h865 : opd ρ864 83 (.tmp 10) = .bool true := eρ864 10
                clear eρ864
                refine wp_ret ?_
                refine thR ?_
                obtain rfl := Option.some.inj hF
                subst hB
                refine finR (rs := [.tmp 10]) (vs := [.bool true]) rfl ⟨h865, trivial⟩ ?_
                exact hI.fin 0 ⟨rfl, rfl⟩
            · skip
              rw [if_neg hc78] at hF
              have hbhc78 : (!x74) = true := (by rw [(Bool.eq_false_iff.2 hc78)]; rfl)
              refine lv (v := .bool true) rfl (r_mv rfl ((show opd _ _ _ = _ from rfl).trans (congrArg Value.bool hbhc78))) rfl ?_
              with_reducible refine lx (d := 50) (by kernel_rfl) (by kernel_rfl) ?_
              with_reducible refine lx (d := 51) (by kernel_rfl) (by kernel_rfl) ?_
              with_reducible refine lx (d := 52) (by kernel_rfl) (by kernel_rfl) ?_
              with_reducible refine lx (d := 53) (by kernel_rfl) (by kernel_rfl) ?_
              with_reducible refine lx (d := 54) (by kernel_rfl) (by kernel_rfl) ?_
              refine lv (v := .bool true) rfl (r_pkT rfl rfl rfl) rfl ?_
              refine wend ?_
              refine wthen ?_
              refine wren (fun ρ866 eρ866 => ?_)
              have h867 : opd ρ866 83 (.tmp 5) = .pointer (some ⟨g6, 0 + 0, none⟩) := (eρ866 5).trans h27
              have h868 : opd ρ866 83 (.tmp 7) = .pointer (some ⟨g10, 0 + 0, none⟩) := (eρ866 7).trans h29
              have h869 : opd ρ866 83 (.tmp 9) = .pointer (some ⟨g14, 0 + 0, none⟩) := (eρ866 9).trans h31
              have h870 : opd ρ866 83 (.tmp 55) = .bool true := eρ866 55
              clear eρ866
              refine wcT h870 ?_
              refine wseq ?_
              refine wreg ?_
              refine lv (v := .bool true) rfl (r_as rfl rfl) rfl ?_
              refine wend ?_
              refine wthen ?_
              refine wren (fun ρ871 eρ871 => ?_)
              have h872 : opd ρ871 83 (.tmp 10) = .bool true := eρ871 10
              clear eρ871
              refine wp_ret ?_
              refine thR ?_
              obtain rfl := Option.some.inj hF
              subst hB
              refine finR (rs := [.tmp 10]) (vs := [.bool true]) rfl ⟨h872, trivial⟩ ?_
              exact hI.fin 0 ⟨rfl, rfl⟩
  · skip
    rw [if_neg hc33] at hF
    have hbhc33 : (!x22) = true := (by rw [(Bool.eq_false_iff.2 hc33)]; rfl)
    refine wcT (h32.trans (congrArg Value.bool hbhc33)) ?_
    refine wseq ?_
    refine wreg ?_
    refine lv (v := .bool false) rfl (r_as rfl rfl) rfl ?_
    refine wend ?_
    refine wthen ?_
    refine wren (fun ρ873 eρ873 => ?_)
    have h874 : opd ρ873 83 (.tmp 10) = .bool false := eρ873 10
    clear eρ873
    refine wp_ret ?_
    refine thR ?_
    obtain rfl := Option.some.inj hF
    subst hB
    refine finR (rs := [.tmp 10]) (vs := [.bool false]) rfl ⟨h874, trivial⟩ ?_
    exact hI.fin 0 ⟨rfl, rfl⟩
end Go.Proofs.YtdebnncpclodcaaDoor.X
