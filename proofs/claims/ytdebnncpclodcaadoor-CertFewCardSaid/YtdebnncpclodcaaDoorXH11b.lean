/-
  Functions of the program: what each computes, and its walk. No condition beyond those that the lemmas name.
-/
import Derived.Test.YtdebnncpclodcaaDoorXPT
import Derived.Test.YtdebnncpclodcaaDoorXH11a
import Derived.Test.YtdebnncpclodcaaDoorXGc
import Derived.Test.YtdebnncpclodcaaDoorXStepJ
set_option linter.unusedSimpArgs false
set_option linter.unusedVariables false
set_option maxRecDepth 10000
namespace Go.Proofs.YtdebnncpclodcaaDoor.X
open Go.RowKit Go.Proofs.YtdebnncpclodcaaDoorW.PrintLast
noncomputable def M_wapentakelaw14_CertFew (a0 : Config) (a1 : Block) (a2 : Cert) (a3 : Int) : Option (Bool) := ((M_wapentakelaw14_alive).bind fun x15 => (if x15 = true then ((M_wapentakelaw14_great a0 a1 a2).bind fun x26 => (if x26 = true then some true else ((M_cert_Check a0 a1 a2).bind fun x39 => (if x39 = true then ((M_wapentakeref08_Quorum (a0.Members.length : Int)).bind fun x50 => ((cutI a2.Votes 0 (wI (x50 - 1))).bind fun x61 => (if (u64I (a2.Votes.length : Int)) ≠ 0 then ((((ixI a2.Votes (wI (((u64I a3) % (u64I (a2.Votes.length : Int))).toNat : Int))).bind fun x94 => ((appI 152 ([] : List Vote) a2.Votes).bind fun x107 => ((appI 152 x107 [x94]).bind fun x115 => some x115)))).bind fun (x81 : (List Vote)) => (runL (fun (σ343 : Int × (List Vote)) => ((if (0 : Int) ≤ σ343.1 then ((ixI a2.Votes σ343.1).bind fun x472 => ((appI 152 σ343.2 [x472]).bind fun x484 => some (.inl (wI (σ343.1 - 1), x484)))) else ((((M_cert_Check a0 a1 (⟨a2.Round, x61⟩ : Cert)).bind fun x499 => (if x499 = true then some false else ((M_cert_Check a0 a1 (⟨a2.Round, x81⟩ : Cert)).bind fun x506 => (if x506 = true then some false else (if (a2.Votes.length : Int) = 1 then some true else ((M_cert_Check a0 a1 (⟨a2.Round, σ343.2⟩ : Cert)).bind fun x516 => some (!x516)))))))).map Sum.inr)) : Option ((Int × (List Vote)) ⊕ Bool))) (wI ((a2.Votes.length : Int) - 1), []))) else none))) else some true)))) else some false))
set_option maxHeartbeats 4000000 in
theorem spec_11 {w : World} {H : Hp} {a0 : Config} {a1 : Block} {a2 : Cert} {a3 : Int} {s1 : Sv} {s2 : Sv} {s3 : Sv} {r : Bool} (hF : M_wapentakelaw14_CertFew a0 a1 a2 a3 = some r) (hT : Tab H) (hG : Good w H []) (hs1 : Sl (Fl.ty fl_Member) H s1 a0.Members) (hs2 : Sl (Fl.ty fl_Request) H s2 a1.Requests) (hs3 : Sl ty_Vote H s3 a2.Votes) :
    Fine Tryd.prog 11 [.agg (flat [ckI a0.Epoch, ckL s1]).toArray, .agg (flat [ckI a1.Epoch, ckI a1.Height, ckV flB a1.Prev, ckV flB a1.State, ckV flB a1.Next, ckL s2]).toArray, .agg (flat [ckI a2.Round, ckL s3]).toArray, .int .i64 a3] w H [] (fun H' v L' => v = .bool r ∧ L' = []) := by
  unfold M_wapentakelaw14_CertFew at hF
  unfold Fine
  obtain ⟨B, hB⟩ : ∃ B : Base, B = ⟨w, H, blks []⟩ := ⟨_, rfl⟩
  have hI : Inv B w H [] := by rw [hB]; exact Inv.start hG
  refine enter (n := 108) (args := [.agg (flat [ckI a0.Epoch, ckL s1]).toArray, .agg (flat [ckI a1.Epoch, ckI a1.Height, ckV flB a1.Prev, ckV flB a1.State, ckV flB a1.Next, ckL s2]).toArray, .agg (flat [ckI a2.Round, ckL s3]).toArray, .int .i64 a3]) Tryd.func11 rfl Tryd.ntmps11 (Nat.le_of_ble_eq_true rfl) ?_
  refine wseq ?_
  refine wreg ?_
  refine le rfl (l_box (cks := [ckI a0.Epoch, ckL s1]) hI rfl rfl rfl) rfl ?_
  rintro _ w5 ⟨g4, rfl, hI⟩
  replace hI : Inv B w5 H [.cb g4 [ckI a0.Epoch, ckL s1] 64] := hI
  refine le rfl (l_box (cks := [ckI a1.Epoch, ckI a1.Height, ckV flB a1.Prev, ckV flB a1.State, ckV flB a1.Next, ckL s2]) hI rfl rfl rfl) rfl ?_
  rintro _ w7 ⟨g6, rfl, hI⟩
  replace hI : Inv B w7 H [.cb g4 [ckI a0.Epoch, ckL s1] 64, .cb g6 [ckI a1.Epoch, ckI a1.Height, ckV flB a1.Prev, ckV flB a1.State, ckV flB a1.Next, ckL s2] 69] := hI
  refine le rfl (l_box (cks := [ckI a2.Round, ckL s3]) hI rfl rfl rfl) rfl ?_
  rintro _ w9 ⟨g8, rfl, hI⟩
  replace hI : Inv B w9 H [.cb g4 [ckI a0.Epoch, ckL s1] 64, .cb g6 [ckI a1.Epoch, ckI a1.Height, ckV flB a1.Prev, ckV flB a1.State, ckV flB a1.Next, ckL s2] 69, .cb g8 [ckI a2.Round, ckL s3] 71] := hI
  refine lv (v := .bool false) rfl (r_as rfl rfl) rfl ?_
  refine wend ?_
  refine wthen ?_
  refine wren (fun ρ10 eρ10 => ?_)
  have h11 : opd ρ10 108 (.tmp 3) = .int .i64 a3 := eρ10 3
  have h12 : opd ρ10 108 (.tmp 4) = .pointer (some ⟨g4, 0 + 0, none⟩) := eρ10 4
  have h13 : opd ρ10 108 (.tmp 5) = .pointer (some ⟨g6, 0 + 0, none⟩) := eρ10 5
  have h14 : opd ρ10 108 (.tmp 6) = .pointer (some ⟨g8, 0 + 0, none⟩) := eρ10 6
  clear eρ10
  refine wseq ?_
  refine wseq ?_
  refine wreg ?_
  obtain ⟨x15, hx15, hF⟩ := Option.bind_eq_some_iff.1 hF
  have hsp18 := spec_44 hx15 hT (hI.part 0) 
  refine fc ([]) ([.cb g4 [ckI a0.Epoch, ckL s1] 64, .cb g6 [ckI a1.Epoch, ckI a1.Height, ckV flB a1.Prev, ckV flB a1.State, ckV flB a1.Next, ckL s2] 69, .cb g8 [ckI a2.Round, ckL s3] 71]) (args := []) fc44 rfl rfl rfl hI rfl (hsp18) ?_
  rintro _ H16 _ w17 ⟨rfl, rfl⟩ hleH16 hI
  replace hI : Inv B w17 H16 [.cb g4 [ckI a0.Epoch, ckL s1] 64, .cb g6 [ckI a1.Epoch, ckI a1.Height, ckV flB a1.Prev, ckV flB a1.State, ckV flB a1.Next, ckL s2] 69, .cb g8 [ckI a2.Round, ckL s3] 71] := hI
  refine lv (v := .bool (!x15)) rfl (r_not rfl rfl) rfl ?_
  refine wend ?_
  refine wthen ?_
  refine wren (fun ρ19 eρ19 => ?_)
  have h20 : opd ρ19 108 (.tmp 3) = .int .i64 a3 := (eρ19 3).trans h11
  have h21 : opd ρ19 108 (.tmp 4) = .pointer (some ⟨g4, 0 + 0, none⟩) := (eρ19 4).trans h12
  have h22 : opd ρ19 108 (.tmp 5) = .pointer (some ⟨g6, 0 + 0, none⟩) := (eρ19 5).trans h13
  have h23 : opd ρ19 108 (.tmp 6) = .pointer (some ⟨g8, 0 + 0, none⟩) := (eρ19 6).trans h14
  have h24 : opd ρ19 108 (.tmp 16) = .bool (!x15) := eρ19 16
  clear eρ19
  by_cases hc25 : x15 = true
  · skip
    rw [if_pos hc25] at hF
    have hbhc25 : (!x15) = false := (by rw [hc25]; rfl)
    refine wcF (h24.trans (congrArg Value.bool hbhc25)) ?_
    refine wp_skip ?_
    refine wthen ?_
    refine wseq ?_
    refine wseq ?_
    refine wreg ?_
    refine lv (v := .agg (flat [ckI a0.Epoch, ckL s1]).toArray) rfl (r_cla (off := 0) (p := 0) (m := 2) (hI.good.ca 0 rfl) rfl ag64 h21 rfl rfl) rfl ?_
    refine lv (v := .agg (flat [ckI a1.Epoch, ckI a1.Height, ckV flB a1.Prev, ckV flB a1.State, ckV flB a1.Next, ckL s2]).toArray) rfl (r_cla (off := 0) (p := 0) (m := 6) (hI.good.ca 1 rfl) rfl ag69 h22 rfl rfl) rfl ?_
    refine lv (v := .agg (flat [ckI a2.Round, ckL s3]).toArray) rfl (r_cla (off := 0) (p := 0) (m := 2) (hI.good.ca 2 rfl) rfl ag71 h23 rfl rfl) rfl ?_
    obtain ⟨x26, hx26, hF⟩ := Option.bind_eq_some_iff.1 hF
    have hsp29 := spec_45 hx26 (hT.mono hleH16) (hI.part 0) (hs1.mono hleH16) (hs2.mono hleH16) (hs3.mono hleH16)
    refine fc ([]) ([.cb g4 [ckI a0.Epoch, ckL s1] 64, .cb g6 [ckI a1.Epoch, ckI a1.Height, ckV flB a1.Prev, ckV flB a1.State, ckV flB a1.Next, ckL s2] 69, .cb g8 [ckI a2.Round, ckL s3] 71]) (args := [.agg (flat [ckI a0.Epoch, ckL s1]).toArray, .agg (flat [ckI a1.Epoch, ckI a1.Height, ckV flB a1.Prev, ckV flB a1.State, ckV flB a1.Next, ckL s2]).toArray, .agg (flat [ckI a2.Round, ckL s3]).toArray]) fc45 rfl rfl rfl hI (argc rfl (argc rfl (argc rfl rfl))) (hsp29) ?_
    rintro _ H27 _ w28 ⟨rfl, rfl⟩ hleH27 hI
    replace hI : Inv B w28 H27 [.cb g4 [ckI a0.Epoch, ckL s1] 64, .cb g6 [ckI a1.Epoch, ckI a1.Height, ckV flB a1.Prev, ckV flB a1.State, ckV flB a1.Next, ckL s2] 69, .cb g8 [ckI a2.Round, ckL s3] 71] := hI
    by_cases hc30 : x26 = true
    · skip
      rw [if_pos hc30] at hF
      have hbhc30 : x26 = true := hc30
      refine lv (v := .bool true) rfl (r_mv rfl ((show opd _ _ _ = _ from rfl).trans (congrArg Value.bool hbhc30))) rfl ?_
      with_reducible refine lx (d := 22) (by kernel_rfl) (by kernel_rfl) ?_
      with_reducible refine lx (d := 23) (by kernel_rfl) (by kernel_rfl) ?_
      with_reducible refine lx (d := 24) (by kernel_rfl) (by kernel_rfl) ?_
      with_reducible refine lx (d := 25) (by kernel_rfl) (by kernel_rfl) ?_
      with_reducible refine lx (d := 26) (by kernel_rfl) (by kernel_rfl) ?_
      refine lv (v := .bool true) rfl (r_pkT rfl rfl rfl) rfl ?_
      refine wend ?_
      refine wthen ?_
      refine wren (fun ρ31 eρ31 => ?_)
      have h32 : opd ρ31 108 (.tmp 3) = .int .i64 a3 := (eρ31 3).trans h20
      have h33 : opd ρ31 108 (.tmp 4) = .pointer (some ⟨g4, 0 + 0, none⟩) := (eρ31 4).trans h21
      have h34 : opd ρ31 108 (.tmp 5) = .pointer (some ⟨g6, 0 + 0, none⟩) := (eρ31 5).trans h22
      have h35 : opd ρ31 108 (.tmp 6) = .pointer (some ⟨g8, 0 + 0, none⟩) := (eρ31 6).trans h23
      have h36 : opd ρ31 108 (.tmp 27) = .bool true := eρ31 27
      clear eρ31
      refine wcT h36 ?_
      refine wseq ?_
      refine wreg ?_
      refine lv (v := .bool true) rfl (r_as rfl rfl) rfl ?_
      refine wend ?_
      refine wthen ?_
      refine wren (fun ρ37 eρ37 => ?_)
      have h38 : opd ρ37 108 (.tmp 8) = .bool true := eρ37 8
      clear eρ37
      refine wp_ret ?_
      refine thR ?_
      obtain rfl := Option.some.inj hF
      subst hB
      refine finR (rs := [.tmp 8]) (vs := [.bool true]) rfl ⟨h38, trivial⟩ ?_
      exact hI.fin 0 ⟨rfl, rfl⟩
    · skip
      rw [if_neg hc30] at hF
      have hbhc30 : x26 = false := (Bool.eq_false_iff.2 hc30)
      refine lv (v := .bool false) rfl (r_mv rfl ((show opd _ _ _ = _ from rfl).trans (congrArg Value.bool hbhc30))) rfl ?_
      refine lv (v := .agg (flat [ckI a0.Epoch, ckL s1]).toArray) rfl (r_cla (off := 0) (p := 0) (m := 2) (hI.good.ca 0 rfl) rfl ag64 h21 rfl rfl) rfl ?_
      refine lv (v := .agg (flat [ckI a1.Epoch, ckI a1.Height, ckV flB a1.Prev, ckV flB a1.State, ckV flB a1.Next, ckL s2]).toArray) rfl (r_cla (off := 0) (p := 0) (m := 6) (hI.good.ca 1 rfl) rfl ag69 h22 rfl rfl) rfl ?_
      refine lv (v := .agg (flat [ckI a2.Round, ckL s3]).toArray) rfl (r_cla (off := 0) (p := 0) (m := 2) (hI.good.ca 2 rfl) rfl ag71 h23 rfl rfl) rfl ?_
      obtain ⟨x39, hx39, hF⟩ := Option.bind_eq_some_iff.1 hF
      have hsp42 := spec_46 hx39 ((hT.mono hleH16).mono hleH27) (hI.part 0) ((hs1.mono hleH16).mono hleH27) ((hs2.mono hleH16).mono hleH27) ((hs3.mono hleH16).mono hleH27)
      refine fc ([]) ([.cb g4 [ckI a0.Epoch, ckL s1] 64, .cb g6 [ckI a1.Epoch, ckI a1.Height, ckV flB a1.Prev, ckV flB a1.State, ckV flB a1.Next, ckL s2] 69, .cb g8 [ckI a2.Round, ckL s3] 71]) (args := [.agg (flat [ckI a0.Epoch, ckL s1]).toArray, .agg (flat [ckI a1.Epoch, ckI a1.Height, ckV flB a1.Prev, ckV flB a1.State, ckV flB a1.Next, ckL s2]).toArray, .agg (flat [ckI a2.Round, ckL s3]).toArray]) fc46 rfl rfl rfl hI (argc rfl (argc rfl (argc rfl rfl))) (hsp42) ?_
      rintro _ H40 _ w41 ⟨rfl, rfl⟩ hleH40 hI
      replace hI : Inv B w41 H40 [.cb g4 [ckI a0.Epoch, ckL s1] 64, .cb g6 [ckI a1.Epoch, ckI a1.Height, ckV flB a1.Prev, ckV flB a1.State, ckV flB a1.Next, ckL s2] 69, .cb g8 [ckI a2.Round, ckL s3] 71] := hI
      refine lv (v := .bool (!x39)) rfl (r_not rfl rfl) rfl ?_
      refine lv (v := .bool (!x39)) rfl (r_pkF rfl rfl rfl) rfl ?_
      refine wend ?_
      refine wthen ?_
      refine wren (fun ρ43 eρ43 => ?_)
      have h44 : opd ρ43 108 (.tmp 3) = .int .i64 a3 := (eρ43 3).trans h20
      have h45 : opd ρ43 108 (.tmp 4) = .pointer (some ⟨g4, 0 + 0, none⟩) := (eρ43 4).trans h21
      have h46 : opd ρ43 108 (.tmp 5) = .pointer (some ⟨g6, 0 + 0, none⟩) := (eρ43 5).trans h22
      have h47 : opd ρ43 108 (.tmp 6) = .pointer (some ⟨g8, 0 + 0, none⟩) := (eρ43 6).trans h23
      have h48 : opd ρ43 108 (.tmp 27) = .bool (!x39) := eρ43 27
      clear eρ43
      by_cases hc49 : x39 = true
      · skip
        rw [if_pos hc49] at hF
        have hbhc49 : (!x39) = false := (by rw [hc49]; rfl)
        refine wcF (h48.trans (congrArg Value.bool hbhc49)) ?_
        refine wp_skip ?_
        refine wthen ?_
        refine wseq ?_
        refine wreg ?_
        refine lv (v := .pointer (some ⟨g4, 0 + 1, none⟩)) rfl (l_fa (j := 0) (i := 0) rfl fl64_1 h45 rfl) rfl ?_
        refine lv (v := s1.v) rfl (r_cl1 (off := 1) (p := 1) (hI.good.ca 0 rfl) rfl sc62 rfl rfl rfl) rfl ?_
        refine lv (v := .int .i64 (a0.Members.length : Int)) rfl (r_lenS rfl sl62 rfl (((hs1.mono hleH16).mono hleH27).mono hleH40)) rfl ?_
        obtain ⟨x50, hx50, hF⟩ := Option.bind_eq_some_iff.1 hF
        have hsp53 := spec_48 hx50 (((hT.mono hleH16).mono hleH27).mono hleH40) (hI.part 0) 
        refine fc ([]) ([.cb g4 [ckI a0.Epoch, ckL s1] 64, .cb g6 [ckI a1.Epoch, ckI a1.Height, ckV flB a1.Prev, ckV flB a1.State, ckV flB a1.Next, ckL s2] 69, .cb g8 [ckI a2.Round, ckL s3] 71]) (args := [.int .i64 (a0.Members.length : Int)]) fc48 rfl rfl rfl hI (argc rfl rfl) (hsp53) ?_
        rintro _ H51 _ w52 ⟨rfl, rfl⟩ hleH51 hI
        replace hI : Inv B w52 H51 [.cb g4 [ckI a0.Epoch, ckL s1] 64, .cb g6 [ckI a1.Epoch, ckI a1.Height, ckV flB a1.Prev, ckV flB a1.State, ckV flB a1.Next, ckL s2] 69, .cb g8 [ckI a2.Round, ckL s3] 71] := hI
        refine lv (v := .int .i64 x50) rfl (r_as rfl rfl) rfl ?_
        refine wend ?_
        refine wthen ?_
        refine wren (fun ρ54 eρ54 => ?_)
        have h55 : opd ρ54 108 (.tmp 3) = .int .i64 a3 := (eρ54 3).trans h44
        have h56 : opd ρ54 108 (.tmp 4) = .pointer (some ⟨g4, 0 + 0, none⟩) := (eρ54 4).trans h45
        have h57 : opd ρ54 108 (.tmp 5) = .pointer (some ⟨g6, 0 + 0, none⟩) := (eρ54 5).trans h46
        have h58 : opd ρ54 108 (.tmp 6) = .pointer (some ⟨g8, 0 + 0, none⟩) := (eρ54 6).trans h47
        have h59 : opd ρ54 108 (.tmp 9) = .int .i64 x50 := eρ54 9
        clear eρ54
        refine wseq ?_
        refine dstG (H0 := H51) (L0 := keepL [true, true, true] [.cb g4 [ckI a0.Epoch, ckL s1] 64, .cb g6 [ckI a1.Epoch, ckI a1.Height, ckV flB a1.Prev, ckV flB a1.State, ckV flB a1.Next, ckL s2] 69, .cb g8 [ckI a2.Round, ckL s3] 71]) [9] mixed rfl (by repeat (first | exact Pan.body | refine Pan.then ?_ | refine Pan.inBlock ?_ | refine Pan.noGoto ?_ | refine Pan.pure ?_)) hI (hI.good.weakm _ (Hle.refl _) rfl) ?_
        intro w60 hI hP
        refine dp (v := .pointer (some ⟨g8, 0 + 0, none⟩)) 0 (by kernel_rfl) rfl rfl (fun _ => l_fa (j := 0) (i := 0) rfl fl71_0 h58 rfl) rfl hP ?_
        refine dp (v := .pointer (some ⟨g8, 0 + 1, none⟩)) 2 (by kernel_rfl) rfl rfl (fun _ => l_fa (j := 0) (i := 0) rfl fl71_1 h58 rfl) rfl hP ?_
        refine dp (v := .int .i64 x50) 4 (by kernel_rfl) rfl rfl (fun _ => r_mv rfl h59) rfl hP ?_
        refine dp (v := .int .i64 (wI (x50 - 1))) 5 (by kernel_rfl) rfl rfl (fun _ => r_subw rfl rfl rfl) rfl hP ?_
        refine dr (v := .int .i64 a2.Round) 1 (by kernel_rfl) rfl rfl (hI.good.weakm [true, true, true] (Hle.refl _) rfl) (fun _ hG => r_cl1 (off := 0) (p := 0) (hG.ca 2 rfl) rfl sc3 rfl rfl rfl) rfl hP ?_
        refine dr (v := s3.v) 3 (by kernel_rfl) rfl rfl (hI.good.weakm [true, true, true] (Hle.refl _) rfl) (fun _ hG => r_cl1 (off := 1) (p := 1) (hG.ca 2 rfl) rfl sc22 rfl rfl rfl) rfl hP ?_
        obtain ⟨x61, hx61, hF⟩ := Option.bind_eq_some_iff.1 hF
        obtain ⟨s62, es62⟩ : ∃ z : Sv, z = s3.cut 0 (wI (x50 - 1) : Int).toNat 41 := ⟨_, rfl⟩
        have hs62 := Sl.cutI ((((hs3.mono hleH16).mono hleH27).mono hleH40).mono hleH51) hx61 es62
        refine dp (v := s62.v) 6 (by kernel_rfl) rfl rfl (fun _ => s_slh rfl sl22 rfl rfl ((((hs3.mono hleH16).mono hleH27).mono hleH40).mono hleH51) hx61 es62) rfl hP ?_
        refine dp (v := .agg (flat [ckI a2.Round, ckL s62]).toArray) 7 (by kernel_rfl) rfl rfl (fun _ => r_bldk (z := [[ckI 0], [ckL Sv.nil]]) (pc := [(0, [ckI a2.Round]), (1, [ckL s62])]) rfl zg71 bf71 rfl (argc (congrArg Value.cells rfl) (argc (congrArg Value.cells rfl) rfl)) rfl rfl) rfl hP ?_
        refine de 8 (by kernel_rfl) rfl rfl rfl (l_al hI rfl ze71) rfl ?_
        rintro _ w64 ⟨g63, rfl, hI⟩
        replace hI : Inv B w64 H51 [.cb g4 [ckI a0.Epoch, ckL s1] 64, .cb g6 [ckI a1.Epoch, ckI a1.Height, ckV flB a1.Prev, ckV flB a1.State, ckV flB a1.Next, ckL s2] 69, .cb g8 [ckI a2.Round, ckL s3] 71, .cb g63 [ckI 0, ckL Sv.nil] 71] := hI
        refine ⟨(hI.good.weakm [true, true, true, false] (Hle.refl _) rfl), ?_⟩
        refine dsl 9 (by kernel_rfl) rfl rfl rfl (l_st (off := 0) (p := 0) (m := 2) (new := [ckI a2.Round, ckL s62]) hI 3 rfl rfl sz71 rfl rfl rfl rfl rfl rfl) rfl ?_
        intro w65 hI
        replace hI : Inv B w65 H51 [.cb g4 [ckI a0.Epoch, ckL s1] 64, .cb g6 [ckI a1.Epoch, ckI a1.Height, ckV flB a1.Prev, ckV flB a1.State, ckV flB a1.Next, ckL s2] 69, .cb g8 [ckI a2.Round, ckL s3] 71, .cb g63 [ckI a2.Round, ckL s62] 71] := hI
        refine dend (by kernel_rfl) ?_
        refine wthen ?_
        refine wren (fun ρ66 eρ66 => ?_)
        have h67 : opd ρ66 108 (.tmp 3) = .int .i64 a3 := (eρ66 3).trans h55
        have h68 : opd ρ66 108 (.tmp 4) = .pointer (some ⟨g4, 0 + 0, none⟩) := (eρ66 4).trans h56
        have h69 : opd ρ66 108 (.tmp 5) = .pointer (some ⟨g6, 0 + 0, none⟩) := (eρ66 5).trans h57
        have h70 : opd ρ66 108 (.tmp 6) = .pointer (some ⟨g8, 0 + 0, none⟩) := (eρ66 6).trans h58
        have h71 : opd ρ66 108 (.tmp 10) = .pointer (some ⟨g63, 0 + 0, none⟩) := eρ66 10
        clear eρ66
        refine wseq ?_
        refine wreg ?_
        refine lv (v := .int .i64 a3) rfl (r_mv rfl h67) rfl ?_
        refine lv (v := u64v (u64I a3)) rfl (c_u64 rfl un3 un102 rfl) rfl ?_
        refine lv (v := .pointer (some ⟨g8, 0 + 1, none⟩)) rfl (l_fa (j := 0) (i := 0) rfl fl71_1 h70 rfl) rfl ?_
        refine lv (v := s3.v) rfl (r_cl1 (off := 1) (p := 1) (hI.good.ca 2 rfl) rfl sc22 rfl rfl rfl) rfl ?_
        refine lv (v := .int .i64 (a2.Votes.length : Int)) rfl (r_lenS rfl sl22 rfl ((((hs3.mono hleH16).mono hleH27).mono hleH40).mono hleH51)) rfl ?_
        refine lv (v := u64v (u64I (a2.Votes.length : Int))) rfl (c_u64 rfl un3 un102 rfl) rfl ?_
        by_cases hc72 : (u64I (a2.Votes.length : Int)) ≠ 0
        · rw [if_pos hc72] at hF
          refine lv (v := u64v ((u64I a3) % (u64I (a2.Votes.length : Int)))) rfl (r_remQ rfl rfl rfl hc72) rfl ?_
          refine lv (v := .int .i64 (wI (((u64I a3) % (u64I (a2.Votes.length : Int))).toNat : Int))) rfl (c_i64 rfl un102 un3 rfl) rfl ?_
          refine lv (v := .int .i64 (wI (((u64I a3) % (u64I (a2.Votes.length : Int))).toNat : Int))) rfl (r_as rfl rfl) rfl ?_
          refine wend ?_
          refine wthen ?_
          refine wren (fun ρ73 eρ73 => ?_)
          have h74 : opd ρ73 108 (.tmp 4) = .pointer (some ⟨g4, 0 + 0, none⟩) := (eρ73 4).trans h68
          have h75 : opd ρ73 108 (.tmp 5) = .pointer (some ⟨g6, 0 + 0, none⟩) := (eρ73 5).trans h69
          have h76 : opd ρ73 108 (.tmp 6) = .pointer (some ⟨g8, 0 + 0, none⟩) := (eρ73 6).trans h70
          have h77 : opd ρ73 108 (.tmp 10) = .pointer (some ⟨g63, 0 + 0, none⟩) := (eρ73 10).trans h71
          have h78 : opd ρ73 108 (.tmp 11) = .int .i64 (wI (((u64I a3) % (u64I (a2.Votes.length : Int))).toNat : Int)) := eρ73 11
          clear eρ73
          obtain ⟨x81, hx81, hF⟩ := Option.bind_eq_some_iff.1 hF
          refine wcut (fun ρ' w' => ∃ (H82 : Hp) (s84 : Sv) (g85 : Nat), Hle H51 H82 ∧ opd ρ' 108 (.tmp 4) = .pointer (some ⟨g4, 0 + 0, none⟩) ∧ opd ρ' 108 (.tmp 5) = .pointer (some ⟨g6, 0 + 0, none⟩) ∧ opd ρ' 108 (.tmp 6) = .pointer (some ⟨g8, 0 + 0, none⟩) ∧ opd ρ' 108 (.tmp 10) = .pointer (some ⟨g63, 0 + 0, none⟩) ∧ opd ρ' 108 (.tmp 12) = .pointer (some ⟨g85, 0 + 0, none⟩) ∧ Sl ty_Vote H82 s84 x81 ∧ Inv B w' H82 [.cb g4 [ckI a0.Epoch, ckL s1] 64, .cb g6 [ckI a1.Epoch, ckI a1.Height, ckV flB a1.Prev, ckV flB a1.State, ckV flB a1.Next, ckL s2] 69, .cb g8 [ckI a2.Round, ckL s3] 71, .cb g63 [ckI a2.Round, ckL s62] 71, .cb g85 [ckI a2.Round, ckL s84] 71]) ?_ ?_
          · skip
            replace hF := hx81
            refine dstG (H0 := H51) (L0 := keepL [true, true, true, true] [.cb g4 [ckI a0.Epoch, ckL s1] 64, .cb g6 [ckI a1.Epoch, ckI a1.Height, ckV flB a1.Prev, ckV flB a1.State, ckV flB a1.Next, ckL s2] 69, .cb g8 [ckI a2.Round, ckL s3] 71, .cb g63 [ckI a2.Round, ckL s62] 71]) [15] mixed rfl (by repeat (first | exact Pan.body | refine Pan.then ?_ | refine Pan.inBlock ?_ | refine Pan.noGoto ?_ | refine Pan.pure ?_)) hI (hI.good.weakm _ (Hle.refl _) rfl) ?_
            intro w93 hI hP
            refine dp (v := .pointer (some ⟨g8, 0 + 0, none⟩)) 0 (by kernel_rfl) rfl rfl (fun _ => l_fa (j := 0) (i := 0) rfl fl71_0 h76 rfl) rfl hP ?_
            refine dp (v := .pointer (some ⟨g8, 0 + 1, none⟩)) 3 (by kernel_rfl) rfl rfl (fun _ => l_fa (j := 0) (i := 0) rfl fl71_1 h76 rfl) rfl hP ?_
            refine dp (v := .pointer (some ⟨g8, 0 + 1, none⟩)) 6 (by kernel_rfl) rfl rfl (fun _ => l_fa (j := 0) (i := 0) rfl fl71_1 h76 rfl) rfl hP ?_
            refine dp (v := .int .i64 (wI (((u64I a3) % (u64I (a2.Votes.length : Int))).toNat : Int))) 8 (by kernel_rfl) rfl rfl (fun _ => r_mv rfl h78) rfl hP ?_
            refine dr (v := .int .i64 a2.Round) 1 (by kernel_rfl) rfl rfl (hI.good.weakm [true, true, true, true] (Hle.refl _) rfl) (fun _ hG => r_cl1 (off := 0) (p := 0) (hG.ca 2 rfl) rfl sc3 rfl rfl rfl) rfl hP ?_
            refine dr (v := s3.v) 4 (by kernel_rfl) rfl rfl (hI.good.weakm [true, true, true, true] (Hle.refl _) rfl) (fun _ hG => r_cl1 (off := 1) (p := 1) (hG.ca 2 rfl) rfl sc22 rfl rfl rfl) rfl hP ?_
            refine dr (v := s3.v) 7 (by kernel_rfl) rfl rfl (hI.good.weakm [true, true, true, true] (Hle.refl _) rfl) (fun _ hG => r_cl1 (off := 1) (p := 1) (hG.ca 2 rfl) rfl sc22 rfl rfl rfl) rfl hP ?_
            obtain ⟨x94, hx94, hF⟩ := Option.bind_eq_some_iff.1 hF
            obtain ⟨b95, j96, _, hix97, hil98, ⟨s100, s101, s102, rfl, hs100, hs101, hs102⟩, hA99⟩ := ((((hs3.mono hleH16).mono hleH27).mono hleH40).mono hleH51).ix (ixI_some hx94).1
            replace hA99 : At H51 b95 j96 [ckI x94.Kind, ckI x94.Epoch, ckI x94.Height, ckI x94.Round, ckV flB x94.Digest, ckI x94.From, ckI x94.Sig.Leaf, ckL s100, ckL s101, ckL s102] := hA99
            refine dp (v := .pointer (some ⟨b95, j96 + 0, none⟩)) 9 (by kernel_rfl) rfl rfl (fun _ => r_ixt rfl sl22 rfl rfl (ixI_some hx94).2 hix97 hil98) rfl hP ?_
            refine dr (v := .agg (flat [ckI x94.Kind, ckI x94.Epoch, ckI x94.Height, ckI x94.Round, ckV flB x94.Digest, ckI x94.From, ckI x94.Sig.Leaf, ckL s100, ckL s101, ckL s102]).toArray) 10 (by kernel_rfl) rfl rfl (hI.good.weakm [true, true, true, true] (Hle.refl _) rfl) (fun _ hG => r_cla (off := 0) (p := 0) (m := 10) (hA99.ca hG) rfl ag35 rfl rfl rfl) rfl hP ?_
            refine dthree 2 11 14 (by kernel_rfl) ?_ ?_ ?_
            · skip
              refine do_e rfl rfl (l_bs (t := ty_Vote) (vs := []) (xs := []) hI rfl sl22 inf35 rfl rfl rfl .nil rfl) rfl ?_
              rintro _ w105 ⟨s103, H104, rfl, hI, hleH104, hs103, hfs103, hgs103⟩
              refine ⟨(hI.good.weakm [true, true, true, true] hleH104 rfl), ?_⟩
              refine dthree 5 11 14 (by kernel_rfl) ?_ ?_ ?_
              · skip
                replace hI := Inv.full (e := 35) (sz := 41) hI (show s103.n = s103.c from hfs103)
                replace hI : Inv B w105 H104 [.cb g4 [ckI a0.Epoch, ckL s1] 64, .cb g6 [ckI a1.Epoch, ckI a1.Height, ckV flB a1.Prev, ckV flB a1.State, ckV flB a1.Next, ckL s2] 69, .cb g8 [ckI a2.Round, ckL s3] 71, .cb g63 [ckI a2.Round, ckL s62] 71, .own s103 35 41 none] := hI
                obtain ⟨x107, hx107, hF⟩ := Option.bind_eq_some_iff.1 hF
                refine do_e rfl rfl (l_app (t := ty_Vote) hI 4 rfl rfl sl22 inf35 rfl rfl rfl rfl hs103 (((((hs3.mono hleH16).mono hleH27).mono hleH40).mono hleH51).mono hleH104) (appI_some hx107).1) rfl ?_
                rintro _ w111 ⟨s108, H109, gg110, rfl, hI, hleH109, hs108⟩
                rw [← (appI_some hx107).2] at hs108
                replace hI : Inv B w111 H109 [.cb g4 [ckI a0.Epoch, ckL s1] 64, .cb g6 [ckI a1.Epoch, ckI a1.Height, ckV flB a1.Prev, ckV flB a1.State, ckV flB a1.Next, ckL s2] 69, .cb g8 [ckI a2.Round, ckL s3] 71, .cb g63 [ckI a2.Round, ckL s62] 71, .own s108 35 41 gg110] := hI
                refine ⟨(hI.good.weakm [true, true, true, true, false] (hleH104.trans hleH109) rfl), ?_⟩
                refine dtwo 11 14 (by kernel_rfl) ?_ ?_
                · skip
                  refine do_e rfl rfl (l_bs (t := ty_Vote) (vs := [.agg (flat [ckI x94.Kind, ckI x94.Epoch, ckI x94.Height, ckI x94.Round, ckV flB x94.Digest, ckI x94.From, ckI x94.Sig.Leaf, ckL s100, ckL s101, ckL s102]).toArray]) (xs := [x94]) hI rfl sl22 inf35 rfl rfl (argc rfl rfl) (.cons rfl ⟨s100, s101, s102, rfl, ((hs100.mono hleH104).mono hleH109), ((hs101.mono hleH104).mono hleH109), ((hs102.mono hleH104).mono hleH109)⟩ .nil) rfl) rfl ?_
                  rintro _ w114 ⟨s112, H113, rfl, hI, hleH113, hs112, hfs112, hgs112⟩
                  refine ⟨(hI.good.weakm [true, true, true, true, false] ((hleH104.trans hleH109).trans hleH113) rfl), ?_⟩
                  refine dtwo 12 14 (by kernel_rfl) ?_ ?_
                  · skip
                    obtain ⟨x115, hx115, hF⟩ := Option.bind_eq_some_iff.1 hF
                    refine do_e rfl rfl (l_app (t := ty_Vote) hI 4 rfl rfl sl22 inf35 rfl rfl rfl rfl (hs108.mono hleH113) hs112 (appI_some hx115).1) rfl ?_
                    rintro _ w119 ⟨s116, H117, gg118, rfl, hI, hleH117, hs116⟩
                    rw [← (appI_some hx115).2] at hs116
                    replace hI : Inv B w119 H117 [.cb g4 [ckI a0.Epoch, ckL s1] 64, .cb g6 [ckI a1.Epoch, ckI a1.Height, ckV flB a1.Prev, ckV flB a1.State, ckV flB a1.Next, ckL s2] 69, .cb g8 [ckI a2.Round, ckL s3] 71, .cb g63 [ckI a2.Round, ckL s62] 71, .own s116 35 41 gg118] := hI
                    refine ⟨(hI.good.weakm [true, true, true, true, false] (((hleH104.trans hleH109).trans hleH113).trans hleH117) rfl), ?_⟩
                    refine dp (v := .agg (flat [ckI a2.Round, ckL s116]).toArray) 13 (by kernel_rfl) rfl rfl (fun _ => r_bldk (z := [[ckI 0], [ckL Sv.nil]]) (pc := [(0, [ckI a2.Round]), (1, [ckL s116])]) rfl zg71 bf71 rfl (argc (congrArg Value.cells rfl) (argc (congrArg Value.cells rfl) rfl)) rfl rfl) rfl hP ?_
                    refine de 14 (by kernel_rfl) rfl rfl rfl (l_al hI rfl ze71) rfl ?_
                    rintro _ w121 ⟨g120, rfl, hI⟩
                    replace hI : Inv B w121 H117 [.cb g4 [ckI a0.Epoch, ckL s1] 64, .cb g6 [ckI a1.Epoch, ckI a1.Height, ckV flB a1.Prev, ckV flB a1.State, ckV flB a1.Next, ckL s2] 69, .cb g8 [ckI a2.Round, ckL s3] 71, .cb g63 [ckI a2.Round, ckL s62] 71, .own s116 35 41 gg118, .cb g120 [ckI 0, ckL Sv.nil] 71] := hI
                    refine ⟨(hI.good.weakm [true, true, true, true, false, false] (((hleH104.trans hleH109).trans hleH113).trans hleH117) rfl), ?_⟩
                    refine dsl 15 (by kernel_rfl) rfl rfl rfl (l_st (off := 0) (p := 0) (m := 2) (new := [ckI a2.Round, ckL s116]) hI 5 rfl rfl sz71 rfl rfl rfl rfl rfl rfl) rfl ?_
                    intro w122 hI
                    replace hI : Inv B w122 H117 [.cb g4 [ckI a0.Epoch, ckL s1] 64, .cb g6 [ckI a1.Epoch, ckI a1.Height, ckV flB a1.Prev, ckV flB a1.State, ckV flB a1.Next, ckL s2] 69, .cb g8 [ckI a2.Round, ckL s3] 71, .cb g63 [ckI a2.Round, ckL s62] 71, .own s116 35 41 gg118, .cb g120 [ckI a2.Round, ckL s116] 71] := hI
                    refine dend (by kernel_rfl) ?_
                    obtain rfl := Option.some.inj hF
                    exact wmid ⟨H117, s116, g120, (((hleH104.trans hleH109).trans hleH113).trans hleH117), h74, h75, h76, h77, rfl, hs116, (hI.keep [true, true, true, true, false, true])⟩
                  · skip
                    refine do_e rfl rfl (l_al hI rfl ze71) rfl ?_
                    rintro _ w124 ⟨g123, rfl, hI⟩
                    replace hI : Inv B w124 H113 [.cb g4 [ckI a0.Epoch, ckL s1] 64, .cb g6 [ckI a1.Epoch, ckI a1.Height, ckV flB a1.Prev, ckV flB a1.State, ckV flB a1.Next, ckL s2] 69, .cb g8 [ckI a2.Round, ckL s3] 71, .cb g63 [ckI a2.Round, ckL s62] 71, .own s108 35 41 gg110, .cb g123 [ckI 0, ckL Sv.nil] 71] := hI
                    refine ⟨(hI.good.weakm [true, true, true, true, false, false] ((hleH104.trans hleH109).trans hleH113) rfl), ?_⟩
                    obtain ⟨x125, hx125, hF⟩ := Option.bind_eq_some_iff.1 hF
                    refine de 12 (by kernel_rfl) rfl rfl rfl (l_app (t := ty_Vote) hI 4 rfl rfl sl22 inf35 rfl rfl rfl rfl (hs108.mono hleH113) hs112 (appI_some hx125).1) rfl ?_
                    rintro _ w129 ⟨s126, H127, gg128, rfl, hI, hleH127, hs126⟩
                    rw [← (appI_some hx125).2] at hs126
                    replace hI : Inv B w129 H127 [.cb g4 [ckI a0.Epoch, ckL s1] 64, .cb g6 [ckI a1.Epoch, ckI a1.Height, ckV flB a1.Prev, ckV flB a1.State, ckV flB a1.Next, ckL s2] 69, .cb g8 [ckI a2.Round, ckL s3] 71, .cb g63 [ckI a2.Round, ckL s62] 71, .own s126 35 41 gg128, .cb g123 [ckI 0, ckL Sv.nil] 71] := hI
                    refine ⟨(hI.good.weakm [true, true, true, true, false, false] (((hleH104.trans hleH109).trans hleH113).trans hleH127) rfl), ?_⟩
                    refine dp (v := .agg (flat [ckI a2.Round, ckL s126]).toArray) 13 (by kernel_rfl) rfl rfl (fun _ => r_bldk (z := [[ckI 0], [ckL Sv.nil]]) (pc := [(0, [ckI a2.Round]), (1, [ckL s126])]) rfl zg71 bf71 rfl (argc (congrArg Value.cells rfl) (argc (congrArg Value.cells rfl) rfl)) rfl rfl) rfl hP ?_
                    refine dsl 15 (by kernel_rfl) rfl rfl rfl (l_st (off := 0) (p := 0) (m := 2) (new := [ckI a2.Round, ckL s126]) hI 5 rfl rfl sz71 rfl rfl rfl rfl rfl rfl) rfl ?_
                    intro w130 hI
                    replace hI : Inv B w130 H127 [.cb g4 [ckI a0.Epoch, ckL s1] 64, .cb g6 [ckI a1.Epoch, ckI a1.Height, ckV flB a1.Prev, ckV flB a1.State, ckV flB a1.Next, ckL s2] 69, .cb g8 [ckI a2.Round, ckL s3] 71, .cb g63 [ckI a2.Round, ckL s62] 71, .own s126 35 41 gg128, .cb g123 [ckI a2.Round, ckL s126] 71] := hI
                    refine dend (by kernel_rfl) ?_
                    obtain rfl := Option.some.inj hF
                    exact wmid ⟨H127, s126, g123, (((hleH104.trans hleH109).trans hleH113).trans hleH127), h74, h75, h76, h77, rfl, hs126, (hI.keep [true, true, true, true, false, true])⟩
                · skip
                  refine do_e rfl rfl (l_al hI rfl ze71) rfl ?_
                  rintro _ w132 ⟨g131, rfl, hI⟩
                  replace hI : Inv B w132 H109 [.cb g4 [ckI a0.Epoch, ckL s1] 64, .cb g6 [ckI a1.Epoch, ckI a1.Height, ckV flB a1.Prev, ckV flB a1.State, ckV flB a1.Next, ckL s2] 69, .cb g8 [ckI a2.Round, ckL s3] 71, .cb g63 [ckI a2.Round, ckL s62] 71, .own s108 35 41 gg110, .cb g131 [ckI 0, ckL Sv.nil] 71] := hI
                  refine ⟨(hI.good.weakm [true, true, true, true, false, false] (hleH104.trans hleH109) rfl), ?_⟩
                  refine de 11 (by kernel_rfl) rfl rfl rfl (l_bs (t := ty_Vote) (vs := [.agg (flat [ckI x94.Kind, ckI x94.Epoch, ckI x94.Height, ckI x94.Round, ckV flB x94.Digest, ckI x94.From, ckI x94.Sig.Leaf, ckL s100, ckL s101, ckL s102]).toArray]) (xs := [x94]) hI rfl sl22 inf35 rfl rfl (argc rfl rfl) (.cons rfl ⟨s100, s101, s102, rfl, ((hs100.mono hleH104).mono hleH109), ((hs101.mono hleH104).mono hleH109), ((hs102.mono hleH104).mono hleH109)⟩ .nil) rfl) rfl ?_
                  rintro _ w135 ⟨s133, H134, rfl, hI, hleH134, hs133, hfs133, hgs133⟩
                  refine ⟨(hI.good.weakm [true, true, true, true, false, false] ((hleH104.trans hleH109).trans hleH134) rfl), ?_⟩
                  obtain ⟨x136, hx136, hF⟩ := Option.bind_eq_some_iff.1 hF
                  refine de 12 (by kernel_rfl) rfl rfl rfl (l_app (t := ty_Vote) hI 4 rfl rfl sl22 inf35 rfl rfl rfl rfl (hs108.mono hleH134) hs133 (appI_some hx136).1) rfl ?_
                  rintro _ w140 ⟨s137, H138, gg139, rfl, hI, hleH138, hs137⟩
                  rw [← (appI_some hx136).2] at hs137
                  replace hI : Inv B w140 H138 [.cb g4 [ckI a0.Epoch, ckL s1] 64, .cb g6 [ckI a1.Epoch, ckI a1.Height, ckV flB a1.Prev, ckV flB a1.State, ckV flB a1.Next, ckL s2] 69, .cb g8 [ckI a2.Round, ckL s3] 71, .cb g63 [ckI a2.Round, ckL s62] 71, .own s137 35 41 gg139, .cb g131 [ckI 0, ckL Sv.nil] 71] := hI
                  refine ⟨(hI.good.weakm [true, true, true, true, false, false] (((hleH104.trans hleH109).trans hleH134).trans hleH138) rfl), ?_⟩
                  refine dp (v := .agg (flat [ckI a2.Round, ckL s137]).toArray) 13 (by kernel_rfl) rfl rfl (fun _ => r_bldk (z := [[ckI 0], [ckL Sv.nil]]) (pc := [(0, [ckI a2.Round]), (1, [ckL s137])]) rfl zg71 bf71 rfl (argc (congrArg Value.cells rfl) (argc (congrArg Value.cells rfl) rfl)) rfl rfl) rfl hP ?_
                  refine dsl 15 (by kernel_rfl) rfl rfl rfl (l_st (off := 0) (p := 0) (m := 2) (new := [ckI a2.Round, ckL s137]) hI 5 rfl rfl sz71 rfl rfl rfl rfl rfl rfl) rfl ?_
                  intro w141 hI
                  replace hI : Inv B w141 H138 [.cb g4 [ckI a0.Epoch, ckL s1] 64, .cb g6 [ckI a1.Epoch, ckI a1.Height, ckV flB a1.Prev, ckV flB a1.State, ckV flB a1.Next, ckL s2] 69, .cb g8 [ckI a2.Round, ckL s3] 71, .cb g63 [ckI a2.Round, ckL s62] 71, .own s137 35 41 gg139, .cb g131 [ckI a2.Round, ckL s137] 71] := hI
                  refine dend (by kernel_rfl) ?_
                  obtain rfl := Option.some.inj hF
                  exact wmid ⟨H138, s137, g131, (((hleH104.trans hleH109).trans hleH134).trans hleH138), h74, h75, h76, h77, rfl, hs137, (hI.keep [true, true, true, true, false, true])⟩
              · skip
                refine do_e rfl rfl (l_bs (t := ty_Vote) (vs := [.agg (flat [ckI x94.Kind, ckI x94.Epoch, ckI x94.Height, ckI x94.Round, ckV flB x94.Digest, ckI x94.From, ckI x94.Sig.Leaf, ckL s100, ckL s101, ckL s102]).toArray]) (xs := [x94]) hI rfl sl22 inf35 rfl rfl (argc rfl rfl) (.cons rfl ⟨s100, s101, s102, rfl, (hs100.mono hleH104), (hs101.mono hleH104), (hs102.mono hleH104)⟩ .nil) rfl) rfl ?_
                rintro _ w144 ⟨s142, H143, rfl, hI, hleH143, hs142, hfs142, hgs142⟩
                refine ⟨(hI.good.weakm [true, true, true, true] (hleH104.trans hleH143) rfl), ?_⟩
                refine dtwo 5 14 (by kernel_rfl) ?_ ?_
                · skip
                  replace hI := Inv.full (e := 35) (sz := 41) hI (show s103.n = s103.c from hfs103)
                  replace hI : Inv B w144 H143 [.cb g4 [ckI a0.Epoch, ckL s1] 64, .cb g6 [ckI a1.Epoch, ckI a1.Height, ckV flB a1.Prev, ckV flB a1.State, ckV flB a1.Next, ckL s2] 69, .cb g8 [ckI a2.Round, ckL s3] 71, .cb g63 [ckI a2.Round, ckL s62] 71, .own s103 35 41 none] := hI
                  obtain ⟨x146, hx146, hF⟩ := Option.bind_eq_some_iff.1 hF
                  refine do_e rfl rfl (l_app (t := ty_Vote) hI 4 rfl rfl sl22 inf35 rfl rfl rfl rfl (hs103.mono hleH143) ((((((hs3.mono hleH16).mono hleH27).mono hleH40).mono hleH51).mono hleH104).mono hleH143) (appI_some hx146).1) rfl ?_
                  rintro _ w150 ⟨s147, H148, gg149, rfl, hI, hleH148, hs147⟩
                  rw [← (appI_some hx146).2] at hs147
                  replace hI : Inv B w150 H148 [.cb g4 [ckI a0.Epoch, ckL s1] 64, .cb g6 [ckI a1.Epoch, ckI a1.Height, ckV flB a1.Prev, ckV flB a1.State, ckV flB a1.Next, ckL s2] 69, .cb g8 [ckI a2.Round, ckL s3] 71, .cb g63 [ckI a2.Round, ckL s62] 71, .own s147 35 41 gg149] := hI
                  refine ⟨(hI.good.weakm [true, true, true, true, false] ((hleH104.trans hleH143).trans hleH148) rfl), ?_⟩
                  refine dtwo 12 14 (by kernel_rfl) ?_ ?_
                  · skip
                    obtain ⟨x151, hx151, hF⟩ := Option.bind_eq_some_iff.1 hF
                    refine do_e rfl rfl (l_app (t := ty_Vote) hI 4 rfl rfl sl22 inf35 rfl rfl rfl rfl hs147 (hs142.mono hleH148) (appI_some hx151).1) rfl ?_
                    rintro _ w155 ⟨s152, H153, gg154, rfl, hI, hleH153, hs152⟩
                    rw [← (appI_some hx151).2] at hs152
                    replace hI : Inv B w155 H153 [.cb g4 [ckI a0.Epoch, ckL s1] 64, .cb g6 [ckI a1.Epoch, ckI a1.Height, ckV flB a1.Prev, ckV flB a1.State, ckV flB a1.Next, ckL s2] 69, .cb g8 [ckI a2.Round, ckL s3] 71, .cb g63 [ckI a2.Round, ckL s62] 71, .own s152 35 41 gg154] := hI
                    refine ⟨(hI.good.weakm [true, true, true, true, false] (((hleH104.trans hleH143).trans hleH148).trans hleH153) rfl), ?_⟩
                    refine dp (v := .agg (flat [ckI a2.Round, ckL s152]).toArray) 13 (by kernel_rfl) rfl rfl (fun _ => r_bldk (z := [[ckI 0], [ckL Sv.nil]]) (pc := [(0, [ckI a2.Round]), (1, [ckL s152])]) rfl zg71 bf71 rfl (argc (congrArg Value.cells rfl) (argc (congrArg Value.cells rfl) rfl)) rfl rfl) rfl hP ?_
                    refine de 14 (by kernel_rfl) rfl rfl rfl (l_al hI rfl ze71) rfl ?_
                    rintro _ w157 ⟨g156, rfl, hI⟩
                    replace hI : Inv B w157 H153 [.cb g4 [ckI a0.Epoch, ckL s1] 64, .cb g6 [ckI a1.Epoch, ckI a1.Height, ckV flB a1.Prev, ckV flB a1.State, ckV flB a1.Next, ckL s2] 69, .cb g8 [ckI a2.Round, ckL s3] 71, .cb g63 [ckI a2.Round, ckL s62] 71, .own s152 35 41 gg154, .cb g156 [ckI 0, ckL Sv.nil] 71] := hI
                    refine ⟨(hI.good.weakm [true, true, true, true, false, false] (((hleH104.trans hleH143).trans hleH148).trans hleH153) rfl), ?_⟩
                    refine dsl 15 (by kernel_rfl) rfl rfl rfl (l_st (off := 0) (p := 0) (m := 2) (new := [ckI a2.Round, ckL s152]) hI 5 rfl rfl sz71 rfl rfl rfl rfl rfl rfl) rfl ?_
                    intro w158 hI
                    replace hI : Inv B w158 H153 [.cb g4 [ckI a0.Epoch, ckL s1] 64, .cb g6 [ckI a1.Epoch, ckI a1.Height, ckV flB a1.Prev, ckV flB a1.State, ckV flB a1.Next, ckL s2] 69, .cb g8 [ckI a2.Round, ckL s3] 71, .cb g63 [ckI a2.Round, ckL s62] 71, .own s152 35 41 gg154, .cb g156 [ckI a2.Round, ckL s152] 71] := hI
                    refine dend (by kernel_rfl) ?_
                    obtain rfl := Option.some.inj hF
                    exact wmid ⟨H153, s152, g156, (((hleH104.trans hleH143).trans hleH148).trans hleH153), h74, h75, h76, h77, rfl, hs152, (hI.keep [true, true, true, true, false, true])⟩
                  · skip
                    refine do_e rfl rfl (l_al hI rfl ze71) rfl ?_
                    rintro _ w160 ⟨g159, rfl, hI⟩
                    replace hI : Inv B w160 H148 [.cb g4 [ckI a0.Epoch, ckL s1] 64, .cb g6 [ckI a1.Epoch, ckI a1.Height, ckV flB a1.Prev, ckV flB a1.State, ckV flB a1.Next, ckL s2] 69, .cb g8 [ckI a2.Round, ckL s3] 71, .cb g63 [ckI a2.Round, ckL s62] 71, .own s147 35 41 gg149, .cb g159 [ckI 0, ckL Sv.nil] 71] := hI
                    refine ⟨(hI.good.weakm [true, true, true, true, false, false] ((hleH104.trans hleH143).trans hleH148) rfl), ?_⟩
                    obtain ⟨x161, hx161, hF⟩ := Option.bind_eq_some_iff.1 hF
                    refine de 12 (by kernel_rfl) rfl rfl rfl (l_app (t := ty_Vote) hI 4 rfl rfl sl22 inf35 rfl rfl rfl rfl hs147 (hs142.mono hleH148) (appI_some hx161).1) rfl ?_
                    rintro _ w165 ⟨s162, H163, gg164, rfl, hI, hleH163, hs162⟩
                    rw [← (appI_some hx161).2] at hs162
                    replace hI : Inv B w165 H163 [.cb g4 [ckI a0.Epoch, ckL s1] 64, .cb g6 [ckI a1.Epoch, ckI a1.Height, ckV flB a1.Prev, ckV flB a1.State, ckV flB a1.Next, ckL s2] 69, .cb g8 [ckI a2.Round, ckL s3] 71, .cb g63 [ckI a2.Round, ckL s62] 71, .own s162 35 41 gg164, .cb g159 [ckI 0, ckL Sv.nil] 71] := hI
                    refine ⟨(hI.good.weakm [true, true, true, true, false, false] (((hleH104.trans hleH143).trans hleH148).trans hleH163) rfl), ?_⟩
                    refine dp (v := .agg (flat [ckI a2.Round, ckL s162]).toArray) 13 (by kernel_rfl) rfl rfl (fun _ => r_bldk (z := [[ckI 0], [ckL Sv.nil]]) (pc := [(0, [ckI a2.Round]), (1, [ckL s162])]) rfl zg71 bf71 rfl (argc (congrArg Value.cells rfl) (argc (congrArg Value.cells rfl) rfl)) rfl rfl) rfl hP ?_
                    refine dsl 15 (by kernel_rfl) rfl rfl rfl (l_st (off := 0) (p := 0) (m := 2) (new := [ckI a2.Round, ckL s162]) hI 5 rfl rfl sz71 rfl rfl rfl rfl rfl rfl) rfl ?_
                    intro w166 hI
                    replace hI : Inv B w166 H163 [.cb g4 [ckI a0.Epoch, ckL s1] 64, .cb g6 [ckI a1.Epoch, ckI a1.Height, ckV flB a1.Prev, ckV flB a1.State, ckV flB a1.Next, ckL s2] 69, .cb g8 [ckI a2.Round, ckL s3] 71, .cb g63 [ckI a2.Round, ckL s62] 71, .own s162 35 41 gg164, .cb g159 [ckI a2.Round, ckL s162] 71] := hI
                    refine dend (by kernel_rfl) ?_
                    obtain rfl := Option.some.inj hF
                    exact wmid ⟨H163, s162, g159, (((hleH104.trans hleH143).trans hleH148).trans hleH163), h74, h75, h76, h77, rfl, hs162, (hI.keep [true, true, true, true, false, true])⟩
                · skip
                  refine do_e rfl rfl (l_al hI rfl ze71) rfl ?_
                  rintro _ w168 ⟨g167, rfl, hI⟩
                  replace hI : Inv B w168 H143 [.cb g4 [ckI a0.Epoch, ckL s1] 64, .cb g6 [ckI a1.Epoch, ckI a1.Height, ckV flB a1.Prev, ckV flB a1.State, ckV flB a1.Next, ckL s2] 69, .cb g8 [ckI a2.Round, ckL s3] 71, .cb g63 [ckI a2.Round, ckL s62] 71, .cb g167 [ckI 0, ckL Sv.nil] 71] := hI
                  refine ⟨(hI.good.weakm [true, true, true, true, false] (hleH104.trans hleH143) rfl), ?_⟩
                  replace hI := Inv.full (e := 35) (sz := 41) hI (show s103.n = s103.c from hfs103)
                  replace hI : Inv B w168 H143 [.cb g4 [ckI a0.Epoch, ckL s1] 64, .cb g6 [ckI a1.Epoch, ckI a1.Height, ckV flB a1.Prev, ckV flB a1.State, ckV flB a1.Next, ckL s2] 69, .cb g8 [ckI a2.Round, ckL s3] 71, .cb g63 [ckI a2.Round, ckL s62] 71, .cb g167 [ckI 0, ckL Sv.nil] 71, .own s103 35 41 none] := hI
                  obtain ⟨x170, hx170, hF⟩ := Option.bind_eq_some_iff.1 hF
                  refine de 5 (by kernel_rfl) rfl rfl rfl (l_app (t := ty_Vote) hI 5 rfl rfl sl22 inf35 rfl rfl rfl rfl (hs103.mono hleH143) ((((((hs3.mono hleH16).mono hleH27).mono hleH40).mono hleH51).mono hleH104).mono hleH143) (appI_some hx170).1) rfl ?_
                  rintro _ w174 ⟨s171, H172, gg173, rfl, hI, hleH172, hs171⟩
                  rw [← (appI_some hx170).2] at hs171
                  replace hI : Inv B w174 H172 [.cb g4 [ckI a0.Epoch, ckL s1] 64, .cb g6 [ckI a1.Epoch, ckI a1.Height, ckV flB a1.Prev, ckV flB a1.State, ckV flB a1.Next, ckL s2] 69, .cb g8 [ckI a2.Round, ckL s3] 71, .cb g63 [ckI a2.Round, ckL s62] 71, .cb g167 [ckI 0, ckL Sv.nil] 71, .own s171 35 41 gg173] := hI
                  refine ⟨(hI.good.weakm [true, true, true, true, false, false] ((hleH104.trans hleH143).trans hleH172) rfl), ?_⟩
                  obtain ⟨x175, hx175, hF⟩ := Option.bind_eq_some_iff.1 hF
                  refine de 12 (by kernel_rfl) rfl rfl rfl (l_app (t := ty_Vote) hI 5 rfl rfl sl22 inf35 rfl rfl rfl rfl hs171 (hs142.mono hleH172) (appI_some hx175).1) rfl ?_
                  rintro _ w179 ⟨s176, H177, gg178, rfl, hI, hleH177, hs176⟩
                  rw [← (appI_some hx175).2] at hs176
                  replace hI : Inv B w179 H177 [.cb g4 [ckI a0.Epoch, ckL s1] 64, .cb g6 [ckI a1.Epoch, ckI a1.Height, ckV flB a1.Prev, ckV flB a1.State, ckV flB a1.Next, ckL s2] 69, .cb g8 [ckI a2.Round, ckL s3] 71, .cb g63 [ckI a2.Round, ckL s62] 71, .cb g167 [ckI 0, ckL Sv.nil] 71, .own s176 35 41 gg178] := hI
                  refine ⟨(hI.good.weakm [true, true, true, true, false, false] (((hleH104.trans hleH143).trans hleH172).trans hleH177) rfl), ?_⟩
                  refine dp (v := .agg (flat [ckI a2.Round, ckL s176]).toArray) 13 (by kernel_rfl) rfl rfl (fun _ => r_bldk (z := [[ckI 0], [ckL Sv.nil]]) (pc := [(0, [ckI a2.Round]), (1, [ckL s176])]) rfl zg71 bf71 rfl (argc (congrArg Value.cells rfl) (argc (congrArg Value.cells rfl) rfl)) rfl rfl) rfl hP ?_
                  refine dsl 15 (by kernel_rfl) rfl rfl rfl (l_st (off := 0) (p := 0) (m := 2) (new := [ckI a2.Round, ckL s176]) hI 4 rfl rfl sz71 rfl rfl rfl rfl rfl rfl) rfl ?_
                  intro w180 hI
                  replace hI : Inv B w180 H177 [.cb g4 [ckI a0.Epoch, ckL s1] 64, .cb g6 [ckI a1.Epoch, ckI a1.Height, ckV flB a1.Prev, ckV flB a1.State, ckV flB a1.Next, ckL s2] 69, .cb g8 [ckI a2.Round, ckL s3] 71, .cb g63 [ckI a2.Round, ckL s62] 71, .cb g167 [ckI a2.Round, ckL s176] 71, .own s176 35 41 gg178] := hI
                  refine dend (by kernel_rfl) ?_
                  obtain rfl := Option.some.inj hF
                  exact wmid ⟨H177, s176, g167, (((hleH104.trans hleH143).trans hleH172).trans hleH177), h74, h75, h76, h77, rfl, hs176, (hI.keep [true, true, true, true, true, false])⟩
              · skip
                refine do_e rfl rfl (l_al hI rfl ze71) rfl ?_
                rintro _ w182 ⟨g181, rfl, hI⟩
                replace hI : Inv B w182 H104 [.cb g4 [ckI a0.Epoch, ckL s1] 64, .cb g6 [ckI a1.Epoch, ckI a1.Height, ckV flB a1.Prev, ckV flB a1.State, ckV flB a1.Next, ckL s2] 69, .cb g8 [ckI a2.Round, ckL s3] 71, .cb g63 [ckI a2.Round, ckL s62] 71, .cb g181 [ckI 0, ckL Sv.nil] 71] := hI
                refine ⟨(hI.good.weakm [true, true, true, true, false] hleH104 rfl), ?_⟩
                refine dtwo 5 11 (by kernel_rfl) ?_ ?_
                · skip
                  replace hI := Inv.full (e := 35) (sz := 41) hI (show s103.n = s103.c from hfs103)
                  replace hI : Inv B w182 H104 [.cb g4 [ckI a0.Epoch, ckL s1] 64, .cb g6 [ckI a1.Epoch, ckI a1.Height, ckV flB a1.Prev, ckV flB a1.State, ckV flB a1.Next, ckL s2] 69, .cb g8 [ckI a2.Round, ckL s3] 71, .cb g63 [ckI a2.Round, ckL s62] 71, .cb g181 [ckI 0, ckL Sv.nil] 71, .own s103 35 41 none] := hI
                  obtain ⟨x184, hx184, hF⟩ := Option.bind_eq_some_iff.1 hF
                  refine do_e rfl rfl (l_app (t := ty_Vote) hI 5 rfl rfl sl22 inf35 rfl rfl rfl rfl hs103 (((((hs3.mono hleH16).mono hleH27).mono hleH40).mono hleH51).mono hleH104) (appI_some hx184).1) rfl ?_
                  rintro _ w188 ⟨s185, H186, gg187, rfl, hI, hleH186, hs185⟩
                  rw [← (appI_some hx184).2] at hs185
                  replace hI : Inv B w188 H186 [.cb g4 [ckI a0.Epoch, ckL s1] 64, .cb g6 [ckI a1.Epoch, ckI a1.Height, ckV flB a1.Prev, ckV flB a1.State, ckV flB a1.Next, ckL s2] 69, .cb g8 [ckI a2.Round, ckL s3] 71, .cb g63 [ckI a2.Round, ckL s62] 71, .cb g181 [ckI 0, ckL Sv.nil] 71, .own s185 35 41 gg187] := hI
                  refine ⟨(hI.good.weakm [true, true, true, true, false, false] (hleH104.trans hleH186) rfl), ?_⟩
                  refine de 11 (by kernel_rfl) rfl rfl rfl (l_bs (t := ty_Vote) (vs := [.agg (flat [ckI x94.Kind, ckI x94.Epoch, ckI x94.Height, ckI x94.Round, ckV flB x94.Digest, ckI x94.From, ckI x94.Sig.Leaf, ckL s100, ckL s101, ckL s102]).toArray]) (xs := [x94]) hI rfl sl22 inf35 rfl rfl (argc rfl rfl) (.cons rfl ⟨s100, s101, s102, rfl, ((hs100.mono hleH104).mono hleH186), ((hs101.mono hleH104).mono hleH186), ((hs102.mono hleH104).mono hleH186)⟩ .nil) rfl) rfl ?_
                  rintro _ w191 ⟨s189, H190, rfl, hI, hleH190, hs189, hfs189, hgs189⟩
                  refine ⟨(hI.good.weakm [true, true, true, true, false, false] ((hleH104.trans hleH186).trans hleH190) rfl), ?_⟩
                  obtain ⟨x192, hx192, hF⟩ := Option.bind_eq_some_iff.1 hF
                  refine de 12 (by kernel_rfl) rfl rfl rfl (l_app (t := ty_Vote) hI 5 rfl rfl sl22 inf35 rfl rfl rfl rfl (hs185.mono hleH190) hs189 (appI_some hx192).1) rfl ?_
                  rintro _ w196 ⟨s193, H194, gg195, rfl, hI, hleH194, hs193⟩
                  rw [← (appI_some hx192).2] at hs193
                  replace hI : Inv B w196 H194 [.cb g4 [ckI a0.Epoch, ckL s1] 64, .cb g6 [ckI a1.Epoch, ckI a1.Height, ckV flB a1.Prev, ckV flB a1.State, ckV flB a1.Next, ckL s2] 69, .cb g8 [ckI a2.Round, ckL s3] 71, .cb g63 [ckI a2.Round, ckL s62] 71, .cb g181 [ckI 0, ckL Sv.nil] 71, .own s193 35 41 gg195] := hI
                  refine ⟨(hI.good.weakm [true, true, true, true, false, false] (((hleH104.trans hleH186).trans hleH190).trans hleH194) rfl), ?_⟩
                  refine dp (v := .agg (flat [ckI a2.Round, ckL s193]).toArray) 13 (by kernel_rfl) rfl rfl (fun _ => r_bldk (z := [[ckI 0], [ckL Sv.nil]]) (pc := [(0, [ckI a2.Round]), (1, [ckL s193])]) rfl zg71 bf71 rfl (argc (congrArg Value.cells rfl) (argc (congrArg Value.cells rfl) rfl)) rfl rfl) rfl hP ?_
                  refine dsl 15 (by kernel_rfl) rfl rfl rfl (l_st (off := 0) (p := 0) (m := 2) (new := [ckI a2.Round, ckL s193]) hI 4 rfl rfl sz71 rfl rfl rfl rfl rfl rfl) rfl ?_
                  intro w197 hI
                  replace hI : Inv B w197 H194 [.cb g4 [ckI a0.Epoch, ckL s1] 64, .cb g6 [ckI a1.Epoch, ckI a1.Height, ckV flB a1.Prev, ckV flB a1.State, ckV flB a1.Next, ckL s2] 69, .cb g8 [ckI a2.Round, ckL s3] 71, .cb g63 [ckI a2.Round, ckL s62] 71, .cb g181 [ckI a2.Round, ckL s193] 71, .own s193 35 41 gg195] := hI
                  refine dend (by kernel_rfl) ?_
                  obtain rfl := Option.some.inj hF
                  exact wmid ⟨H194, s193, g181, (((hleH104.trans hleH186).trans hleH190).trans hleH194), h74, h75, h76, h77, rfl, hs193, (hI.keep [true, true, true, true, true, false])⟩
                · skip
                  refine do_e rfl rfl (l_bs (t := ty_Vote) (vs := [.agg (flat [ckI x94.Kind, ckI x94.Epoch, ckI x94.Height, ckI x94.Round, ckV flB x94.Digest, ckI x94.From, ckI x94.Sig.Leaf, ckL s100, ckL s101, ckL s102]).toArray]) (xs := [x94]) hI rfl sl22 inf35 rfl rfl (argc rfl rfl) (.cons rfl ⟨s100, s101, s102, rfl, (hs100.mono hleH104), (hs101.mono hleH104), (hs102.mono hleH104)⟩ .nil) rfl) rfl ?_
                  rintro _ w200 ⟨s198, H199, rfl, hI, hleH199, hs198, hfs198, hgs198⟩
                  refine ⟨(hI.good.weakm [true, true, true, true, false] (hleH104.trans hleH199) rfl), ?_⟩
                  replace hI := Inv.full (e := 35) (sz := 41) hI (show s103.n = s103.c from hfs103)
                  replace hI : Inv B w200 H199 [.cb g4 [ckI a0.Epoch, ckL s1] 64, .cb g6 [ckI a1.Epoch, ckI a1.Height, ckV flB a1.Prev, ckV flB a1.State, ckV flB a1.Next, ckL s2] 69, .cb g8 [ckI a2.Round, ckL s3] 71, .cb g63 [ckI a2.Round, ckL s62] 71, .cb g181 [ckI 0, ckL Sv.nil] 71, .own s103 35 41 none] := hI
                  obtain ⟨x202, hx202, hF⟩ := Option.bind_eq_some_iff.1 hF
                  refine de 5 (by kernel_rfl) rfl rfl rfl (l_app (t := ty_Vote) hI 5 rfl rfl sl22 inf35 rfl rfl rfl rfl (hs103.mono hleH199) ((((((hs3.mono hleH16).mono hleH27).mono hleH40).mono hleH51).mono hleH104).mono hleH199) (appI_some hx202).1) rfl ?_
                  rintro _ w206 ⟨s203, H204, gg205, rfl, hI, hleH204, hs203⟩
                  rw [← (appI_some hx202).2] at hs203
                  replace hI : Inv B w206 H204 [.cb g4 [ckI a0.Epoch, ckL s1] 64, .cb g6 [ckI a1.Epoch, ckI a1.Height, ckV flB a1.Prev, ckV flB a1.State, ckV flB a1.Next, ckL s2] 69, .cb g8 [ckI a2.Round, ckL s3] 71, .cb g63 [ckI a2.Round, ckL s62] 71, .cb g181 [ckI 0, ckL Sv.nil] 71, .own s203 35 41 gg205] := hI
                  refine ⟨(hI.good.weakm [true, true, true, true, false, false] ((hleH104.trans hleH199).trans hleH204) rfl), ?_⟩
                  obtain ⟨x207, hx207, hF⟩ := Option.bind_eq_some_iff.1 hF
                  refine de 12 (by kernel_rfl) rfl rfl rfl (l_app (t := ty_Vote) hI 5 rfl rfl sl22 inf35 rfl rfl rfl rfl hs203 (hs198.mono hleH204) (appI_some hx207).1) rfl ?_
                  rintro _ w211 ⟨s208, H209, gg210, rfl, hI, hleH209, hs208⟩
                  rw [← (appI_some hx207).2] at hs208
                  replace hI : Inv B w211 H209 [.cb g4 [ckI a0.Epoch, ckL s1] 64, .cb g6 [ckI a1.Epoch, ckI a1.Height, ckV flB a1.Prev, ckV flB a1.State, ckV flB a1.Next, ckL s2] 69, .cb g8 [ckI a2.Round, ckL s3] 71, .cb g63 [ckI a2.Round, ckL s62] 71, .cb g181 [ckI 0, ckL Sv.nil] 71, .own s208 35 41 gg210] := hI
                  refine ⟨(hI.good.weakm [true, true, true, true, false, false] (((hleH104.trans hleH199).trans hleH204).trans hleH209) rfl), ?_⟩
                  refine dp (v := .agg (flat [ckI a2.Round, ckL s208]).toArray) 13 (by kernel_rfl) rfl rfl (fun _ => r_bldk (z := [[ckI 0], [ckL Sv.nil]]) (pc := [(0, [ckI a2.Round]), (1, [ckL s208])]) rfl zg71 bf71 rfl (argc (congrArg Value.cells rfl) (argc (congrArg Value.cells rfl) rfl)) rfl rfl) rfl hP ?_
                  refine dsl 15 (by kernel_rfl) rfl rfl rfl (l_st (off := 0) (p := 0) (m := 2) (new := [ckI a2.Round, ckL s208]) hI 4 rfl rfl sz71 rfl rfl rfl rfl rfl rfl) rfl ?_
                  intro w212 hI
                  replace hI : Inv B w212 H209 [.cb g4 [ckI a0.Epoch, ckL s1] 64, .cb g6 [ckI a1.Epoch, ckI a1.Height, ckV flB a1.Prev, ckV flB a1.State, ckV flB a1.Next, ckL s2] 69, .cb g8 [ckI a2.Round, ckL s3] 71, .cb g63 [ckI a2.Round, ckL s62] 71, .cb g181 [ckI a2.Round, ckL s208] 71, .own s208 35 41 gg210] := hI
                  refine dend (by kernel_rfl) ?_
                  obtain rfl := Option.some.inj hF
                  exact wmid ⟨H209, s208, g181, (((hleH104.trans hleH199).trans hleH204).trans hleH209), h74, h75, h76, h77, rfl, hs208, (hI.keep [true, true, true, true, true, false])⟩
            · skip
              refine do_e rfl rfl (l_bs (t := ty_Vote) (vs := [.agg (flat [ckI x94.Kind, ckI x94.Epoch, ckI x94.Height, ckI x94.Round, ckV flB x94.Digest, ckI x94.From, ckI x94.Sig.Leaf, ckL s100, ckL s101, ckL s102]).toArray]) (xs := [x94]) hI rfl sl22 inf35 rfl rfl (argc rfl rfl) (.cons rfl ⟨s100, s101, s102, rfl, hs100, hs101, hs102⟩ .nil) rfl) rfl ?_
              rintro _ w215 ⟨s213, H214, rfl, hI, hleH214, hs213, hfs213, hgs213⟩
              refine ⟨(hI.good.weakm [true, true, true, true] hleH214 rfl), ?_⟩
              refine dtwo 2 14 (by kernel_rfl) ?_ ?_
              · skip
                refine do_e rfl rfl (l_bs (t := ty_Vote) (vs := []) (xs := []) hI rfl sl22 inf35 rfl rfl rfl .nil rfl) rfl ?_
                rintro _ w218 ⟨s216, H217, rfl, hI, hleH217, hs216, hfs216, hgs216⟩
                refine ⟨(hI.good.weakm [true, true, true, true] (hleH214.trans hleH217) rfl), ?_⟩
                refine dtwo 5 14 (by kernel_rfl) ?_ ?_
                · skip
                  replace hI := Inv.full (e := 35) (sz := 41) hI (show s216.n = s216.c from hfs216)
                  replace hI : Inv B w218 H217 [.cb g4 [ckI a0.Epoch, ckL s1] 64, .cb g6 [ckI a1.Epoch, ckI a1.Height, ckV flB a1.Prev, ckV flB a1.State, ckV flB a1.Next, ckL s2] 69, .cb g8 [ckI a2.Round, ckL s3] 71, .cb g63 [ckI a2.Round, ckL s62] 71, .own s216 35 41 none] := hI
                  obtain ⟨x220, hx220, hF⟩ := Option.bind_eq_some_iff.1 hF
                  refine do_e rfl rfl (l_app (t := ty_Vote) hI 4 rfl rfl sl22 inf35 rfl rfl rfl rfl hs216 ((((((hs3.mono hleH16).mono hleH27).mono hleH40).mono hleH51).mono hleH214).mono hleH217) (appI_some hx220).1) rfl ?_
                  rintro _ w224 ⟨s221, H222, gg223, rfl, hI, hleH222, hs221⟩
                  rw [← (appI_some hx220).2] at hs221
                  replace hI : Inv B w224 H222 [.cb g4 [ckI a0.Epoch, ckL s1] 64, .cb g6 [ckI a1.Epoch, ckI a1.Height, ckV flB a1.Prev, ckV flB a1.State, ckV flB a1.Next, ckL s2] 69, .cb g8 [ckI a2.Round, ckL s3] 71, .cb g63 [ckI a2.Round, ckL s62] 71, .own s221 35 41 gg223] := hI
                  refine ⟨(hI.good.weakm [true, true, true, true, false] ((hleH214.trans hleH217).trans hleH222) rfl), ?_⟩
                  refine dtwo 12 14 (by kernel_rfl) ?_ ?_
                  · skip
                    obtain ⟨x225, hx225, hF⟩ := Option.bind_eq_some_iff.1 hF
                    refine do_e rfl rfl (l_app (t := ty_Vote) hI 4 rfl rfl sl22 inf35 rfl rfl rfl rfl hs221 ((hs213.mono hleH217).mono hleH222) (appI_some hx225).1) rfl ?_
                    rintro _ w229 ⟨s226, H227, gg228, rfl, hI, hleH227, hs226⟩
                    rw [← (appI_some hx225).2] at hs226
                    replace hI : Inv B w229 H227 [.cb g4 [ckI a0.Epoch, ckL s1] 64, .cb g6 [ckI a1.Epoch, ckI a1.Height, ckV flB a1.Prev, ckV flB a1.State, ckV flB a1.Next, ckL s2] 69, .cb g8 [ckI a2.Round, ckL s3] 71, .cb g63 [ckI a2.Round, ckL s62] 71, .own s226 35 41 gg228] := hI
                    refine ⟨(hI.good.weakm [true, true, true, true, false] (((hleH214.trans hleH217).trans hleH222).trans hleH227) rfl), ?_⟩
                    refine dp (v := .agg (flat [ckI a2.Round, ckL s226]).toArray) 13 (by kernel_rfl) rfl rfl (fun _ => r_bldk (z := [[ckI 0], [ckL Sv.nil]]) (pc := [(0, [ckI a2.Round]), (1, [ckL s226])]) rfl zg71 bf71 rfl (argc (congrArg Value.cells rfl) (argc (congrArg Value.cells rfl) rfl)) rfl rfl) rfl hP ?_
                    refine de 14 (by kernel_rfl) rfl rfl rfl (l_al hI rfl ze71) rfl ?_
                    rintro _ w231 ⟨g230, rfl, hI⟩
                    replace hI : Inv B w231 H227 [.cb g4 [ckI a0.Epoch, ckL s1] 64, .cb g6 [ckI a1.Epoch, ckI a1.Height, ckV flB a1.Prev, ckV flB a1.State, ckV flB a1.Next, ckL s2] 69, .cb g8 [ckI a2.Round, ckL s3] 71, .cb g63 [ckI a2.Round, ckL s62] 71, .own s226 35 41 gg228, .cb g230 [ckI 0, ckL Sv.nil] 71] := hI
                    refine ⟨(hI.good.weakm [true, true, true, true, false, false] (((hleH214.trans hleH217).trans hleH222).trans hleH227) rfl), ?_⟩
                    refine dsl 15 (by kernel_rfl) rfl rfl rfl (l_st (off := 0) (p := 0) (m := 2) (new := [ckI a2.Round, ckL s226]) hI 5 rfl rfl sz71 rfl rfl rfl rfl rfl rfl) rfl ?_
                    intro w232 hI
                    replace hI : Inv B w232 H227 [.cb g4 [ckI a0.Epoch, ckL s1] 64, .cb g6 [ckI a1.Epoch, ckI a1.Height, ckV flB a1.Prev, ckV flB a1.State, ckV flB a1.Next, ckL s2] 69, .cb g8 [ckI a2.Round, ckL s3] 71, .cb g63 [ckI a2.Round, ckL s62] 71, .own s226 35 41 gg228, .cb g230 [ckI a2.Round, ckL s226] 71] := hI
                    refine dend (by kernel_rfl) ?_
                    obtain rfl := Option.some.inj hF
                    exact wmid ⟨H227, s226, g230, (((hleH214.trans hleH217).trans hleH222).trans hleH227), h74, h75, h76, h77, rfl, hs226, (hI.keep [true, true, true, true, false, true])⟩
                  · skip
                    refine do_e rfl rfl (l_al hI rfl ze71) rfl ?_
                    rintro _ w234 ⟨g233, rfl, hI⟩
                    replace hI : Inv B w234 H222 [.cb g4 [ckI a0.Epoch, ckL s1] 64, .cb g6 [ckI a1.Epoch, ckI a1.Height, ckV flB a1.Prev, ckV flB a1.State, ckV flB a1.Next, ckL s2] 69, .cb g8 [ckI a2.Round, ckL s3] 71, .cb g63 [ckI a2.Round, ckL s62] 71, .own s221 35 41 gg223, .cb g233 [ckI 0, ckL Sv.nil] 71] := hI
                    refine ⟨(hI.good.weakm [true, true, true, true, false, false] ((hleH214.trans hleH217).trans hleH222) rfl), ?_⟩
                    obtain ⟨x235, hx235, hF⟩ := Option.bind_eq_some_iff.1 hF
                    refine de 12 (by kernel_rfl) rfl rfl rfl (l_app (t := ty_Vote) hI 4 rfl rfl sl22 inf35 rfl rfl rfl rfl hs221 ((hs213.mono hleH217).mono hleH222) (appI_some hx235).1) rfl ?_
                    rintro _ w239 ⟨s236, H237, gg238, rfl, hI, hleH237, hs236⟩
                    rw [← (appI_some hx235).2] at hs236
                    replace hI : Inv B w239 H237 [.cb g4 [ckI a0.Epoch, ckL s1] 64, .cb g6 [ckI a1.Epoch, ckI a1.Height, ckV flB a1.Prev, ckV flB a1.State, ckV flB a1.Next, ckL s2] 69, .cb g8 [ckI a2.Round, ckL s3] 71, .cb g63 [ckI a2.Round, ckL s62] 71, .own s236 35 41 gg238, .cb g233 [ckI 0, ckL Sv.nil] 71] := hI
                    refine ⟨(hI.good.weakm [true, true, true, true, false, false] (((hleH214.trans hleH217).trans hleH222).trans hleH237) rfl), ?_⟩
                    refine dp (v := .agg (flat [ckI a2.Round, ckL s236]).toArray) 13 (by kernel_rfl) rfl rfl (fun _ => r_bldk (z := [[ckI 0], [ckL Sv.nil]]) (pc := [(0, [ckI a2.Round]), (1, [ckL s236])]) rfl zg71 bf71 rfl (argc (congrArg Value.cells rfl) (argc (congrArg Value.cells rfl) rfl)) rfl rfl) rfl hP ?_
                    refine dsl 15 (by kernel_rfl) rfl rfl rfl (l_st (off := 0) (p := 0) (m := 2) (new := [ckI a2.Round, ckL s236]) hI 5 rfl rfl sz71 rfl rfl rfl rfl rfl rfl) rfl ?_
                    intro w240 hI
                    replace hI : Inv B w240 H237 [.cb g4 [ckI a0.Epoch, ckL s1] 64, .cb g6 [ckI a1.Epoch, ckI a1.Height, ckV flB a1.Prev, ckV flB a1.State, ckV flB a1.Next, ckL s2] 69, .cb g8 [ckI a2.Round, ckL s3] 71, .cb g63 [ckI a2.Round, ckL s62] 71, .own s236 35 41 gg238, .cb g233 [ckI a2.Round, ckL s236] 71] := hI
                    refine dend (by kernel_rfl) ?_
                    obtain rfl := Option.some.inj hF
                    exact wmid ⟨H237, s236, g233, (((hleH214.trans hleH217).trans hleH222).trans hleH237), h74, h75, h76, h77, rfl, hs236, (hI.keep [true, true, true, true, false, true])⟩
                · skip
                  refine do_e rfl rfl (l_al hI rfl ze71) rfl ?_
                  rintro _ w242 ⟨g241, rfl, hI⟩
                  replace hI : Inv B w242 H217 [.cb g4 [ckI a0.Epoch, ckL s1] 64, .cb g6 [ckI a1.Epoch, ckI a1.Height, ckV flB a1.Prev, ckV flB a1.State, ckV flB a1.Next, ckL s2] 69, .cb g8 [ckI a2.Round, ckL s3] 71, .cb g63 [ckI a2.Round, ckL s62] 71, .cb g241 [ckI 0, ckL Sv.nil] 71] := hI
                  refine ⟨(hI.good.weakm [true, true, true, true, false] (hleH214.trans hleH217) rfl), ?_⟩
                  replace hI := Inv.full (e := 35) (sz := 41) hI (show s216.n = s216.c from hfs216)
                  replace hI : Inv B w242 H217 [.cb g4 [ckI a0.Epoch, ckL s1] 64, .cb g6 [ckI a1.Epoch, ckI a1.Height, ckV flB a1.Prev, ckV flB a1.State, ckV flB a1.Next, ckL s2] 69, .cb g8 [ckI a2.Round, ckL s3] 71, .cb g63 [ckI a2.Round, ckL s62] 71, .cb g241 [ckI 0, ckL Sv.nil] 71, .own s216 35 41 none] := hI
                  obtain ⟨x244, hx244, hF⟩ := Option.bind_eq_some_iff.1 hF
                  refine de 5 (by kernel_rfl) rfl rfl rfl (l_app (t := ty_Vote) hI 5 rfl rfl sl22 inf35 rfl rfl rfl rfl hs216 ((((((hs3.mono hleH16).mono hleH27).mono hleH40).mono hleH51).mono hleH214).mono hleH217) (appI_some hx244).1) rfl ?_
                  rintro _ w248 ⟨s245, H246, gg247, rfl, hI, hleH246, hs245⟩
                  rw [← (appI_some hx244).2] at hs245
                  replace hI : Inv B w248 H246 [.cb g4 [ckI a0.Epoch, ckL s1] 64, .cb g6 [ckI a1.Epoch, ckI a1.Height, ckV flB a1.Prev, ckV flB a1.State, ckV flB a1.Next, ckL s2] 69, .cb g8 [ckI a2.Round, ckL s3] 71, .cb g63 [ckI a2.Round, ckL s62] 71, .cb g241 [ckI 0, ckL Sv.nil] 71, .own s245 35 41 gg247] := hI
                  refine ⟨(hI.good.weakm [true, true, true, true, false, false] ((hleH214.trans hleH217).trans hleH246) rfl), ?_⟩
                  obtain ⟨x249, hx249, hF⟩ := Option.bind_eq_some_iff.1 hF
                  refine de 12 (by kernel_rfl) rfl rfl rfl (l_app (t := ty_Vote) hI 5 rfl rfl sl22 inf35 rfl rfl rfl rfl hs245 ((hs213.mono hleH217).mono hleH246) (appI_some hx249).1) rfl ?_
                  rintro _ w253 ⟨s250, H251, gg252, rfl, hI, hleH251, hs250⟩
                  rw [← (appI_some hx249).2] at hs250
                  replace hI : Inv B w253 H251 [.cb g4 [ckI a0.Epoch, ckL s1] 64, .cb g6 [ckI a1.Epoch, ckI a1.Height, ckV flB a1.Prev, ckV flB a1.State, ckV flB a1.Next, ckL s2] 69, .cb g8 [ckI a2.Round, ckL s3] 71, .cb g63 [ckI a2.Round, ckL s62] 71, .cb g241 [ckI 0, ckL Sv.nil] 71, .own s250 35 41 gg252] := hI
                  refine ⟨(hI.good.weakm [true, true, true, true, false, false] (((hleH214.trans hleH217).trans hleH246).trans hleH251) rfl), ?_⟩
                  refine dp (v := .agg (flat [ckI a2.Round, ckL s250]).toArray) 13 (by kernel_rfl) rfl rfl (fun _ => r_bldk (z := [[ckI 0], [ckL Sv.nil]]) (pc := [(0, [ckI a2.Round]), (1, [ckL s250])]) rfl zg71 bf71 rfl (argc (congrArg Value.cells rfl) (argc (congrArg Value.cells rfl) rfl)) rfl rfl) rfl hP ?_
                  refine dsl 15 (by kernel_rfl) rfl rfl rfl (l_st (off := 0) (p := 0) (m := 2) (new := [ckI a2.Round, ckL s250]) hI 4 rfl rfl sz71 rfl rfl rfl rfl rfl rfl) rfl ?_
                  intro w254 hI
                  replace hI : Inv B w254 H251 [.cb g4 [ckI a0.Epoch, ckL s1] 64, .cb g6 [ckI a1.Epoch, ckI a1.Height, ckV flB a1.Prev, ckV flB a1.State, ckV flB a1.Next, ckL s2] 69, .cb g8 [ckI a2.Round, ckL s3] 71, .cb g63 [ckI a2.Round, ckL s62] 71, .cb g241 [ckI a2.Round, ckL s250] 71, .own s250 35 41 gg252] := hI
                  refine dend (by kernel_rfl) ?_
                  obtain rfl := Option.some.inj hF
                  exact wmid ⟨H251, s250, g241, (((hleH214.trans hleH217).trans hleH246).trans hleH251), h74, h75, h76, h77, rfl, hs250, (hI.keep [true, true, true, true, true, false])⟩
              · skip
                refine do_e rfl rfl (l_al hI rfl ze71) rfl ?_
                rintro _ w256 ⟨g255, rfl, hI⟩
                replace hI : Inv B w256 H214 [.cb g4 [ckI a0.Epoch, ckL s1] 64, .cb g6 [ckI a1.Epoch, ckI a1.Height, ckV flB a1.Prev, ckV flB a1.State, ckV flB a1.Next, ckL s2] 69, .cb g8 [ckI a2.Round, ckL s3] 71, .cb g63 [ckI a2.Round, ckL s62] 71, .cb g255 [ckI 0, ckL Sv.nil] 71] := hI
                refine ⟨(hI.good.weakm [true, true, true, true, false] hleH214 rfl), ?_⟩
                refine de 2 (by kernel_rfl) rfl rfl rfl (l_bs (t := ty_Vote) (vs := []) (xs := []) hI rfl sl22 inf35 rfl rfl rfl .nil rfl) rfl ?_
                rintro _ w259 ⟨s257, H258, rfl, hI, hleH258, hs257, hfs257, hgs257⟩
                refine ⟨(hI.good.weakm [true, true, true, true, false] (hleH214.trans hleH258) rfl), ?_⟩
                replace hI := Inv.full (e := 35) (sz := 41) hI (show s257.n = s257.c from hfs257)
                replace hI : Inv B w259 H258 [.cb g4 [ckI a0.Epoch, ckL s1] 64, .cb g6 [ckI a1.Epoch, ckI a1.Height, ckV flB a1.Prev, ckV flB a1.State, ckV flB a1.Next, ckL s2] 69, .cb g8 [ckI a2.Round, ckL s3] 71, .cb g63 [ckI a2.Round, ckL s62] 71, .cb g255 [ckI 0, ckL Sv.nil] 71, .own s257 35 41 none] := hI
                obtain ⟨x261, hx261, hF⟩ := Option.bind_eq_some_iff.1 hF
                refine de 5 (by kernel_rfl) rfl rfl rfl (l_app (t := ty_Vote) hI 5 rfl rfl sl22 inf35 rfl rfl rfl rfl hs257 ((((((hs3.mono hleH16).mono hleH27).mono hleH40).mono hleH51).mono hleH214).mono hleH258) (appI_some hx261).1) rfl ?_
                rintro _ w265 ⟨s262, H263, gg264, rfl, hI, hleH263, hs262⟩
                rw [← (appI_some hx261).2] at hs262
                replace hI : Inv B w265 H263 [.cb g4 [ckI a0.Epoch, ckL s1] 64, .cb g6 [ckI a1.Epoch, ckI a1.Height, ckV flB a1.Prev, ckV flB a1.State, ckV flB a1.Next, ckL s2] 69, .cb g8 [ckI a2.Round, ckL s3] 71, .cb g63 [ckI a2.Round, ckL s62] 71, .cb g255 [ckI 0, ckL Sv.nil] 71, .own s262 35 41 gg264] := hI
                refine ⟨(hI.good.weakm [true, true, true, true, false, false] ((hleH214.trans hleH258).trans hleH263) rfl), ?_⟩
                obtain ⟨x266, hx266, hF⟩ := Option.bind_eq_some_iff.1 hF
                refine de 12 (by kernel_rfl) rfl rfl rfl (l_app (t := ty_Vote) hI 5 rfl rfl sl22 inf35 rfl rfl rfl rfl hs262 ((hs213.mono hleH258).mono hleH263) (appI_some hx266).1) rfl ?_
                rintro _ w270 ⟨s267, H268, gg269, rfl, hI, hleH268, hs267⟩
                rw [← (appI_some hx266).2] at hs267
                replace hI : Inv B w270 H268 [.cb g4 [ckI a0.Epoch, ckL s1] 64, .cb g6 [ckI a1.Epoch, ckI a1.Height, ckV flB a1.Prev, ckV flB a1.State, ckV flB a1.Next, ckL s2] 69, .cb g8 [ckI a2.Round, ckL s3] 71, .cb g63 [ckI a2.Round, ckL s62] 71, .cb g255 [ckI 0, ckL Sv.nil] 71, .own s267 35 41 gg269] := hI
                refine ⟨(hI.good.weakm [true, true, true, true, false, false] (((hleH214.trans hleH258).trans hleH263).trans hleH268) rfl), ?_⟩
                refine dp (v := .agg (flat [ckI a2.Round, ckL s267]).toArray) 13 (by kernel_rfl) rfl rfl (fun _ => r_bldk (z := [[ckI 0], [ckL Sv.nil]]) (pc := [(0, [ckI a2.Round]), (1, [ckL s267])]) rfl zg71 bf71 rfl (argc (congrArg Value.cells rfl) (argc (congrArg Value.cells rfl) rfl)) rfl rfl) rfl hP ?_
                refine dsl 15 (by kernel_rfl) rfl rfl rfl (l_st (off := 0) (p := 0) (m := 2) (new := [ckI a2.Round, ckL s267]) hI 4 rfl rfl sz71 rfl rfl rfl rfl rfl rfl) rfl ?_
                intro w271 hI
                replace hI : Inv B w271 H268 [.cb g4 [ckI a0.Epoch, ckL s1] 64, .cb g6 [ckI a1.Epoch, ckI a1.Height, ckV flB a1.Prev, ckV flB a1.State, ckV flB a1.Next, ckL s2] 69, .cb g8 [ckI a2.Round, ckL s3] 71, .cb g63 [ckI a2.Round, ckL s62] 71, .cb g255 [ckI a2.Round, ckL s267] 71, .own s267 35 41 gg269] := hI
                refine dend (by kernel_rfl) ?_
                obtain rfl := Option.some.inj hF
                exact wmid ⟨H268, s267, g255, (((hleH214.trans hleH258).trans hleH263).trans hleH268), h74, h75, h76, h77, rfl, hs267, (hI.keep [true, true, true, true, true, false])⟩
            · skip
              refine do_e rfl rfl (l_al hI rfl ze71) rfl ?_
              rintro _ w273 ⟨g272, rfl, hI⟩
              replace hI : Inv B w273 H51 [.cb g4 [ckI a0.Epoch, ckL s1] 64, .cb g6 [ckI a1.Epoch, ckI a1.Height, ckV flB a1.Prev, ckV flB a1.State, ckV flB a1.Next, ckL s2] 69, .cb g8 [ckI a2.Round, ckL s3] 71, .cb g63 [ckI a2.Round, ckL s62] 71, .cb g272 [ckI 0, ckL Sv.nil] 71] := hI
              refine ⟨(hI.good.weakm [true, true, true, true, false] (Hle.refl _) rfl), ?_⟩
              refine dtwo 2 11 (by kernel_rfl) ?_ ?_
              · skip
                refine do_e rfl rfl (l_bs (t := ty_Vote) (vs := []) (xs := []) hI rfl sl22 inf35 rfl rfl rfl .nil rfl) rfl ?_
                rintro _ w276 ⟨s274, H275, rfl, hI, hleH275, hs274, hfs274, hgs274⟩
                refine ⟨(hI.good.weakm [true, true, true, true, false] hleH275 rfl), ?_⟩
                refine dtwo 5 11 (by kernel_rfl) ?_ ?_
                · skip
                  replace hI := Inv.full (e := 35) (sz := 41) hI (show s274.n = s274.c from hfs274)
                  replace hI : Inv B w276 H275 [.cb g4 [ckI a0.Epoch, ckL s1] 64, .cb g6 [ckI a1.Epoch, ckI a1.Height, ckV flB a1.Prev, ckV flB a1.State, ckV flB a1.Next, ckL s2] 69, .cb g8 [ckI a2.Round, ckL s3] 71, .cb g63 [ckI a2.Round, ckL s62] 71, .cb g272 [ckI 0, ckL Sv.nil] 71, .own s274 35 41 none] := hI
                  obtain ⟨x278, hx278, hF⟩ := Option.bind_eq_some_iff.1 hF
                  refine do_e rfl rfl (l_app (t := ty_Vote) hI 5 rfl rfl sl22 inf35 rfl rfl rfl rfl hs274 (((((hs3.mono hleH16).mono hleH27).mono hleH40).mono hleH51).mono hleH275) (appI_some hx278).1) rfl ?_
                  rintro _ w282 ⟨s279, H280, gg281, rfl, hI, hleH280, hs279⟩
                  rw [← (appI_some hx278).2] at hs279
                  replace hI : Inv B w282 H280 [.cb g4 [ckI a0.Epoch, ckL s1] 64, .cb g6 [ckI a1.Epoch, ckI a1.Height, ckV flB a1.Prev, ckV flB a1.State, ckV flB a1.Next, ckL s2] 69, .cb g8 [ckI a2.Round, ckL s3] 71, .cb g63 [ckI a2.Round, ckL s62] 71, .cb g272 [ckI 0, ckL Sv.nil] 71, .own s279 35 41 gg281] := hI
                  refine ⟨(hI.good.weakm [true, true, true, true, false, false] (hleH275.trans hleH280) rfl), ?_⟩
                  refine de 11 (by kernel_rfl) rfl rfl rfl (l_bs (t := ty_Vote) (vs := [.agg (flat [ckI x94.Kind, ckI x94.Epoch, ckI x94.Height, ckI x94.Round, ckV flB x94.Digest, ckI x94.From, ckI x94.Sig.Leaf, ckL s100, ckL s101, ckL s102]).toArray]) (xs := [x94]) hI rfl sl22 inf35 rfl rfl (argc rfl rfl) (.cons rfl ⟨s100, s101, s102, rfl, ((hs100.mono hleH275).mono hleH280), ((hs101.mono hleH275).mono hleH280), ((hs102.mono hleH275).mono hleH280)⟩ .nil) rfl) rfl ?_
                  rintro _ w285 ⟨s283, H284, rfl, hI, hleH284, hs283, hfs283, hgs283⟩
                  refine ⟨(hI.good.weakm [true, true, true, true, false, false] ((hleH275.trans hleH280).trans hleH284) rfl), ?_⟩
                  obtain ⟨x286, hx286, hF⟩ := Option.bind_eq_some_iff.1 hF
                  refine de 12 (by kernel_rfl) rfl rfl rfl (l_app (t := ty_Vote) hI 5 rfl rfl sl22 inf35 rfl rfl rfl rfl (hs279.mono hleH284) hs283 (appI_some hx286).1) rfl ?_
                  rintro _ w290 ⟨s287, H288, gg289, rfl, hI, hleH288, hs287⟩
                  rw [← (appI_some hx286).2] at hs287
                  replace hI : Inv B w290 H288 [.cb g4 [ckI a0.Epoch, ckL s1] 64, .cb g6 [ckI a1.Epoch, ckI a1.Height, ckV flB a1.Prev, ckV flB a1.State, ckV flB a1.Next, ckL s2] 69, .cb g8 [ckI a2.Round, ckL s3] 71, .cb g63 [ckI a2.Round, ckL s62] 71, .cb g272 [ckI 0, ckL Sv.nil] 71, .own s287 35 41 gg289] := hI
                  refine ⟨(hI.good.weakm [true, true, true, true, false, false] (((hleH275.trans hleH280).trans hleH284).trans hleH288) rfl), ?_⟩
                  refine dp (v := .agg (flat [ckI a2.Round, ckL s287]).toArray) 13 (by kernel_rfl) rfl rfl (fun _ => r_bldk (z := [[ckI 0], [ckL Sv.nil]]) (pc := [(0, [ckI a2.Round]), (1, [ckL s287])]) rfl zg71 bf71 rfl (argc (congrArg Value.cells rfl) (argc (congrArg Value.cells rfl) rfl)) rfl rfl) rfl hP ?_
                  refine dsl 15 (by kernel_rfl) rfl rfl rfl (l_st (off := 0) (p := 0) (m := 2) (new := [ckI a2.Round, ckL s287]) hI 4 rfl rfl sz71 rfl rfl rfl rfl rfl rfl) rfl ?_
                  intro w291 hI
                  replace hI : Inv B w291 H288 [.cb g4 [ckI a0.Epoch, ckL s1] 64, .cb g6 [ckI a1.Epoch, ckI a1.Height, ckV flB a1.Prev, ckV flB a1.State, ckV flB a1.Next, ckL s2] 69, .cb g8 [ckI a2.Round, ckL s3] 71, .cb g63 [ckI a2.Round, ckL s62] 71, .cb g272 [ckI a2.Round, ckL s287] 71, .own s287 35 41 gg289] := hI
                  refine dend (by kernel_rfl) ?_
                  obtain rfl := Option.some.inj hF
                  exact wmid ⟨H288, s287, g272, (((hleH275.trans hleH280).trans hleH284).trans hleH288), h74, h75, h76, h77, rfl, hs287, (hI.keep [true, true, true, true, true, false])⟩
                · skip
                  refine do_e rfl rfl (l_bs (t := ty_Vote) (vs := [.agg (flat [ckI x94.Kind, ckI x94.Epoch, ckI x94.Height, ckI x94.Round, ckV flB x94.Digest, ckI x94.From, ckI x94.Sig.Leaf, ckL s100, ckL s101, ckL s102]).toArray]) (xs := [x94]) hI rfl sl22 inf35 rfl rfl (argc rfl rfl) (.cons rfl ⟨s100, s101, s102, rfl, (hs100.mono hleH275), (hs101.mono hleH275), (hs102.mono hleH275)⟩ .nil) rfl) rfl ?_
                  rintro _ w294 ⟨s292, H293, rfl, hI, hleH293, hs292, hfs292, hgs292⟩
                  refine ⟨(hI.good.weakm [true, true, true, true, false] (hleH275.trans hleH293) rfl), ?_⟩
                  replace hI := Inv.full (e := 35) (sz := 41) hI (show s274.n = s274.c from hfs274)
                  replace hI : Inv B w294 H293 [.cb g4 [ckI a0.Epoch, ckL s1] 64, .cb g6 [ckI a1.Epoch, ckI a1.Height, ckV flB a1.Prev, ckV flB a1.State, ckV flB a1.Next, ckL s2] 69, .cb g8 [ckI a2.Round, ckL s3] 71, .cb g63 [ckI a2.Round, ckL s62] 71, .cb g272 [ckI 0, ckL Sv.nil] 71, .own s274 35 41 none] := hI
                  obtain ⟨x296, hx296, hF⟩ := Option.bind_eq_some_iff.1 hF
                  refine de 5 (by kernel_rfl) rfl rfl rfl (l_app (t := ty_Vote) hI 5 rfl rfl sl22 inf35 rfl rfl rfl rfl (hs274.mono hleH293) ((((((hs3.mono hleH16).mono hleH27).mono hleH40).mono hleH51).mono hleH275).mono hleH293) (appI_some hx296).1) rfl ?_
                  rintro _ w300 ⟨s297, H298, gg299, rfl, hI, hleH298, hs297⟩
                  rw [← (appI_some hx296).2] at hs297
                  replace hI : Inv B w300 H298 [.cb g4 [ckI a0.Epoch, ckL s1] 64, .cb g6 [ckI a1.Epoch, ckI a1.Height, ckV flB a1.Prev, ckV flB a1.State, ckV flB a1.Next, ckL s2] 69, .cb g8 [ckI a2.Round, ckL s3] 71, .cb g63 [ckI a2.Round, ckL s62] 71, .cb g272 [ckI 0, ckL Sv.nil] 71, .own s297 35 41 gg299] := hI
                  refine ⟨(hI.good.weakm [true, true, true, true, false, false] ((hleH275.trans hleH293).trans hleH298) rfl), ?_⟩
                  obtain ⟨x301, hx301, hF⟩ := Option.bind_eq_some_iff.1 hF
                  refine de 12 (by kernel_rfl) rfl rfl rfl (l_app (t := ty_Vote) hI 5 rfl rfl sl22 inf35 rfl rfl rfl rfl hs297 (hs292.mono hleH298) (appI_some hx301).1) rfl ?_
                  rintro _ w305 ⟨s302, H303, gg304, rfl, hI, hleH303, hs302⟩
                  rw [← (appI_some hx301).2] at hs302
                  replace hI : Inv B w305 H303 [.cb g4 [ckI a0.Epoch, ckL s1] 64, .cb g6 [ckI a1.Epoch, ckI a1.Height, ckV flB a1.Prev, ckV flB a1.State, ckV flB a1.Next, ckL s2] 69, .cb g8 [ckI a2.Round, ckL s3] 71, .cb g63 [ckI a2.Round, ckL s62] 71, .cb g272 [ckI 0, ckL Sv.nil] 71, .own s302 35 41 gg304] := hI
                  refine ⟨(hI.good.weakm [true, true, true, true, false, false] (((hleH275.trans hleH293).trans hleH298).trans hleH303) rfl), ?_⟩
                  refine dp (v := .agg (flat [ckI a2.Round, ckL s302]).toArray) 13 (by kernel_rfl) rfl rfl (fun _ => r_bldk (z := [[ckI 0], [ckL Sv.nil]]) (pc := [(0, [ckI a2.Round]), (1, [ckL s302])]) rfl zg71 bf71 rfl (argc (congrArg Value.cells rfl) (argc (congrArg Value.cells rfl) rfl)) rfl rfl) rfl hP ?_
                  refine dsl 15 (by kernel_rfl) rfl rfl rfl (l_st (off := 0) (p := 0) (m := 2) (new := [ckI a2.Round, ckL s302]) hI 4 rfl rfl sz71 rfl rfl rfl rfl rfl rfl) rfl ?_
                  intro w306 hI
                  replace hI : Inv B w306 H303 [.cb g4 [ckI a0.Epoch, ckL s1] 64, .cb g6 [ckI a1.Epoch, ckI a1.Height, ckV flB a1.Prev, ckV flB a1.State, ckV flB a1.Next, ckL s2] 69, .cb g8 [ckI a2.Round, ckL s3] 71, .cb g63 [ckI a2.Round, ckL s62] 71, .cb g272 [ckI a2.Round, ckL s302] 71, .own s302 35 41 gg304] := hI
                  refine dend (by kernel_rfl) ?_
                  obtain rfl := Option.some.inj hF
                  exact wmid ⟨H303, s302, g272, (((hleH275.trans hleH293).trans hleH298).trans hleH303), h74, h75, h76, h77, rfl, hs302, (hI.keep [true, true, true, true, true, false])⟩
              · skip
                refine do_e rfl rfl (l_bs (t := ty_Vote) (vs := [.agg (flat [ckI x94.Kind, ckI x94.Epoch, ckI x94.Height, ckI x94.Round, ckV flB x94.Digest, ckI x94.From, ckI x94.Sig.Leaf, ckL s100, ckL s101, ckL s102]).toArray]) (xs := [x94]) hI rfl sl22 inf35 rfl rfl (argc rfl rfl) (.cons rfl ⟨s100, s101, s102, rfl, hs100, hs101, hs102⟩ .nil) rfl) rfl ?_
                rintro _ w309 ⟨s307, H308, rfl, hI, hleH308, hs307, hfs307, hgs307⟩
                refine ⟨(hI.good.weakm [true, true, true, true, false] hleH308 rfl), ?_⟩
                refine de 2 (by kernel_rfl) rfl rfl rfl (l_bs (t := ty_Vote) (vs := []) (xs := []) hI rfl sl22 inf35 rfl rfl rfl .nil rfl) rfl ?_
                rintro _ w312 ⟨s310, H311, rfl, hI, hleH311, hs310, hfs310, hgs310⟩
                refine ⟨(hI.good.weakm [true, true, true, true, false] (hleH308.trans hleH311) rfl), ?_⟩
                replace hI := Inv.full (e := 35) (sz := 41) hI (show s310.n = s310.c from hfs310)
                replace hI : Inv B w312 H311 [.cb g4 [ckI a0.Epoch, ckL s1] 64, .cb g6 [ckI a1.Epoch, ckI a1.Height, ckV flB a1.Prev, ckV flB a1.State, ckV flB a1.Next, ckL s2] 69, .cb g8 [ckI a2.Round, ckL s3] 71, .cb g63 [ckI a2.Round, ckL s62] 71, .cb g272 [ckI 0, ckL Sv.nil] 71, .own s310 35 41 none] := hI
                obtain ⟨x314, hx314, hF⟩ := Option.bind_eq_some_iff.1 hF
                refine de 5 (by kernel_rfl) rfl rfl rfl (l_app (t := ty_Vote) hI 5 rfl rfl sl22 inf35 rfl rfl rfl rfl hs310 ((((((hs3.mono hleH16).mono hleH27).mono hleH40).mono hleH51).mono hleH308).mono hleH311) (appI_some hx314).1) rfl ?_
                rintro _ w318 ⟨s315, H316, gg317, rfl, hI, hleH316, hs315⟩
                rw [← (appI_some hx314).2] at hs315
                replace hI : Inv B w318 H316 [.cb g4 [ckI a0.Epoch, ckL s1] 64, .cb g6 [ckI a1.Epoch, ckI a1.Height, ckV flB a1.Prev, ckV flB a1.State, ckV flB a1.Next, ckL s2] 69, .cb g8 [ckI a2.Round, ckL s3] 71, .cb g63 [ckI a2.Round, ckL s62] 71, .cb g272 [ckI 0, ckL Sv.nil] 71, .own s315 35 41 gg317] := hI
                refine ⟨(hI.good.weakm [true, true, true, true, false, false] ((hleH308.trans hleH311).trans hleH316) rfl), ?_⟩
                obtain ⟨x319, hx319, hF⟩ := Option.bind_eq_some_iff.1 hF
                refine de 12 (by kernel_rfl) rfl rfl rfl (l_app (t := ty_Vote) hI 5 rfl rfl sl22 inf35 rfl rfl rfl rfl hs315 ((hs307.mono hleH311).mono hleH316) (appI_some hx319).1) rfl ?_
                rintro _ w323 ⟨s320, H321, gg322, rfl, hI, hleH321, hs320⟩
                rw [← (appI_some hx319).2] at hs320
                replace hI : Inv B w323 H321 [.cb g4 [ckI a0.Epoch, ckL s1] 64, .cb g6 [ckI a1.Epoch, ckI a1.Height, ckV flB a1.Prev, ckV flB a1.State, ckV flB a1.Next, ckL s2] 69, .cb g8 [ckI a2.Round, ckL s3] 71, .cb g63 [ckI a2.Round, ckL s62] 71, .cb g272 [ckI 0, ckL Sv.nil] 71, .own s320 35 41 gg322] := hI
                refine ⟨(hI.good.weakm [true, true, true, true, false, false] (((hleH308.trans hleH311).trans hleH316).trans hleH321) rfl), ?_⟩
                refine dp (v := .agg (flat [ckI a2.Round, ckL s320]).toArray) 13 (by kernel_rfl) rfl rfl (fun _ => r_bldk (z := [[ckI 0], [ckL Sv.nil]]) (pc := [(0, [ckI a2.Round]), (1, [ckL s320])]) rfl zg71 bf71 rfl (argc (congrArg Value.cells rfl) (argc (congrArg Value.cells rfl) rfl)) rfl rfl) rfl hP ?_
                refine dsl 15 (by kernel_rfl) rfl rfl rfl (l_st (off := 0) (p := 0) (m := 2) (new := [ckI a2.Round, ckL s320]) hI 4 rfl rfl sz71 rfl rfl rfl rfl rfl rfl) rfl ?_
                intro w324 hI
                replace hI : Inv B w324 H321 [.cb g4 [ckI a0.Epoch, ckL s1] 64, .cb g6 [ckI a1.Epoch, ckI a1.Height, ckV flB a1.Prev, ckV flB a1.State, ckV flB a1.Next, ckL s2] 69, .cb g8 [ckI a2.Round, ckL s3] 71, .cb g63 [ckI a2.Round, ckL s62] 71, .cb g272 [ckI a2.Round, ckL s320] 71, .own s320 35 41 gg322] := hI
                refine dend (by kernel_rfl) ?_
                obtain rfl := Option.some.inj hF
                exact wmid ⟨H321, s320, g272, (((hleH308.trans hleH311).trans hleH316).trans hleH321), h74, h75, h76, h77, rfl, hs320, (hI.keep [true, true, true, true, true, false])⟩
          rintro ρ86 w83 ⟨H82, s84, g85, hleH82, h87, h88, h89, h90, h91, hs84, hI⟩
          refine wseq ?_
          refine wreg ?_
          refine lv (v := .pointer (some ⟨g8, 0 + 0, none⟩)) rfl (l_fa (j := 0) (i := 0) rfl fl71_0 h89 rfl) rfl ?_
          refine lv (v := .int .i64 a2.Round) rfl (r_cl1 (off := 0) (p := 0) (hI.good.ca 2 rfl) rfl sc3 rfl rfl rfl) rfl ?_
          refine lv (v := .agg (flat [ckI a2.Round, ckL Sv.nil]).toArray) rfl (r_bldk (z := [[ckI 0], [ckL Sv.nil]]) (pc := [(0, [ckI a2.Round])]) rfl zg71 bf71 rfl (argc (congrArg Value.cells rfl) rfl) rfl rfl) rfl ?_
          refine le rfl (l_al hI rfl ze71) rfl ?_
          rintro _ w326 ⟨g325, rfl, hI⟩
          replace hI : Inv B w326 H82 [.cb g4 [ckI a0.Epoch, ckL s1] 64, .cb g6 [ckI a1.Epoch, ckI a1.Height, ckV flB a1.Prev, ckV flB a1.State, ckV flB a1.Next, ckL s2] 69, .cb g8 [ckI a2.Round, ckL s3] 71, .cb g63 [ckI a2.Round, ckL s62] 71, .cb g85 [ckI a2.Round, ckL s84] 71, .cb g325 [ckI 0, ckL Sv.nil] 71] := hI
          refine lst rfl (l_st (off := 0) (p := 0) (m := 2) (new := [ckI a2.Round, ckL Sv.nil]) hI 5 rfl rfl sz71 rfl rfl rfl rfl rfl rfl) rfl ?_
          intro w327 hI
          replace hI : Inv B w327 H82 [.cb g4 [ckI a0.Epoch, ckL s1] 64, .cb g6 [ckI a1.Epoch, ckI a1.Height, ckV flB a1.Prev, ckV flB a1.State, ckV flB a1.Next, ckL s2] 69, .cb g8 [ckI a2.Round, ckL s3] 71, .cb g63 [ckI a2.Round, ckL s62] 71, .cb g85 [ckI a2.Round, ckL s84] 71, .cb g325 [ckI a2.Round, ckL Sv.nil] 71] := hI
          refine wend ?_
          refine wthen ?_
          refine wren (fun ρ328 eρ328 => ?_)
          have h329 : opd ρ328 108 (.tmp 4) = .pointer (some ⟨g4, 0 + 0, none⟩) := (eρ328 4).trans h87
          have h330 : opd ρ328 108 (.tmp 5) = .pointer (some ⟨g6, 0 + 0, none⟩) := (eρ328 5).trans h88
          have h331 : opd ρ328 108 (.tmp 6) = .pointer (some ⟨g8, 0 + 0, none⟩) := (eρ328 6).trans h89
          have h332 : opd ρ328 108 (.tmp 10) = .pointer (some ⟨g63, 0 + 0, none⟩) := (eρ328 10).trans h90
          have h333 : opd ρ328 108 (.tmp 12) = .pointer (some ⟨g85, 0 + 0, none⟩) := (eρ328 12).trans h91
          have h334 : opd ρ328 108 (.tmp 13) = .pointer (some ⟨g325, 0 + 0, none⟩) := eρ328 13
          clear eρ328
          refine wseq ?_
          refine wseq ?_
          refine wreg ?_
          refine lv (v := .pointer (some ⟨g8, 0 + 1, none⟩)) rfl (l_fa (j := 0) (i := 0) rfl fl71_1 h331 rfl) rfl ?_
          refine lv (v := s3.v) rfl (r_cl1 (off := 1) (p := 1) (hI.good.ca 2 rfl) rfl sc22 rfl rfl rfl) rfl ?_
          refine lv (v := .int .i64 (a2.Votes.length : Int)) rfl (r_lenS rfl sl22 rfl (((((hs3.mono hleH16).mono hleH27).mono hleH40).mono hleH51).mono hleH82)) rfl ?_
          refine lv (v := .int .i64 (wI ((a2.Votes.length : Int) - 1))) rfl (r_subw rfl rfl rfl) rfl ?_
          refine lv (v := .int .i64 (wI ((a2.Votes.length : Int) - 1))) rfl (r_as rfl rfl) rfl ?_
          refine wend ?_
          refine wthen ?_
          refine wren (fun ρ335 eρ335 => ?_)
          have h336 : opd ρ335 108 (.tmp 4) = .pointer (some ⟨g4, 0 + 0, none⟩) := (eρ335 4).trans h329
          have h337 : opd ρ335 108 (.tmp 5) = .pointer (some ⟨g6, 0 + 0, none⟩) := (eρ335 5).trans h330
          have h338 : opd ρ335 108 (.tmp 6) = .pointer (some ⟨g8, 0 + 0, none⟩) := (eρ335 6).trans h331
          have h339 : opd ρ335 108 (.tmp 10) = .pointer (some ⟨g63, 0 + 0, none⟩) := (eρ335 10).trans h332
          have h340 : opd ρ335 108 (.tmp 12) = .pointer (some ⟨g85, 0 + 0, none⟩) := (eρ335 12).trans h333
          have h341 : opd ρ335 108 (.tmp 13) = .pointer (some ⟨g325, 0 + 0, none⟩) := (eρ335 13).trans h334
          have h342 : opd ρ335 108 (.tmp 14) = .int .i64 (wI ((a2.Votes.length : Int) - 1)) := eρ335 14
          clear eρ335
          refine wp_block ?_
          replace hI := Inv.full (e := 35) (sz := 41) hI (show Sv.nil.n = Sv.nil.c from rfl)
          replace hI : Inv B w327 H82 [.cb g4 [ckI a0.Epoch, ckL s1] 64, .cb g6 [ckI a1.Epoch, ckI a1.Height, ckV flB a1.Prev, ckV flB a1.State, ckV flB a1.Next, ckL s2] 69, .cb g8 [ckI a2.Round, ckL s3] 71, .cb g63 [ckI a2.Round, ckL s62] 71, .cb g85 [ckI a2.Round, ckL s84] 71, .cb g325 [ckI a2.Round, ckL Sv.nil] 71, .own Sv.nil 35 41 none] := hI
          refine wrun (n := 108) _ (fun (σ343 : Int × (List Vote)) ρ' w' => ∃ (H451 : Hp) (s449 : Sv) (gg450 : Option Nat), Hle H82 H451 ∧ opd ρ' 108 (.tmp 4) = .pointer (some ⟨g4, 0 + 0, none⟩) ∧ opd ρ' 108 (.tmp 5) = .pointer (some ⟨g6, 0 + 0, none⟩) ∧ opd ρ' 108 (.tmp 6) = .pointer (some ⟨g8, 0 + 0, none⟩) ∧ opd ρ' 108 (.tmp 10) = .pointer (some ⟨g63, 0 + 0, none⟩) ∧ opd ρ' 108 (.tmp 12) = .pointer (some ⟨g85, 0 + 0, none⟩) ∧ opd ρ' 108 (.tmp 13) = .pointer (some ⟨g325, 0 + 0, none⟩) ∧ opd ρ' 108 (.tmp 14) = .int .i64 σ343.1 ∧ Sl ty_Vote H451 s449 σ343.2 ∧ Inv B w' H451 [.cb g4 [ckI a0.Epoch, ckL s1] 64, .cb g6 [ckI a1.Epoch, ckI a1.Height, ckV flB a1.Prev, ckV flB a1.State, ckV flB a1.Next, ckL s2] 69, .cb g8 [ckI a2.Round, ckL s3] 71, .cb g63 [ckI a2.Round, ckL s62] 71, .cb g85 [ckI a2.Round, ckL s84] 71, .cb g325 [ckI a2.Round, ckL s449] 71, .own s449 35 41 gg450]) hF ⟨H82, Sv.nil, none, (Hle.refl _), h336, h337, h338, h339, h340, h341, h342, (Sl.nil _ _), hI⟩ ?_
          rintro k343 σ343 ρ459 w460 ⟨H451, s449, gg450, hleH451, h452, h453, h454, h455, h456, h457, h458, hs449, hI⟩ hy343
          obtain ⟨z343, hb343⟩ := iterK_body hy343
          have hF := hb343
          refine wseq ?_
          refine wseq ?_
          refine wreg ?_
          refine lv (v := .int .i64 σ343.1) rfl (r_mv rfl h458) rfl ?_
          refine lv (v := .bool (decide ((0 : Int) ≤ σ343.1))) rfl (r_geq rfl rfl rfl rfl) rfl ?_
          refine wend ?_
          refine wthen ?_
          refine wren (fun ρ461 eρ461 => ?_)
          have h462 : opd ρ461 108 (.tmp 4) = .pointer (some ⟨g4, 0 + 0, none⟩) := (eρ461 4).trans h452
          have h463 : opd ρ461 108 (.tmp 5) = .pointer (some ⟨g6, 0 + 0, none⟩) := (eρ461 5).trans h453
          have h464 : opd ρ461 108 (.tmp 6) = .pointer (some ⟨g8, 0 + 0, none⟩) := (eρ461 6).trans h454
          have h465 : opd ρ461 108 (.tmp 10) = .pointer (some ⟨g63, 0 + 0, none⟩) := (eρ461 10).trans h455
          have h466 : opd ρ461 108 (.tmp 12) = .pointer (some ⟨g85, 0 + 0, none⟩) := (eρ461 12).trans h456
          have h467 : opd ρ461 108 (.tmp 13) = .pointer (some ⟨g325, 0 + 0, none⟩) := (eρ461 13).trans h457
          have h468 : opd ρ461 108 (.tmp 14) = .int .i64 σ343.1 := (eρ461 14).trans h458
          have h469 : opd ρ461 108 (.tmp 70) = .bool (decide ((0 : Int) ≤ σ343.1)) := eρ461 70
          clear eρ461
          by_cases hc470 : (0 : Int) ≤ σ343.1
          · skip
            rw [if_pos hc470] at hF
            have hbhc470 : (decide ((0 : Int) ≤ σ343.1)) = true := decide_eq_true hc470
            refine wcT (h469.trans (congrArg Value.bool hbhc470)) ?_
            refine wp_skip ?_
            refine wthen ?_
            refine wseq ?_
            refine wp_block ?_
            refine dstG (H0 := H451) (L0 := keepL [true, true, true, true, true, true, true] [.cb g4 [ckI a0.Epoch, ckL s1] 64, .cb g6 [ckI a1.Epoch, ckI a1.Height, ckV flB a1.Prev, ckV flB a1.State, ckV flB a1.Next, ckL s2] 69, .cb g8 [ckI a2.Round, ckL s3] 71, .cb g63 [ckI a2.Round, ckL s62] 71, .cb g85 [ckI a2.Round, ckL s84] 71, .cb g325 [ckI a2.Round, ckL s449] 71, .own s449 35 41 gg450]) [8, 10] mixed rfl (by repeat (first | exact Pan.body | refine Pan.then ?_ | refine Pan.inBlock ?_ | refine Pan.noGoto ?_ | refine Pan.pure ?_)) hI (hI.good.weakm _ (Hle.refl _) rfl) ?_
            intro w471 hI hP
            refine dp (v := .pointer (some ⟨g325, 0 + 1, none⟩)) 0 (by kernel_rfl) rfl rfl (fun _ => l_fa (j := 0) (i := 0) rfl fl71_1 h467 rfl) rfl hP ?_
            refine dp (v := .pointer (some ⟨g8, 0 + 1, none⟩)) 2 (by kernel_rfl) rfl rfl (fun _ => l_fa (j := 0) (i := 0) rfl fl71_1 h464 rfl) rfl hP ?_
            refine dp (v := .int .i64 σ343.1) 4 (by kernel_rfl) rfl rfl (fun _ => r_mv rfl h468) rfl hP ?_
            refine dr (v := s449.v) 1 (by kernel_rfl) rfl rfl (hI.good.weakm [true, true, true, true, true, true, true] (Hle.refl _) rfl) (fun _ hG => r_cl1 (off := 1) (p := 1) (hG.ca 5 rfl) rfl sc22 rfl rfl rfl) rfl hP ?_
            refine dr (v := s3.v) 3 (by kernel_rfl) rfl rfl (hI.good.weakm [true, true, true, true, true, true, true] (Hle.refl _) rfl) (fun _ hG => r_cl1 (off := 1) (p := 1) (hG.ca 2 rfl) rfl sc22 rfl rfl rfl) rfl hP ?_
            obtain ⟨x472, hx472, hF⟩ := Option.bind_eq_some_iff.1 hF
            obtain ⟨b473, j474, _, hix475, hil476, ⟨s478, s479, s480, rfl, hs478, hs479, hs480⟩, hA477⟩ := ((((((hs3.mono hleH16).mono hleH27).mono hleH40).mono hleH51).mono hleH82).mono hleH451).ix (ixI_some hx472).1
            replace hA477 : At H451 b473 j474 [ckI x472.Kind, ckI x472.Epoch, ckI x472.Height, ckI x472.Round, ckV flB x472.Digest, ckI x472.From, ckI x472.Sig.Leaf, ckL s478, ckL s479, ckL s480] := hA477
            refine dp (v := .pointer (some ⟨b473, j474 + 0, none⟩)) 5 (by kernel_rfl) rfl rfl (fun _ => r_ixt rfl sl22 rfl rfl (ixI_some hx472).2 hix475 hil476) rfl hP ?_
            refine dr (v := .agg (flat [ckI x472.Kind, ckI x472.Epoch, ckI x472.Height, ckI x472.Round, ckV flB x472.Digest, ckI x472.From, ckI x472.Sig.Leaf, ckL s478, ckL s479, ckL s480]).toArray) 6 (by kernel_rfl) rfl rfl (hI.good.weakm [true, true, true, true, true, true, true] (Hle.refl _) rfl) (fun _ hG => r_cla (off := 0) (p := 0) (m := 10) (hA477.ca hG) rfl ag35 rfl rfl rfl) rfl hP ?_
            refine de 7 (by kernel_rfl) rfl rfl rfl (l_bs (t := ty_Vote) (vs := [.agg (flat [ckI x472.Kind, ckI x472.Epoch, ckI x472.Height, ckI x472.Round, ckV flB x472.Digest, ckI x472.From, ckI x472.Sig.Leaf, ckL s478, ckL s479, ckL s480]).toArray]) (xs := [x472]) hI rfl sl22 inf35 rfl rfl (argc rfl rfl) (.cons rfl ⟨s478, s479, s480, rfl, hs478, hs479, hs480⟩ .nil) rfl) rfl ?_
            rintro _ w483 ⟨s481, H482, rfl, hI, hleH482, hs481, hfs481, hgs481⟩
            refine ⟨(hI.good.weakm [true, true, true, true, true, true, true] hleH482 rfl), ?_⟩
            obtain ⟨x484, hx484, hF⟩ := Option.bind_eq_some_iff.1 hF
            refine del 8 (by kernel_rfl) rfl rfl rfl (l_app (t := ty_Vote) hI 6 rfl rfl sl22 inf35 rfl rfl rfl rfl (hs449.mono hleH482) hs481 (appI_some hx484).1) rfl ?_
            rintro _ w488 ⟨s485, H486, gg487, rfl, hI, hleH486, hs485⟩
            rw [← (appI_some hx484).2] at hs485
            replace hI : Inv B w488 H486 [.cb g4 [ckI a0.Epoch, ckL s1] 64, .cb g6 [ckI a1.Epoch, ckI a1.Height, ckV flB a1.Prev, ckV flB a1.State, ckV flB a1.Next, ckL s2] 69, .cb g8 [ckI a2.Round, ckL s3] 71, .cb g63 [ckI a2.Round, ckL s62] 71, .cb g85 [ckI a2.Round, ckL s84] 71, .cb g325 [ckI a2.Round, ckL s449] 71, .own s485 35 41 gg487] := hI
            refine dp (v := .pointer (some ⟨g325, 0 + 1, none⟩)) 9 (by kernel_rfl) rfl rfl (fun _ => l_fa (j := 0) (i := 0) rfl fl71_1 h467 rfl) rfl hP ?_
            refine dsl 10 (by kernel_rfl) rfl rfl rfl (l_st (off := 1) (p := 1) (m := 1) (new := [ckL s485]) hI 5 rfl rfl sz22 rfl rfl rfl rfl rfl rfl) rfl ?_
            intro w489 hI
            replace hI : Inv B w489 H486 [.cb g4 [ckI a0.Epoch, ckL s1] 64, .cb g6 [ckI a1.Epoch, ckI a1.Height, ckV flB a1.Prev, ckV flB a1.State, ckV flB a1.Next, ckL s2] 69, .cb g8 [ckI a2.Round, ckL s3] 71, .cb g63 [ckI a2.Round, ckL s62] 71, .cb g85 [ckI a2.Round, ckL s84] 71, .cb g325 [ckI a2.Round, ckL s485] 71, .own s485 35 41 gg487] := hI
            refine dend (by kernel_rfl) ?_
            refine inN ?_
            refine wthen ?_
            refine wren (fun ρ490 eρ490 => ?_)
            have h491 : opd ρ490 108 (.tmp 4) = .pointer (some ⟨g4, 0 + 0, none⟩) := (eρ490 4).trans h462
            have h492 : opd ρ490 108 (.tmp 5) = .pointer (some ⟨g6, 0 + 0, none⟩) := (eρ490 5).trans h463
            have h493 : opd ρ490 108 (.tmp 6) = .pointer (some ⟨g8, 0 + 0, none⟩) := (eρ490 6).trans h464
            have h494 : opd ρ490 108 (.tmp 10) = .pointer (some ⟨g63, 0 + 0, none⟩) := (eρ490 10).trans h465
            have h495 : opd ρ490 108 (.tmp 12) = .pointer (some ⟨g85, 0 + 0, none⟩) := (eρ490 12).trans h466
            have h496 : opd ρ490 108 (.tmp 13) = .pointer (some ⟨g325, 0 + 0, none⟩) := (eρ490 13).trans h467
            have h497 : opd ρ490 108 (.tmp 14) = .int .i64 σ343.1 := (eρ490 14).trans h468
            clear eρ490
            refine wreg ?_
            refine lv (v := .int .i64 σ343.1) rfl (r_mv rfl h497) rfl ?_
            refine lv (v := .int .i64 (wI (σ343.1 - 1))) rfl (r_subw rfl rfl rfl) rfl ?_
            refine lv (v := .int .i64 (wI (σ343.1 - 1))) rfl (r_as rfl rfl) rfl ?_
            refine wend ?_
            obtain rfl := Option.some.inj hF
            exact ⟨(wI (σ343.1 - 1), x484), _, rfl, ⟨H486, s485, gg487, ((hleH451.trans hleH482).trans hleH486), h491, h492, h493, h494, h495, h496, rfl, hs485, hI⟩, iterK_inl hy343 hb343⟩
          · skip
            rw [if_neg hc470] at hF
            have hbhc470 : (decide ((0 : Int) ≤ σ343.1)) = false := decide_eq_false hc470
            refine wcF (h469.trans (congrArg Value.bool hbhc470)) ?_
            refine wp_exit ?_
            refine thE ?_
            refine thE ?_
            obtain ⟨q498, hFn, hzq498⟩ := Option.map_eq_some_iff.1 hF
            clear hF
            have hy0 := iterK_inr hy343 (hb343.trans (congrArg some hzq498.symm))
            rw [← hy0] at hFn
            have hF := hFn
            clear hFn
            refine inX ?_
            refine wthen ?_
            refine wseq ?_
            refine wreg ?_
            refine lv (v := .agg (flat [ckI a0.Epoch, ckL s1]).toArray) rfl (r_cla (off := 0) (p := 0) (m := 2) (hI.good.ca 0 rfl) rfl ag64 h462 rfl rfl) rfl ?_
            refine lv (v := .agg (flat [ckI a1.Epoch, ckI a1.Height, ckV flB a1.Prev, ckV flB a1.State, ckV flB a1.Next, ckL s2]).toArray) rfl (r_cla (off := 0) (p := 0) (m := 6) (hI.good.ca 1 rfl) rfl ag69 h463 rfl rfl) rfl ?_
            refine lv (v := .agg (flat [ckI a2.Round, ckL s62]).toArray) rfl (r_cla (off := 0) (p := 0) (m := 2) (hI.good.ca 3 rfl) rfl ag71 h465 rfl rfl) rfl ?_
            obtain ⟨x499, hx499, hF⟩ := Option.bind_eq_some_iff.1 hF
            have hsp502 := spec_46 hx499 ((((((hT.mono hleH16).mono hleH27).mono hleH40).mono hleH51).mono hleH82).mono hleH451) (hI.part 0) ((((((hs1.mono hleH16).mono hleH27).mono hleH40).mono hleH51).mono hleH82).mono hleH451) ((((((hs2.mono hleH16).mono hleH27).mono hleH40).mono hleH51).mono hleH82).mono hleH451) ((hs62.mono hleH82).mono hleH451)
            refine fc ([]) ([.cb g4 [ckI a0.Epoch, ckL s1] 64, .cb g6 [ckI a1.Epoch, ckI a1.Height, ckV flB a1.Prev, ckV flB a1.State, ckV flB a1.Next, ckL s2] 69, .cb g8 [ckI a2.Round, ckL s3] 71, .cb g63 [ckI a2.Round, ckL s62] 71, .cb g85 [ckI a2.Round, ckL s84] 71, .cb g325 [ckI a2.Round, ckL s449] 71, .own s449 35 41 gg450]) (args := [.agg (flat [ckI a0.Epoch, ckL s1]).toArray, .agg (flat [ckI a1.Epoch, ckI a1.Height, ckV flB a1.Prev, ckV flB a1.State, ckV flB a1.Next, ckL s2]).toArray, .agg (flat [ckI a2.Round, ckL s62]).toArray]) fc46 rfl rfl rfl hI (argc rfl (argc rfl (argc rfl rfl))) (hsp502) ?_
            rintro _ H500 _ w501 ⟨rfl, rfl⟩ hleH500 hI
            replace hI : Inv B w501 H500 [.cb g4 [ckI a0.Epoch, ckL s1] 64, .cb g6 [ckI a1.Epoch, ckI a1.Height, ckV flB a1.Prev, ckV flB a1.State, ckV flB a1.Next, ckL s2] 69, .cb g8 [ckI a2.Round, ckL s3] 71, .cb g63 [ckI a2.Round, ckL s62] 71, .cb g85 [ckI a2.Round, ckL s84] 71, .cb g325 [ckI a2.Round, ckL s449] 71, .own s449 35 41 gg450] := hI
            refine lv (v := .bool (!x499)) rfl (r_not rfl rfl) rfl ?_
            by_cases hc503 : x499 = true
            · skip
              rw [if_pos hc503] at hF
              have hbhc503 : (!x499) = false := (by rw [hc503]; rfl)
              refine lv (v := .bool false) rfl (r_mv rfl ((show opd _ _ _ = _ from rfl).trans (congrArg Value.bool hbhc503))) rfl ?_
              with_reducible refine lx (d := 89) (by kernel_rfl) (by kernel_rfl) ?_
              with_reducible refine lx (d := 90) (by kernel_rfl) (by kernel_rfl) ?_
              with_reducible refine lx (d := 91) (by kernel_rfl) (by kernel_rfl) ?_
              with_reducible refine lx (d := 92) (by kernel_rfl) (by kernel_rfl) ?_
              with_reducible refine lx (d := 93) (by kernel_rfl) (by kernel_rfl) ?_
              refine lv (v := .bool false) rfl (r_pkF rfl rfl rfl) rfl ?_
              refine lv (v := .bool false) rfl (r_mv rfl rfl) rfl ?_
              with_reducible refine lx (d := 96) (by kernel_rfl) (by kernel_rfl) ?_
              with_reducible refine lx (d := 97) (by kernel_rfl) (by kernel_rfl) ?_
              with_reducible refine lx (d := 98) (by kernel_rfl) (by kernel_rfl) ?_
              with_reducible refine lx (d := 99) (by kernel_rfl) (by kernel_rfl) ?_
              with_reducible refine lx (d := 100) (by kernel_rfl) (by kernel_rfl) ?_
              with_reducible refine lx (d := 101) (by kernel_rfl) (by kernel_rfl) ?_
              with_reducible refine lx (d := 102) (by kernel_rfl) (by kernel_rfl) ?_
              with_reducible refine lx (d := 103) (by kernel_rfl) (by kernel_rfl) ?_
              with_reducible refine lx (d := 104) (by kernel_rfl) (by kernel_rfl) ?_
              with_reducible refine lx (d := 105) (by kernel_rfl) (by kernel_rfl) ?_
              with_reducible refine lx (d := 106) (by kernel_rfl) (by kernel_rfl) ?_
              refine lv (v := .bool false) rfl (r_pkF rfl rfl rfl) rfl ?_
              refine lv (v := .bool false) rfl (r_as rfl rfl) rfl ?_
              refine wend ?_
              refine wthen ?_
              refine wren (fun ρ504 eρ504 => ?_)
              have h505 : opd ρ504 108 (.tmp 8) = .bool false := eρ504 8
              clear eρ504
              refine wp_ret ?_
              obtain rfl := Option.some.inj hF
              subst hB
              refine finR (rs := [.tmp 8]) (vs := [.bool false]) rfl ⟨h505, trivial⟩ ?_
              exact hI.fin 0 ⟨rfl, rfl⟩
            · skip
              rw [if_neg hc503] at hF
              have hbhc503 : (!x499) = true := (by rw [(Bool.eq_false_iff.2 hc503)]; rfl)
              refine lv (v := .bool true) rfl (r_mv rfl ((show opd _ _ _ = _ from rfl).trans (congrArg Value.bool hbhc503))) rfl ?_
              refine lv (v := .agg (flat [ckI a0.Epoch, ckL s1]).toArray) rfl (r_cla (off := 0) (p := 0) (m := 2) (hI.good.ca 0 rfl) rfl ag64 h462 rfl rfl) rfl ?_
              refine lv (v := .agg (flat [ckI a1.Epoch, ckI a1.Height, ckV flB a1.Prev, ckV flB a1.State, ckV flB a1.Next, ckL s2]).toArray) rfl (r_cla (off := 0) (p := 0) (m := 6) (hI.good.ca 1 rfl) rfl ag69 h463 rfl rfl) rfl ?_
              refine lv (v := .agg (flat [ckI a2.Round, ckL s84]).toArray) rfl (r_cla (off := 0) (p := 0) (m := 2) (hI.good.ca 4 rfl) rfl ag71 h466 rfl rfl) rfl ?_
              obtain ⟨x506, hx506, hF⟩ := Option.bind_eq_some_iff.1 hF
              have hsp509 := spec_46 hx506 (((((((hT.mono hleH16).mono hleH27).mono hleH40).mono hleH51).mono hleH82).mono hleH451).mono hleH500) (hI.part 0) (((((((hs1.mono hleH16).mono hleH27).mono hleH40).mono hleH51).mono hleH82).mono hleH451).mono hleH500) (((((((hs2.mono hleH16).mono hleH27).mono hleH40).mono hleH51).mono hleH82).mono hleH451).mono hleH500) ((hs84.mono hleH451).mono hleH500)
              refine fc ([]) ([.cb g4 [ckI a0.Epoch, ckL s1] 64, .cb g6 [ckI a1.Epoch, ckI a1.Height, ckV flB a1.Prev, ckV flB a1.State, ckV flB a1.Next, ckL s2] 69, .cb g8 [ckI a2.Round, ckL s3] 71, .cb g63 [ckI a2.Round, ckL s62] 71, .cb g85 [ckI a2.Round, ckL s84] 71, .cb g325 [ckI a2.Round, ckL s449] 71, .own s449 35 41 gg450]) (args := [.agg (flat [ckI a0.Epoch, ckL s1]).toArray, .agg (flat [ckI a1.Epoch, ckI a1.Height, ckV flB a1.Prev, ckV flB a1.State, ckV flB a1.Next, ckL s2]).toArray, .agg (flat [ckI a2.Round, ckL s84]).toArray]) fc46 rfl rfl rfl hI (argc rfl (argc rfl (argc rfl rfl))) (hsp509) ?_
              rintro _ H507 _ w508 ⟨rfl, rfl⟩ hleH507 hI
              replace hI : Inv B w508 H507 [.cb g4 [ckI a0.Epoch, ckL s1] 64, .cb g6 [ckI a1.Epoch, ckI a1.Height, ckV flB a1.Prev, ckV flB a1.State, ckV flB a1.Next, ckL s2] 69, .cb g8 [ckI a2.Round, ckL s3] 71, .cb g63 [ckI a2.Round, ckL s62] 71, .cb g85 [ckI a2.Round, ckL s84] 71, .cb g325 [ckI a2.Round, ckL s449] 71, .own s449 35 41 gg450] := hI
              refine lv (v := .bool (!x506)) rfl (r_not rfl rfl) rfl ?_
              refine lv (v := .bool (!x506)) rfl (r_pkT rfl rfl rfl) rfl ?_
              by_cases hc510 : x506 = true
              · skip
                rw [if_pos hc510] at hF
                have hbhc510 : (!x506) = false := (by rw [hc510]; rfl)
                refine lv (v := .bool false) rfl (r_mv rfl ((show opd _ _ _ = _ from rfl).trans (congrArg Value.bool hbhc510))) rfl ?_
                with_reducible refine lx (d := 96) (by kernel_rfl) (by kernel_rfl) ?_
                with_reducible refine lx (d := 97) (by kernel_rfl) (by kernel_rfl) ?_
                with_reducible refine lx (d := 98) (by kernel_rfl) (by kernel_rfl) ?_
                with_reducible refine lx (d := 99) (by kernel_rfl) (by kernel_rfl) ?_
                with_reducible refine lx (d := 100) (by kernel_rfl) (by kernel_rfl) ?_
                with_reducible refine lx (d := 101) (by kernel_rfl) (by kernel_rfl) ?_
                with_reducible refine lx (d := 102) (by kernel_rfl) (by kernel_rfl) ?_
                with_reducible refine lx (d := 103) (by kernel_rfl) (by kernel_rfl) ?_
                with_reducible refine lx (d := 104) (by kernel_rfl) (by kernel_rfl) ?_
                with_reducible refine lx (d := 105) (by kernel_rfl) (by kernel_rfl) ?_
                with_reducible refine lx (d := 106) (by kernel_rfl) (by kernel_rfl) ?_
                refine lv (v := .bool false) rfl (r_pkF rfl rfl rfl) rfl ?_
                refine lv (v := .bool false) rfl (r_as rfl rfl) rfl ?_
                refine wend ?_
                refine wthen ?_
                refine wren (fun ρ511 eρ511 => ?_)
                have h512 : opd ρ511 108 (.tmp 8) = .bool false := eρ511 8
                clear eρ511
                refine wp_ret ?_
                obtain rfl := Option.some.inj hF
                subst hB
                refine finR (rs := [.tmp 8]) (vs := [.bool false]) rfl ⟨h512, trivial⟩ ?_
                exact hI.fin 0 ⟨rfl, rfl⟩
              · skip
                rw [if_neg hc510] at hF
                have hbhc510 : (!x506) = true := (by rw [(Bool.eq_false_iff.2 hc510)]; rfl)
                refine lv (v := .bool true) rfl (r_mv rfl ((show opd _ _ _ = _ from rfl).trans (congrArg Value.bool hbhc510))) rfl ?_
                refine lv (v := .pointer (some ⟨g8, 0 + 1, none⟩)) rfl (l_fa (j := 0) (i := 0) rfl fl71_1 h464 rfl) rfl ?_
                refine lv (v := s3.v) rfl (r_cl1 (off := 1) (p := 1) (hI.good.ca 2 rfl) rfl sc22 rfl rfl rfl) rfl ?_
                refine lv (v := .int .i64 (a2.Votes.length : Int)) rfl (r_lenS rfl sl22 rfl ((((((((hs3.mono hleH16).mono hleH27).mono hleH40).mono hleH51).mono hleH82).mono hleH451).mono hleH500).mono hleH507)) rfl ?_
                refine lv (v := .bool (decide ((a2.Votes.length : Int) = 1))) rfl (r_eql rfl rfl rfl rfl) rfl ?_
                by_cases hc513 : (a2.Votes.length : Int) = 1
                · skip
                  rw [if_pos hc513] at hF
                  have hbhc513 : (decide ((a2.Votes.length : Int) = 1)) = true := decide_eq_true hc513
                  refine lv (v := .bool true) rfl (r_mv rfl ((show opd _ _ _ = _ from rfl).trans (congrArg Value.bool hbhc513))) rfl ?_
                  with_reducible refine lx (d := 101) (by kernel_rfl) (by kernel_rfl) ?_
                  with_reducible refine lx (d := 102) (by kernel_rfl) (by kernel_rfl) ?_
                  with_reducible refine lx (d := 103) (by kernel_rfl) (by kernel_rfl) ?_
                  with_reducible refine lx (d := 104) (by kernel_rfl) (by kernel_rfl) ?_
                  with_reducible refine lx (d := 105) (by kernel_rfl) (by kernel_rfl) ?_
                  refine lv (v := .bool true) rfl (r_pkT rfl rfl rfl) rfl ?_
                  refine lv (v := .bool true) rfl (r_pkT rfl rfl rfl) rfl ?_
                  refine lv (v := .bool true) rfl (r_as rfl rfl) rfl ?_
                  refine wend ?_
                  refine wthen ?_
                  refine wren (fun ρ514 eρ514 => ?_)
                  have h515 : opd ρ514 108 (.tmp 8) = .bool true := eρ514 8
                  clear eρ514
                  refine wp_ret ?_
                  obtain rfl := Option.some.inj hF
                  subst hB
                  refine finR (rs := [.tmp 8]) (vs := [.bool true]) rfl ⟨h515, trivial⟩ ?_
                  exact hI.fin 0 ⟨rfl, rfl⟩
                · skip
                  rw [if_neg hc513] at hF
                  have hbhc513 : (decide ((a2.Votes.length : Int) = 1)) = false := decide_eq_false hc513
                  refine lv (v := .bool false) rfl (r_mv rfl ((show opd _ _ _ = _ from rfl).trans (congrArg Value.bool hbhc513))) rfl ?_
                  refine lv (v := .agg (flat [ckI a0.Epoch, ckL s1]).toArray) rfl (r_cla (off := 0) (p := 0) (m := 2) (hI.good.ca 0 rfl) rfl ag64 h462 rfl rfl) rfl ?_
                  refine lv (v := .agg (flat [ckI a1.Epoch, ckI a1.Height, ckV flB a1.Prev, ckV flB a1.State, ckV flB a1.Next, ckL s2]).toArray) rfl (r_cla (off := 0) (p := 0) (m := 6) (hI.good.ca 1 rfl) rfl ag69 h463 rfl rfl) rfl ?_
                  refine lv (v := .agg (flat [ckI a2.Round, ckL s449]).toArray) rfl (r_cla (off := 0) (p := 0) (m := 2) (hI.good.ca 5 rfl) rfl ag71 h467 rfl rfl) rfl ?_
                  obtain ⟨x516, hx516, hF⟩ := Option.bind_eq_some_iff.1 hF
                  have hsp519 := spec_46 hx516 ((((((((hT.mono hleH16).mono hleH27).mono hleH40).mono hleH51).mono hleH82).mono hleH451).mono hleH500).mono hleH507) (hI.part 0) ((((((((hs1.mono hleH16).mono hleH27).mono hleH40).mono hleH51).mono hleH82).mono hleH451).mono hleH500).mono hleH507) ((((((((hs2.mono hleH16).mono hleH27).mono hleH40).mono hleH51).mono hleH82).mono hleH451).mono hleH500).mono hleH507) ((hs449.mono hleH500).mono hleH507)
                  refine fc ([]) ([.cb g4 [ckI a0.Epoch, ckL s1] 64, .cb g6 [ckI a1.Epoch, ckI a1.Height, ckV flB a1.Prev, ckV flB a1.State, ckV flB a1.Next, ckL s2] 69, .cb g8 [ckI a2.Round, ckL s3] 71, .cb g63 [ckI a2.Round, ckL s62] 71, .cb g85 [ckI a2.Round, ckL s84] 71, .cb g325 [ckI a2.Round, ckL s449] 71, .own s449 35 41 gg450]) (args := [.agg (flat [ckI a0.Epoch, ckL s1]).toArray, .agg (flat [ckI a1.Epoch, ckI a1.Height, ckV flB a1.Prev, ckV flB a1.State, ckV flB a1.Next, ckL s2]).toArray, .agg (flat [ckI a2.Round, ckL s449]).toArray]) fc46 rfl rfl rfl hI (argc rfl (argc rfl (argc rfl rfl))) (hsp519) ?_
                  rintro _ H517 _ w518 ⟨rfl, rfl⟩ hleH517 hI
                  replace hI : Inv B w518 H517 [.cb g4 [ckI a0.Epoch, ckL s1] 64, .cb g6 [ckI a1.Epoch, ckI a1.Height, ckV flB a1.Prev, ckV flB a1.State, ckV flB a1.Next, ckL s2] 69, .cb g8 [ckI a2.Round, ckL s3] 71, .cb g63 [ckI a2.Round, ckL s62] 71, .cb g85 [ckI a2.Round, ckL s84] 71, .cb g325 [ckI a2.Round, ckL s449] 71, .own s449 35 41 gg450] := hI
                  refine lv (v := .bool (!x516)) rfl (r_not rfl rfl) rfl ?_
                  refine lv (v := .bool (!x516)) rfl (r_pkF rfl rfl rfl) rfl ?_
                  refine lv (v := .bool (!x516)) rfl (r_pkT rfl rfl rfl) rfl ?_
                  refine lv (v := .bool (!x516)) rfl (r_as rfl rfl) rfl ?_
                  refine wend ?_
                  refine wthen ?_
                  refine wren (fun ρ520 eρ520 => ?_)
                  have h521 : opd ρ520 108 (.tmp 8) = .bool (!x516) := eρ520 8
                  clear eρ520
                  refine wp_ret ?_
                  obtain rfl := Option.some.inj hF
                  subst hB
                  refine finR (rs := [.tmp 8]) (vs := [.bool (!x516)]) rfl ⟨h521, trivial⟩ ?_
                  exact hI.fin 0 ⟨rfl, rfl⟩
        · rw [if_neg hc72] at hF; cases hF
      · skip
        rw [if_neg hc49] at hF
        have hbhc49 : (!x39) = true := (by rw [(Bool.eq_false_iff.2 hc49)]; rfl)
        refine wcT (h48.trans (congrArg Value.bool hbhc49)) ?_
        refine wseq ?_
        refine wreg ?_
        refine lv (v := .bool true) rfl (r_as rfl rfl) rfl ?_
        refine wend ?_
        refine wthen ?_
        refine wren (fun ρ522 eρ522 => ?_)
        have h523 : opd ρ522 108 (.tmp 8) = .bool true := eρ522 8
        clear eρ522
        refine wp_ret ?_
        refine thR ?_
        obtain rfl := Option.some.inj hF
        subst hB
        refine finR (rs := [.tmp 8]) (vs := [.bool true]) rfl ⟨h523, trivial⟩ ?_
        exact hI.fin 0 ⟨rfl, rfl⟩
  · skip
    rw [if_neg hc25] at hF
    have hbhc25 : (!x15) = true := (by rw [(Bool.eq_false_iff.2 hc25)]; rfl)
    refine wcT (h24.trans (congrArg Value.bool hbhc25)) ?_
    refine wseq ?_
    refine wreg ?_
    refine lv (v := .bool false) rfl (r_as rfl rfl) rfl ?_
    refine wend ?_
    refine wthen ?_
    refine wren (fun ρ524 eρ524 => ?_)
    have h525 : opd ρ524 108 (.tmp 8) = .bool false := eρ524 8
    clear eρ524
    refine wp_ret ?_
    refine thR ?_
    obtain rfl := Option.some.inj hF
    subst hB
    refine finR (rs := [.tmp 8]) (vs := [.bool false]) rfl ⟨h525, trivial⟩ ?_
    exact hI.fin 0 ⟨rfl, rfl⟩
end Go.Proofs.YtdebnncpclodcaaDoor.X
