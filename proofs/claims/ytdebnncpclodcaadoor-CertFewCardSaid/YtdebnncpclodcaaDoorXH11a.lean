/-
  Functions of the program: what each computes, and its walk. No condition beyond those that the lemmas name.
-/
import Derived.Test.YtdebnncpclodcaaDoorXPT
import Derived.Test.YtdebnncpclodcaaDoorXGc
import Derived.Test.YtdebnncpclodcaaDoorXGa
import Derived.Test.YtdebnncpclodcaaDoorXGb
set_option linter.unusedSimpArgs false
set_option linter.unusedVariables false
set_option maxRecDepth 10000
namespace Go.Proofs.YtdebnncpclodcaaDoor.X
open Go.RowKit Go.Proofs.YtdebnncpclodcaaDoorW.PrintLast
noncomputable def M_cert_Make (a0 : Config) (a1 : List Vote) : Option (Cert × Bool) := ((M_config_Quorum a0).bind fun x11 => (if (a1.length : Int) < x11 then some ((⟨0, []⟩ : Cert), false) else ((a1[0]?).bind fun x30 => ((cutI a1 0 x11).bind fun x39 => ((appI 152 ([] : List Vote) x39).bind fun x45 => some ((⟨x30.Round, x45⟩ : Cert), true))))))
set_option maxHeartbeats 1000000 in
theorem spec_49 {w : World} {H : Hp} {a0 : Config} {a1 : List Vote} {s1 : Sv} {s2 : Sv} {r : Cert × Bool} (hF : M_cert_Make a0 a1 = some r) (hT : Tab H) (hG : Good w H []) (hs1 : Sl (Fl.ty fl_Member) H s1 a0.Members) (hs2 : Sl ty_Vote H s2 a1) :
    Fine Tryd.prog 49 [.agg (flat [ckI a0.Epoch, ckL s1]).toArray, s2.v] w H [] (fun H' v L' => ∃ s900 : Sv, v = .tuple #[.agg (flat [ckI r.1.Round, ckL s900]).toArray, .bool r.2] ∧ Sl ty_Vote H' s900 r.1.Votes ∧ L' = []) := by
  unfold M_cert_Make at hF
  unfold Fine
  obtain ⟨B, hB⟩ : ∃ B : Base, B = ⟨w, H, blks []⟩ := ⟨_, rfl⟩
  have hI : Inv B w H [] := by rw [hB]; exact Inv.start hG
  refine enter (n := 24) (args := [.agg (flat [ckI a0.Epoch, ckL s1]).toArray, s2.v]) Tryd.func49 rfl Tryd.ntmps49 (Nat.le_of_ble_eq_true rfl) ?_
  refine wseq ?_
  refine wreg ?_
  refine le rfl (l_box (cks := [ckI a0.Epoch, ckL s1]) hI rfl rfl rfl) rfl ?_
  rintro _ w4 ⟨g3, rfl, hI⟩
  replace hI : Inv B w4 H [.cb g3 [ckI a0.Epoch, ckL s1] 64] := hI
  refine le rfl (l_al hI rfl ze71) rfl ?_
  rintro _ w6 ⟨g5, rfl, hI⟩
  replace hI : Inv B w6 H [.cb g3 [ckI a0.Epoch, ckL s1] 64, .cb g5 [ckI 0, ckL Sv.nil] 71] := hI
  refine lv (v := .bool false) rfl (r_as rfl rfl) rfl ?_
  refine wend ?_
  refine wthen ?_
  refine wren (fun ρ7 eρ7 => ?_)
  have h8 : opd ρ7 24 (.tmp 1) = s2.v := eρ7 1
  have h9 : opd ρ7 24 (.tmp 2) = .pointer (some ⟨g3, 0 + 0, none⟩) := eρ7 2
  have h10 : opd ρ7 24 (.tmp 4) = .pointer (some ⟨g5, 0 + 0, none⟩) := eρ7 4
  clear eρ7
  refine wseq ?_
  refine wreg ?_
  refine lv (v := .agg (flat [ckI a0.Epoch, ckL s1]).toArray) rfl (r_cla (off := 0) (p := 0) (m := 2) (hI.good.ca 0 rfl) rfl ag64 h9 rfl rfl) rfl ?_
  obtain ⟨x11, hx11, hF⟩ := Option.bind_eq_some_iff.1 hF
  have hsp14 := spec_88 hx11 hT (hI.part 0) hs1
  refine fc ([]) ([.cb g3 [ckI a0.Epoch, ckL s1] 64, .cb g5 [ckI 0, ckL Sv.nil] 71]) (args := [.agg (flat [ckI a0.Epoch, ckL s1]).toArray]) fc88 rfl rfl rfl hI (argc rfl rfl) (hsp14) ?_
  rintro _ H12 _ w13 ⟨rfl, rfl⟩ hleH12 hI
  replace hI : Inv B w13 H12 [.cb g3 [ckI a0.Epoch, ckL s1] 64, .cb g5 [ckI 0, ckL Sv.nil] 71] := hI
  refine lv (v := .int .i64 x11) rfl (r_as rfl rfl) rfl ?_
  refine wend ?_
  refine wthen ?_
  refine wren (fun ρ15 eρ15 => ?_)
  have h16 : opd ρ15 24 (.tmp 1) = s2.v := (eρ15 1).trans h8
  have h17 : opd ρ15 24 (.tmp 4) = .pointer (some ⟨g5, 0 + 0, none⟩) := (eρ15 4).trans h10
  have h18 : opd ρ15 24 (.tmp 6) = .int .i64 x11 := eρ15 6
  clear eρ15
  refine wseq ?_
  refine wseq ?_
  refine wreg ?_
  refine lv (v := s2.v) rfl (r_mv rfl h16) rfl ?_
  refine lv (v := .int .i64 (a1.length : Int)) rfl (r_lenS rfl sl22 rfl (hs2.mono hleH12)) rfl ?_
  refine lv (v := .int .i64 x11) rfl (r_mv rfl h18) rfl ?_
  refine lv (v := .bool (decide ((a1.length : Int) < x11))) rfl (r_lss rfl rfl rfl rfl) rfl ?_
  refine wend ?_
  refine wthen ?_
  refine wren (fun ρ19 eρ19 => ?_)
  have h20 : opd ρ19 24 (.tmp 1) = s2.v := (eρ19 1).trans h16
  have h21 : opd ρ19 24 (.tmp 4) = .pointer (some ⟨g5, 0 + 0, none⟩) := (eρ19 4).trans h17
  have h22 : opd ρ19 24 (.tmp 6) = .int .i64 x11 := (eρ19 6).trans h18
  have h23 : opd ρ19 24 (.tmp 12) = .bool (decide ((a1.length : Int) < x11)) := eρ19 12
  clear eρ19
  by_cases hc24 : (a1.length : Int) < x11
  · skip
    rw [if_pos hc24] at hF
    have hbhc24 : (decide ((a1.length : Int) < x11)) = true := decide_eq_true hc24
    refine wcT (h23.trans (congrArg Value.bool hbhc24)) ?_
    refine wseq ?_
    refine wreg ?_
    refine lv (v := .agg (flat [ckI 0, ckL Sv.nil]).toArray) rfl (r_bldk (z := [[ckI 0], [ckL Sv.nil]]) (pc := []) rfl zg71 bf71 rfl rfl rfl rfl) rfl ?_
    refine lst rfl (l_st (off := 0) (p := 0) (m := 2) (new := [ckI 0, ckL Sv.nil]) hI 1 rfl rfl sz71 h21 rfl rfl rfl rfl rfl) rfl ?_
    intro w25 hI
    replace hI : Inv B w25 H12 [.cb g3 [ckI a0.Epoch, ckL s1] 64, .cb g5 [ckI 0, ckL Sv.nil] 71] := hI
    refine lv (v := .bool false) rfl (r_as rfl rfl) rfl ?_
    refine wend ?_
    refine wthen ?_
    refine wren (fun ρ26 eρ26 => ?_)
    have h27 : opd ρ26 24 (.tmp 4) = .pointer (some ⟨g5, 0 + 0, none⟩) := (eρ26 4).trans h21
    have h28 : opd ρ26 24 (.tmp 5) = .bool false := eρ26 5
    clear eρ26
    refine wp_ret ?_
    refine thR ?_
    obtain rfl := Option.some.inj hF
    subst hB
    refine finR (rs := [.cell 4 71, .tmp 5]) (vs := [.agg (flat [ckI 0, ckL Sv.nil]).toArray, .bool false]) rfl ⟨⟨_, h27, ld_agg (hI.good.ca 1 rfl) ag71 rfl⟩, h28, trivial⟩ ?_
    exact hI.fin 0 ⟨Sv.nil, rfl, (Sl.nil _ _), rfl⟩
  · skip
    rw [if_neg hc24] at hF
    have hbhc24 : (decide ((a1.length : Int) < x11)) = false := decide_eq_false hc24
    refine wcF (h23.trans (congrArg Value.bool hbhc24)) ?_
    refine wp_skip ?_
    refine wthen ?_
    refine wseq ?_
    refine dstG (H0 := H12) (L0 := keepL [true, true] [.cb g3 [ckI a0.Epoch, ckL s1] 64, .cb g5 [ckI 0, ckL Sv.nil] 71]) [10] mixed rfl (by repeat (first | exact Pan.body | refine Pan.then ?_ | refine Pan.inBlock ?_ | refine Pan.noGoto ?_ | refine Pan.pure ?_)) hI (hI.good.weakm _ (Hle.refl _) rfl) ?_
    intro w29 hI hP
    refine dp (v := s2.v) 0 (by kernel_rfl) rfl rfl (fun _ => r_mv rfl h20) rfl hP ?_
    obtain ⟨x30, hx30, hF⟩ := Option.bind_eq_some_iff.1 hF
    obtain ⟨b31, j32, _, hix33, hil34, ⟨s36, s37, s38, rfl, hs36, hs37, hs38⟩, hA35⟩ := (hs2.mono hleH12).ix hx30
    replace hA35 : At H12 b31 j32 [ckI x30.Kind, ckI x30.Epoch, ckI x30.Height, ckI x30.Round, ckV flB x30.Digest, ckI x30.From, ckI x30.Sig.Leaf, ckL s36, ckL s37, ckL s38] := hA35
    refine dp (v := .pointer (some ⟨b31, j32 + 0, none⟩)) 1 (by kernel_rfl) rfl rfl (fun _ => r_ixt rfl sl22 rfl rfl rfl hix33 hil34) rfl hP ?_
    refine dp (v := .pointer (some ⟨b31, j32 + 3, none⟩)) 2 (by kernel_rfl) rfl rfl (fun _ => l_fa (j := j32) (i := 0) rfl fl35_3 rfl rfl) rfl hP ?_
    refine dp (v := s2.v) 5 (by kernel_rfl) rfl rfl (fun _ => r_mv rfl h20) rfl hP ?_
    refine dp (v := .int .i64 x11) 6 (by kernel_rfl) rfl rfl (fun _ => r_mv rfl h22) rfl hP ?_
    obtain ⟨x39, hx39, hF⟩ := Option.bind_eq_some_iff.1 hF
    obtain ⟨s40, es40⟩ : ∃ z : Sv, z = s2.cut 0 (x11 : Int).toNat 41 := ⟨_, rfl⟩
    have hs40 := Sl.cutI (hs2.mono hleH12) hx39 es40
    refine dp (v := s40.v) 7 (by kernel_rfl) rfl rfl (fun _ => s_slh rfl sl22 rfl rfl (hs2.mono hleH12) hx39 es40) rfl hP ?_
    refine dr (v := .int .i64 x30.Round) 3 (by kernel_rfl) rfl rfl (hI.good.weakm [true, true] (Hle.refl _) rfl) (fun _ hG => r_cl1 (off := 3) (p := 3) (hA35.ca hG) rfl sc3 rfl rfl rfl) rfl hP ?_
    refine de 4 (by kernel_rfl) rfl rfl rfl (l_bs (t := ty_Vote) (vs := []) (xs := []) hI rfl sl22 inf35 rfl rfl rfl .nil rfl) rfl ?_
    rintro _ w43 ⟨s41, H42, rfl, hI, hleH42, hs41, hfs41, hgs41⟩
    refine ⟨(hI.good.weakm [true, true] hleH42 rfl), ?_⟩
    replace hI := Inv.full (e := 35) (sz := 41) hI (show s41.n = s41.c from hfs41)
    replace hI : Inv B w43 H42 [.cb g3 [ckI a0.Epoch, ckL s1] 64, .cb g5 [ckI 0, ckL Sv.nil] 71, .own s41 35 41 none] := hI
    obtain ⟨x45, hx45, hF⟩ := Option.bind_eq_some_iff.1 hF
    refine de 8 (by kernel_rfl) rfl rfl rfl (l_app (t := ty_Vote) hI 2 rfl rfl sl22 inf35 rfl rfl rfl rfl hs41 (hs40.mono hleH42) (appI_some hx45).1) rfl ?_
    rintro _ w49 ⟨s46, H47, gg48, rfl, hI, hleH47, hs46⟩
    rw [← (appI_some hx45).2] at hs46
    replace hI : Inv B w49 H47 [.cb g3 [ckI a0.Epoch, ckL s1] 64, .cb g5 [ckI 0, ckL Sv.nil] 71, .own s46 35 41 gg48] := hI
    refine ⟨(hI.good.weakm [true, true, false] (hleH42.trans hleH47) rfl), ?_⟩
    refine dp (v := .agg (flat [ckI x30.Round, ckL s46]).toArray) 9 (by kernel_rfl) rfl rfl (fun _ => r_bldk (z := [[ckI 0], [ckL Sv.nil]]) (pc := [(0, [ckI x30.Round]), (1, [ckL s46])]) rfl zg71 bf71 rfl (argc (congrArg Value.cells rfl) (argc (congrArg Value.cells rfl) rfl)) rfl rfl) rfl hP ?_
    refine dsl 10 (by kernel_rfl) rfl rfl rfl (l_st (off := 0) (p := 0) (m := 2) (new := [ckI x30.Round, ckL s46]) hI 1 rfl rfl sz71 h21 rfl rfl rfl rfl rfl) rfl ?_
    intro w50 hI
    replace hI : Inv B w50 H47 [.cb g3 [ckI a0.Epoch, ckL s1] 64, .cb g5 [ckI x30.Round, ckL s46] 71, .own s46 35 41 gg48] := hI
    refine dp (v := .bool true) 11 (by kernel_rfl) rfl rfl (fun _ => r_as rfl rfl) rfl hP ?_
    refine dend (by kernel_rfl) ?_
    refine wthen ?_
    refine wren (fun ρ51 eρ51 => ?_)
    have h52 : opd ρ51 24 (.tmp 4) = .pointer (some ⟨g5, 0 + 0, none⟩) := (eρ51 4).trans h21
    have h53 : opd ρ51 24 (.tmp 5) = .bool true := eρ51 5
    clear eρ51
    refine wp_ret ?_
    obtain rfl := Option.some.inj hF
    subst hB
    refine finR (rs := [.cell 4 71, .tmp 5]) (vs := [.agg (flat [ckI x30.Round, ckL s46]).toArray, .bool true]) rfl ⟨⟨_, h52, ld_agg (hI.good.ca 1 rfl) ag71 rfl⟩, h53, trivial⟩ ?_
    exact hI.fin 0 ⟨s46, rfl, hs46, rfl⟩
noncomputable def M_once_secret (a0 : Vec UInt8 32) (a1 : Int) (a2 : Int) (a3 : Int) : Option ((Vec UInt8 32)) := ((forK (fun (i28 : Nat) (σ28 : (Vec UInt8 16)) => ((if (0 : Int) ≤ (wI ((56 : Int) - (wI ((8 : Int) * (i28 : Int))))) then (if (0 : Int) ≤ (wI ((56 : Int) - (wI ((8 : Int) * (i28 : Int))))) then ((σ28.l[i28]?).bind fun x136 => ((ixI (Vec.set σ28 i28 (u8I ((shrQ (u64I a1) (wI ((56 : Int) - (wI ((8 : Int) * (i28 : Int)))))).toNat : Int))).l (wI ((8 : Int) + (i28 : Int)))).bind fun x139 => some (.inl (Vec.set (Vec.set σ28 i28 (u8I ((shrQ (u64I a1) (wI ((56 : Int) - (wI ((8 : Int) * (i28 : Int)))))).toNat : Int))) ((wI ((8 : Int) + (i28 : Int)) : Int).toNat) (u8I ((shrQ (u64I (wI ((wI ((2 : Int) * a2)) + a3))) (wI ((56 : Int) - (wI ((8 : Int) * (i28 : Int)))))).toNat : Int)))))) else none) else none) : Option ((Vec UInt8 16) ⊕ (Vec UInt8 32)))) 8 0 (Vec.rep 16 0)).bind fun y => match y with | .inl σ28 => ((M_sha_Of [[2], a0.l, σ28.l]).bind fun x167 => some x167) | .inr r => some r)
set_option maxHeartbeats 4000000 in
theorem spec_143 {w : World} {H : Hp} {a0 : Vec UInt8 32} {a1 : Int} {a2 : Int} {a3 : Int}  {r : (Vec UInt8 32)} (hF : M_once_secret a0 a1 a2 a3 = some r) (hT : Tab H) (hG : Good w H [])  :
    Fine Tryd.prog 143 [.agg (flat [ckV flB a0]).toArray, .int .i64 a1, .int .i64 a2, .int .i64 a3] w H [] (fun H' v L' => v = .agg (flat [ckV flB r]).toArray ∧ L' = []) := by
  unfold M_once_secret at hF
  unfold Fine
  obtain ⟨B, hB⟩ : ∃ B : Base, B = ⟨w, H, blks []⟩ := ⟨_, rfl⟩
  have hI : Inv B w H [] := by rw [hB]; exact Inv.start hG
  refine enter (n := 42) (args := [.agg (flat [ckV flB a0]).toArray, .int .i64 a1, .int .i64 a2, .int .i64 a3]) Tryd.func143 rfl Tryd.ntmps143 (Nat.le_of_ble_eq_true rfl) ?_
  refine wseq ?_
  refine wreg ?_
  refine le rfl (l_box (cks := [ckV flB a0]) hI rfl rfl rfl) rfl ?_
  rintro _ w2 ⟨g1, rfl, hI⟩
  replace hI : Inv B w2 H [.cb g1 [ckV flB a0] 29] := hI
  refine le rfl (l_al hI rfl ze29) rfl ?_
  rintro _ w4 ⟨g3, rfl, hI⟩
  replace hI : Inv B w4 H [.cb g1 [ckV flB a0] 29, .cb g3 [ckV flB (Vec.rep 32 0)] 29] := hI
  refine wend ?_
  refine wthen ?_
  refine wren (fun ρ5 eρ5 => ?_)
  have h6 : opd ρ5 42 (.tmp 1) = .int .i64 a1 := eρ5 1
  have h7 : opd ρ5 42 (.tmp 2) = .int .i64 a2 := eρ5 2
  have h8 : opd ρ5 42 (.tmp 3) = .int .i64 a3 := eρ5 3
  have h9 : opd ρ5 42 (.tmp 4) = .pointer (some ⟨g1, 0 + 0, none⟩) := eρ5 4
  have h10 : opd ρ5 42 (.tmp 8) = .pointer (some ⟨g3, 0 + 0, none⟩) := eρ5 8
  clear eρ5
  refine wseq ?_
  refine wreg ?_
  refine le rfl (l_al hI rfl ze254) rfl ?_
  rintro _ w12 ⟨g11, rfl, hI⟩
  replace hI : Inv B w12 H [.cb g1 [ckV flB a0] 29, .cb g3 [ckV flB (Vec.rep 32 0)] 29, .cb g11 [ckV flB (Vec.rep 16 0)] 254] := hI
  refine wend ?_
  refine wthen ?_
  refine wren (fun ρ13 eρ13 => ?_)
  have h14 : opd ρ13 42 (.tmp 1) = .int .i64 a1 := (eρ13 1).trans h6
  have h15 : opd ρ13 42 (.tmp 2) = .int .i64 a2 := (eρ13 2).trans h7
  have h16 : opd ρ13 42 (.tmp 3) = .int .i64 a3 := (eρ13 3).trans h8
  have h17 : opd ρ13 42 (.tmp 4) = .pointer (some ⟨g1, 0 + 0, none⟩) := (eρ13 4).trans h9
  have h18 : opd ρ13 42 (.tmp 8) = .pointer (some ⟨g3, 0 + 0, none⟩) := (eρ13 8).trans h10
  have h19 : opd ρ13 42 (.tmp 9) = .pointer (some ⟨g11, 0 + 0, none⟩) := eρ13 9
  clear eρ13
  refine wseq ?_
  refine wseq ?_
  refine wreg ?_
  refine lv (v := .int .i64 0) rfl (r_mv rfl rfl) rfl ?_
  refine wend ?_
  refine wthen ?_
  refine wren (fun ρ20 eρ20 => ?_)
  have h21 : opd ρ20 42 (.tmp 1) = .int .i64 a1 := (eρ20 1).trans h14
  have h22 : opd ρ20 42 (.tmp 2) = .int .i64 a2 := (eρ20 2).trans h15
  have h23 : opd ρ20 42 (.tmp 3) = .int .i64 a3 := (eρ20 3).trans h16
  have h24 : opd ρ20 42 (.tmp 4) = .pointer (some ⟨g1, 0 + 0, none⟩) := (eρ20 4).trans h17
  have h25 : opd ρ20 42 (.tmp 8) = .pointer (some ⟨g3, 0 + 0, none⟩) := (eρ20 8).trans h18
  have h26 : opd ρ20 42 (.tmp 9) = .pointer (some ⟨g11, 0 + 0, none⟩) := (eρ20 9).trans h19
  have h27 : opd ρ20 42 (.tmp 11) = .int .i64 0 := eρ20 11
  clear eρ20
  refine wp_block ?_
  obtain ⟨y28, hy28, hF28⟩ := Option.bind_eq_some_iff.1 hF
  refine wfor (n := 42) 8 _ (fun (i28 : Nat) (σ28 : (Vec UInt8 16)) ρ' w' => ∃ (H105 : Hp), Hle H H105 ∧ opd ρ' 42 (.tmp 1) = .int .i64 a1 ∧ opd ρ' 42 (.tmp 2) = .int .i64 a2 ∧ opd ρ' 42 (.tmp 3) = .int .i64 a3 ∧ opd ρ' 42 (.tmp 4) = .pointer (some ⟨g1, 0 + 0, none⟩) ∧ opd ρ' 42 (.tmp 8) = .pointer (some ⟨g3, 0 + 0, none⟩) ∧ opd ρ' 42 (.tmp 9) = .pointer (some ⟨g11, 0 + 0, none⟩) ∧ opd ρ' 42 (.tmp 11) = .int .i64 (i28 : Int) ∧ Inv B w' H105 [.cb g1 [ckV flB a0] 29, .cb g3 [ckV flB (Vec.rep 32 0)] 29, .cb g11 [ckV flB σ28] 254]) hy28 ⟨H, (Hle.refl _), h21, h22, h23, h24, h25, h26, h27, hI⟩ ?_
  rintro k28 i28 σ28 ρ113 w114 hk28 ⟨H105, hleH105, h106, h107, h108, h109, h110, h111, h112, hI⟩ hy28
  refine wseq ?_
  refine wreg ?_
  refine lv (v := .bool (decide ((i28 : Int) < 8))) rfl (r_lss rfl h112 rfl rfl) rfl ?_
  refine wend ?_
  refine wthen ?_
  refine wseq ?_
  by_cases hc115 : (i28 : Int) < 8
  · skip
    have hbhc115 : (decide ((i28 : Int) < 8)) = true := decide_eq_true hc115
    obtain ⟨k28, rfl⟩ : ∃ m, k28 = m + 1 := ⟨k28 - 1, by omega⟩
    obtain ⟨z28, hb28⟩ := forK_body hy28
    have hF := hb28
    have hlt28 : ((i28 : Nat) : Int) + 1 ≤ 9223372036854775807 := by omega
    refine wcT ((show opd _ _ _ = _ from rfl).trans (congrArg Value.bool hbhc115)) ?_
    refine wp_skip ?_
    refine wthen ?_
    refine wren (fun ρ116 eρ116 => ?_)
    have h117 : opd ρ116 42 (.tmp 1) = .int .i64 a1 := (eρ116 1).trans h106
    have h118 : opd ρ116 42 (.tmp 2) = .int .i64 a2 := (eρ116 2).trans h107
    have h119 : opd ρ116 42 (.tmp 3) = .int .i64 a3 := (eρ116 3).trans h108
    have h120 : opd ρ116 42 (.tmp 4) = .pointer (some ⟨g1, 0 + 0, none⟩) := (eρ116 4).trans h109
    have h121 : opd ρ116 42 (.tmp 8) = .pointer (some ⟨g3, 0 + 0, none⟩) := (eρ116 8).trans h110
    have h122 : opd ρ116 42 (.tmp 9) = .pointer (some ⟨g11, 0 + 0, none⟩) := (eρ116 9).trans h111
    have h123 : opd ρ116 42 (.tmp 11) = .int .i64 (i28 : Int) := (eρ116 11).trans h112
    clear eρ116
    refine wseq ?_
    refine wp_block ?_
    refine wseq ?_
    refine wreg ?_
    refine lv (v := .int .i64 (i28 : Int)) rfl (r_mv rfl h123) rfl ?_
    refine lv (v := .int .i64 (i28 : Int)) rfl (r_as rfl rfl) rfl ?_
    refine wend ?_
    refine wthen ?_
    refine wren (fun ρ124 eρ124 => ?_)
    have h125 : opd ρ124 42 (.tmp 1) = .int .i64 a1 := (eρ124 1).trans h117
    have h126 : opd ρ124 42 (.tmp 2) = .int .i64 a2 := (eρ124 2).trans h118
    have h127 : opd ρ124 42 (.tmp 3) = .int .i64 a3 := (eρ124 3).trans h119
    have h128 : opd ρ124 42 (.tmp 4) = .pointer (some ⟨g1, 0 + 0, none⟩) := (eρ124 4).trans h120
    have h129 : opd ρ124 42 (.tmp 8) = .pointer (some ⟨g3, 0 + 0, none⟩) := (eρ124 8).trans h121
    have h130 : opd ρ124 42 (.tmp 9) = .pointer (some ⟨g11, 0 + 0, none⟩) := (eρ124 9).trans h122
    have h131 : opd ρ124 42 (.tmp 10) = .int .i64 (i28 : Int) := eρ124 10
    have h132 : opd ρ124 42 (.tmp 11) = .int .i64 (i28 : Int) := (eρ124 11).trans h123
    clear eρ124
    refine dstG (H0 := H105) (L0 := keepL [true, true, true] [.cb g1 [ckV flB a0] 29, .cb g3 [ckV flB (Vec.rep 32 0)] 29, .cb g11 [ckV flB σ28] 254]) [21, 23] mixed rfl (by repeat (first | exact Pan.body | refine Pan.then ?_ | refine Pan.inBlock ?_ | refine Pan.noGoto ?_ | refine Pan.pure ?_)) hI (hI.good.weakm _ (Hle.refl _) rfl) ?_
    intro w133 hI hP
    refine dp (v := .int .i64 (i28 : Int)) 0 (by kernel_rfl) rfl rfl (fun _ => r_mv rfl h131) rfl hP ?_
    refine dp (v := .int .i64 (i28 : Int)) 1 (by kernel_rfl) rfl rfl (fun _ => r_mv rfl h131) rfl hP ?_
    refine dp (v := .int .i64 (wI ((8 : Int) + (i28 : Int)))) 2 (by kernel_rfl) rfl rfl (fun _ => r_addw rfl rfl rfl) rfl hP ?_
    refine dp (v := .int .i64 a1) 3 (by kernel_rfl) rfl rfl (fun _ => r_mv rfl h125) rfl hP ?_
    refine dp (v := u64v (u64I a1)) 4 (by kernel_rfl) rfl rfl (fun _ => c_u64 rfl un3 un234 rfl) rfl hP ?_
    refine dp (v := .int .i64 (i28 : Int)) 5 (by kernel_rfl) rfl rfl (fun _ => r_mv rfl h131) rfl hP ?_
    refine dp (v := .int .i64 (wI ((8 : Int) * (i28 : Int)))) 6 (by kernel_rfl) rfl rfl (fun _ => r_mulw rfl rfl rfl) rfl hP ?_
    refine dp (v := .int .i64 (wI ((56 : Int) - (wI ((8 : Int) * (i28 : Int)))))) 7 (by kernel_rfl) rfl rfl (fun _ => r_subw rfl rfl rfl) rfl hP ?_
    by_cases hc134 : (0 : Int) ≤ (wI ((56 : Int) - (wI ((8 : Int) * (i28 : Int)))))
    · rw [if_pos hc134] at hF
      refine dp (v := u64v (shrQ (u64I a1) (wI ((56 : Int) - (wI ((8 : Int) * (i28 : Int))))))) 8 (by kernel_rfl) rfl rfl (fun _ => r_shrQ rfl rfl rfl hc134) rfl hP ?_
      refine dp (v := bv (u8I ((shrQ (u64I a1) (wI ((56 : Int) - (wI ((8 : Int) * (i28 : Int)))))).toNat : Int))) 9 (by kernel_rfl) rfl rfl (fun _ => c_i8 rfl un234 un5 rfl) rfl hP ?_
      refine dp (v := .int .i64 a2) 10 (by kernel_rfl) rfl rfl (fun _ => r_mv rfl h126) rfl hP ?_
      refine dp (v := .int .i64 (wI ((2 : Int) * a2))) 11 (by kernel_rfl) rfl rfl (fun _ => r_mulw rfl rfl rfl) rfl hP ?_
      refine dp (v := .int .i64 a3) 12 (by kernel_rfl) rfl rfl (fun _ => r_mv rfl h127) rfl hP ?_
      refine dp (v := .int .i64 (wI ((wI ((2 : Int) * a2)) + a3))) 13 (by kernel_rfl) rfl rfl (fun _ => r_addw rfl rfl rfl) rfl hP ?_
      refine dp (v := u64v (u64I (wI ((wI ((2 : Int) * a2)) + a3)))) 14 (by kernel_rfl) rfl rfl (fun _ => c_u64 rfl un3 un234 rfl) rfl hP ?_
      refine dp (v := .int .i64 (i28 : Int)) 15 (by kernel_rfl) rfl rfl (fun _ => r_mv rfl h131) rfl hP ?_
      refine dp (v := .int .i64 (wI ((8 : Int) * (i28 : Int)))) 16 (by kernel_rfl) rfl rfl (fun _ => r_mulw rfl rfl rfl) rfl hP ?_
      refine dp (v := .int .i64 (wI ((56 : Int) - (wI ((8 : Int) * (i28 : Int)))))) 17 (by kernel_rfl) rfl rfl (fun _ => r_subw rfl rfl rfl) rfl hP ?_
      by_cases hc135 : (0 : Int) ≤ (wI ((56 : Int) - (wI ((8 : Int) * (i28 : Int)))))
      · rw [if_pos hc135] at hF
        refine dp (v := u64v (shrQ (u64I (wI ((wI ((2 : Int) * a2)) + a3))) (wI ((56 : Int) - (wI ((8 : Int) * (i28 : Int))))))) 18 (by kernel_rfl) rfl rfl (fun _ => r_shrQ rfl rfl rfl hc135) rfl hP ?_
        refine dp (v := bv (u8I ((shrQ (u64I (wI ((wI ((2 : Int) * a2)) + a3))) (wI ((56 : Int) - (wI ((8 : Int) * (i28 : Int)))))).toNat : Int))) 19 (by kernel_rfl) rfl rfl (fun _ => c_i8 rfl un234 un5 rfl) rfl hP ?_
        obtain ⟨x136, hx136, hF⟩ := Option.bind_eq_some_iff.1 hF
        obtain ⟨q137, eq137⟩ : ∃ z, z = 0 + 0 + i28 * 1 := ⟨_, rfl⟩
        refine dp (v := .pointer (some ⟨g11, q137 + 0, none⟩)) 20 (by kernel_rfl) rfl rfl (fun _ => r_ixq rfl ar254 h130 rfl rfl (Vec.lt hx136) eq137) rfl hP ?_
        refine dsl 21 (by kernel_rfl) rfl rfl rfl (l_sta (f := flB) (m := 16) (vv := σ28) (off := 0) (p := 0) (k := i28) (x1 := (u8I ((shrQ (u64I a1) (wI ((56 : Int) - (wI ((8 : Int) * (i28 : Int)))))).toNat : Int))) hI 2 rfl rfl sz5 rfl eq137 rfl rfl rfl rfl hx136 rfl) rfl ?_
        intro w138 hI
        replace hI : Inv B w138 H105 [.cb g1 [ckV flB a0] 29, .cb g3 [ckV flB (Vec.rep 32 0)] 29, .cb g11 [ckV flB (Vec.set σ28 i28 (u8I ((shrQ (u64I a1) (wI ((56 : Int) - (wI ((8 : Int) * (i28 : Int)))))).toNat : Int)))] 254] := hI
        obtain ⟨x139, hx139, hF⟩ := Option.bind_eq_some_iff.1 hF
        obtain ⟨q140, eq140⟩ : ∃ z, z = 0 + 0 + ((wI ((8 : Int) + (i28 : Int)) : Int).toNat) * 1 := ⟨_, rfl⟩
        refine dp (v := .pointer (some ⟨g11, q140 + 0, none⟩)) 22 (by kernel_rfl) rfl rfl (fun _ => r_ixq rfl ar254 h130 rfl (ixI_some hx139).2 (Vec.lt (ixI_some hx139).1) eq140) rfl hP ?_
        refine dsl 23 (by kernel_rfl) rfl rfl rfl (l_sta (f := flB) (m := 16) (vv := (Vec.set σ28 i28 (u8I ((shrQ (u64I a1) (wI ((56 : Int) - (wI ((8 : Int) * (i28 : Int)))))).toNat : Int)))) (off := 0) (p := 0) (k := ((wI ((8 : Int) + (i28 : Int)) : Int).toNat)) (x1 := (u8I ((shrQ (u64I (wI ((wI ((2 : Int) * a2)) + a3))) (wI ((56 : Int) - (wI ((8 : Int) * (i28 : Int)))))).toNat : Int))) hI 2 rfl rfl sz5 rfl eq140 rfl rfl rfl rfl (ixI_some hx139).1 rfl) rfl ?_
        intro w141 hI
        replace hI : Inv B w141 H105 [.cb g1 [ckV flB a0] 29, .cb g3 [ckV flB (Vec.rep 32 0)] 29, .cb g11 [ckV flB (Vec.set (Vec.set σ28 i28 (u8I ((shrQ (u64I a1) (wI ((56 : Int) - (wI ((8 : Int) * (i28 : Int)))))).toNat : Int))) ((wI ((8 : Int) + (i28 : Int)) : Int).toNat) (u8I ((shrQ (u64I (wI ((wI ((2 : Int) * a2)) + a3))) (wI ((56 : Int) - (wI ((8 : Int) * (i28 : Int)))))).toNat : Int)))] 254] := hI
        refine dend (by kernel_rfl) ?_
        refine inN ?_
        refine wthen ?_
        refine wren (fun ρ142 eρ142 => ?_)
        have h143 : opd ρ142 42 (.tmp 1) = .int .i64 a1 := (eρ142 1).trans h125
        have h144 : opd ρ142 42 (.tmp 2) = .int .i64 a2 := (eρ142 2).trans h126
        have h145 : opd ρ142 42 (.tmp 3) = .int .i64 a3 := (eρ142 3).trans h127
        have h146 : opd ρ142 42 (.tmp 4) = .pointer (some ⟨g1, 0 + 0, none⟩) := (eρ142 4).trans h128
        have h147 : opd ρ142 42 (.tmp 8) = .pointer (some ⟨g3, 0 + 0, none⟩) := (eρ142 8).trans h129
        have h148 : opd ρ142 42 (.tmp 9) = .pointer (some ⟨g11, 0 + 0, none⟩) := (eρ142 9).trans h130
        have h149 : opd ρ142 42 (.tmp 11) = .int .i64 (i28 : Int) := (eρ142 11).trans h132
        clear eρ142
        refine wreg ?_
        refine lv (v := .int .i64 ((i28 + 1 : Nat) : Int)) rfl (r_addn rfl h149 rfl hlt28) rfl ?_
        refine lv (v := .int .i64 ((i28 + 1 : Nat) : Int)) rfl (r_mv rfl rfl) rfl ?_
        refine wend ?_
        obtain rfl := Option.some.inj hF
        exact ⟨k28, (Vec.set (Vec.set σ28 i28 (u8I ((shrQ (u64I a1) (wI ((56 : Int) - (wI ((8 : Int) * (i28 : Int)))))).toNat : Int))) ((wI ((8 : Int) + (i28 : Int)) : Int).toNat) (u8I ((shrQ (u64I (wI ((wI ((2 : Int) * a2)) + a3))) (wI ((56 : Int) - (wI ((8 : Int) * (i28 : Int)))))).toNat : Int))), _, rfl, rfl, ⟨H105, hleH105, h143, h144, h145, h146, h147, h148, rfl, hI⟩, forK_inl hy28 hb28⟩
      · rw [if_neg hc135] at hF; cases hF
    · rw [if_neg hc134] at hF; cases hF
  · skip
    have hbhc115 : (decide ((i28 : Int) < 8)) = false := decide_eq_false hc115
    obtain rfl : k28 = 0 := by omega
    obtain rfl := forK_end hy28
    have hF := hF28
    try dsimp only at hF
    refine wcF ((show opd _ _ _ = _ from rfl).trans (congrArg Value.bool hbhc115)) ?_
    refine wp_exit ?_
    refine thE ?_
    refine thE ?_
    refine inX ?_
    refine wthen ?_
    refine wren (fun ρ150 eρ150 => ?_)
    have h151 : opd ρ150 42 (.tmp 4) = .pointer (some ⟨g1, 0 + 0, none⟩) := (eρ150 4).trans h109
    have h152 : opd ρ150 42 (.tmp 8) = .pointer (some ⟨g3, 0 + 0, none⟩) := (eρ150 8).trans h110
    have h153 : opd ρ150 42 (.tmp 9) = .pointer (some ⟨g11, 0 + 0, none⟩) := (eρ150 9).trans h111
    clear eρ150
    refine wseq ?_
    refine dstG (H0 := H105) (L0 := keepL [false, true, false] [.cb g1 [ckV flB a0] 29, .cb g3 [ckV flB (Vec.rep 32 0)] 29, .cb g11 [ckV flB σ28] 254]) [5] mixed rfl (by repeat (first | exact Pan.body | refine Pan.then ?_ | refine Pan.inBlock ?_ | refine Pan.noGoto ?_ | refine Pan.pure ?_)) hI (hI.good.weakm _ (Hle.refl _) rfl) ?_
    intro w154 hI hP
    obtain ⟨H155, hI, hleH155, hA156⟩ := hI.freeze' 0 rfl
    replace hI : Inv B w154 H155 [.cb g3 [ckV flB (Vec.rep 32 0)] 29, .cb g11 [ckV flB σ28] 254] := hI
    replace hA156 : At H155 g1 0 [ckV flB a0] := hA156
    have hs157 := At.sl (f := flB) (m := 32) (off := 0) (p := 0) hA156 rfl rfl rfl
    obtain ⟨s157, es157⟩ : ∃ z : Sv, z = ⟨some ⟨g1, 0 + 0, none⟩, 32, 32⟩ := ⟨_, rfl⟩
    rw [← es157] at hs157
    have hfs157 : s157.n = s157.c := by rw [es157]
    refine dp (v := s157.v) 1 (by kernel_rfl) rfl rfl (fun _ => (by rw [es157]; exact r_sla' rfl ar29 h151)) rfl hP ?_
    obtain ⟨H158, hI, hleH158, hA159⟩ := hI.freeze' 1 rfl
    replace hI : Inv B w154 H158 [.cb g3 [ckV flB (Vec.rep 32 0)] 29] := hI
    replace hA159 : At H158 g11 0 [ckV flB σ28] := hA159
    have hs160 := At.sl (f := flB) (m := 16) (off := 0) (p := 0) hA159 rfl rfl rfl
    obtain ⟨s160, es160⟩ : ∃ z : Sv, z = ⟨some ⟨g11, 0 + 0, none⟩, 16, 16⟩ := ⟨_, rfl⟩
    rw [← es160] at hs160
    have hfs160 : s160.n = s160.c := by rw [es160]
    refine dp (v := s160.v) 2 (by kernel_rfl) rfl rfl (fun _ => (by rw [es160]; exact r_sla' rfl ar254 h153)) rfl hP ?_
    refine de 0 (by kernel_rfl) rfl rfl rfl (l_bs (t := (Fl.ty flB)) (vs := [bv 2]) (xs := [2]) hI rfl sl158 inf5 rfl rfl (argc rfl rfl) (.cons rfl rfl .nil) rfl) rfl ?_
    rintro _ w163 ⟨s161, H162, rfl, hI, hleH162, hs161, hfs161, hgs161⟩
    refine ⟨(hI.good.weakm [true] ((hleH155.trans hleH158).trans hleH162) rfl), ?_⟩
    refine de 3 (by kernel_rfl) rfl rfl rfl (l_bs (t := (Ty.sl (Fl.ty flB))) (vs := [s161.v, s157.v, s160.v]) (xs := [[2], a0.l, σ28.l]) hI rfl sl228 inf158 rfl rfl (argc rfl (argc rfl (argc rfl rfl))) (.cons rfl ⟨s161, rfl, hs161⟩ (.cons rfl ⟨s157, rfl, ((hs157.mono hleH158).mono hleH162)⟩ (.cons rfl ⟨s160, rfl, (hs160.mono hleH162)⟩ .nil))) rfl) rfl ?_
    rintro _ w166 ⟨s164, H165, rfl, hI, hleH165, hs164, hfs164, hgs164⟩
    refine ⟨(hI.good.weakm [true] (((hleH155.trans hleH158).trans hleH162).trans hleH165) rfl), ?_⟩
    obtain ⟨x167, hx167, hF⟩ := Option.bind_eq_some_iff.1 hF
    have hsp170 := spec_99 hx167 (((((hT.mono hleH105).mono hleH155).mono hleH158).mono hleH162).mono hleH165) (hI.part 0) hs164
    refine dfc 4 ([]) ([.cb g3 [ckV flB (Vec.rep 32 0)] 29]) (args := [s164.v]) fc99 (by kernel_rfl) rfl rfl rfl rfl rfl hI (argc rfl rfl) (hsp170) ?_
    rintro _ H168 _ w169 ⟨rfl, rfl⟩ hleH168 hI
    replace hI : Inv B w169 H168 [.cb g3 [ckV flB (Vec.rep 32 0)] 29] := hI
    refine ⟨(hI.good.weakm [true] ((((hleH155.trans hleH158).trans hleH162).trans hleH165).trans hleH168) rfl), ?_⟩
    refine dsl 5 (by kernel_rfl) rfl rfl rfl (l_st (off := 0) (p := 0) (m := 1) (new := [ckV flB x167]) hI 0 rfl rfl sz29 h152 rfl rfl rfl rfl rfl) rfl ?_
    intro w171 hI
    replace hI : Inv B w171 H168 [.cb g3 [ckV flB x167] 29] := hI
    refine dend (by kernel_rfl) ?_
    refine wthen ?_
    refine wren (fun ρ172 eρ172 => ?_)
    have h173 : opd ρ172 42 (.tmp 8) = .pointer (some ⟨g3, 0 + 0, none⟩) := (eρ172 8).trans h152
    clear eρ172
    refine wp_ret ?_
    obtain rfl := Option.some.inj hF
    subst hB
    refine finR (rs := [.cell 8 29]) (vs := [.agg (flat [ckV flB x167]).toArray]) rfl ⟨⟨_, h173, ld_agg (hI.good.ca 0 rfl) ag29 rfl⟩, trivial⟩ ?_
    exact hI.fin 0 ⟨rfl, rfl⟩
noncomputable def M_once_Public (a0 : Vec UInt8 32) (a1 : Int) : Option ((Vec UInt8 32)) := ((forK (fun (i20 : Nat) (σ20 : (List (Vec UInt8 32))) => (((M_once_secret a0 a1 (i20 : Int) 0).bind fun x184 => ((M_once_shut x184).bind fun x188 => ((M_once_secret a0 a1 (i20 : Int) 1).bind fun x192 => ((M_once_shut x192).bind fun x196 => ((appI 32 σ20 [x188, x196]).bind fun x203 => some (.inl x203)))))) : Option ((List (Vec UInt8 32)) ⊕ (Vec UInt8 32)))) 32 0 []).bind fun y => match y with | .inl σ20 => ((M_once_whole σ20).bind fun x217 => some x217) | .inr r => some r)
set_option maxHeartbeats 4000000 in
theorem spec_95 {w : World} {H : Hp} {a0 : Vec UInt8 32} {a1 : Int}  {r : (Vec UInt8 32)} (hF : M_once_Public a0 a1 = some r) (hT : Tab H) (hG : Good w H [])  :
    Fine Tryd.prog 95 [.agg (flat [ckV flB a0]).toArray, .int .i64 a1] w H [] (fun H' v L' => v = .agg (flat [ckV flB r]).toArray ∧ L' = []) := by
  unfold M_once_Public at hF
  unfold Fine
  obtain ⟨B, hB⟩ : ∃ B : Base, B = ⟨w, H, blks []⟩ := ⟨_, rfl⟩
  have hI : Inv B w H [] := by rw [hB]; exact Inv.start hG
  refine enter (n := 26) (args := [.agg (flat [ckV flB a0]).toArray, .int .i64 a1]) Tryd.func95 rfl Tryd.ntmps95 (Nat.le_of_ble_eq_true rfl) ?_
  refine wseq ?_
  refine wreg ?_
  refine le rfl (l_box (cks := [ckV flB a0]) hI rfl rfl rfl) rfl ?_
  rintro _ w2 ⟨g1, rfl, hI⟩
  replace hI : Inv B w2 H [.cb g1 [ckV flB a0] 29] := hI
  refine le rfl (l_al hI rfl ze29) rfl ?_
  rintro _ w4 ⟨g3, rfl, hI⟩
  replace hI : Inv B w4 H [.cb g1 [ckV flB a0] 29, .cb g3 [ckV flB (Vec.rep 32 0)] 29] := hI
  refine wend ?_
  refine wthen ?_
  refine wren (fun ρ5 eρ5 => ?_)
  have h6 : opd ρ5 26 (.tmp 1) = .int .i64 a1 := eρ5 1
  have h7 : opd ρ5 26 (.tmp 2) = .pointer (some ⟨g1, 0 + 0, none⟩) := eρ5 2
  have h8 : opd ρ5 26 (.tmp 4) = .pointer (some ⟨g3, 0 + 0, none⟩) := eρ5 4
  clear eρ5
  refine wseq ?_
  refine wreg ?_
  refine lv (v := Sv.nil.v) rfl (r_as rfl rfl) rfl ?_
  refine wend ?_
  refine wthen ?_
  refine wren (fun ρ9 eρ9 => ?_)
  have h10 : opd ρ9 26 (.tmp 1) = .int .i64 a1 := (eρ9 1).trans h6
  have h11 : opd ρ9 26 (.tmp 2) = .pointer (some ⟨g1, 0 + 0, none⟩) := (eρ9 2).trans h7
  have h12 : opd ρ9 26 (.tmp 4) = .pointer (some ⟨g3, 0 + 0, none⟩) := (eρ9 4).trans h8
  have h13 : opd ρ9 26 (.tmp 5) = Sv.nil.v := eρ9 5
  clear eρ9
  refine wseq ?_
  refine wseq ?_
  refine wreg ?_
  refine lv (v := .int .i64 0) rfl (r_mv rfl rfl) rfl ?_
  refine wend ?_
  refine wthen ?_
  refine wren (fun ρ14 eρ14 => ?_)
  have h15 : opd ρ14 26 (.tmp 1) = .int .i64 a1 := (eρ14 1).trans h10
  have h16 : opd ρ14 26 (.tmp 2) = .pointer (some ⟨g1, 0 + 0, none⟩) := (eρ14 2).trans h11
  have h17 : opd ρ14 26 (.tmp 4) = .pointer (some ⟨g3, 0 + 0, none⟩) := (eρ14 4).trans h12
  have h18 : opd ρ14 26 (.tmp 5) = Sv.nil.v := (eρ14 5).trans h13
  have h19 : opd ρ14 26 (.tmp 7) = .int .i64 0 := eρ14 7
  clear eρ14
  refine wp_block ?_
  replace hI := Inv.full (e := 29) (sz := 32) hI (show Sv.nil.n = Sv.nil.c from rfl)
  replace hI : Inv B w4 H [.cb g1 [ckV flB a0] 29, .cb g3 [ckV flB (Vec.rep 32 0)] 29, .own Sv.nil 29 32 none] := hI
  obtain ⟨y20, hy20, hF20⟩ := Option.bind_eq_some_iff.1 hF
  refine wfor (n := 26) 32 _ (fun (i20 : Nat) (σ20 : (List (Vec UInt8 32))) ρ' w' => ∃ (H161 : Hp) (s159 : Sv) (gg160 : Option Nat), Hle H H161 ∧ opd ρ' 26 (.tmp 1) = .int .i64 a1 ∧ opd ρ' 26 (.tmp 2) = .pointer (some ⟨g1, 0 + 0, none⟩) ∧ opd ρ' 26 (.tmp 4) = .pointer (some ⟨g3, 0 + 0, none⟩) ∧ opd ρ' 26 (.tmp 5) = s159.v ∧ opd ρ' 26 (.tmp 7) = .int .i64 (i20 : Int) ∧ Sl (Fl.ty (flV flB 32)) H161 s159 σ20 ∧ Inv B w' H161 [.cb g1 [ckV flB a0] 29, .cb g3 [ckV flB (Vec.rep 32 0)] 29, .own s159 29 32 gg160]) hy20 ⟨H, Sv.nil, none, (Hle.refl _), h15, h16, h17, h18, h19, (Sl.nil _ _), hI⟩ ?_
  rintro k20 i20 σ20 ρ167 w168 hk20 ⟨H161, s159, gg160, hleH161, h162, h163, h164, h165, h166, hs159, hI⟩ hy20
  refine wseq ?_
  refine wreg ?_
  refine lv (v := .bool (decide ((i20 : Int) < 32))) rfl (r_lss rfl h166 rfl rfl) rfl ?_
  refine wend ?_
  refine wthen ?_
  refine wseq ?_
  by_cases hc169 : (i20 : Int) < 32
  · skip
    have hbhc169 : (decide ((i20 : Int) < 32)) = true := decide_eq_true hc169
    obtain ⟨k20, rfl⟩ : ∃ m, k20 = m + 1 := ⟨k20 - 1, by omega⟩
    obtain ⟨z20, hb20⟩ := forK_body hy20
    have hF := hb20
    have hlt20 : ((i20 : Nat) : Int) + 1 ≤ 9223372036854775807 := by omega
    refine wcT ((show opd _ _ _ = _ from rfl).trans (congrArg Value.bool hbhc169)) ?_
    refine wp_skip ?_
    refine wthen ?_
    refine wren (fun ρ170 eρ170 => ?_)
    have h171 : opd ρ170 26 (.tmp 1) = .int .i64 a1 := (eρ170 1).trans h162
    have h172 : opd ρ170 26 (.tmp 2) = .pointer (some ⟨g1, 0 + 0, none⟩) := (eρ170 2).trans h163
    have h173 : opd ρ170 26 (.tmp 4) = .pointer (some ⟨g3, 0 + 0, none⟩) := (eρ170 4).trans h164
    have h174 : opd ρ170 26 (.tmp 5) = s159.v := (eρ170 5).trans h165
    have h175 : opd ρ170 26 (.tmp 7) = .int .i64 (i20 : Int) := (eρ170 7).trans h166
    clear eρ170
    refine wseq ?_
    refine wp_block ?_
    refine wseq ?_
    refine wreg ?_
    refine lv (v := .int .i64 (i20 : Int)) rfl (r_mv rfl h175) rfl ?_
    refine lv (v := .int .i64 (i20 : Int)) rfl (r_as rfl rfl) rfl ?_
    refine wend ?_
    refine wthen ?_
    refine wren (fun ρ176 eρ176 => ?_)
    have h177 : opd ρ176 26 (.tmp 1) = .int .i64 a1 := (eρ176 1).trans h171
    have h178 : opd ρ176 26 (.tmp 2) = .pointer (some ⟨g1, 0 + 0, none⟩) := (eρ176 2).trans h172
    have h179 : opd ρ176 26 (.tmp 4) = .pointer (some ⟨g3, 0 + 0, none⟩) := (eρ176 4).trans h173
    have h180 : opd ρ176 26 (.tmp 5) = s159.v := (eρ176 5).trans h174
    have h181 : opd ρ176 26 (.tmp 6) = .int .i64 (i20 : Int) := eρ176 6
    have h182 : opd ρ176 26 (.tmp 7) = .int .i64 (i20 : Int) := (eρ176 7).trans h175
    clear eρ176
    refine dstG (H0 := H161) (L0 := keepL [true, true, true] [.cb g1 [ckV flB a0] 29, .cb g3 [ckV flB (Vec.rep 32 0)] 29, .own s159 29 32 gg160]) [12] mixed rfl (by repeat (first | exact Pan.body | refine Pan.then ?_ | refine Pan.inBlock ?_ | refine Pan.noGoto ?_ | refine Pan.pure ?_)) hI (hI.good.weakm _ (Hle.refl _) rfl) ?_
    intro w183 hI hP
    refine dp (v := s159.v) 0 (by kernel_rfl) rfl rfl (fun _ => r_mv rfl h180) rfl hP ?_
    refine dp (v := .int .i64 a1) 2 (by kernel_rfl) rfl rfl (fun _ => r_mv rfl h177) rfl hP ?_
    refine dp (v := .int .i64 (i20 : Int)) 3 (by kernel_rfl) rfl rfl (fun _ => r_mv rfl h181) rfl hP ?_
    refine dp (v := .int .i64 a1) 7 (by kernel_rfl) rfl rfl (fun _ => r_mv rfl h177) rfl hP ?_
    refine dp (v := .int .i64 (i20 : Int)) 8 (by kernel_rfl) rfl rfl (fun _ => r_mv rfl h181) rfl hP ?_
    refine dr (v := .agg (flat [ckV flB a0]).toArray) 1 (by kernel_rfl) rfl rfl (hI.good.weakm [true, true, true] (Hle.refl _) rfl) (fun _ hG => r_cla (off := 0) (p := 0) (m := 1) (hG.ca 0 rfl) rfl ag29 h178 rfl rfl) rfl hP ?_
    refine dr (v := .agg (flat [ckV flB a0]).toArray) 6 (by kernel_rfl) rfl rfl (hI.good.weakm [true, true, true] (Hle.refl _) rfl) (fun _ hG => r_cla (off := 0) (p := 0) (m := 1) (hG.ca 0 rfl) rfl ag29 h178 rfl rfl) rfl hP ?_
    obtain ⟨x184, hx184, hF⟩ := Option.bind_eq_some_iff.1 hF
    have hsp187 := spec_143 hx184 (hT.mono hleH161) (hI.part 0) 
    refine dfc 4 ([]) ([.cb g1 [ckV flB a0] 29, .cb g3 [ckV flB (Vec.rep 32 0)] 29, .own s159 29 32 gg160]) (args := [.agg (flat [ckV flB a0]).toArray, .int .i64 a1, .int .i64 (i20 : Int), .int .i64 0]) fc143 (by kernel_rfl) rfl rfl rfl rfl rfl hI (argc rfl (argc rfl (argc rfl (argc rfl rfl)))) (hsp187) ?_
    rintro _ H185 _ w186 ⟨rfl, rfl⟩ hleH185 hI
    replace hI : Inv B w186 H185 [.cb g1 [ckV flB a0] 29, .cb g3 [ckV flB (Vec.rep 32 0)] 29, .own s159 29 32 gg160] := hI
    refine ⟨(hI.good.weakm [true, true, true] hleH185 rfl), ?_⟩
    obtain ⟨x188, hx188, hF⟩ := Option.bind_eq_some_iff.1 hF
    have hsp191 := spec_104 hx188 ((hT.mono hleH161).mono hleH185) (hI.part 0) 
    refine dfc 5 ([]) ([.cb g1 [ckV flB a0] 29, .cb g3 [ckV flB (Vec.rep 32 0)] 29, .own s159 29 32 gg160]) (args := [.agg (flat [ckV flB x184]).toArray]) fc104 (by kernel_rfl) rfl rfl rfl rfl rfl hI (argc rfl rfl) (hsp191) ?_
    rintro _ H189 _ w190 ⟨rfl, rfl⟩ hleH189 hI
    replace hI : Inv B w190 H189 [.cb g1 [ckV flB a0] 29, .cb g3 [ckV flB (Vec.rep 32 0)] 29, .own s159 29 32 gg160] := hI
    refine ⟨(hI.good.weakm [true, true, true] (hleH185.trans hleH189) rfl), ?_⟩
    obtain ⟨x192, hx192, hF⟩ := Option.bind_eq_some_iff.1 hF
    have hsp195 := spec_143 hx192 (((hT.mono hleH161).mono hleH185).mono hleH189) (hI.part 0) 
    refine dfc 9 ([]) ([.cb g1 [ckV flB a0] 29, .cb g3 [ckV flB (Vec.rep 32 0)] 29, .own s159 29 32 gg160]) (args := [.agg (flat [ckV flB a0]).toArray, .int .i64 a1, .int .i64 (i20 : Int), .int .i64 1]) fc143 (by kernel_rfl) rfl rfl rfl rfl rfl hI (argc rfl (argc rfl (argc rfl (argc rfl rfl)))) (hsp195) ?_
    rintro _ H193 _ w194 ⟨rfl, rfl⟩ hleH193 hI
    replace hI : Inv B w194 H193 [.cb g1 [ckV flB a0] 29, .cb g3 [ckV flB (Vec.rep 32 0)] 29, .own s159 29 32 gg160] := hI
    refine ⟨(hI.good.weakm [true, true, true] ((hleH185.trans hleH189).trans hleH193) rfl), ?_⟩
    obtain ⟨x196, hx196, hF⟩ := Option.bind_eq_some_iff.1 hF
    have hsp199 := spec_104 hx196 ((((hT.mono hleH161).mono hleH185).mono hleH189).mono hleH193) (hI.part 0) 
    refine dfc 10 ([]) ([.cb g1 [ckV flB a0] 29, .cb g3 [ckV flB (Vec.rep 32 0)] 29, .own s159 29 32 gg160]) (args := [.agg (flat [ckV flB x192]).toArray]) fc104 (by kernel_rfl) rfl rfl rfl rfl rfl hI (argc rfl rfl) (hsp199) ?_
    rintro _ H197 _ w198 ⟨rfl, rfl⟩ hleH197 hI
    replace hI : Inv B w198 H197 [.cb g1 [ckV flB a0] 29, .cb g3 [ckV flB (Vec.rep 32 0)] 29, .own s159 29 32 gg160] := hI
    refine ⟨(hI.good.weakm [true, true, true] (((hleH185.trans hleH189).trans hleH193).trans hleH197) rfl), ?_⟩
    refine de 11 (by kernel_rfl) rfl rfl rfl (l_bs (t := (Fl.ty (flV flB 32))) (vs := [.agg (flat [ckV flB x188]).toArray, .agg (flat [ckV flB x196]).toArray]) (xs := [x188, x196]) hI rfl sl27 inf29 rfl rfl (argc rfl (argc rfl rfl)) (.cons rfl rfl (.cons rfl rfl .nil)) rfl) rfl ?_
    rintro _ w202 ⟨s200, H201, rfl, hI, hleH201, hs200, hfs200, hgs200⟩
    refine ⟨(hI.good.weakm [true, true, true] ((((hleH185.trans hleH189).trans hleH193).trans hleH197).trans hleH201) rfl), ?_⟩
    obtain ⟨x203, hx203, hF⟩ := Option.bind_eq_some_iff.1 hF
    refine del 12 (by kernel_rfl) rfl rfl rfl (l_app (t := (Fl.ty (flV flB 32))) hI 2 rfl rfl sl27 inf29 rfl rfl rfl rfl (((((hs159.mono hleH185).mono hleH189).mono hleH193).mono hleH197).mono hleH201) hs200 (appI_some hx203).1) rfl ?_
    rintro _ w207 ⟨s204, H205, gg206, rfl, hI, hleH205, hs204⟩
    rw [← (appI_some hx203).2] at hs204
    replace hI : Inv B w207 H205 [.cb g1 [ckV flB a0] 29, .cb g3 [ckV flB (Vec.rep 32 0)] 29, .own s204 29 32 gg206] := hI
    refine dp (v := s204.v) 13 (by kernel_rfl) rfl rfl (fun _ => r_as rfl rfl) rfl hP ?_
    refine dend (by kernel_rfl) ?_
    refine inN ?_
    refine wthen ?_
    refine wren (fun ρ208 eρ208 => ?_)
    have h209 : opd ρ208 26 (.tmp 1) = .int .i64 a1 := (eρ208 1).trans h177
    have h210 : opd ρ208 26 (.tmp 2) = .pointer (some ⟨g1, 0 + 0, none⟩) := (eρ208 2).trans h178
    have h211 : opd ρ208 26 (.tmp 4) = .pointer (some ⟨g3, 0 + 0, none⟩) := (eρ208 4).trans h179
    have h212 : opd ρ208 26 (.tmp 5) = s204.v := eρ208 5
    have h213 : opd ρ208 26 (.tmp 7) = .int .i64 (i20 : Int) := (eρ208 7).trans h182
    clear eρ208
    refine wreg ?_
    refine lv (v := .int .i64 ((i20 + 1 : Nat) : Int)) rfl (r_addn rfl h213 rfl hlt20) rfl ?_
    refine lv (v := .int .i64 ((i20 + 1 : Nat) : Int)) rfl (r_mv rfl rfl) rfl ?_
    refine wend ?_
    obtain rfl := Option.some.inj hF
    exact ⟨k20, x203, _, rfl, rfl, ⟨H205, s204, gg206, ((((((hleH161.trans hleH185).trans hleH189).trans hleH193).trans hleH197).trans hleH201).trans hleH205), h209, h210, h211, h212, rfl, hs204, hI⟩, forK_inl hy20 hb20⟩
  · skip
    have hbhc169 : (decide ((i20 : Int) < 32)) = false := decide_eq_false hc169
    obtain rfl : k20 = 0 := by omega
    obtain rfl := forK_end hy20
    have hF := hF20
    try dsimp only at hF
    refine wcF ((show opd _ _ _ = _ from rfl).trans (congrArg Value.bool hbhc169)) ?_
    refine wp_exit ?_
    refine thE ?_
    refine thE ?_
    refine inX ?_
    refine wthen ?_
    refine wren (fun ρ214 eρ214 => ?_)
    have h215 : opd ρ214 26 (.tmp 4) = .pointer (some ⟨g3, 0 + 0, none⟩) := (eρ214 4).trans h164
    have h216 : opd ρ214 26 (.tmp 5) = s159.v := (eρ214 5).trans h165
    clear eρ214
    refine wseq ?_
    refine wreg ?_
    refine lv (v := s159.v) rfl (r_mv rfl h216) rfl ?_
    obtain ⟨x217, hx217, hF⟩ := Option.bind_eq_some_iff.1 hF
    have hsp220 := spec_106 hx217 (hT.mono hleH161) (hI.part 0) hs159
    refine fc ([]) ([.cb g1 [ckV flB a0] 29, .cb g3 [ckV flB (Vec.rep 32 0)] 29, .own s159 29 32 gg160]) (args := [s159.v]) fc106 rfl rfl rfl hI (argc rfl rfl) (hsp220) ?_
    rintro _ H218 _ w219 ⟨rfl, rfl⟩ hleH218 hI
    replace hI : Inv B w219 H218 [.cb g1 [ckV flB a0] 29, .cb g3 [ckV flB (Vec.rep 32 0)] 29, .own s159 29 32 gg160] := hI
    refine lst rfl (l_st (off := 0) (p := 0) (m := 1) (new := [ckV flB x217]) hI 1 rfl rfl sz29 h215 rfl rfl rfl rfl rfl) rfl ?_
    intro w221 hI
    replace hI : Inv B w221 H218 [.cb g1 [ckV flB a0] 29, .cb g3 [ckV flB x217] 29, .own s159 29 32 gg160] := hI
    refine wend ?_
    refine wthen ?_
    refine wren (fun ρ222 eρ222 => ?_)
    have h223 : opd ρ222 26 (.tmp 4) = .pointer (some ⟨g3, 0 + 0, none⟩) := (eρ222 4).trans h215
    clear eρ222
    refine wp_ret ?_
    obtain rfl := Option.some.inj hF
    subst hB
    refine finR (rs := [.cell 4 29]) (vs := [.agg (flat [ckV flB x217]).toArray]) rfl ⟨⟨_, h223, ld_agg (hI.good.ca 1 rfl) ag29 rfl⟩, trivial⟩ ?_
    exact hI.fin 0 ⟨rfl, rfl⟩
noncomputable def M_keys_New (a0 : Vec UInt8 32) (a1 : Int) : Option ((Option Keys_Tree) × Int) := (if a1 < 0 then some (none, 1) else (if (6 : Int) < a1 then some (none, 1) else (if (0 : Int) ≤ a1 then ((forK (fun (i34 : Nat) (σ34 : (List (Vec UInt8 32))) => (((M_once_Public a0 (i34 : Int)).bind fun x165 => ((M_keys_leaf x165).bind fun x169 => ((appI 32 σ34 [x169]).bind fun x176 => some (.inl x176)))) : Option ((List (Vec UInt8 32)) ⊕ ((Option Keys_Tree) × Int)))) ((shlI (1 : Int) a1 : Int).toNat) 0 []).bind fun y => match y with | .inl σ34 => some ((some (⟨a0, a1, σ34⟩ : Keys_Tree)), 0) | .inr r => some r) else none)))
set_option maxHeartbeats 4000000 in
theorem spec_52 {w : World} {H : Hp} {a0 : Vec UInt8 32} {a1 : Int}  {r : (Option Keys_Tree) × Int} (hF : M_keys_New a0 a1 = some r) (hT : Tab H) (hG : Good w H [])  :
    Fine Tryd.prog 52 [.agg (flat [ckV flB a0]).toArray, .int .i64 a1] w H [] (fun H' v L' => (r.1 = none ∧ v = .tuple #[.pointer none, .int .i64 r.2] ∧ L' = []) ∨ (∃ t : Keys_Tree, ∃ s901 : Sv, ∃ g900 : Nat, r.1 = some t ∧ v = .tuple #[.pointer (some ⟨g900, 0 + 0, none⟩), .int .i64 r.2] ∧ Sl (Fl.ty (flV flB 32)) H' s901 t.leaves_ ∧ L' = [.cb g900 [ckV flB t.seed_, ckI t.height_, ckL s901] 168])) := by
  unfold M_keys_New at hF
  unfold Fine
  obtain ⟨B, hB⟩ : ∃ B : Base, B = ⟨w, H, blks []⟩ := ⟨_, rfl⟩
  have hI : Inv B w H [] := by rw [hB]; exact Inv.start hG
  refine enter (n := 38) (args := [.agg (flat [ckV flB a0]).toArray, .int .i64 a1]) Tryd.func52 rfl Tryd.ntmps52 (Nat.le_of_ble_eq_true rfl) ?_
  refine wseq ?_
  refine wreg ?_
  refine le rfl (l_box (cks := [ckV flB a0]) hI rfl rfl rfl) rfl ?_
  rintro _ w2 ⟨g1, rfl, hI⟩
  replace hI : Inv B w2 H [.cb g1 [ckV flB a0] 29] := hI
  refine lv (v := .pointer none) rfl (r_as rfl rfl) rfl ?_
  refine lv (v := .int .i64 0) rfl (r_as rfl rfl) rfl ?_
  refine wend ?_
  refine wthen ?_
  refine wren (fun ρ3 eρ3 => ?_)
  have h4 : opd ρ3 38 (.tmp 1) = .int .i64 a1 := eρ3 1
  have h5 : opd ρ3 38 (.tmp 2) = .pointer (some ⟨g1, 0 + 0, none⟩) := eρ3 2
  clear eρ3
  refine wseq ?_
  refine wseq ?_
  refine wreg ?_
  refine lv (v := .int .i64 a1) rfl (r_mv rfl h4) rfl ?_
  refine lv (v := .bool (decide (a1 < 0))) rfl (r_lss rfl rfl rfl rfl) rfl ?_
  by_cases hc6 : a1 < 0
  · skip
    rw [if_pos hc6] at hF
    have hbhc6 : (decide (a1 < 0)) = true := decide_eq_true hc6
    refine lv (v := .bool true) rfl (r_mv rfl ((show opd _ _ _ = _ from rfl).trans (congrArg Value.bool hbhc6))) rfl ?_
    with_reducible refine lx (d := 11) (by kernel_rfl) (by kernel_rfl) ?_
    with_reducible refine lx (d := 12) (by kernel_rfl) (by kernel_rfl) ?_
    refine lv (v := .bool true) rfl (r_pkT rfl rfl rfl) rfl ?_
    refine wend ?_
    refine wthen ?_
    refine wren (fun ρ7 eρ7 => ?_)
    have h8 : opd ρ7 38 (.tmp 1) = .int .i64 a1 := (eρ7 1).trans h4
    have h9 : opd ρ7 38 (.tmp 2) = .pointer (some ⟨g1, 0 + 0, none⟩) := (eρ7 2).trans h5
    have h10 : opd ρ7 38 (.tmp 13) = .bool true := eρ7 13
    clear eρ7
    refine wcT h10 ?_
    refine wseq ?_
    refine wreg ?_
    refine lv (v := .pointer none) rfl (r_as rfl rfl) rfl ?_
    refine lv (v := .int .i64 1) rfl (r_as rfl rfl) rfl ?_
    refine wend ?_
    refine wthen ?_
    refine wren (fun ρ11 eρ11 => ?_)
    have h12 : opd ρ11 38 (.tmp 4) = .pointer none := eρ11 4
    have h13 : opd ρ11 38 (.tmp 5) = .int .i64 1 := eρ11 5
    clear eρ11
    refine wp_ret ?_
    refine thR ?_
    obtain rfl := Option.some.inj hF
    subst hB
    refine finR (rs := [.tmp 4, .tmp 5]) (vs := [.pointer none, .int .i64 1]) rfl ⟨h12, h13, trivial⟩ ?_
    exact hI.fin 0 (.inl ⟨rfl, rfl, rfl⟩)
  · skip
    rw [if_neg hc6] at hF
    have hbhc6 : (decide (a1 < 0)) = false := decide_eq_false hc6
    refine lv (v := .bool false) rfl (r_mv rfl ((show opd _ _ _ = _ from rfl).trans (congrArg Value.bool hbhc6))) rfl ?_
    refine lv (v := .int .i64 a1) rfl (r_mv rfl h4) rfl ?_
    refine lv (v := .bool (decide ((6 : Int) < a1))) rfl (r_gtr rfl rfl rfl rfl) rfl ?_
    refine lv (v := .bool (decide ((6 : Int) < a1))) rfl (r_pkF rfl rfl rfl) rfl ?_
    refine wend ?_
    refine wthen ?_
    refine wren (fun ρ14 eρ14 => ?_)
    have h15 : opd ρ14 38 (.tmp 1) = .int .i64 a1 := (eρ14 1).trans h4
    have h16 : opd ρ14 38 (.tmp 2) = .pointer (some ⟨g1, 0 + 0, none⟩) := (eρ14 2).trans h5
    have h17 : opd ρ14 38 (.tmp 13) = .bool (decide ((6 : Int) < a1)) := eρ14 13
    clear eρ14
    by_cases hc18 : (6 : Int) < a1
    · skip
      rw [if_pos hc18] at hF
      have hbhc18 : (decide ((6 : Int) < a1)) = true := decide_eq_true hc18
      refine wcT (h17.trans (congrArg Value.bool hbhc18)) ?_
      refine wseq ?_
      refine wreg ?_
      refine lv (v := .pointer none) rfl (r_as rfl rfl) rfl ?_
      refine lv (v := .int .i64 1) rfl (r_as rfl rfl) rfl ?_
      refine wend ?_
      refine wthen ?_
      refine wren (fun ρ19 eρ19 => ?_)
      have h20 : opd ρ19 38 (.tmp 4) = .pointer none := eρ19 4
      have h21 : opd ρ19 38 (.tmp 5) = .int .i64 1 := eρ19 5
      clear eρ19
      refine wp_ret ?_
      refine thR ?_
      obtain rfl := Option.some.inj hF
      subst hB
      refine finR (rs := [.tmp 4, .tmp 5]) (vs := [.pointer none, .int .i64 1]) rfl ⟨h20, h21, trivial⟩ ?_
      exact hI.fin 0 (.inl ⟨rfl, rfl, rfl⟩)
    · skip
      rw [if_neg hc18] at hF
      have hbhc18 : (decide ((6 : Int) < a1)) = false := decide_eq_false hc18
      refine wcF (h17.trans (congrArg Value.bool hbhc18)) ?_
      refine wp_skip ?_
      refine wthen ?_
      refine wseq ?_
      refine wreg ?_
      refine lv (v := .agg (flat [ckV flB a0]).toArray) rfl (r_cla (off := 0) (p := 0) (m := 1) (hI.good.ca 0 rfl) rfl ag29 h16 rfl rfl) rfl ?_
      refine lv (v := .int .i64 a1) rfl (r_mv rfl h15) rfl ?_
      refine lv (v := .agg (flat [ckV flB a0, ckI a1, ckL Sv.nil]).toArray) rfl (r_bldk (z := [[ckV flB (Vec.rep 32 0)], [ckI 0], [ckL Sv.nil]]) (pc := [(0, [ckV flB a0]), (1, [ckI a1])]) rfl zg168 bf168 rfl (argc (congrArg Value.cells rfl) (argc (congrArg Value.cells rfl) rfl)) rfl rfl) rfl ?_
      refine le rfl (l_box (cks := [ckV flB a0, ckI a1, ckL Sv.nil]) hI rfl rfl rfl) rfl ?_
      rintro _ w23 ⟨g22, rfl, hI⟩
      replace hI : Inv B w23 H [.cb g1 [ckV flB a0] 29, .cb g22 [ckV flB a0, ckI a1, ckL Sv.nil] 168] := hI
      refine lv (v := .pointer (some ⟨g22, 0 + 0, none⟩)) rfl (r_as rfl rfl) rfl ?_
      refine wend ?_
      refine wthen ?_
      refine wren (fun ρ24 eρ24 => ?_)
      have h25 : opd ρ24 38 (.tmp 1) = .int .i64 a1 := (eρ24 1).trans h15
      have h26 : opd ρ24 38 (.tmp 2) = .pointer (some ⟨g1, 0 + 0, none⟩) := (eρ24 2).trans h16
      have h27 : opd ρ24 38 (.tmp 6) = .pointer (some ⟨g22, 0 + 0, none⟩) := eρ24 6
      clear eρ24
      refine wseq ?_
      refine wseq ?_
      refine wreg ?_
      refine lv (v := .int .i64 a1) rfl (r_mv rfl h25) rfl ?_
      by_cases hc28 : (0 : Int) ≤ a1
      · rw [if_pos hc28] at hF
        refine lv (v := .int .i64 (shlI (1 : Int) a1)) rfl (r_shlI rfl rfl rfl hc28) rfl ?_
        refine lv (v := .int .i64 0) rfl (r_mv rfl rfl) rfl ?_
        refine wend ?_
        refine wthen ?_
        refine wren (fun ρ29 eρ29 => ?_)
        have h30 : opd ρ29 38 (.tmp 2) = .pointer (some ⟨g1, 0 + 0, none⟩) := (eρ29 2).trans h26
        have h31 : opd ρ29 38 (.tmp 6) = .pointer (some ⟨g22, 0 + 0, none⟩) := (eρ29 6).trans h27
        have h32 : opd ρ29 38 (.tmp 19) = .int .i64 (shlI (1 : Int) a1) := eρ29 19
        have h33 : opd ρ29 38 (.tmp 20) = .int .i64 0 := eρ29 20
        clear eρ29
        refine wp_block ?_
        replace hI := Inv.full (e := 29) (sz := 32) hI (show Sv.nil.n = Sv.nil.c from rfl)
        replace hI : Inv B w23 H [.cb g1 [ckV flB a0] 29, .cb g22 [ckV flB a0, ckI a1, ckL Sv.nil] 168, .own Sv.nil 29 32 none] := hI
        have hbd34 : shlI (1 : Int) a1 ≤ 9223372036854775807 := by first | (simp only [wI, shlI]; exact (i64_range _).2) | omega
        obtain ⟨y34, hy34, hF34⟩ := Option.bind_eq_some_iff.1 hF
        refine wfor (n := 38) ((shlI (1 : Int) a1 : Int).toNat) _ (fun (i34 : Nat) (σ34 : (List (Vec UInt8 32))) ρ' w' => ∃ (H145 : Hp) (s143 : Sv) (gg144 : Option Nat), Hle H H145 ∧ opd ρ' 38 (.tmp 2) = .pointer (some ⟨g1, 0 + 0, none⟩) ∧ opd ρ' 38 (.tmp 6) = .pointer (some ⟨g22, 0 + 0, none⟩) ∧ opd ρ' 38 (.tmp 19) = .int .i64 (shlI (1 : Int) a1) ∧ opd ρ' 38 (.tmp 20) = .int .i64 (i34 : Int) ∧ Sl (Fl.ty (flV flB 32)) H145 s143 σ34 ∧ Inv B w' H145 [.cb g1 [ckV flB a0] 29, .cb g22 [ckV flB a0, ckI a1, ckL s143] 168, .own s143 29 32 gg144]) hy34 ⟨H, Sv.nil, none, (Hle.refl _), h30, h31, h32, h33, (Sl.nil _ _), hI⟩ ?_
        rintro k34 i34 σ34 ρ150 w151 hk34 ⟨H145, s143, gg144, hleH145, h146, h147, h148, h149, hs143, hI⟩ hy34
        refine wseq ?_
        refine wreg ?_
        refine lv (v := .bool (decide ((i34 : Int) < (shlI (1 : Int) a1)))) rfl (r_lss rfl h149 h148 rfl) rfl ?_
        refine wend ?_
        refine wthen ?_
        refine wseq ?_
        by_cases hc152 : (i34 : Int) < (shlI (1 : Int) a1)
        · skip
          have hbhc152 : (decide ((i34 : Int) < (shlI (1 : Int) a1))) = true := decide_eq_true hc152
          obtain ⟨k34, rfl⟩ : ∃ m, k34 = m + 1 := ⟨k34 - 1, by omega⟩
          obtain ⟨z34, hb34⟩ := forK_body hy34
          have hF := hb34
          have hlt34 : ((i34 : Nat) : Int) + 1 ≤ 9223372036854775807 := by omega
          refine wcT ((show opd _ _ _ = _ from rfl).trans (congrArg Value.bool hbhc152)) ?_
          refine wp_skip ?_
          refine wthen ?_
          refine wren (fun ρ153 eρ153 => ?_)
          have h154 : opd ρ153 38 (.tmp 2) = .pointer (some ⟨g1, 0 + 0, none⟩) := (eρ153 2).trans h146
          have h155 : opd ρ153 38 (.tmp 6) = .pointer (some ⟨g22, 0 + 0, none⟩) := (eρ153 6).trans h147
          have h156 : opd ρ153 38 (.tmp 19) = .int .i64 (shlI (1 : Int) a1) := (eρ153 19).trans h148
          have h157 : opd ρ153 38 (.tmp 20) = .int .i64 (i34 : Int) := (eρ153 20).trans h149
          clear eρ153
          refine wseq ?_
          refine wp_block ?_
          refine wseq ?_
          refine wreg ?_
          refine lv (v := .int .i64 (i34 : Int)) rfl (r_mv rfl h157) rfl ?_
          refine lv (v := .int .i64 (i34 : Int)) rfl (r_as rfl rfl) rfl ?_
          refine wend ?_
          refine wthen ?_
          refine wren (fun ρ158 eρ158 => ?_)
          have h159 : opd ρ158 38 (.tmp 2) = .pointer (some ⟨g1, 0 + 0, none⟩) := (eρ158 2).trans h154
          have h160 : opd ρ158 38 (.tmp 6) = .pointer (some ⟨g22, 0 + 0, none⟩) := (eρ158 6).trans h155
          have h161 : opd ρ158 38 (.tmp 7) = .int .i64 (i34 : Int) := eρ158 7
          have h162 : opd ρ158 38 (.tmp 19) = .int .i64 (shlI (1 : Int) a1) := (eρ158 19).trans h156
          have h163 : opd ρ158 38 (.tmp 20) = .int .i64 (i34 : Int) := (eρ158 20).trans h157
          clear eρ158
          refine dstG (H0 := H145) (L0 := keepL [true, true, true] [.cb g1 [ckV flB a0] 29, .cb g22 [ckV flB a0, ckI a1, ckL s143] 168, .own s143 29 32 gg144]) [10, 13] mixed rfl (by repeat (first | exact Pan.body | refine Pan.then ?_ | refine Pan.inBlock ?_ | refine Pan.noGoto ?_ | refine Pan.pure ?_)) hI (hI.good.weakm _ (Hle.refl _) rfl) ?_
          intro w164 hI hP
          refine dp (v := .pointer (some ⟨g22, 0 + 0, none⟩)) 0 (by kernel_rfl) rfl rfl (fun _ => r_mv rfl h160) rfl hP ?_
          refine dp (v := .pointer (some ⟨g22, 0 + 0, none⟩)) 1 (by kernel_rfl) rfl rfl (fun _ => r_mv rfl h160) rfl hP ?_
          refine dp (v := .pointer (some ⟨g22, 0 + 0, none⟩)) 2 (by kernel_rfl) rfl rfl (fun _ => r_nilc rfl rfl) rfl hP ?_
          refine dp (v := .pointer (some ⟨g22, 0 + 33, none⟩)) 3 (by kernel_rfl) rfl rfl (fun _ => l_fa (j := 0) (i := 0) rfl fl168_2 rfl rfl) rfl hP ?_
          refine dp (v := .int .i64 (i34 : Int)) 6 (by kernel_rfl) rfl rfl (fun _ => r_mv rfl h161) rfl hP ?_
          refine dr (v := s143.v) 4 (by kernel_rfl) rfl rfl (hI.good.weakm [true, true, true] (Hle.refl _) rfl) (fun _ hG => r_cl1 (off := 33) (p := 2) (hG.ca 1 rfl) rfl sc27 rfl rfl rfl) rfl hP ?_
          refine dr (v := .agg (flat [ckV flB a0]).toArray) 5 (by kernel_rfl) rfl rfl (hI.good.weakm [true, true, true] (Hle.refl _) rfl) (fun _ hG => r_cla (off := 0) (p := 0) (m := 1) (hG.ca 0 rfl) rfl ag29 h159 rfl rfl) rfl hP ?_
          obtain ⟨x165, hx165, hF⟩ := Option.bind_eq_some_iff.1 hF
          have hsp168 := spec_95 hx165 (hT.mono hleH145) (hI.part 0) 
          refine dfc 7 ([]) ([.cb g1 [ckV flB a0] 29, .cb g22 [ckV flB a0, ckI a1, ckL s143] 168, .own s143 29 32 gg144]) (args := [.agg (flat [ckV flB a0]).toArray, .int .i64 (i34 : Int)]) fc95 (by kernel_rfl) rfl rfl rfl rfl rfl hI (argc rfl (argc rfl rfl)) (hsp168) ?_
          rintro _ H166 _ w167 ⟨rfl, rfl⟩ hleH166 hI
          replace hI : Inv B w167 H166 [.cb g1 [ckV flB a0] 29, .cb g22 [ckV flB a0, ckI a1, ckL s143] 168, .own s143 29 32 gg144] := hI
          refine ⟨(hI.good.weakm [true, true, true] hleH166 rfl), ?_⟩
          obtain ⟨x169, hx169, hF⟩ := Option.bind_eq_some_iff.1 hF
          have hsp172 := spec_61 hx169 ((hT.mono hleH145).mono hleH166) (hI.part 0) 
          refine dfc 8 ([]) ([.cb g1 [ckV flB a0] 29, .cb g22 [ckV flB a0, ckI a1, ckL s143] 168, .own s143 29 32 gg144]) (args := [.agg (flat [ckV flB x165]).toArray]) fc61 (by kernel_rfl) rfl rfl rfl rfl rfl hI (argc rfl rfl) (hsp172) ?_
          rintro _ H170 _ w171 ⟨rfl, rfl⟩ hleH170 hI
          replace hI : Inv B w171 H170 [.cb g1 [ckV flB a0] 29, .cb g22 [ckV flB a0, ckI a1, ckL s143] 168, .own s143 29 32 gg144] := hI
          refine ⟨(hI.good.weakm [true, true, true] (hleH166.trans hleH170) rfl), ?_⟩
          refine de 9 (by kernel_rfl) rfl rfl rfl (l_bs (t := (Fl.ty (flV flB 32))) (vs := [.agg (flat [ckV flB x169]).toArray]) (xs := [x169]) hI rfl sl27 inf29 rfl rfl (argc rfl rfl) (.cons rfl rfl .nil) rfl) rfl ?_
          rintro _ w175 ⟨s173, H174, rfl, hI, hleH174, hs173, hfs173, hgs173⟩
          refine ⟨(hI.good.weakm [true, true, true] ((hleH166.trans hleH170).trans hleH174) rfl), ?_⟩
          obtain ⟨x176, hx176, hF⟩ := Option.bind_eq_some_iff.1 hF
          refine del 10 (by kernel_rfl) rfl rfl rfl (l_app (t := (Fl.ty (flV flB 32))) hI 2 rfl rfl sl27 inf29 rfl rfl rfl rfl (((hs143.mono hleH166).mono hleH170).mono hleH174) hs173 (appI_some hx176).1) rfl ?_
          rintro _ w180 ⟨s177, H178, gg179, rfl, hI, hleH178, hs177⟩
          rw [← (appI_some hx176).2] at hs177
          replace hI : Inv B w180 H178 [.cb g1 [ckV flB a0] 29, .cb g22 [ckV flB a0, ckI a1, ckL s143] 168, .own s177 29 32 gg179] := hI
          refine dp (v := .pointer (some ⟨g22, 0 + 0, none⟩)) 11 (by kernel_rfl) rfl rfl (fun _ => r_nilc rfl rfl) rfl hP ?_
          refine dp (v := .pointer (some ⟨g22, 0 + 33, none⟩)) 12 (by kernel_rfl) rfl rfl (fun _ => l_fa (j := 0) (i := 0) rfl fl168_2 rfl rfl) rfl hP ?_
          refine dsl 13 (by kernel_rfl) rfl rfl rfl (l_st (off := 33) (p := 2) (m := 1) (new := [ckL s177]) hI 1 rfl rfl sz27 rfl rfl rfl rfl rfl rfl) rfl ?_
          intro w181 hI
          replace hI : Inv B w181 H178 [.cb g1 [ckV flB a0] 29, .cb g22 [ckV flB a0, ckI a1, ckL s177] 168, .own s177 29 32 gg179] := hI
          refine dend (by kernel_rfl) ?_
          refine inN ?_
          refine wthen ?_
          refine wren (fun ρ182 eρ182 => ?_)
          have h183 : opd ρ182 38 (.tmp 2) = .pointer (some ⟨g1, 0 + 0, none⟩) := (eρ182 2).trans h159
          have h184 : opd ρ182 38 (.tmp 6) = .pointer (some ⟨g22, 0 + 0, none⟩) := (eρ182 6).trans h160
          have h185 : opd ρ182 38 (.tmp 19) = .int .i64 (shlI (1 : Int) a1) := (eρ182 19).trans h162
          have h186 : opd ρ182 38 (.tmp 20) = .int .i64 (i34 : Int) := (eρ182 20).trans h163
          clear eρ182
          refine wreg ?_
          refine lv (v := .int .i64 ((i34 + 1 : Nat) : Int)) rfl (r_addn rfl h186 rfl hlt34) rfl ?_
          refine lv (v := .int .i64 ((i34 + 1 : Nat) : Int)) rfl (r_mv rfl rfl) rfl ?_
          refine wend ?_
          obtain rfl := Option.some.inj hF
          exact ⟨k34, x176, _, rfl, rfl, ⟨H178, s177, gg179, ((((hleH145.trans hleH166).trans hleH170).trans hleH174).trans hleH178), h183, h184, h185, rfl, hs177, hI⟩, forK_inl hy34 hb34⟩
        · skip
          have hbhc152 : (decide ((i34 : Int) < (shlI (1 : Int) a1))) = false := decide_eq_false hc152
          obtain rfl : k34 = 0 := by omega
          obtain rfl := forK_end hy34
          have hF := hF34
          try dsimp only at hF
          refine wcF ((show opd _ _ _ = _ from rfl).trans (congrArg Value.bool hbhc152)) ?_
          refine wp_exit ?_
          refine thE ?_
          refine thE ?_
          refine inX ?_
          refine wthen ?_
          refine wren (fun ρ187 eρ187 => ?_)
          have h188 : opd ρ187 38 (.tmp 6) = .pointer (some ⟨g22, 0 + 0, none⟩) := (eρ187 6).trans h147
          clear eρ187
          refine wseq ?_
          refine wreg ?_
          refine lv (v := .pointer (some ⟨g22, 0 + 0, none⟩)) rfl (r_mv rfl h188) rfl ?_
          refine lv (v := .pointer (some ⟨g22, 0 + 0, none⟩)) rfl (r_as rfl rfl) rfl ?_
          refine lv (v := .int .i64 0) rfl (r_as rfl rfl) rfl ?_
          refine wend ?_
          refine wthen ?_
          refine wren (fun ρ189 eρ189 => ?_)
          have h190 : opd ρ189 38 (.tmp 4) = .pointer (some ⟨g22, 0 + 0, none⟩) := eρ189 4
          have h191 : opd ρ189 38 (.tmp 5) = .int .i64 0 := eρ189 5
          clear eρ189
          refine wp_ret ?_
          obtain rfl := Option.some.inj hF
          replace hI := hI.bring 1 rfl
          replace hI : Inv B w151 H145 [.cb g22 [ckV flB a0, ckI a1, ckL s143] 168, .cb g1 [ckV flB a0] 29, .own s143 29 32 gg144] := hI
          subst hB
          refine finR (rs := [.tmp 4, .tmp 5]) (vs := [.pointer (some ⟨g22, 0 + 0, none⟩), .int .i64 0]) rfl ⟨h190, h191, trivial⟩ ?_
          exact hI.fin 1 (.inr ⟨_, s143, g22, rfl, rfl, hs143, rfl⟩)
      · rw [if_neg hc28] at hF; cases hF
noncomputable def M_tree_up (a0 : List (Vec UInt8 32)) : Option ((List (Vec UInt8 32))) := (runL (fun (σ11 : (List (Vec UInt8 32)) × Int) => ((if σ11.2 < (a0.length : Int) then (if (wI (σ11.2 + 1)) = (a0.length : Int) then ((ixI a0 σ11.2).bind fun x176 => ((appI 32 σ11.1 [x176]).bind fun x185 => ((some x185).map Sum.inr))) else ((ixI a0 σ11.2).bind fun x196 => ((ixI a0 (wI (σ11.2 + 1))).bind fun x202 => ((M_sha_Pair 1 x196 x202).bind fun x208 => ((appI 32 σ11.1 [x208]).bind fun x215 => some (.inl (x215, wI (σ11.2 + 2)))))))) else ((some σ11.1).map Sum.inr)) : Option (((List (Vec UInt8 32)) × Int) ⊕ (List (Vec UInt8 32))))) ([], 0))
set_option maxHeartbeats 4000000 in
theorem spec_144 {w : World} {H : Hp} {a0 : List (Vec UInt8 32)} {s1 : Sv} {r : (List (Vec UInt8 32))} (hF : M_tree_up a0 = some r) (hT : Tab H) (hG : Good w H []) (hs1 : Sl (Fl.ty (flV flB 32)) H s1 a0) :
    Fine Tryd.prog 144 [s1.v] w H [] (fun H' v L' => ∃ s900 : Sv, v = s900.v ∧ Sl (Fl.ty (flV flB 32)) H' s900 r ∧ L' = []) := by
  unfold M_tree_up at hF
  unfold Fine
  obtain ⟨B, hB⟩ : ∃ B : Base, B = ⟨w, H, blks []⟩ := ⟨_, rfl⟩
  have hI : Inv B w H [] := by rw [hB]; exact Inv.start hG
  refine enter (n := 37) (args := [s1.v]) Tryd.func144 rfl Tryd.ntmps144 (Nat.le_of_ble_eq_true rfl) ?_
  refine wseq ?_
  refine wreg ?_
  refine lv (v := Sv.nil.v) rfl (r_as rfl rfl) rfl ?_
  refine wend ?_
  refine wthen ?_
  refine wren (fun ρ2 eρ2 => ?_)
  have h3 : opd ρ2 37 (.tmp 0) = s1.v := eρ2 0
  clear eρ2
  refine wseq ?_
  refine wreg ?_
  refine lv (v := Sv.nil.v) rfl (r_as rfl rfl) rfl ?_
  refine wend ?_
  refine wthen ?_
  refine wren (fun ρ4 eρ4 => ?_)
  have h5 : opd ρ4 37 (.tmp 0) = s1.v := (eρ4 0).trans h3
  have h6 : opd ρ4 37 (.tmp 3) = Sv.nil.v := eρ4 3
  clear eρ4
  refine wseq ?_
  refine wseq ?_
  refine wreg ?_
  refine lv (v := .int .i64 0) rfl (r_as rfl rfl) rfl ?_
  refine wend ?_
  refine wthen ?_
  refine wren (fun ρ7 eρ7 => ?_)
  have h8 : opd ρ7 37 (.tmp 0) = s1.v := (eρ7 0).trans h5
  have h9 : opd ρ7 37 (.tmp 3) = Sv.nil.v := (eρ7 3).trans h6
  have h10 : opd ρ7 37 (.tmp 4) = .int .i64 0 := eρ7 4
  clear eρ7
  refine wp_block ?_
  replace hI := Inv.full (e := 29) (sz := 32) hI (show Sv.nil.n = Sv.nil.c from rfl)
  replace hI : Inv B w H [.own Sv.nil 29 32 none] := hI
  refine wrun (n := 37) _ (fun (σ11 : (List (Vec UInt8 32)) × Int) ρ' w' => ∃ (H158 : Hp) (s156 : Sv) (gg157 : Option Nat), Hle H H158 ∧ opd ρ' 37 (.tmp 0) = s1.v ∧ opd ρ' 37 (.tmp 3) = s156.v ∧ opd ρ' 37 (.tmp 4) = .int .i64 σ11.2 ∧ Sl (Fl.ty (flV flB 32)) H158 s156 σ11.1 ∧ Inv B w' H158 [.own s156 29 32 gg157]) hF ⟨H, Sv.nil, none, (Hle.refl _), h8, h9, h10, (Sl.nil _ _), hI⟩ ?_
  rintro k11 σ11 ρ162 w163 ⟨H158, s156, gg157, hleH158, h159, h160, h161, hs156, hI⟩ hy11
  obtain ⟨z11, hb11⟩ := iterK_body hy11
  have hF := hb11
  refine wseq ?_
  refine wseq ?_
  refine wreg ?_
  refine lv (v := .int .i64 σ11.2) rfl (r_mv rfl h161) rfl ?_
  refine lv (v := s1.v) rfl (r_mv rfl h159) rfl ?_
  refine lv (v := .int .i64 (a0.length : Int)) rfl (r_lenS rfl sl27 rfl (hs1.mono hleH158)) rfl ?_
  refine lv (v := .bool (decide (σ11.2 < (a0.length : Int)))) rfl (r_lss rfl rfl rfl rfl) rfl ?_
  refine wend ?_
  refine wthen ?_
  refine wren (fun ρ164 eρ164 => ?_)
  have h165 : opd ρ164 37 (.tmp 0) = s1.v := (eρ164 0).trans h159
  have h166 : opd ρ164 37 (.tmp 3) = s156.v := (eρ164 3).trans h160
  have h167 : opd ρ164 37 (.tmp 4) = .int .i64 σ11.2 := (eρ164 4).trans h161
  have h168 : opd ρ164 37 (.tmp 8) = .bool (decide (σ11.2 < (a0.length : Int))) := eρ164 8
  clear eρ164
  by_cases hc169 : σ11.2 < (a0.length : Int)
  · skip
    rw [if_pos hc169] at hF
    have hbhc169 : (decide (σ11.2 < (a0.length : Int))) = true := decide_eq_true hc169
    refine wcT (h168.trans (congrArg Value.bool hbhc169)) ?_
    refine wp_skip ?_
    refine wthen ?_
    refine wseq ?_
    refine wp_block ?_
    refine wseq ?_
    refine wseq ?_
    refine wreg ?_
    refine lv (v := .int .i64 σ11.2) rfl (r_mv rfl h167) rfl ?_
    refine lv (v := .int .i64 (wI (σ11.2 + 1))) rfl (r_addw rfl rfl rfl) rfl ?_
    refine lv (v := s1.v) rfl (r_mv rfl h165) rfl ?_
    refine lv (v := .int .i64 (a0.length : Int)) rfl (r_lenS rfl sl27 rfl (hs1.mono hleH158)) rfl ?_
    refine lv (v := .bool (decide ((wI (σ11.2 + 1)) = (a0.length : Int)))) rfl (r_eql rfl rfl rfl rfl) rfl ?_
    refine wend ?_
    refine wthen ?_
    refine wren (fun ρ170 eρ170 => ?_)
    have h171 : opd ρ170 37 (.tmp 0) = s1.v := (eρ170 0).trans h165
    have h172 : opd ρ170 37 (.tmp 3) = s156.v := (eρ170 3).trans h166
    have h173 : opd ρ170 37 (.tmp 4) = .int .i64 σ11.2 := (eρ170 4).trans h167
    have h174 : opd ρ170 37 (.tmp 15) = .bool (decide ((wI (σ11.2 + 1)) = (a0.length : Int))) := eρ170 15
    clear eρ170
    by_cases hc175 : (wI (σ11.2 + 1)) = (a0.length : Int)
    · skip
      rw [if_pos hc175] at hF
      have hbhc175 : (decide ((wI (σ11.2 + 1)) = (a0.length : Int))) = true := decide_eq_true hc175
      refine wcT (h174.trans (congrArg Value.bool hbhc175)) ?_
      refine wseq ?_
      refine wreg ?_
      refine lv (v := s156.v) rfl (r_mv rfl h172) rfl ?_
      refine lv (v := s1.v) rfl (r_mv rfl h171) rfl ?_
      refine lv (v := .int .i64 σ11.2) rfl (r_mv rfl h173) rfl ?_
      obtain ⟨x176, hx176, hF⟩ := Option.bind_eq_some_iff.1 hF
      obtain ⟨b177, j178, hix179, hil180, hA181⟩ := (hs1.mono hleH158).ixf (ixI_some hx176).1
      replace hA181 : At H158 b177 j178 [ckV flB x176] := hA181
      refine lv (v := .pointer (some ⟨b177, j178 + 0, none⟩)) rfl (r_ixt rfl sl27 rfl rfl (ixI_some hx176).2 hix179 hil180) rfl ?_
      refine lv (v := .agg (flat [ckV flB x176]).toArray) rfl (r_cla (off := 0) (p := 0) (m := 1) (hA181.ca hI.good) rfl ag29 rfl rfl rfl) rfl ?_
      refine le rfl (l_bs (t := (Fl.ty (flV flB 32))) (vs := [.agg (flat [ckV flB x176]).toArray]) (xs := [x176]) hI rfl sl27 inf29 rfl rfl (argc rfl rfl) (.cons rfl rfl .nil) rfl) rfl ?_
      rintro _ w184 ⟨s182, H183, rfl, hI, hleH183, hs182, hfs182, hgs182⟩
      obtain ⟨x185, hx185, hF⟩ := Option.bind_eq_some_iff.1 hF
      refine le rfl (l_app (t := (Fl.ty (flV flB 32))) hI 0 rfl rfl sl27 inf29 rfl rfl rfl rfl (hs156.mono hleH183) hs182 (appI_some hx185).1) rfl ?_
      rintro _ w189 ⟨s186, H187, gg188, rfl, hI, hleH187, hs186⟩
      rw [← (appI_some hx185).2] at hs186
      replace hI : Inv B w189 H187 [.own s186 29 32 gg188] := hI
      refine lv (v := s186.v) rfl (r_as rfl rfl) rfl ?_
      refine wend ?_
      refine wthen ?_
      refine wren (fun ρ190 eρ190 => ?_)
      have h191 : opd ρ190 37 (.tmp 3) = s186.v := eρ190 3
      clear eρ190
      refine wp_exit ?_
      refine thE ?_
      refine inO rfl ?_
      refine thE ?_
      refine thE ?_
      obtain ⟨q192, hFn, hzq192⟩ := Option.map_eq_some_iff.1 hF
      clear hF
      have hy0 := iterK_inr hy11 (hb11.trans (congrArg some hzq192.symm))
      rw [← hy0] at hFn
      have hF := hFn
      clear hFn
      refine inX ?_
      refine wthen ?_
      refine wseq ?_
      refine wreg ?_
      refine lv (v := s186.v) rfl (r_mv rfl h191) rfl ?_
      refine lv (v := s186.v) rfl (r_as rfl rfl) rfl ?_
      refine wend ?_
      refine wthen ?_
      refine wren (fun ρ193 eρ193 => ?_)
      have h194 : opd ρ193 37 (.tmp 2) = s186.v := eρ193 2
      clear eρ193
      refine wp_ret ?_
      obtain rfl := Option.some.inj hF
      subst hB
      refine finR (rs := [.tmp 2]) (vs := [s186.v]) rfl ⟨h194, trivial⟩ ?_
      exact hI.fin 0 ⟨s186, rfl, hs186, rfl⟩
    · skip
      rw [if_neg hc175] at hF
      have hbhc175 : (decide ((wI (σ11.2 + 1)) = (a0.length : Int))) = false := decide_eq_false hc175
      refine wcF (h174.trans (congrArg Value.bool hbhc175)) ?_
      refine wp_skip ?_
      refine wthen ?_
      refine dstG (H0 := H158) (L0 := keepL [true] [.own s156 29 32 gg157]) [12] mixed rfl (by repeat (first | exact Pan.body | refine Pan.then ?_ | refine Pan.inBlock ?_ | refine Pan.noGoto ?_ | refine Pan.pure ?_)) hI (hI.good.weakm _ (Hle.refl _) rfl) ?_
      intro w195 hI hP
      refine dp (v := s156.v) 0 (by kernel_rfl) rfl rfl (fun _ => r_mv rfl h172) rfl hP ?_
      refine dp (v := s1.v) 1 (by kernel_rfl) rfl rfl (fun _ => r_mv rfl h171) rfl hP ?_
      refine dp (v := .int .i64 σ11.2) 2 (by kernel_rfl) rfl rfl (fun _ => r_mv rfl h173) rfl hP ?_
      obtain ⟨x196, hx196, hF⟩ := Option.bind_eq_some_iff.1 hF
      obtain ⟨b197, j198, hix199, hil200, hA201⟩ := (hs1.mono hleH158).ixf (ixI_some hx196).1
      replace hA201 : At H158 b197 j198 [ckV flB x196] := hA201
      refine dp (v := .pointer (some ⟨b197, j198 + 0, none⟩)) 3 (by kernel_rfl) rfl rfl (fun _ => r_ixt rfl sl27 rfl rfl (ixI_some hx196).2 hix199 hil200) rfl hP ?_
      refine dp (v := s1.v) 5 (by kernel_rfl) rfl rfl (fun _ => r_mv rfl h171) rfl hP ?_
      refine dp (v := .int .i64 σ11.2) 6 (by kernel_rfl) rfl rfl (fun _ => r_mv rfl h173) rfl hP ?_
      refine dp (v := .int .i64 (wI (σ11.2 + 1))) 7 (by kernel_rfl) rfl rfl (fun _ => r_addw rfl rfl rfl) rfl hP ?_
      obtain ⟨x202, hx202, hF⟩ := Option.bind_eq_some_iff.1 hF
      obtain ⟨b203, j204, hix205, hil206, hA207⟩ := (hs1.mono hleH158).ixf (ixI_some hx202).1
      replace hA207 : At H158 b203 j204 [ckV flB x202] := hA207
      refine dp (v := .pointer (some ⟨b203, j204 + 0, none⟩)) 8 (by kernel_rfl) rfl rfl (fun _ => r_ixt rfl sl27 rfl rfl (ixI_some hx202).2 hix205 hil206) rfl hP ?_
      refine dr (v := .agg (flat [ckV flB x196]).toArray) 4 (by kernel_rfl) rfl rfl (hI.good.weakm [true] (Hle.refl _) rfl) (fun _ hG => r_cla (off := 0) (p := 0) (m := 1) (hA201.ca hG) rfl ag29 rfl rfl rfl) rfl hP ?_
      refine dr (v := .agg (flat [ckV flB x202]).toArray) 9 (by kernel_rfl) rfl rfl (hI.good.weakm [true] (Hle.refl _) rfl) (fun _ hG => r_cla (off := 0) (p := 0) (m := 1) (hA207.ca hG) rfl ag29 rfl rfl rfl) rfl hP ?_
      obtain ⟨x208, hx208, hF⟩ := Option.bind_eq_some_iff.1 hF
      have hsp211 := spec_107 hx208 (hT.mono hleH158) (hI.part 0) 
      refine dfc 10 ([]) ([.own s156 29 32 gg157]) (args := [bv 1, .agg (flat [ckV flB x196]).toArray, .agg (flat [ckV flB x202]).toArray]) fc107 (by kernel_rfl) rfl rfl rfl rfl rfl hI (argc rfl (argc rfl (argc rfl rfl))) (hsp211) ?_
      rintro _ H209 _ w210 ⟨rfl, rfl⟩ hleH209 hI
      replace hI : Inv B w210 H209 [.own s156 29 32 gg157] := hI
      refine ⟨(hI.good.weakm [true] hleH209 rfl), ?_⟩
      refine de 11 (by kernel_rfl) rfl rfl rfl (l_bs (t := (Fl.ty (flV flB 32))) (vs := [.agg (flat [ckV flB x208]).toArray]) (xs := [x208]) hI rfl sl27 inf29 rfl rfl (argc rfl rfl) (.cons rfl rfl .nil) rfl) rfl ?_
      rintro _ w214 ⟨s212, H213, rfl, hI, hleH213, hs212, hfs212, hgs212⟩
      refine ⟨(hI.good.weakm [true] (hleH209.trans hleH213) rfl), ?_⟩
      obtain ⟨x215, hx215, hF⟩ := Option.bind_eq_some_iff.1 hF
      refine del 12 (by kernel_rfl) rfl rfl rfl (l_app (t := (Fl.ty (flV flB 32))) hI 0 rfl rfl sl27 inf29 rfl rfl rfl rfl ((hs156.mono hleH209).mono hleH213) hs212 (appI_some hx215).1) rfl ?_
      rintro _ w219 ⟨s216, H217, gg218, rfl, hI, hleH217, hs216⟩
      rw [← (appI_some hx215).2] at hs216
      replace hI : Inv B w219 H217 [.own s216 29 32 gg218] := hI
      refine dp (v := s216.v) 13 (by kernel_rfl) rfl rfl (fun _ => r_as rfl rfl) rfl hP ?_
      refine dend (by kernel_rfl) ?_
      refine inN ?_
      refine wthen ?_
      refine wren (fun ρ220 eρ220 => ?_)
      have h221 : opd ρ220 37 (.tmp 0) = s1.v := (eρ220 0).trans h171
      have h222 : opd ρ220 37 (.tmp 3) = s216.v := eρ220 3
      have h223 : opd ρ220 37 (.tmp 4) = .int .i64 σ11.2 := (eρ220 4).trans h173
      clear eρ220
      refine wreg ?_
      refine lv (v := .int .i64 σ11.2) rfl (r_mv rfl h223) rfl ?_
      refine lv (v := .int .i64 (wI (σ11.2 + 2))) rfl (r_addw rfl rfl rfl) rfl ?_
      refine lv (v := .int .i64 (wI (σ11.2 + 2))) rfl (r_as rfl rfl) rfl ?_
      refine wend ?_
      obtain rfl := Option.some.inj hF
      exact ⟨(x215, wI (σ11.2 + 2)), _, rfl, ⟨H217, s216, gg218, (((hleH158.trans hleH209).trans hleH213).trans hleH217), h221, h222, rfl, hs216, hI⟩, iterK_inl hy11 hb11⟩
  · skip
    rw [if_neg hc169] at hF
    have hbhc169 : (decide (σ11.2 < (a0.length : Int))) = false := decide_eq_false hc169
    refine wcF (h168.trans (congrArg Value.bool hbhc169)) ?_
    refine wp_exit ?_
    refine thE ?_
    refine thE ?_
    obtain ⟨q224, hFn, hzq224⟩ := Option.map_eq_some_iff.1 hF
    clear hF
    have hy0 := iterK_inr hy11 (hb11.trans (congrArg some hzq224.symm))
    rw [← hy0] at hFn
    have hF := hFn
    clear hFn
    refine inX ?_
    refine wthen ?_
    refine wseq ?_
    refine wreg ?_
    refine lv (v := s156.v) rfl (r_mv rfl h166) rfl ?_
    refine lv (v := s156.v) rfl (r_as rfl rfl) rfl ?_
    refine wend ?_
    refine wthen ?_
    refine wren (fun ρ225 eρ225 => ?_)
    have h226 : opd ρ225 37 (.tmp 2) = s156.v := eρ225 2
    clear eρ225
    refine wp_ret ?_
    obtain rfl := Option.some.inj hF
    subst hB
    refine finR (rs := [.tmp 2]) (vs := [s156.v]) rfl ⟨h226, trivial⟩ ?_
    exact hI.fin 0 ⟨s156, rfl, hs156, rfl⟩
noncomputable def M_tree_Path (a0 : Int) (a1 : List (Vec UInt8 32)) : Option ((List (Vec UInt8 32)) × Bool) := (if a0 < 0 then some ([], false) else (if (a1.length : Int) ≤ a0 then some ([], false) else ((appI 32 ([] : List (Vec UInt8 32)) a1).bind fun x29 => (runL (fun (σ38 : Int × (List (Vec UInt8 32)) × (List (Vec UInt8 32))) => ((if (1 : Int) < (σ38.2.2.length : Int) then (((if (bits .xor .i64 σ38.1 1) < (σ38.2.2.length : Int) then ((ixI σ38.2.2 (bits .xor .i64 σ38.1 1)).bind fun x194 => ((appI 32 σ38.2.1 [x194]).bind fun x203 => some x203)) else some σ38.2.1)).bind fun (x172 : (List (Vec UInt8 32))) => ((M_tree_up σ38.2.2).bind fun x208 => some (.inl (wI (Int.tdiv σ38.1 2), x172, x208)))) else ((some (σ38.2.1, true)).map Sum.inr)) : Option ((Int × (List (Vec UInt8 32)) × (List (Vec UInt8 32))) ⊕ ((List (Vec UInt8 32)) × Bool)))) (a0, [], x29)))))
set_option maxHeartbeats 4000000 in
theorem spec_96 {w : World} {H : Hp} {a0 : Int} {a1 : List (Vec UInt8 32)} {s1 : Sv} {r : (List (Vec UInt8 32)) × Bool} (hF : M_tree_Path a0 a1 = some r) (hT : Tab H) (hG : Good w H []) (hs1 : Sl (Fl.ty (flV flB 32)) H s1 a1) :
    Fine Tryd.prog 96 [.int .i64 a0, s1.v] w H [] (fun H' v L' => ∃ s900 : Sv, v = .tuple #[s900.v, .bool r.2] ∧ Sl (Fl.ty (flV flB 32)) H' s900 r.1 ∧ L' = []) := by
  unfold M_tree_Path at hF
  unfold Fine
  obtain ⟨B, hB⟩ : ∃ B : Base, B = ⟨w, H, blks []⟩ := ⟨_, rfl⟩
  have hI : Inv B w H [] := by rw [hB]; exact Inv.start hG
  refine enter (n := 41) (args := [.int .i64 a0, s1.v]) Tryd.func96 rfl Tryd.ntmps96 (Nat.le_of_ble_eq_true rfl) ?_
  refine wseq ?_
  refine wreg ?_
  refine lv (v := Sv.nil.v) rfl (r_as rfl rfl) rfl ?_
  refine lv (v := .bool false) rfl (r_as rfl rfl) rfl ?_
  refine wend ?_
  refine wthen ?_
  refine wren (fun ρ2 eρ2 => ?_)
  have h3 : opd ρ2 41 (.tmp 0) = .int .i64 a0 := eρ2 0
  have h4 : opd ρ2 41 (.tmp 1) = s1.v := eρ2 1
  clear eρ2
  refine wseq ?_
  refine wseq ?_
  refine wreg ?_
  refine lv (v := .int .i64 a0) rfl (r_mv rfl h3) rfl ?_
  refine lv (v := .bool (decide (a0 < 0))) rfl (r_lss rfl rfl rfl rfl) rfl ?_
  by_cases hc5 : a0 < 0
  · skip
    rw [if_pos hc5] at hF
    have hbhc5 : (decide (a0 < 0)) = true := decide_eq_true hc5
    refine lv (v := .bool true) rfl (r_mv rfl ((show opd _ _ _ = _ from rfl).trans (congrArg Value.bool hbhc5))) rfl ?_
    with_reducible refine lx (d := 12) (by kernel_rfl) (by kernel_rfl) ?_
    with_reducible refine lx (d := 13) (by kernel_rfl) (by kernel_rfl) ?_
    with_reducible refine lx (d := 14) (by kernel_rfl) (by kernel_rfl) ?_
    with_reducible refine lx (d := 15) (by kernel_rfl) (by kernel_rfl) ?_
    refine lv (v := .bool true) rfl (r_pkT rfl rfl rfl) rfl ?_
    refine wend ?_
    refine wthen ?_
    refine wren (fun ρ6 eρ6 => ?_)
    have h7 : opd ρ6 41 (.tmp 0) = .int .i64 a0 := (eρ6 0).trans h3
    have h8 : opd ρ6 41 (.tmp 1) = s1.v := (eρ6 1).trans h4
    have h9 : opd ρ6 41 (.tmp 16) = .bool true := eρ6 16
    clear eρ6
    refine wcT h9 ?_
    refine wseq ?_
    refine wreg ?_
    refine lv (v := Sv.nil.v) rfl (r_as rfl rfl) rfl ?_
    refine lv (v := .bool false) rfl (r_as rfl rfl) rfl ?_
    refine wend ?_
    refine wthen ?_
    refine wren (fun ρ10 eρ10 => ?_)
    have h11 : opd ρ10 41 (.tmp 4) = Sv.nil.v := eρ10 4
    have h12 : opd ρ10 41 (.tmp 5) = .bool false := eρ10 5
    clear eρ10
    refine wp_ret ?_
    refine thR ?_
    obtain rfl := Option.some.inj hF
    subst hB
    refine finR (rs := [.tmp 4, .tmp 5]) (vs := [Sv.nil.v, .bool false]) rfl ⟨h11, h12, trivial⟩ ?_
    exact hI.fin 0 ⟨Sv.nil, rfl, (Sl.nil _ _), rfl⟩
  · skip
    rw [if_neg hc5] at hF
    have hbhc5 : (decide (a0 < 0)) = false := decide_eq_false hc5
    refine lv (v := .bool false) rfl (r_mv rfl ((show opd _ _ _ = _ from rfl).trans (congrArg Value.bool hbhc5))) rfl ?_
    refine lv (v := .int .i64 a0) rfl (r_mv rfl h3) rfl ?_
    refine lv (v := s1.v) rfl (r_mv rfl h4) rfl ?_
    refine lv (v := .int .i64 (a1.length : Int)) rfl (r_lenS rfl sl27 rfl hs1) rfl ?_
    refine lv (v := .bool (decide ((a1.length : Int) ≤ a0))) rfl (r_geq rfl rfl rfl rfl) rfl ?_
    refine lv (v := .bool (decide ((a1.length : Int) ≤ a0))) rfl (r_pkF rfl rfl rfl) rfl ?_
    refine wend ?_
    refine wthen ?_
    refine wren (fun ρ13 eρ13 => ?_)
    have h14 : opd ρ13 41 (.tmp 0) = .int .i64 a0 := (eρ13 0).trans h3
    have h15 : opd ρ13 41 (.tmp 1) = s1.v := (eρ13 1).trans h4
    have h16 : opd ρ13 41 (.tmp 16) = .bool (decide ((a1.length : Int) ≤ a0)) := eρ13 16
    clear eρ13
    by_cases hc17 : (a1.length : Int) ≤ a0
    · skip
      rw [if_pos hc17] at hF
      have hbhc17 : (decide ((a1.length : Int) ≤ a0)) = true := decide_eq_true hc17
      refine wcT (h16.trans (congrArg Value.bool hbhc17)) ?_
      refine wseq ?_
      refine wreg ?_
      refine lv (v := Sv.nil.v) rfl (r_as rfl rfl) rfl ?_
      refine lv (v := .bool false) rfl (r_as rfl rfl) rfl ?_
      refine wend ?_
      refine wthen ?_
      refine wren (fun ρ18 eρ18 => ?_)
      have h19 : opd ρ18 41 (.tmp 4) = Sv.nil.v := eρ18 4
      have h20 : opd ρ18 41 (.tmp 5) = .bool false := eρ18 5
      clear eρ18
      refine wp_ret ?_
      refine thR ?_
      obtain rfl := Option.some.inj hF
      subst hB
      refine finR (rs := [.tmp 4, .tmp 5]) (vs := [Sv.nil.v, .bool false]) rfl ⟨h19, h20, trivial⟩ ?_
      exact hI.fin 0 ⟨Sv.nil, rfl, (Sl.nil _ _), rfl⟩
    · skip
      rw [if_neg hc17] at hF
      have hbhc17 : (decide ((a1.length : Int) ≤ a0)) = false := decide_eq_false hc17
      refine wcF (h16.trans (congrArg Value.bool hbhc17)) ?_
      refine wp_skip ?_
      refine wthen ?_
      refine wseq ?_
      refine wreg ?_
      refine lv (v := Sv.nil.v) rfl (r_as rfl rfl) rfl ?_
      refine wend ?_
      refine wthen ?_
      refine wren (fun ρ21 eρ21 => ?_)
      have h22 : opd ρ21 41 (.tmp 0) = .int .i64 a0 := (eρ21 0).trans h14
      have h23 : opd ρ21 41 (.tmp 1) = s1.v := (eρ21 1).trans h15
      have h24 : opd ρ21 41 (.tmp 6) = Sv.nil.v := eρ21 6
      clear eρ21
      refine wseq ?_
      refine wreg ?_
      refine le rfl (l_bs (t := (Fl.ty (flV flB 32))) (vs := []) (xs := []) hI rfl sl27 inf29 rfl rfl rfl .nil rfl) rfl ?_
      rintro _ w27 ⟨s25, H26, rfl, hI, hleH26, hs25, hfs25, hgs25⟩
      refine lv (v := s1.v) rfl (r_mv rfl h23) rfl ?_
      replace hI := Inv.full (e := 29) (sz := 32) hI (show s25.n = s25.c from hfs25)
      replace hI : Inv B w27 H26 [.own s25 29 32 none] := hI
      obtain ⟨x29, hx29, hF⟩ := Option.bind_eq_some_iff.1 hF
      refine le rfl (l_app (t := (Fl.ty (flV flB 32))) hI 0 rfl rfl sl27 inf29 rfl rfl rfl rfl hs25 (hs1.mono hleH26) (appI_some hx29).1) rfl ?_
      rintro _ w33 ⟨s30, H31, gg32, rfl, hI, hleH31, hs30⟩
      rw [← (appI_some hx29).2] at hs30
      replace hI : Inv B w33 H31 [.own s30 29 32 gg32] := hI
      refine lv (v := s30.v) rfl (r_as rfl rfl) rfl ?_
      refine wend ?_
      refine wthen ?_
      refine wren (fun ρ34 eρ34 => ?_)
      have h35 : opd ρ34 41 (.tmp 0) = .int .i64 a0 := (eρ34 0).trans h22
      have h36 : opd ρ34 41 (.tmp 6) = Sv.nil.v := (eρ34 6).trans h24
      have h37 : opd ρ34 41 (.tmp 7) = s30.v := eρ34 7
      clear eρ34
      refine wseq ?_
      refine wp_block ?_
      replace hI := Inv.full (e := 29) (sz := 32) hI (show Sv.nil.n = Sv.nil.c from rfl)
      replace hI : Inv B w33 H31 [.own s30 29 32 gg32, .own Sv.nil 29 32 none] := hI
      refine wrun (n := 41) _ (fun (σ38 : Int × (List (Vec UInt8 32)) × (List (Vec UInt8 32))) ρ' w' => ∃ (H158 : Hp) (s155 s156 : Sv) (gg157 : Option Nat), Hle H31 H158 ∧ opd ρ' 41 (.tmp 0) = .int .i64 σ38.1 ∧ opd ρ' 41 (.tmp 6) = s155.v ∧ opd ρ' 41 (.tmp 7) = s156.v ∧ Sl (Fl.ty (flV flB 32)) H158 s155 σ38.2.1 ∧ Sl (Fl.ty (flV flB 32)) H158 s156 σ38.2.2 ∧ Inv B w' H158 [.own s155 29 32 gg157]) hF ⟨H31, Sv.nil, s30, none, (Hle.refl _), h35, h36, h37, (Sl.nil _ _), hs30, (hI.keep [false, true])⟩ ?_
      rintro k38 σ38 ρ162 w163 ⟨H158, s155, s156, gg157, hleH158, h159, h160, h161, hs155, hs156, hI⟩ hy38
      obtain ⟨z38, hb38⟩ := iterK_body hy38
      have hF := hb38
      refine wseq ?_
      refine wseq ?_
      refine wreg ?_
      refine lv (v := s156.v) rfl (r_mv rfl h161) rfl ?_
      refine lv (v := .int .i64 (σ38.2.2.length : Int)) rfl (r_lenS rfl sl27 rfl hs156) rfl ?_
      refine lv (v := .bool (decide ((1 : Int) < (σ38.2.2.length : Int)))) rfl (r_gtr rfl rfl rfl rfl) rfl ?_
      refine wend ?_
      refine wthen ?_
      refine wren (fun ρ164 eρ164 => ?_)
      have h165 : opd ρ164 41 (.tmp 0) = .int .i64 σ38.1 := (eρ164 0).trans h159
      have h166 : opd ρ164 41 (.tmp 6) = s155.v := (eρ164 6).trans h160
      have h167 : opd ρ164 41 (.tmp 7) = s156.v := (eρ164 7).trans h161
      have h168 : opd ρ164 41 (.tmp 22) = .bool (decide ((1 : Int) < (σ38.2.2.length : Int))) := eρ164 22
      clear eρ164
      by_cases hc169 : (1 : Int) < (σ38.2.2.length : Int)
      · skip
        rw [if_pos hc169] at hF
        have hbhc169 : (decide ((1 : Int) < (σ38.2.2.length : Int))) = true := decide_eq_true hc169
        refine wcT (h168.trans (congrArg Value.bool hbhc169)) ?_
        refine wp_skip ?_
        refine wthen ?_
        obtain ⟨x172, hx172, hF⟩ := Option.bind_eq_some_iff.1 hF
        refine wcut (fun ρ' w' => ∃ (H173 : Hp) (s175 : Sv) (gg176 : Option Nat), Hle H158 H173 ∧ opd ρ' 41 (.tmp 0) = .int .i64 σ38.1 ∧ opd ρ' 41 (.tmp 6) = s175.v ∧ opd ρ' 41 (.tmp 7) = s156.v ∧ Sl (Fl.ty (flV flB 32)) H173 s175 x172 ∧ Inv B w' H173 [.own s175 29 32 gg176]) ?_ ?_
        · skip
          replace hF := hx172
          refine wp_block ?_
          refine wseq ?_
          refine wreg ?_
          refine lv (v := .int .i64 σ38.1) rfl (r_mv rfl h165) rfl ?_
          refine lv (v := .int .i64 (bits .xor .i64 σ38.1 1)) rfl (r_xor rfl rfl rfl) rfl ?_
          refine lv (v := .int .i64 (bits .xor .i64 σ38.1 1)) rfl (r_as rfl rfl) rfl ?_
          refine wend ?_
          refine wthen ?_
          refine wren (fun ρ182 eρ182 => ?_)
          have h183 : opd ρ182 41 (.tmp 0) = .int .i64 σ38.1 := (eρ182 0).trans h165
          have h184 : opd ρ182 41 (.tmp 6) = s155.v := (eρ182 6).trans h166
          have h185 : opd ρ182 41 (.tmp 7) = s156.v := (eρ182 7).trans h167
          have h186 : opd ρ182 41 (.tmp 8) = .int .i64 (bits .xor .i64 σ38.1 1) := eρ182 8
          clear eρ182
          refine wseq ?_
          refine wreg ?_
          refine lv (v := .int .i64 (bits .xor .i64 σ38.1 1)) rfl (r_mv rfl h186) rfl ?_
          refine lv (v := s156.v) rfl (r_mv rfl h185) rfl ?_
          refine lv (v := .int .i64 (σ38.2.2.length : Int)) rfl (r_lenS rfl sl27 rfl hs156) rfl ?_
          refine lv (v := .bool (decide ((bits .xor .i64 σ38.1 1) < (σ38.2.2.length : Int)))) rfl (r_lss rfl rfl rfl rfl) rfl ?_
          refine wend ?_
          refine wthen ?_
          refine wren (fun ρ187 eρ187 => ?_)
          have h188 : opd ρ187 41 (.tmp 0) = .int .i64 σ38.1 := (eρ187 0).trans h183
          have h189 : opd ρ187 41 (.tmp 6) = s155.v := (eρ187 6).trans h184
          have h190 : opd ρ187 41 (.tmp 7) = s156.v := (eρ187 7).trans h185
          have h191 : opd ρ187 41 (.tmp 8) = .int .i64 (bits .xor .i64 σ38.1 1) := (eρ187 8).trans h186
          have h192 : opd ρ187 41 (.tmp 32) = .bool (decide ((bits .xor .i64 σ38.1 1) < (σ38.2.2.length : Int))) := eρ187 32
          clear eρ187
          by_cases hc193 : (bits .xor .i64 σ38.1 1) < (σ38.2.2.length : Int)
          · skip
            rw [if_pos hc193] at hF
            have hbhc193 : (decide ((bits .xor .i64 σ38.1 1) < (σ38.2.2.length : Int))) = true := decide_eq_true hc193
            refine wcT (h192.trans (congrArg Value.bool hbhc193)) ?_
            refine wreg ?_
            refine lv (v := s155.v) rfl (r_mv rfl h189) rfl ?_
            refine lv (v := s156.v) rfl (r_mv rfl h190) rfl ?_
            refine lv (v := .int .i64 (bits .xor .i64 σ38.1 1)) rfl (r_mv rfl h191) rfl ?_
            obtain ⟨x194, hx194, hF⟩ := Option.bind_eq_some_iff.1 hF
            obtain ⟨b195, j196, hix197, hil198, hA199⟩ := hs156.ixf (ixI_some hx194).1
            replace hA199 : At H158 b195 j196 [ckV flB x194] := hA199
            refine lv (v := .pointer (some ⟨b195, j196 + 0, none⟩)) rfl (r_ixt rfl sl27 rfl rfl (ixI_some hx194).2 hix197 hil198) rfl ?_
            refine lv (v := .agg (flat [ckV flB x194]).toArray) rfl (r_cla (off := 0) (p := 0) (m := 1) (hA199.ca hI.good) rfl ag29 rfl rfl rfl) rfl ?_
            refine le rfl (l_bs (t := (Fl.ty (flV flB 32))) (vs := [.agg (flat [ckV flB x194]).toArray]) (xs := [x194]) hI rfl sl27 inf29 rfl rfl (argc rfl rfl) (.cons rfl rfl .nil) rfl) rfl ?_
            rintro _ w202 ⟨s200, H201, rfl, hI, hleH201, hs200, hfs200, hgs200⟩
            obtain ⟨x203, hx203, hF⟩ := Option.bind_eq_some_iff.1 hF
            refine le rfl (l_app (t := (Fl.ty (flV flB 32))) hI 0 rfl rfl sl27 inf29 rfl rfl rfl rfl (hs155.mono hleH201) hs200 (appI_some hx203).1) rfl ?_
            rintro _ w207 ⟨s204, H205, gg206, rfl, hI, hleH205, hs204⟩
            rw [← (appI_some hx203).2] at hs204
            replace hI : Inv B w207 H205 [.own s204 29 32 gg206] := hI
            refine lv (v := s204.v) rfl (r_as rfl rfl) rfl ?_
            refine wend ?_
            refine inN ?_
            obtain rfl := Option.some.inj hF
            exact wmid ⟨H205, s204, gg206, (hleH201.trans hleH205), h188, rfl, h190, hs204, hI⟩
          · skip
            rw [if_neg hc193] at hF
            have hbhc193 : (decide ((bits .xor .i64 σ38.1 1) < (σ38.2.2.length : Int))) = false := decide_eq_false hc193
            refine wcF (h192.trans (congrArg Value.bool hbhc193)) ?_
            refine wp_skip ?_
            refine inN ?_
            obtain rfl := Option.some.inj hF
            exact wmid ⟨H158, s155, gg157, (Hle.refl _), h188, h189, h190, hs155, hI⟩
        rintro ρ177 w174 ⟨H173, s175, gg176, hleH173, h178, h179, h180, hs175, hI⟩
        refine wreg ?_
        refine lv (v := s156.v) rfl (r_mv rfl h180) rfl ?_
        obtain ⟨x208, hx208, hF⟩ := Option.bind_eq_some_iff.1 hF
        have hsp211 := spec_144 hx208 ((((hT.mono hleH26).mono hleH31).mono hleH158).mono hleH173) (hI.part 0) (hs156.mono hleH173)
        refine fc ([]) ([.own s175 29 32 gg176]) (args := [s156.v]) fc144 rfl rfl rfl hI (argc rfl rfl) (hsp211) ?_
        rintro _ H209 _ w210 ⟨s212, rfl, hs212, rfl⟩ hleH209 hI
        replace hI : Inv B w210 H209 [.own s175 29 32 gg176] := hI
        refine lv (v := .int .i64 σ38.1) rfl (r_mv rfl h178) rfl ?_
        refine lv (v := .int .i64 (wI (Int.tdiv σ38.1 2))) rfl (r_quo rfl rfl rfl (by decide)) rfl ?_
        refine lv (v := s212.v) rfl (r_as rfl rfl) rfl ?_
        refine lv (v := .int .i64 (wI (Int.tdiv σ38.1 2))) rfl (r_as rfl rfl) rfl ?_
        refine wend ?_
        obtain rfl := Option.some.inj hF
        exact ⟨(wI (Int.tdiv σ38.1 2), x172, x208), _, rfl, ⟨H209, s175, s212, gg176, ((hleH158.trans hleH173).trans hleH209), rfl, h179, rfl, (hs175.mono hleH209), hs212, hI⟩, iterK_inl hy38 hb38⟩
      · skip
        rw [if_neg hc169] at hF
        have hbhc169 : (decide ((1 : Int) < (σ38.2.2.length : Int))) = false := decide_eq_false hc169
        refine wcF (h168.trans (congrArg Value.bool hbhc169)) ?_
        refine wp_exit ?_
        refine thE ?_
        refine thE ?_
        obtain ⟨q213, hFn, hzq213⟩ := Option.map_eq_some_iff.1 hF
        clear hF
        have hy0 := iterK_inr hy38 (hb38.trans (congrArg some hzq213.symm))
        rw [← hy0] at hFn
        have hF := hFn
        clear hFn
        refine inX ?_
        refine wthen ?_
        refine wseq ?_
        refine wreg ?_
        refine lv (v := s155.v) rfl (r_mv rfl h166) rfl ?_
        refine lv (v := s155.v) rfl (r_as rfl rfl) rfl ?_
        refine lv (v := .bool true) rfl (r_as rfl rfl) rfl ?_
        refine wend ?_
        refine wthen ?_
        refine wren (fun ρ214 eρ214 => ?_)
        have h215 : opd ρ214 41 (.tmp 4) = s155.v := eρ214 4
        have h216 : opd ρ214 41 (.tmp 5) = .bool true := eρ214 5
        clear eρ214
        refine wp_ret ?_
        obtain rfl := Option.some.inj hF
        subst hB
        refine finR (rs := [.tmp 4, .tmp 5]) (vs := [s155.v, .bool true]) rfl ⟨h215, h216, trivial⟩ ?_
        exact hI.fin 0 ⟨s155, rfl, hs155, rfl⟩
noncomputable def M_once_Sign (a0 : Vec UInt8 32) (a1 : Int) (a2 : Vec UInt8 32) : Option (Once) := ((forK (fun (i27 : Nat) (σ27 : (List (Vec UInt8 32)) × (List (Vec UInt8 32))) => (((M_once_bit a2 (i27 : Int)).bind fun x337 => ((M_once_secret a0 a1 (i27 : Int) x337).bind fun x351 => ((appI 32 σ27.1 [x351]).bind fun x358 => ((M_once_secret a0 a1 (i27 : Int) (wI ((1 : Int) - x337))).bind fun x374 => ((M_once_shut x374).bind fun x378 => ((appI 32 σ27.2 [x378]).bind fun x385 => some (.inl (x358, x385)))))))) : Option (((List (Vec UInt8 32)) × (List (Vec UInt8 32))) ⊕ Once))) 32 0 ([], [])).bind fun y => match y with | .inl σ27 => some (⟨σ27.1, σ27.2⟩ : Once) | .inr r => some r)
set_option maxHeartbeats 4000000 in
theorem spec_97 {w : World} {H : Hp} {a0 : Vec UInt8 32} {a1 : Int} {a2 : Vec UInt8 32}  {r : Once} (hF : M_once_Sign a0 a1 a2 = some r) (hT : Tab H) (hG : Good w H [])  :
    Fine Tryd.prog 97 [.agg (flat [ckV flB a0]).toArray, .int .i64 a1, .agg (flat [ckV flB a2]).toArray] w H [] (fun H' v L' => ∃ s900 : Sv, ∃ s901 : Sv, v = .agg (flat [ckL s900, ckL s901]).toArray ∧ Sl (Fl.ty (flV flB 32)) H' s900 r.Open ∧ Sl (Fl.ty (flV flB 32)) H' s901 r.Shut ∧ L' = []) := by
  unfold M_once_Sign at hF
  unfold Fine
  obtain ⟨B, hB⟩ : ∃ B : Base, B = ⟨w, H, blks []⟩ := ⟨_, rfl⟩
  have hI : Inv B w H [] := by rw [hB]; exact Inv.start hG
  refine enter (n := 40) (args := [.agg (flat [ckV flB a0]).toArray, .int .i64 a1, .agg (flat [ckV flB a2]).toArray]) Tryd.func97 rfl Tryd.ntmps97 (Nat.le_of_ble_eq_true rfl) ?_
  refine wseq ?_
  refine wreg ?_
  refine le rfl (l_box (cks := [ckV flB a0]) hI rfl rfl rfl) rfl ?_
  rintro _ w2 ⟨g1, rfl, hI⟩
  replace hI : Inv B w2 H [.cb g1 [ckV flB a0] 29] := hI
  refine le rfl (l_box (cks := [ckV flB a2]) hI rfl rfl rfl) rfl ?_
  rintro _ w4 ⟨g3, rfl, hI⟩
  replace hI : Inv B w4 H [.cb g1 [ckV flB a0] 29, .cb g3 [ckV flB a2] 29] := hI
  refine le rfl (l_al hI rfl ze31) rfl ?_
  rintro _ w6 ⟨g5, rfl, hI⟩
  replace hI : Inv B w6 H [.cb g1 [ckV flB a0] 29, .cb g3 [ckV flB a2] 29, .cb g5 [ckL Sv.nil, ckL Sv.nil] 31] := hI
  refine wend ?_
  refine wthen ?_
  refine wren (fun ρ7 eρ7 => ?_)
  have h8 : opd ρ7 40 (.tmp 1) = .int .i64 a1 := eρ7 1
  have h9 : opd ρ7 40 (.tmp 3) = .pointer (some ⟨g1, 0 + 0, none⟩) := eρ7 3
  have h10 : opd ρ7 40 (.tmp 5) = .pointer (some ⟨g3, 0 + 0, none⟩) := eρ7 5
  have h11 : opd ρ7 40 (.tmp 6) = .pointer (some ⟨g5, 0 + 0, none⟩) := eρ7 6
  clear eρ7
  refine wseq ?_
  refine wreg ?_
  refine le rfl (l_al hI rfl ze31) rfl ?_
  rintro _ w13 ⟨g12, rfl, hI⟩
  replace hI : Inv B w13 H [.cb g1 [ckV flB a0] 29, .cb g3 [ckV flB a2] 29, .cb g5 [ckL Sv.nil, ckL Sv.nil] 31, .cb g12 [ckL Sv.nil, ckL Sv.nil] 31] := hI
  refine wend ?_
  refine wthen ?_
  refine wren (fun ρ14 eρ14 => ?_)
  have h15 : opd ρ14 40 (.tmp 1) = .int .i64 a1 := (eρ14 1).trans h8
  have h16 : opd ρ14 40 (.tmp 3) = .pointer (some ⟨g1, 0 + 0, none⟩) := (eρ14 3).trans h9
  have h17 : opd ρ14 40 (.tmp 5) = .pointer (some ⟨g3, 0 + 0, none⟩) := (eρ14 5).trans h10
  have h18 : opd ρ14 40 (.tmp 6) = .pointer (some ⟨g5, 0 + 0, none⟩) := (eρ14 6).trans h11
  have h19 : opd ρ14 40 (.tmp 7) = .pointer (some ⟨g12, 0 + 0, none⟩) := eρ14 7
  clear eρ14
  refine wseq ?_
  refine wseq ?_
  refine wreg ?_
  refine lv (v := .int .i64 0) rfl (r_mv rfl rfl) rfl ?_
  refine wend ?_
  refine wthen ?_
  refine wren (fun ρ20 eρ20 => ?_)
  have h21 : opd ρ20 40 (.tmp 1) = .int .i64 a1 := (eρ20 1).trans h15
  have h22 : opd ρ20 40 (.tmp 3) = .pointer (some ⟨g1, 0 + 0, none⟩) := (eρ20 3).trans h16
  have h23 : opd ρ20 40 (.tmp 5) = .pointer (some ⟨g3, 0 + 0, none⟩) := (eρ20 5).trans h17
  have h24 : opd ρ20 40 (.tmp 6) = .pointer (some ⟨g5, 0 + 0, none⟩) := (eρ20 6).trans h18
  have h25 : opd ρ20 40 (.tmp 7) = .pointer (some ⟨g12, 0 + 0, none⟩) := (eρ20 7).trans h19
  have h26 : opd ρ20 40 (.tmp 10) = .int .i64 0 := eρ20 10
  clear eρ20
  refine wp_block ?_
  replace hI := Inv.full (e := 29) (sz := 32) hI (show Sv.nil.n = Sv.nil.c from rfl)
  replace hI : Inv B w13 H [.cb g1 [ckV flB a0] 29, .cb g3 [ckV flB a2] 29, .cb g5 [ckL Sv.nil, ckL Sv.nil] 31, .cb g12 [ckL Sv.nil, ckL Sv.nil] 31, .own Sv.nil 29 32 none] := hI
  replace hI := Inv.full (e := 29) (sz := 32) hI (show Sv.nil.n = Sv.nil.c from rfl)
  replace hI : Inv B w13 H [.cb g1 [ckV flB a0] 29, .cb g3 [ckV flB a2] 29, .cb g5 [ckL Sv.nil, ckL Sv.nil] 31, .cb g12 [ckL Sv.nil, ckL Sv.nil] 31, .own Sv.nil 29 32 none, .own Sv.nil 29 32 none] := hI
  obtain ⟨y27, hy27, hF27⟩ := Option.bind_eq_some_iff.1 hF
  refine wfor (n := 40) 32 _ (fun (i27 : Nat) (σ27 : (List (Vec UInt8 32)) × (List (Vec UInt8 32))) ρ' w' => ∃ (H312 : Hp) (s308 s309 : Sv) (gg310 gg311 : Option Nat), Hle H H312 ∧ opd ρ' 40 (.tmp 1) = .int .i64 a1 ∧ opd ρ' 40 (.tmp 3) = .pointer (some ⟨g1, 0 + 0, none⟩) ∧ opd ρ' 40 (.tmp 5) = .pointer (some ⟨g3, 0 + 0, none⟩) ∧ opd ρ' 40 (.tmp 6) = .pointer (some ⟨g5, 0 + 0, none⟩) ∧ opd ρ' 40 (.tmp 7) = .pointer (some ⟨g12, 0 + 0, none⟩) ∧ opd ρ' 40 (.tmp 10) = .int .i64 (i27 : Int) ∧ Sl (Fl.ty (flV flB 32)) H312 s308 σ27.1 ∧ Sl (Fl.ty (flV flB 32)) H312 s309 σ27.2 ∧ Inv B w' H312 [.cb g1 [ckV flB a0] 29, .cb g3 [ckV flB a2] 29, .cb g5 [ckL Sv.nil, ckL Sv.nil] 31, .cb g12 [ckL s308, ckL s309] 31, .own s308 29 32 gg310, .own s309 29 32 gg311]) hy27 ⟨H, Sv.nil, Sv.nil, none, none, (Hle.refl _), h21, h22, h23, h24, h25, h26, (Sl.nil _ _), (Sl.nil _ _), hI⟩ ?_
  rintro k27 i27 σ27 ρ319 w320 hk27 ⟨H312, s308, s309, gg310, gg311, hleH312, h313, h314, h315, h316, h317, h318, hs308, hs309, hI⟩ hy27
  refine wseq ?_
  refine wreg ?_
  refine lv (v := .bool (decide ((i27 : Int) < 32))) rfl (r_lss rfl h318 rfl rfl) rfl ?_
  refine wend ?_
  refine wthen ?_
  refine wseq ?_
  by_cases hc321 : (i27 : Int) < 32
  · skip
    have hbhc321 : (decide ((i27 : Int) < 32)) = true := decide_eq_true hc321
    obtain ⟨k27, rfl⟩ : ∃ m, k27 = m + 1 := ⟨k27 - 1, by omega⟩
    obtain ⟨z27, hb27⟩ := forK_body hy27
    have hF := hb27
    have hlt27 : ((i27 : Nat) : Int) + 1 ≤ 9223372036854775807 := by omega
    refine wcT ((show opd _ _ _ = _ from rfl).trans (congrArg Value.bool hbhc321)) ?_
    refine wp_skip ?_
    refine wthen ?_
    refine wren (fun ρ322 eρ322 => ?_)
    have h323 : opd ρ322 40 (.tmp 1) = .int .i64 a1 := (eρ322 1).trans h313
    have h324 : opd ρ322 40 (.tmp 3) = .pointer (some ⟨g1, 0 + 0, none⟩) := (eρ322 3).trans h314
    have h325 : opd ρ322 40 (.tmp 5) = .pointer (some ⟨g3, 0 + 0, none⟩) := (eρ322 5).trans h315
    have h326 : opd ρ322 40 (.tmp 6) = .pointer (some ⟨g5, 0 + 0, none⟩) := (eρ322 6).trans h316
    have h327 : opd ρ322 40 (.tmp 7) = .pointer (some ⟨g12, 0 + 0, none⟩) := (eρ322 7).trans h317
    have h328 : opd ρ322 40 (.tmp 10) = .int .i64 (i27 : Int) := (eρ322 10).trans h318
    clear eρ322
    refine wseq ?_
    refine wp_block ?_
    refine wseq ?_
    refine wreg ?_
    refine lv (v := .int .i64 (i27 : Int)) rfl (r_mv rfl h328) rfl ?_
    refine lv (v := .int .i64 (i27 : Int)) rfl (r_as rfl rfl) rfl ?_
    refine wend ?_
    refine wthen ?_
    refine wren (fun ρ329 eρ329 => ?_)
    have h330 : opd ρ329 40 (.tmp 1) = .int .i64 a1 := (eρ329 1).trans h323
    have h331 : opd ρ329 40 (.tmp 3) = .pointer (some ⟨g1, 0 + 0, none⟩) := (eρ329 3).trans h324
    have h332 : opd ρ329 40 (.tmp 5) = .pointer (some ⟨g3, 0 + 0, none⟩) := (eρ329 5).trans h325
    have h333 : opd ρ329 40 (.tmp 6) = .pointer (some ⟨g5, 0 + 0, none⟩) := (eρ329 6).trans h326
    have h334 : opd ρ329 40 (.tmp 7) = .pointer (some ⟨g12, 0 + 0, none⟩) := (eρ329 7).trans h327
    have h335 : opd ρ329 40 (.tmp 8) = .int .i64 (i27 : Int) := eρ329 8
    have h336 : opd ρ329 40 (.tmp 10) = .int .i64 (i27 : Int) := (eρ329 10).trans h328
    clear eρ329
    refine wseq ?_
    refine wreg ?_
    refine lv (v := .agg (flat [ckV flB a2]).toArray) rfl (r_cla (off := 0) (p := 0) (m := 1) (hI.good.ca 1 rfl) rfl ag29 h332 rfl rfl) rfl ?_
    refine lv (v := .int .i64 (i27 : Int)) rfl (r_mv rfl h335) rfl ?_
    obtain ⟨x337, hx337, hF⟩ := Option.bind_eq_some_iff.1 hF
    have hsp340 := spec_105 hx337 (hT.mono hleH312) (hI.part 0) 
    refine fc ([]) ([.cb g1 [ckV flB a0] 29, .cb g3 [ckV flB a2] 29, .cb g5 [ckL Sv.nil, ckL Sv.nil] 31, .cb g12 [ckL s308, ckL s309] 31, .own s308 29 32 gg310, .own s309 29 32 gg311]) (args := [.agg (flat [ckV flB a2]).toArray, .int .i64 (i27 : Int)]) fc105 rfl rfl rfl hI (argc rfl (argc rfl rfl)) (hsp340) ?_
    rintro _ H338 _ w339 ⟨rfl, rfl⟩ hleH338 hI
    replace hI : Inv B w339 H338 [.cb g1 [ckV flB a0] 29, .cb g3 [ckV flB a2] 29, .cb g5 [ckL Sv.nil, ckL Sv.nil] 31, .cb g12 [ckL s308, ckL s309] 31, .own s308 29 32 gg310, .own s309 29 32 gg311] := hI
    refine lv (v := .int .i64 x337) rfl (r_as rfl rfl) rfl ?_
    refine wend ?_
    refine wthen ?_
    refine wren (fun ρ341 eρ341 => ?_)
    have h342 : opd ρ341 40 (.tmp 1) = .int .i64 a1 := (eρ341 1).trans h330
    have h343 : opd ρ341 40 (.tmp 3) = .pointer (some ⟨g1, 0 + 0, none⟩) := (eρ341 3).trans h331
    have h344 : opd ρ341 40 (.tmp 5) = .pointer (some ⟨g3, 0 + 0, none⟩) := (eρ341 5).trans h332
    have h345 : opd ρ341 40 (.tmp 6) = .pointer (some ⟨g5, 0 + 0, none⟩) := (eρ341 6).trans h333
    have h346 : opd ρ341 40 (.tmp 7) = .pointer (some ⟨g12, 0 + 0, none⟩) := (eρ341 7).trans h334
    have h347 : opd ρ341 40 (.tmp 8) = .int .i64 (i27 : Int) := (eρ341 8).trans h335
    have h348 : opd ρ341 40 (.tmp 9) = .int .i64 x337 := eρ341 9
    have h349 : opd ρ341 40 (.tmp 10) = .int .i64 (i27 : Int) := (eρ341 10).trans h336
    clear eρ341
    refine wseq ?_
    refine dstG (H0 := H338) (L0 := keepL [true, true, true, true, true, true] [.cb g1 [ckV flB a0] 29, .cb g3 [ckV flB a2] 29, .cb g5 [ckL Sv.nil, ckL Sv.nil] 31, .cb g12 [ckL s308, ckL s309] 31, .own s308 29 32 gg310, .own s309 29 32 gg311]) [8, 10] mixed rfl (by repeat (first | exact Pan.body | refine Pan.then ?_ | refine Pan.inBlock ?_ | refine Pan.noGoto ?_ | refine Pan.pure ?_)) hI (hI.good.weakm _ (Hle.refl _) rfl) ?_
    intro w350 hI hP
    refine dp (v := .pointer (some ⟨g12, 0 + 0, none⟩)) 0 (by kernel_rfl) rfl rfl (fun _ => l_fa (j := 0) (i := 0) rfl fl31_0 h346 rfl) rfl hP ?_
    refine dp (v := .int .i64 a1) 3 (by kernel_rfl) rfl rfl (fun _ => r_mv rfl h342) rfl hP ?_
    refine dp (v := .int .i64 (i27 : Int)) 4 (by kernel_rfl) rfl rfl (fun _ => r_mv rfl h347) rfl hP ?_
    refine dp (v := .int .i64 x337) 5 (by kernel_rfl) rfl rfl (fun _ => r_mv rfl h348) rfl hP ?_
    refine dr (v := s308.v) 1 (by kernel_rfl) rfl rfl (hI.good.weakm [true, true, true, true, true, true] (Hle.refl _) rfl) (fun _ hG => r_cl1 (off := 0) (p := 0) (hG.ca 3 rfl) rfl sc27 rfl rfl rfl) rfl hP ?_
    refine dr (v := .agg (flat [ckV flB a0]).toArray) 2 (by kernel_rfl) rfl rfl (hI.good.weakm [true, true, true, true, true, true] (Hle.refl _) rfl) (fun _ hG => r_cla (off := 0) (p := 0) (m := 1) (hG.ca 0 rfl) rfl ag29 h343 rfl rfl) rfl hP ?_
    obtain ⟨x351, hx351, hF⟩ := Option.bind_eq_some_iff.1 hF
    have hsp354 := spec_143 hx351 ((hT.mono hleH312).mono hleH338) (hI.part 0) 
    refine dfc 6 ([]) ([.cb g1 [ckV flB a0] 29, .cb g3 [ckV flB a2] 29, .cb g5 [ckL Sv.nil, ckL Sv.nil] 31, .cb g12 [ckL s308, ckL s309] 31, .own s308 29 32 gg310, .own s309 29 32 gg311]) (args := [.agg (flat [ckV flB a0]).toArray, .int .i64 a1, .int .i64 (i27 : Int), .int .i64 x337]) fc143 (by kernel_rfl) rfl rfl rfl rfl rfl hI (argc rfl (argc rfl (argc rfl (argc rfl rfl)))) (hsp354) ?_
    rintro _ H352 _ w353 ⟨rfl, rfl⟩ hleH352 hI
    replace hI : Inv B w353 H352 [.cb g1 [ckV flB a0] 29, .cb g3 [ckV flB a2] 29, .cb g5 [ckL Sv.nil, ckL Sv.nil] 31, .cb g12 [ckL s308, ckL s309] 31, .own s308 29 32 gg310, .own s309 29 32 gg311] := hI
    refine ⟨(hI.good.weakm [true, true, true, true, true, true] hleH352 rfl), ?_⟩
    refine de 7 (by kernel_rfl) rfl rfl rfl (l_bs (t := (Fl.ty (flV flB 32))) (vs := [.agg (flat [ckV flB x351]).toArray]) (xs := [x351]) hI rfl sl27 inf29 rfl rfl (argc rfl rfl) (.cons rfl rfl .nil) rfl) rfl ?_
    rintro _ w357 ⟨s355, H356, rfl, hI, hleH356, hs355, hfs355, hgs355⟩
    refine ⟨(hI.good.weakm [true, true, true, true, true, true] (hleH352.trans hleH356) rfl), ?_⟩
    obtain ⟨x358, hx358, hF⟩ := Option.bind_eq_some_iff.1 hF
    refine del 8 (by kernel_rfl) rfl rfl rfl (l_app (t := (Fl.ty (flV flB 32))) hI 4 rfl rfl sl27 inf29 rfl rfl rfl rfl (((hs308.mono hleH338).mono hleH352).mono hleH356) hs355 (appI_some hx358).1) rfl ?_
    rintro _ w362 ⟨s359, H360, gg361, rfl, hI, hleH360, hs359⟩
    rw [← (appI_some hx358).2] at hs359
    replace hI : Inv B w362 H360 [.cb g1 [ckV flB a0] 29, .cb g3 [ckV flB a2] 29, .cb g5 [ckL Sv.nil, ckL Sv.nil] 31, .cb g12 [ckL s308, ckL s309] 31, .own s359 29 32 gg361, .own s309 29 32 gg311] := hI
    refine dp (v := .pointer (some ⟨g12, 0 + 0, none⟩)) 9 (by kernel_rfl) rfl rfl (fun _ => l_fa (j := 0) (i := 0) rfl fl31_0 h346 rfl) rfl hP ?_
    refine dsl 10 (by kernel_rfl) rfl rfl rfl (l_st (off := 0) (p := 0) (m := 1) (new := [ckL s359]) hI 3 rfl rfl sz27 rfl rfl rfl rfl rfl rfl) rfl ?_
    intro w363 hI
    replace hI : Inv B w363 H360 [.cb g1 [ckV flB a0] 29, .cb g3 [ckV flB a2] 29, .cb g5 [ckL Sv.nil, ckL Sv.nil] 31, .cb g12 [ckL s359, ckL s309] 31, .own s359 29 32 gg361, .own s309 29 32 gg311] := hI
    refine dend (by kernel_rfl) ?_
    refine wthen ?_
    refine wren (fun ρ364 eρ364 => ?_)
    have h365 : opd ρ364 40 (.tmp 1) = .int .i64 a1 := (eρ364 1).trans h342
    have h366 : opd ρ364 40 (.tmp 3) = .pointer (some ⟨g1, 0 + 0, none⟩) := (eρ364 3).trans h343
    have h367 : opd ρ364 40 (.tmp 5) = .pointer (some ⟨g3, 0 + 0, none⟩) := (eρ364 5).trans h344
    have h368 : opd ρ364 40 (.tmp 6) = .pointer (some ⟨g5, 0 + 0, none⟩) := (eρ364 6).trans h345
    have h369 : opd ρ364 40 (.tmp 7) = .pointer (some ⟨g12, 0 + 0, none⟩) := (eρ364 7).trans h346
    have h370 : opd ρ364 40 (.tmp 8) = .int .i64 (i27 : Int) := (eρ364 8).trans h347
    have h371 : opd ρ364 40 (.tmp 9) = .int .i64 x337 := (eρ364 9).trans h348
    have h372 : opd ρ364 40 (.tmp 10) = .int .i64 (i27 : Int) := (eρ364 10).trans h349
    clear eρ364
    refine dstG (H0 := H360) (L0 := keepL [true, true, true, true, true, true] [.cb g1 [ckV flB a0] 29, .cb g3 [ckV flB a2] 29, .cb g5 [ckL Sv.nil, ckL Sv.nil] 31, .cb g12 [ckL s359, ckL s309] 31, .own s359 29 32 gg361, .own s309 29 32 gg311]) [10, 12] mixed rfl (by repeat (first | exact Pan.body | refine Pan.then ?_ | refine Pan.inBlock ?_ | refine Pan.noGoto ?_ | refine Pan.pure ?_)) hI (hI.good.weakm _ (Hle.refl _) rfl) ?_
    intro w373 hI hP
    refine dp (v := .pointer (some ⟨g12, 0 + 1, none⟩)) 0 (by kernel_rfl) rfl rfl (fun _ => l_fa (j := 0) (i := 0) rfl fl31_1 h369 rfl) rfl hP ?_
    refine dp (v := .int .i64 a1) 3 (by kernel_rfl) rfl rfl (fun _ => r_mv rfl h365) rfl hP ?_
    refine dp (v := .int .i64 (i27 : Int)) 4 (by kernel_rfl) rfl rfl (fun _ => r_mv rfl h370) rfl hP ?_
    refine dp (v := .int .i64 x337) 5 (by kernel_rfl) rfl rfl (fun _ => r_mv rfl h371) rfl hP ?_
    refine dp (v := .int .i64 (wI ((1 : Int) - x337))) 6 (by kernel_rfl) rfl rfl (fun _ => r_subw rfl rfl rfl) rfl hP ?_
    refine dr (v := s309.v) 1 (by kernel_rfl) rfl rfl (hI.good.weakm [true, true, true, true, true, true] (Hle.refl _) rfl) (fun _ hG => r_cl1 (off := 1) (p := 1) (hG.ca 3 rfl) rfl sc27 rfl rfl rfl) rfl hP ?_
    refine dr (v := .agg (flat [ckV flB a0]).toArray) 2 (by kernel_rfl) rfl rfl (hI.good.weakm [true, true, true, true, true, true] (Hle.refl _) rfl) (fun _ hG => r_cla (off := 0) (p := 0) (m := 1) (hG.ca 0 rfl) rfl ag29 h366 rfl rfl) rfl hP ?_
    obtain ⟨x374, hx374, hF⟩ := Option.bind_eq_some_iff.1 hF
    have hsp377 := spec_143 hx374 (((((hT.mono hleH312).mono hleH338).mono hleH352).mono hleH356).mono hleH360) (hI.part 0) 
    refine dfc 7 ([]) ([.cb g1 [ckV flB a0] 29, .cb g3 [ckV flB a2] 29, .cb g5 [ckL Sv.nil, ckL Sv.nil] 31, .cb g12 [ckL s359, ckL s309] 31, .own s359 29 32 gg361, .own s309 29 32 gg311]) (args := [.agg (flat [ckV flB a0]).toArray, .int .i64 a1, .int .i64 (i27 : Int), .int .i64 (wI ((1 : Int) - x337))]) fc143 (by kernel_rfl) rfl rfl rfl rfl rfl hI (argc rfl (argc rfl (argc rfl (argc rfl rfl)))) (hsp377) ?_
    rintro _ H375 _ w376 ⟨rfl, rfl⟩ hleH375 hI
    replace hI : Inv B w376 H375 [.cb g1 [ckV flB a0] 29, .cb g3 [ckV flB a2] 29, .cb g5 [ckL Sv.nil, ckL Sv.nil] 31, .cb g12 [ckL s359, ckL s309] 31, .own s359 29 32 gg361, .own s309 29 32 gg311] := hI
    refine ⟨(hI.good.weakm [true, true, true, true, true, true] hleH375 rfl), ?_⟩
    obtain ⟨x378, hx378, hF⟩ := Option.bind_eq_some_iff.1 hF
    have hsp381 := spec_104 hx378 ((((((hT.mono hleH312).mono hleH338).mono hleH352).mono hleH356).mono hleH360).mono hleH375) (hI.part 0) 
    refine dfc 8 ([]) ([.cb g1 [ckV flB a0] 29, .cb g3 [ckV flB a2] 29, .cb g5 [ckL Sv.nil, ckL Sv.nil] 31, .cb g12 [ckL s359, ckL s309] 31, .own s359 29 32 gg361, .own s309 29 32 gg311]) (args := [.agg (flat [ckV flB x374]).toArray]) fc104 (by kernel_rfl) rfl rfl rfl rfl rfl hI (argc rfl rfl) (hsp381) ?_
    rintro _ H379 _ w380 ⟨rfl, rfl⟩ hleH379 hI
    replace hI : Inv B w380 H379 [.cb g1 [ckV flB a0] 29, .cb g3 [ckV flB a2] 29, .cb g5 [ckL Sv.nil, ckL Sv.nil] 31, .cb g12 [ckL s359, ckL s309] 31, .own s359 29 32 gg361, .own s309 29 32 gg311] := hI
    refine ⟨(hI.good.weakm [true, true, true, true, true, true] (hleH375.trans hleH379) rfl), ?_⟩
    refine de 9 (by kernel_rfl) rfl rfl rfl (l_bs (t := (Fl.ty (flV flB 32))) (vs := [.agg (flat [ckV flB x378]).toArray]) (xs := [x378]) hI rfl sl27 inf29 rfl rfl (argc rfl rfl) (.cons rfl rfl .nil) rfl) rfl ?_
    rintro _ w384 ⟨s382, H383, rfl, hI, hleH383, hs382, hfs382, hgs382⟩
    refine ⟨(hI.good.weakm [true, true, true, true, true, true] ((hleH375.trans hleH379).trans hleH383) rfl), ?_⟩
    obtain ⟨x385, hx385, hF⟩ := Option.bind_eq_some_iff.1 hF
    refine del 10 (by kernel_rfl) rfl rfl rfl (l_app (t := (Fl.ty (flV flB 32))) hI 5 rfl rfl sl27 inf29 rfl rfl rfl rfl (((((((hs309.mono hleH338).mono hleH352).mono hleH356).mono hleH360).mono hleH375).mono hleH379).mono hleH383) hs382 (appI_some hx385).1) rfl ?_
    rintro _ w389 ⟨s386, H387, gg388, rfl, hI, hleH387, hs386⟩
    rw [← (appI_some hx385).2] at hs386
    replace hI : Inv B w389 H387 [.cb g1 [ckV flB a0] 29, .cb g3 [ckV flB a2] 29, .cb g5 [ckL Sv.nil, ckL Sv.nil] 31, .cb g12 [ckL s359, ckL s309] 31, .own s359 29 32 gg361, .own s386 29 32 gg388] := hI
    refine dp (v := .pointer (some ⟨g12, 0 + 1, none⟩)) 11 (by kernel_rfl) rfl rfl (fun _ => l_fa (j := 0) (i := 0) rfl fl31_1 h369 rfl) rfl hP ?_
    refine dsl 12 (by kernel_rfl) rfl rfl rfl (l_st (off := 1) (p := 1) (m := 1) (new := [ckL s386]) hI 3 rfl rfl sz27 rfl rfl rfl rfl rfl rfl) rfl ?_
    intro w390 hI
    replace hI : Inv B w390 H387 [.cb g1 [ckV flB a0] 29, .cb g3 [ckV flB a2] 29, .cb g5 [ckL Sv.nil, ckL Sv.nil] 31, .cb g12 [ckL s359, ckL s386] 31, .own s359 29 32 gg361, .own s386 29 32 gg388] := hI
    refine dend (by kernel_rfl) ?_
    refine inN ?_
    refine wthen ?_
    refine wren (fun ρ391 eρ391 => ?_)
    have h392 : opd ρ391 40 (.tmp 1) = .int .i64 a1 := (eρ391 1).trans h365
    have h393 : opd ρ391 40 (.tmp 3) = .pointer (some ⟨g1, 0 + 0, none⟩) := (eρ391 3).trans h366
    have h394 : opd ρ391 40 (.tmp 5) = .pointer (some ⟨g3, 0 + 0, none⟩) := (eρ391 5).trans h367
    have h395 : opd ρ391 40 (.tmp 6) = .pointer (some ⟨g5, 0 + 0, none⟩) := (eρ391 6).trans h368
    have h396 : opd ρ391 40 (.tmp 7) = .pointer (some ⟨g12, 0 + 0, none⟩) := (eρ391 7).trans h369
    have h397 : opd ρ391 40 (.tmp 10) = .int .i64 (i27 : Int) := (eρ391 10).trans h372
    clear eρ391
    refine wreg ?_
    refine lv (v := .int .i64 ((i27 + 1 : Nat) : Int)) rfl (r_addn rfl h397 rfl hlt27) rfl ?_
    refine lv (v := .int .i64 ((i27 + 1 : Nat) : Int)) rfl (r_mv rfl rfl) rfl ?_
    refine wend ?_
    obtain rfl := Option.some.inj hF
    exact ⟨k27, (x358, x385), _, rfl, rfl, ⟨H387, s359, s386, gg361, gg388, ((((((((hleH312.trans hleH338).trans hleH352).trans hleH356).trans hleH360).trans hleH375).trans hleH379).trans hleH383).trans hleH387), h392, h393, h394, h395, h396, rfl, ((((hs359.mono hleH375).mono hleH379).mono hleH383).mono hleH387), hs386, hI⟩, forK_inl hy27 hb27⟩
  · skip
    have hbhc321 : (decide ((i27 : Int) < 32)) = false := decide_eq_false hc321
    obtain rfl : k27 = 0 := by omega
    obtain rfl := forK_end hy27
    have hF := hF27
    try dsimp only at hF
    refine wcF ((show opd _ _ _ = _ from rfl).trans (congrArg Value.bool hbhc321)) ?_
    refine wp_exit ?_
    refine thE ?_
    refine thE ?_
    refine inX ?_
    refine wthen ?_
    refine wren (fun ρ398 eρ398 => ?_)
    have h399 : opd ρ398 40 (.tmp 6) = .pointer (some ⟨g5, 0 + 0, none⟩) := (eρ398 6).trans h316
    have h400 : opd ρ398 40 (.tmp 7) = .pointer (some ⟨g12, 0 + 0, none⟩) := (eρ398 7).trans h317
    clear eρ398
    refine wseq ?_
    refine wreg ?_
    refine lv (v := .agg (flat [ckL s308, ckL s309]).toArray) rfl (r_cla (off := 0) (p := 0) (m := 2) (hI.good.ca 3 rfl) rfl ag31 h400 rfl rfl) rfl ?_
    refine lst rfl (l_st (off := 0) (p := 0) (m := 2) (new := [ckL s308, ckL s309]) hI 2 rfl rfl sz31 h399 rfl rfl rfl rfl rfl) rfl ?_
    intro w401 hI
    replace hI : Inv B w401 H312 [.cb g1 [ckV flB a0] 29, .cb g3 [ckV flB a2] 29, .cb g5 [ckL s308, ckL s309] 31, .cb g12 [ckL s308, ckL s309] 31, .own s308 29 32 gg310, .own s309 29 32 gg311] := hI
    refine wend ?_
    refine wthen ?_
    refine wren (fun ρ402 eρ402 => ?_)
    have h403 : opd ρ402 40 (.tmp 6) = .pointer (some ⟨g5, 0 + 0, none⟩) := (eρ402 6).trans h399
    clear eρ402
    refine wp_ret ?_
    obtain rfl := Option.some.inj hF
    subst hB
    refine finR (rs := [.cell 6 31]) (vs := [.agg (flat [ckL s308, ckL s309]).toArray]) rfl ⟨⟨_, h403, ld_agg (hI.good.ca 2 rfl) ag31 rfl⟩, trivial⟩ ?_
    exact hI.fin 0 ⟨s308, s309, rfl, hs308, hs309, rfl⟩
noncomputable def M_keys_Tree_Sign (a0 : Keys_Tree) (a1 : Int) (a2 : Vec UInt8 32) : Option (Sig × Int) := ((M_tree_Path a1 a0.leaves_).bind fun x17 => (if x17.2 = true then ((M_once_Sign a0.seed_ a1 a2).bind fun x38 => some ((⟨a1, (⟨x38.Open, x38.Shut⟩ : Once), x17.1⟩ : Sig), 0)) else some ((⟨0, (⟨[], []⟩ : Once), []⟩ : Sig), 1)))
set_option maxHeartbeats 1000000 in
theorem spec_53 {w : World} {H : Hp} {a0 : Keys_Tree} {a1 : Int} {a2 : Vec UInt8 32} {g_0 : Nat} {s1 : Sv} {r : Sig × Int} (hF : M_keys_Tree_Sign a0 a1 a2 = some r) (hT : Tab H) (hG : Good w H [.cb g_0 [ckV flB a0.seed_, ckI a0.height_, ckL s1] 168]) (hs1 : Sl (Fl.ty (flV flB 32)) H s1 a0.leaves_) :
    Fine Tryd.prog 53 [.pointer (some ⟨g_0, 0, none⟩), .int .i64 a1, .agg (flat [ckV flB a2]).toArray] w H [.cb g_0 [ckV flB a0.seed_, ckI a0.height_, ckL s1] 168] (fun H' v L' => ∃ s900 : Sv, ∃ s901 : Sv, ∃ s902 : Sv, v = .tuple #[.agg (flat [ckI r.1.Leaf, ckL s900, ckL s901, ckL s902]).toArray, .int .i64 r.2] ∧ Sl (Fl.ty (flV flB 32)) H' s900 r.1.Once.Open ∧ Sl (Fl.ty (flV flB 32)) H' s901 r.1.Once.Shut ∧ Sl (Fl.ty (flV flB 32)) H' s902 r.1.Path ∧ L' = [.cb g_0 [ckV flB a0.seed_, ckI a0.height_, ckL s1] 168]) := by
  unfold M_keys_Tree_Sign at hF
  unfold Fine
  obtain ⟨B, hB⟩ : ∃ B : Base, B = ⟨w, H, blks [.cb g_0 [ckV flB a0.seed_, ckI a0.height_, ckL s1] 168]⟩ := ⟨_, rfl⟩
  have hI : Inv B w H [.cb g_0 [ckV flB a0.seed_, ckI a0.height_, ckL s1] 168] := by rw [hB]; exact Inv.start hG
  refine enter (n := 35) (args := [.pointer (some ⟨g_0, 0, none⟩), .int .i64 a1, .agg (flat [ckV flB a2]).toArray]) Tryd.func53 rfl Tryd.ntmps53 (Nat.le_of_ble_eq_true rfl) ?_
  refine wseq ?_
  refine wreg ?_
  refine le rfl (l_box (cks := [ckV flB a2]) hI rfl rfl rfl) rfl ?_
  rintro _ w3 ⟨g2, rfl, hI⟩
  replace hI : Inv B w3 H [.cb g_0 [ckV flB a0.seed_, ckI a0.height_, ckL s1] 168, .cb g2 [ckV flB a2] 29] := hI
  refine le rfl (l_al hI rfl ze33) rfl ?_
  rintro _ w5 ⟨g4, rfl, hI⟩
  replace hI : Inv B w5 H [.cb g_0 [ckV flB a0.seed_, ckI a0.height_, ckL s1] 168, .cb g2 [ckV flB a2] 29, .cb g4 [ckI 0, ckL Sv.nil, ckL Sv.nil, ckL Sv.nil] 33] := hI
  refine lv (v := .int .i64 0) rfl (r_as rfl rfl) rfl ?_
  refine wend ?_
  refine wthen ?_
  refine wren (fun ρ6 eρ6 => ?_)
  have h7 : opd ρ6 35 (.tmp 0) = .pointer (some ⟨g_0, 0 + 0, none⟩) := eρ6 0
  have h8 : opd ρ6 35 (.tmp 1) = .int .i64 a1 := eρ6 1
  have h9 : opd ρ6 35 (.tmp 5) = .pointer (some ⟨g2, 0 + 0, none⟩) := eρ6 5
  have h10 : opd ρ6 35 (.tmp 6) = .pointer (some ⟨g4, 0 + 0, none⟩) := eρ6 6
  clear eρ6
  refine wseq ?_
  refine wseq ?_
  refine wreg ?_
  refine lv (v := .pointer (some ⟨g_0, 0 + 0, none⟩)) rfl (r_mv rfl h7) rfl ?_
  refine lv (v := .bool false) rfl (r_pn rfl un106 rfl rfl) rfl ?_
  refine wend ?_
  refine wthen ?_
  refine wren (fun ρ11 eρ11 => ?_)
  have h12 : opd ρ11 35 (.tmp 0) = .pointer (some ⟨g_0, 0 + 0, none⟩) := (eρ11 0).trans h7
  have h13 : opd ρ11 35 (.tmp 1) = .int .i64 a1 := (eρ11 1).trans h8
  have h14 : opd ρ11 35 (.tmp 5) = .pointer (some ⟨g2, 0 + 0, none⟩) := (eρ11 5).trans h9
  have h15 : opd ρ11 35 (.tmp 6) = .pointer (some ⟨g4, 0 + 0, none⟩) := (eρ11 6).trans h10
  have h16 : opd ρ11 35 (.tmp 11) = .bool false := eρ11 11
  clear eρ11
  refine wcF h16 ?_
  refine wp_skip ?_
  refine wthen ?_
  refine wseq ?_
  refine wreg ?_
  refine lv (v := .int .i64 a1) rfl (r_mv rfl h13) rfl ?_
  refine lv (v := .pointer (some ⟨g_0, 0 + 0, none⟩)) rfl (r_mv rfl h12) rfl ?_
  refine lv (v := .pointer (some ⟨g_0, 0 + 0, none⟩)) rfl (r_nilc rfl rfl) rfl ?_
  refine lv (v := .pointer (some ⟨g_0, 0 + 33, none⟩)) rfl (l_fa (j := 0) (i := 0) rfl fl168_2 rfl rfl) rfl ?_
  refine lv (v := s1.v) rfl (r_cl1 (off := 33) (p := 2) (hI.good.ca 0 rfl) rfl sc27 rfl rfl rfl) rfl ?_
  obtain ⟨x17, hx17, hF⟩ := Option.bind_eq_some_iff.1 hF
  have hsp20 := spec_96 hx17 hT (hI.part 0) hs1
  refine fc ([]) ([.cb g_0 [ckV flB a0.seed_, ckI a0.height_, ckL s1] 168, .cb g2 [ckV flB a2] 29, .cb g4 [ckI 0, ckL Sv.nil, ckL Sv.nil, ckL Sv.nil] 33]) (args := [.int .i64 a1, s1.v]) fc96 rfl rfl rfl hI (argc rfl (argc rfl rfl)) (hsp20) ?_
  rintro _ H18 _ w19 ⟨s21, rfl, hs21, rfl⟩ hleH18 hI
  replace hI : Inv B w19 H18 [.cb g_0 [ckV flB a0.seed_, ckI a0.height_, ckL s1] 168, .cb g2 [ckV flB a2] 29, .cb g4 [ckI 0, ckL Sv.nil, ckL Sv.nil, ckL Sv.nil] 33] := hI
  refine lv (v := .tuple #[s21.v, .bool x17.2]) rfl (r_mv rfl rfl) rfl ?_
  refine lv (v := s21.v) rfl (r_ext rfl rfl rfl) rfl ?_
  refine lv (v := .bool x17.2) rfl (r_ext rfl rfl rfl) rfl ?_
  refine lv (v := s21.v) rfl (r_as rfl rfl) rfl ?_
  refine lv (v := .bool x17.2) rfl (r_as rfl rfl) rfl ?_
  refine wend ?_
  refine wthen ?_
  refine wren (fun ρ22 eρ22 => ?_)
  have h23 : opd ρ22 35 (.tmp 0) = .pointer (some ⟨g_0, 0 + 0, none⟩) := (eρ22 0).trans h12
  have h24 : opd ρ22 35 (.tmp 1) = .int .i64 a1 := (eρ22 1).trans h13
  have h25 : opd ρ22 35 (.tmp 5) = .pointer (some ⟨g2, 0 + 0, none⟩) := (eρ22 5).trans h14
  have h26 : opd ρ22 35 (.tmp 6) = .pointer (some ⟨g4, 0 + 0, none⟩) := (eρ22 6).trans h15
  have h27 : opd ρ22 35 (.tmp 8) = s21.v := eρ22 8
  have h28 : opd ρ22 35 (.tmp 9) = .bool x17.2 := eρ22 9
  clear eρ22
  refine wseq ?_
  refine wseq ?_
  refine wreg ?_
  refine lv (v := .bool x17.2) rfl (r_mv rfl h28) rfl ?_
  refine lv (v := .bool (!x17.2)) rfl (r_not rfl rfl) rfl ?_
  refine wend ?_
  refine wthen ?_
  refine wren (fun ρ29 eρ29 => ?_)
  have h30 : opd ρ29 35 (.tmp 0) = .pointer (some ⟨g_0, 0 + 0, none⟩) := (eρ29 0).trans h23
  have h31 : opd ρ29 35 (.tmp 1) = .int .i64 a1 := (eρ29 1).trans h24
  have h32 : opd ρ29 35 (.tmp 5) = .pointer (some ⟨g2, 0 + 0, none⟩) := (eρ29 5).trans h25
  have h33 : opd ρ29 35 (.tmp 6) = .pointer (some ⟨g4, 0 + 0, none⟩) := (eρ29 6).trans h26
  have h34 : opd ρ29 35 (.tmp 8) = s21.v := (eρ29 8).trans h27
  have h35 : opd ρ29 35 (.tmp 23) = .bool (!x17.2) := eρ29 23
  clear eρ29
  by_cases hc36 : x17.2 = true
  · skip
    rw [if_pos hc36] at hF
    have hbhc36 : (!x17.2) = false := (by rw [hc36]; rfl)
    refine wcF (h35.trans (congrArg Value.bool hbhc36)) ?_
    refine wp_skip ?_
    refine wthen ?_
    refine wseq ?_
    refine dstG (H0 := H18) (L0 := keepL [true, true, true] [.cb g_0 [ckV flB a0.seed_, ckI a0.height_, ckL s1] 168, .cb g2 [ckV flB a2] 29, .cb g4 [ckI 0, ckL Sv.nil, ckL Sv.nil, ckL Sv.nil] 33]) [10] mixed rfl (by repeat (first | exact Pan.body | refine Pan.then ?_ | refine Pan.inBlock ?_ | refine Pan.noGoto ?_ | refine Pan.pure ?_)) hI (hI.good.weakm _ (Hle.refl _) rfl) ?_
    intro w37 hI hP
    refine dp (v := .int .i64 a1) 0 (by kernel_rfl) rfl rfl (fun _ => r_mv rfl h31) rfl hP ?_
    refine dp (v := .pointer (some ⟨g_0, 0 + 0, none⟩)) 1 (by kernel_rfl) rfl rfl (fun _ => r_mv rfl h30) rfl hP ?_
    refine dp (v := .pointer (some ⟨g_0, 0 + 0, none⟩)) 2 (by kernel_rfl) rfl rfl (fun _ => r_nilc rfl rfl) rfl hP ?_
    refine dp (v := .pointer (some ⟨g_0, 0 + 0, none⟩)) 3 (by kernel_rfl) rfl rfl (fun _ => l_fa (j := 0) (i := 0) rfl fl168_0 rfl rfl) rfl hP ?_
    refine dp (v := .int .i64 a1) 5 (by kernel_rfl) rfl rfl (fun _ => r_mv rfl h31) rfl hP ?_
    refine dp (v := s21.v) 8 (by kernel_rfl) rfl rfl (fun _ => r_mv rfl h34) rfl hP ?_
    refine dr (v := .agg (flat [ckV flB a0.seed_]).toArray) 4 (by kernel_rfl) rfl rfl (hI.good.weakm [true, true, true] (Hle.refl _) rfl) (fun _ hG => r_cla (off := 0) (p := 0) (m := 1) (hG.ca 0 rfl) rfl ag29 rfl rfl rfl) rfl hP ?_
    refine dr (v := .agg (flat [ckV flB a2]).toArray) 6 (by kernel_rfl) rfl rfl (hI.good.weakm [true, true, true] (Hle.refl _) rfl) (fun _ hG => r_cla (off := 0) (p := 0) (m := 1) (hG.ca 1 rfl) rfl ag29 h32 rfl rfl) rfl hP ?_
    obtain ⟨x38, hx38, hF⟩ := Option.bind_eq_some_iff.1 hF
    have hsp41 := spec_97 hx38 (hT.mono hleH18) (hI.part 0) 
    refine dfc 7 ([]) ([.cb g_0 [ckV flB a0.seed_, ckI a0.height_, ckL s1] 168, .cb g2 [ckV flB a2] 29, .cb g4 [ckI 0, ckL Sv.nil, ckL Sv.nil, ckL Sv.nil] 33]) (args := [.agg (flat [ckV flB a0.seed_]).toArray, .int .i64 a1, .agg (flat [ckV flB a2]).toArray]) fc97 (by kernel_rfl) rfl rfl rfl rfl rfl hI (argc rfl (argc rfl (argc rfl rfl))) (hsp41) ?_
    rintro _ H39 _ w40 ⟨s42, s43, rfl, hs42, hs43, rfl⟩ hleH39 hI
    replace hI : Inv B w40 H39 [.cb g_0 [ckV flB a0.seed_, ckI a0.height_, ckL s1] 168, .cb g2 [ckV flB a2] 29, .cb g4 [ckI 0, ckL Sv.nil, ckL Sv.nil, ckL Sv.nil] 33] := hI
    refine ⟨(hI.good.weakm [true, true, true] hleH39 rfl), ?_⟩
    refine dp (v := .agg (flat [ckI a1, ckL s42, ckL s43, ckL s21]).toArray) 9 (by kernel_rfl) rfl rfl (fun _ => r_bldk (z := [[ckI 0], [ckL Sv.nil, ckL Sv.nil], [ckL Sv.nil]]) (pc := [(0, [ckI a1]), (1, [ckL s42, ckL s43]), (2, [ckL s21])]) rfl zg33 bf33 rfl (argc (congrArg Value.cells rfl) (argc (congrArg Value.cells rfl) (argc (congrArg Value.cells rfl) rfl))) rfl rfl) rfl hP ?_
    refine dsl 10 (by kernel_rfl) rfl rfl rfl (l_st (off := 0) (p := 0) (m := 4) (new := [ckI a1, ckL s42, ckL s43, ckL s21]) hI 2 rfl rfl sz33 h33 rfl rfl rfl rfl rfl) rfl ?_
    intro w44 hI
    replace hI : Inv B w44 H39 [.cb g_0 [ckV flB a0.seed_, ckI a0.height_, ckL s1] 168, .cb g2 [ckV flB a2] 29, .cb g4 [ckI a1, ckL s42, ckL s43, ckL s21] 33] := hI
    refine dp (v := .int .i64 0) 11 (by kernel_rfl) rfl rfl (fun _ => r_as rfl rfl) rfl hP ?_
    refine dend (by kernel_rfl) ?_
    refine wthen ?_
    refine wren (fun ρ45 eρ45 => ?_)
    have h46 : opd ρ45 35 (.tmp 6) = .pointer (some ⟨g4, 0 + 0, none⟩) := (eρ45 6).trans h33
    have h47 : opd ρ45 35 (.tmp 7) = .int .i64 0 := eρ45 7
    clear eρ45
    refine wp_ret ?_
    obtain rfl := Option.some.inj hF
    subst hB
    refine finR (rs := [.cell 6 33, .tmp 7]) (vs := [.agg (flat [ckI a1, ckL s42, ckL s43, ckL s21]).toArray, .int .i64 0]) rfl ⟨⟨_, h46, ld_agg (hI.good.ca 2 rfl) ag33 rfl⟩, h47, trivial⟩ ?_
    exact hI.fin 1 ⟨s42, s43, s21, rfl, hs42, hs43, (hs21.mono hleH39), rfl⟩
  · skip
    rw [if_neg hc36] at hF
    have hbhc36 : (!x17.2) = true := (by rw [(Bool.eq_false_iff.2 hc36)]; rfl)
    refine wcT (h35.trans (congrArg Value.bool hbhc36)) ?_
    refine wseq ?_
    refine wreg ?_
    refine lv (v := .agg (flat [ckI 0, ckL Sv.nil, ckL Sv.nil, ckL Sv.nil]).toArray) rfl (r_bldk (z := [[ckI 0], [ckL Sv.nil, ckL Sv.nil], [ckL Sv.nil]]) (pc := []) rfl zg33 bf33 rfl rfl rfl rfl) rfl ?_
    refine lst rfl (l_st (off := 0) (p := 0) (m := 4) (new := [ckI 0, ckL Sv.nil, ckL Sv.nil, ckL Sv.nil]) hI 2 rfl rfl sz33 h33 rfl rfl rfl rfl rfl) rfl ?_
    intro w48 hI
    replace hI : Inv B w48 H18 [.cb g_0 [ckV flB a0.seed_, ckI a0.height_, ckL s1] 168, .cb g2 [ckV flB a2] 29, .cb g4 [ckI 0, ckL Sv.nil, ckL Sv.nil, ckL Sv.nil] 33] := hI
    refine lv (v := .int .i64 1) rfl (r_as rfl rfl) rfl ?_
    refine wend ?_
    refine wthen ?_
    refine wren (fun ρ49 eρ49 => ?_)
    have h50 : opd ρ49 35 (.tmp 6) = .pointer (some ⟨g4, 0 + 0, none⟩) := (eρ49 6).trans h33
    have h51 : opd ρ49 35 (.tmp 7) = .int .i64 1 := eρ49 7
    clear eρ49
    refine wp_ret ?_
    refine thR ?_
    obtain rfl := Option.some.inj hF
    subst hB
    refine finR (rs := [.cell 6 33, .tmp 7]) (vs := [.agg (flat [ckI 0, ckL Sv.nil, ckL Sv.nil, ckL Sv.nil]).toArray, .int .i64 1]) rfl ⟨⟨_, h50, ld_agg (hI.good.ca 2 rfl) ag33 rfl⟩, h51, trivial⟩ ?_
    exact hI.fin 1 ⟨Sv.nil, Sv.nil, Sv.nil, rfl, (Sl.nil _ _), (Sl.nil _ _), (Sl.nil _ _), rfl⟩
noncomputable def M_tree_Root (a0 : List (Vec UInt8 32)) : Option ((Vec UInt8 32)) := (if (a0.length : Int) = 0 then ((M_sha_Of []).bind fun x12 => some x12) else ((appI 32 ([] : List (Vec UInt8 32)) a0).bind fun x23 => (runL (fun (σ31 : (List (Vec UInt8 32))) => ((if (1 : Int) < (σ31.length : Int) then ((M_tree_up σ31).bind fun x66 => some (.inl x66)) else ((((σ31[0]?).bind fun x72 => some x72)).map Sum.inr)) : Option ((List (Vec UInt8 32)) ⊕ (Vec UInt8 32)))) x23)))
set_option maxHeartbeats 1000000 in
theorem spec_103 {w : World} {H : Hp} {a0 : List (Vec UInt8 32)} {s1 : Sv} {r : (Vec UInt8 32)} (hF : M_tree_Root a0 = some r) (hT : Tab H) (hG : Good w H []) (hs1 : Sl (Fl.ty (flV flB 32)) H s1 a0) :
    Fine Tryd.prog 103 [s1.v] w H [] (fun H' v L' => v = .agg (flat [ckV flB r]).toArray ∧ L' = []) := by
  unfold M_tree_Root at hF
  unfold Fine
  obtain ⟨B, hB⟩ : ∃ B : Base, B = ⟨w, H, blks []⟩ := ⟨_, rfl⟩
  have hI : Inv B w H [] := by rw [hB]; exact Inv.start hG
  refine enter (n := 19) (args := [s1.v]) Tryd.func103 rfl Tryd.ntmps103 (Nat.le_of_ble_eq_true rfl) ?_
  refine wseq ?_
  refine wreg ?_
  refine le rfl (l_al hI rfl ze29) rfl ?_
  rintro _ w3 ⟨g2, rfl, hI⟩
  replace hI : Inv B w3 H [.cb g2 [ckV flB (Vec.rep 32 0)] 29] := hI
  refine wend ?_
  refine wthen ?_
  refine wren (fun ρ4 eρ4 => ?_)
  have h5 : opd ρ4 19 (.tmp 0) = s1.v := eρ4 0
  have h6 : opd ρ4 19 (.tmp 2) = .pointer (some ⟨g2, 0 + 0, none⟩) := eρ4 2
  clear eρ4
  refine wseq ?_
  refine wseq ?_
  refine wreg ?_
  refine lv (v := s1.v) rfl (r_mv rfl h5) rfl ?_
  refine lv (v := .int .i64 (a0.length : Int)) rfl (r_lenS rfl sl27 rfl hs1) rfl ?_
  refine lv (v := .bool (decide ((a0.length : Int) = 0))) rfl (r_eql rfl rfl rfl rfl) rfl ?_
  refine wend ?_
  refine wthen ?_
  refine wren (fun ρ7 eρ7 => ?_)
  have h8 : opd ρ7 19 (.tmp 0) = s1.v := (eρ7 0).trans h5
  have h9 : opd ρ7 19 (.tmp 2) = .pointer (some ⟨g2, 0 + 0, none⟩) := (eρ7 2).trans h6
  have h10 : opd ρ7 19 (.tmp 6) = .bool (decide ((a0.length : Int) = 0)) := eρ7 6
  clear eρ7
  by_cases hc11 : (a0.length : Int) = 0
  · skip
    rw [if_pos hc11] at hF
    have hbhc11 : (decide ((a0.length : Int) = 0)) = true := decide_eq_true hc11
    refine wcT (h10.trans (congrArg Value.bool hbhc11)) ?_
    refine wseq ?_
    refine wreg ?_
    obtain ⟨x12, hx12, hF⟩ := Option.bind_eq_some_iff.1 hF
    have hsp15 := spec_99 hx12 hT (hI.part 0) (Sl.nil _ _)
    refine fc ([]) ([.cb g2 [ckV flB (Vec.rep 32 0)] 29]) (args := [Sv.nil.v]) fc99 rfl rfl rfl hI (argc rfl rfl) (hsp15) ?_
    rintro _ H13 _ w14 ⟨rfl, rfl⟩ hleH13 hI
    replace hI : Inv B w14 H13 [.cb g2 [ckV flB (Vec.rep 32 0)] 29] := hI
    refine lst rfl (l_st (off := 0) (p := 0) (m := 1) (new := [ckV flB x12]) hI 0 rfl rfl sz29 h9 rfl rfl rfl rfl rfl) rfl ?_
    intro w16 hI
    replace hI : Inv B w16 H13 [.cb g2 [ckV flB x12] 29] := hI
    refine wend ?_
    refine wthen ?_
    refine wren (fun ρ17 eρ17 => ?_)
    have h18 : opd ρ17 19 (.tmp 2) = .pointer (some ⟨g2, 0 + 0, none⟩) := (eρ17 2).trans h9
    clear eρ17
    refine wp_ret ?_
    refine thR ?_
    obtain rfl := Option.some.inj hF
    subst hB
    refine finR (rs := [.cell 2 29]) (vs := [.agg (flat [ckV flB x12]).toArray]) rfl ⟨⟨_, h18, ld_agg (hI.good.ca 0 rfl) ag29 rfl⟩, trivial⟩ ?_
    exact hI.fin 0 ⟨rfl, rfl⟩
  · skip
    rw [if_neg hc11] at hF
    have hbhc11 : (decide ((a0.length : Int) = 0)) = false := decide_eq_false hc11
    refine wcF (h10.trans (congrArg Value.bool hbhc11)) ?_
    refine wp_skip ?_
    refine wthen ?_
    refine wseq ?_
    refine wreg ?_
    refine le rfl (l_bs (t := (Fl.ty (flV flB 32))) (vs := []) (xs := []) hI rfl sl27 inf29 rfl rfl rfl .nil rfl) rfl ?_
    rintro _ w21 ⟨s19, H20, rfl, hI, hleH20, hs19, hfs19, hgs19⟩
    refine lv (v := s1.v) rfl (r_mv rfl h8) rfl ?_
    replace hI := Inv.full (e := 29) (sz := 32) hI (show s19.n = s19.c from hfs19)
    replace hI : Inv B w21 H20 [.cb g2 [ckV flB (Vec.rep 32 0)] 29, .own s19 29 32 none] := hI
    obtain ⟨x23, hx23, hF⟩ := Option.bind_eq_some_iff.1 hF
    refine le rfl (l_app (t := (Fl.ty (flV flB 32))) hI 1 rfl rfl sl27 inf29 rfl rfl rfl rfl hs19 (hs1.mono hleH20) (appI_some hx23).1) rfl ?_
    rintro _ w27 ⟨s24, H25, gg26, rfl, hI, hleH25, hs24⟩
    rw [← (appI_some hx23).2] at hs24
    replace hI : Inv B w27 H25 [.cb g2 [ckV flB (Vec.rep 32 0)] 29, .own s24 29 32 gg26] := hI
    refine lv (v := s24.v) rfl (r_as rfl rfl) rfl ?_
    refine wend ?_
    refine wthen ?_
    refine wren (fun ρ28 eρ28 => ?_)
    have h29 : opd ρ28 19 (.tmp 2) = .pointer (some ⟨g2, 0 + 0, none⟩) := (eρ28 2).trans h9
    have h30 : opd ρ28 19 (.tmp 3) = s24.v := eρ28 3
    clear eρ28
    refine wseq ?_
    refine wp_block ?_
    refine wrun (n := 19) _ (fun (σ31 : (List (Vec UInt8 32))) ρ' w' => ∃ (H56 : Hp) (s55 : Sv), Hle H25 H56 ∧ opd ρ' 19 (.tmp 2) = .pointer (some ⟨g2, 0 + 0, none⟩) ∧ opd ρ' 19 (.tmp 3) = s55.v ∧ Sl (Fl.ty (flV flB 32)) H56 s55 σ31 ∧ Inv B w' H56 [.cb g2 [ckV flB (Vec.rep 32 0)] 29]) hF ⟨H25, s24, (Hle.refl _), h29, h30, hs24, (hI.keep [true, false])⟩ ?_
    rintro k31 σ31 ρ59 w60 ⟨H56, s55, hleH56, h57, h58, hs55, hI⟩ hy31
    obtain ⟨z31, hb31⟩ := iterK_body hy31
    have hF := hb31
    refine wseq ?_
    refine wseq ?_
    refine wreg ?_
    refine lv (v := s55.v) rfl (r_mv rfl h58) rfl ?_
    refine lv (v := .int .i64 (σ31.length : Int)) rfl (r_lenS rfl sl27 rfl hs55) rfl ?_
    refine lv (v := .bool (decide ((1 : Int) < (σ31.length : Int)))) rfl (r_gtr rfl rfl rfl rfl) rfl ?_
    refine wend ?_
    refine wthen ?_
    refine wren (fun ρ61 eρ61 => ?_)
    have h62 : opd ρ61 19 (.tmp 2) = .pointer (some ⟨g2, 0 + 0, none⟩) := (eρ61 2).trans h57
    have h63 : opd ρ61 19 (.tmp 3) = s55.v := (eρ61 3).trans h58
    have h64 : opd ρ61 19 (.tmp 13) = .bool (decide ((1 : Int) < (σ31.length : Int))) := eρ61 13
    clear eρ61
    by_cases hc65 : (1 : Int) < (σ31.length : Int)
    · skip
      rw [if_pos hc65] at hF
      have hbhc65 : (decide ((1 : Int) < (σ31.length : Int))) = true := decide_eq_true hc65
      refine wcT (h64.trans (congrArg Value.bool hbhc65)) ?_
      refine wp_skip ?_
      refine wthen ?_
      refine wp_block ?_
      refine wreg ?_
      refine lv (v := s55.v) rfl (r_mv rfl h63) rfl ?_
      obtain ⟨x66, hx66, hF⟩ := Option.bind_eq_some_iff.1 hF
      have hsp69 := spec_144 hx66 (((hT.mono hleH20).mono hleH25).mono hleH56) (hI.part 0) hs55
      refine fc ([]) ([.cb g2 [ckV flB (Vec.rep 32 0)] 29]) (args := [s55.v]) fc144 rfl rfl rfl hI (argc rfl rfl) (hsp69) ?_
      rintro _ H67 _ w68 ⟨s70, rfl, hs70, rfl⟩ hleH67 hI
      replace hI : Inv B w68 H67 [.cb g2 [ckV flB (Vec.rep 32 0)] 29] := hI
      refine lv (v := s70.v) rfl (r_as rfl rfl) rfl ?_
      refine wend ?_
      refine inN ?_
      obtain rfl := Option.some.inj hF
      exact ⟨x66, _, rfl, ⟨H67, s70, (hleH56.trans hleH67), h62, rfl, hs70, hI⟩, iterK_inl hy31 hb31⟩
    · skip
      rw [if_neg hc65] at hF
      have hbhc65 : (decide ((1 : Int) < (σ31.length : Int))) = false := decide_eq_false hc65
      refine wcF (h64.trans (congrArg Value.bool hbhc65)) ?_
      refine wp_exit ?_
      refine thE ?_
      refine thE ?_
      obtain ⟨q71, hFn, hzq71⟩ := Option.map_eq_some_iff.1 hF
      clear hF
      have hy0 := iterK_inr hy31 (hb31.trans (congrArg some hzq71.symm))
      rw [← hy0] at hFn
      have hF := hFn
      clear hFn
      refine inX ?_
      refine wthen ?_
      refine wseq ?_
      refine wreg ?_
      refine lv (v := s55.v) rfl (r_mv rfl h63) rfl ?_
      obtain ⟨x72, hx72, hF⟩ := Option.bind_eq_some_iff.1 hF
      obtain ⟨b73, j74, hix75, hil76, hA77⟩ := hs55.ixf hx72
      replace hA77 : At H56 b73 j74 [ckV flB x72] := hA77
      refine lv (v := .pointer (some ⟨b73, j74 + 0, none⟩)) rfl (r_ixt rfl sl27 rfl rfl rfl hix75 hil76) rfl ?_
      refine lv (v := .agg (flat [ckV flB x72]).toArray) rfl (r_cla (off := 0) (p := 0) (m := 1) (hA77.ca hI.good) rfl ag29 rfl rfl rfl) rfl ?_
      refine lst rfl (l_st (off := 0) (p := 0) (m := 1) (new := [ckV flB x72]) hI 0 rfl rfl sz29 h62 rfl rfl rfl rfl rfl) rfl ?_
      intro w78 hI
      replace hI : Inv B w78 H56 [.cb g2 [ckV flB x72] 29] := hI
      refine wend ?_
      refine wthen ?_
      refine wren (fun ρ79 eρ79 => ?_)
      have h80 : opd ρ79 19 (.tmp 2) = .pointer (some ⟨g2, 0 + 0, none⟩) := (eρ79 2).trans h62
      clear eρ79
      refine wp_ret ?_
      obtain rfl := Option.some.inj hF
      subst hB
      refine finR (rs := [.cell 2 29]) (vs := [.agg (flat [ckV flB x72]).toArray]) rfl ⟨⟨_, h80, ld_agg (hI.good.ca 0 rfl) ag29 rfl⟩, trivial⟩ ?_
      exact hI.fin 0 ⟨rfl, rfl⟩
noncomputable def M_keys_Tree_Key (a0 : Keys_Tree) : Option (Key) := ((M_tree_Root a0.leaves_).bind fun x12 => some (⟨x12, a0.height_⟩ : Key))
set_option maxHeartbeats 1000000 in
theorem spec_56 {w : World} {H : Hp} {a0 : Keys_Tree} {g_0 : Nat} {s1 : Sv} {r : Key} (hF : M_keys_Tree_Key a0 = some r) (hT : Tab H) (hG : Good w H [.cb g_0 [ckV flB a0.seed_, ckI a0.height_, ckL s1] 168]) (hs1 : Sl (Fl.ty (flV flB 32)) H s1 a0.leaves_) :
    Fine Tryd.prog 56 [.pointer (some ⟨g_0, 0, none⟩)] w H [.cb g_0 [ckV flB a0.seed_, ckI a0.height_, ckL s1] 168] (fun H' v L' => v = .agg (flat [ckV flB r.Root, ckI r.Height]).toArray ∧ L' = [.cb g_0 [ckV flB a0.seed_, ckI a0.height_, ckL s1] 168]) := by
  unfold M_keys_Tree_Key at hF
  unfold Fine
  obtain ⟨B, hB⟩ : ∃ B : Base, B = ⟨w, H, blks [.cb g_0 [ckV flB a0.seed_, ckI a0.height_, ckL s1] 168]⟩ := ⟨_, rfl⟩
  have hI : Inv B w H [.cb g_0 [ckV flB a0.seed_, ckI a0.height_, ckL s1] 168] := by rw [hB]; exact Inv.start hG
  refine enter (n := 16) (args := [.pointer (some ⟨g_0, 0, none⟩)]) Tryd.func56 rfl Tryd.ntmps56 (Nat.le_of_ble_eq_true rfl) ?_
  refine wseq ?_
  refine wreg ?_
  refine le rfl (l_al hI rfl ze49) rfl ?_
  rintro _ w3 ⟨g2, rfl, hI⟩
  replace hI : Inv B w3 H [.cb g_0 [ckV flB a0.seed_, ckI a0.height_, ckL s1] 168, .cb g2 [ckV flB (Vec.rep 32 0), ckI 0] 49] := hI
  refine wend ?_
  refine wthen ?_
  refine wren (fun ρ4 eρ4 => ?_)
  have h5 : opd ρ4 16 (.tmp 0) = .pointer (some ⟨g_0, 0 + 0, none⟩) := eρ4 0
  have h6 : opd ρ4 16 (.tmp 2) = .pointer (some ⟨g2, 0 + 0, none⟩) := eρ4 2
  clear eρ4
  refine wseq ?_
  refine wseq ?_
  refine wreg ?_
  refine lv (v := .pointer (some ⟨g_0, 0 + 0, none⟩)) rfl (r_mv rfl h5) rfl ?_
  refine lv (v := .bool false) rfl (r_pn rfl un106 rfl rfl) rfl ?_
  refine wend ?_
  refine wthen ?_
  refine wren (fun ρ7 eρ7 => ?_)
  have h8 : opd ρ7 16 (.tmp 0) = .pointer (some ⟨g_0, 0 + 0, none⟩) := (eρ7 0).trans h5
  have h9 : opd ρ7 16 (.tmp 2) = .pointer (some ⟨g2, 0 + 0, none⟩) := (eρ7 2).trans h6
  have h10 : opd ρ7 16 (.tmp 4) = .bool false := eρ7 4
  clear eρ7
  refine wcF h10 ?_
  refine wp_skip ?_
  refine wthen ?_
  refine wseq ?_
  refine dstG (H0 := H) (L0 := keepL [true, true] [.cb g_0 [ckV flB a0.seed_, ckI a0.height_, ckL s1] 168, .cb g2 [ckV flB (Vec.rep 32 0), ckI 0] 49]) [10] mixed rfl (by repeat (first | exact Pan.body | refine Pan.then ?_ | refine Pan.inBlock ?_ | refine Pan.noGoto ?_ | refine Pan.pure ?_)) hI (hI.good.weakm _ (Hle.refl _) rfl) ?_
  intro w11 hI hP
  refine dp (v := .pointer (some ⟨g_0, 0 + 0, none⟩)) 0 (by kernel_rfl) rfl rfl (fun _ => r_mv rfl h8) rfl hP ?_
  refine dp (v := .pointer (some ⟨g_0, 0 + 0, none⟩)) 1 (by kernel_rfl) rfl rfl (fun _ => r_nilc rfl rfl) rfl hP ?_
  refine dp (v := .pointer (some ⟨g_0, 0 + 33, none⟩)) 2 (by kernel_rfl) rfl rfl (fun _ => l_fa (j := 0) (i := 0) rfl fl168_2 rfl rfl) rfl hP ?_
  refine dp (v := .pointer (some ⟨g_0, 0 + 0, none⟩)) 5 (by kernel_rfl) rfl rfl (fun _ => r_mv rfl h8) rfl hP ?_
  refine dp (v := .pointer (some ⟨g_0, 0 + 0, none⟩)) 6 (by kernel_rfl) rfl rfl (fun _ => r_nilc rfl rfl) rfl hP ?_
  refine dp (v := .pointer (some ⟨g_0, 0 + 32, none⟩)) 7 (by kernel_rfl) rfl rfl (fun _ => l_fa (j := 0) (i := 0) rfl fl168_1 rfl rfl) rfl hP ?_
  refine dr (v := s1.v) 3 (by kernel_rfl) rfl rfl (hI.good.weakm [true, true] (Hle.refl _) rfl) (fun _ hG => r_cl1 (off := 33) (p := 2) (hG.ca 0 rfl) rfl sc27 rfl rfl rfl) rfl hP ?_
  refine dr (v := .int .i64 a0.height_) 8 (by kernel_rfl) rfl rfl (hI.good.weakm [true, true] (Hle.refl _) rfl) (fun _ hG => r_cl1 (off := 32) (p := 1) (hG.ca 0 rfl) rfl sc3 rfl rfl rfl) rfl hP ?_
  obtain ⟨x12, hx12, hF⟩ := Option.bind_eq_some_iff.1 hF
  have hsp15 := spec_103 hx12 hT (hI.part 0) hs1
  refine dfc 4 ([]) ([.cb g_0 [ckV flB a0.seed_, ckI a0.height_, ckL s1] 168, .cb g2 [ckV flB (Vec.rep 32 0), ckI 0] 49]) (args := [s1.v]) fc103 (by kernel_rfl) rfl rfl rfl rfl rfl hI (argc rfl rfl) (hsp15) ?_
  rintro _ H13 _ w14 ⟨rfl, rfl⟩ hleH13 hI
  replace hI : Inv B w14 H13 [.cb g_0 [ckV flB a0.seed_, ckI a0.height_, ckL s1] 168, .cb g2 [ckV flB (Vec.rep 32 0), ckI 0] 49] := hI
  refine ⟨(hI.good.weakm [true, true] hleH13 rfl), ?_⟩
  refine dp (v := .agg (flat [ckV flB x12, ckI a0.height_]).toArray) 9 (by kernel_rfl) rfl rfl (fun _ => r_bldk (z := [[ckV flB (Vec.rep 32 0)], [ckI 0]]) (pc := [(0, [ckV flB x12]), (1, [ckI a0.height_])]) rfl zg49 bf49 rfl (argc (congrArg Value.cells rfl) (argc (congrArg Value.cells rfl) rfl)) rfl rfl) rfl hP ?_
  refine dsl 10 (by kernel_rfl) rfl rfl rfl (l_st (off := 0) (p := 0) (m := 2) (new := [ckV flB x12, ckI a0.height_]) hI 1 rfl rfl sz49 h9 rfl rfl rfl rfl rfl) rfl ?_
  intro w16 hI
  replace hI : Inv B w16 H13 [.cb g_0 [ckV flB a0.seed_, ckI a0.height_, ckL s1] 168, .cb g2 [ckV flB x12, ckI a0.height_] 49] := hI
  refine dend (by kernel_rfl) ?_
  refine wthen ?_
  refine wren (fun ρ17 eρ17 => ?_)
  have h18 : opd ρ17 16 (.tmp 2) = .pointer (some ⟨g2, 0 + 0, none⟩) := (eρ17 2).trans h9
  clear eρ17
  refine wp_ret ?_
  obtain rfl := Option.some.inj hF
  subst hB
  refine finR (rs := [.cell 2 49]) (vs := [.agg (flat [ckV flB x12, ckI a0.height_]).toArray]) rfl ⟨⟨_, h18, ld_agg (hI.good.ca 1 rfl) ag49 rfl⟩, trivial⟩ ?_
  exact hI.fin 1 ⟨rfl, rfl⟩
noncomputable def M_wapentakelaw14_alive  : Option (Bool) := ((M_keys_New (Vec.set (Vec.rep 32 0) 0 1) 0).bind fun x2 => match x2.1 with | none => (if x2.2 ≠ 0 then some false else none) | some t5 => (if x2.2 ≠ 0 then some false else ((M_keys_Tree_Key t5).bind fun x29 => ((M_block_Digest (⟨0, 1, (Vec.rep 32 0), (Vec.rep 32 0), (Vec.rep 32 0), []⟩ : Block)).bind fun x49 => ((M_vote_Signs (⟨2, 0, 1, 0, x49, 1, (⟨0, (⟨[], []⟩ : Once), []⟩ : Sig)⟩ : Vote)).bind fun x61 => ((M_keys_Tree_Sign t5 0 x61).bind fun x65 => ((M_cert_Make (⟨0, [(⟨1, (⟨x29.Root, x29.Height⟩ : Key)⟩ : Member)]⟩ : Config) [(⟨2, 0, 1, 0, x49, 1, (⟨x65.1.Leaf, (⟨x65.1.Once.Open, x65.1.Once.Shut⟩ : Once), x65.1.Path⟩ : Sig)⟩ : Vote)]).bind fun x80 => (if x80.2 = true then ((M_cert_Check (⟨0, [(⟨1, (⟨x29.Root, x29.Height⟩ : Key)⟩ : Member)]⟩ : Config) (⟨0, 1, (Vec.rep 32 0), (Vec.rep 32 0), (Vec.rep 32 0), []⟩ : Block) x80.1).bind fun x94 => some x94) else some false))))))))
set_option maxHeartbeats 4000000 in
theorem spec_44 {w : World} {H : Hp}   {r : Bool} (hF : M_wapentakelaw14_alive  = some r) (hT : Tab H) (hG : Good w H [])  :
    Fine Tryd.prog 44 [] w H [] (fun H' v L' => v = .bool r ∧ L' = []) := by
  unfold M_wapentakelaw14_alive at hF
  unfold Fine
  obtain ⟨B, hB⟩ : ∃ B : Base, B = ⟨w, H, blks []⟩ := ⟨_, rfl⟩
  have hI : Inv B w H [] := by rw [hB]; exact Inv.start hG
  refine enter (n := 46) (args := []) Tryd.func44 rfl Tryd.ntmps44 (Nat.le_of_ble_eq_true rfl) ?_
  refine wseq ?_
  refine wreg ?_
  refine lv (v := .bool false) rfl (r_as rfl rfl) rfl ?_
  refine wend ?_
  refine wthen ?_
  refine wren (fun ρ1 eρ1 => ?_)
  clear eρ1
  refine wseq ?_
  refine wreg ?_
  refine lv (v := .agg (flat [ckV flB (Vec.set (Vec.rep 32 0) 0 1)]).toArray) rfl (r_bldc rfl ze29 ar29 rfl rfl) rfl ?_
  obtain ⟨x2, hx2, hF⟩ := Option.bind_eq_some_iff.1 hF
  have hsp6 := spec_52 hx2 hT (hI.part 0) 
  refine fc ([]) ([]) (args := [.agg (flat [ckV flB (Vec.set (Vec.rep 32 0) 0 1)]).toArray, .int .i64 0]) fc52 rfl rfl rfl hI (argc rfl (argc rfl rfl)) (hsp6) ?_
  rintro _ H3 _ w4 (⟨hn10, rfl, rfl⟩ | ⟨t5, s8, g7, hn10, rfl, hs8, rfl⟩) hleH3 hI
  · skip
    replace hI : Inv B w4 H3 [] := hI
    rw [hn10] at hF; dsimp only at hF
    refine lv (v := .tuple #[.pointer none, .int .i64 x2.2]) rfl (r_mv rfl rfl) rfl ?_
    refine lv (v := .pointer none) rfl (r_ext rfl rfl rfl) rfl ?_
    refine lv (v := .int .i64 x2.2) rfl (r_ext rfl rfl rfl) rfl ?_
    refine lv (v := .pointer none) rfl (r_as rfl rfl) rfl ?_
    refine lv (v := .int .i64 x2.2) rfl (r_as rfl rfl) rfl ?_
    refine wend ?_
    refine wthen ?_
    refine wren (fun ρ11 eρ11 => ?_)
    have h12 : opd ρ11 46 (.tmp 1) = .pointer none := eρ11 1
    have h13 : opd ρ11 46 (.tmp 2) = .int .i64 x2.2 := eρ11 2
    clear eρ11
    refine wseq ?_
    refine wseq ?_
    refine wreg ?_
    refine lv (v := .int .i64 x2.2) rfl (r_mv rfl h13) rfl ?_
    refine lv (v := .bool (decide (x2.2 ≠ 0))) rfl (r_neq rfl rfl rfl rfl) rfl ?_
    refine wend ?_
    refine wthen ?_
    refine wren (fun ρ14 eρ14 => ?_)
    have h15 : opd ρ14 46 (.tmp 1) = .pointer none := (eρ14 1).trans h12
    have h16 : opd ρ14 46 (.tmp 14) = .bool (decide (x2.2 ≠ 0)) := eρ14 14
    clear eρ14
    by_cases hc17 : x2.2 ≠ 0
    · skip
      rw [if_pos hc17] at hF
      have hbhc17 : (decide (x2.2 ≠ 0)) = true := decide_eq_true hc17
      refine wcT (h16.trans (congrArg Value.bool hbhc17)) ?_
      refine wseq ?_
      refine wreg ?_
      refine lv (v := .bool false) rfl (r_as rfl rfl) rfl ?_
      refine wend ?_
      refine wthen ?_
      refine wren (fun ρ18 eρ18 => ?_)
      have h19 : opd ρ18 46 (.tmp 0) = .bool false := eρ18 0
      clear eρ18
      refine wp_ret ?_
      refine thR ?_
      obtain rfl := Option.some.inj hF
      subst hB
      refine finR (rs := [.tmp 0]) (vs := [.bool false]) rfl ⟨h19, trivial⟩ ?_
      exact hI.fin 0 ⟨rfl, rfl⟩
    · skip
      rw [if_neg hc17] at hF
      have hbhc17 : (decide (x2.2 ≠ 0)) = false := decide_eq_false hc17
      refine wcF (h16.trans (congrArg Value.bool hbhc17)) ?_
      refine wp_skip ?_
      refine wthen ?_
      refine wseq ?_
      refine wreg ?_
      refine lv (v := .pointer none) rfl (r_mv rfl h15) rfl ?_
      cases hF
  · skip
    replace hI : Inv B w4 H3 [.cb g7 [ckV flB t5.seed_, ckI t5.height_, ckL s8] 168] := hI
    rw [hn10] at hF; dsimp only at hF
    refine lv (v := .tuple #[.pointer (some ⟨g7, 0 + 0, none⟩), .int .i64 x2.2]) rfl (r_mv rfl rfl) rfl ?_
    refine lv (v := .pointer (some ⟨g7, 0 + 0, none⟩)) rfl (r_ext rfl rfl rfl) rfl ?_
    refine lv (v := .int .i64 x2.2) rfl (r_ext rfl rfl rfl) rfl ?_
    refine lv (v := .pointer (some ⟨g7, 0 + 0, none⟩)) rfl (r_as rfl rfl) rfl ?_
    refine lv (v := .int .i64 x2.2) rfl (r_as rfl rfl) rfl ?_
    refine wend ?_
    refine wthen ?_
    refine wren (fun ρ20 eρ20 => ?_)
    have h21 : opd ρ20 46 (.tmp 1) = .pointer (some ⟨g7, 0 + 0, none⟩) := eρ20 1
    have h22 : opd ρ20 46 (.tmp 2) = .int .i64 x2.2 := eρ20 2
    clear eρ20
    refine wseq ?_
    refine wseq ?_
    refine wreg ?_
    refine lv (v := .int .i64 x2.2) rfl (r_mv rfl h22) rfl ?_
    refine lv (v := .bool (decide (x2.2 ≠ 0))) rfl (r_neq rfl rfl rfl rfl) rfl ?_
    refine wend ?_
    refine wthen ?_
    refine wren (fun ρ23 eρ23 => ?_)
    have h24 : opd ρ23 46 (.tmp 1) = .pointer (some ⟨g7, 0 + 0, none⟩) := (eρ23 1).trans h21
    have h25 : opd ρ23 46 (.tmp 14) = .bool (decide (x2.2 ≠ 0)) := eρ23 14
    clear eρ23
    by_cases hc26 : x2.2 ≠ 0
    · skip
      rw [if_pos hc26] at hF
      have hbhc26 : (decide (x2.2 ≠ 0)) = true := decide_eq_true hc26
      refine wcT (h25.trans (congrArg Value.bool hbhc26)) ?_
      refine wseq ?_
      refine wreg ?_
      refine lv (v := .bool false) rfl (r_as rfl rfl) rfl ?_
      refine wend ?_
      refine wthen ?_
      refine wren (fun ρ27 eρ27 => ?_)
      have h28 : opd ρ27 46 (.tmp 0) = .bool false := eρ27 0
      clear eρ27
      refine wp_ret ?_
      refine thR ?_
      obtain rfl := Option.some.inj hF
      subst hB
      refine finR (rs := [.tmp 0]) (vs := [.bool false]) rfl ⟨h28, trivial⟩ ?_
      exact hI.fin 0 ⟨rfl, rfl⟩
    · skip
      rw [if_neg hc26] at hF
      have hbhc26 : (decide (x2.2 ≠ 0)) = false := decide_eq_false hc26
      refine wcF (h25.trans (congrArg Value.bool hbhc26)) ?_
      refine wp_skip ?_
      refine wthen ?_
      refine wseq ?_
      refine wreg ?_
      refine lv (v := .pointer (some ⟨g7, 0 + 0, none⟩)) rfl (r_mv rfl h24) rfl ?_
      obtain ⟨x29, hx29, hF⟩ := Option.bind_eq_some_iff.1 hF
      have hsp32 := spec_56 hx29 (hT.mono hleH3) (hI.part 1) hs8
      refine fc ([.cb g7 [ckV flB t5.seed_, ckI t5.height_, ckL s8] 168]) ([]) (args := [.pointer (some ⟨g7, 0 + 0, none⟩)]) fc56 rfl rfl rfl hI (argc rfl rfl) (hsp32) ?_
      rintro _ H30 _ w31 ⟨rfl, rfl⟩ hleH30 hI
      replace hI : Inv B w31 H30 [.cb g7 [ckV flB t5.seed_, ckI t5.height_, ckL s8] 168] := hI
      refine lv (v := .agg (flat [ckI 1, ckV flB x29.Root, ckI x29.Height]).toArray) rfl (r_bldk (z := [[ckI 0], [ckV flB (Vec.rep 32 0), ckI 0]]) (pc := [(0, [ckI 1]), (1, [ckV flB x29.Root, ckI x29.Height])]) rfl zg114 bf114 rfl (argc (congrArg Value.cells rfl) (argc (congrArg Value.cells rfl) rfl)) rfl rfl) rfl ?_
      refine le rfl (l_bs (t := (Fl.ty fl_Member)) (vs := [.agg (flat [ckI 1, ckV flB x29.Root, ckI x29.Height]).toArray]) (xs := [(⟨1, (⟨x29.Root, x29.Height⟩ : Key)⟩ : Member)]) hI rfl sl62 inf114 rfl rfl (argc rfl rfl) (.cons rfl rfl .nil) rfl) rfl ?_
      rintro _ w35 ⟨s33, H34, rfl, hI, hleH34, hs33, hfs33, hgs33⟩
      refine lv (v := .agg (flat [ckI 0, ckL s33]).toArray) rfl (r_bldk (z := [[ckI 0], [ckL Sv.nil]]) (pc := [(1, [ckL s33])]) rfl zg64 bf64 rfl (argc (congrArg Value.cells rfl) rfl) rfl rfl) rfl ?_
      refine le rfl (l_al hI rfl ze64) rfl ?_
      rintro _ w37 ⟨g36, rfl, hI⟩
      replace hI : Inv B w37 H34 [.cb g7 [ckV flB t5.seed_, ckI t5.height_, ckL s8] 168, .cb g36 [ckI 0, ckL Sv.nil] 64] := hI
      refine lst rfl (l_st (off := 0) (p := 0) (m := 2) (new := [ckI 0, ckL s33]) hI 1 rfl rfl sz64 rfl rfl rfl rfl rfl rfl) rfl ?_
      intro w38 hI
      replace hI : Inv B w38 H34 [.cb g7 [ckV flB t5.seed_, ckI t5.height_, ckL s8] 168, .cb g36 [ckI 0, ckL s33] 64] := hI
      refine wend ?_
      refine wthen ?_
      refine wren (fun ρ39 eρ39 => ?_)
      have h40 : opd ρ39 46 (.tmp 1) = .pointer (some ⟨g7, 0 + 0, none⟩) := (eρ39 1).trans h24
      have h41 : opd ρ39 46 (.tmp 3) = .pointer (some ⟨g36, 0 + 0, none⟩) := eρ39 3
      clear eρ39
      refine wseq ?_
      refine wreg ?_
      refine lv (v := .agg (flat [ckI 0, ckI 1, ckV flB (Vec.rep 32 0), ckV flB (Vec.rep 32 0), ckV flB (Vec.rep 32 0), ckL Sv.nil]).toArray) rfl (r_bldk (z := [[ckI 0], [ckI 0], [ckV flB (Vec.rep 32 0)], [ckV flB (Vec.rep 32 0)], [ckV flB (Vec.rep 32 0)], [ckL Sv.nil]]) (pc := [(1, [ckI 1])]) rfl zg69 bf69 rfl (argc (congrArg Value.cells rfl) rfl) rfl rfl) rfl ?_
      refine le rfl (l_al hI rfl ze69) rfl ?_
      rintro _ w43 ⟨g42, rfl, hI⟩
      replace hI : Inv B w43 H34 [.cb g7 [ckV flB t5.seed_, ckI t5.height_, ckL s8] 168, .cb g36 [ckI 0, ckL s33] 64, .cb g42 [ckI 0, ckI 0, ckV flB (Vec.rep 32 0), ckV flB (Vec.rep 32 0), ckV flB (Vec.rep 32 0), ckL Sv.nil] 69] := hI
      refine lst rfl (l_st (off := 0) (p := 0) (m := 6) (new := [ckI 0, ckI 1, ckV flB (Vec.rep 32 0), ckV flB (Vec.rep 32 0), ckV flB (Vec.rep 32 0), ckL Sv.nil]) hI 2 rfl rfl sz69 rfl rfl rfl rfl rfl rfl) rfl ?_
      intro w44 hI
      replace hI : Inv B w44 H34 [.cb g7 [ckV flB t5.seed_, ckI t5.height_, ckL s8] 168, .cb g36 [ckI 0, ckL s33] 64, .cb g42 [ckI 0, ckI 1, ckV flB (Vec.rep 32 0), ckV flB (Vec.rep 32 0), ckV flB (Vec.rep 32 0), ckL Sv.nil] 69] := hI
      refine wend ?_
      refine wthen ?_
      refine wren (fun ρ45 eρ45 => ?_)
      have h46 : opd ρ45 46 (.tmp 1) = .pointer (some ⟨g7, 0 + 0, none⟩) := (eρ45 1).trans h40
      have h47 : opd ρ45 46 (.tmp 3) = .pointer (some ⟨g36, 0 + 0, none⟩) := (eρ45 3).trans h41
      have h48 : opd ρ45 46 (.tmp 4) = .pointer (some ⟨g42, 0 + 0, none⟩) := eρ45 4
      clear eρ45
      refine wseq ?_
      refine wreg ?_
      refine lv (v := .agg (flat [ckI 0, ckI 1, ckV flB (Vec.rep 32 0), ckV flB (Vec.rep 32 0), ckV flB (Vec.rep 32 0), ckL Sv.nil]).toArray) rfl (r_cla (off := 0) (p := 0) (m := 6) (hI.good.ca 2 rfl) rfl ag69 h48 rfl rfl) rfl ?_
      obtain ⟨x49, hx49, hF⟩ := Option.bind_eq_some_iff.1 hF
      have hsp52 := spec_86 hx49 (((hT.mono hleH3).mono hleH30).mono hleH34) (hI.part 0) (Sl.nil _ _)
      refine fc ([]) ([.cb g7 [ckV flB t5.seed_, ckI t5.height_, ckL s8] 168, .cb g36 [ckI 0, ckL s33] 64, .cb g42 [ckI 0, ckI 1, ckV flB (Vec.rep 32 0), ckV flB (Vec.rep 32 0), ckV flB (Vec.rep 32 0), ckL Sv.nil] 69]) (args := [.agg (flat [ckI 0, ckI 1, ckV flB (Vec.rep 32 0), ckV flB (Vec.rep 32 0), ckV flB (Vec.rep 32 0), ckL Sv.nil]).toArray]) fc86 rfl rfl rfl hI (argc rfl rfl) (hsp52) ?_
      rintro _ H50 _ w51 ⟨rfl, rfl⟩ hleH50 hI
      replace hI : Inv B w51 H50 [.cb g7 [ckV flB t5.seed_, ckI t5.height_, ckL s8] 168, .cb g36 [ckI 0, ckL s33] 64, .cb g42 [ckI 0, ckI 1, ckV flB (Vec.rep 32 0), ckV flB (Vec.rep 32 0), ckV flB (Vec.rep 32 0), ckL Sv.nil] 69] := hI
      refine lv (v := .agg (flat [ckI 2, ckI 0, ckI 1, ckI 0, ckV flB x49, ckI 1, ckI 0, ckL Sv.nil, ckL Sv.nil, ckL Sv.nil]).toArray) rfl (r_bldk (z := [[ckI 0], [ckI 0], [ckI 0], [ckI 0], [ckV flB (Vec.rep 32 0)], [ckI 0], [ckI 0, ckL Sv.nil, ckL Sv.nil, ckL Sv.nil]]) (pc := [(0, [ckI 2]), (2, [ckI 1]), (4, [ckV flB x49]), (5, [ckI 1])]) rfl zg35 bf35 rfl (argc (congrArg Value.cells rfl) (argc (congrArg Value.cells rfl) (argc (congrArg Value.cells rfl) (argc (congrArg Value.cells rfl) rfl)))) rfl rfl) rfl ?_
      refine le rfl (l_al hI rfl ze35) rfl ?_
      rintro _ w54 ⟨g53, rfl, hI⟩
      replace hI : Inv B w54 H50 [.cb g7 [ckV flB t5.seed_, ckI t5.height_, ckL s8] 168, .cb g36 [ckI 0, ckL s33] 64, .cb g42 [ckI 0, ckI 1, ckV flB (Vec.rep 32 0), ckV flB (Vec.rep 32 0), ckV flB (Vec.rep 32 0), ckL Sv.nil] 69, .cb g53 [ckI 0, ckI 0, ckI 0, ckI 0, ckV flB (Vec.rep 32 0), ckI 0, ckI 0, ckL Sv.nil, ckL Sv.nil, ckL Sv.nil] 35] := hI
      refine lst rfl (l_st (off := 0) (p := 0) (m := 10) (new := [ckI 2, ckI 0, ckI 1, ckI 0, ckV flB x49, ckI 1, ckI 0, ckL Sv.nil, ckL Sv.nil, ckL Sv.nil]) hI 3 rfl rfl sz35 rfl rfl rfl rfl rfl rfl) rfl ?_
      intro w55 hI
      replace hI : Inv B w55 H50 [.cb g7 [ckV flB t5.seed_, ckI t5.height_, ckL s8] 168, .cb g36 [ckI 0, ckL s33] 64, .cb g42 [ckI 0, ckI 1, ckV flB (Vec.rep 32 0), ckV flB (Vec.rep 32 0), ckV flB (Vec.rep 32 0), ckL Sv.nil] 69, .cb g53 [ckI 2, ckI 0, ckI 1, ckI 0, ckV flB x49, ckI 1, ckI 0, ckL Sv.nil, ckL Sv.nil, ckL Sv.nil] 35] := hI
      refine wend ?_
      refine wthen ?_
      refine wren (fun ρ56 eρ56 => ?_)
      have h57 : opd ρ56 46 (.tmp 1) = .pointer (some ⟨g7, 0 + 0, none⟩) := (eρ56 1).trans h46
      have h58 : opd ρ56 46 (.tmp 3) = .pointer (some ⟨g36, 0 + 0, none⟩) := (eρ56 3).trans h47
      have h59 : opd ρ56 46 (.tmp 4) = .pointer (some ⟨g42, 0 + 0, none⟩) := (eρ56 4).trans h48
      have h60 : opd ρ56 46 (.tmp 5) = .pointer (some ⟨g53, 0 + 0, none⟩) := eρ56 5
      clear eρ56
      refine wseq ?_
      refine wreg ?_
      refine lv (v := .pointer (some ⟨g7, 0 + 0, none⟩)) rfl (r_mv rfl h57) rfl ?_
      refine lv (v := .agg (flat [ckI 2, ckI 0, ckI 1, ckI 0, ckV flB x49, ckI 1, ckI 0, ckL Sv.nil, ckL Sv.nil, ckL Sv.nil]).toArray) rfl (r_cla (off := 0) (p := 0) (m := 10) (hI.good.ca 3 rfl) rfl ag35 h60 rfl rfl) rfl ?_
      obtain ⟨x61, hx61, hF⟩ := Option.bind_eq_some_iff.1 hF
      have hsp64 := spec_54 hx61 ((((hT.mono hleH3).mono hleH30).mono hleH34).mono hleH50) (hI.part 0) (Sl.nil _ _) (Sl.nil _ _) (Sl.nil _ _)
      refine fc ([]) ([.cb g7 [ckV flB t5.seed_, ckI t5.height_, ckL s8] 168, .cb g36 [ckI 0, ckL s33] 64, .cb g42 [ckI 0, ckI 1, ckV flB (Vec.rep 32 0), ckV flB (Vec.rep 32 0), ckV flB (Vec.rep 32 0), ckL Sv.nil] 69, .cb g53 [ckI 2, ckI 0, ckI 1, ckI 0, ckV flB x49, ckI 1, ckI 0, ckL Sv.nil, ckL Sv.nil, ckL Sv.nil] 35]) (args := [.agg (flat [ckI 2, ckI 0, ckI 1, ckI 0, ckV flB x49, ckI 1, ckI 0, ckL Sv.nil, ckL Sv.nil, ckL Sv.nil]).toArray]) fc54 rfl rfl rfl hI (argc rfl rfl) (hsp64) ?_
      rintro _ H62 _ w63 ⟨rfl, rfl⟩ hleH62 hI
      replace hI : Inv B w63 H62 [.cb g7 [ckV flB t5.seed_, ckI t5.height_, ckL s8] 168, .cb g36 [ckI 0, ckL s33] 64, .cb g42 [ckI 0, ckI 1, ckV flB (Vec.rep 32 0), ckV flB (Vec.rep 32 0), ckV flB (Vec.rep 32 0), ckL Sv.nil] 69, .cb g53 [ckI 2, ckI 0, ckI 1, ckI 0, ckV flB x49, ckI 1, ckI 0, ckL Sv.nil, ckL Sv.nil, ckL Sv.nil] 35] := hI
      obtain ⟨x65, hx65, hF⟩ := Option.bind_eq_some_iff.1 hF
      have hsp68 := spec_53 hx65 (((((hT.mono hleH3).mono hleH30).mono hleH34).mono hleH50).mono hleH62) (hI.part 1) ((((hs8.mono hleH30).mono hleH34).mono hleH50).mono hleH62)
      refine fc ([.cb g7 [ckV flB t5.seed_, ckI t5.height_, ckL s8] 168]) ([.cb g36 [ckI 0, ckL s33] 64, .cb g42 [ckI 0, ckI 1, ckV flB (Vec.rep 32 0), ckV flB (Vec.rep 32 0), ckV flB (Vec.rep 32 0), ckL Sv.nil] 69, .cb g53 [ckI 2, ckI 0, ckI 1, ckI 0, ckV flB x49, ckI 1, ckI 0, ckL Sv.nil, ckL Sv.nil, ckL Sv.nil] 35]) (args := [.pointer (some ⟨g7, 0 + 0, none⟩), .int .i64 0, .agg (flat [ckV flB x61]).toArray]) fc53 rfl rfl rfl hI (argc rfl (argc rfl (argc rfl rfl))) (hsp68) ?_
      rintro _ H66 _ w67 ⟨s69, s70, s71, rfl, hs69, hs70, hs71, rfl⟩ hleH66 hI
      replace hI : Inv B w67 H66 [.cb g7 [ckV flB t5.seed_, ckI t5.height_, ckL s8] 168, .cb g36 [ckI 0, ckL s33] 64, .cb g42 [ckI 0, ckI 1, ckV flB (Vec.rep 32 0), ckV flB (Vec.rep 32 0), ckV flB (Vec.rep 32 0), ckL Sv.nil] 69, .cb g53 [ckI 2, ckI 0, ckI 1, ckI 0, ckV flB x49, ckI 1, ckI 0, ckL Sv.nil, ckL Sv.nil, ckL Sv.nil] 35] := hI
      refine lv (v := .tuple #[.agg (flat [ckI x65.1.Leaf, ckL s69, ckL s70, ckL s71]).toArray, .int .i64 x65.2]) rfl (r_mv rfl rfl) rfl ?_
      refine lv (v := .agg (flat [ckI x65.1.Leaf, ckL s69, ckL s70, ckL s71]).toArray) rfl (r_ext rfl rfl rfl) rfl ?_
      refine lv (v := .int .i64 x65.2) rfl (r_ext rfl rfl rfl) rfl ?_
      refine lv (v := .pointer (some ⟨g53, 0 + 37, none⟩)) rfl (l_fa (j := 0) (i := 0) rfl fl35_6 h60 rfl) rfl ?_
      refine lst rfl (l_st (off := 37) (p := 6) (m := 4) (new := [ckI x65.1.Leaf, ckL s69, ckL s70, ckL s71]) hI 3 rfl rfl sz33 rfl rfl rfl rfl rfl rfl) rfl ?_
      intro w72 hI
      replace hI : Inv B w72 H66 [.cb g7 [ckV flB t5.seed_, ckI t5.height_, ckL s8] 168, .cb g36 [ckI 0, ckL s33] 64, .cb g42 [ckI 0, ckI 1, ckV flB (Vec.rep 32 0), ckV flB (Vec.rep 32 0), ckV flB (Vec.rep 32 0), ckL Sv.nil] 69, .cb g53 [ckI 2, ckI 0, ckI 1, ckI 0, ckV flB x49, ckI 1, ckI x65.1.Leaf, ckL s69, ckL s70, ckL s71] 35] := hI
      refine wend ?_
      refine wthen ?_
      refine wren (fun ρ73 eρ73 => ?_)
      have h74 : opd ρ73 46 (.tmp 3) = .pointer (some ⟨g36, 0 + 0, none⟩) := (eρ73 3).trans h58
      have h75 : opd ρ73 46 (.tmp 4) = .pointer (some ⟨g42, 0 + 0, none⟩) := (eρ73 4).trans h59
      have h76 : opd ρ73 46 (.tmp 5) = .pointer (some ⟨g53, 0 + 0, none⟩) := (eρ73 5).trans h60
      clear eρ73
      refine wseq ?_
      refine wreg ?_
      refine lv (v := .agg (flat [ckI 0, ckL s33]).toArray) rfl (r_cla (off := 0) (p := 0) (m := 2) (hI.good.ca 1 rfl) rfl ag64 h74 rfl rfl) rfl ?_
      refine lv (v := .agg (flat [ckI 2, ckI 0, ckI 1, ckI 0, ckV flB x49, ckI 1, ckI x65.1.Leaf, ckL s69, ckL s70, ckL s71]).toArray) rfl (r_cla (off := 0) (p := 0) (m := 10) (hI.good.ca 3 rfl) rfl ag35 h76 rfl rfl) rfl ?_
      refine le rfl (l_bs (t := ty_Vote) (vs := [.agg (flat [ckI 2, ckI 0, ckI 1, ckI 0, ckV flB x49, ckI 1, ckI x65.1.Leaf, ckL s69, ckL s70, ckL s71]).toArray]) (xs := [(⟨2, 0, 1, 0, x49, 1, (⟨x65.1.Leaf, (⟨x65.1.Once.Open, x65.1.Once.Shut⟩ : Once), x65.1.Path⟩ : Sig)⟩ : Vote)]) hI rfl sl22 inf35 rfl rfl (argc rfl rfl) (.cons rfl ⟨s69, s70, s71, rfl, hs69, hs70, hs71⟩ .nil) rfl) rfl ?_
      rintro _ w79 ⟨s77, H78, rfl, hI, hleH78, hs77, hfs77, hgs77⟩
      obtain ⟨x80, hx80, hF⟩ := Option.bind_eq_some_iff.1 hF
      have hsp83 := spec_49 hx80 (((((((hT.mono hleH3).mono hleH30).mono hleH34).mono hleH50).mono hleH62).mono hleH66).mono hleH78) (hI.part 0) ((((hs33.mono hleH50).mono hleH62).mono hleH66).mono hleH78) hs77
      refine fc ([]) ([.cb g7 [ckV flB t5.seed_, ckI t5.height_, ckL s8] 168, .cb g36 [ckI 0, ckL s33] 64, .cb g42 [ckI 0, ckI 1, ckV flB (Vec.rep 32 0), ckV flB (Vec.rep 32 0), ckV flB (Vec.rep 32 0), ckL Sv.nil] 69, .cb g53 [ckI 2, ckI 0, ckI 1, ckI 0, ckV flB x49, ckI 1, ckI x65.1.Leaf, ckL s69, ckL s70, ckL s71] 35]) (args := [.agg (flat [ckI 0, ckL s33]).toArray, s77.v]) fc49 rfl rfl rfl hI (argc rfl (argc rfl rfl)) (hsp83) ?_
      rintro _ H81 _ w82 ⟨s84, rfl, hs84, rfl⟩ hleH81 hI
      replace hI : Inv B w82 H81 [.cb g7 [ckV flB t5.seed_, ckI t5.height_, ckL s8] 168, .cb g36 [ckI 0, ckL s33] 64, .cb g42 [ckI 0, ckI 1, ckV flB (Vec.rep 32 0), ckV flB (Vec.rep 32 0), ckV flB (Vec.rep 32 0), ckL Sv.nil] 69, .cb g53 [ckI 2, ckI 0, ckI 1, ckI 0, ckV flB x49, ckI 1, ckI x65.1.Leaf, ckL s69, ckL s70, ckL s71] 35] := hI
      refine lv (v := .tuple #[.agg (flat [ckI x80.1.Round, ckL s84]).toArray, .bool x80.2]) rfl (r_mv rfl rfl) rfl ?_
      refine lv (v := .agg (flat [ckI x80.1.Round, ckL s84]).toArray) rfl (r_ext rfl rfl rfl) rfl ?_
      refine lv (v := .bool x80.2) rfl (r_ext rfl rfl rfl) rfl ?_
      refine le rfl (l_al hI rfl ze71) rfl ?_
      rintro _ w86 ⟨g85, rfl, hI⟩
      replace hI : Inv B w86 H81 [.cb g7 [ckV flB t5.seed_, ckI t5.height_, ckL s8] 168, .cb g36 [ckI 0, ckL s33] 64, .cb g42 [ckI 0, ckI 1, ckV flB (Vec.rep 32 0), ckV flB (Vec.rep 32 0), ckV flB (Vec.rep 32 0), ckL Sv.nil] 69, .cb g53 [ckI 2, ckI 0, ckI 1, ckI 0, ckV flB x49, ckI 1, ckI x65.1.Leaf, ckL s69, ckL s70, ckL s71] 35, .cb g85 [ckI 0, ckL Sv.nil] 71] := hI
      refine lst rfl (l_st (off := 0) (p := 0) (m := 2) (new := [ckI x80.1.Round, ckL s84]) hI 4 rfl rfl sz71 rfl rfl rfl rfl rfl rfl) rfl ?_
      intro w87 hI
      replace hI : Inv B w87 H81 [.cb g7 [ckV flB t5.seed_, ckI t5.height_, ckL s8] 168, .cb g36 [ckI 0, ckL s33] 64, .cb g42 [ckI 0, ckI 1, ckV flB (Vec.rep 32 0), ckV flB (Vec.rep 32 0), ckV flB (Vec.rep 32 0), ckL Sv.nil] 69, .cb g53 [ckI 2, ckI 0, ckI 1, ckI 0, ckV flB x49, ckI 1, ckI x65.1.Leaf, ckL s69, ckL s70, ckL s71] 35, .cb g85 [ckI x80.1.Round, ckL s84] 71] := hI
      refine lv (v := .bool x80.2) rfl (r_as rfl rfl) rfl ?_
      refine wend ?_
      refine wthen ?_
      refine wren (fun ρ88 eρ88 => ?_)
      have h89 : opd ρ88 46 (.tmp 3) = .pointer (some ⟨g36, 0 + 0, none⟩) := (eρ88 3).trans h74
      have h90 : opd ρ88 46 (.tmp 4) = .pointer (some ⟨g42, 0 + 0, none⟩) := (eρ88 4).trans h75
      have h91 : opd ρ88 46 (.tmp 6) = .pointer (some ⟨g85, 0 + 0, none⟩) := eρ88 6
      have h92 : opd ρ88 46 (.tmp 7) = .bool x80.2 := eρ88 7
      clear eρ88
      refine wseq ?_
      refine wreg ?_
      refine lv (v := .bool x80.2) rfl (r_mv rfl h92) rfl ?_
      by_cases hc93 : x80.2 = true
      · skip
        rw [if_pos hc93] at hF
        have hbhc93 : x80.2 = true := hc93
        refine lv (v := .bool true) rfl (r_mv rfl ((show opd _ _ _ = _ from rfl).trans (congrArg Value.bool hbhc93))) rfl ?_
        refine lv (v := .agg (flat [ckI 0, ckL s33]).toArray) rfl (r_cla (off := 0) (p := 0) (m := 2) (hI.good.ca 1 rfl) rfl ag64 h89 rfl rfl) rfl ?_
        refine lv (v := .agg (flat [ckI 0, ckI 1, ckV flB (Vec.rep 32 0), ckV flB (Vec.rep 32 0), ckV flB (Vec.rep 32 0), ckL Sv.nil]).toArray) rfl (r_cla (off := 0) (p := 0) (m := 6) (hI.good.ca 2 rfl) rfl ag69 h90 rfl rfl) rfl ?_
        refine lv (v := .agg (flat [ckI x80.1.Round, ckL s84]).toArray) rfl (r_cla (off := 0) (p := 0) (m := 2) (hI.good.ca 4 rfl) rfl ag71 h91 rfl rfl) rfl ?_
        obtain ⟨x94, hx94, hF⟩ := Option.bind_eq_some_iff.1 hF
        have hsp97 := spec_46 hx94 ((((((((hT.mono hleH3).mono hleH30).mono hleH34).mono hleH50).mono hleH62).mono hleH66).mono hleH78).mono hleH81) (hI.part 0) (((((hs33.mono hleH50).mono hleH62).mono hleH66).mono hleH78).mono hleH81) (Sl.nil _ _) hs84
        refine fc ([]) ([.cb g7 [ckV flB t5.seed_, ckI t5.height_, ckL s8] 168, .cb g36 [ckI 0, ckL s33] 64, .cb g42 [ckI 0, ckI 1, ckV flB (Vec.rep 32 0), ckV flB (Vec.rep 32 0), ckV flB (Vec.rep 32 0), ckL Sv.nil] 69, .cb g53 [ckI 2, ckI 0, ckI 1, ckI 0, ckV flB x49, ckI 1, ckI x65.1.Leaf, ckL s69, ckL s70, ckL s71] 35, .cb g85 [ckI x80.1.Round, ckL s84] 71]) (args := [.agg (flat [ckI 0, ckL s33]).toArray, .agg (flat [ckI 0, ckI 1, ckV flB (Vec.rep 32 0), ckV flB (Vec.rep 32 0), ckV flB (Vec.rep 32 0), ckL Sv.nil]).toArray, .agg (flat [ckI x80.1.Round, ckL s84]).toArray]) fc46 rfl rfl rfl hI (argc rfl (argc rfl (argc rfl rfl))) (hsp97) ?_
        rintro _ H95 _ w96 ⟨rfl, rfl⟩ hleH95 hI
        replace hI : Inv B w96 H95 [.cb g7 [ckV flB t5.seed_, ckI t5.height_, ckL s8] 168, .cb g36 [ckI 0, ckL s33] 64, .cb g42 [ckI 0, ckI 1, ckV flB (Vec.rep 32 0), ckV flB (Vec.rep 32 0), ckV flB (Vec.rep 32 0), ckL Sv.nil] 69, .cb g53 [ckI 2, ckI 0, ckI 1, ckI 0, ckV flB x49, ckI 1, ckI x65.1.Leaf, ckL s69, ckL s70, ckL s71] 35, .cb g85 [ckI x80.1.Round, ckL s84] 71] := hI
        refine lv (v := .bool x94) rfl (r_pkT rfl rfl rfl) rfl ?_
        refine lv (v := .bool x94) rfl (r_as rfl rfl) rfl ?_
        refine wend ?_
        refine wthen ?_
        refine wren (fun ρ98 eρ98 => ?_)
        have h99 : opd ρ98 46 (.tmp 0) = .bool x94 := eρ98 0
        clear eρ98
        refine wp_ret ?_
        obtain rfl := Option.some.inj hF
        subst hB
        refine finR (rs := [.tmp 0]) (vs := [.bool x94]) rfl ⟨h99, trivial⟩ ?_
        exact hI.fin 0 ⟨rfl, rfl⟩
      · skip
        rw [if_neg hc93] at hF
        have hbhc93 : x80.2 = false := (Bool.eq_false_iff.2 hc93)
        refine lv (v := .bool false) rfl (r_mv rfl ((show opd _ _ _ = _ from rfl).trans (congrArg Value.bool hbhc93))) rfl ?_
        with_reducible refine lx (d := 41) (by kernel_rfl) (by kernel_rfl) ?_
        with_reducible refine lx (d := 42) (by kernel_rfl) (by kernel_rfl) ?_
        with_reducible refine lx (d := 43) (by kernel_rfl) (by kernel_rfl) ?_
        with_reducible refine lx (d := 44) (by kernel_rfl) (by kernel_rfl) ?_
        refine lv (v := .bool false) rfl (r_pkF rfl rfl rfl) rfl ?_
        refine lv (v := .bool false) rfl (r_as rfl rfl) rfl ?_
        refine wend ?_
        refine wthen ?_
        refine wren (fun ρ100 eρ100 => ?_)
        have h101 : opd ρ100 46 (.tmp 0) = .bool false := eρ100 0
        clear eρ100
        refine wp_ret ?_
        obtain rfl := Option.some.inj hF
        subst hB
        refine finR (rs := [.tmp 0]) (vs := [.bool false]) rfl ⟨h101, trivial⟩ ?_
        exact hI.fin 0 ⟨rfl, rfl⟩
noncomputable def M_wapentakelaw14_great (a0 : Config) (a1 : Block) (a2 : Cert) : Option (Bool) := (if (20 : Int) < (a0.Members.length : Int) then some true else ((M_wapentakeref12_Great a1 4096).bind fun x20 => (if x20 = true then some true else (if (12 : Int) < (a2.Votes.length : Int) then some true else ((forK (fun (i40 : Nat) (σ40 : Unit) => (((a2.Votes[i40]?).bind fun x101 => (if (200 : Int) < (x101.Sig.Once.Open.length : Int) then ((some true).map Sum.inr) else (if (200 : Int) < (x101.Sig.Once.Shut.length : Int) then ((some true).map Sum.inr) else (if (200 : Int) < (x101.Sig.Path.length : Int) then ((some true).map Sum.inr) else some (.inl ()))))) : Option (Unit ⊕ Bool))) a2.Votes.length 0 ()).bind fun y => match y with | .inl _ => some false | .inr r => some r)))))
set_option maxHeartbeats 4000000 in
theorem spec_45 {w : World} {H : Hp} {a0 : Config} {a1 : Block} {a2 : Cert} {s1 : Sv} {s2 : Sv} {s3 : Sv} {r : Bool} (hF : M_wapentakelaw14_great a0 a1 a2 = some r) (hT : Tab H) (hG : Good w H []) (hs1 : Sl (Fl.ty fl_Member) H s1 a0.Members) (hs2 : Sl (Fl.ty fl_Request) H s2 a1.Requests) (hs3 : Sl ty_Vote H s3 a2.Votes) :
    Fine Tryd.prog 45 [.agg (flat [ckI a0.Epoch, ckL s1]).toArray, .agg (flat [ckI a1.Epoch, ckI a1.Height, ckV flB a1.Prev, ckV flB a1.State, ckV flB a1.Next, ckL s2]).toArray, .agg (flat [ckI a2.Round, ckL s3]).toArray] w H [] (fun H' v L' => v = .bool r ∧ L' = []) := by
  unfold M_wapentakelaw14_great at hF
  unfold Fine
  obtain ⟨B, hB⟩ : ∃ B : Base, B = ⟨w, H, blks []⟩ := ⟨_, rfl⟩
  have hI : Inv B w H [] := by rw [hB]; exact Inv.start hG
  refine enter (n := 52) (args := [.agg (flat [ckI a0.Epoch, ckL s1]).toArray, .agg (flat [ckI a1.Epoch, ckI a1.Height, ckV flB a1.Prev, ckV flB a1.State, ckV flB a1.Next, ckL s2]).toArray, .agg (flat [ckI a2.Round, ckL s3]).toArray]) Tryd.func45 rfl Tryd.ntmps45 (Nat.le_of_ble_eq_true rfl) ?_
  refine wseq ?_
  refine wreg ?_
  refine le rfl (l_box (cks := [ckI a0.Epoch, ckL s1]) hI rfl rfl rfl) rfl ?_
  rintro _ w5 ⟨g4, rfl, hI⟩
  replace hI : Inv B w5 H [.cb g4 [ckI a0.Epoch, ckL s1] 64] := hI
  refine le rfl (l_box (cks := [ckI a1.Epoch, ckI a1.Height, ckV flB a1.Prev, ckV flB a1.State, ckV flB a1.Next, ckL s2]) hI rfl rfl rfl) rfl ?_
  rintro _ w7 ⟨g6, rfl, hI⟩
  replace hI : Inv B w7 H [.cb g4 [ckI a0.Epoch, ckL s1] 64, .cb g6 [ckI a1.Epoch, ckI a1.Height, ckV flB a1.Prev, ckV flB a1.State, ckV flB a1.Next, ckL s2] 69] := hI
  refine le rfl (l_box (cks := [ckI a2.Round, ckL s3]) hI rfl rfl rfl) rfl ?_
  rintro _ w9 ⟨g8, rfl, hI⟩
  replace hI : Inv B w9 H [.cb g4 [ckI a0.Epoch, ckL s1] 64, .cb g6 [ckI a1.Epoch, ckI a1.Height, ckV flB a1.Prev, ckV flB a1.State, ckV flB a1.Next, ckL s2] 69, .cb g8 [ckI a2.Round, ckL s3] 71] := hI
  refine lv (v := .bool false) rfl (r_as rfl rfl) rfl ?_
  refine wend ?_
  refine wthen ?_
  refine wren (fun ρ10 eρ10 => ?_)
  have h11 : opd ρ10 52 (.tmp 3) = .pointer (some ⟨g4, 0 + 0, none⟩) := eρ10 3
  have h12 : opd ρ10 52 (.tmp 4) = .pointer (some ⟨g6, 0 + 0, none⟩) := eρ10 4
  have h13 : opd ρ10 52 (.tmp 5) = .pointer (some ⟨g8, 0 + 0, none⟩) := eρ10 5
  clear eρ10
  refine wseq ?_
  refine wseq ?_
  refine wreg ?_
  refine lv (v := .pointer (some ⟨g4, 0 + 1, none⟩)) rfl (l_fa (j := 0) (i := 0) rfl fl64_1 h11 rfl) rfl ?_
  refine lv (v := s1.v) rfl (r_cl1 (off := 1) (p := 1) (hI.good.ca 0 rfl) rfl sc62 rfl rfl rfl) rfl ?_
  refine lv (v := .int .i64 (a0.Members.length : Int)) rfl (r_lenS rfl sl62 rfl hs1) rfl ?_
  refine lv (v := .bool (decide ((20 : Int) < (a0.Members.length : Int)))) rfl (r_gtr rfl rfl rfl rfl) rfl ?_
  by_cases hc14 : (20 : Int) < (a0.Members.length : Int)
  · skip
    rw [if_pos hc14] at hF
    have hbhc14 : (decide ((20 : Int) < (a0.Members.length : Int))) = true := decide_eq_true hc14
    refine lv (v := .bool true) rfl (r_mv rfl ((show opd _ _ _ = _ from rfl).trans (congrArg Value.bool hbhc14))) rfl ?_
    with_reducible refine lx (d := 14) (by kernel_rfl) (by kernel_rfl) ?_
    with_reducible refine lx (d := 15) (by kernel_rfl) (by kernel_rfl) ?_
    refine lv (v := .bool true) rfl (r_pkT rfl rfl rfl) rfl ?_
    refine lv (v := .bool true) rfl (r_mv rfl rfl) rfl ?_
    with_reducible refine lx (d := 18) (by kernel_rfl) (by kernel_rfl) ?_
    with_reducible refine lx (d := 19) (by kernel_rfl) (by kernel_rfl) ?_
    with_reducible refine lx (d := 20) (by kernel_rfl) (by kernel_rfl) ?_
    with_reducible refine lx (d := 21) (by kernel_rfl) (by kernel_rfl) ?_
    refine lv (v := .bool true) rfl (r_pkT rfl rfl rfl) rfl ?_
    refine wend ?_
    refine wthen ?_
    refine wren (fun ρ15 eρ15 => ?_)
    have h16 : opd ρ15 52 (.tmp 5) = .pointer (some ⟨g8, 0 + 0, none⟩) := (eρ15 5).trans h13
    have h17 : opd ρ15 52 (.tmp 22) = .bool true := eρ15 22
    clear eρ15
    refine wcT h17 ?_
    refine wseq ?_
    refine wreg ?_
    refine lv (v := .bool true) rfl (r_as rfl rfl) rfl ?_
    refine wend ?_
    refine wthen ?_
    refine wren (fun ρ18 eρ18 => ?_)
    have h19 : opd ρ18 52 (.tmp 6) = .bool true := eρ18 6
    clear eρ18
    refine wp_ret ?_
    refine thR ?_
    obtain rfl := Option.some.inj hF
    subst hB
    refine finR (rs := [.tmp 6]) (vs := [.bool true]) rfl ⟨h19, trivial⟩ ?_
    exact hI.fin 0 ⟨rfl, rfl⟩
  · skip
    rw [if_neg hc14] at hF
    have hbhc14 : (decide ((20 : Int) < (a0.Members.length : Int))) = false := decide_eq_false hc14
    refine lv (v := .bool false) rfl (r_mv rfl ((show opd _ _ _ = _ from rfl).trans (congrArg Value.bool hbhc14))) rfl ?_
    refine lv (v := .agg (flat [ckI a1.Epoch, ckI a1.Height, ckV flB a1.Prev, ckV flB a1.State, ckV flB a1.Next, ckL s2]).toArray) rfl (r_cla (off := 0) (p := 0) (m := 6) (hI.good.ca 1 rfl) rfl ag69 h12 rfl rfl) rfl ?_
    obtain ⟨x20, hx20, hF⟩ := Option.bind_eq_some_iff.1 hF
    have hsp23 := spec_64 hx20 hT (hI.part 0) hs2
    refine fc ([]) ([.cb g4 [ckI a0.Epoch, ckL s1] 64, .cb g6 [ckI a1.Epoch, ckI a1.Height, ckV flB a1.Prev, ckV flB a1.State, ckV flB a1.Next, ckL s2] 69, .cb g8 [ckI a2.Round, ckL s3] 71]) (args := [.agg (flat [ckI a1.Epoch, ckI a1.Height, ckV flB a1.Prev, ckV flB a1.State, ckV flB a1.Next, ckL s2]).toArray, .int .i64 4096]) fc64 rfl rfl rfl hI (argc rfl (argc rfl rfl)) (hsp23) ?_
    rintro _ H21 _ w22 ⟨rfl, rfl⟩ hleH21 hI
    replace hI : Inv B w22 H21 [.cb g4 [ckI a0.Epoch, ckL s1] 64, .cb g6 [ckI a1.Epoch, ckI a1.Height, ckV flB a1.Prev, ckV flB a1.State, ckV flB a1.Next, ckL s2] 69, .cb g8 [ckI a2.Round, ckL s3] 71] := hI
    refine lv (v := .bool x20) rfl (r_pkF rfl rfl rfl) rfl ?_
    by_cases hc24 : x20 = true
    · skip
      rw [if_pos hc24] at hF
      have hbhc24 : x20 = true := hc24
      refine lv (v := .bool true) rfl (r_mv rfl ((show opd _ _ _ = _ from rfl).trans (congrArg Value.bool hbhc24))) rfl ?_
      with_reducible refine lx (d := 18) (by kernel_rfl) (by kernel_rfl) ?_
      with_reducible refine lx (d := 19) (by kernel_rfl) (by kernel_rfl) ?_
      with_reducible refine lx (d := 20) (by kernel_rfl) (by kernel_rfl) ?_
      with_reducible refine lx (d := 21) (by kernel_rfl) (by kernel_rfl) ?_
      refine lv (v := .bool true) rfl (r_pkT rfl rfl rfl) rfl ?_
      refine wend ?_
      refine wthen ?_
      refine wren (fun ρ25 eρ25 => ?_)
      have h26 : opd ρ25 52 (.tmp 5) = .pointer (some ⟨g8, 0 + 0, none⟩) := (eρ25 5).trans h13
      have h27 : opd ρ25 52 (.tmp 22) = .bool true := eρ25 22
      clear eρ25
      refine wcT h27 ?_
      refine wseq ?_
      refine wreg ?_
      refine lv (v := .bool true) rfl (r_as rfl rfl) rfl ?_
      refine wend ?_
      refine wthen ?_
      refine wren (fun ρ28 eρ28 => ?_)
      have h29 : opd ρ28 52 (.tmp 6) = .bool true := eρ28 6
      clear eρ28
      refine wp_ret ?_
      refine thR ?_
      obtain rfl := Option.some.inj hF
      subst hB
      refine finR (rs := [.tmp 6]) (vs := [.bool true]) rfl ⟨h29, trivial⟩ ?_
      exact hI.fin 0 ⟨rfl, rfl⟩
    · skip
      rw [if_neg hc24] at hF
      have hbhc24 : x20 = false := (Bool.eq_false_iff.2 hc24)
      refine lv (v := .bool false) rfl (r_mv rfl ((show opd _ _ _ = _ from rfl).trans (congrArg Value.bool hbhc24))) rfl ?_
      refine lv (v := .pointer (some ⟨g8, 0 + 1, none⟩)) rfl (l_fa (j := 0) (i := 0) rfl fl71_1 h13 rfl) rfl ?_
      refine lv (v := s3.v) rfl (r_cl1 (off := 1) (p := 1) (hI.good.ca 2 rfl) rfl sc22 rfl rfl rfl) rfl ?_
      refine lv (v := .int .i64 (a2.Votes.length : Int)) rfl (r_lenS rfl sl22 rfl (hs3.mono hleH21)) rfl ?_
      refine lv (v := .bool (decide ((12 : Int) < (a2.Votes.length : Int)))) rfl (r_gtr rfl rfl rfl rfl) rfl ?_
      refine lv (v := .bool (decide ((12 : Int) < (a2.Votes.length : Int)))) rfl (r_pkF rfl rfl rfl) rfl ?_
      refine wend ?_
      refine wthen ?_
      refine wren (fun ρ30 eρ30 => ?_)
      have h31 : opd ρ30 52 (.tmp 5) = .pointer (some ⟨g8, 0 + 0, none⟩) := (eρ30 5).trans h13
      have h32 : opd ρ30 52 (.tmp 22) = .bool (decide ((12 : Int) < (a2.Votes.length : Int))) := eρ30 22
      clear eρ30
      by_cases hc33 : (12 : Int) < (a2.Votes.length : Int)
      · skip
        rw [if_pos hc33] at hF
        have hbhc33 : (decide ((12 : Int) < (a2.Votes.length : Int))) = true := decide_eq_true hc33
        refine wcT (h32.trans (congrArg Value.bool hbhc33)) ?_
        refine wseq ?_
        refine wreg ?_
        refine lv (v := .bool true) rfl (r_as rfl rfl) rfl ?_
        refine wend ?_
        refine wthen ?_
        refine wren (fun ρ34 eρ34 => ?_)
        have h35 : opd ρ34 52 (.tmp 6) = .bool true := eρ34 6
        clear eρ34
        refine wp_ret ?_
        refine thR ?_
        obtain rfl := Option.some.inj hF
        subst hB
        refine finR (rs := [.tmp 6]) (vs := [.bool true]) rfl ⟨h35, trivial⟩ ?_
        exact hI.fin 0 ⟨rfl, rfl⟩
      · skip
        rw [if_neg hc33] at hF
        have hbhc33 : (decide ((12 : Int) < (a2.Votes.length : Int))) = false := decide_eq_false hc33
        refine wcF (h32.trans (congrArg Value.bool hbhc33)) ?_
        refine wp_skip ?_
        refine wthen ?_
        refine wseq ?_
        refine wseq ?_
        refine wreg ?_
        refine lv (v := .pointer (some ⟨g8, 0 + 1, none⟩)) rfl (l_fa (j := 0) (i := 0) rfl fl71_1 h31 rfl) rfl ?_
        refine lv (v := s3.v) rfl (r_cl1 (off := 1) (p := 1) (hI.good.ca 2 rfl) rfl sc22 rfl rfl rfl) rfl ?_
        refine lv (v := .int .i64 (a2.Votes.length : Int)) rfl (r_lenS rfl sl22 rfl (hs3.mono hleH21)) rfl ?_
        refine lv (v := .int .i64 0) rfl (r_mv rfl rfl) rfl ?_
        refine wend ?_
        refine wthen ?_
        refine wren (fun ρ36 eρ36 => ?_)
        have h37 : opd ρ36 52 (.tmp 24) = s3.v := eρ36 24
        have h38 : opd ρ36 52 (.tmp 25) = .int .i64 (a2.Votes.length : Int) := eρ36 25
        have h39 : opd ρ36 52 (.tmp 26) = .int .i64 0 := eρ36 26
        clear eρ36
        refine wp_block ?_
        have hbd40 := ((hs3.mono hleH21)).bd
        rw [((hs3.mono hleH21)).n] at hbd40
        obtain ⟨y40, hy40, hF40⟩ := Option.bind_eq_some_iff.1 hF
        refine wfor (n := 52) a2.Votes.length _ (fun (i40 : Nat) (σ40 : Unit) ρ' w' => ∃ (H90 : Hp), Hle H21 H90 ∧ opd ρ' 52 (.tmp 24) = s3.v ∧ opd ρ' 52 (.tmp 25) = .int .i64 (a2.Votes.length : Int) ∧ opd ρ' 52 (.tmp 26) = .int .i64 (i40 : Int) ∧ Inv B w' H90 []) hy40 ⟨H21, (Hle.refl _), h37, h38, h39, (hI.keep [false, false, false])⟩ ?_
        rintro k40 i40 σ40 ρ94 w95 hk40 ⟨H90, hleH90, h91, h92, h93, hI⟩ hy40
        refine wseq ?_
        refine wreg ?_
        refine lv (v := .bool (decide ((i40 : Int) < (a2.Votes.length : Int)))) rfl (r_lss rfl h93 h92 rfl) rfl ?_
        refine wend ?_
        refine wthen ?_
        refine wseq ?_
        by_cases hc96 : (i40 : Int) < (a2.Votes.length : Int)
        · skip
          have hbhc96 : (decide ((i40 : Int) < (a2.Votes.length : Int))) = true := decide_eq_true hc96
          obtain ⟨k40, rfl⟩ : ∃ m, k40 = m + 1 := ⟨k40 - 1, by omega⟩
          obtain ⟨z40, hb40⟩ := forK_body hy40
          have hF := hb40
          have hlt40 : ((i40 : Nat) : Int) + 1 ≤ 9223372036854775807 := by omega
          refine wcT ((show opd _ _ _ = _ from rfl).trans (congrArg Value.bool hbhc96)) ?_
          refine wp_skip ?_
          refine wthen ?_
          refine wren (fun ρ97 eρ97 => ?_)
          have h98 : opd ρ97 52 (.tmp 24) = s3.v := (eρ97 24).trans h91
          have h99 : opd ρ97 52 (.tmp 25) = .int .i64 (a2.Votes.length : Int) := (eρ97 25).trans h92
          have h100 : opd ρ97 52 (.tmp 26) = .int .i64 (i40 : Int) := (eρ97 26).trans h93
          clear eρ97
          refine wseq ?_
          refine wp_block ?_
          refine wseq ?_
          refine wreg ?_
          obtain ⟨x101, hx101, hF⟩ := Option.bind_eq_some_iff.1 hF
          obtain ⟨b102, j103, _, hix104, hil105, ⟨s107, s108, s109, rfl, hs107, hs108, hs109⟩, hA106⟩ := ((hs3.mono hleH21).mono hleH90).ix hx101
          replace hA106 : At H90 b102 j103 [ckI x101.Kind, ckI x101.Epoch, ckI x101.Height, ckI x101.Round, ckV flB x101.Digest, ckI x101.From, ckI x101.Sig.Leaf, ckL s107, ckL s108, ckL s109] := hA106
          refine lv (v := .pointer (some ⟨b102, j103 + 0, none⟩)) rfl (r_ixt rfl sl22 h98 h100 rfl hix104 hil105) rfl ?_
          refine lv (v := .agg (flat [ckI x101.Kind, ckI x101.Epoch, ckI x101.Height, ckI x101.Round, ckV flB x101.Digest, ckI x101.From, ckI x101.Sig.Leaf, ckL s107, ckL s108, ckL s109]).toArray) rfl (r_cla (off := 0) (p := 0) (m := 10) (hA106.ca hI.good) rfl ag35 rfl rfl rfl) rfl ?_
          refine le rfl (l_al hI rfl ze35) rfl ?_
          rintro _ w111 ⟨g110, rfl, hI⟩
          replace hI : Inv B w111 H90 [.cb g110 [ckI 0, ckI 0, ckI 0, ckI 0, ckV flB (Vec.rep 32 0), ckI 0, ckI 0, ckL Sv.nil, ckL Sv.nil, ckL Sv.nil] 35] := hI
          refine lst rfl (l_st (off := 0) (p := 0) (m := 10) (new := [ckI x101.Kind, ckI x101.Epoch, ckI x101.Height, ckI x101.Round, ckV flB x101.Digest, ckI x101.From, ckI x101.Sig.Leaf, ckL s107, ckL s108, ckL s109]) hI 0 rfl rfl sz35 rfl rfl rfl rfl rfl rfl) rfl ?_
          intro w112 hI
          replace hI : Inv B w112 H90 [.cb g110 [ckI x101.Kind, ckI x101.Epoch, ckI x101.Height, ckI x101.Round, ckV flB x101.Digest, ckI x101.From, ckI x101.Sig.Leaf, ckL s107, ckL s108, ckL s109] 35] := hI
          refine wend ?_
          refine wthen ?_
          refine wren (fun ρ113 eρ113 => ?_)
          have h114 : opd ρ113 52 (.tmp 8) = .pointer (some ⟨g110, 0 + 0, none⟩) := eρ113 8
          have h115 : opd ρ113 52 (.tmp 24) = s3.v := (eρ113 24).trans h98
          have h116 : opd ρ113 52 (.tmp 25) = .int .i64 (a2.Votes.length : Int) := (eρ113 25).trans h99
          have h117 : opd ρ113 52 (.tmp 26) = .int .i64 (i40 : Int) := (eρ113 26).trans h100
          clear eρ113
          refine wseq ?_
          refine wreg ?_
          refine lv (v := .pointer (some ⟨g110, 0 + 37, none⟩)) rfl (l_fa (j := 0) (i := 0) rfl fl35_6 h114 rfl) rfl ?_
          refine lv (v := .pointer (some ⟨g110, 0 + 38, none⟩)) rfl (l_fa (j := 0) (i := 37) rfl fl33_1 rfl rfl) rfl ?_
          refine lv (v := .pointer (some ⟨g110, 0 + 38, none⟩)) rfl (l_fa (j := 0) (i := 38) rfl fl31_0 rfl rfl) rfl ?_
          refine lv (v := s107.v) rfl (r_cl1 (off := 38) (p := 7) (hI.good.ca 0 rfl) rfl sc27 rfl rfl rfl) rfl ?_
          refine lv (v := .int .i64 (x101.Sig.Once.Open.length : Int)) rfl (r_lenS rfl sl27 rfl hs107) rfl ?_
          refine lv (v := .bool (decide ((200 : Int) < (x101.Sig.Once.Open.length : Int)))) rfl (r_gtr rfl rfl rfl rfl) rfl ?_
          by_cases hc118 : (200 : Int) < (x101.Sig.Once.Open.length : Int)
          · skip
            rw [if_pos hc118] at hF
            have hbhc118 : (decide ((200 : Int) < (x101.Sig.Once.Open.length : Int))) = true := decide_eq_true hc118
            refine lv (v := .bool true) rfl (r_mv rfl ((show opd _ _ _ = _ from rfl).trans (congrArg Value.bool hbhc118))) rfl ?_
            with_reducible refine lx (d := 37) (by kernel_rfl) (by kernel_rfl) ?_
            with_reducible refine lx (d := 38) (by kernel_rfl) (by kernel_rfl) ?_
            with_reducible refine lx (d := 39) (by kernel_rfl) (by kernel_rfl) ?_
            with_reducible refine lx (d := 40) (by kernel_rfl) (by kernel_rfl) ?_
            with_reducible refine lx (d := 41) (by kernel_rfl) (by kernel_rfl) ?_
            with_reducible refine lx (d := 42) (by kernel_rfl) (by kernel_rfl) ?_
            refine lv (v := .bool true) rfl (r_pkT rfl rfl rfl) rfl ?_
            refine lv (v := .bool true) rfl (r_mv rfl rfl) rfl ?_
            with_reducible refine lx (d := 45) (by kernel_rfl) (by kernel_rfl) ?_
            with_reducible refine lx (d := 46) (by kernel_rfl) (by kernel_rfl) ?_
            with_reducible refine lx (d := 47) (by kernel_rfl) (by kernel_rfl) ?_
            with_reducible refine lx (d := 48) (by kernel_rfl) (by kernel_rfl) ?_
            with_reducible refine lx (d := 49) (by kernel_rfl) (by kernel_rfl) ?_
            refine lv (v := .bool true) rfl (r_pkT rfl rfl rfl) rfl ?_
            refine wend ?_
            refine wthen ?_
            refine wren (fun ρ119 eρ119 => ?_)
            have h120 : opd ρ119 52 (.tmp 24) = s3.v := (eρ119 24).trans h115
            have h121 : opd ρ119 52 (.tmp 25) = .int .i64 (a2.Votes.length : Int) := (eρ119 25).trans h116
            have h122 : opd ρ119 52 (.tmp 26) = .int .i64 (i40 : Int) := (eρ119 26).trans h117
            have h123 : opd ρ119 52 (.tmp 50) = .bool true := eρ119 50
            clear eρ119
            refine wcT h123 ?_
            refine wseq ?_
            refine wreg ?_
            refine lv (v := .bool true) rfl (r_as rfl rfl) rfl ?_
            refine wend ?_
            refine wthen ?_
            refine wren (fun ρ124 eρ124 => ?_)
            have h125 : opd ρ124 52 (.tmp 6) = .bool true := eρ124 6
            clear eρ124
            refine wp_ret ?_
            refine inR ?_
            refine thR ?_
            refine thR ?_
            obtain ⟨q126, hFn, hzq126⟩ := Option.map_eq_some_iff.1 hF
            clear hF
            obtain rfl := forK_inr hy40 (hb40.trans (congrArg some hzq126.symm))
            have hF0 := hF40
            try dsimp only at hF0
            have hF := hFn.trans hF0
            clear hFn hF0
            refine inR ?_
            refine thR ?_
            obtain rfl := Option.some.inj hF
            subst hB
            refine finR (rs := [.tmp 6]) (vs := [.bool true]) rfl ⟨h125, trivial⟩ ?_
            exact hI.fin 0 ⟨rfl, rfl⟩
          · skip
            rw [if_neg hc118] at hF
            have hbhc118 : (decide ((200 : Int) < (x101.Sig.Once.Open.length : Int))) = false := decide_eq_false hc118
            refine lv (v := .bool false) rfl (r_mv rfl ((show opd _ _ _ = _ from rfl).trans (congrArg Value.bool hbhc118))) rfl ?_
            refine lv (v := .pointer (some ⟨g110, 0 + 37, none⟩)) rfl (l_fa (j := 0) (i := 0) rfl fl35_6 h114 rfl) rfl ?_
            refine lv (v := .pointer (some ⟨g110, 0 + 38, none⟩)) rfl (l_fa (j := 0) (i := 37) rfl fl33_1 rfl rfl) rfl ?_
            refine lv (v := .pointer (some ⟨g110, 0 + 39, none⟩)) rfl (l_fa (j := 0) (i := 38) rfl fl31_1 rfl rfl) rfl ?_
            refine lv (v := s108.v) rfl (r_cl1 (off := 39) (p := 8) (hI.good.ca 0 rfl) rfl sc27 rfl rfl rfl) rfl ?_
            refine lv (v := .int .i64 (x101.Sig.Once.Shut.length : Int)) rfl (r_lenS rfl sl27 rfl hs108) rfl ?_
            refine lv (v := .bool (decide ((200 : Int) < (x101.Sig.Once.Shut.length : Int)))) rfl (r_gtr rfl rfl rfl rfl) rfl ?_
            refine lv (v := .bool (decide ((200 : Int) < (x101.Sig.Once.Shut.length : Int)))) rfl (r_pkF rfl rfl rfl) rfl ?_
            by_cases hc127 : (200 : Int) < (x101.Sig.Once.Shut.length : Int)
            · skip
              rw [if_pos hc127] at hF
              have hbhc127 : (decide ((200 : Int) < (x101.Sig.Once.Shut.length : Int))) = true := decide_eq_true hc127
              refine lv (v := .bool true) rfl (r_mv rfl ((show opd _ _ _ = _ from rfl).trans (congrArg Value.bool hbhc127))) rfl ?_
              with_reducible refine lx (d := 45) (by kernel_rfl) (by kernel_rfl) ?_
              with_reducible refine lx (d := 46) (by kernel_rfl) (by kernel_rfl) ?_
              with_reducible refine lx (d := 47) (by kernel_rfl) (by kernel_rfl) ?_
              with_reducible refine lx (d := 48) (by kernel_rfl) (by kernel_rfl) ?_
              with_reducible refine lx (d := 49) (by kernel_rfl) (by kernel_rfl) ?_
              refine lv (v := .bool true) rfl (r_pkT rfl rfl rfl) rfl ?_
              refine wend ?_
              refine wthen ?_
              refine wren (fun ρ128 eρ128 => ?_)
              have h129 : opd ρ128 52 (.tmp 24) = s3.v := (eρ128 24).trans h115
              have h130 : opd ρ128 52 (.tmp 25) = .int .i64 (a2.Votes.length : Int) := (eρ128 25).trans h116
              have h131 : opd ρ128 52 (.tmp 26) = .int .i64 (i40 : Int) := (eρ128 26).trans h117
              have h132 : opd ρ128 52 (.tmp 50) = .bool true := eρ128 50
              clear eρ128
              refine wcT h132 ?_
              refine wseq ?_
              refine wreg ?_
              refine lv (v := .bool true) rfl (r_as rfl rfl) rfl ?_
              refine wend ?_
              refine wthen ?_
              refine wren (fun ρ133 eρ133 => ?_)
              have h134 : opd ρ133 52 (.tmp 6) = .bool true := eρ133 6
              clear eρ133
              refine wp_ret ?_
              refine inR ?_
              refine thR ?_
              refine thR ?_
              obtain ⟨q135, hFn, hzq135⟩ := Option.map_eq_some_iff.1 hF
              clear hF
              obtain rfl := forK_inr hy40 (hb40.trans (congrArg some hzq135.symm))
              have hF0 := hF40
              try dsimp only at hF0
              have hF := hFn.trans hF0
              clear hFn hF0
              refine inR ?_
              refine thR ?_
              obtain rfl := Option.some.inj hF
              subst hB
              refine finR (rs := [.tmp 6]) (vs := [.bool true]) rfl ⟨h134, trivial⟩ ?_
              exact hI.fin 0 ⟨rfl, rfl⟩
            · skip
              rw [if_neg hc127] at hF
              have hbhc127 : (decide ((200 : Int) < (x101.Sig.Once.Shut.length : Int))) = false := decide_eq_false hc127
              refine lv (v := .bool false) rfl (r_mv rfl ((show opd _ _ _ = _ from rfl).trans (congrArg Value.bool hbhc127))) rfl ?_
              refine lv (v := .pointer (some ⟨g110, 0 + 37, none⟩)) rfl (l_fa (j := 0) (i := 0) rfl fl35_6 h114 rfl) rfl ?_
              refine lv (v := .pointer (some ⟨g110, 0 + 40, none⟩)) rfl (l_fa (j := 0) (i := 37) rfl fl33_2 rfl rfl) rfl ?_
              refine lv (v := s109.v) rfl (r_cl1 (off := 40) (p := 9) (hI.good.ca 0 rfl) rfl sc27 rfl rfl rfl) rfl ?_
              refine lv (v := .int .i64 (x101.Sig.Path.length : Int)) rfl (r_lenS rfl sl27 rfl hs109) rfl ?_
              refine lv (v := .bool (decide ((200 : Int) < (x101.Sig.Path.length : Int)))) rfl (r_gtr rfl rfl rfl rfl) rfl ?_
              refine lv (v := .bool (decide ((200 : Int) < (x101.Sig.Path.length : Int)))) rfl (r_pkF rfl rfl rfl) rfl ?_
              refine wend ?_
              refine wthen ?_
              refine wren (fun ρ136 eρ136 => ?_)
              have h137 : opd ρ136 52 (.tmp 24) = s3.v := (eρ136 24).trans h115
              have h138 : opd ρ136 52 (.tmp 25) = .int .i64 (a2.Votes.length : Int) := (eρ136 25).trans h116
              have h139 : opd ρ136 52 (.tmp 26) = .int .i64 (i40 : Int) := (eρ136 26).trans h117
              have h140 : opd ρ136 52 (.tmp 50) = .bool (decide ((200 : Int) < (x101.Sig.Path.length : Int))) := eρ136 50
              clear eρ136
              by_cases hc141 : (200 : Int) < (x101.Sig.Path.length : Int)
              · skip
                rw [if_pos hc141] at hF
                have hbhc141 : (decide ((200 : Int) < (x101.Sig.Path.length : Int))) = true := decide_eq_true hc141
                refine wcT (h140.trans (congrArg Value.bool hbhc141)) ?_
                refine wseq ?_
                refine wreg ?_
                refine lv (v := .bool true) rfl (r_as rfl rfl) rfl ?_
                refine wend ?_
                refine wthen ?_
                refine wren (fun ρ142 eρ142 => ?_)
                have h143 : opd ρ142 52 (.tmp 6) = .bool true := eρ142 6
                clear eρ142
                refine wp_ret ?_
                refine inR ?_
                refine thR ?_
                refine thR ?_
                obtain ⟨q144, hFn, hzq144⟩ := Option.map_eq_some_iff.1 hF
                clear hF
                obtain rfl := forK_inr hy40 (hb40.trans (congrArg some hzq144.symm))
                have hF0 := hF40
                try dsimp only at hF0
                have hF := hFn.trans hF0
                clear hFn hF0
                refine inR ?_
                refine thR ?_
                obtain rfl := Option.some.inj hF
                subst hB
                refine finR (rs := [.tmp 6]) (vs := [.bool true]) rfl ⟨h143, trivial⟩ ?_
                exact hI.fin 0 ⟨rfl, rfl⟩
              · skip
                rw [if_neg hc141] at hF
                have hbhc141 : (decide ((200 : Int) < (x101.Sig.Path.length : Int))) = false := decide_eq_false hc141
                refine wcF (h140.trans (congrArg Value.bool hbhc141)) ?_
                refine wp_skip ?_
                refine inN ?_
                refine wthen ?_
                refine wreg ?_
                refine lv (v := .int .i64 ((i40 + 1 : Nat) : Int)) rfl (r_addn rfl h139 rfl hlt40) rfl ?_
                refine lv (v := .int .i64 ((i40 + 1 : Nat) : Int)) rfl (r_mv rfl rfl) rfl ?_
                refine wend ?_
                obtain rfl := Option.some.inj hF
                exact ⟨k40, (), _, rfl, rfl, ⟨H90, hleH90, h137, h138, rfl, (hI.keep [false])⟩, forK_inl hy40 hb40⟩
        · skip
          have hbhc96 : (decide ((i40 : Int) < (a2.Votes.length : Int))) = false := decide_eq_false hc96
          obtain rfl : k40 = 0 := by omega
          obtain rfl := forK_end hy40
          have hF := hF40
          try dsimp only at hF
          refine wcF ((show opd _ _ _ = _ from rfl).trans (congrArg Value.bool hbhc96)) ?_
          refine wp_exit ?_
          refine thE ?_
          refine thE ?_
          refine inX ?_
          refine wthen ?_
          refine wren (fun ρ145 eρ145 => ?_)
          clear eρ145
          refine wseq ?_
          refine wreg ?_
          refine lv (v := .bool false) rfl (r_as rfl rfl) rfl ?_
          refine wend ?_
          refine wthen ?_
          refine wren (fun ρ146 eρ146 => ?_)
          have h147 : opd ρ146 52 (.tmp 6) = .bool false := eρ146 6
          clear eρ146
          refine wp_ret ?_
          obtain rfl := Option.some.inj hF
          subst hB
          refine finR (rs := [.tmp 6]) (vs := [.bool false]) rfl ⟨h147, trivial⟩ ?_
          exact hI.fin 0 ⟨rfl, rfl⟩
noncomputable def M_wapentakeref08_Faults (a0 : Int) : Option (Int) := (runL (fun (σ6 : Int) => ((if (wI ((wI ((3 : Int) * (wI (σ6 + 1)))) + 1)) ≤ a0 then some (.inl (wI (σ6 + 1))) else ((some σ6).map Sum.inr)) : Option (Int ⊕ Int))) 0)
set_option maxHeartbeats 1000000 in
theorem spec_92 {w : World} {H : Hp} {a0 : Int}  {r : Int} (hF : M_wapentakeref08_Faults a0 = some r) (hT : Tab H) (hG : Good w H [])  :
    Fine Tryd.prog 92 [.int .i64 a0] w H [] (fun H' v L' => v = .int .i64 r ∧ L' = []) := by
  unfold M_wapentakeref08_Faults at hF
  unfold Fine
  obtain ⟨B, hB⟩ : ∃ B : Base, B = ⟨w, H, blks []⟩ := ⟨_, rfl⟩
  have hI : Inv B w H [] := by rw [hB]; exact Inv.start hG
  refine enter (n := 13) (args := [.int .i64 a0]) Tryd.func92 rfl Tryd.ntmps92 (Nat.le_of_ble_eq_true rfl) ?_
  refine wseq ?_
  refine wreg ?_
  refine lv (v := .int .i64 0) rfl (r_as rfl rfl) rfl ?_
  refine wend ?_
  refine wthen ?_
  refine wren (fun ρ1 eρ1 => ?_)
  have h2 : opd ρ1 13 (.tmp 0) = .int .i64 a0 := eρ1 0
  clear eρ1
  refine wseq ?_
  refine wreg ?_
  refine lv (v := .int .i64 0) rfl (r_as rfl rfl) rfl ?_
  refine wend ?_
  refine wthen ?_
  refine wren (fun ρ3 eρ3 => ?_)
  have h4 : opd ρ3 13 (.tmp 0) = .int .i64 a0 := (eρ3 0).trans h2
  have h5 : opd ρ3 13 (.tmp 3) = .int .i64 0 := eρ3 3
  clear eρ3
  refine wseq ?_
  refine wp_block ?_
  refine wrun (n := 13) _ (fun (σ6 : Int) ρ' w' => ∃ (H19 : Hp), Hle H H19 ∧ opd ρ' 13 (.tmp 0) = .int .i64 a0 ∧ opd ρ' 13 (.tmp 3) = .int .i64 σ6 ∧ Inv B w' H19 []) hF ⟨H, (Hle.refl _), h4, h5, hI⟩ ?_
  rintro k6 σ6 ρ22 w23 ⟨H19, hleH19, h20, h21, hI⟩ hy6
  obtain ⟨z6, hb6⟩ := iterK_body hy6
  have hF := hb6
  refine wseq ?_
  refine wseq ?_
  refine wreg ?_
  refine lv (v := .int .i64 σ6) rfl (r_mv rfl h21) rfl ?_
  refine lv (v := .int .i64 (wI (σ6 + 1))) rfl (r_addw rfl rfl rfl) rfl ?_
  refine lv (v := .int .i64 (wI ((3 : Int) * (wI (σ6 + 1))))) rfl (r_mulw rfl rfl rfl) rfl ?_
  refine lv (v := .int .i64 (wI ((wI ((3 : Int) * (wI (σ6 + 1)))) + 1))) rfl (r_addw rfl rfl rfl) rfl ?_
  refine lv (v := .int .i64 a0) rfl (r_mv rfl h20) rfl ?_
  refine lv (v := .bool (decide ((wI ((wI ((3 : Int) * (wI (σ6 + 1)))) + 1)) ≤ a0))) rfl (r_leq rfl rfl rfl rfl) rfl ?_
  refine wend ?_
  refine wthen ?_
  refine wren (fun ρ24 eρ24 => ?_)
  have h25 : opd ρ24 13 (.tmp 0) = .int .i64 a0 := (eρ24 0).trans h20
  have h26 : opd ρ24 13 (.tmp 3) = .int .i64 σ6 := (eρ24 3).trans h21
  have h27 : opd ρ24 13 (.tmp 9) = .bool (decide ((wI ((wI ((3 : Int) * (wI (σ6 + 1)))) + 1)) ≤ a0)) := eρ24 9
  clear eρ24
  by_cases hc28 : (wI ((wI ((3 : Int) * (wI (σ6 + 1)))) + 1)) ≤ a0
  · skip
    rw [if_pos hc28] at hF
    have hbhc28 : (decide ((wI ((wI ((3 : Int) * (wI (σ6 + 1)))) + 1)) ≤ a0)) = true := decide_eq_true hc28
    refine wcT (h27.trans (congrArg Value.bool hbhc28)) ?_
    refine wp_skip ?_
    refine wthen ?_
    refine wp_block ?_
    refine wreg ?_
    refine lv (v := .int .i64 σ6) rfl (r_mv rfl h26) rfl ?_
    refine lv (v := .int .i64 (wI (σ6 + 1))) rfl (r_addw rfl rfl rfl) rfl ?_
    refine lv (v := .int .i64 (wI (σ6 + 1))) rfl (r_as rfl rfl) rfl ?_
    refine wend ?_
    refine inN ?_
    obtain rfl := Option.some.inj hF
    exact ⟨(wI (σ6 + 1)), _, rfl, ⟨H19, hleH19, h25, rfl, hI⟩, iterK_inl hy6 hb6⟩
  · skip
    rw [if_neg hc28] at hF
    have hbhc28 : (decide ((wI ((wI ((3 : Int) * (wI (σ6 + 1)))) + 1)) ≤ a0)) = false := decide_eq_false hc28
    refine wcF (h27.trans (congrArg Value.bool hbhc28)) ?_
    refine wp_exit ?_
    refine thE ?_
    refine thE ?_
    obtain ⟨q29, hFn, hzq29⟩ := Option.map_eq_some_iff.1 hF
    clear hF
    have hy0 := iterK_inr hy6 (hb6.trans (congrArg some hzq29.symm))
    rw [← hy0] at hFn
    have hF := hFn
    clear hFn
    refine inX ?_
    refine wthen ?_
    refine wseq ?_
    refine wreg ?_
    refine lv (v := .int .i64 σ6) rfl (r_mv rfl h26) rfl ?_
    refine lv (v := .int .i64 σ6) rfl (r_as rfl rfl) rfl ?_
    refine wend ?_
    refine wthen ?_
    refine wren (fun ρ30 eρ30 => ?_)
    have h31 : opd ρ30 13 (.tmp 2) = .int .i64 σ6 := eρ30 2
    clear eρ30
    refine wp_ret ?_
    obtain rfl := Option.some.inj hF
    subst hB
    refine finR (rs := [.tmp 2]) (vs := [.int .i64 σ6]) rfl ⟨h31, trivial⟩ ?_
    exact hI.fin 0 ⟨rfl, rfl⟩
noncomputable def M_wapentakeref08_Quorum (a0 : Int) : Option (Int) := (runL (fun (σ6 : Int) => (((M_wapentakeref08_Faults a0).bind fun x32 => (if (wI ((2 : Int) * σ6)) ≤ (wI (a0 + x32)) then some (.inl (wI (σ6 + 1))) else ((some σ6).map Sum.inr))) : Option (Int ⊕ Int))) 0)
set_option maxHeartbeats 1000000 in
theorem spec_48 {w : World} {H : Hp} {a0 : Int}  {r : Int} (hF : M_wapentakeref08_Quorum a0 = some r) (hT : Tab H) (hG : Good w H [])  :
    Fine Tryd.prog 48 [.int .i64 a0] w H [] (fun H' v L' => v = .int .i64 r ∧ L' = []) := by
  unfold M_wapentakeref08_Quorum at hF
  unfold Fine
  obtain ⟨B, hB⟩ : ∃ B : Base, B = ⟨w, H, blks []⟩ := ⟨_, rfl⟩
  have hI : Inv B w H [] := by rw [hB]; exact Inv.start hG
  refine enter (n := 14) (args := [.int .i64 a0]) Tryd.func48 rfl Tryd.ntmps48 (Nat.le_of_ble_eq_true rfl) ?_
  refine wseq ?_
  refine wreg ?_
  refine lv (v := .int .i64 0) rfl (r_as rfl rfl) rfl ?_
  refine wend ?_
  refine wthen ?_
  refine wren (fun ρ1 eρ1 => ?_)
  have h2 : opd ρ1 14 (.tmp 0) = .int .i64 a0 := eρ1 0
  clear eρ1
  refine wseq ?_
  refine wreg ?_
  refine lv (v := .int .i64 0) rfl (r_as rfl rfl) rfl ?_
  refine wend ?_
  refine wthen ?_
  refine wren (fun ρ3 eρ3 => ?_)
  have h4 : opd ρ3 14 (.tmp 0) = .int .i64 a0 := (eρ3 0).trans h2
  have h5 : opd ρ3 14 (.tmp 3) = .int .i64 0 := eρ3 3
  clear eρ3
  refine wseq ?_
  refine wp_block ?_
  refine wrun (n := 14) _ (fun (σ6 : Int) ρ' w' => ∃ (H27 : Hp), Hle H H27 ∧ opd ρ' 14 (.tmp 0) = .int .i64 a0 ∧ opd ρ' 14 (.tmp 3) = .int .i64 σ6 ∧ Inv B w' H27 []) hF ⟨H, (Hle.refl _), h4, h5, hI⟩ ?_
  rintro k6 σ6 ρ30 w31 ⟨H27, hleH27, h28, h29, hI⟩ hy6
  obtain ⟨z6, hb6⟩ := iterK_body hy6
  have hF := hb6
  refine wseq ?_
  refine wseq ?_
  refine wreg ?_
  refine lv (v := .int .i64 σ6) rfl (r_mv rfl h29) rfl ?_
  refine lv (v := .int .i64 (wI ((2 : Int) * σ6))) rfl (r_mulw rfl rfl rfl) rfl ?_
  refine lv (v := .int .i64 a0) rfl (r_mv rfl h28) rfl ?_
  refine lv (v := .int .i64 a0) rfl (r_mv rfl h28) rfl ?_
  obtain ⟨x32, hx32, hF⟩ := Option.bind_eq_some_iff.1 hF
  have hsp35 := spec_92 hx32 (hT.mono hleH27) (hI.part 0) 
  refine fc ([]) ([]) (args := [.int .i64 a0]) fc92 rfl rfl rfl hI (argc rfl rfl) (hsp35) ?_
  rintro _ H33 _ w34 ⟨rfl, rfl⟩ hleH33 hI
  replace hI : Inv B w34 H33 [] := hI
  refine lv (v := .int .i64 (wI (a0 + x32))) rfl (r_addw rfl rfl rfl) rfl ?_
  refine lv (v := .bool (decide ((wI ((2 : Int) * σ6)) ≤ (wI (a0 + x32))))) rfl (r_leq rfl rfl rfl rfl) rfl ?_
  refine wend ?_
  refine wthen ?_
  refine wren (fun ρ36 eρ36 => ?_)
  have h37 : opd ρ36 14 (.tmp 0) = .int .i64 a0 := (eρ36 0).trans h28
  have h38 : opd ρ36 14 (.tmp 3) = .int .i64 σ6 := (eρ36 3).trans h29
  have h39 : opd ρ36 14 (.tmp 10) = .bool (decide ((wI ((2 : Int) * σ6)) ≤ (wI (a0 + x32)))) := eρ36 10
  clear eρ36
  by_cases hc40 : (wI ((2 : Int) * σ6)) ≤ (wI (a0 + x32))
  · skip
    rw [if_pos hc40] at hF
    have hbhc40 : (decide ((wI ((2 : Int) * σ6)) ≤ (wI (a0 + x32)))) = true := decide_eq_true hc40
    refine wcT (h39.trans (congrArg Value.bool hbhc40)) ?_
    refine wp_skip ?_
    refine wthen ?_
    refine wp_block ?_
    refine wreg ?_
    refine lv (v := .int .i64 σ6) rfl (r_mv rfl h38) rfl ?_
    refine lv (v := .int .i64 (wI (σ6 + 1))) rfl (r_addw rfl rfl rfl) rfl ?_
    refine lv (v := .int .i64 (wI (σ6 + 1))) rfl (r_as rfl rfl) rfl ?_
    refine wend ?_
    refine inN ?_
    obtain rfl := Option.some.inj hF
    exact ⟨(wI (σ6 + 1)), _, rfl, ⟨H33, (hleH27.trans hleH33), h37, rfl, hI⟩, iterK_inl hy6 hb6⟩
  · skip
    rw [if_neg hc40] at hF
    have hbhc40 : (decide ((wI ((2 : Int) * σ6)) ≤ (wI (a0 + x32)))) = false := decide_eq_false hc40
    refine wcF (h39.trans (congrArg Value.bool hbhc40)) ?_
    refine wp_exit ?_
    refine thE ?_
    refine thE ?_
    obtain ⟨q41, hFn, hzq41⟩ := Option.map_eq_some_iff.1 hF
    clear hF
    have hy0 := iterK_inr hy6 (hb6.trans (congrArg some hzq41.symm))
    rw [← hy0] at hFn
    have hF := hFn
    clear hFn
    refine inX ?_
    refine wthen ?_
    refine wseq ?_
    refine wreg ?_
    refine lv (v := .int .i64 σ6) rfl (r_mv rfl h38) rfl ?_
    refine lv (v := .int .i64 σ6) rfl (r_as rfl rfl) rfl ?_
    refine wend ?_
    refine wthen ?_
    refine wren (fun ρ42 eρ42 => ?_)
    have h43 : opd ρ42 14 (.tmp 2) = .int .i64 σ6 := eρ42 2
    clear eρ42
    refine wp_ret ?_
    obtain rfl := Option.some.inj hF
    subst hB
    refine finR (rs := [.tmp 2]) (vs := [.int .i64 σ6]) rfl ⟨h43, trivial⟩ ?_
    exact hI.fin 0 ⟨rfl, rfl⟩
end Go.Proofs.YtdebnncpclodcaaDoor.X
