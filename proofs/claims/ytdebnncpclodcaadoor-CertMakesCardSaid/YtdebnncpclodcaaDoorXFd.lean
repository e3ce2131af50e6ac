/-
  Functions of the program: what each computes, and its walk. No condition beyond those that the lemmas name.
-/
import Derived.Test.YtdebnncpclodcaaDoorXPT
import Derived.Test.YtdebnncpclodcaaDoorXFa
import Derived.Test.YtdebnncpclodcaaDoorXFc
import Derived.Test.YtdebnncpclodcaaDoorXFb
set_option linter.unusedSimpArgs false
set_option linter.unusedVariables false
set_option maxRecDepth 10000
namespace Go.Proofs.YtdebnncpclodcaaDoor.X
open Go.RowKit Go.Proofs.YtdebnncpclodcaaDoorW.PrintLast
noncomputable def M_once_Sign (a0 : Vec UInt8 32) (a1 : Int) (a2 : Vec UInt8 32) : Option (Once) := ((forK (fun (i27 : Nat) (σ27 : (List (Vec UInt8 32)) × (List (Vec UInt8 32))) => (((M_once_bit a2 (i27 : Int)).bind fun x337 => ((M_once_secret a0 a1 (i27 : Int) x337).bind fun x351 => ((appI 32 σ27.1 [x351]).bind fun x358 => ((M_once_secret a0 a1 (i27 : Int) (wI ((1 : Int) - x337))).bind fun x374 => ((M_once_shut x374).bind fun x378 => ((appI 32 σ27.2 [x378]).bind fun x385 => some (.inl (x358, x385)))))))) : Option (((List (Vec UInt8 32)) × (List (Vec UInt8 32))) ⊕ Once))) 32 0 ([], [])).bind fun y => match y with | .inl σ27 => some (⟨σ27.1, σ27.2⟩ : Once) | .inr r => some r)
set_option maxHeartbeats 4000000 in
theorem spec_97 {w : World} {H : Hp} {a0 : Vec UInt8 32} {a1 : Int} {a2 : Vec UInt8 32}  {r : Once} (hF : M_once_Sign a0 a1 a2 = some r) (hT : Tab H) (hG : Good w H [])  :
    Fine Tryd.prog 97 [.agg (flat [ckV flB a0]).toArray, .int .i64 a1, .agg (flat [ckV flB a2]).toArray] w H [] (fun H' v L' => ∃ s900 : Sv, ∃ s901 : Sv, v = .agg (flat [ckL s900, ckL s901]).toArray ∧ Sl (Fl.ty (flV flB 32)) H' s900 r.Open ∧ Sl (Fl.ty (flV flB 32)) H' s901 r.Shut ∧ L' = []) := by
  unfold M_once_Sign at hF
  unfold Fine
  obtain ⟨B, hB⟩ : ∃ B : Base, B = ⟨w, H, blks []⟩ := ⟨_, rfl⟩
  have hI : Inv B w H [] := by rw [hB]; exact Inv.start hG
  refine enter (n := 40) (args := [.agg (flat [ckV flB a0]).toArray, .int .i64 a1, .agg (flat [ckV flB a2]).toArray]) Tryd.func97 rfl Tryd.ntmps97 (Nat.le_of_ble_eq_true rfl) ?_
  refine wseq ?_
  refine wreg ?_
  refine le rfl (l_box (cks := [ckV flB a0]) hI rfl rfl rfl) rfl ?_
  rintro _ w2 ⟨g1, rfl, hI⟩
  replace hI : Inv B w2 H [.cb g1 [ckV flB a0] 29] := hI
  refine le rfl (l_box (cks := [ckV flB a2]) hI rfl rfl rfl) rfl ?_
  rintro _ w4 ⟨g3, rfl, hI⟩
  replace hI : Inv B w4 H [.cb g1 [ckV flB a0] 29, .cb g3 [ckV flB a2] 29] := hI
  refine le rfl (l_al hI rfl ze31) rfl ?_
  rintro _ w6 ⟨g5, rfl, hI⟩
  replace hI : Inv B w6 H [.cb g1 [ckV flB a0] 29, .cb g3 [ckV flB a2] 29, .cb g5 [ckL Sv.nil, ckL Sv.nil] 31] := hI
  refine wend ?_
  refine wthen ?_
  refine wren (fun ρ7 eρ7 => ?_)
  have h8 : opd ρ7 40 (.tmp 1) = .int .i64 a1 := eρ7 1
  have h9 : opd ρ7 40 (.tmp 3) = .pointer (some ⟨g1, 0 + 0, none⟩) := eρ7 3
  have h10 : opd ρ7 40 (.tmp 5) = .pointer (some ⟨g3, 0 + 0, none⟩) := eρ7 5
  have h11 : opd ρ7 40 (.tmp 6) = .pointer (some ⟨g5, 0 + 0, none⟩) := eρ7 6
  clear eρ7
  refine wseq ?_
  refine wreg ?_
  refine le rfl (l_al hI rfl ze31) rfl ?_
  rintro _ w13 ⟨g12, rfl, hI⟩
  replace hI : Inv B w13 H [.cb g1 [ckV flB a0] 29, .cb g3 [ckV flB a2] 29, .cb g5 [ckL Sv.nil, ckL Sv.nil] 31, .cb g12 [ckL Sv.nil, ckL Sv.nil] 31] := hI
  refine wend ?_
  refine wthen ?_
  refine wren (fun ρ14 eρ14 => ?_)
  have h15 : opd ρ14 40 (.tmp 1) = .int .i64 a1 := (eρ14 1).trans h8
  have h16 : opd ρ14 40 (.tmp 3) = .pointer (some ⟨g1, 0 + 0, none⟩) := (eρ14 3).trans h9
  have h17 : opd ρ14 40 (.tmp 5) = .pointer (some ⟨g3, 0 + 0, none⟩) := (eρ14 5).trans h10
  have h18 : opd ρ14 40 (.tmp 6) = .pointer (some ⟨g5, 0 + 0, none⟩) := (eρ14 6).trans h11
  have h19 : opd ρ14 40 (.tmp 7) = .pointer (some ⟨g12, 0 + 0, none⟩) := eρ14 7
  clear eρ14
  refine wseq ?_
  refine wseq ?_
  refine wreg ?_
  refine lv (v := .int .i64 0) rfl (r_mv rfl rfl) rfl ?_
  refine wend ?_
  refine wthen ?_
  refine wren (fun ρ20 eρ20 => ?_)
  have h21 : opd ρ20 40 (.tmp 1) = .int .i64 a1 := (eρ20 1).trans h15
  have h22 : opd ρ20 40 (.tmp 3) = .pointer (some ⟨g1, 0 + 0, none⟩) := (eρ20 3).trans h16
  have h23 : opd ρ20 40 (.tmp 5) = .pointer (some ⟨g3, 0 + 0, none⟩) := (eρ20 5).trans h17
  have h24 : opd ρ20 40 (.tmp 6) = .pointer (some ⟨g5, 0 + 0, none⟩) := (eρ20 6).trans h18
  have h25 : opd ρ20 40 (.tmp 7) = .pointer (some ⟨g12, 0 + 0, none⟩) := (eρ20 7).trans h19
  have h26 : opd ρ20 40 (.tmp 10) = .int .i64 0 := eρ20 10
  clear eρ20
  refine wp_block ?_
  replace hI := Inv.full (e := 29) (sz := 32) hI (show Sv.nil.n = Sv.nil.c from rfl)
  replace hI : Inv B w13 H [.cb g1 [ckV flB a0] 29, .cb g3 [ckV flB a2] 29, .cb g5 [ckL Sv.nil, ckL Sv.nil] 31, .cb g12 [ckL Sv.nil, ckL Sv.nil] 31, .own Sv.nil 29 32 none] := hI
  replace hI := Inv.full (e := 29) (sz := 32) hI (show Sv.nil.n = Sv.nil.c from rfl)
  replace hI : Inv B w13 H [.cb g1 [ckV flB a0] 29, .cb g3 [ckV flB a2] 29, .cb g5 [ckL Sv.nil, ckL Sv.nil] 31, .cb g12 [ckL Sv.nil, ckL Sv.nil] 31, .own Sv.nil 29 32 none, .own Sv.nil 29 32 none] := hI
  obtain ⟨y27, hy27, hF27⟩ := Option.bind_eq_some_iff.1 hF
  refine wfor (n := 40) 32 _ (fun (i27 : Nat) (σ27 : (List (Vec UInt8 32)) × (List (Vec UInt8 32))) ρ' w' => ∃ (H312 : Hp) (s308 s309 : Sv) (gg310 gg311 : Option Nat), Hle H H312 ∧ opd ρ' 40 (.tmp 1) = .int .i64 a1 ∧ opd ρ' 40 (.tmp 3) = .pointer (some ⟨g1, 0 + 0, none⟩) ∧ opd ρ' 40 (.tmp 5) = .pointer (some ⟨g3, 0 + 0, none⟩) ∧ opd ρ' 40 (.tmp 6) = .pointer (some ⟨g5, 0 + 0, none⟩) ∧ opd ρ' 40 (.tmp 7) = .pointer (some ⟨g12, 0 + 0, none⟩) ∧ opd ρ' 40 (.tmp 10) = .int .i64 (i27 : Int) ∧ Sl (Fl.ty (flV flB 32)) H312 s308 σ27.1 ∧ Sl (Fl.ty (flV flB 32)) H312 s309 σ27.2 ∧ Inv B w' H312 [.cb g1 [ckV flB a0] 29, .cb g3 [ckV flB a2] 29, .cb g5 [ckL Sv.nil, ckL Sv.nil] 31, .cb g12 [ckL s308, ckL s309] 31, .own s308 29 32 gg310, .own s309 29 32 gg311]) hy27 ⟨H, Sv.nil, Sv.nil, none, none, (Hle.refl _), h21, h22, h23, h24, h25, h26, (Sl.nil _ _), (Sl.nil _ _), hI⟩ ?_
  rintro k27 i27 σ27 ρ319 w320 hk27 ⟨H312, s308, s309, gg310, gg311, hleH312, h313, h314, h315, h316, h317, h318, hs308, hs309, hI⟩ hy27
  refine wseq ?_
  refine wreg ?_
  refine lv (v := .bool (decide ((i27 : Int) < 32))) rfl (r_lss rfl h318 rfl rfl) rfl ?_
  refine wend ?_
  refine wthen ?_
  refine wseq ?_
  by_cases hc321 : (i27 : Int) < 32
  · skip
    have hbhc321 : (decide ((i27 : Int) < 32)) = true := decide_eq_true hc321
    obtain ⟨k27, rfl⟩ : ∃ m, k27 = m + 1 := ⟨k27 - 1, by omega⟩
    obtain ⟨z27, hb27⟩ := forK_body hy27
    have hF := hb27
    have hlt27 : ((i27 : Nat) : Int) + 1 ≤ 9223372036854775807 := by omega
    refine wcT ((show opd _ _ _ = _ from rfl).trans (congrArg Value.bool hbhc321)) ?_
    refine wp_skip ?_
    refine wthen ?_
    refine wren (fun ρ322 eρ322 => ?_)
    have h323 : opd ρ322 40 (.tmp 1) = .int .i64 a1 := (eρ322 1).trans h313
    have h324 : opd ρ322 40 (.tmp 3) = .pointer (some ⟨g1, 0 + 0, none⟩) := (eρ322 3).trans h314
    have h325 : opd ρ322 40 (.tmp 5) = .pointer (some ⟨g3, 0 + 0, none⟩) := (eρ322 5).trans h315
    have h326 : opd ρ322 40 (.tmp 6) = .pointer (some ⟨g5, 0 + 0, none⟩) := (eρ322 6).trans h316
    have h327 : opd ρ322 40 (.tmp 7) = .pointer (some ⟨g12, 0 + 0, none⟩) := (eρ322 7).trans h317
    have h328 : opd ρ322 40 (.tmp 10) = .int .i64 (i27 : Int) := (eρ322 10).trans h318
    clear eρ322
    refine wseq ?_
    refine wp_block ?_
    refine wseq ?_
    refine wreg ?_
    refine lv (v := .int .i64 (i27 : Int)) rfl (r_mv rfl h328) rfl ?_
    refine lv (v := .int .i64 (i27 : Int)) rfl (r_as rfl rfl) rfl ?_
    refine wend ?_
    refine wthen ?_
    refine wren (fun ρ329 eρ329 => ?_)
    have h330 : opd ρ329 40 (.tmp 1) = .int .i64 a1 := (eρ329 1).trans h323
    have h331 : opd ρ329 40 (.tmp 3) = .pointer (some ⟨g1, 0 + 0, none⟩) := (eρ329 3).trans h324
    have h332 : opd ρ329 40 (.tmp 5) = .pointer (some ⟨g3, 0 + 0, none⟩) := (eρ329 5).trans h325
    have h333 : opd ρ329 40 (.tmp 6) = .pointer (some ⟨g5, 0 + 0, none⟩) := (eρ329 6).trans h326
    have h334 : opd ρ329 40 (.tmp 7) = .pointer (some ⟨g12, 0 + 0, none⟩) := (eρ329 7).trans h327
    have h335 : opd ρ329 40 (.tmp 8) = .int .i64 (i27 : Int) := eρ329 8
    have h336 : opd ρ329 40 (.tmp 10) = .int .i64 (i27 : Int) := (eρ329 10).trans h328
    clear eρ329
    refine wseq ?_
    refine wreg ?_
    refine lv (v := .agg (flat [ckV flB a2]).toArray) rfl (r_cla (off := 0) (p := 0) (m := 1) (hI.good.ca 1 rfl) rfl ag29 h332 rfl rfl) rfl ?_
    refine lv (v := .int .i64 (i27 : Int)) rfl (r_mv rfl h335) rfl ?_
    obtain ⟨x337, hx337, hF⟩ := Option.bind_eq_some_iff.1 hF
    have hsp340 := spec_105 hx337 (hT.mono hleH312) (hI.part 0) 
    refine fc ([]) ([.cb g1 [ckV flB a0] 29, .cb g3 [ckV flB a2] 29, .cb g5 [ckL Sv.nil, ckL Sv.nil] 31, .cb g12 [ckL s308, ckL s309] 31, .own s308 29 32 gg310, .own s309 29 32 gg311]) (args := [.agg (flat [ckV flB a2]).toArray, .int .i64 (i27 : Int)]) fc105 rfl rfl rfl hI (argc rfl (argc rfl rfl)) (hsp340) ?_
    rintro _ H338 _ w339 ⟨rfl, rfl⟩ hleH338 hI
    replace hI : Inv B w339 H338 [.cb g1 [ckV flB a0] 29, .cb g3 [ckV flB a2] 29, .cb g5 [ckL Sv.nil, ckL Sv.nil] 31, .cb g12 [ckL s308, ckL s309] 31, .own s308 29 32 gg310, .own s309 29 32 gg311] := hI
    refine lv (v := .int .i64 x337) rfl (r_as rfl rfl) rfl ?_
    refine wend ?_
    refine wthen ?_
    refine wren (fun ρ341 eρ341 => ?_)
    have h342 : opd ρ341 40 (.tmp 1) = .int .i64 a1 := (eρ341 1).trans h330
    have h343 : opd ρ341 40 (.tmp 3) = .pointer (some ⟨g1, 0 + 0, none⟩) := (eρ341 3).trans h331
    have h344 : opd ρ341 40 (.tmp 5) = .pointer (some ⟨g3, 0 + 0, none⟩) := (eρ341 5).trans h332
    have h345 : opd ρ341 40 (.tmp 6) = .pointer (some ⟨g5, 0 + 0, none⟩) := (eρ341 6).trans h333
    have h346 : opd ρ341 40 (.tmp 7) = .pointer (some ⟨g12, 0 + 0, none⟩) := (eρ341 7).trans h334
    have h347 : opd ρ341 40 (.tmp 8) = .int .i64 (i27 : Int) := (eρ341 8).trans h335
    have h348 : opd ρ341 40 (.tmp 9) = .int .i64 x337 := eρ341 9
    have h349 : opd ρ341 40 (.tmp 10) = .int .i64 (i27 : Int) := (eρ341 10).trans h336
    clear eρ341
    refine wseq ?_
    refine dstG (H0 := H338) (L0 := keepL [true, true, true, true, true, true] [.cb g1 [ckV flB a0] 29, .cb g3 [ckV flB a2] 29, .cb g5 [ckL Sv.nil, ckL Sv.nil] 31, .cb g12 [ckL s308, ckL s309] 31, .own s308 29 32 gg310, .own s309 29 32 gg311]) [8, 10] mixed rfl (by repeat (first | exact Pan.body | refine Pan.then ?_ | refine Pan.inBlock ?_ | refine Pan.noGoto ?_ | refine Pan.pure ?_)) hI (hI.good.weakm _ (Hle.refl _) rfl) ?_
    intro w350 hI hP
    refine dp (v := .pointer (some ⟨g12, 0 + 0, none⟩)) 0 (by kernel_rfl) rfl rfl (fun _ => l_fa (j := 0) (i := 0) rfl fl31_0 h346 rfl) rfl hP ?_
    refine dp (v := .int .i64 a1) 3 (by kernel_rfl) rfl rfl (fun _ => r_mv rfl h342) rfl hP ?_
    refine dp (v := .int .i64 (i27 : Int)) 4 (by kernel_rfl) rfl rfl (fun _ => r_mv rfl h347) rfl hP ?_
    refine dp (v := .int .i64 x337) 5 (by kernel_rfl) rfl rfl (fun _ => r_mv rfl h348) rfl hP ?_
    refine dr (v := s308.v) 1 (by kernel_rfl) rfl rfl (hI.good.weakm [true, true, true, true, true, true] (Hle.refl _) rfl) (fun _ hG => r_cl1 (off := 0) (p := 0) (hG.ca 3 rfl) rfl sc27 rfl rfl rfl) rfl hP ?_
    refine dr (v := .agg (flat [ckV flB a0]).toArray) 2 (by kernel_rfl) rfl rfl (hI.good.weakm [true, true, true, true, true, true] (Hle.refl _) rfl) (fun _ hG => r_cla (off := 0) (p := 0) (m := 1) (hG.ca 0 rfl) rfl ag29 h343 rfl rfl) rfl hP ?_
    obtain ⟨x351, hx351, hF⟩ := Option.bind_eq_some_iff.1 hF
    have hsp354 := spec_143 hx351 ((hT.mono hleH312).mono hleH338) (hI.part 0) 
    refine dfc 6 ([]) ([.cb g1 [ckV flB a0] 29, .cb g3 [ckV flB a2] 29, .cb g5 [ckL Sv.nil, ckL Sv.nil] 31, .cb g12 [ckL s308, ckL s309] 31, .own s308 29 32 gg310, .own s309 29 32 gg311]) (args := [.agg (flat [ckV flB a0]).toArray, .int .i64 a1, .int .i64 (i27 : Int), .int .i64 x337]) fc143 (by kernel_rfl) rfl rfl rfl rfl rfl hI (argc rfl (argc rfl (argc rfl (argc rfl rfl)))) (hsp354) ?_
    rintro _ H352 _ w353 ⟨rfl, rfl⟩ hleH352 hI
    replace hI : Inv B w353 H352 [.cb g1 [ckV flB a0] 29, .cb g3 [ckV flB a2] 29, .cb g5 [ckL Sv.nil, ckL Sv.nil] 31, .cb g12 [ckL s308, ckL s309] 31, .own s308 29 32 gg310, .own s309 29 32 gg311] := hI
    refine ⟨(hI.good.weakm [true, true, true, true, true, true] hleH352 rfl), ?_⟩
    refine de 7 (by kernel_rfl) rfl rfl rfl (l_bs (t := (Fl.ty (flV flB 32))) (vs := [.agg (flat [ckV flB x351]).toArray]) (xs := [x351]) hI rfl sl27 inf29 rfl rfl (argc rfl rfl) (.cons rfl rfl .nil) rfl) rfl ?_
    rintro _ w357 ⟨s355, H356, rfl, hI, hleH356, hs355, hfs355, hgs355⟩
    refine ⟨(hI.good.weakm [true, true, true, true, true, true] (hleH352.trans hleH356) rfl), ?_⟩
    obtain ⟨x358, hx358, hF⟩ := Option.bind_eq_some_iff.1 hF
    refine del 8 (by kernel_rfl) rfl rfl rfl (l_app (t := (Fl.ty (flV flB 32))) hI 4 rfl rfl sl27 inf29 rfl rfl rfl rfl (((hs308.mono hleH338).mono hleH352).mono hleH356) hs355 (appI_some hx358).1) rfl ?_
    rintro _ w362 ⟨s359, H360, gg361, rfl, hI, hleH360, hs359⟩
    rw [← (appI_some hx358).2] at hs359
    replace hI : Inv B w362 H360 [.cb g1 [ckV flB a0] 29, .cb g3 [ckV flB a2] 29, .cb g5 [ckL Sv.nil, ckL Sv.nil] 31, .cb g12 [ckL s308, ckL s309] 31, .own s359 29 32 gg361, .own s309 29 32 gg311] := hI
    refine dp (v := .pointer (some ⟨g12, 0 + 0, none⟩)) 9 (by kernel_rfl) rfl rfl (fun _ => l_fa (j := 0) (i := 0) rfl fl31_0 h346 rfl) rfl hP ?_
    refine dsl 10 (by kernel_rfl) rfl rfl rfl (l_st (off := 0) (p := 0) (m := 1) (new := [ckL s359]) hI 3 rfl rfl sz27 rfl rfl rfl rfl rfl rfl) rfl ?_
    intro w363 hI
    replace hI : Inv B w363 H360 [.cb g1 [ckV flB a0] 29, .cb g3 [ckV flB a2] 29, .cb g5 [ckL Sv.nil, ckL Sv.nil] 31, .cb g12 [ckL s359, ckL s309] 31, .own s359 29 32 gg361, .own s309 29 32 gg311] := hI
    refine dend (by kernel_rfl) ?_
    refine wthen ?_
    refine wren (fun ρ364 eρ364 => ?_)
    have h365 : opd ρ364 40 (.tmp 1) = .int .i64 a1 := (eρ364 1).trans h342
    have h366 : opd ρ364 40 (.tmp 3) = .pointer (some ⟨g1, 0 + 0, none⟩) := (eρ364 3).trans h343
    have h367 : opd ρ364 40 (.tmp 5) = .pointer (some ⟨g3, 0 + 0, none⟩) := (eρ364 5).trans h344
    have h368 : opd ρ364 40 (.tmp 6) = .pointer (some ⟨g5, 0 + 0, none⟩) := (eρ364 6).trans h345
    have h369 : opd ρ364 40 (.tmp 7) = .pointer (some ⟨g12, 0 + 0, none⟩) := (eρ364 7).trans h346
    have h370 : opd ρ364 40 (.tmp 8) = .int .i64 (i27 : Int) := (eρ364 8).trans h347
    have h371 : opd ρ364 40 (.tmp 9) = .int .i64 x337 := (eρ364 9).trans h348
    have h372 : opd ρ364 40 (.tmp 10) = .int .i64 (i27 : Int) := (eρ364 10).trans h349
    clear eρ364
    refine dstG (H0 := H360) (L0 := keepL [true, true, true, true, true, true] [.cb g1 [ckV flB a0] 29, .cb g3 [ckV flB a2] 29, .cb g5 [ckL Sv.nil, ckL Sv.nil] 31, .cb g12 [ckL s359, ckL s309] 31, .own s359 29 32 gg361, .own s309 29 32 gg311]) [10, 12] mixed rfl (by repeat (first | exact Pan.body | refine Pan.then ?_ | refine Pan.inBlock ?_ | refine Pan.noGoto ?_ | refine Pan.pure ?_)) hI (hI.good.weakm _ (Hle.refl _) rfl) ?_
    intro w373 hI hP
    refine dp (v := .pointer (some ⟨g12, 0 + 1, none⟩)) 0 (by kernel_rfl) rfl rfl (fun _ => l_fa (j := 0) (i := 0) rfl fl31_1 h369 rfl) rfl hP ?_
    refine dp (v := .int .i64 a1) 3 (by kernel_rfl) rfl rfl (fun _ => r_mv rfl h365) rfl hP ?_
    refine dp (v := .int .i64 (i27 : Int)) 4 (by kernel_rfl) rfl rfl (fun _ => r_mv rfl h370) rfl hP ?_
    refine dp (v := .int .i64 x337) 5 (by kernel_rfl) rfl rfl (fun _ => r_mv rfl h371) rfl hP ?_
    refine dp (v := .int .i64 (wI ((1 : Int) - x337))) 6 (by kernel_rfl) rfl rfl (fun _ => r_subw rfl rfl rfl) rfl hP ?_
    refine dr (v := s309.v) 1 (by kernel_rfl) rfl rfl (hI.good.weakm [true, true, true, true, true, true] (Hle.refl _) rfl) (fun _ hG => r_cl1 (off := 1) (p := 1) (hG.ca 3 rfl) rfl sc27 rfl rfl rfl) rfl hP ?_
    refine dr (v := .agg (flat [ckV flB a0]).toArray) 2 (by kernel_rfl) rfl rfl (hI.good.weakm [true, true, true, true, true, true] (Hle.refl _) rfl) (fun _ hG => r_cla (off := 0) (p := 0) (m := 1) (hG.ca 0 rfl) rfl ag29 h366 rfl rfl) rfl hP ?_
    obtain ⟨x374, hx374, hF⟩ := Option.bind_eq_some_iff.1 hF
    have hsp377 := spec_143 hx374 (((((hT.mono hleH312).mono hleH338).mono hleH352).mono hleH356).mono hleH360) (hI.part 0) 
    refine dfc 7 ([]) ([.cb g1 [ckV flB a0] 29, .cb g3 [ckV flB a2] 29, .cb g5 [ckL Sv.nil, ckL Sv.nil] 31, .cb g12 [ckL s359, ckL s309] 31, .own s359 29 32 gg361, .own s309 29 32 gg311]) (args := [.agg (flat [ckV flB a0]).toArray, .int .i64 a1, .int .i64 (i27 : Int), .int .i64 (wI ((1 : Int) - x337))]) fc143 (by kernel_rfl) rfl rfl rfl rfl rfl hI (argc rfl (argc rfl (argc rfl (argc rfl rfl)))) (hsp377) ?_
    rintro _ H375 _ w376 ⟨rfl, rfl⟩ hleH375 hI
    replace hI : Inv B w376 H375 [.cb g1 [ckV flB a0] 29, .cb g3 [ckV flB a2] 29, .cb g5 [ckL Sv.nil, ckL Sv.nil] 31, .cb g12 [ckL s359, ckL s309] 31, .own s359 29 32 gg361, .own s309 29 32 gg311] := hI
    refine ⟨(hI.good.weakm [true, true, true, true, true, true] hleH375 rfl), ?_⟩
    obtain ⟨x378, hx378, hF⟩ := Option.bind_eq_some_iff.1 hF
    have hsp381 := spec_104 hx378 ((((((hT.mono hleH312).mono hleH338).mono hleH352).mono hleH356).mono hleH360).mono hleH375) (hI.part 0) 
    refine dfc 8 ([]) ([.cb g1 [ckV flB a0] 29, .cb g3 [ckV flB a2] 29, .cb g5 [ckL Sv.nil, ckL Sv.nil] 31, .cb g12 [ckL s359, ckL s309] 31, .own s359 29 32 gg361, .own s309 29 32 gg311]) (args := [.agg (flat [ckV flB x374]).toArray]) fc104 (by kernel_rfl) rfl rfl rfl rfl rfl hI (argc rfl rfl) (hsp381) ?_
    rintro _ H379 _ w380 ⟨rfl, rfl⟩ hleH379 hI
    replace hI : Inv B w380 H379 [.cb g1 [ckV flB a0] 29, .cb g3 [ckV flB a2] 29, .cb g5 [ckL Sv.nil, ckL Sv.nil] 31, .cb g12 [ckL s359, ckL s309] 31, .own s359 29 32 gg361, .own s309 29 32 gg311] := hI
    refine ⟨(hI.good.weakm [true, true, true, true, true, true] (hleH375.trans hleH379) rfl), ?_⟩
    refine de 9 (by kernel_rfl) rfl rfl rfl (l_bs (t := (Fl.ty (flV flB 32))) (vs := [.agg (flat [ckV flB x378]).toArray]) (xs := [x378]) hI rfl sl27 inf29 rfl rfl (argc rfl rfl) (.cons rfl rfl .nil) rfl) rfl ?_
    rintro _ w384 ⟨s382, H383, rfl, hI, hleH383, hs382, hfs382, hgs382⟩
    refine ⟨(hI.good.weakm [true, true, true, true, true, true] ((hleH375.trans hleH379).trans hleH383) rfl), ?_⟩
    obtain ⟨x385, hx385, hF⟩ := Option.bind_eq_some_iff.1 hF
    refine del 10 (by kernel_rfl) rfl rfl rfl (l_app (t := (Fl.ty (flV flB 32))) hI 5 rfl rfl sl27 inf29 rfl rfl rfl rfl (((((((hs309.mono hleH338).mono hleH352).mono hleH356).mono hleH360).mono hleH375).mono hleH379).mono hleH383) hs382 (appI_some hx385).1) rfl ?_
    rintro _ w389 ⟨s386, H387, gg388, rfl, hI, hleH387, hs386⟩
    rw [← (appI_some hx385).2] at hs386
    replace hI : Inv B w389 H387 [.cb g1 [ckV flB a0] 29, .cb g3 [ckV flB a2] 29, .cb g5 [ckL Sv.nil, ckL Sv.nil] 31, .cb g12 [ckL s359, ckL s309] 31, .own s359 29 32 gg361, .own s386 29 32 gg388] := hI
    refine dp (v := .pointer (some ⟨g12, 0 + 1, none⟩)) 11 (by kernel_rfl) rfl rfl (fun _ => l_fa (j := 0) (i := 0) rfl fl31_1 h369 rfl) rfl hP ?_
    refine dsl 12 (by kernel_rfl) rfl rfl rfl (l_st (off := 1) (p := 1) (m := 1) (new := [ckL s386]) hI 3 rfl rfl sz27 rfl rfl rfl rfl rfl rfl) rfl ?_
    intro w390 hI
    replace hI : Inv B w390 H387 [.cb g1 [ckV flB a0] 29, .cb g3 [ckV flB a2] 29, .cb g5 [ckL Sv.nil, ckL Sv.nil] 31, .cb g12 [ckL s359, ckL s386] 31, .own s359 29 32 gg361, .own s386 29 32 gg388] := hI
    refine dend (by kernel_rfl) ?_
    refine inN ?_
    refine wthen ?_
    refine wren (fun ρ391 eρ391 => ?_)
    have h392 : opd ρ391 40 (.tmp 1) = .int .i64 a1 := (eρ391 1).trans h365
    have h393 : opd ρ391 40 (.tmp 3) = .pointer (some ⟨g1, 0 + 0, none⟩) := (eρ391 3).trans h366
    have h394 : opd ρ391 40 (.tmp 5) = .pointer (some ⟨g3, 0 + 0, none⟩) := (eρ391 5).trans h367
    have h395 : opd ρ391 40 (.tmp 6) = .pointer (some ⟨g5, 0 + 0, none⟩) := (eρ391 6).trans h368
    have h396 : opd ρ391 40 (.tmp 7) = .pointer (some ⟨g12, 0 + 0, none⟩) := (eρ391 7).trans h369
    have h397 : opd ρ391 40 (.tmp 10) = .int .i64 (i27 : Int) := (eρ391 10).trans h372
    clear eρ391
    refine wreg ?_
    refine lv (v := .int .i64 ((i27 + 1 : Nat) : Int)) rfl (r_addn rfl h397 rfl hlt27) rfl ?_
    refine lv (v := .int .i64 ((i27 + 1 : Nat) : Int)) rfl (r_mv rfl rfl) rfl ?_
    refine wend ?_
    obtain rfl := Option.some.inj hF
    exact ⟨k27, (x358, x385), _, rfl, rfl, ⟨H387, s359, s386, gg361, gg388, ((((((((hleH312.trans hleH338).trans hleH352).trans hleH356).trans hleH360).trans hleH375).trans hleH379).trans hleH383).trans hleH387), h392, h393, h394, h395, h396, rfl, ((((hs359.mono hleH375).mono hleH379).mono hleH383).mono hleH387), hs386, hI⟩, forK_inl hy27 hb27⟩
  · skip
    have hbhc321 : (decide ((i27 : Int) < 32)) = false := decide_eq_false hc321
    obtain rfl : k27 = 0 := by omega
    obtain rfl := forK_end hy27
    have hF := hF27
    try dsimp only at hF
    refine wcF ((show opd _ _ _ = _ from rfl).trans (congrArg Value.bool hbhc321)) ?_
    refine wp_exit ?_
    refine thE ?_
    refine thE ?_
    refine inX ?_
    refine wthen ?_
    refine wren (fun ρ398 eρ398 => ?_)
    have h399 : opd ρ398 40 (.tmp 6) = .pointer (some ⟨g5, 0 + 0, none⟩) := (eρ398 6).trans h316
    have h400 : opd ρ398 40 (.tmp 7) = .pointer (some ⟨g12, 0 + 0, none⟩) := (eρ398 7).trans h317
    clear eρ398
    refine wseq ?_
    refine wreg ?_
    refine lv (v := .agg (flat [ckL s308, ckL s309]).toArray) rfl (r_cla (off := 0) (p := 0) (m := 2) (hI.good.ca 3 rfl) rfl ag31 h400 rfl rfl) rfl ?_
    refine lst rfl (l_st (off := 0) (p := 0) (m := 2) (new := [ckL s308, ckL s309]) hI 2 rfl rfl sz31 h399 rfl rfl rfl rfl rfl) rfl ?_
    intro w401 hI
    replace hI : Inv B w401 H312 [.cb g1 [ckV flB a0] 29, .cb g3 [ckV flB a2] 29, .cb g5 [ckL s308, ckL s309] 31, .cb g12 [ckL s308, ckL s309] 31, .own s308 29 32 gg310, .own s309 29 32 gg311] := hI
    refine wend ?_
    refine wthen ?_
    refine wren (fun ρ402 eρ402 => ?_)
    have h403 : opd ρ402 40 (.tmp 6) = .pointer (some ⟨g5, 0 + 0, none⟩) := (eρ402 6).trans h399
    clear eρ402
    refine wp_ret ?_
    obtain rfl := Option.some.inj hF
    subst hB
    refine finR (rs := [.cell 6 31]) (vs := [.agg (flat [ckL s308, ckL s309]).toArray]) rfl ⟨⟨_, h403, ld_agg (hI.good.ca 2 rfl) ag31 rfl⟩, trivial⟩ ?_
    exact hI.fin 0 ⟨s308, s309, rfl, hs308, hs309, rfl⟩
noncomputable def M_keys_Tree_Sign (a0 : Keys_Tree) (a1 : Int) (a2 : Vec UInt8 32) : Option (Sig × Int) := ((M_tree_Path a1 a0.leaves_).bind fun x17 => (if x17.2 = true then ((M_once_Sign a0.seed_ a1 a2).bind fun x38 => some ((⟨a1, (⟨x38.Open, x38.Shut⟩ : Once), x17.1⟩ : Sig), 0)) else some ((⟨0, (⟨[], []⟩ : Once), []⟩ : Sig), 1)))
set_option maxHeartbeats 1000000 in
theorem spec_53 {w : World} {H : Hp} {a0 : Keys_Tree} {a1 : Int} {a2 : Vec UInt8 32} {g_0 : Nat} {s1 : Sv} {r : Sig × Int} (hF : M_keys_Tree_Sign a0 a1 a2 = some r) (hT : Tab H) (hG : Good w H [.cb g_0 [ckV flB a0.seed_, ckI a0.height_, ckL s1] 168]) (hs1 : Sl (Fl.ty (flV flB 32)) H s1 a0.leaves_) :
    Fine Tryd.prog 53 [.pointer (some ⟨g_0, 0, none⟩), .int .i64 a1, .agg (flat [ckV flB a2]).toArray] w H [.cb g_0 [ckV flB a0.seed_, ckI a0.height_, ckL s1] 168] (fun H' v L' => ∃ s900 : Sv, ∃ s901 : Sv, ∃ s902 : Sv, v = .tuple #[.agg (flat [ckI r.1.Leaf, ckL s900, ckL s901, ckL s902]).toArray, .int .i64 r.2] ∧ Sl (Fl.ty (flV flB 32)) H' s900 r.1.Once.Open ∧ Sl (Fl.ty (flV flB 32)) H' s901 r.1.Once.Shut ∧ Sl (Fl.ty (flV flB 32)) H' s902 r.1.Path ∧ L' = [.cb g_0 [ckV flB a0.seed_, ckI a0.height_, ckL s1] 168]) := by
  unfold M_keys_Tree_Sign at hF
  unfold Fine
  obtain ⟨B, hB⟩ : ∃ B : Base, B = ⟨w, H, blks [.cb g_0 [ckV flB a0.seed_, ckI a0.height_, ckL s1] 168]⟩ := ⟨_, rfl⟩
  have hI : Inv B w H [.cb g_0 [ckV flB a0.seed_, ckI a0.height_, ckL s1] 168] := by rw [hB]; exact Inv.start hG
  refine enter (n := 35) (args := [.pointer (some ⟨g_0, 0, none⟩), .int .i64 a1, .agg (flat [ckV flB a2]).toArray]) Tryd.func53 rfl Tryd.ntmps53 (Nat.le_of_ble_eq_true rfl) ?_
  refine wseq ?_
  refine wreg ?_
  refine le rfl (l_box (cks := [ckV flB a2]) hI rfl rfl rfl) rfl ?_
  rintro _ w3 ⟨g2, rfl, hI⟩
  replace hI : Inv B w3 H [.cb g_0 [ckV flB a0.seed_, ckI a0.height_, ckL s1] 168, .cb g2 [ckV flB a2] 29] := hI
  refine le rfl (l_al hI rfl ze33) rfl ?_
  rintro _ w5 ⟨g4, rfl, hI⟩
  replace hI : Inv B w5 H [.cb g_0 [ckV flB a0.seed_, ckI a0.height_, ckL s1] 168, .cb g2 [ckV flB a2] 29, .cb g4 [ckI 0, ckL Sv.nil, ckL Sv.nil, ckL Sv.nil] 33] := hI
  refine lv (v := .int .i64 0) rfl (r_as rfl rfl) rfl ?_
  refine wend ?_
  refine wthen ?_
  refine wren (fun ρ6 eρ6 => ?_)
  have h7 : opd ρ6 35 (.tmp 0) = .pointer (some ⟨g_0, 0 + 0, none⟩) := eρ6 0
  have h8 : opd ρ6 35 (.tmp 1) = .int .i64 a1 := eρ6 1
  have h9 : opd ρ6 35 (.tmp 5) = .pointer (some ⟨g2, 0 + 0, none⟩) := eρ6 5
  have h10 : opd ρ6 35 (.tmp 6) = .pointer (some ⟨g4, 0 + 0, none⟩) := eρ6 6
  clear eρ6
  refine wseq ?_
  refine wseq ?_
  refine wreg ?_
  refine lv (v := .pointer (some ⟨g_0, 0 + 0, none⟩)) rfl (r_mv rfl h7) rfl ?_
  refine lv (v := .bool false) rfl (r_pn rfl un106 rfl rfl) rfl ?_
  refine wend ?_
  refine wthen ?_
  refine wren (fun ρ11 eρ11 => ?_)
  have h12 : opd ρ11 35 (.tmp 0) = .pointer (some ⟨g_0, 0 + 0, none⟩) := (eρ11 0).trans h7
  have h13 : opd ρ11 35 (.tmp 1) = .int .i64 a1 := (eρ11 1).trans h8
  have h14 : opd ρ11 35 (.tmp 5) = .pointer (some ⟨g2, 0 + 0, none⟩) := (eρ11 5).trans h9
  have h15 : opd ρ11 35 (.tmp 6) = .pointer (some ⟨g4, 0 + 0, none⟩) := (eρ11 6).trans h10
  have h16 : opd ρ11 35 (.tmp 11) = .bool false := eρ11 11
  clear eρ11
  refine wcF h16 ?_
  refine wp_skip ?_
  refine wthen ?_
  refine wseq ?_
  refine wreg ?_
  refine lv (v := .int .i64 a1) rfl (r_mv rfl h13) rfl ?_
  refine lv (v := .pointer (some ⟨g_0, 0 + 0, none⟩)) rfl (r_mv rfl h12) rfl ?_
  refine lv (v := .pointer (some ⟨g_0, 0 + 0, none⟩)) rfl (r_nilc rfl rfl) rfl ?_
  refine lv (v := .pointer (some ⟨g_0, 0 + 33, none⟩)) rfl (l_fa (j := 0) (i := 0) rfl fl168_2 rfl rfl) rfl ?_
  refine lv (v := s1.v) rfl (r_cl1 (off := 33) (p := 2) (hI.good.ca 0 rfl) rfl sc27 rfl rfl rfl) rfl ?_
  obtain ⟨x17, hx17, hF⟩ := Option.bind_eq_some_iff.1 hF
  have hsp20 := spec_96 hx17 hT (hI.part 0) hs1
  refine fc ([]) ([.cb g_0 [ckV flB a0.seed_, ckI a0.height_, ckL s1] 168, .cb g2 [ckV flB a2] 29, .cb g4 [ckI 0, ckL Sv.nil, ckL Sv.nil, ckL Sv.nil] 33]) (args := [.int .i64 a1, s1.v]) fc96 rfl rfl rfl hI (argc rfl (argc rfl rfl)) (hsp20) ?_
  rintro _ H18 _ w19 ⟨s21, rfl, hs21, rfl⟩ hleH18 hI
  replace hI : Inv B w19 H18 [.cb g_0 [ckV flB a0.seed_, ckI a0.height_, ckL s1] 168, .cb g2 [ckV flB a2] 29, .cb g4 [ckI 0, ckL Sv.nil, ckL Sv.nil, ckL Sv.nil] 33] := hI
  refine lv (v := .tuple #[s21.v, .bool x17.2]) rfl (r_mv rfl rfl) rfl ?_
  refine lv (v := s21.v) rfl (r_ext rfl rfl rfl) rfl ?_
  refine lv (v := .bool x17.2) rfl (r_ext rfl rfl rfl) rfl ?_
  refine lv (v := s21.v) rfl (r_as rfl rfl) rfl ?_
  refine lv (v := .bool x17.2) rfl (r_as rfl rfl) rfl ?_
  refine wend ?_
  refine wthen ?_
  refine wren (fun ρ22 eρ22 => ?_)
  have h23 : opd ρ22 35 (.tmp 0) = .pointer (some ⟨g_0, 0 + 0, none⟩) := (eρ22 0).trans h12
  have h24 : opd ρ22 35 (.tmp 1) = .int .i64 a1 := (eρ22 1).trans h13
  have h25 : opd ρ22 35 (.tmp 5) = .pointer (some ⟨g2, 0 + 0, none⟩) := (eρ22 5).trans h14
  have h26 : opd ρ22 35 (.tmp 6) = .pointer (some ⟨g4, 0 + 0, none⟩) := (eρ22 6).trans h15
  have h27 : opd ρ22 35 (.tmp 8) = s21.v := eρ22 8
  have h28 : opd ρ22 35 (.tmp 9) = .bool x17.2 := eρ22 9
  clear eρ22
  refine wseq ?_
  refine wseq ?_
  refine wreg ?_
  refine lv (v := .bool x17.2) rfl (r_mv rfl h28) rfl ?_
  refine lv (v := .bool (!x17.2)) rfl (r_not rfl rfl) rfl ?_
  refine wend ?_
  refine wthen ?_
  refine wren (fun ρ29 eρ29 => ?_)
  have h30 : opd ρ29 35 (.tmp 0) = .pointer (some ⟨g_0, 0 + 0, none⟩) := (eρ29 0).trans h23
  have h31 : opd ρ29 35 (.tmp 1) = .int .i64 a1 := (eρ29 1).trans h24
  have h32 : opd ρ29 35 (.tmp 5) = .pointer (some ⟨g2, 0 + 0, none⟩) := (eρ29 5).trans h25
  have h33 : opd ρ29 35 (.tmp 6) = .pointer (some ⟨g4, 0 + 0, none⟩) := (eρ29 6).trans h26
  have h34 : opd ρ29 35 (.tmp 8) = s21.v := (eρ29 8).trans h27
  have h35 : opd ρ29 35 (.tmp 23) = .bool (!x17.2) := eρ29 23
  clear eρ29
  by_cases hc36 : x17.2 = true
  · skip
    rw [if_pos hc36] at hF
    have hbhc36 : (!x17.2) = false := (by rw [hc36]; rfl)
    refine wcF (h35.trans (congrArg Value.bool hbhc36)) ?_
    refine wp_skip ?_
    refine wthen ?_
    refine wseq ?_
    refine dstG (H0 := H18) (L0 := keepL [true, true, true] [.cb g_0 [ckV flB a0.seed_, ckI a0.height_, ckL s1] 168, .cb g2 [ckV flB a2] 29, .cb g4 [ckI 0, ckL Sv.nil, ckL Sv.nil, ckL Sv.nil] 33]) [10] mixed rfl (by repeat (first | exact Pan.body | refine Pan.then ?_ | refine Pan.inBlock ?_ | refine Pan.noGoto ?_ | refine Pan.pure ?_)) hI (hI.good.weakm _ (Hle.refl _) rfl) ?_
    intro w37 hI hP
    refine dp (v := .int .i64 a1) 0 (by kernel_rfl) rfl rfl (fun _ => r_mv rfl h31) rfl hP ?_
    refine dp (v := .pointer (some ⟨g_0, 0 + 0, none⟩)) 1 (by kernel_rfl) rfl rfl (fun _ => r_mv rfl h30) rfl hP ?_
    refine dp (v := .pointer (some ⟨g_0, 0 + 0, none⟩)) 2 (by kernel_rfl) rfl rfl (fun _ => r_nilc rfl rfl) rfl hP ?_
    refine dp (v := .pointer (some ⟨g_0, 0 + 0, none⟩)) 3 (by kernel_rfl) rfl rfl (fun _ => l_fa (j := 0) (i := 0) rfl fl168_0 rfl rfl) rfl hP ?_
    refine dp (v := .int .i64 a1) 5 (by kernel_rfl) rfl rfl (fun _ => r_mv rfl h31) rfl hP ?_
    refine dp (v := s21.v) 8 (by kernel_rfl) rfl rfl (fun _ => r_mv rfl h34) rfl hP ?_
    refine dr (v := .agg (flat [ckV flB a0.seed_]).toArray) 4 (by kernel_rfl) rfl rfl (hI.good.weakm [true, true, true] (Hle.refl _) rfl) (fun _ hG => r_cla (off := 0) (p := 0) (m := 1) (hG.ca 0 rfl) rfl ag29 rfl rfl rfl) rfl hP ?_
    refine dr (v := .agg (flat [ckV flB a2]).toArray) 6 (by kernel_rfl) rfl rfl (hI.good.weakm [true, true, true] (Hle.refl _) rfl) (fun _ hG => r_cla (off := 0) (p := 0) (m := 1) (hG.ca 1 rfl) rfl ag29 h32 rfl rfl) rfl hP ?_
    obtain ⟨x38, hx38, hF⟩ := Option.bind_eq_some_iff.1 hF
    have hsp41 := spec_97 hx38 (hT.mono hleH18) (hI.part 0) 
    refine dfc 7 ([]) ([.cb g_0 [ckV flB a0.seed_, ckI a0.height_, ckL s1] 168, .cb g2 [ckV flB a2] 29, .cb g4 [ckI 0, ckL Sv.nil, ckL Sv.nil, ckL Sv.nil] 33]) (args := [.agg (flat [ckV flB a0.seed_]).toArray, .int .i64 a1, .agg (flat [ckV flB a2]).toArray]) fc97 (by kernel_rfl) rfl rfl rfl rfl rfl hI (argc rfl (argc rfl (argc rfl rfl))) (hsp41) ?_
    rintro _ H39 _ w40 ⟨s42, s43, rfl, hs42, hs43, rfl⟩ hleH39 hI
    replace hI : Inv B w40 H39 [.cb g_0 [ckV flB a0.seed_, ckI a0.height_, ckL s1] 168, .cb g2 [ckV flB a2] 29, .cb g4 [ckI 0, ckL Sv.nil, ckL Sv.nil, ckL Sv.nil] 33] := hI
    refine ⟨(hI.good.weakm [true, true, true] hleH39 rfl), ?_⟩
    refine dp (v := .agg (flat [ckI a1, ckL s42, ckL s43, ckL s21]).toArray) 9 (by kernel_rfl) rfl rfl (fun _ => r_bldk (z := [[ckI 0], [ckL Sv.nil, ckL Sv.nil], [ckL Sv.nil]]) (pc := [(0, [ckI a1]), (1, [ckL s42, ckL s43]), (2, [ckL s21])]) rfl zg33 bf33 rfl (argc (congrArg Value.cells rfl) (argc (congrArg Value.cells rfl) (argc (congrArg Value.cells rfl) rfl))) rfl rfl) rfl hP ?_
    refine dsl 10 (by kernel_rfl) rfl rfl rfl (l_st (off := 0) (p := 0) (m := 4) (new := [ckI a1, ckL s42, ckL s43, ckL s21]) hI 2 rfl rfl sz33 h33 rfl rfl rfl rfl rfl) rfl ?_
    intro w44 hI
    replace hI : Inv B w44 H39 [.cb g_0 [ckV flB a0.seed_, ckI a0.height_, ckL s1] 168, .cb g2 [ckV flB a2] 29, .cb g4 [ckI a1, ckL s42, ckL s43, ckL s21] 33] := hI
    refine dp (v := .int .i64 0) 11 (by kernel_rfl) rfl rfl (fun _ => r_as rfl rfl) rfl hP ?_
    refine dend (by kernel_rfl) ?_
    refine wthen ?_
    refine wren (fun ρ45 eρ45 => ?_)
    have h46 : opd ρ45 35 (.tmp 6) = .pointer (some ⟨g4, 0 + 0, none⟩) := (eρ45 6).trans h33
    have h47 : opd ρ45 35 (.tmp 7) = .int .i64 0 := eρ45 7
    clear eρ45
    refine wp_ret ?_
    obtain rfl := Option.some.inj hF
    subst hB
    refine finR (rs := [.cell 6 33, .tmp 7]) (vs := [.agg (flat [ckI a1, ckL s42, ckL s43, ckL s21]).toArray, .int .i64 0]) rfl ⟨⟨_, h46, ld_agg (hI.good.ca 2 rfl) ag33 rfl⟩, h47, trivial⟩ ?_
    exact hI.fin 1 ⟨s42, s43, s21, rfl, hs42, hs43, (hs21.mono hleH39), rfl⟩
  · skip
    rw [if_neg hc36] at hF
    have hbhc36 : (!x17.2) = true := (by rw [(Bool.eq_false_iff.2 hc36)]; rfl)
    refine wcT (h35.trans (congrArg Value.bool hbhc36)) ?_
    refine wseq ?_
    refine wreg ?_
    refine lv (v := .agg (flat [ckI 0, ckL Sv.nil, ckL Sv.nil, ckL Sv.nil]).toArray) rfl (r_bldk (z := [[ckI 0], [ckL Sv.nil, ckL Sv.nil], [ckL Sv.nil]]) (pc := []) rfl zg33 bf33 rfl rfl rfl rfl) rfl ?_
    refine lst rfl (l_st (off := 0) (p := 0) (m := 4) (new := [ckI 0, ckL Sv.nil, ckL Sv.nil, ckL Sv.nil]) hI 2 rfl rfl sz33 h33 rfl rfl rfl rfl rfl) rfl ?_
    intro w48 hI
    replace hI : Inv B w48 H18 [.cb g_0 [ckV flB a0.seed_, ckI a0.height_, ckL s1] 168, .cb g2 [ckV flB a2] 29, .cb g4 [ckI 0, ckL Sv.nil, ckL Sv.nil, ckL Sv.nil] 33] := hI
    refine lv (v := .int .i64 1) rfl (r_as rfl rfl) rfl ?_
    refine wend ?_
    refine wthen ?_
    refine wren (fun ρ49 eρ49 => ?_)
    have h50 : opd ρ49 35 (.tmp 6) = .pointer (some ⟨g4, 0 + 0, none⟩) := (eρ49 6).trans h33
    have h51 : opd ρ49 35 (.tmp 7) = .int .i64 1 := eρ49 7
    clear eρ49
    refine wp_ret ?_
    refine thR ?_
    obtain rfl := Option.some.inj hF
    subst hB
    refine finR (rs := [.cell 6 33, .tmp 7]) (vs := [.agg (flat [ckI 0, ckL Sv.nil, ckL Sv.nil, ckL Sv.nil]).toArray, .int .i64 1]) rfl ⟨⟨_, h50, ld_agg (hI.good.ca 2 rfl) ag33 rfl⟩, h51, trivial⟩ ?_
    exact hI.fin 1 ⟨Sv.nil, Sv.nil, Sv.nil, rfl, (Sl.nil _ _), (Sl.nil _ _), (Sl.nil _ _), rfl⟩
noncomputable def M_tree_Root (a0 : List (Vec UInt8 32)) : Option ((Vec UInt8 32)) := (if (a0.length : Int) = 0 then ((M_sha_Of []).bind fun x12 => some x12) else ((appI 32 ([] : List (Vec UInt8 32)) a0).bind fun x23 => (runL (fun (σ31 : (List (Vec UInt8 32))) => ((if (1 : Int) < (σ31.length : Int) then ((M_tree_up σ31).bind fun x66 => some (.inl x66)) else ((((σ31[0]?).bind fun x72 => some x72)).map Sum.inr)) : Option ((List (Vec UInt8 32)) ⊕ (Vec UInt8 32)))) x23)))
set_option maxHeartbeats 1000000 in
theorem spec_103 {w : World} {H : Hp} {a0 : List (Vec UInt8 32)} {s1 : Sv} {r : (Vec UInt8 32)} (hF : M_tree_Root a0 = some r) (hT : Tab H) (hG : Good w H []) (hs1 : Sl (Fl.ty (flV flB 32)) H s1 a0) :
    Fine Tryd.prog 103 [s1.v] w H [] (fun H' v L' => v = .agg (flat [ckV flB r]).toArray ∧ L' = []) := by
  unfold M_tree_Root at hF
  unfold Fine
  obtain ⟨B, hB⟩ : ∃ B : Base, B = ⟨w, H, blks []⟩ := ⟨_, rfl⟩
  have hI : Inv B w H [] := by rw [hB]; exact Inv.start hG
  refine enter (n := 19) (args := [s1.v]) Tryd.func103 rfl Tryd.ntmps103 (Nat.le_of_ble_eq_true rfl) ?_
  refine wseq ?_
  refine wreg ?_
  refine le rfl (l_al hI rfl ze29) rfl ?_
  rintro _ w3 ⟨g2, rfl, hI⟩
  replace hI : Inv B w3 H [.cb g2 [ckV flB (Vec.rep 32 0)] 29] := hI
  refine wend ?_
  refine wthen ?_
  refine wren (fun ρ4 eρ4 => ?_)
  have h5 : opd ρ4 19 (.tmp 0) = s1.v := eρ4 0
  have h6 : opd ρ4 19 (.tmp 2) = .pointer (some ⟨g2, 0 + 0, none⟩) := eρ4 2
  clear eρ4
  refine wseq ?_
  refine wseq ?_
  refine wreg ?_
  refine lv (v := s1.v) rfl (r_mv rfl h5) rfl ?_
  refine lv (v := .int .i64 (a0.length : Int)) rfl (r_lenS rfl sl27 rfl hs1) rfl ?_
  refine lv (v := .bool (decide ((a0.length : Int) = 0))) rfl (r_eql rfl rfl rfl rfl) rfl ?_
  refine wend ?_
  refine wthen ?_
  refine wren (fun ρ7 eρ7 => ?_)
  have h8 : opd ρ7 19 (.tmp 0) = s1.v := (eρ7 0).trans h5
  have h9 : opd ρ7 19 (.tmp 2) = .pointer (some ⟨g2, 0 + 0, none⟩) := (eρ7 2).trans h6
  have h10 : opd ρ7 19 (.tmp 6) = .bool (decide ((a0.length : Int) = 0)) := eρ7 6
  clear eρ7
  by_cases hc11 : (a0.length : Int) = 0
  · skip
    rw [if_pos hc11] at hF
    have hbhc11 : (decide ((a0.length : Int) = 0)) = true := decide_eq_true hc11
    refine wcT (h10.trans (congrArg Value.bool hbhc11)) ?_
    refine wseq ?_
    refine wreg ?_
    obtain ⟨x12, hx12, hF⟩ := Option.bind_eq_some_iff.1 hF
    have hsp15 := spec_99 hx12 hT (hI.part 0) (Sl.nil _ _)
    refine fc ([]) ([.cb g2 [ckV flB (Vec.rep 32 0)] 29]) (args := [Sv.nil.v]) fc99 rfl rfl rfl hI (argc rfl rfl) (hsp15) ?_
    rintro _ H13 _ w14 ⟨rfl, rfl⟩ hleH13 hI
    replace hI : Inv B w14 H13 [.cb g2 [ckV flB (Vec.rep 32 0)] 29] := hI
    refine lst rfl (l_st (off := 0) (p := 0) (m := 1) (new := [ckV flB x12]) hI 0 rfl rfl sz29 h9 rfl rfl rfl rfl rfl) rfl ?_
    intro w16 hI
    replace hI : Inv B w16 H13 [.cb g2 [ckV flB x12] 29] := hI
    refine wend ?_
    refine wthen ?_
    refine wren (fun ρ17 eρ17 => ?_)
    have h18 : opd ρ17 19 (.tmp 2) = .pointer (some ⟨g2, 0 + 0, none⟩) := (eρ17 2).trans h9
    clear eρ17
    refine wp_ret ?_
    refine thR ?_
    obtain rfl := Option.some.inj hF
    subst hB
    refine finR (rs := [.cell 2 29]) (vs := [.agg (flat [ckV flB x12]).toArray]) rfl ⟨⟨_, h18, ld_agg (hI.good.ca 0 rfl) ag29 rfl⟩, trivial⟩ ?_
    exact hI.fin 0 ⟨rfl, rfl⟩
  · skip
    rw [if_neg hc11] at hF
    have hbhc11 : (decide ((a0.length : Int) = 0)) = false := decide_eq_false hc11
    refine wcF (h10.trans (congrArg Value.bool hbhc11)) ?_
    refine wp_skip ?_
    refine wthen ?_
    refine wseq ?_
    refine wreg ?_
    refine le rfl (l_bs (t := (Fl.ty (flV flB 32))) (vs := []) (xs := []) hI rfl sl27 inf29 rfl rfl rfl .nil rfl) rfl ?_
    rintro _ w21 ⟨s19, H20, rfl, hI, hleH20, hs19, hfs19, hgs19⟩
    refine lv (v := s1.v) rfl (r_mv rfl h8) rfl ?_
    replace hI := Inv.full (e := 29) (sz := 32) hI (show s19.n = s19.c from hfs19)
    replace hI : Inv B w21 H20 [.cb g2 [ckV flB (Vec.rep 32 0)] 29, .own s19 29 32 none] := hI
    obtain ⟨x23, hx23, hF⟩ := Option.bind_eq_some_iff.1 hF
    refine le rfl (l_app (t := (Fl.ty (flV flB 32))) hI 1 rfl rfl sl27 inf29 rfl rfl rfl rfl hs19 (hs1.mono hleH20) (appI_some hx23).1) rfl ?_
    rintro _ w27 ⟨s24, H25, gg26, rfl, hI, hleH25, hs24⟩
    rw [← (appI_some hx23).2] at hs24
    replace hI : Inv B w27 H25 [.cb g2 [ckV flB (Vec.rep 32 0)] 29, .own s24 29 32 gg26] := hI
    refine lv (v := s24.v) rfl (r_as rfl rfl) rfl ?_
    refine wend ?_
    refine wthen ?_
    refine wren (fun ρ28 eρ28 => ?_)
    have h29 : opd ρ28 19 (.tmp 2) = .pointer (some ⟨g2, 0 + 0, none⟩) := (eρ28 2).trans h9
    have h30 : opd ρ28 19 (.tmp 3) = s24.v := eρ28 3
    clear eρ28
    refine wseq ?_
    refine wp_block ?_
    refine wrun (n := 19) _ (fun (σ31 : (List (Vec UInt8 32))) ρ' w' => ∃ (H56 : Hp) (s55 : Sv), Hle H25 H56 ∧ opd ρ' 19 (.tmp 2) = .pointer (some ⟨g2, 0 + 0, none⟩) ∧ opd ρ' 19 (.tmp 3) = s55.v ∧ Sl (Fl.ty (flV flB 32)) H56 s55 σ31 ∧ Inv B w' H56 [.cb g2 [ckV flB (Vec.rep 32 0)] 29]) hF ⟨H25, s24, (Hle.refl _), h29, h30, hs24, (hI.keep [true, false])⟩ ?_
    rintro k31 σ31 ρ59 w60 ⟨H56, s55, hleH56, h57, h58, hs55, hI⟩ hy31
    obtain ⟨z31, hb31⟩ := iterK_body hy31
    have hF := hb31
    refine wseq ?_
    refine wseq ?_
    refine wreg ?_
    refine lv (v := s55.v) rfl (r_mv rfl h58) rfl ?_
    refine lv (v := .int .i64 (σ31.length : Int)) rfl (r_lenS rfl sl27 rfl hs55) rfl ?_
    refine lv (v := .bool (decide ((1 : Int) < (σ31.length : Int)))) rfl (r_gtr rfl rfl rfl rfl) rfl ?_
    refine wend ?_
    refine wthen ?_
    refine wren (fun ρ61 eρ61 => ?_)
    have h62 : opd ρ61 19 (.tmp 2) = .pointer (some ⟨g2, 0 + 0, none⟩) := (eρ61 2).trans h57
    have h63 : opd ρ61 19 (.tmp 3) = s55.v := (eρ61 3).trans h58
    have h64 : opd ρ61 19 (.tmp 13) = .bool (decide ((1 : Int) < (σ31.length : Int))) := eρ61 13
    clear eρ61
    by_cases hc65 : (1 : Int) < (σ31.length : Int)
    · skip
      rw [if_pos hc65] at hF
      have hbhc65 : (decide ((1 : Int) < (σ31.length : Int))) = true := decide_eq_true hc65
      refine wcT (h64.trans (congrArg Value.bool hbhc65)) ?_
      refine wp_skip ?_
      refine wthen ?_
      refine wp_block ?_
      refine wreg ?_
      refine lv (v := s55.v) rfl (r_mv rfl h63) rfl ?_
      obtain ⟨x66, hx66, hF⟩ := Option.bind_eq_some_iff.1 hF
      have hsp69 := spec_144 hx66 (((hT.mono hleH20).mono hleH25).mono hleH56) (hI.part 0) hs55
      refine fc ([]) ([.cb g2 [ckV flB (Vec.rep 32 0)] 29]) (args := [s55.v]) fc144 rfl rfl rfl hI (argc rfl rfl) (hsp69) ?_
      rintro _ H67 _ w68 ⟨s70, rfl, hs70, rfl⟩ hleH67 hI
      replace hI : Inv B w68 H67 [.cb g2 [ckV flB (Vec.rep 32 0)] 29] := hI
      refine lv (v := s70.v) rfl (r_as rfl rfl) rfl ?_
      refine wend ?_
      refine inN ?_
      obtain rfl := Option.some.inj hF
      exact ⟨x66, _, rfl, ⟨H67, s70, (hleH56.trans hleH67), h62, rfl, hs70, hI⟩, iterK_inl hy31 hb31⟩
    · skip
      rw [if_neg hc65] at hF
      have hbhc65 : (decide ((1 : Int) < (σ31.length : Int))) = false := decide_eq_false hc65
      refine wcF (h64.trans (congrArg Value.bool hbhc65)) ?_
      refine wp_exit ?_
      refine thE ?_
      refine thE ?_
      obtain ⟨q71, hFn, hzq71⟩ := Option.map_eq_some_iff.1 hF
      clear hF
      have hy0 := iterK_inr hy31 (hb31.trans (congrArg some hzq71.symm))
      rw [← hy0] at hFn
      have hF := hFn
      clear hFn
      refine inX ?_
      refine wthen ?_
      refine wseq ?_
      refine wreg ?_
      refine lv (v := s55.v) rfl (r_mv rfl h63) rfl ?_
      obtain ⟨x72, hx72, hF⟩ := Option.bind_eq_some_iff.1 hF
      obtain ⟨b73, j74, hix75, hil76, hA77⟩ := hs55.ixf hx72
      replace hA77 : At H56 b73 j74 [ckV flB x72] := hA77
      refine lv (v := .pointer (some ⟨b73, j74 + 0, none⟩)) rfl (r_ixt rfl sl27 rfl rfl rfl hix75 hil76) rfl ?_
      refine lv (v := .agg (flat [ckV flB x72]).toArray) rfl (r_cla (off := 0) (p := 0) (m := 1) (hA77.ca hI.good) rfl ag29 rfl rfl rfl) rfl ?_
      refine lst rfl (l_st (off := 0) (p := 0) (m := 1) (new := [ckV flB x72]) hI 0 rfl rfl sz29 h62 rfl rfl rfl rfl rfl) rfl ?_
      intro w78 hI
      replace hI : Inv B w78 H56 [.cb g2 [ckV flB x72] 29] := hI
      refine wend ?_
      refine wthen ?_
      refine wren (fun ρ79 eρ79 => ?_)
      have h80 : opd ρ79 19 (.tmp 2) = .pointer (some ⟨g2, 0 + 0, none⟩) := (eρ79 2).trans h62
      clear eρ79
      refine wp_ret ?_
      obtain rfl := Option.some.inj hF
      subst hB
      refine finR (rs := [.cell 2 29]) (vs := [.agg (flat [ckV flB x72]).toArray]) rfl ⟨⟨_, h80, ld_agg (hI.good.ca 0 rfl) ag29 rfl⟩, trivial⟩ ?_
      exact hI.fin 0 ⟨rfl, rfl⟩
noncomputable def M_keys_Tree_Key (a0 : Keys_Tree) : Option (Key) := ((M_tree_Root a0.leaves_).bind fun x12 => some (⟨x12, a0.height_⟩ : Key))
set_option maxHeartbeats 1000000 in
theorem spec_56 {w : World} {H : Hp} {a0 : Keys_Tree} {g_0 : Nat} {s1 : Sv} {r : Key} (hF : M_keys_Tree_Key a0 = some r) (hT : Tab H) (hG : Good w H [.cb g_0 [ckV flB a0.seed_, ckI a0.height_, ckL s1] 168]) (hs1 : Sl (Fl.ty (flV flB 32)) H s1 a0.leaves_) :
    Fine Tryd.prog 56 [.pointer (some ⟨g_0, 0, none⟩)] w H [.cb g_0 [ckV flB a0.seed_, ckI a0.height_, ckL s1] 168] (fun H' v L' => v = .agg (flat [ckV flB r.Root, ckI r.Height]).toArray ∧ L' = [.cb g_0 [ckV flB a0.seed_, ckI a0.height_, ckL s1] 168]) := by
  unfold M_keys_Tree_Key at hF
  unfold Fine
  obtain ⟨B, hB⟩ : ∃ B : Base, B = ⟨w, H, blks [.cb g_0 [ckV flB a0.seed_, ckI a0.height_, ckL s1] 168]⟩ := ⟨_, rfl⟩
  have hI : Inv B w H [.cb g_0 [ckV flB a0.seed_, ckI a0.height_, ckL s1] 168] := by rw [hB]; exact Inv.start hG
  refine enter (n := 16) (args := [.pointer (some ⟨g_0, 0, none⟩)]) Tryd.func56 rfl Tryd.ntmps56 (Nat.le_of_ble_eq_true rfl) ?_
  refine wseq ?_
  refine wreg ?_
  refine le rfl (l_al hI rfl ze49) rfl ?_
  rintro _ w3 ⟨g2, rfl, hI⟩
  replace hI : Inv B w3 H [.cb g_0 [ckV flB a0.seed_, ckI a0.height_, ckL s1] 168, .cb g2 [ckV flB (Vec.rep 32 0), ckI 0] 49] := hI
  refine wend ?_
  refine wthen ?_
  refine wren (fun ρ4 eρ4 => ?_)
  have h5 : opd ρ4 16 (.tmp 0) = .pointer (some ⟨g_0, 0 + 0, none⟩) := eρ4 0
  have h6 : opd ρ4 16 (.tmp 2) = .pointer (some ⟨g2, 0 + 0, none⟩) := eρ4 2
  clear eρ4
  refine wseq ?_
  refine wseq ?_
  refine wreg ?_
  refine lv (v := .pointer (some ⟨g_0, 0 + 0, none⟩)) rfl (r_mv rfl h5) rfl ?_
  refine lv (v := .bool false) rfl (r_pn rfl un106 rfl rfl) rfl ?_
  refine wend ?_
  refine wthen ?_
  refine wren (fun ρ7 eρ7 => ?_)
  have h8 : opd ρ7 16 (.tmp 0) = .pointer (some ⟨g_0, 0 + 0, none⟩) := (eρ7 0).trans h5
  have h9 : opd ρ7 16 (.tmp 2) = .pointer (some ⟨g2, 0 + 0, none⟩) := (eρ7 2).trans h6
  have h10 : opd ρ7 16 (.tmp 4) = .bool false := eρ7 4
  clear eρ7
  refine wcF h10 ?_
  refine wp_skip ?_
  refine wthen ?_
  refine wseq ?_
  refine dstG (H0 := H) (L0 := keepL [true, true] [.cb g_0 [ckV flB a0.seed_, ckI a0.height_, ckL s1] 168, .cb g2 [ckV flB (Vec.rep 32 0), ckI 0] 49]) [10] mixed rfl (by repeat (first | exact Pan.body | refine Pan.then ?_ | refine Pan.inBlock ?_ | refine Pan.noGoto ?_ | refine Pan.pure ?_)) hI (hI.good.weakm _ (Hle.refl _) rfl) ?_
  intro w11 hI hP
  refine dp (v := .pointer (some ⟨g_0, 0 + 0, none⟩)) 0 (by kernel_rfl) rfl rfl (fun _ => r_mv rfl h8) rfl hP ?_
  refine dp (v := .pointer (some ⟨g_0, 0 + 0, none⟩)) 1 (by kernel_rfl) rfl rfl (fun _ => r_nilc rfl rfl) rfl hP ?_
  refine dp (v := .pointer (some ⟨g_0, 0 + 33, none⟩)) 2 (by kernel_rfl) rfl rfl (fun _ => l_fa (j := 0) (i := 0) rfl fl168_2 rfl rfl) rfl hP ?_
  refine dp (v := .pointer (some ⟨g_0, 0 + 0, none⟩)) 5 (by kernel_rfl) rfl rfl (fun _ => r_mv rfl h8) rfl hP ?_
  refine dp (v := .pointer (some ⟨g_0, 0 + 0, none⟩)) 6 (by kernel_rfl) rfl rfl (fun _ => r_nilc rfl rfl) rfl hP ?_
  refine dp (v := .pointer (some ⟨g_0, 0 + 32, none⟩)) 7 (by kernel_rfl) rfl rfl (fun _ => l_fa (j := 0) (i := 0) rfl fl168_1 rfl rfl) rfl hP ?_
  refine dr (v := s1.v) 3 (by kernel_rfl) rfl rfl (hI.good.weakm [true, true] (Hle.refl _) rfl) (fun _ hG => r_cl1 (off := 33) (p := 2) (hG.ca 0 rfl) rfl sc27 rfl rfl rfl) rfl hP ?_
  refine dr (v := .int .i64 a0.height_) 8 (by kernel_rfl) rfl rfl (hI.good.weakm [true, true] (Hle.refl _) rfl) (fun _ hG => r_cl1 (off := 32) (p := 1) (hG.ca 0 rfl) rfl sc3 rfl rfl rfl) rfl hP ?_
  obtain ⟨x12, hx12, hF⟩ := Option.bind_eq_some_iff.1 hF
  have hsp15 := spec_103 hx12 hT (hI.part 0) hs1
  refine dfc 4 ([]) ([.cb g_0 [ckV flB a0.seed_, ckI a0.height_, ckL s1] 168, .cb g2 [ckV flB (Vec.rep 32 0), ckI 0] 49]) (args := [s1.v]) fc103 (by kernel_rfl) rfl rfl rfl rfl rfl hI (argc rfl rfl) (hsp15) ?_
  rintro _ H13 _ w14 ⟨rfl, rfl⟩ hleH13 hI
  replace hI : Inv B w14 H13 [.cb g_0 [ckV flB a0.seed_, ckI a0.height_, ckL s1] 168, .cb g2 [ckV flB (Vec.rep 32 0), ckI 0] 49] := hI
  refine ⟨(hI.good.weakm [true, true] hleH13 rfl), ?_⟩
  refine dp (v := .agg (flat [ckV flB x12, ckI a0.height_]).toArray) 9 (by kernel_rfl) rfl rfl (fun _ => r_bldk (z := [[ckV flB (Vec.rep 32 0)], [ckI 0]]) (pc := [(0, [ckV flB x12]), (1, [ckI a0.height_])]) rfl zg49 bf49 rfl (argc (congrArg Value.cells rfl) (argc (congrArg Value.cells rfl) rfl)) rfl rfl) rfl hP ?_
  refine dsl 10 (by kernel_rfl) rfl rfl rfl (l_st (off := 0) (p := 0) (m := 2) (new := [ckV flB x12, ckI a0.height_]) hI 1 rfl rfl sz49 h9 rfl rfl rfl rfl rfl) rfl ?_
  intro w16 hI
  replace hI : Inv B w16 H13 [.cb g_0 [ckV flB a0.seed_, ckI a0.height_, ckL s1] 168, .cb g2 [ckV flB x12, ckI a0.height_] 49] := hI
  refine dend (by kernel_rfl) ?_
  refine wthen ?_
  refine wren (fun ρ17 eρ17 => ?_)
  have h18 : opd ρ17 16 (.tmp 2) = .pointer (some ⟨g2, 0 + 0, none⟩) := (eρ17 2).trans h9
  clear eρ17
  refine wp_ret ?_
  obtain rfl := Option.some.inj hF
  subst hB
  refine finR (rs := [.cell 2 49]) (vs := [.agg (flat [ckV flB x12, ckI a0.height_]).toArray]) rfl ⟨⟨_, h18, ld_agg (hI.good.ca 1 rfl) ag49 rfl⟩, trivial⟩ ?_
  exact hI.fin 1 ⟨rfl, rfl⟩
noncomputable def M_wapentakelaw14_alive  : Option (Bool) := ((M_keys_New (Vec.set (Vec.rep 32 0) 0 1) 0).bind fun x2 => match x2.1 with | none => (if x2.2 ≠ 0 then some false else none) | some t5 => (if x2.2 ≠ 0 then some false else ((M_keys_Tree_Key t5).bind fun x29 => ((M_block_Digest (⟨0, 1, (Vec.rep 32 0), (Vec.rep 32 0), (Vec.rep 32 0), []⟩ : Block)).bind fun x49 => ((M_vote_Signs (⟨2, 0, 1, 0, x49, 1, (⟨0, (⟨[], []⟩ : Once), []⟩ : Sig)⟩ : Vote)).bind fun x61 => ((M_keys_Tree_Sign t5 0 x61).bind fun x65 => ((M_cert_Make (⟨0, [(⟨1, (⟨x29.Root, x29.Height⟩ : Key)⟩ : Member)]⟩ : Config) [(⟨2, 0, 1, 0, x49, 1, (⟨x65.1.Leaf, (⟨x65.1.Once.Open, x65.1.Once.Shut⟩ : Once), x65.1.Path⟩ : Sig)⟩ : Vote)]).bind fun x80 => (if x80.2 = true then ((M_cert_Check (⟨0, [(⟨1, (⟨x29.Root, x29.Height⟩ : Key)⟩ : Member)]⟩ : Config) (⟨0, 1, (Vec.rep 32 0), (Vec.rep 32 0), (Vec.rep 32 0), []⟩ : Block) x80.1).bind fun x94 => some x94) else some false))))))))
set_option maxHeartbeats 4000000 in
theorem spec_44 {w : World} {H : Hp}   {r : Bool} (hF : M_wapentakelaw14_alive  = some r) (hT : Tab H) (hG : Good w H [])  :
    Fine Tryd.prog 44 [] w H [] (fun H' v L' => v = .bool r ∧ L' = []) := by
  unfold M_wapentakelaw14_alive at hF
  unfold Fine
  obtain ⟨B, hB⟩ : ∃ B : Base, B = ⟨w, H, blks []⟩ := ⟨_, rfl⟩
  have hI : Inv B w H [] := by rw [hB]; exact Inv.start hG
  refine enter (n := 46) (args := []) Tryd.func44 rfl Tryd.ntmps44 (Nat.le_of_ble_eq_true rfl) ?_
  refine wseq ?_
  refine wreg ?_
  refine lv (v := .bool false) rfl (r_as rfl rfl) rfl ?_
  refine wend ?_
  refine wthen ?_
  refine wren (fun ρ1 eρ1 => ?_)
  clear eρ1
  refine wseq ?_
  refine wreg ?_
  refine lv (v := .agg (flat [ckV flB (Vec.set (Vec.rep 32 0) 0 1)]).toArray) rfl (r_bldc rfl ze29 ar29 rfl rfl) rfl ?_
  obtain ⟨x2, hx2, hF⟩ := Option.bind_eq_some_iff.1 hF
  have hsp6 := spec_52 hx2 hT (hI.part 0) 
  refine fc ([]) ([]) (args := [.agg (flat [ckV flB (Vec.set (Vec.rep 32 0) 0 1)]).toArray, .int .i64 0]) fc52 rfl rfl rfl hI (argc rfl (argc rfl rfl)) (hsp6) ?_
  rintro _ H3 _ w4 (⟨hn10, rfl, rfl⟩ | ⟨t5, s8, g7, hn10, rfl, hs8, rfl⟩) hleH3 hI
  · skip
    replace hI : Inv B w4 H3 [] := hI
    rw [hn10] at hF; dsimp only at hF
    refine lv (v := .tuple #[.pointer none, .int .i64 x2.2]) rfl (r_mv rfl rfl) rfl ?_
    refine lv (v := .pointer none) rfl (r_ext rfl rfl rfl) rfl ?_
    refine lv (v := .int .i64 x2.2) rfl (r_ext rfl rfl rfl) rfl ?_
    refine lv (v := .pointer none) rfl (r_as rfl rfl) rfl ?_
    refine lv (v := .int .i64 x2.2) rfl (r_as rfl rfl) rfl ?_
    refine wend ?_
    refine wthen ?_
    refine wren (fun ρ11 eρ11 => ?_)
    have h12 : opd ρ11 46 (.tmp 1) = .pointer none := eρ11 1
    have h13 : opd ρ11 46 (.tmp 2) = .int .i64 x2.2 := eρ11 2
    clear eρ11
    refine wseq ?_
    refine wseq ?_
    refine wreg ?_
    refine lv (v := .int .i64 x2.2) rfl (r_mv rfl h13) rfl ?_
    refine lv (v := .bool (decide (x2.2 ≠ 0))) rfl (r_neq rfl rfl rfl rfl) rfl ?_
    refine wend ?_
    refine wthen ?_
    refine wren (fun ρ14 eρ14 => ?_)
    have h15 : opd ρ14 46 (.tmp 1) = .pointer none := (eρ14 1).trans h12
    have h16 : opd ρ14 46 (.tmp 14) = .bool (decide (x2.2 ≠ 0)) := eρ14 14
    clear eρ14
    by_cases hc17 : x2.2 ≠ 0
    · skip
      rw [if_pos hc17] at hF
      have hbhc17 : (decide (x2.2 ≠ 0)) = true := decide_eq_true hc17
      refine wcT (h16.trans (congrArg Value.bool hbhc17)) ?_
      refine wseq ?_
      refine wreg ?_
      refine lv (v := .bool false) rfl (r_as rfl rfl) rfl ?_
      refine wend ?_
      refine wthen ?_
      refine wren (fun ρ18 eρ18 => ?_)
      have h19 : opd ρ18 46 (.tmp 0) = .bool false := eρ18 0
      clear eρ18
      refine wp_ret ?_
      refine thR ?_
      obtain rfl := Option.some.inj hF
      subst hB
      refine finR (rs := [.tmp 0]) (vs := [.bool false]) rfl ⟨h19, trivial⟩ ?_
      exact hI.fin 0 ⟨rfl, rfl⟩
    · skip
      rw [if_neg hc17] at hF
      have hbhc17 : (decide (x2.2 ≠ 0)) = false := decide_eq_false hc17
      refine wcF (h16.trans (congrArg Value.bool hbhc17)) ?_
      refine wp_skip ?_
      refine wthen ?_
      refine wseq ?_
      refine wreg ?_
      refine lv (v := .pointer none) rfl (r_mv rfl h15) rfl ?_
      cases hF
  · skip
    replace hI : Inv B w4 H3 [.cb g7 [ckV flB t5.seed_, ckI t5.height_, ckL s8] 168] := hI
    rw [hn10] at hF; dsimp only at hF
    refine lv (v := .tuple #[.pointer (some ⟨g7, 0 + 0, none⟩), .int .i64 x2.2]) rfl (r_mv rfl rfl) rfl ?_
    refine lv (v := .pointer (some ⟨g7, 0 + 0, none⟩)) rfl (r_ext rfl rfl rfl) rfl ?_
    refine lv (v := .int .i64 x2.2) rfl (r_ext rfl rfl rfl) rfl ?_
    refine lv (v := .pointer (some ⟨g7, 0 + 0, none⟩)) rfl (r_as rfl rfl) rfl ?_
    refine lv (v := .int .i64 x2.2) rfl (r_as rfl rfl) rfl ?_
    refine wend ?_
    refine wthen ?_
    refine wren (fun ρ20 eρ20 => ?_)
    have h21 : opd ρ20 46 (.tmp 1) = .pointer (some ⟨g7, 0 + 0, none⟩) := eρ20 1
    have h22 : opd ρ20 46 (.tmp 2) = .int .i64 x2.2 := eρ20 2
    clear eρ20
    refine wseq ?_
    refine wseq ?_
    refine wreg ?_
    refine lv (v := .int .i64 x2.2) rfl (r_mv rfl h22) rfl ?_
    refine lv (v := .bool (decide (x2.2 ≠ 0))) rfl (r_neq rfl rfl rfl rfl) rfl ?_
    refine wend ?_
    refine wthen ?_
    refine wren (fun ρ23 eρ23 => ?_)
    have h24 : opd ρ23 46 (.tmp 1) = .pointer (some ⟨g7, 0 + 0, none⟩) := (eρ23 1).trans h21
    have h25 : opd ρ23 46 (.tmp 14) = .bool (decide (x2.2 ≠ 0)) := eρ23 14
    clear eρ23
    by_cases hc26 : x2.2 ≠ 0
    · skip
      rw [if_pos hc26] at hF
      have hbhc26 : (decide (x2.2 ≠ 0)) = true := decide_eq_true hc26
      refine wcT (h25.trans (congrArg Value.bool hbhc26)) ?_
      refine wseq ?_
      refine wreg ?_
      refine lv (v := .bool false) rfl (r_as rfl rfl) rfl ?_
      refine wend ?_
      refine wthen ?_
      refine wren (fun ρ27 eρ27 => ?_)
      have h28 : opd ρ27 46 (.tmp 0) = .bool false := eρ27 0
      clear eρ27
      refine wp_ret ?_
      refine thR ?_
      obtain rfl := Option.some.inj hF
      subst hB
      refine finR (rs := [.tmp 0]) (vs := [.bool false]) rfl ⟨h28, trivial⟩ ?_
      exact hI.fin 0 ⟨rfl, rfl⟩
    · skip
      rw [if_neg hc26] at hF
      have hbhc26 : (decide (x2.2 ≠ 0)) = false := decide_eq_false hc26
      refine wcF (h25.trans (congrArg Value.bool hbhc26)) ?_
      refine wp_skip ?_
      refine wthen ?_
      refine wseq ?_
      refine wreg ?_
      refine lv (v := .pointer (some ⟨g7, 0 + 0, none⟩)) rfl (r_mv rfl h24) rfl ?_
      obtain ⟨x29, hx29, hF⟩ := Option.bind_eq_some_iff.1 hF
      have hsp32 := spec_56 hx29 (hT.mono hleH3) (hI.part 1) hs8
      refine fc ([.cb g7 [ckV flB t5.seed_, ckI t5.height_, ckL s8] 168]) ([]) (args := [.pointer (some ⟨g7, 0 + 0, none⟩)]) fc56 rfl rfl rfl hI (argc rfl rfl) (hsp32) ?_
      rintro _ H30 _ w31 ⟨rfl, rfl⟩ hleH30 hI
      replace hI : Inv B w31 H30 [.cb g7 [ckV flB t5.seed_, ckI t5.height_, ckL s8] 168] := hI
      refine lv (v := .agg (flat [ckI 1, ckV flB x29.Root, ckI x29.Height]).toArray) rfl (r_bldk (z := [[ckI 0], [ckV flB (Vec.rep 32 0), ckI 0]]) (pc := [(0, [ckI 1]), (1, [ckV flB x29.Root, ckI x29.Height])]) rfl zg114 bf114 rfl (argc (congrArg Value.cells rfl) (argc (congrArg Value.cells rfl) rfl)) rfl rfl) rfl ?_
      refine le rfl (l_bs (t := (Fl.ty fl_Member)) (vs := [.agg (flat [ckI 1, ckV flB x29.Root, ckI x29.Height]).toArray]) (xs := [(⟨1, (⟨x29.Root, x29.Height⟩ : Key)⟩ : Member)]) hI rfl sl62 inf114 rfl rfl (argc rfl rfl) (.cons rfl rfl .nil) rfl) rfl ?_
      rintro _ w35 ⟨s33, H34, rfl, hI, hleH34, hs33, hfs33, hgs33⟩
      refine lv (v := .agg (flat [ckI 0, ckL s33]).toArray) rfl (r_bldk (z := [[ckI 0], [ckL Sv.nil]]) (pc := [(1, [ckL s33])]) rfl zg64 bf64 rfl (argc (congrArg Value.cells rfl) rfl) rfl rfl) rfl ?_
      refine le rfl (l_al hI rfl ze64) rfl ?_
      rintro _ w37 ⟨g36, rfl, hI⟩
      replace hI : Inv B w37 H34 [.cb g7 [ckV flB t5.seed_, ckI t5.height_, ckL s8] 168, .cb g36 [ckI 0, ckL Sv.nil] 64] := hI
      refine lst rfl (l_st (off := 0) (p := 0) (m := 2) (new := [ckI 0, ckL s33]) hI 1 rfl rfl sz64 rfl rfl rfl rfl rfl rfl) rfl ?_
      intro w38 hI
      replace hI : Inv B w38 H34 [.cb g7 [ckV flB t5.seed_, ckI t5.height_, ckL s8] 168, .cb g36 [ckI 0, ckL s33] 64] := hI
      refine wend ?_
      refine wthen ?_
      refine wren (fun ρ39 eρ39 => ?_)
      have h40 : opd ρ39 46 (.tmp 1) = .pointer (some ⟨g7, 0 + 0, none⟩) := (eρ39 1).trans h24
      have h41 : opd ρ39 46 (.tmp 3) = .pointer (some ⟨g36, 0 + 0, none⟩) := eρ39 3
      clear eρ39
      refine wseq ?_
      refine wreg ?_
      refine lv (v := .agg (flat [ckI 0, ckI 1, ckV flB (Vec.rep 32 0), ckV flB (Vec.rep 32 0), ckV flB (Vec.rep 32 0), ckL Sv.nil]).toArray) rfl (r_bldk (z := [[ckI 0], [ckI 0], [ckV flB (Vec.rep 32 0)], [ckV flB (Vec.rep 32 0)], [ckV flB (Vec.rep 32 0)], [ckL Sv.nil]]) (pc := [(1, [ckI 1])]) rfl zg69 bf69 rfl (argc (congrArg Value.cells rfl) rfl) rfl rfl) rfl ?_
      refine le rfl (l_al hI rfl ze69) rfl ?_
      rintro _ w43 ⟨g42, rfl, hI⟩
      replace hI : Inv B w43 H34 [.cb g7 [ckV flB t5.seed_, ckI t5.height_, ckL s8] 168, .cb g36 [ckI 0, ckL s33] 64, .cb g42 [ckI 0, ckI 0, ckV flB (Vec.rep 32 0), ckV flB (Vec.rep 32 0), ckV flB (Vec.rep 32 0), ckL Sv.nil] 69] := hI
      refine lst rfl (l_st (off := 0) (p := 0) (m := 6) (new := [ckI 0, ckI 1, ckV flB (Vec.rep 32 0), ckV flB (Vec.rep 32 0), ckV flB (Vec.rep 32 0), ckL Sv.nil]) hI 2 rfl rfl sz69 rfl rfl rfl rfl rfl rfl) rfl ?_
      intro w44 hI
      replace hI : Inv B w44 H34 [.cb g7 [ckV flB t5.seed_, ckI t5.height_, ckL s8] 168, .cb g36 [ckI 0, ckL s33] 64, .cb g42 [ckI 0, ckI 1, ckV flB (Vec.rep 32 0), ckV flB (Vec.rep 32 0), ckV flB (Vec.rep 32 0), ckL Sv.nil] 69] := hI
      refine wend ?_
      refine wthen ?_
      refine wren (fun ρ45 eρ45 => ?_)
      have h46 : opd ρ45 46 (.tmp 1) = .pointer (some ⟨g7, 0 + 0, none⟩) := (eρ45 1).trans h40
      have h47 : opd ρ45 46 (.tmp 3) = .pointer (some ⟨g36, 0 + 0, none⟩) := (eρ45 3).trans h41
      have h48 : opd ρ45 46 (.tmp 4) = .pointer (some ⟨g42, 0 + 0, none⟩) := eρ45 4
      clear eρ45
      refine wseq ?_
      refine wreg ?_
      refine lv (v := .agg (flat [ckI 0, ckI 1, ckV flB (Vec.rep 32 0), ckV flB (Vec.rep 32 0), ckV flB (Vec.rep 32 0), ckL Sv.nil]).toArray) rfl (r_cla (off := 0) (p := 0) (m := 6) (hI.good.ca 2 rfl) rfl ag69 h48 rfl rfl) rfl ?_
      obtain ⟨x49, hx49, hF⟩ := Option.bind_eq_some_iff.1 hF
      have hsp52 := spec_86 hx49 (((hT.mono hleH3).mono hleH30).mono hleH34) (hI.part 0) (Sl.nil _ _)
      refine fc ([]) ([.cb g7 [ckV flB t5.seed_, ckI t5.height_, ckL s8] 168, .cb g36 [ckI 0, ckL s33] 64, .cb g42 [ckI 0, ckI 1, ckV flB (Vec.rep 32 0), ckV flB (Vec.rep 32 0), ckV flB (Vec.rep 32 0), ckL Sv.nil] 69]) (args := [.agg (flat [ckI 0, ckI 1, ckV flB (Vec.rep 32 0), ckV flB (Vec.rep 32 0), ckV flB (Vec.rep 32 0), ckL Sv.nil]).toArray]) fc86 rfl rfl rfl hI (argc rfl rfl) (hsp52) ?_
      rintro _ H50 _ w51 ⟨rfl, rfl⟩ hleH50 hI
      replace hI : Inv B w51 H50 [.cb g7 [ckV flB t5.seed_, ckI t5.height_, ckL s8] 168, .cb g36 [ckI 0, ckL s33] 64, .cb g42 [ckI 0, ckI 1, ckV flB (Vec.rep 32 0), ckV flB (Vec.rep 32 0), ckV flB (Vec.rep 32 0), ckL Sv.nil] 69] := hI
      refine lv (v := .agg (flat [ckI 2, ckI 0, ckI 1, ckI 0, ckV flB x49, ckI 1, ckI 0, ckL Sv.nil, ckL Sv.nil, ckL Sv.nil]).toArray) rfl (r_bldk (z := [[ckI 0], [ckI 0], [ckI 0], [ckI 0], [ckV flB (Vec.rep 32 0)], [ckI 0], [ckI 0, ckL Sv.nil, ckL Sv.nil, ckL Sv.nil]]) (pc := [(0, [ckI 2]), (2, [ckI 1]), (4, [ckV flB x49]), (5, [ckI 1])]) rfl zg35 bf35 rfl (argc (congrArg Value.cells rfl) (argc (congrArg Value.cells rfl) (argc (congrArg Value.cells rfl) (argc (congrArg Value.cells rfl) rfl)))) rfl rfl) rfl ?_
      refine le rfl (l_al hI rfl ze35) rfl ?_
      rintro _ w54 ⟨g53, rfl, hI⟩
      replace hI : Inv B w54 H50 [.cb g7 [ckV flB t5.seed_, ckI t5.height_, ckL s8] 168, .cb g36 [ckI 0, ckL s33] 64, .cb g42 [ckI 0, ckI 1, ckV flB (Vec.rep 32 0), ckV flB (Vec.rep 32 0), ckV flB (Vec.rep 32 0), ckL Sv.nil] 69, .cb g53 [ckI 0, ckI 0, ckI 0, ckI 0, ckV flB (Vec.rep 32 0), ckI 0, ckI 0, ckL Sv.nil, ckL Sv.nil, ckL Sv.nil] 35] := hI
      refine lst rfl (l_st (off := 0) (p := 0) (m := 10) (new := [ckI 2, ckI 0, ckI 1, ckI 0, ckV flB x49, ckI 1, ckI 0, ckL Sv.nil, ckL Sv.nil, ckL Sv.nil]) hI 3 rfl rfl sz35 rfl rfl rfl rfl rfl rfl) rfl ?_
      intro w55 hI
      replace hI : Inv B w55 H50 [.cb g7 [ckV flB t5.seed_, ckI t5.height_, ckL s8] 168, .cb g36 [ckI 0, ckL s33] 64, .cb g42 [ckI 0, ckI 1, ckV flB (Vec.rep 32 0), ckV flB (Vec.rep 32 0), ckV flB (Vec.rep 32 0), ckL Sv.nil] 69, .cb g53 [ckI 2, ckI 0, ckI 1, ckI 0, ckV flB x49, ckI 1, ckI 0, ckL Sv.nil, ckL Sv.nil, ckL Sv.nil] 35] := hI
      refine wend ?_
      refine wthen ?_
      refine wren (fun ρ56 eρ56 => ?_)
      have h57 : opd ρ56 46 (.tmp 1) = .pointer (some ⟨g7, 0 + 0, none⟩) := (eρ56 1).trans h46
      have h58 : opd ρ56 46 (.tmp 3) = .pointer (some ⟨g36, 0 + 0, none⟩) := (eρ56 3).trans h47
      have h59 : opd ρ56 46 (.tmp 4) = .pointer (some ⟨g42, 0 + 0, none⟩) := (eρ56 4).trans h48
      have h60 : opd ρ56 46 (.tmp 5) = .pointer (some ⟨g53, 0 + 0, none⟩) := eρ56 5
      clear eρ56
      refine wseq ?_
      refine wreg ?_
      refine lv (v := .pointer (some ⟨g7, 0 + 0, none⟩)) rfl (r_mv rfl h57) rfl ?_
      refine lv (v := .agg (flat [ckI 2, ckI 0, ckI 1, ckI 0, ckV flB x49, ckI 1, ckI 0, ckL Sv.nil, ckL Sv.nil, ckL Sv.nil]).toArray) rfl (r_cla (off := 0) (p := 0) (m := 10) (hI.good.ca 3 rfl) rfl ag35 h60 rfl rfl) rfl ?_
      obtain ⟨x61, hx61, hF⟩ := Option.bind_eq_some_iff.1 hF
      have hsp64 := spec_54 hx61 ((((hT.mono hleH3).mono hleH30).mono hleH34).mono hleH50) (hI.part 0) (Sl.nil _ _) (Sl.nil _ _) (Sl.nil _ _)
      refine fc ([]) ([.cb g7 [ckV flB t5.seed_, ckI t5.height_, ckL s8] 168, .cb g36 [ckI 0, ckL s33] 64, .cb g42 [ckI 0, ckI 1, ckV flB (Vec.rep 32 0), ckV flB (Vec.rep 32 0), ckV flB (Vec.rep 32 0), ckL Sv.nil] 69, .cb g53 [ckI 2, ckI 0, ckI 1, ckI 0, ckV flB x49, ckI 1, ckI 0, ckL Sv.nil, ckL Sv.nil, ckL Sv.nil] 35]) (args := [.agg (flat [ckI 2, ckI 0, ckI 1, ckI 0, ckV flB x49, ckI 1, ckI 0, ckL Sv.nil, ckL Sv.nil, ckL Sv.nil]).toArray]) fc54 rfl rfl rfl hI (argc rfl rfl) (hsp64) ?_
      rintro _ H62 _ w63 ⟨rfl, rfl⟩ hleH62 hI
      replace hI : Inv B w63 H62 [.cb g7 [ckV flB t5.seed_, ckI t5.height_, ckL s8] 168, .cb g36 [ckI 0, ckL s33] 64, .cb g42 [ckI 0, ckI 1, ckV flB (Vec.rep 32 0), ckV flB (Vec.rep 32 0), ckV flB (Vec.rep 32 0), ckL Sv.nil] 69, .cb g53 [ckI 2, ckI 0, ckI 1, ckI 0, ckV flB x49, ckI 1, ckI 0, ckL Sv.nil, ckL Sv.nil, ckL Sv.nil] 35] := hI
      obtain ⟨x65, hx65, hF⟩ := Option.bind_eq_some_iff.1 hF
      have hsp68 := spec_53 hx65 (((((hT.mono hleH3).mono hleH30).mono hleH34).mono hleH50).mono hleH62) (hI.part 1) ((((hs8.mono hleH30).mono hleH34).mono hleH50).mono hleH62)
      refine fc ([.cb g7 [ckV flB t5.seed_, ckI t5.height_, ckL s8] 168]) ([.cb g36 [ckI 0, ckL s33] 64, .cb g42 [ckI 0, ckI 1, ckV flB (Vec.rep 32 0), ckV flB (Vec.rep 32 0), ckV flB (Vec.rep 32 0), ckL Sv.nil] 69, .cb g53 [ckI 2, ckI 0, ckI 1, ckI 0, ckV flB x49, ckI 1, ckI 0, ckL Sv.nil, ckL Sv.nil, ckL Sv.nil] 35]) (args := [.pointer (some ⟨g7, 0 + 0, none⟩), .int .i64 0, .agg (flat [ckV flB x61]).toArray]) fc53 rfl rfl rfl hI (argc rfl (argc rfl (argc rfl rfl))) (hsp68) ?_
      rintro _ H66 _ w67 ⟨s69, s70, s71, rfl, hs69, hs70, hs71, rfl⟩ hleH66 hI
      replace hI : Inv B w67 H66 [.cb g7 [ckV flB t5.seed_, ckI t5.height_, ckL s8] 168, .cb g36 [ckI 0, ckL s33] 64, .cb g42 [ckI 0, ckI 1, ckV flB (Vec.rep 32 0), ckV flB (Vec.rep 32 0), ckV flB (Vec.rep 32 0), ckL Sv.nil] 69, .cb g53 [ckI 2, ckI 0, ckI 1, ckI 0, ckV flB x49, ckI 1, ckI 0, ckL Sv.nil, ckL Sv.nil, ckL Sv.nil] 35] := hI
      refine lv (v := .tuple #[.agg (flat [ckI x65.1.Leaf, ckL s69, ckL s70, ckL s71]).toArray, .int .i64 x65.2]) rfl (r_mv rfl rfl) rfl ?_
      refine lv (v := .agg (flat [ckI x65.1.Leaf, ckL s69, ckL s70, ckL s71]).toArray) rfl (r_ext rfl rfl rfl) rfl ?_
      refine lv (v := .int .i64 x65.2) rfl (r_ext rfl rfl rfl) rfl ?_
      refine lv (v := .pointer (some ⟨g53, 0 + 37, none⟩)) rfl (l_fa (j := 0) (i := 0) rfl fl35_6 h60 rfl) rfl ?_
      refine lst rfl (l_st (off := 37) (p := 6) (m := 4) (new := [ckI x65.1.Leaf, ckL s69, ckL s70, ckL s71]) hI 3 rfl rfl sz33 rfl rfl rfl rfl rfl rfl) rfl ?_
      intro w72 hI
      replace hI : Inv B w72 H66 [.cb g7 [ckV flB t5.seed_, ckI t5.height_, ckL s8] 168, .cb g36 [ckI 0, ckL s33] 64, .cb g42 [ckI 0, ckI 1, ckV flB (Vec.rep 32 0), ckV flB (Vec.rep 32 0), ckV flB (Vec.rep 32 0), ckL Sv.nil] 69, .cb g53 [ckI 2, ckI 0, ckI 1, ckI 0, ckV flB x49, ckI 1, ckI x65.1.Leaf, ckL s69, ckL s70, ckL s71] 35] := hI
      refine wend ?_
      refine wthen ?_
      refine wren (fun ρ73 eρ73 => ?_)
      have h74 : opd ρ73 46 (.tmp 3) = .pointer (some ⟨g36, 0 + 0, none⟩) := (eρ73 3).trans h58
      have h75 : opd ρ73 46 (.tmp 4) = .pointer (some ⟨g42, 0 + 0, none⟩) := (eρ73 4).trans h59
      have h76 : opd ρ73 46 (.tmp 5) = .pointer (some ⟨g53, 0 + 0, none⟩) := (eρ73 5).trans h60
      clear eρ73
      refine wseq ?_
      refine wreg ?_
      refine lv (v := .agg (flat [ckI 0, ckL s33]).toArray) rfl (r_cla (off := 0) (p := 0) (m := 2) (hI.good.ca 1 rfl) rfl ag64 h74 rfl rfl) rfl ?_
      refine lv (v := .agg (flat [ckI 2, ckI 0, ckI 1, ckI 0, ckV flB x49, ckI 1, ckI x65.1.Leaf, ckL s69, ckL s70, ckL s71]).toArray) rfl (r_cla (off := 0) (p := 0) (m := 10) (hI.good.ca 3 rfl) rfl ag35 h76 rfl rfl) rfl ?_
      refine le rfl (l_bs (t := ty_Vote) (vs := [.agg (flat [ckI 2, ckI 0, ckI 1, ckI 0, ckV flB x49, ckI 1, ckI x65.1.Leaf, ckL s69, ckL s70, ckL s71]).toArray]) (xs := [(⟨2, 0, 1, 0, x49, 1, (⟨x65.1.Leaf, (⟨x65.1.Once.Open, x65.1.Once.Shut⟩ : Once), x65.1.Path⟩ : Sig)⟩ : Vote)]) hI rfl sl22 inf35 rfl rfl (argc rfl rfl) (.cons rfl ⟨s69, s70, s71, rfl, hs69, hs70, hs71⟩ .nil) rfl) rfl ?_
      rintro _ w79 ⟨s77, H78, rfl, hI, hleH78, hs77, hfs77, hgs77⟩
      obtain ⟨x80, hx80, hF⟩ := Option.bind_eq_some_iff.1 hF
      have hsp83 := spec_49 hx80 (((((((hT.mono hleH3).mono hleH30).mono hleH34).mono hleH50).mono hleH62).mono hleH66).mono hleH78) (hI.part 0) ((((hs33.mono hleH50).mono hleH62).mono hleH66).mono hleH78) hs77
      refine fc ([]) ([.cb g7 [ckV flB t5.seed_, ckI t5.height_, ckL s8] 168, .cb g36 [ckI 0, ckL s33] 64, .cb g42 [ckI 0, ckI 1, ckV flB (Vec.rep 32 0), ckV flB (Vec.rep 32 0), ckV flB (Vec.rep 32 0), ckL Sv.nil] 69, .cb g53 [ckI 2, ckI 0, ckI 1, ckI 0, ckV flB x49, ckI 1, ckI x65.1.Leaf, ckL s69, ckL s70, ckL s71] 35]) (args := [.agg (flat [ckI 0, ckL s33]).toArray, s77.v]) fc49 rfl rfl rfl hI (argc rfl (argc rfl rfl)) (hsp83) ?_
      rintro _ H81 _ w82 ⟨s84, rfl, hs84, rfl⟩ hleH81 hI
      replace hI : Inv B w82 H81 [.cb g7 [ckV flB t5.seed_, ckI t5.height_, ckL s8] 168, .cb g36 [ckI 0, ckL s33] 64, .cb g42 [ckI 0, ckI 1, ckV flB (Vec.rep 32 0), ckV flB (Vec.rep 32 0), ckV flB (Vec.rep 32 0), ckL Sv.nil] 69, .cb g53 [ckI 2, ckI 0, ckI 1, ckI 0, ckV flB x49, ckI 1, ckI x65.1.Leaf, ckL s69, ckL s70, ckL s71] 35] := hI
      refine lv (v := .tuple #[.agg (flat [ckI x80.1.Round, ckL s84]).toArray, .bool x80.2]) rfl (r_mv rfl rfl) rfl ?_
      refine lv (v := .agg (flat [ckI x80.1.Round, ckL s84]).toArray) rfl (r_ext rfl rfl rfl) rfl ?_
      refine lv (v := .bool x80.2) rfl (r_ext rfl rfl rfl) rfl ?_
      refine le rfl (l_al hI rfl ze71) rfl ?_
      rintro _ w86 ⟨g85, rfl, hI⟩
      replace hI : Inv B w86 H81 [.cb g7 [ckV flB t5.seed_, ckI t5.height_, ckL s8] 168, .cb g36 [ckI 0, ckL s33] 64, .cb g42 [ckI 0, ckI 1, ckV flB (Vec.rep 32 0), ckV flB (Vec.rep 32 0), ckV flB (Vec.rep 32 0), ckL Sv.nil] 69, .cb g53 [ckI 2, ckI 0, ckI 1, ckI 0, ckV flB x49, ckI 1, ckI x65.1.Leaf, ckL s69, ckL s70, ckL s71] 35, .cb g85 [ckI 0, ckL Sv.nil] 71] := hI
      refine lst rfl (l_st (off := 0) (p := 0) (m := 2) (new := [ckI x80.1.Round, ckL s84]) hI 4 rfl rfl sz71 rfl rfl rfl rfl rfl rfl) rfl ?_
      intro w87 hI
      replace hI : Inv B w87 H81 [.cb g7 [ckV flB t5.seed_, ckI t5.height_, ckL s8] 168, .cb g36 [ckI 0, ckL s33] 64, .cb g42 [ckI 0, ckI 1, ckV flB (Vec.rep 32 0), ckV flB (Vec.rep 32 0), ckV flB (Vec.rep 32 0), ckL Sv.nil] 69, .cb g53 [ckI 2, ckI 0, ckI 1, ckI 0, ckV flB x49, ckI 1, ckI x65.1.Leaf, ckL s69, ckL s70, ckL s71] 35, .cb g85 [ckI x80.1.Round, ckL s84] 71] := hI
      refine lv (v := .bool x80.2) rfl (r_as rfl rfl) rfl ?_
      refine wend ?_
      refine wthen ?_
      refine wren (fun ρ88 eρ88 => ?_)
      have h89 : opd ρ88 46 (.tmp 3) = .pointer (some ⟨g36, 0 + 0, none⟩) := (eρ88 3).trans h74
      have h90 : opd ρ88 46 (.tmp 4) = .pointer (some ⟨g42, 0 + 0, none⟩) := (eρ88 4).trans h75
      have h91 : opd ρ88 46 (.tmp 6) = .pointer (some ⟨g85, 0 + 0, none⟩) := eρ88 6
      have h92 : opd ρ88 46 (.tmp 7) = .bool x80.2 := eρ88 7
      clear eρ88
      refine wseq ?_
      refine wreg ?_
      refine lv (v := .bool x80.2) rfl (r_mv rfl h92) rfl ?_
      by_cases hc93 : x80.2 = true
      · skip
        rw [if_pos hc93] at hF
        have hbhc93 : x80.2 = true := hc93
        refine lv (v := .bool true) rfl (r_mv rfl ((show opd _ _ _ = _ from rfl).trans (congrArg Value.bool hbhc93))) rfl ?_
        refine lv (v := .agg (flat [ckI 0, ckL s33]).toArray) rfl (r_cla (off := 0) (p := 0) (m := 2) (hI.good.ca 1 rfl) rfl ag64 h89 rfl rfl) rfl ?_
        refine lv (v := .agg (flat [ckI 0, ckI 1, ckV flB (Vec.rep 32 0), ckV flB (Vec.rep 32 0), ckV flB (Vec.rep 32 0), ckL Sv.nil]).toArray) rfl (r_cla (off := 0) (p := 0) (m := 6) (hI.good.ca 2 rfl) rfl ag69 h90 rfl rfl) rfl ?_
        refine lv (v := .agg (flat [ckI x80.1.Round, ckL s84]).toArray) rfl (r_cla (off := 0) (p := 0) (m := 2) (hI.good.ca 4 rfl) rfl ag71 h91 rfl rfl) rfl ?_
        obtain ⟨x94, hx94, hF⟩ := Option.bind_eq_some_iff.1 hF
        have hsp97 := spec_46 hx94 ((((((((hT.mono hleH3).mono hleH30).mono hleH34).mono hleH50).mono hleH62).mono hleH66).mono hleH78).mono hleH81) (hI.part 0) (((((hs33.mono hleH50).mono hleH62).mono hleH66).mono hleH78).mono hleH81) (Sl.nil _ _) hs84
        refine fc ([]) ([.cb g7 [ckV flB t5.seed_, ckI t5.height_, ckL s8] 168, .cb g36 [ckI 0, ckL s33] 64, .cb g42 [ckI 0, ckI 1, ckV flB (Vec.rep 32 0), ckV flB (Vec.rep 32 0), ckV flB (Vec.rep 32 0), ckL Sv.nil] 69, .cb g53 [ckI 2, ckI 0, ckI 1, ckI 0, ckV flB x49, ckI 1, ckI x65.1.Leaf, ckL s69, ckL s70, ckL s71] 35, .cb g85 [ckI x80.1.Round, ckL s84] 71]) (args := [.agg (flat [ckI 0, ckL s33]).toArray, .agg (flat [ckI 0, ckI 1, ckV flB (Vec.rep 32 0), ckV flB (Vec.rep 32 0), ckV flB (Vec.rep 32 0), ckL Sv.nil]).toArray, .agg (flat [ckI x80.1.Round, ckL s84]).toArray]) fc46 rfl rfl rfl hI (argc rfl (argc rfl (argc rfl rfl))) (hsp97) ?_
        rintro _ H95 _ w96 ⟨rfl, rfl⟩ hleH95 hI
        replace hI : Inv B w96 H95 [.cb g7 [ckV flB t5.seed_, ckI t5.height_, ckL s8] 168, .cb g36 [ckI 0, ckL s33] 64, .cb g42 [ckI 0, ckI 1, ckV flB (Vec.rep 32 0), ckV flB (Vec.rep 32 0), ckV flB (Vec.rep 32 0), ckL Sv.nil] 69, .cb g53 [ckI 2, ckI 0, ckI 1, ckI 0, ckV flB x49, ckI 1, ckI x65.1.Leaf, ckL s69, ckL s70, ckL s71] 35, .cb g85 [ckI x80.1.Round, ckL s84] 71] := hI
        refine lv (v := .bool x94) rfl (r_pkT rfl rfl rfl) rfl ?_
        refine lv (v := .bool x94) rfl (r_as rfl rfl) rfl ?_
        refine wend ?_
        refine wthen ?_
        refine wren (fun ρ98 eρ98 => ?_)
        have h99 : opd ρ98 46 (.tmp 0) = .bool x94 := eρ98 0
        clear eρ98
        refine wp_ret ?_
        obtain rfl := Option.some.inj hF
        subst hB
        refine finR (rs := [.tmp 0]) (vs := [.bool x94]) rfl ⟨h99, trivial⟩ ?_
        exact hI.fin 0 ⟨rfl, rfl⟩
      · skip
        rw [if_neg hc93] at hF
        have hbhc93 : x80.2 = false := (Bool.eq_false_iff.2 hc93)
        refine lv (v := .bool false) rfl (r_mv rfl ((show opd _ _ _ = _ from rfl).trans (congrArg Value.bool hbhc93))) rfl ?_
        with_reducible refine lx (d := 41) (by kernel_rfl) (by kernel_rfl) ?_
        with_reducible refine lx (d := 42) (by kernel_rfl) (by kernel_rfl) ?_
        with_reducible refine lx (d := 43) (by kernel_rfl) (by kernel_rfl) ?_
        with_reducible refine lx (d := 44) (by kernel_rfl) (by kernel_rfl) ?_
        refine lv (v := .bool false) rfl (r_pkF rfl rfl rfl) rfl ?_
        refine lv (v := .bool false) rfl (r_as rfl rfl) rfl ?_
        refine wend ?_
        refine wthen ?_
        refine wren (fun ρ100 eρ100 => ?_)
        have h101 : opd ρ100 46 (.tmp 0) = .bool false := eρ100 0
        clear eρ100
        refine wp_ret ?_
        obtain rfl := Option.some.inj hF
        subst hB
        refine finR (rs := [.tmp 0]) (vs := [.bool false]) rfl ⟨h101, trivial⟩ ?_
        exact hI.fin 0 ⟨rfl, rfl⟩
noncomputable def M_wapentakeref12_Great (a0 : Block) (a1 : Int) : Option (Bool) := (if (40 : Int) < (a0.Requests.length : Int) then some true else ((forK (fun (i25 : Nat) (σ25 : Int) => (((a0.Requests[i25]?).bind fun x405 => ((forK (fun (i436 : Nat) (σ436 : Int) => ((((⟨[x405.Op.Key, x405.Op.Val, x405.Op.Old], rfl⟩ : Vec (List UInt8) 3).l[i436]?).bind fun x540 => (if a1 < (wI (σ436 + (x540.length : Int))) then ((((some true).map Sum.inr)).map Sum.inr) else some (.inl (wI (σ436 + (x540.length : Int)))))) : Option (Int ⊕ (Int ⊕ Bool)))) 3 0 (wI (σ25 + 100))).bind fun y => match y with | .inl σ436 => some (.inl σ436) | .inr r => some r)) : Option (Int ⊕ Bool))) a0.Requests.length 0 0).bind fun y => match y with | .inl σ25 => some (decide (a1 < σ25)) | .inr r => some r))
set_option maxHeartbeats 4000000 in
theorem spec_64 {w : World} {H : Hp} {a0 : Block} {a1 : Int} {s1 : Sv} {r : Bool} (hF : M_wapentakeref12_Great a0 a1 = some r) (hT : Tab H) (hG : Good w H []) (hs1 : Sl (Fl.ty fl_Request) H s1 a0.Requests) :
    Fine Tryd.prog 64 [.agg (flat [ckI a0.Epoch, ckI a0.Height, ckV flB a0.Prev, ckV flB a0.State, ckV flB a0.Next, ckL s1]).toArray, .int .i64 a1] w H [] (fun H' v L' => v = .bool r ∧ L' = []) := by
  unfold M_wapentakeref12_Great at hF
  unfold Fine
  obtain ⟨B, hB⟩ : ∃ B : Base, B = ⟨w, H, blks []⟩ := ⟨_, rfl⟩
  have hI : Inv B w H [] := by rw [hB]; exact Inv.start hG
  refine enter (n := 48) (args := [.agg (flat [ckI a0.Epoch, ckI a0.Height, ckV flB a0.Prev, ckV flB a0.State, ckV flB a0.Next, ckL s1]).toArray, .int .i64 a1]) Tryd.func64 rfl Tryd.ntmps64 (Nat.le_of_ble_eq_true rfl) ?_
  refine wseq ?_
  refine wreg ?_
  refine le rfl (l_box (cks := [ckI a0.Epoch, ckI a0.Height, ckV flB a0.Prev, ckV flB a0.State, ckV flB a0.Next, ckL s1]) hI rfl rfl rfl) rfl ?_
  rintro _ w3 ⟨g2, rfl, hI⟩
  replace hI : Inv B w3 H [.cb g2 [ckI a0.Epoch, ckI a0.Height, ckV flB a0.Prev, ckV flB a0.State, ckV flB a0.Next, ckL s1] 69] := hI
  refine lv (v := .bool false) rfl (r_as rfl rfl) rfl ?_
  refine wend ?_
  refine wthen ?_
  refine wren (fun ρ4 eρ4 => ?_)
  have h5 : opd ρ4 48 (.tmp 1) = .int .i64 a1 := eρ4 1
  have h6 : opd ρ4 48 (.tmp 2) = .pointer (some ⟨g2, 0 + 0, none⟩) := eρ4 2
  clear eρ4
  refine wseq ?_
  refine wreg ?_
  refine lv (v := .int .i64 0) rfl (r_as rfl rfl) rfl ?_
  refine wend ?_
  refine wthen ?_
  refine wren (fun ρ7 eρ7 => ?_)
  have h8 : opd ρ7 48 (.tmp 1) = .int .i64 a1 := (eρ7 1).trans h5
  have h9 : opd ρ7 48 (.tmp 2) = .pointer (some ⟨g2, 0 + 0, none⟩) := (eρ7 2).trans h6
  have h10 : opd ρ7 48 (.tmp 5) = .int .i64 0 := eρ7 5
  clear eρ7
  refine wseq ?_
  refine wseq ?_
  refine wreg ?_
  refine lv (v := .pointer (some ⟨g2, 0 + 98, none⟩)) rfl (l_fa (j := 0) (i := 0) rfl fl69_5 h9 rfl) rfl ?_
  refine lv (v := s1.v) rfl (r_cl1 (off := 98) (p := 5) (hI.good.ca 0 rfl) rfl sc67 rfl rfl rfl) rfl ?_
  refine lv (v := .int .i64 (a0.Requests.length : Int)) rfl (r_lenS rfl sl67 rfl hs1) rfl ?_
  refine lv (v := .bool (decide ((40 : Int) < (a0.Requests.length : Int)))) rfl (r_gtr rfl rfl rfl rfl) rfl ?_
  refine wend ?_
  refine wthen ?_
  refine wren (fun ρ11 eρ11 => ?_)
  have h12 : opd ρ11 48 (.tmp 1) = .int .i64 a1 := (eρ11 1).trans h8
  have h13 : opd ρ11 48 (.tmp 2) = .pointer (some ⟨g2, 0 + 0, none⟩) := (eρ11 2).trans h9
  have h14 : opd ρ11 48 (.tmp 5) = .int .i64 0 := (eρ11 5).trans h10
  have h15 : opd ρ11 48 (.tmp 13) = .bool (decide ((40 : Int) < (a0.Requests.length : Int))) := eρ11 13
  clear eρ11
  by_cases hc16 : (40 : Int) < (a0.Requests.length : Int)
  · skip
    rw [if_pos hc16] at hF
    have hbhc16 : (decide ((40 : Int) < (a0.Requests.length : Int))) = true := decide_eq_true hc16
    refine wcT (h15.trans (congrArg Value.bool hbhc16)) ?_
    refine wseq ?_
    refine wreg ?_
    refine lv (v := .bool true) rfl (r_as rfl rfl) rfl ?_
    refine wend ?_
    refine wthen ?_
    refine wren (fun ρ17 eρ17 => ?_)
    have h18 : opd ρ17 48 (.tmp 4) = .bool true := eρ17 4
    clear eρ17
    refine wp_ret ?_
    refine thR ?_
    obtain rfl := Option.some.inj hF
    subst hB
    refine finR (rs := [.tmp 4]) (vs := [.bool true]) rfl ⟨h18, trivial⟩ ?_
    exact hI.fin 0 ⟨rfl, rfl⟩
  · skip
    rw [if_neg hc16] at hF
    have hbhc16 : (decide ((40 : Int) < (a0.Requests.length : Int))) = false := decide_eq_false hc16
    refine wcF (h15.trans (congrArg Value.bool hbhc16)) ?_
    refine wp_skip ?_
    refine wthen ?_
    refine wseq ?_
    refine wseq ?_
    refine wreg ?_
    refine lv (v := .pointer (some ⟨g2, 0 + 98, none⟩)) rfl (l_fa (j := 0) (i := 0) rfl fl69_5 h13 rfl) rfl ?_
    refine lv (v := s1.v) rfl (r_cl1 (off := 98) (p := 5) (hI.good.ca 0 rfl) rfl sc67 rfl rfl rfl) rfl ?_
    refine lv (v := .int .i64 (a0.Requests.length : Int)) rfl (r_lenS rfl sl67 rfl hs1) rfl ?_
    refine lv (v := .int .i64 0) rfl (r_mv rfl rfl) rfl ?_
    refine wend ?_
    refine wthen ?_
    refine wren (fun ρ19 eρ19 => ?_)
    have h20 : opd ρ19 48 (.tmp 1) = .int .i64 a1 := (eρ19 1).trans h12
    have h21 : opd ρ19 48 (.tmp 5) = .int .i64 0 := (eρ19 5).trans h14
    have h22 : opd ρ19 48 (.tmp 15) = s1.v := eρ19 15
    have h23 : opd ρ19 48 (.tmp 16) = .int .i64 (a0.Requests.length : Int) := eρ19 16
    have h24 : opd ρ19 48 (.tmp 17) = .int .i64 0 := eρ19 17
    clear eρ19
    refine wp_block ?_
    have hbd25 := (hs1).bd
    rw [(hs1).n] at hbd25
    obtain ⟨y25, hy25, hF25⟩ := Option.bind_eq_some_iff.1 hF
    refine wfor (n := 48) a0.Requests.length _ (fun (i25 : Nat) (σ25 : Int) ρ' w' => ∃ (H390 : Hp), Hle H H390 ∧ opd ρ' 48 (.tmp 1) = .int .i64 a1 ∧ opd ρ' 48 (.tmp 5) = .int .i64 σ25 ∧ opd ρ' 48 (.tmp 15) = s1.v ∧ opd ρ' 48 (.tmp 16) = .int .i64 (a0.Requests.length : Int) ∧ opd ρ' 48 (.tmp 17) = .int .i64 (i25 : Int) ∧ Inv B w' H390 []) hy25 ⟨H, (Hle.refl _), h20, h21, h22, h23, h24, (hI.keep [false])⟩ ?_
    rintro k25 i25 σ25 ρ396 w397 hk25 ⟨H390, hleH390, h391, h392, h393, h394, h395, hI⟩ hy25
    refine wseq ?_
    refine wreg ?_
    refine lv (v := .bool (decide ((i25 : Int) < (a0.Requests.length : Int)))) rfl (r_lss rfl h395 h394 rfl) rfl ?_
    refine wend ?_
    refine wthen ?_
    refine wseq ?_
    by_cases hc398 : (i25 : Int) < (a0.Requests.length : Int)
    · skip
      have hbhc398 : (decide ((i25 : Int) < (a0.Requests.length : Int))) = true := decide_eq_true hc398
      obtain ⟨k25, rfl⟩ : ∃ m, k25 = m + 1 := ⟨k25 - 1, by omega⟩
      obtain ⟨z25, hb25⟩ := forK_body hy25
      have hF := hb25
      have hlt25 : ((i25 : Nat) : Int) + 1 ≤ 9223372036854775807 := by omega
      refine wcT ((show opd _ _ _ = _ from rfl).trans (congrArg Value.bool hbhc398)) ?_
      refine wp_skip ?_
      refine wthen ?_
      refine wren (fun ρ399 eρ399 => ?_)
      have h400 : opd ρ399 48 (.tmp 1) = .int .i64 a1 := (eρ399 1).trans h391
      have h401 : opd ρ399 48 (.tmp 5) = .int .i64 σ25 := (eρ399 5).trans h392
      have h402 : opd ρ399 48 (.tmp 15) = s1.v := (eρ399 15).trans h393
      have h403 : opd ρ399 48 (.tmp 16) = .int .i64 (a0.Requests.length : Int) := (eρ399 16).trans h394
      have h404 : opd ρ399 48 (.tmp 17) = .int .i64 (i25 : Int) := (eρ399 17).trans h395
      clear eρ399
      refine wseq ?_
      refine wp_block ?_
      refine wseq ?_
      refine wreg ?_
      obtain ⟨x405, hx405, hF⟩ := Option.bind_eq_some_iff.1 hF
      obtain ⟨b406, j407, hix408, hil409, hA410⟩ := (hs1.mono hleH390).ixf hx405
      replace hA410 : At H390 b406 j407 [ckI x405.Client, ckI x405.Num, ckI x405.Op.Kind, ckS x405.Op.Key, ckS x405.Op.Val, ckS x405.Op.Old, ckI x405.Op.Change.Kind, ckI x405.Op.Change.Id, ckI x405.Op.Change.New, ckV flB x405.Op.Change.Key.Root, ckI x405.Op.Change.Key.Height] := hA410
      refine lv (v := .pointer (some ⟨b406, j407 + 0, none⟩)) rfl (r_ixt rfl sl67 h402 h404 rfl hix408 hil409) rfl ?_
      refine lv (v := .agg (flat [ckI x405.Client, ckI x405.Num, ckI x405.Op.Kind, ckS x405.Op.Key, ckS x405.Op.Val, ckS x405.Op.Old, ckI x405.Op.Change.Kind, ckI x405.Op.Change.Id, ckI x405.Op.Change.New, ckV flB x405.Op.Change.Key.Root, ckI x405.Op.Change.Key.Height]).toArray) rfl (r_cla (off := 0) (p := 0) (m := 11) (hA410.ca hI.good) rfl ag192 rfl rfl rfl) rfl ?_
      refine le rfl (l_al hI rfl ze192) rfl ?_
      rintro _ w412 ⟨g411, rfl, hI⟩
      replace hI : Inv B w412 H390 [.cb g411 [ckI 0, ckI 0, ckI 0, ckS [], ckS [], ckS [], ckI 0, ckI 0, ckI 0, ckV flB (Vec.rep 32 0), ckI 0] 192] := hI
      refine lst rfl (l_st (off := 0) (p := 0) (m := 11) (new := [ckI x405.Client, ckI x405.Num, ckI x405.Op.Kind, ckS x405.Op.Key, ckS x405.Op.Val, ckS x405.Op.Old, ckI x405.Op.Change.Kind, ckI x405.Op.Change.Id, ckI x405.Op.Change.New, ckV flB x405.Op.Change.Key.Root, ckI x405.Op.Change.Key.Height]) hI 0 rfl rfl sz192 rfl rfl rfl rfl rfl rfl) rfl ?_
      intro w413 hI
      replace hI : Inv B w413 H390 [.cb g411 [ckI x405.Client, ckI x405.Num, ckI x405.Op.Kind, ckS x405.Op.Key, ckS x405.Op.Val, ckS x405.Op.Old, ckI x405.Op.Change.Kind, ckI x405.Op.Change.Id, ckI x405.Op.Change.New, ckV flB x405.Op.Change.Key.Root, ckI x405.Op.Change.Key.Height] 192] := hI
      refine wend ?_
      refine wthen ?_
      refine wren (fun ρ414 eρ414 => ?_)
      have h415 : opd ρ414 48 (.tmp 1) = .int .i64 a1 := (eρ414 1).trans h400
      have h416 : opd ρ414 48 (.tmp 5) = .int .i64 σ25 := (eρ414 5).trans h401
      have h417 : opd ρ414 48 (.tmp 7) = .pointer (some ⟨g411, 0 + 0, none⟩) := eρ414 7
      have h418 : opd ρ414 48 (.tmp 15) = s1.v := (eρ414 15).trans h402
      have h419 : opd ρ414 48 (.tmp 16) = .int .i64 (a0.Requests.length : Int) := (eρ414 16).trans h403
      have h420 : opd ρ414 48 (.tmp 17) = .int .i64 (i25 : Int) := (eρ414 17).trans h404
      clear eρ414
      refine wseq ?_
      refine wreg ?_
      refine lv (v := .int .i64 σ25) rfl (r_mv rfl h416) rfl ?_
      refine lv (v := .int .i64 (wI (σ25 + 100))) rfl (r_addw rfl rfl rfl) rfl ?_
      refine lv (v := .int .i64 (wI (σ25 + 100))) rfl (r_as rfl rfl) rfl ?_
      refine wend ?_
      refine wthen ?_
      refine wren (fun ρ421 eρ421 => ?_)
      have h422 : opd ρ421 48 (.tmp 1) = .int .i64 a1 := (eρ421 1).trans h415
      have h423 : opd ρ421 48 (.tmp 5) = .int .i64 (wI (σ25 + 100)) := eρ421 5
      have h424 : opd ρ421 48 (.tmp 7) = .pointer (some ⟨g411, 0 + 0, none⟩) := (eρ421 7).trans h417
      have h425 : opd ρ421 48 (.tmp 15) = s1.v := (eρ421 15).trans h418
      have h426 : opd ρ421 48 (.tmp 16) = .int .i64 (a0.Requests.length : Int) := (eρ421 16).trans h419
      have h427 : opd ρ421 48 (.tmp 17) = .int .i64 (i25 : Int) := (eρ421 17).trans h420
      clear eρ421
      refine wseq ?_
      refine wreg ?_
      refine lv (v := .pointer (some ⟨g411, 0 + 2, none⟩)) rfl (l_fa (j := 0) (i := 0) rfl fl192_2 h424 rfl) rfl ?_
      refine lv (v := .pointer (some ⟨g411, 0 + 3, none⟩)) rfl (l_fa (j := 0) (i := 2) rfl fl190_1 rfl rfl) rfl ?_
      refine lv (v := strv x405.Op.Key) rfl (r_cl1 (off := 3) (p := 3) (hI.good.ca 0 rfl) rfl sc9 rfl rfl rfl) rfl ?_
      refine lv (v := .pointer (some ⟨g411, 0 + 2, none⟩)) rfl (l_fa (j := 0) (i := 0) rfl fl192_2 h424 rfl) rfl ?_
      refine lv (v := .pointer (some ⟨g411, 0 + 4, none⟩)) rfl (l_fa (j := 0) (i := 2) rfl fl190_2 rfl rfl) rfl ?_
      refine lv (v := strv x405.Op.Val) rfl (r_cl1 (off := 4) (p := 4) (hI.good.ca 0 rfl) rfl sc9 rfl rfl rfl) rfl ?_
      refine lv (v := .pointer (some ⟨g411, 0 + 2, none⟩)) rfl (l_fa (j := 0) (i := 0) rfl fl192_2 h424 rfl) rfl ?_
      refine lv (v := .pointer (some ⟨g411, 0 + 5, none⟩)) rfl (l_fa (j := 0) (i := 2) rfl fl190_3 rfl rfl) rfl ?_
      refine lv (v := strv x405.Op.Old) rfl (r_cl1 (off := 5) (p := 5) (hI.good.ca 0 rfl) rfl sc9 rfl rfl rfl) rfl ?_
      refine lv (v := .agg (flat [ckV flS (⟨[x405.Op.Key, x405.Op.Val, x405.Op.Old], rfl⟩ : Vec (List UInt8) 3)]).toArray) rfl (r_bldv (f := flS) (xs := [x405.Op.Key, x405.Op.Val, x405.Op.Old]) (vs := [strv x405.Op.Key, strv x405.Op.Val, strv x405.Op.Old]) rfl ze193 rfl ar193 rfl (argc rfl (argc rfl (argc rfl rfl))) rfl) rfl ?_
      refine lv (v := .int .i64 0) rfl (r_mv rfl rfl) rfl ?_
      refine wend ?_
      refine wthen ?_
      refine wren (fun ρ428 eρ428 => ?_)
      have h429 : opd ρ428 48 (.tmp 1) = .int .i64 a1 := (eρ428 1).trans h422
      have h430 : opd ρ428 48 (.tmp 5) = .int .i64 (wI (σ25 + 100)) := (eρ428 5).trans h423
      have h431 : opd ρ428 48 (.tmp 15) = s1.v := (eρ428 15).trans h425
      have h432 : opd ρ428 48 (.tmp 16) = .int .i64 (a0.Requests.length : Int) := (eρ428 16).trans h426
      have h433 : opd ρ428 48 (.tmp 17) = .int .i64 (i25 : Int) := (eρ428 17).trans h427
      have h434 : opd ρ428 48 (.tmp 32) = .agg (flat [ckV flS (⟨[x405.Op.Key, x405.Op.Val, x405.Op.Old], rfl⟩ : Vec (List UInt8) 3)]).toArray := eρ428 32
      have h435 : opd ρ428 48 (.tmp 33) = .int .i64 0 := eρ428 33
      clear eρ428
      refine wp_block ?_
      obtain ⟨y436, hy436, hF436⟩ := Option.bind_eq_some_iff.1 hF
      refine wfor (n := 48) 3 _ (fun (i436 : Nat) (σ436 : Int) ρ' w' => ∃ (H521 : Hp), Hle H390 H521 ∧ opd ρ' 48 (.tmp 1) = .int .i64 a1 ∧ opd ρ' 48 (.tmp 5) = .int .i64 σ436 ∧ opd ρ' 48 (.tmp 15) = s1.v ∧ opd ρ' 48 (.tmp 16) = .int .i64 (a0.Requests.length : Int) ∧ opd ρ' 48 (.tmp 17) = .int .i64 (i25 : Int) ∧ opd ρ' 48 (.tmp 32) = .agg (flat [ckV flS (⟨[x405.Op.Key, x405.Op.Val, x405.Op.Old], rfl⟩ : Vec (List UInt8) 3)]).toArray ∧ opd ρ' 48 (.tmp 33) = .int .i64 (i436 : Int) ∧ Inv B w' H521 []) hy436 ⟨H390, (Hle.refl _), h429, h430, h431, h432, h433, h434, h435, (hI.keep [false])⟩ ?_
      rintro k436 i436 σ436 ρ529 w530 hk436 ⟨H521, hleH521, h522, h523, h524, h525, h526, h527, h528, hI⟩ hy436
      refine wseq ?_
      refine wreg ?_
      refine lv (v := .bool (decide ((i436 : Int) < 3))) rfl (r_lss rfl h528 rfl rfl) rfl ?_
      refine wend ?_
      refine wthen ?_
      refine wseq ?_
      by_cases hc531 : (i436 : Int) < 3
      · skip
        have hbhc531 : (decide ((i436 : Int) < 3)) = true := decide_eq_true hc531
        obtain ⟨k436, rfl⟩ : ∃ m, k436 = m + 1 := ⟨k436 - 1, by omega⟩
        obtain ⟨z436, hb436⟩ := forK_body hy436
        have hF := hb436
        have hlt436 : ((i436 : Nat) : Int) + 1 ≤ 9223372036854775807 := by omega
        refine wcT ((show opd _ _ _ = _ from rfl).trans (congrArg Value.bool hbhc531)) ?_
        refine wp_skip ?_
        refine wthen ?_
        refine wren (fun ρ532 eρ532 => ?_)
        have h533 : opd ρ532 48 (.tmp 1) = .int .i64 a1 := (eρ532 1).trans h522
        have h534 : opd ρ532 48 (.tmp 5) = .int .i64 σ436 := (eρ532 5).trans h523
        have h535 : opd ρ532 48 (.tmp 15) = s1.v := (eρ532 15).trans h524
        have h536 : opd ρ532 48 (.tmp 16) = .int .i64 (a0.Requests.length : Int) := (eρ532 16).trans h525
        have h537 : opd ρ532 48 (.tmp 17) = .int .i64 (i25 : Int) := (eρ532 17).trans h526
        have h538 : opd ρ532 48 (.tmp 32) = .agg (flat [ckV flS (⟨[x405.Op.Key, x405.Op.Val, x405.Op.Old], rfl⟩ : Vec (List UInt8) 3)]).toArray := (eρ532 32).trans h527
        have h539 : opd ρ532 48 (.tmp 33) = .int .i64 (i436 : Int) := (eρ532 33).trans h528
        clear eρ532
        refine wseq ?_
        refine wp_block ?_
        refine wseq ?_
        refine wreg ?_
        obtain ⟨x540, hx540, hF⟩ := Option.bind_eq_some_iff.1 hF
        refine lv (v := strv x540) rfl (r_ixv1 (f := flS) rfl ar193 sc9 h538 h539 rfl hx540 rfl) rfl ?_
        refine lv (v := strv x540) rfl (r_as rfl rfl) rfl ?_
        refine wend ?_
        refine wthen ?_
        refine wren (fun ρ541 eρ541 => ?_)
        have h542 : opd ρ541 48 (.tmp 1) = .int .i64 a1 := (eρ541 1).trans h533
        have h543 : opd ρ541 48 (.tmp 5) = .int .i64 σ436 := (eρ541 5).trans h534
        have h544 : opd ρ541 48 (.tmp 9) = strv x540 := eρ541 9
        have h545 : opd ρ541 48 (.tmp 15) = s1.v := (eρ541 15).trans h535
        have h546 : opd ρ541 48 (.tmp 16) = .int .i64 (a0.Requests.length : Int) := (eρ541 16).trans h536
        have h547 : opd ρ541 48 (.tmp 17) = .int .i64 (i25 : Int) := (eρ541 17).trans h537
        have h548 : opd ρ541 48 (.tmp 32) = .agg (flat [ckV flS (⟨[x405.Op.Key, x405.Op.Val, x405.Op.Old], rfl⟩ : Vec (List UInt8) 3)]).toArray := (eρ541 32).trans h538
        have h549 : opd ρ541 48 (.tmp 33) = .int .i64 (i436 : Int) := (eρ541 33).trans h539
        clear eρ541
        refine wseq ?_
        refine wreg ?_
        refine lv (v := .int .i64 σ436) rfl (r_mv rfl h543) rfl ?_
        refine lv (v := strv x540) rfl (r_mv rfl h544) rfl ?_
        refine lv (v := .int .i64 (x540.length : Int)) rfl (r_lenT rfl un9 rfl) rfl ?_
        refine lv (v := .int .i64 (wI (σ436 + (x540.length : Int)))) rfl (r_addw rfl rfl rfl) rfl ?_
        refine lv (v := .int .i64 (wI (σ436 + (x540.length : Int)))) rfl (r_as rfl rfl) rfl ?_
        refine wend ?_
        refine wthen ?_
        refine wren (fun ρ550 eρ550 => ?_)
        have h551 : opd ρ550 48 (.tmp 1) = .int .i64 a1 := (eρ550 1).trans h542
        have h552 : opd ρ550 48 (.tmp 5) = .int .i64 (wI (σ436 + (x540.length : Int))) := eρ550 5
        have h553 : opd ρ550 48 (.tmp 15) = s1.v := (eρ550 15).trans h545
        have h554 : opd ρ550 48 (.tmp 16) = .int .i64 (a0.Requests.length : Int) := (eρ550 16).trans h546
        have h555 : opd ρ550 48 (.tmp 17) = .int .i64 (i25 : Int) := (eρ550 17).trans h547
        have h556 : opd ρ550 48 (.tmp 32) = .agg (flat [ckV flS (⟨[x405.Op.Key, x405.Op.Val, x405.Op.Old], rfl⟩ : Vec (List UInt8) 3)]).toArray := (eρ550 32).trans h548
        have h557 : opd ρ550 48 (.tmp 33) = .int .i64 (i436 : Int) := (eρ550 33).trans h549
        clear eρ550
        refine wseq ?_
        refine wreg ?_
        refine lv (v := .int .i64 (wI (σ436 + (x540.length : Int)))) rfl (r_mv rfl h552) rfl ?_
        refine lv (v := .int .i64 a1) rfl (r_mv rfl h551) rfl ?_
        refine lv (v := .bool (decide (a1 < (wI (σ436 + (x540.length : Int)))))) rfl (r_gtr rfl rfl rfl rfl) rfl ?_
        refine wend ?_
        refine wthen ?_
        refine wren (fun ρ558 eρ558 => ?_)
        have h559 : opd ρ558 48 (.tmp 1) = .int .i64 a1 := (eρ558 1).trans h551
        have h560 : opd ρ558 48 (.tmp 5) = .int .i64 (wI (σ436 + (x540.length : Int))) := (eρ558 5).trans h552
        have h561 : opd ρ558 48 (.tmp 15) = s1.v := (eρ558 15).trans h553
        have h562 : opd ρ558 48 (.tmp 16) = .int .i64 (a0.Requests.length : Int) := (eρ558 16).trans h554
        have h563 : opd ρ558 48 (.tmp 17) = .int .i64 (i25 : Int) := (eρ558 17).trans h555
        have h564 : opd ρ558 48 (.tmp 32) = .agg (flat [ckV flS (⟨[x405.Op.Key, x405.Op.Val, x405.Op.Old], rfl⟩ : Vec (List UInt8) 3)]).toArray := (eρ558 32).trans h556
        have h565 : opd ρ558 48 (.tmp 33) = .int .i64 (i436 : Int) := (eρ558 33).trans h557
        have h566 : opd ρ558 48 (.tmp 42) = .bool (decide (a1 < (wI (σ436 + (x540.length : Int))))) := eρ558 42
        clear eρ558
        by_cases hc567 : a1 < (wI (σ436 + (x540.length : Int)))
        · skip
          rw [if_pos hc567] at hF
          have hbhc567 : (decide (a1 < (wI (σ436 + (x540.length : Int))))) = true := decide_eq_true hc567
          refine wcT (h566.trans (congrArg Value.bool hbhc567)) ?_
          refine wseq ?_
          refine wreg ?_
          refine lv (v := .bool true) rfl (r_as rfl rfl) rfl ?_
          refine wend ?_
          refine wthen ?_
          refine wren (fun ρ568 eρ568 => ?_)
          have h569 : opd ρ568 48 (.tmp 4) = .bool true := eρ568 4
          clear eρ568
          refine wp_ret ?_
          refine inR ?_
          refine thR ?_
          refine thR ?_
          obtain ⟨q570, hFn, hzq570⟩ := Option.map_eq_some_iff.1 hF
          clear hF
          obtain rfl := forK_inr hy436 (hb436.trans (congrArg some hzq570.symm))
          have hF0 := hF436
          try dsimp only at hF0
          have hF := hFn.trans hF0
          clear hFn hF0
          refine inR ?_
          refine inR ?_
          refine thR ?_
          refine thR ?_
          obtain ⟨q571, hFn, hzq571⟩ := Option.map_eq_some_iff.1 hF
          clear hF
          obtain rfl := forK_inr hy25 (hb25.trans (congrArg some hzq571.symm))
          have hF0 := hF25
          try dsimp only at hF0
          have hF := hFn.trans hF0
          clear hFn hF0
          refine inR ?_
          refine thR ?_
          obtain rfl := Option.some.inj hF
          subst hB
          refine finR (rs := [.tmp 4]) (vs := [.bool true]) rfl ⟨h569, trivial⟩ ?_
          exact hI.fin 0 ⟨rfl, rfl⟩
        · skip
          rw [if_neg hc567] at hF
          have hbhc567 : (decide (a1 < (wI (σ436 + (x540.length : Int))))) = false := decide_eq_false hc567
          refine wcF (h566.trans (congrArg Value.bool hbhc567)) ?_
          refine wp_skip ?_
          refine inN ?_
          refine wthen ?_
          refine wreg ?_
          refine lv (v := .int .i64 ((i436 + 1 : Nat) : Int)) rfl (r_addn rfl h565 rfl hlt436) rfl ?_
          refine lv (v := .int .i64 ((i436 + 1 : Nat) : Int)) rfl (r_mv rfl rfl) rfl ?_
          refine wend ?_
          obtain rfl := Option.some.inj hF
          exact ⟨k436, (wI (σ436 + (x540.length : Int))), _, rfl, rfl, ⟨H521, hleH521, h559, h560, h561, h562, h563, h564, rfl, hI⟩, forK_inl hy436 hb436⟩
      · skip
        have hbhc531 : (decide ((i436 : Int) < 3)) = false := decide_eq_false hc531
        obtain rfl : k436 = 0 := by omega
        obtain rfl := forK_end hy436
        have hF := hF436
        try dsimp only at hF
        refine wcF ((show opd _ _ _ = _ from rfl).trans (congrArg Value.bool hbhc531)) ?_
        refine wp_exit ?_
        refine thE ?_
        refine thE ?_
        refine inX ?_
        refine inN ?_
        refine wthen ?_
        refine wren (fun ρ572 eρ572 => ?_)
        have h573 : opd ρ572 48 (.tmp 1) = .int .i64 a1 := (eρ572 1).trans h522
        have h574 : opd ρ572 48 (.tmp 5) = .int .i64 σ436 := (eρ572 5).trans h523
        have h575 : opd ρ572 48 (.tmp 15) = s1.v := (eρ572 15).trans h524
        have h576 : opd ρ572 48 (.tmp 16) = .int .i64 (a0.Requests.length : Int) := (eρ572 16).trans h525
        have h577 : opd ρ572 48 (.tmp 17) = .int .i64 (i25 : Int) := (eρ572 17).trans h526
        clear eρ572
        refine wreg ?_
        refine lv (v := .int .i64 ((i25 + 1 : Nat) : Int)) rfl (r_addn rfl h577 rfl hlt25) rfl ?_
        refine lv (v := .int .i64 ((i25 + 1 : Nat) : Int)) rfl (r_mv rfl rfl) rfl ?_
        refine wend ?_
        obtain rfl := Option.some.inj hF
        exact ⟨k25, σ436, _, rfl, rfl, ⟨H521, (hleH390.trans hleH521), h573, h574, h575, h576, rfl, hI⟩, forK_inl hy25 hb25⟩
    · skip
      have hbhc398 : (decide ((i25 : Int) < (a0.Requests.length : Int))) = false := decide_eq_false hc398
      obtain rfl : k25 = 0 := by omega
      obtain rfl := forK_end hy25
      have hF := hF25
      try dsimp only at hF
      refine wcF ((show opd _ _ _ = _ from rfl).trans (congrArg Value.bool hbhc398)) ?_
      refine wp_exit ?_
      refine thE ?_
      refine thE ?_
      refine inX ?_
      refine wthen ?_
      refine wren (fun ρ578 eρ578 => ?_)
      have h579 : opd ρ578 48 (.tmp 1) = .int .i64 a1 := (eρ578 1).trans h391
      have h580 : opd ρ578 48 (.tmp 5) = .int .i64 σ25 := (eρ578 5).trans h392
      clear eρ578
      refine wseq ?_
      refine wreg ?_
      refine lv (v := .int .i64 σ25) rfl (r_mv rfl h580) rfl ?_
      refine lv (v := .int .i64 a1) rfl (r_mv rfl h579) rfl ?_
      refine lv (v := .bool (decide (a1 < σ25))) rfl (r_gtr rfl rfl rfl rfl) rfl ?_
      refine lv (v := .bool (decide (a1 < σ25))) rfl (r_as rfl rfl) rfl ?_
      refine wend ?_
      refine wthen ?_
      refine wren (fun ρ581 eρ581 => ?_)
      have h582 : opd ρ581 48 (.tmp 4) = .bool (decide (a1 < σ25)) := eρ581 4
      clear eρ581
      refine wp_ret ?_
      obtain rfl := Option.some.inj hF
      subst hB
      refine finR (rs := [.tmp 4]) (vs := [.bool (decide (a1 < σ25))]) rfl ⟨h582, trivial⟩ ?_
      exact hI.fin 0 ⟨rfl, rfl⟩
noncomputable def M_wapentakelaw14_great (a0 : Config) (a1 : Block) (a2 : Cert) : Option (Bool) := (if (20 : Int) < (a0.Members.length : Int) then some true else ((M_wapentakeref12_Great a1 4096).bind fun x20 => (if x20 = true then some true else (if (12 : Int) < (a2.Votes.length : Int) then some true else ((forK (fun (i40 : Nat) (σ40 : Unit) => (((a2.Votes[i40]?).bind fun x101 => (if (200 : Int) < (x101.Sig.Once.Open.length : Int) then ((some true).map Sum.inr) else (if (200 : Int) < (x101.Sig.Once.Shut.length : Int) then ((some true).map Sum.inr) else (if (200 : Int) < (x101.Sig.Path.length : Int) then ((some true).map Sum.inr) else some (.inl ()))))) : Option (Unit ⊕ Bool))) a2.Votes.length 0 ()).bind fun y => match y with | .inl _ => some false | .inr r => some r)))))
set_option maxHeartbeats 4000000 in
theorem spec_45 {w : World} {H : Hp} {a0 : Config} {a1 : Block} {a2 : Cert} {s1 : Sv} {s2 : Sv} {s3 : Sv} {r : Bool} (hF : M_wapentakelaw14_great a0 a1 a2 = some r) (hT : Tab H) (hG : Good w H []) (hs1 : Sl (Fl.ty fl_Member) H s1 a0.Members) (hs2 : Sl (Fl.ty fl_Request) H s2 a1.Requests) (hs3 : Sl ty_Vote H s3 a2.Votes) :
    Fine Tryd.prog 45 [.agg (flat [ckI a0.Epoch, ckL s1]).toArray, .agg (flat [ckI a1.Epoch, ckI a1.Height, ckV flB a1.Prev, ckV flB a1.State, ckV flB a1.Next, ckL s2]).toArray, .agg (flat [ckI a2.Round, ckL s3]).toArray] w H [] (fun H' v L' => v = .bool r ∧ L' = []) := by
  unfold M_wapentakelaw14_great at hF
  unfold Fine
  obtain ⟨B, hB⟩ : ∃ B : Base, B = ⟨w, H, blks []⟩ := ⟨_, rfl⟩
  have hI : Inv B w H [] := by rw [hB]; exact Inv.start hG
  refine enter (n := 52) (args := [.agg (flat [ckI a0.Epoch, ckL s1]).toArray, .agg (flat [ckI a1.Epoch, ckI a1.Height, ckV flB a1.Prev, ckV flB a1.State, ckV flB a1.Next, ckL s2]).toArray, .agg (flat [ckI a2.Round, ckL s3]).toArray]) Tryd.func45 rfl Tryd.ntmps45 (Nat.le_of_ble_eq_true rfl) ?_
  refine wseq ?_
  refine wreg ?_
  refine le rfl (l_box (cks := [ckI a0.Epoch, ckL s1]) hI rfl rfl rfl) rfl ?_
  rintro _ w5 ⟨g4, rfl, hI⟩
  replace hI : Inv B w5 H [.cb g4 [ckI a0.Epoch, ckL s1] 64] := hI
  refine le rfl (l_box (cks := [ckI a1.Epoch, ckI a1.Height, ckV flB a1.Prev, ckV flB a1.State, ckV flB a1.Next, ckL s2]) hI rfl rfl rfl) rfl ?_
  rintro _ w7 ⟨g6, rfl, hI⟩
  replace hI : Inv B w7 H [.cb g4 [ckI a0.Epoch, ckL s1] 64, .cb g6 [ckI a1.Epoch, ckI a1.Height, ckV flB a1.Prev, ckV flB a1.State, ckV flB a1.Next, ckL s2] 69] := hI
  refine le rfl (l_box (cks := [ckI a2.Round, ckL s3]) hI rfl rfl rfl) rfl ?_
  rintro _ w9 ⟨g8, rfl, hI⟩
  replace hI : Inv B w9 H [.cb g4 [ckI a0.Epoch, ckL s1] 64, .cb g6 [ckI a1.Epoch, ckI a1.Height, ckV flB a1.Prev, ckV flB a1.State, ckV flB a1.Next, ckL s2] 69, .cb g8 [ckI a2.Round, ckL s3] 71] := hI
  refine lv (v := .bool false) rfl (r_as rfl rfl) rfl ?_
  refine wend ?_
  refine wthen ?_
  refine wren (fun ρ10 eρ10 => ?_)
  have h11 : opd ρ10 52 (.tmp 3) = .pointer (some ⟨g4, 0 + 0, none⟩) := eρ10 3
  have h12 : opd ρ10 52 (.tmp 4) = .pointer (some ⟨g6, 0 + 0, none⟩) := eρ10 4
  have h13 : opd ρ10 52 (.tmp 5) = .pointer (some ⟨g8, 0 + 0, none⟩) := eρ10 5
  clear eρ10
  refine wseq ?_
  refine wseq ?_
  refine wreg ?_
  refine lv (v := .pointer (some ⟨g4, 0 + 1, none⟩)) rfl (l_fa (j := 0) (i := 0) rfl fl64_1 h11 rfl) rfl ?_
  refine lv (v := s1.v) rfl (r_cl1 (off := 1) (p := 1) (hI.good.ca 0 rfl) rfl sc62 rfl rfl rfl) rfl ?_
  refine lv (v := .int .i64 (a0.Members.length : Int)) rfl (r_lenS rfl sl62 rfl hs1) rfl ?_
  refine lv (v := .bool (decide ((20 : Int) < (a0.Members.length : Int)))) rfl (r_gtr rfl rfl rfl rfl) rfl ?_
  by_cases hc14 : (20 : Int) < (a0.Members.length : Int)
  · skip
    rw [if_pos hc14] at hF
    have hbhc14 : (decide ((20 : Int) < (a0.Members.length : Int))) = true := decide_eq_true hc14
    refine lv (v := .bool true) rfl (r_mv rfl ((show opd _ _ _ = _ from rfl).trans (congrArg Value.bool hbhc14))) rfl ?_
    with_reducible refine lx (d := 14) (by kernel_rfl) (by kernel_rfl) ?_
    with_reducible refine lx (d := 15) (by kernel_rfl) (by kernel_rfl) ?_
    refine lv (v := .bool true) rfl (r_pkT rfl rfl rfl) rfl ?_
    refine lv (v := .bool true) rfl (r_mv rfl rfl) rfl ?_
    with_reducible refine lx (d := 18) (by kernel_rfl) (by kernel_rfl) ?_
    with_reducible refine lx (d := 19) (by kernel_rfl) (by kernel_rfl) ?_
    with_reducible refine lx (d := 20) (by kernel_rfl) (by kernel_rfl) ?_
    with_reducible refine lx (d := 21) (by kernel_rfl) (by kernel_rfl) ?_
    refine lv (v := .bool true) rfl (r_pkT rfl rfl rfl) rfl ?_
    refine wend ?_
    refine wthen ?_
    refine wren (fun ρ15 eρ15 => ?_)
    have h16 : opd ρ15 52 (.tmp 5) = .pointer (some ⟨g8, 0 + 0, none⟩) := (eρ15 5).trans h13
    have h17 : opd ρ15 52 (.tmp 22) = .bool true := eρ15 22
    clear eρ15
    refine wcT h17 ?_
    refine wseq ?_
    refine wreg ?_
    refine lv (v := .bool true) rfl (r_as rfl rfl) rfl ?_
    refine wend ?_
    refine wthen ?_
    refine wren (fun ρ18 eρ18 => ?_)
    have h19 : opd ρ18 52 (.tmp 6) = .bool true := eρ18 6
    clear eρ18
    refine wp_ret ?_
    refine thR ?_
    obtain rfl := Option.some.inj hF
    subst hB
    refine finR (rs := [.tmp 6]) (vs := [.bool true]) rfl ⟨h19, trivial⟩ ?_
    exact hI.fin 0 ⟨rfl, rfl⟩
  · skip
    rw [if_neg hc14] at hF
    have hbhc14 : (decide ((20 : Int) < (a0.Members.length : Int))) = false := decide_eq_false hc14
    refine lv (v := .bool false) rfl (r_mv rfl ((show opd _ _ _ = _ from rfl).trans (congrArg Value.bool hbhc14))) rfl ?_
    refine lv (v := .agg (flat [ckI a1.Epoch, ckI a1.Height, ckV flB a1.Prev, ckV flB a1.State, ckV flB a1.Next, ckL s2]).toArray) rfl (r_cla (off := 0) (p := 0) (m := 6) (hI.good.ca 1 rfl) rfl ag69 h12 rfl rfl) rfl ?_
    obtain ⟨x20, hx20, hF⟩ := Option.bind_eq_some_iff.1 hF
    have hsp23 := spec_64 hx20 hT (hI.part 0) hs2
    refine fc ([]) ([.cb g4 [ckI a0.Epoch, ckL s1] 64, .cb g6 [ckI a1.Epoch, ckI a1.Height, ckV flB a1.Prev, ckV flB a1.State, ckV flB a1.Next, ckL s2] 69, .cb g8 [ckI a2.Round, ckL s3] 71]) (args := [.agg (flat [ckI a1.Epoch, ckI a1.Height, ckV flB a1.Prev, ckV flB a1.State, ckV flB a1.Next, ckL s2]).toArray, .int .i64 4096]) fc64 rfl rfl rfl hI (argc rfl (argc rfl rfl)) (hsp23) ?_
    rintro _ H21 _ w22 ⟨rfl, rfl⟩ hleH21 hI
    replace hI : Inv B w22 H21 [.cb g4 [ckI a0.Epoch, ckL s1] 64, .cb g6 [ckI a1.Epoch, ckI a1.Height, ckV flB a1.Prev, ckV flB a1.State, ckV flB a1.Next, ckL s2] 69, .cb g8 [ckI a2.Round, ckL s3] 71] := hI
    refine lv (v := .bool x20) rfl (r_pkF rfl rfl rfl) rfl ?_
    by_cases hc24 : x20 = true
    · skip
      rw [if_pos hc24] at hF
      have hbhc24 : x20 = true := hc24
      refine lv (v := .bool true) rfl (r_mv rfl ((show opd _ _ _ = _ from rfl).trans (congrArg Value.bool hbhc24))) rfl ?_
      with_reducible refine lx (d := 18) (by kernel_rfl) (by kernel_rfl) ?_
      with_reducible refine lx (d := 19) (by kernel_rfl) (by kernel_rfl) ?_
      with_reducible refine lx (d := 20) (by kernel_rfl) (by kernel_rfl) ?_
      with_reducible refine lx (d := 21) (by kernel_rfl) (by kernel_rfl) ?_
      refine lv (v := .bool true) rfl (r_pkT rfl rfl rfl) rfl ?_
      refine wend ?_
      refine wthen ?_
      refine wren (fun ρ25 eρ25 => ?_)
      have h26 : opd ρ25 52 (.tmp 5) = .pointer (some ⟨g8, 0 + 0, none⟩) := (eρ25 5).trans h13
      have h27 : opd ρ25 52 (.tmp 22) = .bool true := eρ25 22
      clear eρ25
      refine wcT h27 ?_
      refine wseq ?_
      refine wreg ?_
      refine lv (v := .bool true) rfl (r_as rfl rfl) rfl ?_
      refine wend ?_
      refine wthen ?_
      refine wren (fun ρ28 eρ28 => ?_)
      have h29 : opd ρ28 52 (.tmp 6) = .bool true := eρ28 6
      clear eρ28
      refine wp_ret ?_
      refine thR ?_
      obtain rfl := Option.some.inj hF
      subst hB
      refine finR (rs := [.tmp 6]) (vs := [.bool true]) rfl ⟨h29, trivial⟩ ?_
      exact hI.fin 0 ⟨rfl, rfl⟩
    · skip
      rw [if_neg hc24] at hF
      have hbhc24 : x20 = false := (Bool.eq_false_iff.2 hc24)
      refine lv (v := .bool false) rfl (r_mv rfl ((show opd _ _ _ = _ from rfl).trans (congrArg Value.bool hbhc24))) rfl ?_
      refine lv (v := .pointer (some ⟨g8, 0 + 1, none⟩)) rfl (l_fa (j := 0) (i := 0) rfl fl71_1 h13 rfl) rfl ?_
      refine lv (v := s3.v) rfl (r_cl1 (off := 1) (p := 1) (hI.good.ca 2 rfl) rfl sc22 rfl rfl rfl) rfl ?_
      refine lv (v := .int .i64 (a2.Votes.length : Int)) rfl (r_lenS rfl sl22 rfl (hs3.mono hleH21)) rfl ?_
      refine lv (v := .bool (decide ((12 : Int) < (a2.Votes.length : Int)))) rfl (r_gtr rfl rfl rfl rfl) rfl ?_
      refine lv (v := .bool (decide ((12 : Int) < (a2.Votes.length : Int)))) rfl (r_pkF rfl rfl rfl) rfl ?_
      refine wend ?_
      refine wthen ?_
      refine wren (fun ρ30 eρ30 => ?_)
      have h31 : opd ρ30 52 (.tmp 5) = .pointer (some ⟨g8, 0 + 0, none⟩) := (eρ30 5).trans h13
      have h32 : opd ρ30 52 (.tmp 22) = .bool (decide ((12 : Int) < (a2.Votes.length : Int))) := eρ30 22
      clear eρ30
      by_cases hc33 : (12 : Int) < (a2.Votes.length : Int)
      · skip
        rw [if_pos hc33] at hF
        have hbhc33 : (decide ((12 : Int) < (a2.Votes.length : Int))) = true := decide_eq_true hc33
        refine wcT (h32.trans (congrArg Value.bool hbhc33)) ?_
        refine wseq ?_
        refine wreg ?_
        refine lv (v := .bool true) rfl (r_as rfl rfl) rfl ?_
        refine wend ?_
        refine wthen ?_
        refine wren (fun ρ34 eρ34 => ?_)
        have h35 : opd ρ34 52 (.tmp 6) = .bool true := eρ34 6
        clear eρ34
        refine wp_ret ?_
        refine thR ?_
        obtain rfl := Option.some.inj hF
        subst hB
        refine finR (rs := [.tmp 6]) (vs := [.bool true]) rfl ⟨h35, trivial⟩ ?_
        exact hI.fin 0 ⟨rfl, rfl⟩
      · skip
        rw [if_neg hc33] at hF
        have hbhc33 : (decide ((12 : Int) < (a2.Votes.length : Int))) = false := decide_eq_false hc33
        refine wcF (h32.trans (congrArg Value.bool hbhc33)) ?_
        refine wp_skip ?_
        refine wthen ?_
        refine wseq ?_
        refine wseq ?_
        refine wreg ?_
        refine lv (v := .pointer (some ⟨g8, 0 + 1, none⟩)) rfl (l_fa (j := 0) (i := 0) rfl fl71_1 h31 rfl) rfl ?_
        refine lv (v := s3.v) rfl (r_cl1 (off := 1) (p := 1) (hI.good.ca 2 rfl) rfl sc22 rfl rfl rfl) rfl ?_
        refine lv (v := .int .i64 (a2.Votes.length : Int)) rfl (r_lenS rfl sl22 rfl (hs3.mono hleH21)) rfl ?_
        refine lv (v := .int .i64 0) rfl (r_mv rfl rfl) rfl ?_
        refine wend ?_
        refine wthen ?_
        refine wren (fun ρ36 eρ36 => ?_)
        have h37 : opd ρ36 52 (.tmp 24) = s3.v := eρ36 24
        have h38 : opd ρ36 52 (.tmp 25) = .int .i64 (a2.Votes.length : Int) := eρ36 25
        have h39 : opd ρ36 52 (.tmp 26) = .int .i64 0 := eρ36 26
        clear eρ36
        refine wp_block ?_
        have hbd40 := ((hs3.mono hleH21)).bd
        rw [((hs3.mono hleH21)).n] at hbd40
        obtain ⟨y40, hy40, hF40⟩ := Option.bind_eq_some_iff.1 hF
        refine wfor (n := 52) a2.Votes.length _ (fun (i40 : Nat) (σ40 : Unit) ρ' w' => ∃ (H90 : Hp), Hle H21 H90 ∧ opd ρ' 52 (.tmp 24) = s3.v ∧ opd ρ' 52 (.tmp 25) = .int .i64 (a2.Votes.length : Int) ∧ opd ρ' 52 (.tmp 26) = .int .i64 (i40 : Int) ∧ Inv B w' H90 []) hy40 ⟨H21, (Hle.refl _), h37, h38, h39, (hI.keep [false, false, false])⟩ ?_
        rintro k40 i40 σ40 ρ94 w95 hk40 ⟨H90, hleH90, h91, h92, h93, hI⟩ hy40
        refine wseq ?_
        refine wreg ?_
        refine lv (v := .bool (decide ((i40 : Int) < (a2.Votes.length : Int)))) rfl (r_lss rfl h93 h92 rfl) rfl ?_
        refine wend ?_
        refine wthen ?_
        refine wseq ?_
        by_cases hc96 : (i40 : Int) < (a2.Votes.length : Int)
        · skip
          have hbhc96 : (decide ((i40 : Int) < (a2.Votes.length : Int))) = true := decide_eq_true hc96
          obtain ⟨k40, rfl⟩ : ∃ m, k40 = m + 1 := ⟨k40 - 1, by omega⟩
          obtain ⟨z40, hb40⟩ := forK_body hy40
          have hF := hb40
          have hlt40 : ((i40 : Nat) : Int) + 1 ≤ 9223372036854775807 := by omega
          refine wcT ((show opd _ _ _ = _ from rfl).trans (congrArg Value.bool hbhc96)) ?_
          refine wp_skip ?_
          refine wthen ?_
          refine wren (fun ρ97 eρ97 => ?_)
          have h98 : opd ρ97 52 (.tmp 24) = s3.v := (eρ97 24).trans h91
          have h99 : opd ρ97 52 (.tmp 25) = .int .i64 (a2.Votes.length : Int) := (eρ97 25).trans h92
          have h100 : opd ρ97 52 (.tmp 26) = .int .i64 (i40 : Int) := (eρ97 26).trans h93
          clear eρ97
          refine wseq ?_
          refine wp_block ?_
          refine wseq ?_
          refine wreg ?_
          obtain ⟨x101, hx101, hF⟩ := Option.bind_eq_some_iff.1 hF
          obtain ⟨b102, j103, _, hix104, hil105, ⟨s107, s108, s109, rfl, hs107, hs108, hs109⟩, hA106⟩ := ((hs3.mono hleH21).mono hleH90).ix hx101
          replace hA106 : At H90 b102 j103 [ckI x101.Kind, ckI x101.Epoch, ckI x101.Height, ckI x101.Round, ckV flB x101.Digest, ckI x101.From, ckI x101.Sig.Leaf, ckL s107, ckL s108, ckL s109] := hA106
          refine lv (v := .pointer (some ⟨b102, j103 + 0, none⟩)) rfl (r_ixt rfl sl22 h98 h100 rfl hix104 hil105) rfl ?_
          refine lv (v := .agg (flat [ckI x101.Kind, ckI x101.Epoch, ckI x101.Height, ckI x101.Round, ckV flB x101.Digest, ckI x101.From, ckI x101.Sig.Leaf, ckL s107, ckL s108, ckL s109]).toArray) rfl (r_cla (off := 0) (p := 0) (m := 10) (hA106.ca hI.good) rfl ag35 rfl rfl rfl) rfl ?_
          refine le rfl (l_al hI rfl ze35) rfl ?_
          rintro _ w111 ⟨g110, rfl, hI⟩
          replace hI : Inv B w111 H90 [.cb g110 [ckI 0, ckI 0, ckI 0, ckI 0, ckV flB (Vec.rep 32 0), ckI 0, ckI 0, ckL Sv.nil, ckL Sv.nil, ckL Sv.nil] 35] := hI
          refine lst rfl (l_st (off := 0) (p := 0) (m := 10) (new := [ckI x101.Kind, ckI x101.Epoch, ckI x101.Height, ckI x101.Round, ckV flB x101.Digest, ckI x101.From, ckI x101.Sig.Leaf, ckL s107, ckL s108, ckL s109]) hI 0 rfl rfl sz35 rfl rfl rfl rfl rfl rfl) rfl ?_
          intro w112 hI
          replace hI : Inv B w112 H90 [.cb g110 [ckI x101.Kind, ckI x101.Epoch, ckI x101.Height, ckI x101.Round, ckV flB x101.Digest, ckI x101.From, ckI x101.Sig.Leaf, ckL s107, ckL s108, ckL s109] 35] := hI
          refine wend ?_
          refine wthen ?_
          refine wren (fun ρ113 eρ113 => ?_)
          have h114 : opd ρ113 52 (.tmp 8) = .pointer (some ⟨g110, 0 + 0, none⟩) := eρ113 8
          have h115 : opd ρ113 52 (.tmp 24) = s3.v := (eρ113 24).trans h98
          have h116 : opd ρ113 52 (.tmp 25) = .int .i64 (a2.Votes.length : Int) := (eρ113 25).trans h99
          have h117 : opd ρ113 52 (.tmp 26) = .int .i64 (i40 : Int) := (eρ113 26).trans h100
          clear eρ113
          refine wseq ?_
          refine wreg ?_
          refine lv (v := .pointer (some ⟨g110, 0 + 37, none⟩)) rfl (l_fa (j := 0) (i := 0) rfl fl35_6 h114 rfl) rfl ?_
          refine lv (v := .pointer (some ⟨g110, 0 + 38, none⟩)) rfl (l_fa (j := 0) (i := 37) rfl fl33_1 rfl rfl) rfl ?_
          refine lv (v := .pointer (some ⟨g110, 0 + 38, none⟩)) rfl (l_fa (j := 0) (i := 38) rfl fl31_0 rfl rfl) rfl ?_
          refine lv (v := s107.v) rfl (r_cl1 (off := 38) (p := 7) (hI.good.ca 0 rfl) rfl sc27 rfl rfl rfl) rfl ?_
          refine lv (v := .int .i64 (x101.Sig.Once.Open.length : Int)) rfl (r_lenS rfl sl27 rfl hs107) rfl ?_
          refine lv (v := .bool (decide ((200 : Int) < (x101.Sig.Once.Open.length : Int)))) rfl (r_gtr rfl rfl rfl rfl) rfl ?_
          by_cases hc118 : (200 : Int) < (x101.Sig.Once.Open.length : Int)
          · skip
            rw [if_pos hc118] at hF
            have hbhc118 : (decide ((200 : Int) < (x101.Sig.Once.Open.length : Int))) = true := decide_eq_true hc118
            refine lv (v := .bool true) rfl (r_mv rfl ((show opd _ _ _ = _ from rfl).trans (congrArg Value.bool hbhc118))) rfl ?_
            with_reducible refine lx (d := 37) (by kernel_rfl) (by kernel_rfl) ?_
            with_reducible refine lx (d := 38) (by kernel_rfl) (by kernel_rfl) ?_
            with_reducible refine lx (d := 39) (by kernel_rfl) (by kernel_rfl) ?_
            with_reducible refine lx (d := 40) (by kernel_rfl) (by kernel_rfl) ?_
            with_reducible refine lx (d := 41) (by kernel_rfl) (by kernel_rfl) ?_
            with_reducible refine lx (d := 42) (by kernel_rfl) (by kernel_rfl) ?_
            refine lv (v := .bool true) rfl (r_pkT rfl rfl rfl) rfl ?_
            refine lv (v := .bool true) rfl (r_mv rfl rfl) rfl ?_
            with_reducible refine lx (d := 45) (by kernel_rfl) (by kernel_rfl) ?_
            with_reducible refine lx (d := 46) (by kernel_rfl) (by kernel_rfl) ?_
            with_reducible refine lx (d := 47) (by kernel_rfl) (by kernel_rfl) ?_
            with_reducible refine lx (d := 48) (by kernel_rfl) (by kernel_rfl) ?_
            with_reducible refine lx (d := 49) (by kernel_rfl) (by kernel_rfl) ?_
            refine lv (v := .bool true) rfl (r_pkT rfl rfl rfl) rfl ?_
            refine wend ?_
            refine wthen ?_
            refine wren (fun ρ119 eρ119 => ?_)
            have h120 : opd ρ119 52 (.tmp 24) = s3.v := (eρ119 24).trans h115
            have h121 : opd ρ119 52 (.tmp 25) = .int .i64 (a2.Votes.length : Int) := (eρ119 25).trans h116
            have h122 : opd ρ119 52 (.tmp 26) = .int .i64 (i40 : Int) := (eρ119 26).trans h117
            have h123 : opd ρ119 52 (.tmp 50) = .bool true := eρ119 50
            clear eρ119
            refine wcT h123 ?_
            refine wseq ?_
            refine wreg ?_
            refine lv (v := .bool true) rfl (r_as rfl rfl) rfl ?_
            refine wend ?_
            refine wthen ?_
            refine wren (fun ρ124 eρ124 => ?_)
            have h125 : opd ρ124 52 (.tmp 6) = .bool true := eρ124 6
            clear eρ124
            refine wp_ret ?_
            refine inR ?_
            refine thR ?_
            refine thR ?_
            obtain ⟨q126, hFn, hzq126⟩ := Option.map_eq_some_iff.1 hF
            clear hF
            obtain rfl := forK_inr hy40 (hb40.trans (congrArg some hzq126.symm))
            have hF0 := hF40
            try dsimp only at hF0
            have hF := hFn.trans hF0
            clear hFn hF0
            refine inR ?_
            refine thR ?_
            obtain rfl := Option.some.inj hF
            subst hB
            refine finR (rs := [.tmp 6]) (vs := [.bool true]) rfl ⟨h125, trivial⟩ ?_
            exact hI.fin 0 ⟨rfl, rfl⟩
          · skip
            rw [if_neg hc118] at hF
            have hbhc118 : (decide ((200 : Int) < (x101.Sig.Once.Open.length : Int))) = false := decide_eq_false hc118
            refine lv (v := .bool false) rfl (r_mv rfl ((show opd _ _ _ = _ from rfl).trans (congrArg Value.bool hbhc118))) rfl ?_
            refine lv (v := .pointer (some ⟨g110, 0 + 37, none⟩)) rfl (l_fa (j := 0) (i := 0) rfl fl35_6 h114 rfl) rfl ?_
            refine lv (v := .pointer (some ⟨g110, 0 + 38, none⟩)) rfl (l_fa (j := 0) (i := 37) rfl fl33_1 rfl rfl) rfl ?_
            refine lv (v := .pointer (some ⟨g110, 0 + 39, none⟩)) rfl (l_fa (j := 0) (i := 38) rfl fl31_1 rfl rfl) rfl ?_
            refine lv (v := s108.v) rfl (r_cl1 (off := 39) (p := 8) (hI.good.ca 0 rfl) rfl sc27 rfl rfl rfl) rfl ?_
            refine lv (v := .int .i64 (x101.Sig.Once.Shut.length : Int)) rfl (r_lenS rfl sl27 rfl hs108) rfl ?_
            refine lv (v := .bool (decide ((200 : Int) < (x101.Sig.Once.Shut.length : Int)))) rfl (r_gtr rfl rfl rfl rfl) rfl ?_
            refine lv (v := .bool (decide ((200 : Int) < (x101.Sig.Once.Shut.length : Int)))) rfl (r_pkF rfl rfl rfl) rfl ?_
            by_cases hc127 : (200 : Int) < (x101.Sig.Once.Shut.length : Int)
            · skip
              rw [if_pos hc127] at hF
              have hbhc127 : (decide ((200 : Int) < (x101.Sig.Once.Shut.length : Int))) = true := decide_eq_true hc127
              refine lv (v := .bool true) rfl (r_mv rfl ((show opd _ _ _ = _ from rfl).trans (congrArg Value.bool hbhc127))) rfl ?_
              with_reducible refine lx (d := 45) (by kernel_rfl) (by kernel_rfl) ?_
              with_reducible refine lx (d := 46) (by kernel_rfl) (by kernel_rfl) ?_
              with_reducible refine lx (d := 47) (by kernel_rfl) (by kernel_rfl) ?_
              with_reducible refine lx (d := 48) (by kernel_rfl) (by kernel_rfl) ?_
              with_reducible refine lx (d := 49) (by kernel_rfl) (by kernel_rfl) ?_
              refine lv (v := .bool true) rfl (r_pkT rfl rfl rfl) rfl ?_
              refine wend ?_
              refine wthen ?_
              refine wren (fun ρ128 eρ128 => ?_)
              have h129 : opd ρ128 52 (.tmp 24) = s3.v := (eρ128 24).trans h115
              have h130 : opd ρ128 52 (.tmp 25) = .int .i64 (a2.Votes.length : Int) := (eρ128 25).trans h116
              have h131 : opd ρ128 52 (.tmp 26) = .int .i64 (i40 : Int) := (eρ128 26).trans h117
              have h132 : opd ρ128 52 (.tmp 50) = .bool true := eρ128 50
              clear eρ128
              refine wcT h132 ?_
              refine wseq ?_
              refine wreg ?_
              refine lv (v := .bool true) rfl (r_as rfl rfl) rfl ?_
              refine wend ?_
              refine wthen ?_
              refine wren (fun ρ133 eρ133 => ?_)
              have h134 : opd ρ133 52 (.tmp 6) = .bool true := eρ133 6
              clear eρ133
              refine wp_ret ?_
              refine inR ?_
              refine thR ?_
              refine thR ?_
              obtain ⟨q135, hFn, hzq135⟩ := Option.map_eq_some_iff.1 hF
              clear hF
              obtain rfl := forK_inr hy40 (hb40.trans (congrArg some hzq135.symm))
              have hF0 := hF40
              try dsimp only at hF0
              have hF := hFn.trans hF0
              clear hFn hF0
              refine inR ?_
              refine thR ?_
              obtain rfl := Option.some.inj hF
              subst hB
              refine finR (rs := [.tmp 6]) (vs := [.bool true]) rfl ⟨h134, trivial⟩ ?_
              exact hI.fin 0 ⟨rfl, rfl⟩
            · skip
              rw [if_neg hc127] at hF
              have hbhc127 : (decide ((200 : Int) < (x101.Sig.Once.Shut.length : Int))) = false := decide_eq_false hc127
              refine lv (v := .bool false) rfl (r_mv rfl ((show opd _ _ _ = _ from rfl).trans (congrArg Value.bool hbhc127))) rfl ?_
              refine lv (v := .pointer (some ⟨g110, 0 + 37, none⟩)) rfl (l_fa (j := 0) (i := 0) rfl fl35_6 h114 rfl) rfl ?_
              refine lv (v := .pointer (some ⟨g110, 0 + 40, none⟩)) rfl (l_fa (j := 0) (i := 37) rfl fl33_2 rfl rfl) rfl ?_
              refine lv (v := s109.v) rfl (r_cl1 (off := 40) (p := 9) (hI.good.ca 0 rfl) rfl sc27 rfl rfl rfl) rfl ?_
              refine lv (v := .int .i64 (x101.Sig.Path.length : Int)) rfl (r_lenS rfl sl27 rfl hs109) rfl ?_
              refine lv (v := .bool (decide ((200 : Int) < (x101.Sig.Path.length : Int)))) rfl (r_gtr rfl rfl rfl rfl) rfl ?_
              refine lv (v := .bool (decide ((200 : Int) < (x101.Sig.Path.length : Int)))) rfl (r_pkF rfl rfl rfl) rfl ?_
              refine wend ?_
              refine wthen ?_
              refine wren (fun ρ136 eρ136 => ?_)
              have h137 : opd ρ136 52 (.tmp 24) = s3.v := (eρ136 24).trans h115
              have h138 : opd ρ136 52 (.tmp 25) = .int .i64 (a2.Votes.length : Int) := (eρ136 25).trans h116
              have h139 : opd ρ136 52 (.tmp 26) = .int .i64 (i40 : Int) := (eρ136 26).trans h117
              have h140 : opd ρ136 52 (.tmp 50) = .bool (decide ((200 : Int) < (x101.Sig.Path.length : Int))) := eρ136 50
              clear eρ136
              by_cases hc141 : (200 : Int) < (x101.Sig.Path.length : Int)
              · skip
                rw [if_pos hc141] at hF
                have hbhc141 : (decide ((200 : Int) < (x101.Sig.Path.length : Int))) = true := decide_eq_true hc141
                refine wcT (h140.trans (congrArg Value.bool hbhc141)) ?_
                refine wseq ?_
                refine wreg ?_
                refine lv (v := .bool true) rfl (r_as rfl rfl) rfl ?_
                refine wend ?_
                refine wthen ?_
                refine wren (fun ρ142 eρ142 => ?_)
                have h143 : opd ρ142 52 (.tmp 6) = .bool true := eρ142 6
                clear eρ142
                refine wp_ret ?_
                refine inR ?_
                refine thR ?_
                refine thR ?_
                obtain ⟨q144, hFn, hzq144⟩ := Option.map_eq_some_iff.1 hF
                clear hF
                obtain rfl := forK_inr hy40 (hb40.trans (congrArg some hzq144.symm))
                have hF0 := hF40
                try dsimp only at hF0
                have hF := hFn.trans hF0
                clear hFn hF0
                refine inR ?_
                refine thR ?_
                obtain rfl := Option.some.inj hF
                subst hB
                refine finR (rs := [.tmp 6]) (vs := [.bool true]) rfl ⟨h143, trivial⟩ ?_
                exact hI.fin 0 ⟨rfl, rfl⟩
              · skip
                rw [if_neg hc141] at hF
                have hbhc141 : (decide ((200 : Int) < (x101.Sig.Path.length : Int))) = false := decide_eq_false hc141
                refine wcF (h140.trans (congrArg Value.bool hbhc141)) ?_
                refine wp_skip ?_
                refine inN ?_
                refine wthen ?_
                refine wreg ?_
                refine lv (v := .int .i64 ((i40 + 1 : Nat) : Int)) rfl (r_addn rfl h139 rfl hlt40) rfl ?_
                refine lv (v := .int .i64 ((i40 + 1 : Nat) : Int)) rfl (r_mv rfl rfl) rfl ?_
                refine wend ?_
                obtain rfl := Option.some.inj hF
                exact ⟨k40, (), _, rfl, rfl, ⟨H90, hleH90, h137, h138, rfl, (hI.keep [false])⟩, forK_inl hy40 hb40⟩
        · skip
          have hbhc96 : (decide ((i40 : Int) < (a2.Votes.length : Int))) = false := decide_eq_false hc96
          obtain rfl : k40 = 0 := by omega
          obtain rfl := forK_end hy40
          have hF := hF40
          try dsimp only at hF
          refine wcF ((show opd _ _ _ = _ from rfl).trans (congrArg Value.bool hbhc96)) ?_
          refine wp_exit ?_
          refine thE ?_
          refine thE ?_
          refine inX ?_
          refine wthen ?_
          refine wren (fun ρ145 eρ145 => ?_)
          clear eρ145
          refine wseq ?_
          refine wreg ?_
          refine lv (v := .bool false) rfl (r_as rfl rfl) rfl ?_
          refine wend ?_
          refine wthen ?_
          refine wren (fun ρ146 eρ146 => ?_)
          have h147 : opd ρ146 52 (.tmp 6) = .bool false := eρ146 6
          clear eρ146
          refine wp_ret ?_
          obtain rfl := Option.some.inj hF
          subst hB
          refine finR (rs := [.tmp 6]) (vs := [.bool false]) rfl ⟨h147, trivial⟩ ?_
          exact hI.fin 0 ⟨rfl, rfl⟩
noncomputable def M_wapentakeref08_Faults (a0 : Int) : Option (Int) := (runL (fun (σ6 : Int) => ((if (wI ((wI ((3 : Int) * (wI (σ6 + 1)))) + 1)) ≤ a0 then some (.inl (wI (σ6 + 1))) else ((some σ6).map Sum.inr)) : Option (Int ⊕ Int))) 0)
set_option maxHeartbeats 1000000 in
theorem spec_92 {w : World} {H : Hp} {a0 : Int}  {r : Int} (hF : M_wapentakeref08_Faults a0 = some r) (hT : Tab H) (hG : Good w H [])  :
    Fine Tryd.prog 92 [.int .i64 a0] w H [] (fun H' v L' => v = .int .i64 r ∧ L' = []) := by
  unfold M_wapentakeref08_Faults at hF
  unfold Fine
  obtain ⟨B, hB⟩ : ∃ B : Base, B = ⟨w, H, blks []⟩ := ⟨_, rfl⟩
  have hI : Inv B w H [] := by rw [hB]; exact Inv.start hG
  refine enter (n := 13) (args := [.int .i64 a0]) Tryd.func92 rfl Tryd.ntmps92 (Nat.le_of_ble_eq_true rfl) ?_
  refine wseq ?_
  refine wreg ?_
  refine lv (v := .int .i64 0) rfl (r_as rfl rfl) rfl ?_
  refine wend ?_
  refine wthen ?_
  refine wren (fun ρ1 eρ1 => ?_)
  have h2 : opd ρ1 13 (.tmp 0) = .int .i64 a0 := eρ1 0
  clear eρ1
  refine wseq ?_
  refine wreg ?_
  refine lv (v := .int .i64 0) rfl (r_as rfl rfl) rfl ?_
  refine wend ?_
  refine wthen ?_
  refine wren (fun ρ3 eρ3 => ?_)
  have h4 : opd ρ3 13 (.tmp 0) = .int .i64 a0 := (eρ3 0).trans h2
  have h5 : opd ρ3 13 (.tmp 3) = .int .i64 0 := eρ3 3
  clear eρ3
  refine wseq ?_
  refine wp_block ?_
  refine wrun (n := 13) _ (fun (σ6 : Int) ρ' w' => ∃ (H19 : Hp), Hle H H19 ∧ opd ρ' 13 (.tmp 0) = .int .i64 a0 ∧ opd ρ' 13 (.tmp 3) = .int .i64 σ6 ∧ Inv B w' H19 []) hF ⟨H, (Hle.refl _), h4, h5, hI⟩ ?_
  rintro k6 σ6 ρ22 w23 ⟨H19, hleH19, h20, h21, hI⟩ hy6
  obtain ⟨z6, hb6⟩ := iterK_body hy6
  have hF := hb6
  refine wseq ?_
  refine wseq ?_
  refine wreg ?_
  refine lv (v := .int .i64 σ6) rfl (r_mv rfl h21) rfl ?_
  refine lv (v := .int .i64 (wI (σ6 + 1))) rfl (r_addw rfl rfl rfl) rfl ?_
  refine lv (v := .int .i64 (wI ((3 : Int) * (wI (σ6 + 1))))) rfl (r_mulw rfl rfl rfl) rfl ?_
  refine lv (v := .int .i64 (wI ((wI ((3 : Int) * (wI (σ6 + 1)))) + 1))) rfl (r_addw rfl rfl rfl) rfl ?_
  refine lv (v := .int .i64 a0) rfl (r_mv rfl h20) rfl ?_
  refine lv (v := .bool (decide ((wI ((wI ((3 : Int) * (wI (σ6 + 1)))) + 1)) ≤ a0))) rfl (r_leq rfl rfl rfl rfl) rfl ?_
  refine wend ?_
  refine wthen ?_
  refine wren (fun ρ24 eρ24 => ?_)
  have h25 : opd ρ24 13 (.tmp 0) = .int .i64 a0 := (eρ24 0).trans h20
  have h26 : opd ρ24 13 (.tmp 3) = .int .i64 σ6 := (eρ24 3).trans h21
  have h27 : opd ρ24 13 (.tmp 9) = .bool (decide ((wI ((wI ((3 : Int) * (wI (σ6 + 1)))) + 1)) ≤ a0)) := eρ24 9
  clear eρ24
  by_cases hc28 : (wI ((wI ((3 : Int) * (wI (σ6 + 1)))) + 1)) ≤ a0
  · skip
    rw [if_pos hc28] at hF
    have hbhc28 : (decide ((wI ((wI ((3 : Int) * (wI (σ6 + 1)))) + 1)) ≤ a0)) = true := decide_eq_true hc28
    refine wcT (h27.trans (congrArg Value.bool hbhc28)) ?_
    refine wp_skip ?_
    refine wthen ?_
    refine wp_block ?_
    refine wreg ?_
    refine lv (v := .int .i64 σ6) rfl (r_mv rfl h26) rfl ?_
    refine lv (v := .int .i64 (wI (σ6 + 1))) rfl (r_addw rfl rfl rfl) rfl ?_
    refine lv (v := .int .i64 (wI (σ6 + 1))) rfl (r_as rfl rfl) rfl ?_
    refine wend ?_
    refine inN ?_
    obtain rfl := Option.some.inj hF
    exact ⟨(wI (σ6 + 1)), _, rfl, ⟨H19, hleH19, h25, rfl, hI⟩, iterK_inl hy6 hb6⟩
  · skip
    rw [if_neg hc28] at hF
    have hbhc28 : (decide ((wI ((wI ((3 : Int) * (wI (σ6 + 1)))) + 1)) ≤ a0)) = false := decide_eq_false hc28
    refine wcF (h27.trans (congrArg Value.bool hbhc28)) ?_
    refine wp_exit ?_
    refine thE ?_
    refine thE ?_
    obtain ⟨q29, hFn, hzq29⟩ := Option.map_eq_some_iff.1 hF
    clear hF
    have hy0 := iterK_inr hy6 (hb6.trans (congrArg some hzq29.symm))
    rw [← hy0] at hFn
    have hF := hFn
    clear hFn
    refine inX ?_
    refine wthen ?_
    refine wseq ?_
    refine wreg ?_
    refine lv (v := .int .i64 σ6) rfl (r_mv rfl h26) rfl ?_
    refine lv (v := .int .i64 σ6) rfl (r_as rfl rfl) rfl ?_
    refine wend ?_
    refine wthen ?_
    refine wren (fun ρ30 eρ30 => ?_)
    have h31 : opd ρ30 13 (.tmp 2) = .int .i64 σ6 := eρ30 2
    clear eρ30
    refine wp_ret ?_
    obtain rfl := Option.some.inj hF
    subst hB
    refine finR (rs := [.tmp 2]) (vs := [.int .i64 σ6]) rfl ⟨h31, trivial⟩ ?_
    exact hI.fin 0 ⟨rfl, rfl⟩
noncomputable def M_wapentakeref08_Quorum (a0 : Int) : Option (Int) := (runL (fun (σ6 : Int) => (((M_wapentakeref08_Faults a0).bind fun x32 => (if (wI ((2 : Int) * σ6)) ≤ (wI (a0 + x32)) then some (.inl (wI (σ6 + 1))) else ((some σ6).map Sum.inr))) : Option (Int ⊕ Int))) 0)
set_option maxHeartbeats 1000000 in
theorem spec_48 {w : World} {H : Hp} {a0 : Int}  {r : Int} (hF : M_wapentakeref08_Quorum a0 = some r) (hT : Tab H) (hG : Good w H [])  :
    Fine Tryd.prog 48 [.int .i64 a0] w H [] (fun H' v L' => v = .int .i64 r ∧ L' = []) := by
  unfold M_wapentakeref08_Quorum at hF
  unfold Fine
  obtain ⟨B, hB⟩ : ∃ B : Base, B = ⟨w, H, blks []⟩ := ⟨_, rfl⟩
  have hI : Inv B w H [] := by rw [hB]; exact Inv.start hG
  refine enter (n := 14) (args := [.int .i64 a0]) Tryd.func48 rfl Tryd.ntmps48 (Nat.le_of_ble_eq_true rfl) ?_
  refine wseq ?_
  refine wreg ?_
  refine lv (v := .int .i64 0) rfl (r_as rfl rfl) rfl ?_
  refine wend ?_
  refine wthen ?_
  refine wren (fun ρ1 eρ1 => ?_)
  have h2 : opd ρ1 14 (.tmp 0) = .int .i64 a0 := eρ1 0
  clear eρ1
  refine wseq ?_
  refine wreg ?_
  refine lv (v := .int .i64 0) rfl (r_as rfl rfl) rfl ?_
  refine wend ?_
  refine wthen ?_
  refine wren (fun ρ3 eρ3 => ?_)
  have h4 : opd ρ3 14 (.tmp 0) = .int .i64 a0 := (eρ3 0).trans h2
  have h5 : opd ρ3 14 (.tmp 3) = .int .i64 0 := eρ3 3
  clear eρ3
  refine wseq ?_
  refine wp_block ?_
  refine wrun (n := 14) _ (fun (σ6 : Int) ρ' w' => ∃ (H27 : Hp), Hle H H27 ∧ opd ρ' 14 (.tmp 0) = .int .i64 a0 ∧ opd ρ' 14 (.tmp 3) = .int .i64 σ6 ∧ Inv B w' H27 []) hF ⟨H, (Hle.refl _), h4, h5, hI⟩ ?_
  rintro k6 σ6 ρ30 w31 ⟨H27, hleH27, h28, h29, hI⟩ hy6
  obtain ⟨z6, hb6⟩ := iterK_body hy6
  have hF := hb6
  refine wseq ?_
  refine wseq ?_
  refine wreg ?_
  refine lv (v := .int .i64 σ6) rfl (r_mv rfl h29) rfl ?_
  refine lv (v := .int .i64 (wI ((2 : Int) * σ6))) rfl (r_mulw rfl rfl rfl) rfl ?_
  refine lv (v := .int .i64 a0) rfl (r_mv rfl h28) rfl ?_
  refine lv (v := .int .i64 a0) rfl (r_mv rfl h28) rfl ?_
  obtain ⟨x32, hx32, hF⟩ := Option.bind_eq_some_iff.1 hF
  have hsp35 := spec_92 hx32 (hT.mono hleH27) (hI.part 0) 
  refine fc ([]) ([]) (args := [.int .i64 a0]) fc92 rfl rfl rfl hI (argc rfl rfl) (hsp35) ?_
  rintro _ H33 _ w34 ⟨rfl, rfl⟩ hleH33 hI
  replace hI : Inv B w34 H33 [] := hI
  refine lv (v := .int .i64 (wI (a0 + x32))) rfl (r_addw rfl rfl rfl) rfl ?_
  refine lv (v := .bool (decide ((wI ((2 : Int) * σ6)) ≤ (wI (a0 + x32))))) rfl (r_leq rfl rfl rfl rfl) rfl ?_
  refine wend ?_
  refine wthen ?_
  refine wren (fun ρ36 eρ36 => ?_)
  have h37 : opd ρ36 14 (.tmp 0) = .int .i64 a0 := (eρ36 0).trans h28
  have h38 : opd ρ36 14 (.tmp 3) = .int .i64 σ6 := (eρ36 3).trans h29
  have h39 : opd ρ36 14 (.tmp 10) = .bool (decide ((wI ((2 : Int) * σ6)) ≤ (wI (a0 + x32)))) := eρ36 10
  clear eρ36
  by_cases hc40 : (wI ((2 : Int) * σ6)) ≤ (wI (a0 + x32))
  · skip
    rw [if_pos hc40] at hF
    have hbhc40 : (decide ((wI ((2 : Int) * σ6)) ≤ (wI (a0 + x32)))) = true := decide_eq_true hc40
    refine wcT (h39.trans (congrArg Value.bool hbhc40)) ?_
    refine wp_skip ?_
    refine wthen ?_
    refine wp_block ?_
    refine wreg ?_
    refine lv (v := .int .i64 σ6) rfl (r_mv rfl h38) rfl ?_
    refine lv (v := .int .i64 (wI (σ6 + 1))) rfl (r_addw rfl rfl rfl) rfl ?_
    refine lv (v := .int .i64 (wI (σ6 + 1))) rfl (r_as rfl rfl) rfl ?_
    refine wend ?_
    refine inN ?_
    obtain rfl := Option.some.inj hF
    exact ⟨(wI (σ6 + 1)), _, rfl, ⟨H33, (hleH27.trans hleH33), h37, rfl, hI⟩, iterK_inl hy6 hb6⟩
  · skip
    rw [if_neg hc40] at hF
    have hbhc40 : (decide ((wI ((2 : Int) * σ6)) ≤ (wI (a0 + x32)))) = false := decide_eq_false hc40
    refine wcF (h39.trans (congrArg Value.bool hbhc40)) ?_
    refine wp_exit ?_
    refine thE ?_
    refine thE ?_
    obtain ⟨q41, hFn, hzq41⟩ := Option.map_eq_some_iff.1 hF
    clear hF
    have hy0 := iterK_inr hy6 (hb6.trans (congrArg some hzq41.symm))
    rw [← hy0] at hFn
    have hF := hFn
    clear hFn
    refine inX ?_
    refine wthen ?_
    refine wseq ?_
    refine wreg ?_
    refine lv (v := .int .i64 σ6) rfl (r_mv rfl h38) rfl ?_
    refine lv (v := .int .i64 σ6) rfl (r_as rfl rfl) rfl ?_
    refine wend ?_
    refine wthen ?_
    refine wren (fun ρ42 eρ42 => ?_)
    have h43 : opd ρ42 14 (.tmp 2) = .int .i64 σ6 := eρ42 2
    clear eρ42
    refine wp_ret ?_
    obtain rfl := Option.some.inj hF
    subst hB
    refine finR (rs := [.tmp 2]) (vs := [.int .i64 σ6]) rfl ⟨h43, trivial⟩ ?_
    exact hI.fin 0 ⟨rfl, rfl⟩
noncomputable def M_wapentakeref03_Same (a0 : List (Vec UInt8 32)) (a1 : List (Vec UInt8 32)) : Option (Bool) := (if (a0.length : Int) ≠ (a1.length : Int) then some false else ((forK (fun (i18 : Nat) (σ18 : Unit) => (((a0[i18]?).bind fun x76 => ((a1[i18]?).bind fun x82 => (if x76 = x82 then some (.inl ()) else ((some false).map Sum.inr)))) : Option (Unit ⊕ Bool))) a0.length 0 ()).bind fun y => match y with | .inl _ => some true | .inr r => some r))
set_option maxHeartbeats 4000000 in
theorem spec_167 {w : World} {H : Hp} {a0 : List (Vec UInt8 32)} {a1 : List (Vec UInt8 32)} {s1 : Sv} {s2 : Sv} {r : Bool} (hF : M_wapentakeref03_Same a0 a1 = some r) (hT : Tab H) (hG : Good w H []) (hs1 : Sl (Fl.ty (flV flB 32)) H s1 a0) (hs2 : Sl (Fl.ty (flV flB 32)) H s2 a1) :
    Fine Tryd.prog 167 [s1.v, s2.v] w H [] (fun H' v L' => v = .bool r ∧ L' = []) := by
  unfold M_wapentakeref03_Same at hF
  unfold Fine
  obtain ⟨B, hB⟩ : ∃ B : Base, B = ⟨w, H, blks []⟩ := ⟨_, rfl⟩
  have hI : Inv B w H [] := by rw [hB]; exact Inv.start hG
  refine enter (n := 26) (args := [s1.v, s2.v]) Tryd.func167 rfl Tryd.ntmps167 (Nat.le_of_ble_eq_true rfl) ?_
  refine wseq ?_
  refine wreg ?_
  refine lv (v := .bool false) rfl (r_as rfl rfl) rfl ?_
  refine wend ?_
  refine wthen ?_
  refine wren (fun ρ3 eρ3 => ?_)
  have h4 : opd ρ3 26 (.tmp 0) = s1.v := eρ3 0
  have h5 : opd ρ3 26 (.tmp 1) = s2.v := eρ3 1
  clear eρ3
  refine wseq ?_
  refine wseq ?_
  refine wreg ?_
  refine lv (v := s1.v) rfl (r_mv rfl h4) rfl ?_
  refine lv (v := .int .i64 (a0.length : Int)) rfl (r_lenS rfl sl27 rfl hs1) rfl ?_
  refine lv (v := s2.v) rfl (r_mv rfl h5) rfl ?_
  refine lv (v := .int .i64 (a1.length : Int)) rfl (r_lenS rfl sl27 rfl hs2) rfl ?_
  refine lv (v := .bool (decide ((a0.length : Int) ≠ (a1.length : Int)))) rfl (r_neq rfl rfl rfl rfl) rfl ?_
  refine wend ?_
  refine wthen ?_
  refine wren (fun ρ6 eρ6 => ?_)
  have h7 : opd ρ6 26 (.tmp 0) = s1.v := (eρ6 0).trans h4
  have h8 : opd ρ6 26 (.tmp 1) = s2.v := (eρ6 1).trans h5
  have h9 : opd ρ6 26 (.tmp 10) = .bool (decide ((a0.length : Int) ≠ (a1.length : Int))) := eρ6 10
  clear eρ6
  by_cases hc10 : (a0.length : Int) ≠ (a1.length : Int)
  · skip
    rw [if_pos hc10] at hF
    have hbhc10 : (decide ((a0.length : Int) ≠ (a1.length : Int))) = true := decide_eq_true hc10
    refine wcT (h9.trans (congrArg Value.bool hbhc10)) ?_
    refine wseq ?_
    refine wreg ?_
    refine lv (v := .bool false) rfl (r_as rfl rfl) rfl ?_
    refine wend ?_
    refine wthen ?_
    refine wren (fun ρ11 eρ11 => ?_)
    have h12 : opd ρ11 26 (.tmp 4) = .bool false := eρ11 4
    clear eρ11
    refine wp_ret ?_
    refine thR ?_
    obtain rfl := Option.some.inj hF
    subst hB
    refine finR (rs := [.tmp 4]) (vs := [.bool false]) rfl ⟨h12, trivial⟩ ?_
    exact hI.fin 0 ⟨rfl, rfl⟩
  · skip
    rw [if_neg hc10] at hF
    have hbhc10 : (decide ((a0.length : Int) ≠ (a1.length : Int))) = false := decide_eq_false hc10
    refine wcF (h9.trans (congrArg Value.bool hbhc10)) ?_
    refine wp_skip ?_
    refine wthen ?_
    refine wseq ?_
    refine wseq ?_
    refine wreg ?_
    refine lv (v := s1.v) rfl (r_mv rfl h7) rfl ?_
    refine lv (v := .int .i64 (a0.length : Int)) rfl (r_lenS rfl sl27 rfl hs1) rfl ?_
    refine lv (v := .int .i64 0) rfl (r_mv rfl rfl) rfl ?_
    refine wend ?_
    refine wthen ?_
    refine wren (fun ρ13 eρ13 => ?_)
    have h14 : opd ρ13 26 (.tmp 0) = s1.v := (eρ13 0).trans h7
    have h15 : opd ρ13 26 (.tmp 1) = s2.v := (eρ13 1).trans h8
    have h16 : opd ρ13 26 (.tmp 12) = .int .i64 (a0.length : Int) := eρ13 12
    have h17 : opd ρ13 26 (.tmp 13) = .int .i64 0 := eρ13 13
    clear eρ13
    refine wp_block ?_
    have hbd18 := (hs1).bd
    rw [(hs1).n] at hbd18
    obtain ⟨y18, hy18, hF18⟩ := Option.bind_eq_some_iff.1 hF
    refine wfor (n := 26) a0.length _ (fun (i18 : Nat) (σ18 : Unit) ρ' w' => ∃ (H56 : Hp), Hle H H56 ∧ opd ρ' 26 (.tmp 0) = s1.v ∧ opd ρ' 26 (.tmp 1) = s2.v ∧ opd ρ' 26 (.tmp 12) = .int .i64 (a0.length : Int) ∧ opd ρ' 26 (.tmp 13) = .int .i64 (i18 : Int) ∧ Inv B w' H56 []) hy18 ⟨H, (Hle.refl _), h14, h15, h16, h17, hI⟩ ?_
    rintro k18 i18 σ18 ρ61 w62 hk18 ⟨H56, hleH56, h57, h58, h59, h60, hI⟩ hy18
    refine wseq ?_
    refine wreg ?_
    refine lv (v := .bool (decide ((i18 : Int) < (a0.length : Int)))) rfl (r_lss rfl h60 h59 rfl) rfl ?_
    refine wend ?_
    refine wthen ?_
    refine wseq ?_
    by_cases hc63 : (i18 : Int) < (a0.length : Int)
    · skip
      have hbhc63 : (decide ((i18 : Int) < (a0.length : Int))) = true := decide_eq_true hc63
      obtain ⟨k18, rfl⟩ : ∃ m, k18 = m + 1 := ⟨k18 - 1, by omega⟩
      obtain ⟨z18, hb18⟩ := forK_body hy18
      have hF := hb18
      have hlt18 : ((i18 : Nat) : Int) + 1 ≤ 9223372036854775807 := by omega
      refine wcT ((show opd _ _ _ = _ from rfl).trans (congrArg Value.bool hbhc63)) ?_
      refine wp_skip ?_
      refine wthen ?_
      refine wren (fun ρ64 eρ64 => ?_)
      have h65 : opd ρ64 26 (.tmp 0) = s1.v := (eρ64 0).trans h57
      have h66 : opd ρ64 26 (.tmp 1) = s2.v := (eρ64 1).trans h58
      have h67 : opd ρ64 26 (.tmp 12) = .int .i64 (a0.length : Int) := (eρ64 12).trans h59
      have h68 : opd ρ64 26 (.tmp 13) = .int .i64 (i18 : Int) := (eρ64 13).trans h60
      clear eρ64
      refine wseq ?_
      refine wp_block ?_
      refine wseq ?_
      refine wreg ?_
      refine lv (v := .int .i64 (i18 : Int)) rfl (r_mv rfl h68) rfl ?_
      refine lv (v := .int .i64 (i18 : Int)) rfl (r_as rfl rfl) rfl ?_
      refine wend ?_
      refine wthen ?_
      refine wren (fun ρ69 eρ69 => ?_)
      have h70 : opd ρ69 26 (.tmp 0) = s1.v := (eρ69 0).trans h65
      have h71 : opd ρ69 26 (.tmp 1) = s2.v := (eρ69 1).trans h66
      have h72 : opd ρ69 26 (.tmp 5) = .int .i64 (i18 : Int) := eρ69 5
      have h73 : opd ρ69 26 (.tmp 12) = .int .i64 (a0.length : Int) := (eρ69 12).trans h67
      have h74 : opd ρ69 26 (.tmp 13) = .int .i64 (i18 : Int) := (eρ69 13).trans h68
      clear eρ69
      refine wseq ?_
      refine dstG (H0 := H56) (L0 := keepL [] []) [] mixed rfl (by repeat (first | exact Pan.body | refine Pan.then ?_ | refine Pan.inBlock ?_ | refine Pan.noGoto ?_ | refine Pan.pure ?_)) hI (hI.good.weakm _ (Hle.refl _) rfl) ?_
      intro w75 hI hP
      refine dp (v := s1.v) 0 (by kernel_rfl) rfl rfl (fun _ => r_mv rfl h70) rfl hP ?_
      refine dp (v := .int .i64 (i18 : Int)) 1 (by kernel_rfl) rfl rfl (fun _ => r_mv rfl h72) rfl hP ?_
      obtain ⟨x76, hx76, hF⟩ := Option.bind_eq_some_iff.1 hF
      obtain ⟨b77, j78, hix79, hil80, hA81⟩ := (hs1.mono hleH56).ixf hx76
      replace hA81 : At H56 b77 j78 [ckV flB x76] := hA81
      refine dp (v := .pointer (some ⟨b77, j78 + 0, none⟩)) 2 (by kernel_rfl) rfl rfl (fun _ => r_ixt rfl sl27 rfl rfl rfl hix79 hil80) rfl hP ?_
      refine dp (v := s2.v) 4 (by kernel_rfl) rfl rfl (fun _ => r_mv rfl h71) rfl hP ?_
      refine dp (v := .int .i64 (i18 : Int)) 5 (by kernel_rfl) rfl rfl (fun _ => r_mv rfl h72) rfl hP ?_
      obtain ⟨x82, hx82, hF⟩ := Option.bind_eq_some_iff.1 hF
      obtain ⟨b83, j84, hix85, hil86, hA87⟩ := (hs2.mono hleH56).ixf hx82
      replace hA87 : At H56 b83 j84 [ckV flB x82] := hA87
      refine dp (v := .pointer (some ⟨b83, j84 + 0, none⟩)) 6 (by kernel_rfl) rfl rfl (fun _ => r_ixt rfl sl27 rfl rfl rfl hix85 hil86) rfl hP ?_
      refine dr (v := .agg (flat [ckV flB x76]).toArray) 3 (by kernel_rfl) rfl rfl (hI.good.weakm [] (Hle.refl _) rfl) (fun _ hG => r_cla (off := 0) (p := 0) (m := 1) (hA81.ca hG) rfl ag29 rfl rfl rfl) rfl hP ?_
      refine dr (v := .agg (flat [ckV flB x82]).toArray) 7 (by kernel_rfl) rfl rfl (hI.good.weakm [] (Hle.refl _) rfl) (fun _ hG => r_cla (off := 0) (p := 0) (m := 1) (hA87.ca hG) rfl ag29 rfl rfl rfl) rfl hP ?_
      refine dp (v := .bool (!decide (x76 = x82))) 8 (by kernel_rfl) rfl rfl (fun _ => r_neb rfl ba29 rfl rfl) rfl hP ?_
      refine dend (by kernel_rfl) ?_
      refine wthen ?_
      refine wren (fun ρ88 eρ88 => ?_)
      have h89 : opd ρ88 26 (.tmp 0) = s1.v := (eρ88 0).trans h70
      have h90 : opd ρ88 26 (.tmp 1) = s2.v := (eρ88 1).trans h71
      have h91 : opd ρ88 26 (.tmp 12) = .int .i64 (a0.length : Int) := (eρ88 12).trans h73
      have h92 : opd ρ88 26 (.tmp 13) = .int .i64 (i18 : Int) := (eρ88 13).trans h74
      have h93 : opd ρ88 26 (.tmp 24) = .bool (!decide (x76 = x82)) := eρ88 24
      clear eρ88
      by_cases hc94 : x76 = x82
      · skip
        rw [if_pos hc94] at hF
        have hbhc94 : (!decide (x76 = x82)) = false := (by rw [decide_eq_true hc94]; rfl)
        refine wcF (h93.trans (congrArg Value.bool hbhc94)) ?_
        refine wp_skip ?_
        refine inN ?_
        refine wthen ?_
        refine wreg ?_
        refine lv (v := .int .i64 ((i18 + 1 : Nat) : Int)) rfl (r_addn rfl h92 rfl hlt18) rfl ?_
        refine lv (v := .int .i64 ((i18 + 1 : Nat) : Int)) rfl (r_mv rfl rfl) rfl ?_
        refine wend ?_
        obtain rfl := Option.some.inj hF
        exact ⟨k18, (), _, rfl, rfl, ⟨H56, hleH56, h89, h90, h91, rfl, hI⟩, forK_inl hy18 hb18⟩
      · skip
        rw [if_neg hc94] at hF
        have hbhc94 : (!decide (x76 = x82)) = true := (by rw [decide_eq_false hc94]; rfl)
        refine wcT (h93.trans (congrArg Value.bool hbhc94)) ?_
        refine wseq ?_
        refine wreg ?_
        refine lv (v := .bool false) rfl (r_as rfl rfl) rfl ?_
        refine wend ?_
        refine wthen ?_
        refine wren (fun ρ95 eρ95 => ?_)
        have h96 : opd ρ95 26 (.tmp 4) = .bool false := eρ95 4
        clear eρ95
        refine wp_ret ?_
        refine inR ?_
        refine thR ?_
        refine thR ?_
        obtain ⟨q97, hFn, hzq97⟩ := Option.map_eq_some_iff.1 hF
        clear hF
        obtain rfl := forK_inr hy18 (hb18.trans (congrArg some hzq97.symm))
        have hF0 := hF18
        try dsimp only at hF0
        have hF := hFn.trans hF0
        clear hFn hF0
        refine inR ?_
        refine thR ?_
        obtain rfl := Option.some.inj hF
        subst hB
        refine finR (rs := [.tmp 4]) (vs := [.bool false]) rfl ⟨h96, trivial⟩ ?_
        exact hI.fin 0 ⟨rfl, rfl⟩
    · skip
      have hbhc63 : (decide ((i18 : Int) < (a0.length : Int))) = false := decide_eq_false hc63
      obtain rfl : k18 = 0 := by omega
      obtain rfl := forK_end hy18
      have hF := hF18
      try dsimp only at hF
      refine wcF ((show opd _ _ _ = _ from rfl).trans (congrArg Value.bool hbhc63)) ?_
      refine wp_exit ?_
      refine thE ?_
      refine thE ?_
      refine inX ?_
      refine wthen ?_
      refine wren (fun ρ98 eρ98 => ?_)
      clear eρ98
      refine wseq ?_
      refine wreg ?_
      refine lv (v := .bool true) rfl (r_as rfl rfl) rfl ?_
      refine wend ?_
      refine wthen ?_
      refine wren (fun ρ99 eρ99 => ?_)
      have h100 : opd ρ99 26 (.tmp 4) = .bool true := eρ99 4
      clear eρ99
      refine wp_ret ?_
      obtain rfl := Option.some.inj hF
      subst hB
      refine finR (rs := [.tmp 4]) (vs := [.bool true]) rfl ⟨h100, trivial⟩ ?_
      exact hI.fin 0 ⟨rfl, rfl⟩
noncomputable def M_wapentakeref04_Same (a0 : Once) (a1 : Once) : Option (Bool) := ((M_wapentakeref03_Same a0.Open a1.Open).bind fun x12 => (if x12 = true then ((M_wapentakeref03_Same a0.Shut a1.Shut).bind fun x17 => some x17) else some false))
set_option maxHeartbeats 1000000 in
theorem spec_166 {w : World} {H : Hp} {a0 : Once} {a1 : Once} {s1 : Sv} {s2 : Sv} {s3 : Sv} {s4 : Sv} {r : Bool} (hF : M_wapentakeref04_Same a0 a1 = some r) (hT : Tab H) (hG : Good w H []) (hs1 : Sl (Fl.ty (flV flB 32)) H s1 a0.Open) (hs2 : Sl (Fl.ty (flV flB 32)) H s2 a0.Shut) (hs3 : Sl (Fl.ty (flV flB 32)) H s3 a1.Open) (hs4 : Sl (Fl.ty (flV flB 32)) H s4 a1.Shut) :
    Fine Tryd.prog 166 [.agg (flat [ckL s1, ckL s2]).toArray, .agg (flat [ckL s3, ckL s4]).toArray] w H [] (fun H' v L' => v = .bool r ∧ L' = []) := by
  unfold M_wapentakeref04_Same at hF
  unfold Fine
  obtain ⟨B, hB⟩ : ∃ B : Base, B = ⟨w, H, blks []⟩ := ⟨_, rfl⟩
  have hI : Inv B w H [] := by rw [hB]; exact Inv.start hG
  refine enter (n := 17) (args := [.agg (flat [ckL s1, ckL s2]).toArray, .agg (flat [ckL s3, ckL s4]).toArray]) Tryd.func166 rfl Tryd.ntmps166 (Nat.le_of_ble_eq_true rfl) ?_
  refine wseq ?_
  refine wreg ?_
  refine le rfl (l_box (cks := [ckL s1, ckL s2]) hI rfl rfl rfl) rfl ?_
  rintro _ w6 ⟨g5, rfl, hI⟩
  replace hI : Inv B w6 H [.cb g5 [ckL s1, ckL s2] 31] := hI
  refine le rfl (l_box (cks := [ckL s3, ckL s4]) hI rfl rfl rfl) rfl ?_
  rintro _ w8 ⟨g7, rfl, hI⟩
  replace hI : Inv B w8 H [.cb g5 [ckL s1, ckL s2] 31, .cb g7 [ckL s3, ckL s4] 31] := hI
  refine lv (v := .bool false) rfl (r_as rfl rfl) rfl ?_
  refine wend ?_
  refine wthen ?_
  refine wren (fun ρ9 eρ9 => ?_)
  have h10 : opd ρ9 17 (.tmp 2) = .pointer (some ⟨g5, 0 + 0, none⟩) := eρ9 2
  have h11 : opd ρ9 17 (.tmp 3) = .pointer (some ⟨g7, 0 + 0, none⟩) := eρ9 3
  clear eρ9
  refine wseq ?_
  refine wreg ?_
  refine lv (v := .pointer (some ⟨g5, 0 + 0, none⟩)) rfl (l_fa (j := 0) (i := 0) rfl fl31_0 h10 rfl) rfl ?_
  refine lv (v := s1.v) rfl (r_cl1 (off := 0) (p := 0) (hI.good.ca 0 rfl) rfl sc27 rfl rfl rfl) rfl ?_
  refine lv (v := .pointer (some ⟨g7, 0 + 0, none⟩)) rfl (l_fa (j := 0) (i := 0) rfl fl31_0 h11 rfl) rfl ?_
  refine lv (v := s3.v) rfl (r_cl1 (off := 0) (p := 0) (hI.good.ca 1 rfl) rfl sc27 rfl rfl rfl) rfl ?_
  obtain ⟨x12, hx12, hF⟩ := Option.bind_eq_some_iff.1 hF
  have hsp15 := spec_167 hx12 hT (hI.part 0) hs1 hs3
  refine fc ([]) ([.cb g5 [ckL s1, ckL s2] 31, .cb g7 [ckL s3, ckL s4] 31]) (args := [s1.v, s3.v]) fc167 rfl rfl rfl hI (argc rfl (argc rfl rfl)) (hsp15) ?_
  rintro _ H13 _ w14 ⟨rfl, rfl⟩ hleH13 hI
  replace hI : Inv B w14 H13 [.cb g5 [ckL s1, ckL s2] 31, .cb g7 [ckL s3, ckL s4] 31] := hI
  by_cases hc16 : x12 = true
  · skip
    rw [if_pos hc16] at hF
    have hbhc16 : x12 = true := hc16
    refine lv (v := .bool true) rfl (r_mv rfl ((show opd _ _ _ = _ from rfl).trans (congrArg Value.bool hbhc16))) rfl ?_
    refine lv (v := .pointer (some ⟨g5, 0 + 1, none⟩)) rfl (l_fa (j := 0) (i := 0) rfl fl31_1 h10 rfl) rfl ?_
    refine lv (v := s2.v) rfl (r_cl1 (off := 1) (p := 1) (hI.good.ca 0 rfl) rfl sc27 rfl rfl rfl) rfl ?_
    refine lv (v := .pointer (some ⟨g7, 0 + 1, none⟩)) rfl (l_fa (j := 0) (i := 0) rfl fl31_1 h11 rfl) rfl ?_
    refine lv (v := s4.v) rfl (r_cl1 (off := 1) (p := 1) (hI.good.ca 1 rfl) rfl sc27 rfl rfl rfl) rfl ?_
    obtain ⟨x17, hx17, hF⟩ := Option.bind_eq_some_iff.1 hF
    have hsp20 := spec_167 hx17 (hT.mono hleH13) (hI.part 0) (hs2.mono hleH13) (hs4.mono hleH13)
    refine fc ([]) ([.cb g5 [ckL s1, ckL s2] 31, .cb g7 [ckL s3, ckL s4] 31]) (args := [s2.v, s4.v]) fc167 rfl rfl rfl hI (argc rfl (argc rfl rfl)) (hsp20) ?_
    rintro _ H18 _ w19 ⟨rfl, rfl⟩ hleH18 hI
    replace hI : Inv B w19 H18 [.cb g5 [ckL s1, ckL s2] 31, .cb g7 [ckL s3, ckL s4] 31] := hI
    refine lv (v := .bool x17) rfl (r_pkT rfl rfl rfl) rfl ?_
    refine lv (v := .bool x17) rfl (r_as rfl rfl) rfl ?_
    refine wend ?_
    refine wthen ?_
    refine wren (fun ρ21 eρ21 => ?_)
    have h22 : opd ρ21 17 (.tmp 4) = .bool x17 := eρ21 4
    clear eρ21
    refine wp_ret ?_
    obtain rfl := Option.some.inj hF
    subst hB
    refine finR (rs := [.tmp 4]) (vs := [.bool x17]) rfl ⟨h22, trivial⟩ ?_
    exact hI.fin 0 ⟨rfl, rfl⟩
  · skip
    rw [if_neg hc16] at hF
    have hbhc16 : x12 = false := (Bool.eq_false_iff.2 hc16)
    refine lv (v := .bool false) rfl (r_mv rfl ((show opd _ _ _ = _ from rfl).trans (congrArg Value.bool hbhc16))) rfl ?_
    with_reducible refine lx (d := 11) (by kernel_rfl) (by kernel_rfl) ?_
    with_reducible refine lx (d := 12) (by kernel_rfl) (by kernel_rfl) ?_
    with_reducible refine lx (d := 13) (by kernel_rfl) (by kernel_rfl) ?_
    with_reducible refine lx (d := 14) (by kernel_rfl) (by kernel_rfl) ?_
    with_reducible refine lx (d := 15) (by kernel_rfl) (by kernel_rfl) ?_
    refine lv (v := .bool false) rfl (r_pkF rfl rfl rfl) rfl ?_
    refine lv (v := .bool false) rfl (r_as rfl rfl) rfl ?_
    refine wend ?_
    refine wthen ?_
    refine wren (fun ρ23 eρ23 => ?_)
    have h24 : opd ρ23 17 (.tmp 4) = .bool false := eρ23 4
    clear eρ23
    refine wp_ret ?_
    obtain rfl := Option.some.inj hF
    subst hB
    refine finR (rs := [.tmp 4]) (vs := [.bool false]) rfl ⟨h24, trivial⟩ ?_
    exact hI.fin 0 ⟨rfl, rfl⟩
noncomputable def M_wapentakeref05_Same (a0 : Sig) (a1 : Sig) : Option (Bool) := (if a0.Leaf = a1.Leaf then ((M_wapentakeref04_Same a0.Once a1.Once).bind fun x15 => (if x15 = true then ((M_wapentakeref03_Same a0.Path a1.Path).bind fun x20 => some x20) else some false)) else some false)
set_option maxHeartbeats 1000000 in
theorem spec_142 {w : World} {H : Hp} {a0 : Sig} {a1 : Sig} {s1 : Sv} {s2 : Sv} {s3 : Sv} {s4 : Sv} {s5 : Sv} {s6 : Sv} {r : Bool} (hF : M_wapentakeref05_Same a0 a1 = some r) (hT : Tab H) (hG : Good w H []) (hs1 : Sl (Fl.ty (flV flB 32)) H s1 a0.Once.Open) (hs2 : Sl (Fl.ty (flV flB 32)) H s2 a0.Once.Shut) (hs3 : Sl (Fl.ty (flV flB 32)) H s3 a0.Path) (hs4 : Sl (Fl.ty (flV flB 32)) H s4 a1.Once.Open) (hs5 : Sl (Fl.ty (flV flB 32)) H s5 a1.Once.Shut) (hs6 : Sl (Fl.ty (flV flB 32)) H s6 a1.Path) :
    Fine Tryd.prog 142 [.agg (flat [ckI a0.Leaf, ckL s1, ckL s2, ckL s3]).toArray, .agg (flat [ckI a1.Leaf, ckL s4, ckL s5, ckL s6]).toArray] w H [] (fun H' v L' => v = .bool r ∧ L' = []) := by
  unfold M_wapentakeref05_Same at hF
  unfold Fine
  obtain ⟨B, hB⟩ : ∃ B : Base, B = ⟨w, H, blks []⟩ := ⟨_, rfl⟩
  have hI : Inv B w H [] := by rw [hB]; exact Inv.start hG
  refine enter (n := 24) (args := [.agg (flat [ckI a0.Leaf, ckL s1, ckL s2, ckL s3]).toArray, .agg (flat [ckI a1.Leaf, ckL s4, ckL s5, ckL s6]).toArray]) Tryd.func142 rfl Tryd.ntmps142 (Nat.le_of_ble_eq_true rfl) ?_
  refine wseq ?_
  refine wreg ?_
  refine le rfl (l_box (cks := [ckI a0.Leaf, ckL s1, ckL s2, ckL s3]) hI rfl rfl rfl) rfl ?_
  rintro _ w8 ⟨g7, rfl, hI⟩
  replace hI : Inv B w8 H [.cb g7 [ckI a0.Leaf, ckL s1, ckL s2, ckL s3] 33] := hI
  refine le rfl (l_box (cks := [ckI a1.Leaf, ckL s4, ckL s5, ckL s6]) hI rfl rfl rfl) rfl ?_
  rintro _ w10 ⟨g9, rfl, hI⟩
  replace hI : Inv B w10 H [.cb g7 [ckI a0.Leaf, ckL s1, ckL s2, ckL s3] 33, .cb g9 [ckI a1.Leaf, ckL s4, ckL s5, ckL s6] 33] := hI
  refine lv (v := .bool false) rfl (r_as rfl rfl) rfl ?_
  refine wend ?_
  refine wthen ?_
  refine wren (fun ρ11 eρ11 => ?_)
  have h12 : opd ρ11 24 (.tmp 2) = .pointer (some ⟨g7, 0 + 0, none⟩) := eρ11 2
  have h13 : opd ρ11 24 (.tmp 3) = .pointer (some ⟨g9, 0 + 0, none⟩) := eρ11 3
  clear eρ11
  refine wseq ?_
  refine wreg ?_
  refine lv (v := .pointer (some ⟨g7, 0 + 0, none⟩)) rfl (l_fa (j := 0) (i := 0) rfl fl33_0 h12 rfl) rfl ?_
  refine lv (v := .int .i64 a0.Leaf) rfl (r_cl1 (off := 0) (p := 0) (hI.good.ca 0 rfl) rfl sc3 rfl rfl rfl) rfl ?_
  refine lv (v := .pointer (some ⟨g9, 0 + 0, none⟩)) rfl (l_fa (j := 0) (i := 0) rfl fl33_0 h13 rfl) rfl ?_
  refine lv (v := .int .i64 a1.Leaf) rfl (r_cl1 (off := 0) (p := 0) (hI.good.ca 1 rfl) rfl sc3 rfl rfl rfl) rfl ?_
  refine lv (v := .bool (decide (a0.Leaf = a1.Leaf))) rfl (r_eql rfl rfl rfl rfl) rfl ?_
  by_cases hc14 : a0.Leaf = a1.Leaf
  · skip
    rw [if_pos hc14] at hF
    have hbhc14 : (decide (a0.Leaf = a1.Leaf)) = true := decide_eq_true hc14
    refine lv (v := .bool true) rfl (r_mv rfl ((show opd _ _ _ = _ from rfl).trans (congrArg Value.bool hbhc14))) rfl ?_
    refine lv (v := .pointer (some ⟨g7, 0 + 1, none⟩)) rfl (l_fa (j := 0) (i := 0) rfl fl33_1 h12 rfl) rfl ?_
    refine lv (v := .agg (flat [ckL s1, ckL s2]).toArray) rfl (r_cla (off := 1) (p := 1) (m := 2) (hI.good.ca 0 rfl) rfl ag31 rfl rfl rfl) rfl ?_
    refine lv (v := .pointer (some ⟨g9, 0 + 1, none⟩)) rfl (l_fa (j := 0) (i := 0) rfl fl33_1 h13 rfl) rfl ?_
    refine lv (v := .agg (flat [ckL s4, ckL s5]).toArray) rfl (r_cla (off := 1) (p := 1) (m := 2) (hI.good.ca 1 rfl) rfl ag31 rfl rfl rfl) rfl ?_
    obtain ⟨x15, hx15, hF⟩ := Option.bind_eq_some_iff.1 hF
    have hsp18 := spec_166 hx15 hT (hI.part 0) hs1 hs2 hs4 hs5
    refine fc ([]) ([.cb g7 [ckI a0.Leaf, ckL s1, ckL s2, ckL s3] 33, .cb g9 [ckI a1.Leaf, ckL s4, ckL s5, ckL s6] 33]) (args := [.agg (flat [ckL s1, ckL s2]).toArray, .agg (flat [ckL s4, ckL s5]).toArray]) fc166 rfl rfl rfl hI (argc rfl (argc rfl rfl)) (hsp18) ?_
    rintro _ H16 _ w17 ⟨rfl, rfl⟩ hleH16 hI
    replace hI : Inv B w17 H16 [.cb g7 [ckI a0.Leaf, ckL s1, ckL s2, ckL s3] 33, .cb g9 [ckI a1.Leaf, ckL s4, ckL s5, ckL s6] 33] := hI
    refine lv (v := .bool x15) rfl (r_pkT rfl rfl rfl) rfl ?_
    by_cases hc19 : x15 = true
    · skip
      rw [if_pos hc19] at hF
      have hbhc19 : x15 = true := hc19
      refine lv (v := .bool true) rfl (r_mv rfl ((show opd _ _ _ = _ from rfl).trans (congrArg Value.bool hbhc19))) rfl ?_
      refine lv (v := .pointer (some ⟨g7, 0 + 3, none⟩)) rfl (l_fa (j := 0) (i := 0) rfl fl33_2 h12 rfl) rfl ?_
      refine lv (v := s3.v) rfl (r_cl1 (off := 3) (p := 3) (hI.good.ca 0 rfl) rfl sc27 rfl rfl rfl) rfl ?_
      refine lv (v := .pointer (some ⟨g9, 0 + 3, none⟩)) rfl (l_fa (j := 0) (i := 0) rfl fl33_2 h13 rfl) rfl ?_
      refine lv (v := s6.v) rfl (r_cl1 (off := 3) (p := 3) (hI.good.ca 1 rfl) rfl sc27 rfl rfl rfl) rfl ?_
      obtain ⟨x20, hx20, hF⟩ := Option.bind_eq_some_iff.1 hF
      have hsp23 := spec_167 hx20 (hT.mono hleH16) (hI.part 0) (hs3.mono hleH16) (hs6.mono hleH16)
      refine fc ([]) ([.cb g7 [ckI a0.Leaf, ckL s1, ckL s2, ckL s3] 33, .cb g9 [ckI a1.Leaf, ckL s4, ckL s5, ckL s6] 33]) (args := [s3.v, s6.v]) fc167 rfl rfl rfl hI (argc rfl (argc rfl rfl)) (hsp23) ?_
      rintro _ H21 _ w22 ⟨rfl, rfl⟩ hleH21 hI
      replace hI : Inv B w22 H21 [.cb g7 [ckI a0.Leaf, ckL s1, ckL s2, ckL s3] 33, .cb g9 [ckI a1.Leaf, ckL s4, ckL s5, ckL s6] 33] := hI
      refine lv (v := .bool x20) rfl (r_pkT rfl rfl rfl) rfl ?_
      refine lv (v := .bool x20) rfl (r_as rfl rfl) rfl ?_
      refine wend ?_
      refine wthen ?_
      refine wren (fun ρ24 eρ24 => ?_)
      have h25 : opd ρ24 24 (.tmp 4) = .bool x20 := eρ24 4
      clear eρ24
      refine wp_ret ?_
      obtain rfl := Option.some.inj hF
      subst hB
      refine finR (rs := [.tmp 4]) (vs := [.bool x20]) rfl ⟨h25, trivial⟩ ?_
      exact hI.fin 0 ⟨rfl, rfl⟩
    · skip
      rw [if_neg hc19] at hF
      have hbhc19 : x15 = false := (Bool.eq_false_iff.2 hc19)
      refine lv (v := .bool false) rfl (r_mv rfl ((show opd _ _ _ = _ from rfl).trans (congrArg Value.bool hbhc19))) rfl ?_
      with_reducible refine lx (d := 18) (by kernel_rfl) (by kernel_rfl) ?_
      with_reducible refine lx (d := 19) (by kernel_rfl) (by kernel_rfl) ?_
      with_reducible refine lx (d := 20) (by kernel_rfl) (by kernel_rfl) ?_
      with_reducible refine lx (d := 21) (by kernel_rfl) (by kernel_rfl) ?_
      with_reducible refine lx (d := 22) (by kernel_rfl) (by kernel_rfl) ?_
      refine lv (v := .bool false) rfl (r_pkF rfl rfl rfl) rfl ?_
      refine lv (v := .bool false) rfl (r_as rfl rfl) rfl ?_
      refine wend ?_
      refine wthen ?_
      refine wren (fun ρ26 eρ26 => ?_)
      have h27 : opd ρ26 24 (.tmp 4) = .bool false := eρ26 4
      clear eρ26
      refine wp_ret ?_
      obtain rfl := Option.some.inj hF
      subst hB
      refine finR (rs := [.tmp 4]) (vs := [.bool false]) rfl ⟨h27, trivial⟩ ?_
      exact hI.fin 0 ⟨rfl, rfl⟩
  · skip
    rw [if_neg hc14] at hF
    have hbhc14 : (decide (a0.Leaf = a1.Leaf)) = false := decide_eq_false hc14
    refine lv (v := .bool false) rfl (r_mv rfl ((show opd _ _ _ = _ from rfl).trans (congrArg Value.bool hbhc14))) rfl ?_
    with_reducible refine lx (d := 11) (by kernel_rfl) (by kernel_rfl) ?_
    with_reducible refine lx (d := 12) (by kernel_rfl) (by kernel_rfl) ?_
    with_reducible refine lx (d := 13) (by kernel_rfl) (by kernel_rfl) ?_
    with_reducible refine lx (d := 14) (by kernel_rfl) (by kernel_rfl) ?_
    with_reducible refine lx (d := 15) (by kernel_rfl) (by kernel_rfl) ?_
    refine lv (v := .bool false) rfl (r_pkF rfl rfl rfl) rfl ?_
    refine lv (v := .bool false) rfl (r_mv rfl rfl) rfl ?_
    with_reducible refine lx (d := 18) (by kernel_rfl) (by kernel_rfl) ?_
    with_reducible refine lx (d := 19) (by kernel_rfl) (by kernel_rfl) ?_
    with_reducible refine lx (d := 20) (by kernel_rfl) (by kernel_rfl) ?_
    with_reducible refine lx (d := 21) (by kernel_rfl) (by kernel_rfl) ?_
    with_reducible refine lx (d := 22) (by kernel_rfl) (by kernel_rfl) ?_
    refine lv (v := .bool false) rfl (r_pkF rfl rfl rfl) rfl ?_
    refine lv (v := .bool false) rfl (r_as rfl rfl) rfl ?_
    refine wend ?_
    refine wthen ?_
    refine wren (fun ρ28 eρ28 => ?_)
    have h29 : opd ρ28 24 (.tmp 4) = .bool false := eρ28 4
    clear eρ28
    refine wp_ret ?_
    obtain rfl := Option.some.inj hF
    subst hB
    refine finR (rs := [.tmp 4]) (vs := [.bool false]) rfl ⟨h29, trivial⟩ ?_
    exact hI.fin 0 ⟨rfl, rfl⟩
noncomputable def M_wapentakeref13_Same (a0 : Vote) (a1 : Vote) : Option (Bool) := (if a0.Kind = a1.Kind then (if a0.Epoch = a1.Epoch then (if a0.Height = a1.Height then (if a0.Round = a1.Round then (if a0.Digest = a1.Digest then (if a0.From = a1.From then ((M_wapentakeref05_Same a0.Sig a1.Sig).bind fun x20 => some x20) else some false) else some false) else some false) else some false) else some false) else some false)
set_option maxHeartbeats 4000000 in
theorem spec_93 {w : World} {H : Hp} {a0 : Vote} {a1 : Vote} {s1 : Sv} {s2 : Sv} {s3 : Sv} {s4 : Sv} {s5 : Sv} {s6 : Sv} {r : Bool} (hF : M_wapentakeref13_Same a0 a1 = some r) (hT : Tab H) (hG : Good w H []) (hs1 : Sl (Fl.ty (flV flB 32)) H s1 a0.Sig.Once.Open) (hs2 : Sl (Fl.ty (flV flB 32)) H s2 a0.Sig.Once.Shut) (hs3 : Sl (Fl.ty (flV flB 32)) H s3 a0.Sig.Path) (hs4 : Sl (Fl.ty (flV flB 32)) H s4 a1.Sig.Once.Open) (hs5 : Sl (Fl.ty (flV flB 32)) H s5 a1.Sig.Once.Shut) (hs6 : Sl (Fl.ty (flV flB 32)) H s6 a1.Sig.Path) :
    Fine Tryd.prog 93 [.agg (flat [ckI a0.Kind, ckI a0.Epoch, ckI a0.Height, ckI a0.Round, ckV flB a0.Digest, ckI a0.From, ckI a0.Sig.Leaf, ckL s1, ckL s2, ckL s3]).toArray, .agg (flat [ckI a1.Kind, ckI a1.Epoch, ckI a1.Height, ckI a1.Round, ckV flB a1.Digest, ckI a1.From, ckI a1.Sig.Leaf, ckL s4, ckL s5, ckL s6]).toArray] w H [] (fun H' v L' => v = .bool r ∧ L' = []) := by
  unfold M_wapentakeref13_Same at hF
  unfold Fine
  obtain ⟨B, hB⟩ : ∃ B : Base, B = ⟨w, H, blks []⟩ := ⟨_, rfl⟩
  have hI : Inv B w H [] := by rw [hB]; exact Inv.start hG
  refine enter (n := 52) (args := [.agg (flat [ckI a0.Kind, ckI a0.Epoch, ckI a0.Height, ckI a0.Round, ckV flB a0.Digest, ckI a0.From, ckI a0.Sig.Leaf, ckL s1, ckL s2, ckL s3]).toArray, .agg (flat [ckI a1.Kind, ckI a1.Epoch, ckI a1.Height, ckI a1.Round, ckV flB a1.Digest, ckI a1.From, ckI a1.Sig.Leaf, ckL s4, ckL s5, ckL s6]).toArray]) Tryd.func93 rfl Tryd.ntmps93 (Nat.le_of_ble_eq_true rfl) ?_
  refine wseq ?_
  refine wreg ?_
  refine le rfl (l_box (cks := [ckI a0.Kind, ckI a0.Epoch, ckI a0.Height, ckI a0.Round, ckV flB a0.Digest, ckI a0.From, ckI a0.Sig.Leaf, ckL s1, ckL s2, ckL s3]) hI rfl rfl rfl) rfl ?_
  rintro _ w8 ⟨g7, rfl, hI⟩
  replace hI : Inv B w8 H [.cb g7 [ckI a0.Kind, ckI a0.Epoch, ckI a0.Height, ckI a0.Round, ckV flB a0.Digest, ckI a0.From, ckI a0.Sig.Leaf, ckL s1, ckL s2, ckL s3] 35] := hI
  refine le rfl (l_box (cks := [ckI a1.Kind, ckI a1.Epoch, ckI a1.Height, ckI a1.Round, ckV flB a1.Digest, ckI a1.From, ckI a1.Sig.Leaf, ckL s4, ckL s5, ckL s6]) hI rfl rfl rfl) rfl ?_
  rintro _ w10 ⟨g9, rfl, hI⟩
  replace hI : Inv B w10 H [.cb g7 [ckI a0.Kind, ckI a0.Epoch, ckI a0.Height, ckI a0.Round, ckV flB a0.Digest, ckI a0.From, ckI a0.Sig.Leaf, ckL s1, ckL s2, ckL s3] 35, .cb g9 [ckI a1.Kind, ckI a1.Epoch, ckI a1.Height, ckI a1.Round, ckV flB a1.Digest, ckI a1.From, ckI a1.Sig.Leaf, ckL s4, ckL s5, ckL s6] 35] := hI
  refine lv (v := .bool false) rfl (r_as rfl rfl) rfl ?_
  refine wend ?_
  refine wthen ?_
  refine wren (fun ρ11 eρ11 => ?_)
  have h12 : opd ρ11 52 (.tmp 2) = .pointer (some ⟨g7, 0 + 0, none⟩) := eρ11 2
  have h13 : opd ρ11 52 (.tmp 3) = .pointer (some ⟨g9, 0 + 0, none⟩) := eρ11 3
  clear eρ11
  refine wseq ?_
  refine wreg ?_
  refine lv (v := .pointer (some ⟨g7, 0 + 0, none⟩)) rfl (l_fa (j := 0) (i := 0) rfl fl35_0 h12 rfl) rfl ?_
  refine lv (v := .int .i64 a0.Kind) rfl (r_cl1 (off := 0) (p := 0) (hI.good.ca 0 rfl) rfl sc3 rfl rfl rfl) rfl ?_
  refine lv (v := .pointer (some ⟨g9, 0 + 0, none⟩)) rfl (l_fa (j := 0) (i := 0) rfl fl35_0 h13 rfl) rfl ?_
  refine lv (v := .int .i64 a1.Kind) rfl (r_cl1 (off := 0) (p := 0) (hI.good.ca 1 rfl) rfl sc3 rfl rfl rfl) rfl ?_
  refine lv (v := .bool (decide (a0.Kind = a1.Kind))) rfl (r_eql rfl rfl rfl rfl) rfl ?_
  by_cases hc14 : a0.Kind = a1.Kind
  · skip
    rw [if_pos hc14] at hF
    have hbhc14 : (decide (a0.Kind = a1.Kind)) = true := decide_eq_true hc14
    refine lv (v := .bool true) rfl (r_mv rfl ((show opd _ _ _ = _ from rfl).trans (congrArg Value.bool hbhc14))) rfl ?_
    refine lv (v := .pointer (some ⟨g7, 0 + 1, none⟩)) rfl (l_fa (j := 0) (i := 0) rfl fl35_1 h12 rfl) rfl ?_
    refine lv (v := .int .i64 a0.Epoch) rfl (r_cl1 (off := 1) (p := 1) (hI.good.ca 0 rfl) rfl sc3 rfl rfl rfl) rfl ?_
    refine lv (v := .pointer (some ⟨g9, 0 + 1, none⟩)) rfl (l_fa (j := 0) (i := 0) rfl fl35_1 h13 rfl) rfl ?_
    refine lv (v := .int .i64 a1.Epoch) rfl (r_cl1 (off := 1) (p := 1) (hI.good.ca 1 rfl) rfl sc3 rfl rfl rfl) rfl ?_
    refine lv (v := .bool (decide (a0.Epoch = a1.Epoch))) rfl (r_eql rfl rfl rfl rfl) rfl ?_
    refine lv (v := .bool (decide (a0.Epoch = a1.Epoch))) rfl (r_pkT rfl rfl rfl) rfl ?_
    by_cases hc15 : a0.Epoch = a1.Epoch
    · skip
      rw [if_pos hc15] at hF
      have hbhc15 : (decide (a0.Epoch = a1.Epoch)) = true := decide_eq_true hc15
      refine lv (v := .bool true) rfl (r_mv rfl ((show opd _ _ _ = _ from rfl).trans (congrArg Value.bool hbhc15))) rfl ?_
      refine lv (v := .pointer (some ⟨g7, 0 + 2, none⟩)) rfl (l_fa (j := 0) (i := 0) rfl fl35_2 h12 rfl) rfl ?_
      refine lv (v := .int .i64 a0.Height) rfl (r_cl1 (off := 2) (p := 2) (hI.good.ca 0 rfl) rfl sc3 rfl rfl rfl) rfl ?_
      refine lv (v := .pointer (some ⟨g9, 0 + 2, none⟩)) rfl (l_fa (j := 0) (i := 0) rfl fl35_2 h13 rfl) rfl ?_
      refine lv (v := .int .i64 a1.Height) rfl (r_cl1 (off := 2) (p := 2) (hI.good.ca 1 rfl) rfl sc3 rfl rfl rfl) rfl ?_
      refine lv (v := .bool (decide (a0.Height = a1.Height))) rfl (r_eql rfl rfl rfl rfl) rfl ?_
      refine lv (v := .bool (decide (a0.Height = a1.Height))) rfl (r_pkT rfl rfl rfl) rfl ?_
      by_cases hc16 : a0.Height = a1.Height
      · skip
        rw [if_pos hc16] at hF
        have hbhc16 : (decide (a0.Height = a1.Height)) = true := decide_eq_true hc16
        refine lv (v := .bool true) rfl (r_mv rfl ((show opd _ _ _ = _ from rfl).trans (congrArg Value.bool hbhc16))) rfl ?_
        refine lv (v := .pointer (some ⟨g7, 0 + 3, none⟩)) rfl (l_fa (j := 0) (i := 0) rfl fl35_3 h12 rfl) rfl ?_
        refine lv (v := .int .i64 a0.Round) rfl (r_cl1 (off := 3) (p := 3) (hI.good.ca 0 rfl) rfl sc3 rfl rfl rfl) rfl ?_
        refine lv (v := .pointer (some ⟨g9, 0 + 3, none⟩)) rfl (l_fa (j := 0) (i := 0) rfl fl35_3 h13 rfl) rfl ?_
        refine lv (v := .int .i64 a1.Round) rfl (r_cl1 (off := 3) (p := 3) (hI.good.ca 1 rfl) rfl sc3 rfl rfl rfl) rfl ?_
        refine lv (v := .bool (decide (a0.Round = a1.Round))) rfl (r_eql rfl rfl rfl rfl) rfl ?_
        refine lv (v := .bool (decide (a0.Round = a1.Round))) rfl (r_pkT rfl rfl rfl) rfl ?_
        by_cases hc17 : a0.Round = a1.Round
        · skip
          rw [if_pos hc17] at hF
          have hbhc17 : (decide (a0.Round = a1.Round)) = true := decide_eq_true hc17
          refine lv (v := .bool true) rfl (r_mv rfl ((show opd _ _ _ = _ from rfl).trans (congrArg Value.bool hbhc17))) rfl ?_
          refine lv (v := .pointer (some ⟨g7, 0 + 4, none⟩)) rfl (l_fa (j := 0) (i := 0) rfl fl35_4 h12 rfl) rfl ?_
          refine lv (v := .agg (flat [ckV flB a0.Digest]).toArray) rfl (r_cla (off := 4) (p := 4) (m := 1) (hI.good.ca 0 rfl) rfl ag29 rfl rfl rfl) rfl ?_
          refine lv (v := .pointer (some ⟨g9, 0 + 4, none⟩)) rfl (l_fa (j := 0) (i := 0) rfl fl35_4 h13 rfl) rfl ?_
          refine lv (v := .agg (flat [ckV flB a1.Digest]).toArray) rfl (r_cla (off := 4) (p := 4) (m := 1) (hI.good.ca 1 rfl) rfl ag29 rfl rfl rfl) rfl ?_
          refine lv (v := .bool (decide (a0.Digest = a1.Digest))) rfl (r_eqb rfl ba29 rfl rfl) rfl ?_
          refine lv (v := .bool (decide (a0.Digest = a1.Digest))) rfl (r_pkT rfl rfl rfl) rfl ?_
          by_cases hc18 : a0.Digest = a1.Digest
          · skip
            rw [if_pos hc18] at hF
            have hbhc18 : (decide (a0.Digest = a1.Digest)) = true := decide_eq_true hc18
            refine lv (v := .bool true) rfl (r_mv rfl ((show opd _ _ _ = _ from rfl).trans (congrArg Value.bool hbhc18))) rfl ?_
            refine lv (v := .pointer (some ⟨g7, 0 + 36, none⟩)) rfl (l_fa (j := 0) (i := 0) rfl fl35_5 h12 rfl) rfl ?_
            refine lv (v := .int .i64 a0.From) rfl (r_cl1 (off := 36) (p := 5) (hI.good.ca 0 rfl) rfl sc3 rfl rfl rfl) rfl ?_
            refine lv (v := .pointer (some ⟨g9, 0 + 36, none⟩)) rfl (l_fa (j := 0) (i := 0) rfl fl35_5 h13 rfl) rfl ?_
            refine lv (v := .int .i64 a1.From) rfl (r_cl1 (off := 36) (p := 5) (hI.good.ca 1 rfl) rfl sc3 rfl rfl rfl) rfl ?_
            refine lv (v := .bool (decide (a0.From = a1.From))) rfl (r_eql rfl rfl rfl rfl) rfl ?_
            refine lv (v := .bool (decide (a0.From = a1.From))) rfl (r_pkT rfl rfl rfl) rfl ?_
            by_cases hc19 : a0.From = a1.From
            · skip
              rw [if_pos hc19] at hF
              have hbhc19 : (decide (a0.From = a1.From)) = true := decide_eq_true hc19
              refine lv (v := .bool true) rfl (r_mv rfl ((show opd _ _ _ = _ from rfl).trans (congrArg Value.bool hbhc19))) rfl ?_
              refine lv (v := .pointer (some ⟨g7, 0 + 37, none⟩)) rfl (l_fa (j := 0) (i := 0) rfl fl35_6 h12 rfl) rfl ?_
              refine lv (v := .agg (flat [ckI a0.Sig.Leaf, ckL s1, ckL s2, ckL s3]).toArray) rfl (r_cla (off := 37) (p := 6) (m := 4) (hI.good.ca 0 rfl) rfl ag33 rfl rfl rfl) rfl ?_
              refine lv (v := .pointer (some ⟨g9, 0 + 37, none⟩)) rfl (l_fa (j := 0) (i := 0) rfl fl35_6 h13 rfl) rfl ?_
              refine lv (v := .agg (flat [ckI a1.Sig.Leaf, ckL s4, ckL s5, ckL s6]).toArray) rfl (r_cla (off := 37) (p := 6) (m := 4) (hI.good.ca 1 rfl) rfl ag33 rfl rfl rfl) rfl ?_
              obtain ⟨x20, hx20, hF⟩ := Option.bind_eq_some_iff.1 hF
              have hsp23 := spec_142 hx20 hT (hI.part 0) hs1 hs2 hs3 hs4 hs5 hs6
              refine fc ([]) ([.cb g7 [ckI a0.Kind, ckI a0.Epoch, ckI a0.Height, ckI a0.Round, ckV flB a0.Digest, ckI a0.From, ckI a0.Sig.Leaf, ckL s1, ckL s2, ckL s3] 35, .cb g9 [ckI a1.Kind, ckI a1.Epoch, ckI a1.Height, ckI a1.Round, ckV flB a1.Digest, ckI a1.From, ckI a1.Sig.Leaf, ckL s4, ckL s5, ckL s6] 35]) (args := [.agg (flat [ckI a0.Sig.Leaf, ckL s1, ckL s2, ckL s3]).toArray, .agg (flat [ckI a1.Sig.Leaf, ckL s4, ckL s5, ckL s6]).toArray]) fc142 rfl rfl rfl hI (argc rfl (argc rfl rfl)) (hsp23) ?_
              rintro _ H21 _ w22 ⟨rfl, rfl⟩ hleH21 hI
              replace hI : Inv B w22 H21 [.cb g7 [ckI a0.Kind, ckI a0.Epoch, ckI a0.Height, ckI a0.Round, ckV flB a0.Digest, ckI a0.From, ckI a0.Sig.Leaf, ckL s1, ckL s2, ckL s3] 35, .cb g9 [ckI a1.Kind, ckI a1.Epoch, ckI a1.Height, ckI a1.Round, ckV flB a1.Digest, ckI a1.From, ckI a1.Sig.Leaf, ckL s4, ckL s5, ckL s6] 35] := hI
              refine lv (v := .bool x20) rfl (r_pkT rfl rfl rfl) rfl ?_
              refine lv (v := .bool x20) rfl (r_as rfl rfl) rfl ?_
              refine wend ?_
              refine wthen ?_
              refine wren (fun ρ24 eρ24 => ?_)
              have h25 : opd ρ24 52 (.tmp 4) = .bool x20 := eρ24 4
              clear eρ24
              refine wp_ret ?_
              obtain rfl := Option.some.inj hF
              subst hB
              refine finR (rs := [.tmp 4]) (vs := [.bool x20]) rfl ⟨h25, trivial⟩ ?_
              exact hI.fin 0 ⟨rfl, rfl⟩
            · skip
              rw [if_neg hc19] at hF
              have hbhc19 : (decide (a0.From = a1.From)) = false := decide_eq_false hc19
              refine lv (v := .bool false) rfl (r_mv rfl ((show opd _ _ _ = _ from rfl).trans (congrArg Value.bool hbhc19))) rfl ?_
              with_reducible refine lx (d := 46) (by kernel_rfl) (by kernel_rfl) ?_
              with_reducible refine lx (d := 47) (by kernel_rfl) (by kernel_rfl) ?_
              with_reducible refine lx (d := 48) (by kernel_rfl) (by kernel_rfl) ?_
              with_reducible refine lx (d := 49) (by kernel_rfl) (by kernel_rfl) ?_
              with_reducible refine lx (d := 50) (by kernel_rfl) (by kernel_rfl) ?_
              refine lv (v := .bool false) rfl (r_pkF rfl rfl rfl) rfl ?_
              refine lv (v := .bool false) rfl (r_as rfl rfl) rfl ?_
              refine wend ?_
              refine wthen ?_
              refine wren (fun ρ26 eρ26 => ?_)
              have h27 : opd ρ26 52 (.tmp 4) = .bool false := eρ26 4
              clear eρ26
              refine wp_ret ?_
              obtain rfl := Option.some.inj hF
              subst hB
              refine finR (rs := [.tmp 4]) (vs := [.bool false]) rfl ⟨h27, trivial⟩ ?_
              exact hI.fin 0 ⟨rfl, rfl⟩
          · skip
            rw [if_neg hc18] at hF
            have hbhc18 : (decide (a0.Digest = a1.Digest)) = false := decide_eq_false hc18
            refine lv (v := .bool false) rfl (r_mv rfl ((show opd _ _ _ = _ from rfl).trans (congrArg Value.bool hbhc18))) rfl ?_
            with_reducible refine lx (d := 39) (by kernel_rfl) (by kernel_rfl) ?_
            with_reducible refine lx (d := 40) (by kernel_rfl) (by kernel_rfl) ?_
            with_reducible refine lx (d := 41) (by kernel_rfl) (by kernel_rfl) ?_
            with_reducible refine lx (d := 42) (by kernel_rfl) (by kernel_rfl) ?_
            with_reducible refine lx (d := 43) (by kernel_rfl) (by kernel_rfl) ?_
            refine lv (v := .bool false) rfl (r_pkF rfl rfl rfl) rfl ?_
            refine lv (v := .bool false) rfl (r_mv rfl rfl) rfl ?_
            with_reducible refine lx (d := 46) (by kernel_rfl) (by kernel_rfl) ?_
            with_reducible refine lx (d := 47) (by kernel_rfl) (by kernel_rfl) ?_
            with_reducible refine lx (d := 48) (by kernel_rfl) (by kernel_rfl) ?_
            with_reducible refine lx (d := 49) (by kernel_rfl) (by kernel_rfl) ?_
            with_reducible refine lx (d := 50) (by kernel_rfl) (by kernel_rfl) ?_
            refine lv (v := .bool false) rfl (r_pkF rfl rfl rfl) rfl ?_
            refine lv (v := .bool false) rfl (r_as rfl rfl) rfl ?_
            refine wend ?_
            refine wthen ?_
            refine wren (fun ρ28 eρ28 => ?_)
            have h29 : opd ρ28 52 (.tmp 4) = .bool false := eρ28 4
            clear eρ28
            refine wp_ret ?_
            obtain rfl := Option.some.inj hF
            subst hB
            refine finR (rs := [.tmp 4]) (vs := [.bool false]) rfl ⟨h29, trivial⟩ ?_
            exact hI.fin 0 ⟨rfl, rfl⟩
        · skip
          rw [if_neg hc17] at hF
          have hbhc17 : (decide (a0.Round = a1.Round)) = false := decide_eq_false hc17
          refine lv (v := .bool false) rfl (r_mv rfl ((show opd _ _ _ = _ from rfl).trans (congrArg Value.bool hbhc17))) rfl ?_
          with_reducible refine lx (d := 32) (by kernel_rfl) (by kernel_rfl) ?_
          with_reducible refine lx (d := 33) (by kernel_rfl) (by kernel_rfl) ?_
          with_reducible refine lx (d := 34) (by kernel_rfl) (by kernel_rfl) ?_
          with_reducible refine lx (d := 35) (by kernel_rfl) (by kernel_rfl) ?_
          with_reducible refine lx (d := 36) (by kernel_rfl) (by kernel_rfl) ?_
          refine lv (v := .bool false) rfl (r_pkF rfl rfl rfl) rfl ?_
          refine lv (v := .bool false) rfl (r_mv rfl rfl) rfl ?_
          with_reducible refine lx (d := 39) (by kernel_rfl) (by kernel_rfl) ?_
          with_reducible refine lx (d := 40) (by kernel_rfl) (by kernel_rfl) ?_
          with_reducible refine lx (d := 41) (by kernel_rfl) (by kernel_rfl) ?_
          with_reducible refine lx (d := 42) (by kernel_rfl) (by kernel_rfl) ?_
          with_reducible refine lx (d := 43) (by kernel_rfl) (by kernel_rfl) ?_
          refine lv (v := .bool false) rfl (r_pkF rfl rfl rfl) rfl ?_
          refine lv (v := .bool false) rfl (r_mv rfl rfl) rfl ?_
          with_reducible refine lx (d := 46) (by kernel_rfl) (by kernel_rfl) ?_
          with_reducible refine lx (d := 47) (by kernel_rfl) (by kernel_rfl) ?_
          with_reducible refine lx (d := 48) (by kernel_rfl) (by kernel_rfl) ?_
          with_reducible refine lx (d := 49) (by kernel_rfl) (by kernel_rfl) ?_
          with_reducible refine lx (d := 50) (by kernel_rfl) (by kernel_rfl) ?_
          refine lv (v := .bool false) rfl (r_pkF rfl rfl rfl) rfl ?_
          refine lv (v := .bool false) rfl (r_as rfl rfl) rfl ?_
          refine wend ?_
          refine wthen ?_
          refine wren (fun ρ30 eρ30 => ?_)
          have h31 : opd ρ30 52 (.tmp 4) = .bool false := eρ30 4
          clear eρ30
          refine wp_ret ?_
          obtain rfl := Option.some.inj hF
          subst hB
          refine finR (rs := [.tmp 4]) (vs := [.bool false]) rfl ⟨h31, trivial⟩ ?_
          exact hI.fin 0 ⟨rfl, rfl⟩
      · skip
        rw [if_neg hc16] at hF
        have hbhc16 : (decide (a0.Height = a1.Height)) = false := decide_eq_false hc16
        refine lv (v := .bool false) rfl (r_mv rfl ((show opd _ _ _ = _ from rfl).trans (congrArg Value.bool hbhc16))) rfl ?_
        with_reducible refine lx (d := 25) (by kernel_rfl) (by kernel_rfl) ?_
        with_reducible refine lx (d := 26) (by kernel_rfl) (by kernel_rfl) ?_
        with_reducible refine lx (d := 27) (by kernel_rfl) (by kernel_rfl) ?_
        with_reducible refine lx (d := 28) (by kernel_rfl) (by kernel_rfl) ?_
        with_reducible refine lx (d := 29) (by kernel_rfl) (by kernel_rfl) ?_
        refine lv (v := .bool false) rfl (r_pkF rfl rfl rfl) rfl ?_
        refine lv (v := .bool false) rfl (r_mv rfl rfl) rfl ?_
        with_reducible refine lx (d := 32) (by kernel_rfl) (by kernel_rfl) ?_
        with_reducible refine lx (d := 33) (by kernel_rfl) (by kernel_rfl) ?_
        with_reducible refine lx (d := 34) (by kernel_rfl) (by kernel_rfl) ?_
        with_reducible refine lx (d := 35) (by kernel_rfl) (by kernel_rfl) ?_
        with_reducible refine lx (d := 36) (by kernel_rfl) (by kernel_rfl) ?_
        refine lv (v := .bool false) rfl (r_pkF rfl rfl rfl) rfl ?_
        refine lv (v := .bool false) rfl (r_mv rfl rfl) rfl ?_
        with_reducible refine lx (d := 39) (by kernel_rfl) (by kernel_rfl) ?_
        with_reducible refine lx (d := 40) (by kernel_rfl) (by kernel_rfl) ?_
        with_reducible refine lx (d := 41) (by kernel_rfl) (by kernel_rfl) ?_
        with_reducible refine lx (d := 42) (by kernel_rfl) (by kernel_rfl) ?_
        with_reducible refine lx (d := 43) (by kernel_rfl) (by kernel_rfl) ?_
        refine lv (v := .bool false) rfl (r_pkF rfl rfl rfl) rfl ?_
        refine lv (v := .bool false) rfl (r_mv rfl rfl) rfl ?_
        with_reducible refine lx (d := 46) (by kernel_rfl) (by kernel_rfl) ?_
        with_reducible refine lx (d := 47) (by kernel_rfl) (by kernel_rfl) ?_
        with_reducible refine lx (d := 48) (by kernel_rfl) (by kernel_rfl) ?_
        with_reducible refine lx (d := 49) (by kernel_rfl) (by kernel_rfl) ?_
        with_reducible refine lx (d := 50) (by kernel_rfl) (by kernel_rfl) ?_
        refine lv (v := .bool false) rfl (r_pkF rfl rfl rfl) rfl ?_
        refine lv (v := .bool false) rfl (r_as rfl rfl) rfl ?_
        refine wend ?_
        refine wthen ?_
        refine wren (fun ρ32 eρ32 => ?_)
        have h33 : opd ρ32 52 (.tmp 4) = .bool false := eρ32 4
        clear eρ32
        refine wp_ret ?_
        obtain rfl := Option.some.inj hF
        subst hB
        refine finR (rs := [.tmp 4]) (vs := [.bool false]) rfl ⟨h33, trivial⟩ ?_
        exact hI.fin 0 ⟨rfl, rfl⟩
    · skip
      rw [if_neg hc15] at hF
      have hbhc15 : (decide (a0.Epoch = a1.Epoch)) = false := decide_eq_false hc15
      refine lv (v := .bool false) rfl (r_mv rfl ((show opd _ _ _ = _ from rfl).trans (congrArg Value.bool hbhc15))) rfl ?_
      with_reducible refine lx (d := 18) (by kernel_rfl) (by kernel_rfl) ?_
      with_reducible refine lx (d := 19) (by kernel_rfl) (by kernel_rfl) ?_
      with_reducible refine lx (d := 20) (by kernel_rfl) (by kernel_rfl) ?_
      with_reducible refine lx (d := 21) (by kernel_rfl) (by kernel_rfl) ?_
      with_reducible refine lx (d := 22) (by kernel_rfl) (by kernel_rfl) ?_
      refine lv (v := .bool false) rfl (r_pkF rfl rfl rfl) rfl ?_
      refine lv (v := .bool false) rfl (r_mv rfl rfl) rfl ?_
      with_reducible refine lx (d := 25) (by kernel_rfl) (by kernel_rfl) ?_
      with_reducible refine lx (d := 26) (by kernel_rfl) (by kernel_rfl) ?_
      with_reducible refine lx (d := 27) (by kernel_rfl) (by kernel_rfl) ?_
      with_reducible refine lx (d := 28) (by kernel_rfl) (by kernel_rfl) ?_
      with_reducible refine lx (d := 29) (by kernel_rfl) (by kernel_rfl) ?_
      refine lv (v := .bool false) rfl (r_pkF rfl rfl rfl) rfl ?_
      refine lv (v := .bool false) rfl (r_mv rfl rfl) rfl ?_
      with_reducible refine lx (d := 32) (by kernel_rfl) (by kernel_rfl) ?_
      with_reducible refine lx (d := 33) (by kernel_rfl) (by kernel_rfl) ?_
      with_reducible refine lx (d := 34) (by kernel_rfl) (by kernel_rfl) ?_
      with_reducible refine lx (d := 35) (by kernel_rfl) (by kernel_rfl) ?_
      with_reducible refine lx (d := 36) (by kernel_rfl) (by kernel_rfl) ?_
      refine lv (v := .bool false) rfl (r_pkF rfl rfl rfl) rfl ?_
      refine lv (v := .bool false) rfl (r_mv rfl rfl) rfl ?_
      with_reducible refine lx (d := 39) (by kernel_rfl) (by kernel_rfl) ?_
      with_reducible refine lx (d := 40) (by kernel_rfl) (by kernel_rfl) ?_
      with_reducible refine lx (d := 41) (by kernel_rfl) (by kernel_rfl) ?_
      with_reducible refine lx (d := 42) (by kernel_rfl) (by kernel_rfl) ?_
      with_reducible refine lx (d := 43) (by kernel_rfl) (by kernel_rfl) ?_
      refine lv (v := .bool false) rfl (r_pkF rfl rfl rfl) rfl ?_
      refine lv (v := .bool false) rfl (r_mv rfl rfl) rfl ?_
      with_reducible refine lx (d := 46) (by kernel_rfl) (by kernel_rfl) ?_
      with_reducible refine lx (d := 47) (by kernel_rfl) (by kernel_rfl) ?_
      with_reducible refine lx (d := 48) (by kernel_rfl) (by kernel_rfl) ?_
      with_reducible refine lx (d := 49) (by kernel_rfl) (by kernel_rfl) ?_
      with_reducible refine lx (d := 50) (by kernel_rfl) (by kernel_rfl) ?_
      refine lv (v := .bool false) rfl (r_pkF rfl rfl rfl) rfl ?_
      refine lv (v := .bool false) rfl (r_as rfl rfl) rfl ?_
      refine wend ?_
      refine wthen ?_
      refine wren (fun ρ34 eρ34 => ?_)
      have h35 : opd ρ34 52 (.tmp 4) = .bool false := eρ34 4
      clear eρ34
      refine wp_ret ?_
      obtain rfl := Option.some.inj hF
      subst hB
      refine finR (rs := [.tmp 4]) (vs := [.bool false]) rfl ⟨h35, trivial⟩ ?_
      exact hI.fin 0 ⟨rfl, rfl⟩
  · skip
    rw [if_neg hc14] at hF
    have hbhc14 : (decide (a0.Kind = a1.Kind)) = false := decide_eq_false hc14
    refine lv (v := .bool false) rfl (r_mv rfl ((show opd _ _ _ = _ from rfl).trans (congrArg Value.bool hbhc14))) rfl ?_
    with_reducible refine lx (d := 11) (by kernel_rfl) (by kernel_rfl) ?_
    with_reducible refine lx (d := 12) (by kernel_rfl) (by kernel_rfl) ?_
    with_reducible refine lx (d := 13) (by kernel_rfl) (by kernel_rfl) ?_
    with_reducible refine lx (d := 14) (by kernel_rfl) (by kernel_rfl) ?_
    with_reducible refine lx (d := 15) (by kernel_rfl) (by kernel_rfl) ?_
    refine lv (v := .bool false) rfl (r_pkF rfl rfl rfl) rfl ?_
    refine lv (v := .bool false) rfl (r_mv rfl rfl) rfl ?_
    with_reducible refine lx (d := 18) (by kernel_rfl) (by kernel_rfl) ?_
    with_reducible refine lx (d := 19) (by kernel_rfl) (by kernel_rfl) ?_
    with_reducible refine lx (d := 20) (by kernel_rfl) (by kernel_rfl) ?_
    with_reducible refine lx (d := 21) (by kernel_rfl) (by kernel_rfl) ?_
    with_reducible refine lx (d := 22) (by kernel_rfl) (by kernel_rfl) ?_
    refine lv (v := .bool false) rfl (r_pkF rfl rfl rfl) rfl ?_
    refine lv (v := .bool false) rfl (r_mv rfl rfl) rfl ?_
    with_reducible refine lx (d := 25) (by kernel_rfl) (by kernel_rfl) ?_
    with_reducible refine lx (d := 26) (by kernel_rfl) (by kernel_rfl) ?_
    with_reducible refine lx (d := 27) (by kernel_rfl) (by kernel_rfl) ?_
    with_reducible refine lx (d := 28) (by kernel_rfl) (by kernel_rfl) ?_
    with_reducible refine lx (d := 29) (by kernel_rfl) (by kernel_rfl) ?_
    refine lv (v := .bool false) rfl (r_pkF rfl rfl rfl) rfl ?_
    refine lv (v := .bool false) rfl (r_mv rfl rfl) rfl ?_
    with_reducible refine lx (d := 32) (by kernel_rfl) (by kernel_rfl) ?_
    with_reducible refine lx (d := 33) (by kernel_rfl) (by kernel_rfl) ?_
    with_reducible refine lx (d := 34) (by kernel_rfl) (by kernel_rfl) ?_
    with_reducible refine lx (d := 35) (by kernel_rfl) (by kernel_rfl) ?_
    with_reducible refine lx (d := 36) (by kernel_rfl) (by kernel_rfl) ?_
    refine lv (v := .bool false) rfl (r_pkF rfl rfl rfl) rfl ?_
    refine lv (v := .bool false) rfl (r_mv rfl rfl) rfl ?_
    with_reducible refine lx (d := 39) (by kernel_rfl) (by kernel_rfl) ?_
    with_reducible refine lx (d := 40) (by kernel_rfl) (by kernel_rfl) ?_
    with_reducible refine lx (d := 41) (by kernel_rfl) (by kernel_rfl) ?_
    with_reducible refine lx (d := 42) (by kernel_rfl) (by kernel_rfl) ?_
    with_reducible refine lx (d := 43) (by kernel_rfl) (by kernel_rfl) ?_
    refine lv (v := .bool false) rfl (r_pkF rfl rfl rfl) rfl ?_
    refine lv (v := .bool false) rfl (r_mv rfl rfl) rfl ?_
    with_reducible refine lx (d := 46) (by kernel_rfl) (by kernel_rfl) ?_
    with_reducible refine lx (d := 47) (by kernel_rfl) (by kernel_rfl) ?_
    with_reducible refine lx (d := 48) (by kernel_rfl) (by kernel_rfl) ?_
    with_reducible refine lx (d := 49) (by kernel_rfl) (by kernel_rfl) ?_
    with_reducible refine lx (d := 50) (by kernel_rfl) (by kernel_rfl) ?_
    refine lv (v := .bool false) rfl (r_pkF rfl rfl rfl) rfl ?_
    refine lv (v := .bool false) rfl (r_as rfl rfl) rfl ?_
    refine wend ?_
    refine wthen ?_
    refine wren (fun ρ36 eρ36 => ?_)
    have h37 : opd ρ36 52 (.tmp 4) = .bool false := eρ36 4
    clear eρ36
    refine wp_ret ?_
    obtain rfl := Option.some.inj hF
    subst hB
    refine finR (rs := [.tmp 4]) (vs := [.bool false]) rfl ⟨h37, trivial⟩ ?_
    exact hI.fin 0 ⟨rfl, rfl⟩
noncomputable def M_wapentakeref14_Same (a0 : Cert) (a1 : Cert) : Option (Bool) := (if a0.Round ≠ a1.Round then some false else (if (a0.Votes.length : Int) ≠ (a1.Votes.length : Int) then some false else ((forK (fun (i29 : Nat) (σ29 : Unit) => (((a0.Votes[i29]?).bind fun x97 => ((a1.Votes[i29]?).bind fun x106 => ((M_wapentakeref13_Same x97 x106).bind fun x115 => (if x115 = true then some (.inl ()) else ((some false).map Sum.inr))))) : Option (Unit ⊕ Bool))) a0.Votes.length 0 ()).bind fun y => match y with | .inl _ => some true | .inr r => some r)))
set_option maxHeartbeats 4000000 in
theorem spec_50 {w : World} {H : Hp} {a0 : Cert} {a1 : Cert} {s1 : Sv} {s2 : Sv} {r : Bool} (hF : M_wapentakeref14_Same a0 a1 = some r) (hT : Tab H) (hG : Good w H []) (hs1 : Sl ty_Vote H s1 a0.Votes) (hs2 : Sl ty_Vote H s2 a1.Votes) :
    Fine Tryd.prog 50 [.agg (flat [ckI a0.Round, ckL s1]).toArray, .agg (flat [ckI a1.Round, ckL s2]).toArray] w H [] (fun H' v L' => v = .bool r ∧ L' = []) := by
  unfold M_wapentakeref14_Same at hF
  unfold Fine
  obtain ⟨B, hB⟩ : ∃ B : Base, B = ⟨w, H, blks []⟩ := ⟨_, rfl⟩
  have hI : Inv B w H [] := by rw [hB]; exact Inv.start hG
  refine enter (n := 39) (args := [.agg (flat [ckI a0.Round, ckL s1]).toArray, .agg (flat [ckI a1.Round, ckL s2]).toArray]) Tryd.func50 rfl Tryd.ntmps50 (Nat.le_of_ble_eq_true rfl) ?_
  refine wseq ?_
  refine wreg ?_
  refine le rfl (l_box (cks := [ckI a0.Round, ckL s1]) hI rfl rfl rfl) rfl ?_
  rintro _ w4 ⟨g3, rfl, hI⟩
  replace hI : Inv B w4 H [.cb g3 [ckI a0.Round, ckL s1] 71] := hI
  refine le rfl (l_box (cks := [ckI a1.Round, ckL s2]) hI rfl rfl rfl) rfl ?_
  rintro _ w6 ⟨g5, rfl, hI⟩
  replace hI : Inv B w6 H [.cb g3 [ckI a0.Round, ckL s1] 71, .cb g5 [ckI a1.Round, ckL s2] 71] := hI
  refine lv (v := .bool false) rfl (r_as rfl rfl) rfl ?_
  refine wend ?_
  refine wthen ?_
  refine wren (fun ρ7 eρ7 => ?_)
  have h8 : opd ρ7 39 (.tmp 2) = .pointer (some ⟨g3, 0 + 0, none⟩) := eρ7 2
  have h9 : opd ρ7 39 (.tmp 3) = .pointer (some ⟨g5, 0 + 0, none⟩) := eρ7 3
  clear eρ7
  refine wseq ?_
  refine wseq ?_
  refine wreg ?_
  refine lv (v := .pointer (some ⟨g3, 0 + 0, none⟩)) rfl (l_fa (j := 0) (i := 0) rfl fl71_0 h8 rfl) rfl ?_
  refine lv (v := .int .i64 a0.Round) rfl (r_cl1 (off := 0) (p := 0) (hI.good.ca 0 rfl) rfl sc3 rfl rfl rfl) rfl ?_
  refine lv (v := .pointer (some ⟨g5, 0 + 0, none⟩)) rfl (l_fa (j := 0) (i := 0) rfl fl71_0 h9 rfl) rfl ?_
  refine lv (v := .int .i64 a1.Round) rfl (r_cl1 (off := 0) (p := 0) (hI.good.ca 1 rfl) rfl sc3 rfl rfl rfl) rfl ?_
  refine lv (v := .bool (decide (a0.Round ≠ a1.Round))) rfl (r_neq rfl rfl rfl rfl) rfl ?_
  by_cases hc10 : a0.Round ≠ a1.Round
  · skip
    rw [if_pos hc10] at hF
    have hbhc10 : (decide (a0.Round ≠ a1.Round)) = true := decide_eq_true hc10
    refine lv (v := .bool true) rfl (r_mv rfl ((show opd _ _ _ = _ from rfl).trans (congrArg Value.bool hbhc10))) rfl ?_
    with_reducible refine lx (d := 12) (by kernel_rfl) (by kernel_rfl) ?_
    with_reducible refine lx (d := 13) (by kernel_rfl) (by kernel_rfl) ?_
    with_reducible refine lx (d := 14) (by kernel_rfl) (by kernel_rfl) ?_
    with_reducible refine lx (d := 15) (by kernel_rfl) (by kernel_rfl) ?_
    with_reducible refine lx (d := 16) (by kernel_rfl) (by kernel_rfl) ?_
    with_reducible refine lx (d := 17) (by kernel_rfl) (by kernel_rfl) ?_
    with_reducible refine lx (d := 18) (by kernel_rfl) (by kernel_rfl) ?_
    refine lv (v := .bool true) rfl (r_pkT rfl rfl rfl) rfl ?_
    refine wend ?_
    refine wthen ?_
    refine wren (fun ρ11 eρ11 => ?_)
    have h12 : opd ρ11 39 (.tmp 2) = .pointer (some ⟨g3, 0 + 0, none⟩) := (eρ11 2).trans h8
    have h13 : opd ρ11 39 (.tmp 3) = .pointer (some ⟨g5, 0 + 0, none⟩) := (eρ11 3).trans h9
    have h14 : opd ρ11 39 (.tmp 19) = .bool true := eρ11 19
    clear eρ11
    refine wcT h14 ?_
    refine wseq ?_
    refine wreg ?_
    refine lv (v := .bool false) rfl (r_as rfl rfl) rfl ?_
    refine wend ?_
    refine wthen ?_
    refine wren (fun ρ15 eρ15 => ?_)
    have h16 : opd ρ15 39 (.tmp 4) = .bool false := eρ15 4
    clear eρ15
    refine wp_ret ?_
    refine thR ?_
    obtain rfl := Option.some.inj hF
    subst hB
    refine finR (rs := [.tmp 4]) (vs := [.bool false]) rfl ⟨h16, trivial⟩ ?_
    exact hI.fin 0 ⟨rfl, rfl⟩
  · skip
    rw [if_neg hc10] at hF
    have hbhc10 : (decide (a0.Round ≠ a1.Round)) = false := decide_eq_false hc10
    refine lv (v := .bool false) rfl (r_mv rfl ((show opd _ _ _ = _ from rfl).trans (congrArg Value.bool hbhc10))) rfl ?_
    refine lv (v := .pointer (some ⟨g3, 0 + 1, none⟩)) rfl (l_fa (j := 0) (i := 0) rfl fl71_1 h8 rfl) rfl ?_
    refine lv (v := s1.v) rfl (r_cl1 (off := 1) (p := 1) (hI.good.ca 0 rfl) rfl sc22 rfl rfl rfl) rfl ?_
    refine lv (v := .int .i64 (a0.Votes.length : Int)) rfl (r_lenS rfl sl22 rfl hs1) rfl ?_
    refine lv (v := .pointer (some ⟨g5, 0 + 1, none⟩)) rfl (l_fa (j := 0) (i := 0) rfl fl71_1 h9 rfl) rfl ?_
    refine lv (v := s2.v) rfl (r_cl1 (off := 1) (p := 1) (hI.good.ca 1 rfl) rfl sc22 rfl rfl rfl) rfl ?_
    refine lv (v := .int .i64 (a1.Votes.length : Int)) rfl (r_lenS rfl sl22 rfl hs2) rfl ?_
    refine lv (v := .bool (decide ((a0.Votes.length : Int) ≠ (a1.Votes.length : Int)))) rfl (r_neq rfl rfl rfl rfl) rfl ?_
    refine lv (v := .bool (decide ((a0.Votes.length : Int) ≠ (a1.Votes.length : Int)))) rfl (r_pkF rfl rfl rfl) rfl ?_
    refine wend ?_
    refine wthen ?_
    refine wren (fun ρ17 eρ17 => ?_)
    have h18 : opd ρ17 39 (.tmp 2) = .pointer (some ⟨g3, 0 + 0, none⟩) := (eρ17 2).trans h8
    have h19 : opd ρ17 39 (.tmp 3) = .pointer (some ⟨g5, 0 + 0, none⟩) := (eρ17 3).trans h9
    have h20 : opd ρ17 39 (.tmp 19) = .bool (decide ((a0.Votes.length : Int) ≠ (a1.Votes.length : Int))) := eρ17 19
    clear eρ17
    by_cases hc21 : (a0.Votes.length : Int) ≠ (a1.Votes.length : Int)
    · skip
      rw [if_pos hc21] at hF
      have hbhc21 : (decide ((a0.Votes.length : Int) ≠ (a1.Votes.length : Int))) = true := decide_eq_true hc21
      refine wcT (h20.trans (congrArg Value.bool hbhc21)) ?_
      refine wseq ?_
      refine wreg ?_
      refine lv (v := .bool false) rfl (r_as rfl rfl) rfl ?_
      refine wend ?_
      refine wthen ?_
      refine wren (fun ρ22 eρ22 => ?_)
      have h23 : opd ρ22 39 (.tmp 4) = .bool false := eρ22 4
      clear eρ22
      refine wp_ret ?_
      refine thR ?_
      obtain rfl := Option.some.inj hF
      subst hB
      refine finR (rs := [.tmp 4]) (vs := [.bool false]) rfl ⟨h23, trivial⟩ ?_
      exact hI.fin 0 ⟨rfl, rfl⟩
    · skip
      rw [if_neg hc21] at hF
      have hbhc21 : (decide ((a0.Votes.length : Int) ≠ (a1.Votes.length : Int))) = false := decide_eq_false hc21
      refine wcF (h20.trans (congrArg Value.bool hbhc21)) ?_
      refine wp_skip ?_
      refine wthen ?_
      refine wseq ?_
      refine wseq ?_
      refine wreg ?_
      refine lv (v := .pointer (some ⟨g3, 0 + 1, none⟩)) rfl (l_fa (j := 0) (i := 0) rfl fl71_1 h18 rfl) rfl ?_
      refine lv (v := s1.v) rfl (r_cl1 (off := 1) (p := 1) (hI.good.ca 0 rfl) rfl sc22 rfl rfl rfl) rfl ?_
      refine lv (v := .int .i64 (a0.Votes.length : Int)) rfl (r_lenS rfl sl22 rfl hs1) rfl ?_
      refine lv (v := .int .i64 0) rfl (r_mv rfl rfl) rfl ?_
      refine wend ?_
      refine wthen ?_
      refine wren (fun ρ24 eρ24 => ?_)
      have h25 : opd ρ24 39 (.tmp 2) = .pointer (some ⟨g3, 0 + 0, none⟩) := (eρ24 2).trans h18
      have h26 : opd ρ24 39 (.tmp 3) = .pointer (some ⟨g5, 0 + 0, none⟩) := (eρ24 3).trans h19
      have h27 : opd ρ24 39 (.tmp 22) = .int .i64 (a0.Votes.length : Int) := eρ24 22
      have h28 : opd ρ24 39 (.tmp 23) = .int .i64 0 := eρ24 23
      clear eρ24
      refine wp_block ?_
      have hbd29 := (hs1).bd
      rw [(hs1).n] at hbd29
      obtain ⟨y29, hy29, hF29⟩ := Option.bind_eq_some_iff.1 hF
      refine wfor (n := 39) a0.Votes.length _ (fun (i29 : Nat) (σ29 : Unit) ρ' w' => ∃ (H77 : Hp), Hle H H77 ∧ opd ρ' 39 (.tmp 2) = .pointer (some ⟨g3, 0 + 0, none⟩) ∧ opd ρ' 39 (.tmp 3) = .pointer (some ⟨g5, 0 + 0, none⟩) ∧ opd ρ' 39 (.tmp 22) = .int .i64 (a0.Votes.length : Int) ∧ opd ρ' 39 (.tmp 23) = .int .i64 (i29 : Int) ∧ Inv B w' H77 [.cb g3 [ckI a0.Round, ckL s1] 71, .cb g5 [ckI a1.Round, ckL s2] 71]) hy29 ⟨H, (Hle.refl _), h25, h26, h27, h28, hI⟩ ?_
      rintro k29 i29 σ29 ρ82 w83 hk29 ⟨H77, hleH77, h78, h79, h80, h81, hI⟩ hy29
      refine wseq ?_
      refine wreg ?_
      refine lv (v := .bool (decide ((i29 : Int) < (a0.Votes.length : Int)))) rfl (r_lss rfl h81 h80 rfl) rfl ?_
      refine wend ?_
      refine wthen ?_
      refine wseq ?_
      by_cases hc84 : (i29 : Int) < (a0.Votes.length : Int)
      · skip
        have hbhc84 : (decide ((i29 : Int) < (a0.Votes.length : Int))) = true := decide_eq_true hc84
        obtain ⟨k29, rfl⟩ : ∃ m, k29 = m + 1 := ⟨k29 - 1, by omega⟩
        obtain ⟨z29, hb29⟩ := forK_body hy29
        have hF := hb29
        have hlt29 : ((i29 : Nat) : Int) + 1 ≤ 9223372036854775807 := by omega
        refine wcT ((show opd _ _ _ = _ from rfl).trans (congrArg Value.bool hbhc84)) ?_
        refine wp_skip ?_
        refine wthen ?_
        refine wren (fun ρ85 eρ85 => ?_)
        have h86 : opd ρ85 39 (.tmp 2) = .pointer (some ⟨g3, 0 + 0, none⟩) := (eρ85 2).trans h78
        have h87 : opd ρ85 39 (.tmp 3) = .pointer (some ⟨g5, 0 + 0, none⟩) := (eρ85 3).trans h79
        have h88 : opd ρ85 39 (.tmp 22) = .int .i64 (a0.Votes.length : Int) := (eρ85 22).trans h80
        have h89 : opd ρ85 39 (.tmp 23) = .int .i64 (i29 : Int) := (eρ85 23).trans h81
        clear eρ85
        refine wseq ?_
        refine wp_block ?_
        refine wseq ?_
        refine wreg ?_
        refine lv (v := .int .i64 (i29 : Int)) rfl (r_mv rfl h89) rfl ?_
        refine lv (v := .int .i64 (i29 : Int)) rfl (r_as rfl rfl) rfl ?_
        refine wend ?_
        refine wthen ?_
        refine wren (fun ρ90 eρ90 => ?_)
        have h91 : opd ρ90 39 (.tmp 2) = .pointer (some ⟨g3, 0 + 0, none⟩) := (eρ90 2).trans h86
        have h92 : opd ρ90 39 (.tmp 3) = .pointer (some ⟨g5, 0 + 0, none⟩) := (eρ90 3).trans h87
        have h93 : opd ρ90 39 (.tmp 5) = .int .i64 (i29 : Int) := eρ90 5
        have h94 : opd ρ90 39 (.tmp 22) = .int .i64 (a0.Votes.length : Int) := (eρ90 22).trans h88
        have h95 : opd ρ90 39 (.tmp 23) = .int .i64 (i29 : Int) := (eρ90 23).trans h89
        clear eρ90
        refine wseq ?_
        refine dstG (H0 := H77) (L0 := keepL [true, true] [.cb g3 [ckI a0.Round, ckL s1] 71, .cb g5 [ckI a1.Round, ckL s2] 71]) [] mixed rfl (by repeat (first | exact Pan.body | refine Pan.then ?_ | refine Pan.inBlock ?_ | refine Pan.noGoto ?_ | refine Pan.pure ?_)) hI (hI.good.weakm _ (Hle.refl _) rfl) ?_
        intro w96 hI hP
        refine dp (v := .pointer (some ⟨g3, 0 + 1, none⟩)) 0 (by kernel_rfl) rfl rfl (fun _ => l_fa (j := 0) (i := 0) rfl fl71_1 h91 rfl) rfl hP ?_
        refine dp (v := .int .i64 (i29 : Int)) 2 (by kernel_rfl) rfl rfl (fun _ => r_mv rfl h93) rfl hP ?_
        refine dp (v := .pointer (some ⟨g5, 0 + 1, none⟩)) 5 (by kernel_rfl) rfl rfl (fun _ => l_fa (j := 0) (i := 0) rfl fl71_1 h92 rfl) rfl hP ?_
        refine dp (v := .int .i64 (i29 : Int)) 7 (by kernel_rfl) rfl rfl (fun _ => r_mv rfl h93) rfl hP ?_
        refine dr (v := s1.v) 1 (by kernel_rfl) rfl rfl (hI.good.weakm [true, true] (Hle.refl _) rfl) (fun _ hG => r_cl1 (off := 1) (p := 1) (hG.ca 0 rfl) rfl sc22 rfl rfl rfl) rfl hP ?_
        obtain ⟨x97, hx97, hF⟩ := Option.bind_eq_some_iff.1 hF
        obtain ⟨b98, j99, _, hix100, hil101, ⟨s103, s104, s105, rfl, hs103, hs104, hs105⟩, hA102⟩ := (hs1.mono hleH77).ix hx97
        replace hA102 : At H77 b98 j99 [ckI x97.Kind, ckI x97.Epoch, ckI x97.Height, ckI x97.Round, ckV flB x97.Digest, ckI x97.From, ckI x97.Sig.Leaf, ckL s103, ckL s104, ckL s105] := hA102
        refine dp (v := .pointer (some ⟨b98, j99 + 0, none⟩)) 3 (by kernel_rfl) rfl rfl (fun _ => r_ixt rfl sl22 rfl rfl rfl hix100 hil101) rfl hP ?_
        refine dr (v := .agg (flat [ckI x97.Kind, ckI x97.Epoch, ckI x97.Height, ckI x97.Round, ckV flB x97.Digest, ckI x97.From, ckI x97.Sig.Leaf, ckL s103, ckL s104, ckL s105]).toArray) 4 (by kernel_rfl) rfl rfl (hI.good.weakm [true, true] (Hle.refl _) rfl) (fun _ hG => r_cla (off := 0) (p := 0) (m := 10) (hA102.ca hG) rfl ag35 rfl rfl rfl) rfl hP ?_
        refine dr (v := s2.v) 6 (by kernel_rfl) rfl rfl (hI.good.weakm [true, true] (Hle.refl _) rfl) (fun _ hG => r_cl1 (off := 1) (p := 1) (hG.ca 1 rfl) rfl sc22 rfl rfl rfl) rfl hP ?_
        obtain ⟨x106, hx106, hF⟩ := Option.bind_eq_some_iff.1 hF
        obtain ⟨b107, j108, _, hix109, hil110, ⟨s112, s113, s114, rfl, hs112, hs113, hs114⟩, hA111⟩ := (hs2.mono hleH77).ix hx106
        replace hA111 : At H77 b107 j108 [ckI x106.Kind, ckI x106.Epoch, ckI x106.Height, ckI x106.Round, ckV flB x106.Digest, ckI x106.From, ckI x106.Sig.Leaf, ckL s112, ckL s113, ckL s114] := hA111
        refine dp (v := .pointer (some ⟨b107, j108 + 0, none⟩)) 8 (by kernel_rfl) rfl rfl (fun _ => r_ixt rfl sl22 rfl rfl rfl hix109 hil110) rfl hP ?_
        refine dr (v := .agg (flat [ckI x106.Kind, ckI x106.Epoch, ckI x106.Height, ckI x106.Round, ckV flB x106.Digest, ckI x106.From, ckI x106.Sig.Leaf, ckL s112, ckL s113, ckL s114]).toArray) 9 (by kernel_rfl) rfl rfl (hI.good.weakm [true, true] (Hle.refl _) rfl) (fun _ hG => r_cla (off := 0) (p := 0) (m := 10) (hA111.ca hG) rfl ag35 rfl rfl rfl) rfl hP ?_
        obtain ⟨x115, hx115, hF⟩ := Option.bind_eq_some_iff.1 hF
        have hsp118 := spec_93 hx115 (hT.mono hleH77) (hI.part 0) hs103 hs104 hs105 hs112 hs113 hs114
        refine dfc 10 ([]) ([.cb g3 [ckI a0.Round, ckL s1] 71, .cb g5 [ckI a1.Round, ckL s2] 71]) (args := [.agg (flat [ckI x97.Kind, ckI x97.Epoch, ckI x97.Height, ckI x97.Round, ckV flB x97.Digest, ckI x97.From, ckI x97.Sig.Leaf, ckL s103, ckL s104, ckL s105]).toArray, .agg (flat [ckI x106.Kind, ckI x106.Epoch, ckI x106.Height, ckI x106.Round, ckV flB x106.Digest, ckI x106.From, ckI x106.Sig.Leaf, ckL s112, ckL s113, ckL s114]).toArray]) fc93 (by kernel_rfl) rfl rfl rfl rfl rfl hI (argc rfl (argc rfl rfl)) (hsp118) ?_
        rintro _ H116 _ w117 ⟨rfl, rfl⟩ hleH116 hI
        replace hI : Inv B w117 H116 [.cb g3 [ckI a0.Round, ckL s1] 71, .cb g5 [ckI a1.Round, ckL s2] 71] := hI
        refine ⟨(hI.good.weakm [true, true] hleH116 rfl), ?_⟩
        refine dp (v := .bool (!x115)) 11 (by kernel_rfl) rfl rfl (fun _ => r_not rfl rfl) rfl hP ?_
        refine dend (by kernel_rfl) ?_
        refine wthen ?_
        refine wren (fun ρ119 eρ119 => ?_)
        have h120 : opd ρ119 39 (.tmp 2) = .pointer (some ⟨g3, 0 + 0, none⟩) := (eρ119 2).trans h91
        have h121 : opd ρ119 39 (.tmp 3) = .pointer (some ⟨g5, 0 + 0, none⟩) := (eρ119 3).trans h92
        have h122 : opd ρ119 39 (.tmp 22) = .int .i64 (a0.Votes.length : Int) := (eρ119 22).trans h94
        have h123 : opd ρ119 39 (.tmp 23) = .int .i64 (i29 : Int) := (eρ119 23).trans h95
        have h124 : opd ρ119 39 (.tmp 37) = .bool (!x115) := eρ119 37
        clear eρ119
        by_cases hc125 : x115 = true
        · skip
          rw [if_pos hc125] at hF
          have hbhc125 : (!x115) = false := (by rw [hc125]; rfl)
          refine wcF (h124.trans (congrArg Value.bool hbhc125)) ?_
          refine wp_skip ?_
          refine inN ?_
          refine wthen ?_
          refine wreg ?_
          refine lv (v := .int .i64 ((i29 + 1 : Nat) : Int)) rfl (r_addn rfl h123 rfl hlt29) rfl ?_
          refine lv (v := .int .i64 ((i29 + 1 : Nat) : Int)) rfl (r_mv rfl rfl) rfl ?_
          refine wend ?_
          obtain rfl := Option.some.inj hF
          exact ⟨k29, (), _, rfl, rfl, ⟨H116, (hleH77.trans hleH116), h120, h121, h122, rfl, hI⟩, forK_inl hy29 hb29⟩
        · skip
          rw [if_neg hc125] at hF
          have hbhc125 : (!x115) = true := (by rw [(Bool.eq_false_iff.2 hc125)]; rfl)
          refine wcT (h124.trans (congrArg Value.bool hbhc125)) ?_
          refine wseq ?_
          refine wreg ?_
          refine lv (v := .bool false) rfl (r_as rfl rfl) rfl ?_
          refine wend ?_
          refine wthen ?_
          refine wren (fun ρ126 eρ126 => ?_)
          have h127 : opd ρ126 39 (.tmp 4) = .bool false := eρ126 4
          clear eρ126
          refine wp_ret ?_
          refine inR ?_
          refine thR ?_
          refine thR ?_
          obtain ⟨q128, hFn, hzq128⟩ := Option.map_eq_some_iff.1 hF
          clear hF
          obtain rfl := forK_inr hy29 (hb29.trans (congrArg some hzq128.symm))
          have hF0 := hF29
          try dsimp only at hF0
          have hF := hFn.trans hF0
          clear hFn hF0
          refine inR ?_
          refine thR ?_
          obtain rfl := Option.some.inj hF
          subst hB
          refine finR (rs := [.tmp 4]) (vs := [.bool false]) rfl ⟨h127, trivial⟩ ?_
          exact hI.fin 0 ⟨rfl, rfl⟩
      · skip
        have hbhc84 : (decide ((i29 : Int) < (a0.Votes.length : Int))) = false := decide_eq_false hc84
        obtain rfl : k29 = 0 := by omega
        obtain rfl := forK_end hy29
        have hF := hF29
        try dsimp only at hF
        refine wcF ((show opd _ _ _ = _ from rfl).trans (congrArg Value.bool hbhc84)) ?_
        refine wp_exit ?_
        refine thE ?_
        refine thE ?_
        refine inX ?_
        refine wthen ?_
        refine wren (fun ρ129 eρ129 => ?_)
        clear eρ129
        refine wseq ?_
        refine wreg ?_
        refine lv (v := .bool true) rfl (r_as rfl rfl) rfl ?_
        refine wend ?_
        refine wthen ?_
        refine wren (fun ρ130 eρ130 => ?_)
        have h131 : opd ρ130 39 (.tmp 4) = .bool true := eρ130 4
        clear eρ130
        refine wp_ret ?_
        obtain rfl := Option.some.inj hF
        subst hB
        refine finR (rs := [.tmp 4]) (vs := [.bool true]) rfl ⟨h131, trivial⟩ ?_
        exact hI.fin 0 ⟨rfl, rfl⟩
end Go.Proofs.YtdebnncpclodcaaDoor.X
