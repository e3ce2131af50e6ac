/-
  Functions of the program: what each computes, and its walk. No condition beyond those that the lemmas name.
-/
import Derived.Test.YtdebnncpclodcaaDoorXPT
set_option linter.unusedSimpArgs false
set_option linter.unusedVariables false
set_option maxRecDepth 10000
namespace Go.Proofs.YtdebnncpclodcaaDoor.X
open Go.RowKit Go.Proofs.YtdebnncpclodcaaDoorW.PrintLast
noncomputable def M_config_Find_1 (a0 : Member) (a1 : Int) : Option (Bool) := some (decide (a0.Id = a1))
set_option maxHeartbeats 1000000 in
theorem spec_147 {w : World} {H : Hp} {a0 : Member} {a1 : Int} {g_1 : Nat} {r : Bool} (hF : M_config_Find_1 a0 a1 = some r) (hT : Tab H) (hG : Good w H [.cb g_1 [ckI a1] 3])  :
  Fine Tryd.prog 147 [.agg (flat [ckI a0.Id, ckV flB a0.Key.Root, ckI a0.Key.Height]).toArray, .pointer (some ⟨g_1, 0, none⟩)] w H [.cb g_1 [ckI a1] 3] (fun H' v L' => v = .bool r ∧ L' = [.cb g_1 [ckI a1] 3]) := by
 unfold M_config_Find_1 at hF
 unfold Fine
 obtain ⟨B, hB⟩ : ∃ B : Base, B = ⟨w, H, blks [.cb g_1 [ckI a1] 3]⟩ := ⟨_, rfl⟩
 have hI : Inv B w H [.cb g_1 [ckI a1] 3] := by rw [hB]; exact Inv.start hG
 refine enter (n := 8) (args := [.agg (flat [ckI a0.Id, ckV flB a0.Key.Root, ckI a0.Key.Height]).toArray, .pointer (some ⟨g_1, 0, none⟩)]) Tryd.func147 rfl Tryd.ntmps147 (Nat.le_of_ble_eq_true rfl) ?_
 refine wseq ?_
 refine wreg ?_
 refine le rfl (l_box (cks := [ckI a0.Id, ckV flB a0.Key.Root, ckI a0.Key.Height]) hI rfl rfl rfl) rfl ?_
 rintro _ w2 ⟨g1, rfl, hI⟩
 replace hI : Inv B w2 H [.cb g_1 [ckI a1] 3, .cb g1 [ckI a0.Id, ckV flB a0.Key.Root, ckI a0.Key.Height] 114] := hI
 refine lv (v := .bool false) rfl (r_as rfl rfl) rfl ?_
 refine wend ?_
 refine wthen ?_
 refine wren (fun ρ3 eρ3 => ?_)
 have h4 : opd ρ3 8 (.tmp 1) = .pointer (some ⟨g_1, 0 + 0, none⟩) := eρ3 1
 have h5 : opd ρ3 8 (.tmp 2) = .pointer (some ⟨g1, 0 + 0, none⟩) := eρ3 2
 clear eρ3
 refine wseq ?_
 refine wreg ?_
 refine lv (v := .pointer (some ⟨g1, 0 + 0, none⟩)) rfl (l_fa (j := 0) (i := 0) rfl fl114_0 h5 rfl) rfl ?_
 refine lv (v := .int .i64 a0.Id) rfl (r_cl1 (off := 0) (p := 0) (hI.good.ca 1 rfl) rfl sc3 rfl rfl rfl) rfl ?_
 refine lv (v := .int .i64 a1) rfl (r_cl1 (off := 0) (p := 0) (hI.good.ca 0 rfl) rfl sc3 h4 rfl rfl) rfl ?_
 refine lv (v := .bool (decide (a0.Id = a1))) rfl (r_eql rfl rfl rfl rfl) rfl ?_
 refine lv (v := .bool (decide (a0.Id = a1))) rfl (r_as rfl rfl) rfl ?_
 refine wend ?_
 refine wthen ?_
 refine wren (fun ρ6 eρ6 => ?_)
 have h7 : opd ρ6 8 (.tmp 3) = .bool (decide (a0.Id = a1)) := eρ6 3
 clear eρ6
 refine wp_ret ?_
 obtain rfl := Option.some.inj hF
 subst hB
 refine finR (rs := [.tmp 3]) (vs := [.bool (decide (a0.Id = a1))]) rfl ⟨h7, trivial⟩ ?_
 exact hI.fin 1 ⟨rfl, rfl⟩
noncomputable def M_slices_IndexFunc___api_Member_api_Member__147 (a0 : List Member) (a1 : Int) : Option (Int) := ((forK (fun (i10 : Nat) (σ10 : Unit) => (((a0[i10]?).bind fun x65 => ((M_config_Find_1 x65 a1).bind fun x71 => (if x71 = true then ((some (i10 : Int)).map Sum.inr) else some (.inl ())))) : Option (Unit ⊕ Int))) a0.length 0 ()).bind fun y => match y with | .inl _ => some (-1) | .inr r => some r)
set_option maxHeartbeats 4000000 in
theorem spec_146_147 {w : World} {H : Hp} {a0 : List Member} {a1 : Int} {s1 : Sv} {g_1 : Nat} {r : Int} (hF : M_slices_IndexFunc___api_Member_api_Member__147 a0 a1 = some r) (hT : Tab H) (hG : Good w H [.cb g_1 [ckI a1] 3]) (hs1 : Sl (Fl.ty fl_Member) H s1 a0) :
  Fine Tryd.prog 146 [s1.v, .func (.func 147) #[] #[.pointer (some ⟨g_1, 0, none⟩)]] w H [.cb g_1 [ckI a1] 3] (fun H' v L' => v = .int .i64 r ∧ L' = [.cb g_1 [ckI a1] 3]) := by
 unfold M_slices_IndexFunc___api_Member_api_Member__147 at hF
 unfold Fine
 obtain ⟨B, hB⟩ : ∃ B : Base, B = ⟨w, H, blks [.cb g_1 [ckI a1] 3]⟩ := ⟨_, rfl⟩
 have hI : Inv B w H [.cb g_1 [ckI a1] 3] := by rw [hB]; exact Inv.start hG
 refine enter (n := 19) (args := [s1.v, .func (.func 147) #[] #[.pointer (some ⟨g_1, 0, none⟩)]]) Tryd.func146 rfl Tryd.ntmps146 (Nat.le_of_ble_eq_true rfl) ?_
 refine wseq ?_
 refine wreg ?_
 refine lv (v := .int .i64 0) rfl (r_as rfl rfl) rfl ?_
 refine wend ?_
 refine wthen ?_
 refine wren (fun ρ2 eρ2 => ?_)
 have h3 : opd ρ2 19 (.tmp 0) = s1.v := eρ2 0
 have h4 : opd ρ2 19 (.tmp 1) = .func (.func 147) #[] #[.pointer (some ⟨g_1, 0 + 0, none⟩)] := eρ2 1
 clear eρ2
 refine wseq ?_
 refine wseq ?_
 refine wreg ?_
 refine lv (v := s1.v) rfl (r_mv rfl h3) rfl ?_
 refine lv (v := .int .i64 (a0.length : Int)) rfl (r_lenS rfl sl62 rfl hs1) rfl ?_
 refine lv (v := .int .i64 0) rfl (r_mv rfl rfl) rfl ?_
 refine wend ?_
 refine wthen ?_
 refine wren (fun ρ5 eρ5 => ?_)
 have h6 : opd ρ5 19 (.tmp 0) = s1.v := (eρ5 0).trans h3
 have h7 : opd ρ5 19 (.tmp 1) = .func (.func 147) #[] #[.pointer (some ⟨g_1, 0 + 0, none⟩)] := (eρ5 1).trans h4
 have h8 : opd ρ5 19 (.tmp 7) = .int .i64 (a0.length : Int) := eρ5 7
 have h9 : opd ρ5 19 (.tmp 8) = .int .i64 0 := eρ5 8
 clear eρ5
 refine wp_block ?_
 have hbd10 := (hs1).bd
 rw [(hs1).n] at hbd10
 obtain ⟨y10, hy10, hF10⟩ := Option.bind_eq_some_iff.1 hF
 refine wfor (n := 19) a0.length _ (fun (i10 : Nat) (σ10 : Unit) ρ' w' => ∃ (H46 : Hp), Hle H H46 ∧ opd ρ' 19 (.tmp 0) = s1.v ∧ opd ρ' 19 (.tmp 1) = .func (.func 147) #[] #[.pointer (some ⟨g_1, 0 + 0, none⟩)] ∧ opd ρ' 19 (.tmp 7) = .int .i64 (a0.length : Int) ∧ opd ρ' 19 (.tmp 8) = .int .i64 (i10 : Int) ∧ Inv B w' H46 [.cb g_1 [ckI a1] 3]) hy10 ⟨H, (Hle.refl _), h6, h7, h8, h9, hI⟩ ?_
 rintro k10 i10 σ10 ρ51 w52 hk10 ⟨H46, hleH46, h47, h48, h49, h50, hI⟩ hy10
 refine wseq ?_
 refine wreg ?_
 refine lv (v := .bool (decide ((i10 : Int) < (a0.length : Int)))) rfl (r_lss rfl h50 h49 rfl) rfl ?_
 refine wend ?_
 refine wthen ?_
 refine wseq ?_
 by_cases hc53 : (i10 : Int) < (a0.length : Int)
 ·skip
  have hbhc53 : (decide ((i10 : Int) < (a0.length : Int))) = true := decide_eq_true hc53
  obtain ⟨k10, rfl⟩ : ∃ m, k10 = m + 1 := ⟨k10 - 1, by omega⟩
  obtain ⟨z10, hb10⟩ := forK_body hy10
  have hF := hb10
  have hlt10 : ((i10 : Nat) : Int) + 1 ≤ 9223372036854775807 := by omega
  refine wcT ((show opd _ _ _ = _ from rfl).trans (congrArg Value.bool hbhc53)) ?_
  refine wp_skip ?_
  refine wthen ?_
  refine wren (fun ρ54 eρ54 => ?_)
  have h55 : opd ρ54 19 (.tmp 0) = s1.v := (eρ54 0).trans h47
  have h56 : opd ρ54 19 (.tmp 1) = .func (.func 147) #[] #[.pointer (some ⟨g_1, 0 + 0, none⟩)] := (eρ54 1).trans h48
  have h57 : opd ρ54 19 (.tmp 7) = .int .i64 (a0.length : Int) := (eρ54 7).trans h49
  have h58 : opd ρ54 19 (.tmp 8) = .int .i64 (i10 : Int) := (eρ54 8).trans h50
  clear eρ54
  refine wseq ?_
  refine wp_block ?_
  refine wseq ?_
  refine wreg ?_
  refine lv (v := .int .i64 (i10 : Int)) rfl (r_mv rfl h58) rfl ?_
  refine lv (v := .int .i64 (i10 : Int)) rfl (r_as rfl rfl) rfl ?_
  refine wend ?_
  refine wthen ?_
  refine wren (fun ρ59 eρ59 => ?_)
  have h60 : opd ρ59 19 (.tmp 0) = s1.v := (eρ59 0).trans h55
  have h61 : opd ρ59 19 (.tmp 1) = .func (.func 147) #[] #[.pointer (some ⟨g_1, 0 + 0, none⟩)] := (eρ59 1).trans h56
  have h62 : opd ρ59 19 (.tmp 5) = .int .i64 (i10 : Int) := eρ59 5
  have h63 : opd ρ59 19 (.tmp 7) = .int .i64 (a0.length : Int) := (eρ59 7).trans h57
  have h64 : opd ρ59 19 (.tmp 8) = .int .i64 (i10 : Int) := (eρ59 8).trans h58
  clear eρ59
  refine wseq ?_
  refine wreg ?_
  refine lv (v := .func (.func 147) #[] #[.pointer (some ⟨g_1, 0 + 0, none⟩)]) rfl (r_mv rfl h61) rfl ?_
  refine lv (v := s1.v) rfl (r_mv rfl h60) rfl ?_
  refine lv (v := .int .i64 (i10 : Int)) rfl (r_mv rfl h62) rfl ?_
  obtain ⟨x65, hx65, hF⟩ := Option.bind_eq_some_iff.1 hF
  obtain ⟨b66, j67, hix68, hil69, hA70⟩ := (hs1.mono hleH46).ixf hx65
  replace hA70 : At H46 b66 j67 [ckI x65.Id, ckV flB x65.Key.Root, ckI x65.Key.Height] := hA70
  refine lv (v := .pointer (some ⟨b66, j67 + 0, none⟩)) rfl (r_ixt rfl sl62 rfl rfl rfl hix68 hil69) rfl ?_
  refine lv (v := .agg (flat [ckI x65.Id, ckV flB x65.Key.Root, ckI x65.Key.Height]).toArray) rfl (r_cla (off := 0) (p := 0) (m := 3) (hA70.ca hI.good) rfl ag114 rfl rfl rfl) rfl ?_
  obtain ⟨x71, hx71, hF⟩ := Option.bind_eq_some_iff.1 hF
  have hsp74 := spec_147 hx71 (hT.mono hleH46) (hI.part 1) 
  refine fcv ([.cb g_1 [ckI a1] 3]) ([]) (args := [.agg (flat [ckI x65.Id, ckV flB x65.Key.Root, ckI x65.Key.Height]).toArray]) (cap := [.pointer (some ⟨g_1, 0 + 0, none⟩)]) fc147 rfl rfl rfl rfl hI (argc rfl rfl) (hsp74) ?_
  rintro _ H72 _ w73 ⟨rfl, rfl⟩ hleH72 hI
  replace hI : Inv B w73 H72 [.cb g_1 [ckI a1] 3] := hI
  refine wend ?_
  refine wthen ?_
  refine wren (fun ρ75 eρ75 => ?_)
  have h76 : opd ρ75 19 (.tmp 0) = s1.v := (eρ75 0).trans h60
  have h77 : opd ρ75 19 (.tmp 1) = .func (.func 147) #[] #[.pointer (some ⟨g_1, 0 + 0, none⟩)] := (eρ75 1).trans h61
  have h78 : opd ρ75 19 (.tmp 5) = .int .i64 (i10 : Int) := (eρ75 5).trans h62
  have h79 : opd ρ75 19 (.tmp 7) = .int .i64 (a0.length : Int) := (eρ75 7).trans h63
  have h80 : opd ρ75 19 (.tmp 8) = .int .i64 (i10 : Int) := (eρ75 8).trans h64
  have h81 : opd ρ75 19 (.tmp 16) = .bool x71 := eρ75 16
  clear eρ75
  by_cases hc82 : x71 = true
  ·skip
   rw [if_pos hc82] at hF
   have hbhc82 : x71 = true := hc82
   refine wcT (h81.trans (congrArg Value.bool hbhc82)) ?_
   refine wseq ?_
   refine wreg ?_
   refine lv (v := .int .i64 (i10 : Int)) rfl (r_mv rfl h78) rfl ?_
   refine lv (v := .int .i64 (i10 : Int)) rfl (r_as rfl rfl) rfl ?_
   refine wend ?_
   refine wthen ?_
   refine wren (fun ρ83 eρ83 => ?_)
   have h84 : opd ρ83 19 (.tmp 4) = .int .i64 (i10 : Int) := eρ83 4
   clear eρ83
   refine wp_ret ?_
   refine inR ?_
   refine thR ?_
   refine thR ?_
   obtain ⟨q85, hFn, hzq85⟩ := Option.map_eq_some_iff.1 hF
   clear hF
   obtain rfl := forK_inr hy10 (hb10.trans (congrArg some hzq85.symm))
   have hF0 := hF10
   try dsimp only at hF0
   have hF := hFn.trans hF0
   clear hFn hF0
   refine inR ?_
   refine thR ?_
   obtain rfl := Option.some.inj hF
   subst hB
   refine finR (rs := [.tmp 4]) (vs := [.int .i64 (i10 : Int)]) rfl ⟨h84, trivial⟩ ?_
   exact hI.fin 1 ⟨rfl, rfl⟩
  ·skip
   rw [if_neg hc82] at hF
   have hbhc82 : x71 = false := (Bool.eq_false_iff.2 hc82)
   refine wcF (h81.trans (congrArg Value.bool hbhc82)) ?_
   refine wp_skip ?_
   refine inN ?_
   refine wthen ?_
   refine wreg ?_
   refine lv (v := .int .i64 ((i10 + 1 : Nat) : Int)) rfl (r_addn rfl h80 rfl hlt10) rfl ?_
   refine lv (v := .int .i64 ((i10 + 1 : Nat) : Int)) rfl (r_mv rfl rfl) rfl ?_
   refine wend ?_
   obtain rfl := Option.some.inj hF
   exact ⟨k10, (), _, rfl, rfl, ⟨H72, (hleH46.trans hleH72), h76, h77, h79, rfl, hI⟩, forK_inl hy10 hb10⟩
 ·skip
  have hbhc53 : (decide ((i10 : Int) < (a0.length : Int))) = false := decide_eq_false hc53
  obtain rfl : k10 = 0 := by omega
  obtain rfl := forK_end hy10
  have hF := hF10
  try dsimp only at hF
  refine wcF ((show opd _ _ _ = _ from rfl).trans (congrArg Value.bool hbhc53)) ?_
  refine wp_exit ?_
  refine thE ?_
  refine thE ?_
  refine inX ?_
  refine wthen ?_
  refine wren (fun ρ86 eρ86 => ?_)
  clear eρ86
  refine wseq ?_
  refine wreg ?_
  refine lv (v := .int .i64 (-1)) rfl (r_as rfl rfl) rfl ?_
  refine wend ?_
  refine wthen ?_
  refine wren (fun ρ87 eρ87 => ?_)
  have h88 : opd ρ87 19 (.tmp 4) = .int .i64 (-1) := eρ87 4
  clear eρ87
  refine wp_ret ?_
  obtain rfl := Option.some.inj hF
  subst hB
  refine finR (rs := [.tmp 4]) (vs := [.int .i64 (-1)]) rfl ⟨h88, trivial⟩ ?_
  exact hI.fin 1 ⟨rfl, rfl⟩
noncomputable def M_config_Find (a0 : Config) (a1 : Int) : Option (Member × Int × Bool) := ((M_slices_IndexFunc___api_Member_api_Member__147 a0.Members a1).bind fun x12 => (if x12 < 0 then some ((⟨0, (⟨(Vec.rep 32 0), 0⟩ : Key)⟩ : Member), 0, false) else ((ixI a0.Members x12).bind fun x31 => some (x31, x12, true))))
set_option maxHeartbeats 1000000 in
theorem spec_101 {w : World} {H : Hp} {a0 : Config} {a1 : Int} {s1 : Sv} {r : Member × Int × Bool} (hF : M_config_Find a0 a1 = some r) (hT : Tab H) (hG : Good w H []) (hs1 : Sl (Fl.ty fl_Member) H s1 a0.Members) :
  Fine Tryd.prog 101 [.agg (flat [ckI a0.Epoch, ckL s1]).toArray, .int .i64 a1] w H [] (fun H' v L' => v = .tuple #[.agg (flat [ckI r.1.Id, ckV flB r.1.Key.Root, ckI r.1.Key.Height]).toArray, .int .i64 r.2.1, .bool r.2.2] ∧ L' = []) := by
 unfold M_config_Find at hF
 unfold Fine
 obtain ⟨B, hB⟩ : ∃ B : Base, B = ⟨w, H, blks []⟩ := ⟨_, rfl⟩
 have hI : Inv B w H [] := by rw [hB]; exact Inv.start hG
 refine enter (n := 21) (args := [.agg (flat [ckI a0.Epoch, ckL s1]).toArray, .int .i64 a1]) Tryd.func101 rfl Tryd.ntmps101 (Nat.le_of_ble_eq_true rfl) ?_
 refine wseq ?_
 refine wreg ?_
 refine le rfl (l_box (cks := [ckI a0.Epoch, ckL s1]) hI rfl rfl rfl) rfl ?_
 rintro _ w3 ⟨g2, rfl, hI⟩
 replace hI : Inv B w3 H [.cb g2 [ckI a0.Epoch, ckL s1] 64] := hI
 refine le rfl (l_box (cks := [ckI a1]) hI rfl rfl rfl) rfl ?_
 rintro _ w5 ⟨g4, rfl, hI⟩
 replace hI : Inv B w5 H [.cb g2 _ 64, .cb g4 [ckI a1] 3] := hI
 refine le rfl (l_al hI rfl ze114) rfl ?_
 rintro _ w7 ⟨g6, rfl, hI⟩
 replace hI : Inv B w7 H [.cb g2 _ 64, .cb g4 [ckI a1] 3, .cb g6 [ckI 0, ckV flB (Vec.rep 32 0), ckI 0] 114] := hI
 refine lv (v := .int .i64 0) rfl (r_as rfl rfl) rfl ?_
 refine lv (v := .bool false) rfl (r_as rfl rfl) rfl ?_
 refine wend ?_
 refine wthen ?_
 refine wren (fun ρ8 eρ8 => ?_)
 have h9 : opd ρ8 21 (.tmp 2) = .pointer (some ⟨g2, 0 + 0, none⟩) := eρ8 2
 have h10 : opd ρ8 21 (.tmp 3) = .pointer (some ⟨g4, 0 + 0, none⟩) := eρ8 3
 have h11 : opd ρ8 21 (.tmp 4) = .pointer (some ⟨g6, 0 + 0, none⟩) := eρ8 4
 clear eρ8
 refine wseq ?_
 refine wreg ?_
 refine lv (v := .pointer (some ⟨g2, 0 + 1, none⟩)) rfl (l_fa (j := 0) (i := 0) rfl fl64_1 h9 rfl) rfl ?_
 refine lv (v := s1.v) rfl (r_cl1 (off := 1) (p := 1) (hI.good.ca 0 rfl) rfl sc62 rfl rfl rfl) rfl ?_
 refine lv (v := .func (.func 147) #[] #[.pointer (some ⟨g4, 0 + 0, none⟩)]) rfl (r_mkf rfl h10) rfl ?_
 replace hI := hI.bring 1 rfl
 replace hI : Inv B w7 H [.cb g4 [ckI a1] 3, .cb g2 _ 64, .cb g6 _ 114] := hI
 obtain ⟨x12, hx12, hF⟩ := Option.bind_eq_some_iff.1 hF
 have hsp15 := spec_146_147 hx12 hT (hI.part 1) hs1
 refine fc ([.cb g4 [ckI a1] 3]) ([.cb g2 [ckI a0.Epoch, ckL s1] 64, .cb g6 [ckI 0, ckV flB (Vec.rep 32 0), ckI 0] 114]) (args := [s1.v, .func (.func 147) #[] #[.pointer (some ⟨g4, 0 + 0, none⟩)]]) fc146 rfl rfl rfl hI (argc rfl (argc rfl rfl)) (hsp15) ?_
 rintro _ H13 _ w14 ⟨rfl, rfl⟩ hleH13 hI
 replace hI : Inv B w14 H13 [.cb g4 [ckI a1] 3, .cb g2 _ 64, .cb g6 _ 114] := hI
 refine lv (v := .int .i64 x12) rfl (r_as rfl rfl) rfl ?_
 refine wend ?_
 refine wthen ?_
 refine wren (fun ρ16 eρ16 => ?_)
 have h17 : opd ρ16 21 (.tmp 2) = .pointer (some ⟨g2, 0 + 0, none⟩) := (eρ16 2).trans h9
 have h18 : opd ρ16 21 (.tmp 4) = .pointer (some ⟨g6, 0 + 0, none⟩) := (eρ16 4).trans h11
 have h19 : opd ρ16 21 (.tmp 7) = .int .i64 x12 := eρ16 7
 clear eρ16
 refine wseq ?_
 refine wseq ?_
 refine wreg ?_
 refine lv (v := .int .i64 x12) rfl (r_mv rfl h19) rfl ?_
 refine lv (v := .bool (decide (x12 < 0))) rfl (r_lss rfl rfl rfl rfl) rfl ?_
 refine wend ?_
 refine wthen ?_
 refine wren (fun ρ20 eρ20 => ?_)
 have h21 : opd ρ20 21 (.tmp 2) = .pointer (some ⟨g2, 0 + 0, none⟩) := (eρ20 2).trans h17
 have h22 : opd ρ20 21 (.tmp 4) = .pointer (some ⟨g6, 0 + 0, none⟩) := (eρ20 4).trans h18
 have h23 : opd ρ20 21 (.tmp 7) = .int .i64 x12 := (eρ20 7).trans h19
 have h24 : opd ρ20 21 (.tmp 13) = .bool (decide (x12 < 0)) := eρ20 13
 clear eρ20
 by_cases hc25 : x12 < 0
 ·skip
  rw [if_pos hc25] at hF
  have hbhc25 : (decide (x12 < 0)) = true := decide_eq_true hc25
  refine wcT (h24.trans (congrArg Value.bool hbhc25)) ?_
  refine wseq ?_
  refine wreg ?_
  refine lv (v := .agg (flat [ckI 0, ckV flB (Vec.rep 32 0), ckI 0]).toArray) rfl (r_bldk (z := [[ckI 0], [ckV flB (Vec.rep 32 0), ckI 0]]) (pc := []) rfl zg114 bf114 rfl rfl rfl rfl) rfl ?_
  refine lst rfl (l_st (off := 0) (p := 0) (m := 3) (new := [ckI 0, ckV flB (Vec.rep 32 0), ckI 0]) hI 2 rfl rfl sz114 h22 rfl rfl rfl rfl rfl) rfl ?_
  intro w26 hI
  replace hI : Inv B w26 H13 [.cb g4 [ckI a1] 3, .cb g2 _ 64, .cb g6 _ 114] := hI
  refine lv (v := .int .i64 0) rfl (r_as rfl rfl) rfl ?_
  refine lv (v := .bool false) rfl (r_as rfl rfl) rfl ?_
  refine wend ?_
  refine wthen ?_
  refine wren (fun ρ27 eρ27 => ?_)
  have h28 : opd ρ27 21 (.tmp 4) = .pointer (some ⟨g6, 0 + 0, none⟩) := (eρ27 4).trans h22
  have h29 : opd ρ27 21 (.tmp 5) = .int .i64 0 := eρ27 5
  have h30 : opd ρ27 21 (.tmp 6) = .bool false := eρ27 6
  clear eρ27
  refine wp_ret ?_
  refine thR ?_
  obtain rfl := Option.some.inj hF
  subst hB
  refine finR (rs := [.cell 4 114, .tmp 5, .tmp 6]) (vs := [.agg (flat [ckI 0, ckV flB (Vec.rep 32 0), ckI 0]).toArray, .int .i64 0, .bool false]) rfl ⟨⟨_, h28, ld_agg (hI.good.ca 2 rfl) ag114 rfl⟩, h29, h30, trivial⟩ ?_
  exact hI.fin 0 ⟨rfl, rfl⟩
 ·skip
  rw [if_neg hc25] at hF
  have hbhc25 : (decide (x12 < 0)) = false := decide_eq_false hc25
  refine wcF (h24.trans (congrArg Value.bool hbhc25)) ?_
  refine wp_skip ?_
  refine wthen ?_
  refine wseq ?_
  refine wreg ?_
  refine lv (v := .pointer (some ⟨g2, 0 + 1, none⟩)) rfl (l_fa (j := 0) (i := 0) rfl fl64_1 h21 rfl) rfl ?_
  refine lv (v := s1.v) rfl (r_cl1 (off := 1) (p := 1) (hI.good.ca 1 rfl) rfl sc62 rfl rfl rfl) rfl ?_
  refine lv (v := .int .i64 x12) rfl (r_mv rfl h23) rfl ?_
  obtain ⟨x31, hx31, hF⟩ := Option.bind_eq_some_iff.1 hF
  obtain ⟨b32, j33, hix34, hil35, hA36⟩ := (hs1.mono hleH13).ixf (ixI_some hx31).1
  replace hA36 : At H13 b32 j33 [ckI x31.Id, ckV flB x31.Key.Root, ckI x31.Key.Height] := hA36
  refine lv (v := .pointer (some ⟨b32, j33 + 0, none⟩)) rfl (r_ixt rfl sl62 rfl rfl (ixI_some hx31).2 hix34 hil35) rfl ?_
  refine lv (v := .agg (flat [ckI x31.Id, ckV flB x31.Key.Root, ckI x31.Key.Height]).toArray) rfl (r_cla (off := 0) (p := 0) (m := 3) (hA36.ca hI.good) rfl ag114 rfl rfl rfl) rfl ?_
  refine lv (v := .int .i64 x12) rfl (r_mv rfl h23) rfl ?_
  refine lst rfl (l_st (off := 0) (p := 0) (m := 3) (new := [ckI x31.Id, ckV flB x31.Key.Root, ckI x31.Key.Height]) hI 2 rfl rfl sz114 h22 rfl rfl rfl rfl rfl) rfl ?_
  intro w37 hI
  replace hI : Inv B w37 H13 [.cb g4 [ckI a1] 3, .cb g2 _ 64, .cb g6 [ckI x31.Id, ckV flB x31.Key.Root, ckI x31.Key.Height] 114] := hI
  refine lv (v := .int .i64 x12) rfl (r_as rfl rfl) rfl ?_
  refine lv (v := .bool true) rfl (r_as rfl rfl) rfl ?_
  refine wend ?_
  refine wthen ?_
  refine wren (fun ρ38 eρ38 => ?_)
  have h39 : opd ρ38 21 (.tmp 4) = .pointer (some ⟨g6, 0 + 0, none⟩) := (eρ38 4).trans h22
  have h40 : opd ρ38 21 (.tmp 5) = .int .i64 x12 := eρ38 5
  have h41 : opd ρ38 21 (.tmp 6) = .bool true := eρ38 6
  clear eρ38
  refine wp_ret ?_
  obtain rfl := Option.some.inj hF
  subst hB
  refine finR (rs := [.cell 4 114, .tmp 5, .tmp 6]) (vs := [.agg (flat [ckI x31.Id, ckV flB x31.Key.Root, ckI x31.Key.Height]).toArray, .int .i64 x12, .bool true]) rfl ⟨⟨_, h39, ld_agg (hI.good.ca 2 rfl) ag114 rfl⟩, h40, h41, trivial⟩ ?_
  exact hI.fin 0 ⟨rfl, rfl⟩
noncomputable def M_vote_Good (a0 : Vote) : Option (Bool) := (if (1 : Int) ≤ a0.Kind then (if a0.Kind ≤ 2 then (if (0 : Int) ≤ a0.Epoch then (if a0.Epoch ≤ 1073741824 then (if (1 : Int) ≤ a0.Height then (if a0.Height ≤ 1024 then (if (0 : Int) ≤ a0.Round then (if a0.Round ≤ 1024 then (if (1 : Int) ≤ a0.From then some (decide (a0.From ≤ 63)) else some false) else some false) else some false) else some false) else some false) else some false) else some false) else some false) else some false)
set_option maxHeartbeats 4000000 in
theorem spec_102 {w : World} {H : Hp} {a0 : Vote} {s1 : Sv} {s2 : Sv} {s3 : Sv} {r : Bool} (hF : M_vote_Good a0 = some r) (hT : Tab H) (hG : Good w H []) (hs1 : Sl (Fl.ty (flV flB 32)) H s1 a0.Sig.Once.Open) (hs2 : Sl (Fl.ty (flV flB 32)) H s2 a0.Sig.Once.Shut) (hs3 : Sl (Fl.ty (flV flB 32)) H s3 a0.Sig.Path) :
  Fine Tryd.prog 102 [.agg (flat [ckI a0.Kind, ckI a0.Epoch, ckI a0.Height, ckI a0.Round, ckV flB a0.Digest, ckI a0.From, ckI a0.Sig.Leaf, ckL s1, ckL s2, ckL s3]).toArray] w H [] (fun H' v L' => v = .bool r ∧ L' = []) := by
 unfold M_vote_Good at hF
 unfold Fine
 obtain ⟨B, hB⟩ : ∃ B : Base, B = ⟨w, H, blks []⟩ := ⟨_, rfl⟩
 have hI : Inv B w H [] := by rw [hB]; exact Inv.start hG
 refine enter (n := 51) (args := [.agg (flat [ckI a0.Kind, ckI a0.Epoch, ckI a0.Height, ckI a0.Round, ckV flB a0.Digest, ckI a0.From, ckI a0.Sig.Leaf, ckL s1, ckL s2, ckL s3]).toArray]) Tryd.func102 rfl Tryd.ntmps102 (Nat.le_of_ble_eq_true rfl) ?_
 refine wseq ?_
 refine wreg ?_
 refine le rfl (l_box (cks := [ckI a0.Kind, ckI a0.Epoch, ckI a0.Height, ckI a0.Round, ckV flB a0.Digest, ckI a0.From, ckI a0.Sig.Leaf, ckL s1, ckL s2, ckL s3]) hI rfl rfl rfl) rfl ?_
 rintro _ w5 ⟨g4, rfl, hI⟩
 replace hI : Inv B w5 H [.cb g4 [ckI a0.Kind, ckI a0.Epoch, ckI a0.Height, ckI a0.Round, ckV flB a0.Digest, ckI a0.From, ckI a0.Sig.Leaf, ckL s1, ckL s2, ckL s3] 35] := hI
 refine lv (v := .bool false) rfl (r_as rfl rfl) rfl ?_
 refine wend ?_
 refine wthen ?_
 refine wren (fun ρ6 eρ6 => ?_)
 have h7 : opd ρ6 51 (.tmp 1) = .pointer (some ⟨g4, 0 + 0, none⟩) := eρ6 1
 clear eρ6
 refine wseq ?_
 refine wreg ?_
 refine lv (v := .pointer (some ⟨g4, 0 + 0, none⟩)) rfl (l_fa (j := 0) (i := 0) rfl fl35_0 h7 rfl) rfl ?_
 refine lv (v := .int .i64 a0.Kind) rfl (r_cl1 (off := 0) (p := 0) (hI.good.ca 0 rfl) rfl sc3 rfl rfl rfl) rfl ?_
 refine lv (v := .bool (decide ((1 : Int) ≤ a0.Kind))) rfl (r_geq rfl rfl rfl rfl) rfl ?_
 by_cases hc8 : (1 : Int) ≤ a0.Kind
 ·skip
  rw [if_pos hc8] at hF
  have hbhc8 : (decide ((1 : Int) ≤ a0.Kind)) = true := decide_eq_true hc8
  refine lv (v := .bool true) rfl (r_mv rfl ((show opd _ _ _ = _ from rfl).trans (congrArg Value.bool hbhc8))) rfl ?_
  refine lv (v := .pointer (some ⟨g4, 0 + 0, none⟩)) rfl (l_fa (j := 0) (i := 0) rfl fl35_0 h7 rfl) rfl ?_
  refine lv (v := .int .i64 a0.Kind) rfl (r_cl1 (off := 0) (p := 0) (hI.good.ca 0 rfl) rfl sc3 rfl rfl rfl) rfl ?_
  refine lv (v := .bool (decide (a0.Kind ≤ 2))) rfl (r_leq rfl rfl rfl rfl) rfl ?_
  refine lv (v := .bool (decide (a0.Kind ≤ 2))) rfl (r_pkT rfl rfl rfl) rfl ?_
  by_cases hc9 : a0.Kind ≤ 2
  ·skip
   rw [if_pos hc9] at hF
   have hbhc9 : (decide (a0.Kind ≤ 2)) = true := decide_eq_true hc9
   refine lv (v := .bool true) rfl (r_mv rfl ((show opd _ _ _ = _ from rfl).trans (congrArg Value.bool hbhc9))) rfl ?_
   refine lv (v := .pointer (some ⟨g4, 0 + 1, none⟩)) rfl (l_fa (j := 0) (i := 0) rfl fl35_1 h7 rfl) rfl ?_
   refine lv (v := .int .i64 a0.Epoch) rfl (r_cl1 (off := 1) (p := 1) (hI.good.ca 0 rfl) rfl sc3 rfl rfl rfl) rfl ?_
   refine lv (v := .bool (decide ((0 : Int) ≤ a0.Epoch))) rfl (r_geq rfl rfl rfl rfl) rfl ?_
   refine lv (v := .bool (decide ((0 : Int) ≤ a0.Epoch))) rfl (r_pkT rfl rfl rfl) rfl ?_
   by_cases hc10 : (0 : Int) ≤ a0.Epoch
   ·skip
    rw [if_pos hc10] at hF
    have hbhc10 : (decide ((0 : Int) ≤ a0.Epoch)) = true := decide_eq_true hc10
    refine lv (v := .bool true) rfl (r_mv rfl ((show opd _ _ _ = _ from rfl).trans (congrArg Value.bool hbhc10))) rfl ?_
    refine lv (v := .pointer (some ⟨g4, 0 + 1, none⟩)) rfl (l_fa (j := 0) (i := 0) rfl fl35_1 h7 rfl) rfl ?_
    refine lv (v := .int .i64 a0.Epoch) rfl (r_cl1 (off := 1) (p := 1) (hI.good.ca 0 rfl) rfl sc3 rfl rfl rfl) rfl ?_
    refine lv (v := .bool (decide (a0.Epoch ≤ 1073741824))) rfl (r_leq rfl rfl rfl rfl) rfl ?_
    refine lv (v := .bool (decide (a0.Epoch ≤ 1073741824))) rfl (r_pkT rfl rfl rfl) rfl ?_
    by_cases hc11 : a0.Epoch ≤ 1073741824
    ·skip
     rw [if_pos hc11] at hF
     have hbhc11 : (decide (a0.Epoch ≤ 1073741824)) = true := decide_eq_true hc11
     refine lv (v := .bool true) rfl (r_mv rfl ((show opd _ _ _ = _ from rfl).trans (congrArg Value.bool hbhc11))) rfl ?_
     refine lv (v := .pointer (some ⟨g4, 0 + 2, none⟩)) rfl (l_fa (j := 0) (i := 0) rfl fl35_2 h7 rfl) rfl ?_
     refine lv (v := .int .i64 a0.Height) rfl (r_cl1 (off := 2) (p := 2) (hI.good.ca 0 rfl) rfl sc3 rfl rfl rfl) rfl ?_
     refine lv (v := .bool (decide ((1 : Int) ≤ a0.Height))) rfl (r_geq rfl rfl rfl rfl) rfl ?_
     refine lv (v := .bool (decide ((1 : Int) ≤ a0.Height))) rfl (r_pkT rfl rfl rfl) rfl ?_
     by_cases hc12 : (1 : Int) ≤ a0.Height
     ·skip
      rw [if_pos hc12] at hF
      have hbhc12 : (decide ((1 : Int) ≤ a0.Height)) = true := decide_eq_true hc12
      refine lv (v := .bool true) rfl (r_mv rfl ((show opd _ _ _ = _ from rfl).trans (congrArg Value.bool hbhc12))) rfl ?_
      refine lv (v := .pointer (some ⟨g4, 0 + 2, none⟩)) rfl (l_fa (j := 0) (i := 0) rfl fl35_2 h7 rfl) rfl ?_
      refine lv (v := .int .i64 a0.Height) rfl (r_cl1 (off := 2) (p := 2) (hI.good.ca 0 rfl) rfl sc3 rfl rfl rfl) rfl ?_
      refine lv (v := .bool (decide (a0.Height ≤ 1024))) rfl (r_leq rfl rfl rfl rfl) rfl ?_
      refine lv (v := .bool (decide (a0.Height ≤ 1024))) rfl (r_pkT rfl rfl rfl) rfl ?_
      by_cases hc13 : a0.Height ≤ 1024
      ·skip
       rw [if_pos hc13] at hF
       have hbhc13 : (decide (a0.Height ≤ 1024)) = true := decide_eq_true hc13
       refine lv (v := .bool true) rfl (r_mv rfl ((show opd _ _ _ = _ from rfl).trans (congrArg Value.bool hbhc13))) rfl ?_
       refine lv (v := .pointer (some ⟨g4, 0 + 3, none⟩)) rfl (l_fa (j := 0) (i := 0) rfl fl35_3 h7 rfl) rfl ?_
       refine lv (v := .int .i64 a0.Round) rfl (r_cl1 (off := 3) (p := 3) (hI.good.ca 0 rfl) rfl sc3 rfl rfl rfl) rfl ?_
       refine lv (v := .bool (decide ((0 : Int) ≤ a0.Round))) rfl (r_geq rfl rfl rfl rfl) rfl ?_
       refine lv (v := .bool (decide ((0 : Int) ≤ a0.Round))) rfl (r_pkT rfl rfl rfl) rfl ?_
       by_cases hc14 : (0 : Int) ≤ a0.Round
       ·skip
        rw [if_pos hc14] at hF
        have hbhc14 : (decide ((0 : Int) ≤ a0.Round)) = true := decide_eq_true hc14
        refine lv (v := .bool true) rfl (r_mv rfl ((show opd _ _ _ = _ from rfl).trans (congrArg Value.bool hbhc14))) rfl ?_
        refine lv (v := .pointer (some ⟨g4, 0 + 3, none⟩)) rfl (l_fa (j := 0) (i := 0) rfl fl35_3 h7 rfl) rfl ?_
        refine lv (v := .int .i64 a0.Round) rfl (r_cl1 (off := 3) (p := 3) (hI.good.ca 0 rfl) rfl sc3 rfl rfl rfl) rfl ?_
        refine lv (v := .bool (decide (a0.Round ≤ 1024))) rfl (r_leq rfl rfl rfl rfl) rfl ?_
        refine lv (v := .bool (decide (a0.Round ≤ 1024))) rfl (r_pkT rfl rfl rfl) rfl ?_
        by_cases hc15 : a0.Round ≤ 1024
        ·skip
         rw [if_pos hc15] at hF
         have hbhc15 : (decide (a0.Round ≤ 1024)) = true := decide_eq_true hc15
         refine lv (v := .bool true) rfl (r_mv rfl ((show opd _ _ _ = _ from rfl).trans (congrArg Value.bool hbhc15))) rfl ?_
         refine lv (v := .pointer (some ⟨g4, 0 + 36, none⟩)) rfl (l_fa (j := 0) (i := 0) rfl fl35_5 h7 rfl) rfl ?_
         refine lv (v := .int .i64 a0.From) rfl (r_cl1 (off := 36) (p := 5) (hI.good.ca 0 rfl) rfl sc3 rfl rfl rfl) rfl ?_
         refine lv (v := .bool (decide ((1 : Int) ≤ a0.From))) rfl (r_geq rfl rfl rfl rfl) rfl ?_
         refine lv (v := .bool (decide ((1 : Int) ≤ a0.From))) rfl (r_pkT rfl rfl rfl) rfl ?_
         by_cases hc16 : (1 : Int) ≤ a0.From
         ·skip
          rw [if_pos hc16] at hF
          have hbhc16 : (decide ((1 : Int) ≤ a0.From)) = true := decide_eq_true hc16
          refine lv (v := .bool true) rfl (r_mv rfl ((show opd _ _ _ = _ from rfl).trans (congrArg Value.bool hbhc16))) rfl ?_
          refine lv (v := .pointer (some ⟨g4, 0 + 36, none⟩)) rfl (l_fa (j := 0) (i := 0) rfl fl35_5 h7 rfl) rfl ?_
          refine lv (v := .int .i64 a0.From) rfl (r_cl1 (off := 36) (p := 5) (hI.good.ca 0 rfl) rfl sc3 rfl rfl rfl) rfl ?_
          refine lv (v := .bool (decide (a0.From ≤ 63))) rfl (r_leq rfl rfl rfl rfl) rfl ?_
          refine lv (v := .bool (decide (a0.From ≤ 63))) rfl (r_pkT rfl rfl rfl) rfl ?_
          refine lv (v := .bool (decide (a0.From ≤ 63))) rfl (r_as rfl rfl) rfl ?_
          refine wend ?_
          refine wthen ?_
          refine wren (fun ρ17 eρ17 => ?_)
          have h18 : opd ρ17 51 (.tmp 2) = .bool (decide (a0.From ≤ 63)) := eρ17 2
          clear eρ17
          refine wp_ret ?_
          obtain rfl := Option.some.inj hF
          subst hB
          refine finR (rs := [.tmp 2]) (vs := [.bool (decide (a0.From ≤ 63))]) rfl ⟨h18, trivial⟩ ?_
          exact hI.fin 0 ⟨rfl, rfl⟩
         ·skip
          rw [if_neg hc16] at hF
          have hbhc16 : (decide ((1 : Int) ≤ a0.From)) = false := decide_eq_false hc16
          refine lv (v := .bool false) rfl (r_mv rfl ((show opd _ _ _ = _ from rfl).trans (congrArg Value.bool hbhc16))) rfl ?_
          with_reducible refine lx (d := 47) (by kernel_rfl) (by kernel_rfl) ?_
          with_reducible refine lx (d := 48) (by kernel_rfl) (by kernel_rfl) ?_
          with_reducible refine lx (d := 49) (by kernel_rfl) (by kernel_rfl) ?_
          refine lv (v := .bool false) rfl (r_pkF rfl rfl rfl) rfl ?_
          refine lv (v := .bool false) rfl (r_as rfl rfl) rfl ?_
          refine wend ?_
          refine wthen ?_
          refine wren (fun ρ19 eρ19 => ?_)
          have h20 : opd ρ19 51 (.tmp 2) = .bool false := eρ19 2
          clear eρ19
          refine wp_ret ?_
          obtain rfl := Option.some.inj hF
          subst hB
          refine finR (rs := [.tmp 2]) (vs := [.bool false]) rfl ⟨h20, trivial⟩ ?_
          exact hI.fin 0 ⟨rfl, rfl⟩
        ·skip
         rw [if_neg hc15] at hF
         have hbhc15 : (decide (a0.Round ≤ 1024)) = false := decide_eq_false hc15
         refine lv (v := .bool false) rfl (r_mv rfl ((show opd _ _ _ = _ from rfl).trans (congrArg Value.bool hbhc15))) rfl ?_
         with_reducible refine lx (d := 42) (by kernel_rfl) (by kernel_rfl) ?_
         with_reducible refine lx (d := 43) (by kernel_rfl) (by kernel_rfl) ?_
         with_reducible refine lx (d := 44) (by kernel_rfl) (by kernel_rfl) ?_
         refine lv (v := .bool false) rfl (r_pkF rfl rfl rfl) rfl ?_
         refine lv (v := .bool false) rfl (r_mv rfl rfl) rfl ?_
         with_reducible refine lx (d := 47) (by kernel_rfl) (by kernel_rfl) ?_
         with_reducible refine lx (d := 48) (by kernel_rfl) (by kernel_rfl) ?_
         with_reducible refine lx (d := 49) (by kernel_rfl) (by kernel_rfl) ?_
         refine lv (v := .bool false) rfl (r_pkF rfl rfl rfl) rfl ?_
         refine lv (v := .bool false) rfl (r_as rfl rfl) rfl ?_
         refine wend ?_
         refine wthen ?_
         refine wren (fun ρ21 eρ21 => ?_)
         have h22 : opd ρ21 51 (.tmp 2) = .bool false := eρ21 2
         clear eρ21
         refine wp_ret ?_
         obtain rfl := Option.some.inj hF
         subst hB
         refine finR (rs := [.tmp 2]) (vs := [.bool false]) rfl ⟨h22, trivial⟩ ?_
         exact hI.fin 0 ⟨rfl, rfl⟩
       ·skip
        rw [if_neg hc14] at hF
        have hbhc14 : (decide ((0 : Int) ≤ a0.Round)) = false := decide_eq_false hc14
        refine lv (v := .bool false) rfl (r_mv rfl ((show opd _ _ _ = _ from rfl).trans (congrArg Value.bool hbhc14))) rfl ?_
        with_reducible refine lx (d := 37) (by kernel_rfl) (by kernel_rfl) ?_
        with_reducible refine lx (d := 38) (by kernel_rfl) (by kernel_rfl) ?_
        with_reducible refine lx (d := 39) (by kernel_rfl) (by kernel_rfl) ?_
        refine lv (v := .bool false) rfl (r_pkF rfl rfl rfl) rfl ?_
        refine lv (v := .bool false) rfl (r_mv rfl rfl) rfl ?_
        with_reducible refine lx (d := 42) (by kernel_rfl) (by kernel_rfl) ?_
        with_reducible refine lx (d := 43) (by kernel_rfl) (by kernel_rfl) ?_
        with_reducible refine lx (d := 44) (by kernel_rfl) (by kernel_rfl) ?_
        refine lv (v := .bool false) rfl (r_pkF rfl rfl rfl) rfl ?_
        refine lv (v := .bool false) rfl (r_mv rfl rfl) rfl ?_
        with_reducible refine lx (d := 47) (by kernel_rfl) (by kernel_rfl) ?_
        with_reducible refine lx (d := 48) (by kernel_rfl) (by kernel_rfl) ?_
        with_reducible refine lx (d := 49) (by kernel_rfl) (by kernel_rfl) ?_
        refine lv (v := .bool false) rfl (r_pkF rfl rfl rfl) rfl ?_
        refine lv (v := .bool false) rfl (r_as rfl rfl) rfl ?_
        refine wend ?_
        refine wthen ?_
        refine wren (fun ρ23 eρ23 => ?_)
        have h24 : opd ρ23 51 (.tmp 2) = .bool false := eρ23 2
        clear eρ23
        refine wp_ret ?_
        obtain rfl := Option.some.inj hF
        subst hB
        refine finR (rs := [.tmp 2]) (vs := [.bool false]) rfl ⟨h24, trivial⟩ ?_
        exact hI.fin 0 ⟨rfl, rfl⟩
      ·skip
       rw [if_neg hc13] at hF
       have hbhc13 : (decide (a0.Height ≤ 1024)) = false := decide_eq_false hc13
       refine lv (v := .bool false) rfl (r_mv rfl ((show opd _ _ _ = _ from rfl).trans (congrArg Value.bool hbhc13))) rfl ?_
       with_reducible refine lx (d := 32) (by kernel_rfl) (by kernel_rfl) ?_
       with_reducible refine lx (d := 33) (by kernel_rfl) (by kernel_rfl) ?_
       with_reducible refine lx (d := 34) (by kernel_rfl) (by kernel_rfl) ?_
       refine lv (v := .bool false) rfl (r_pkF rfl rfl rfl) rfl ?_
       refine lv (v := .bool false) rfl (r_mv rfl rfl) rfl ?_
       with_reducible refine lx (d := 37) (by kernel_rfl) (by kernel_rfl) ?_
       with_reducible refine lx (d := 38) (by kernel_rfl) (by kernel_rfl) ?_
       with_reducible refine lx (d := 39) (by kernel_rfl) (by kernel_rfl) ?_
       refine lv (v := .bool false) rfl (r_pkF rfl rfl rfl) rfl ?_
       refine lv (v := .bool false) rfl (r_mv rfl rfl) rfl ?_
       with_reducible refine lx (d := 42) (by kernel_rfl) (by kernel_rfl) ?_
       with_reducible refine lx (d := 43) (by kernel_rfl) (by kernel_rfl) ?_
       with_reducible refine lx (d := 44) (by kernel_rfl) (by kernel_rfl) ?_
       refine lv (v := .bool false) rfl (r_pkF rfl rfl rfl) rfl ?_
       refine lv (v := .bool false) rfl (r_mv rfl rfl) rfl ?_
       with_reducible refine lx (d := 47) (by kernel_rfl) (by kernel_rfl) ?_
       with_reducible refine lx (d := 48) (by kernel_rfl) (by kernel_rfl) ?_
       with_reducible refine lx (d := 49) (by kernel_rfl) (by kernel_rfl) ?_
       refine lv (v := .bool false) rfl (r_pkF rfl rfl rfl) rfl ?_
       refine lv (v := .bool false) rfl (r_as rfl rfl) rfl ?_
       refine wend ?_
       refine wthen ?_
       refine wren (fun ρ25 eρ25 => ?_)
       have h26 : opd ρ25 51 (.tmp 2) = .bool false := eρ25 2
       clear eρ25
       refine wp_ret ?_
       obtain rfl := Option.some.inj hF
       subst hB
       refine finR (rs := [.tmp 2]) (vs := [.bool false]) rfl ⟨h26, trivial⟩ ?_
       exact hI.fin 0 ⟨rfl, rfl⟩
     ·skip
      rw [if_neg hc12] at hF
      have hbhc12 : (decide ((1 : Int) ≤ a0.Height)) = false := decide_eq_false hc12
      refine lv (v := .bool false) rfl (r_mv rfl ((show opd _ _ _ = _ from rfl).trans (congrArg Value.bool hbhc12))) rfl ?_
      with_reducible refine lx (d := 27) (by kernel_rfl) (by kernel_rfl) ?_
      with_reducible refine lx (d := 28) (by kernel_rfl) (by kernel_rfl) ?_
      with_reducible refine lx (d := 29) (by kernel_rfl) (by kernel_rfl) ?_
      refine lv (v := .bool false) rfl (r_pkF rfl rfl rfl) rfl ?_
      refine lv (v := .bool false) rfl (r_mv rfl rfl) rfl ?_
      with_reducible refine lx (d := 32) (by kernel_rfl) (by kernel_rfl) ?_
      with_reducible refine lx (d := 33) (by kernel_rfl) (by kernel_rfl) ?_
      with_reducible refine lx (d := 34) (by kernel_rfl) (by kernel_rfl) ?_
      refine lv (v := .bool false) rfl (r_pkF rfl rfl rfl) rfl ?_
      refine lv (v := .bool false) rfl (r_mv rfl rfl) rfl ?_
      with_reducible refine lx (d := 37) (by kernel_rfl) (by kernel_rfl) ?_
      with_reducible refine lx (d := 38) (by kernel_rfl) (by kernel_rfl) ?_
      with_reducible refine lx (d := 39) (by kernel_rfl) (by kernel_rfl) ?_
      refine lv (v := .bool false) rfl (r_pkF rfl rfl rfl) rfl ?_
      refine lv (v := .bool false) rfl (r_mv rfl rfl) rfl ?_
      with_reducible refine lx (d := 42) (by kernel_rfl) (by kernel_rfl) ?_
      with_reducible refine lx (d := 43) (by kernel_rfl) (by kernel_rfl) ?_
      with_reducible refine lx (d := 44) (by kernel_rfl) (by kernel_rfl) ?_
      refine lv (v := .bool false) rfl (r_pkF rfl rfl rfl) rfl ?_
      refine lv (v := .bool false) rfl (r_mv rfl rfl) rfl ?_
      with_reducible refine lx (d := 47) (by kernel_rfl) (by kernel_rfl) ?_
      with_reducible refine lx (d := 48) (by kernel_rfl) (by kernel_rfl) ?_
      with_reducible refine lx (d := 49) (by kernel_rfl) (by kernel_rfl) ?_
      refine lv (v := .bool false) rfl (r_pkF rfl rfl rfl) rfl ?_
      refine lv (v := .bool false) rfl (r_as rfl rfl) rfl ?_
      refine wend ?_
      refine wthen ?_
      refine wren (fun ρ27 eρ27 => ?_)
      have h28 : opd ρ27 51 (.tmp 2) = .bool false := eρ27 2
      clear eρ27
      refine wp_ret ?_
      obtain rfl := Option.some.inj hF
      subst hB
      refine finR (rs := [.tmp 2]) (vs := [.bool false]) rfl ⟨h28, trivial⟩ ?_
      exact hI.fin 0 ⟨rfl, rfl⟩
    ·skip
     rw [if_neg hc11] at hF
     have hbhc11 : (decide (a0.Epoch ≤ 1073741824)) = false := decide_eq_false hc11
     refine lv (v := .bool false) rfl (r_mv rfl ((show opd _ _ _ = _ from rfl).trans (congrArg Value.bool hbhc11))) rfl ?_
     with_reducible refine lx (d := 22) (by kernel_rfl) (by kernel_rfl) ?_
     with_reducible refine lx (d := 23) (by kernel_rfl) (by kernel_rfl) ?_
     with_reducible refine lx (d := 24) (by kernel_rfl) (by kernel_rfl) ?_
     refine lv (v := .bool false) rfl (r_pkF rfl rfl rfl) rfl ?_
     refine lv (v := .bool false) rfl (r_mv rfl rfl) rfl ?_
     with_reducible refine lx (d := 27) (by kernel_rfl) (by kernel_rfl) ?_
     with_reducible refine lx (d := 28) (by kernel_rfl) (by kernel_rfl) ?_
     with_reducible refine lx (d := 29) (by kernel_rfl) (by kernel_rfl) ?_
     refine lv (v := .bool false) rfl (r_pkF rfl rfl rfl) rfl ?_
     refine lv (v := .bool false) rfl (r_mv rfl rfl) rfl ?_
     with_reducible refine lx (d := 32) (by kernel_rfl) (by kernel_rfl) ?_
     with_reducible refine lx (d := 33) (by kernel_rfl) (by kernel_rfl) ?_
     with_reducible refine lx (d := 34) (by kernel_rfl) (by kernel_rfl) ?_
     refine lv (v := .bool false) rfl (r_pkF rfl rfl rfl) rfl ?_
     refine lv (v := .bool false) rfl (r_mv rfl rfl) rfl ?_
     with_reducible refine lx (d := 37) (by kernel_rfl) (by kernel_rfl) ?_
     with_reducible refine lx (d := 38) (by kernel_rfl) (by kernel_rfl) ?_
     with_reducible refine lx (d := 39) (by kernel_rfl) (by kernel_rfl) ?_
     refine lv (v := .bool false) rfl (r_pkF rfl rfl rfl) rfl ?_
     refine lv (v := .bool false) rfl (r_mv rfl rfl) rfl ?_
     with_reducible refine lx (d := 42) (by kernel_rfl) (by kernel_rfl) ?_
     with_reducible refine lx (d := 43) (by kernel_rfl) (by kernel_rfl) ?_
     with_reducible refine lx (d := 44) (by kernel_rfl) (by kernel_rfl) ?_
     refine lv (v := .bool false) rfl (r_pkF rfl rfl rfl) rfl ?_
     refine lv (v := .bool false) rfl (r_mv rfl rfl) rfl ?_
     with_reducible refine lx (d := 47) (by kernel_rfl) (by kernel_rfl) ?_
     with_reducible refine lx (d := 48) (by kernel_rfl) (by kernel_rfl) ?_
     with_reducible refine lx (d := 49) (by kernel_rfl) (by kernel_rfl) ?_
     refine lv (v := .bool false) rfl (r_pkF rfl rfl rfl) rfl ?_
     refine lv (v := .bool false) rfl (r_as rfl rfl) rfl ?_
     refine wend ?_
     refine wthen ?_
     refine wren (fun ρ29 eρ29 => ?_)
     have h30 : opd ρ29 51 (.tmp 2) = .bool false := eρ29 2
     clear eρ29
     refine wp_ret ?_
     obtain rfl := Option.some.inj hF
     subst hB
     refine finR (rs := [.tmp 2]) (vs := [.bool false]) rfl ⟨h30, trivial⟩ ?_
     exact hI.fin 0 ⟨rfl, rfl⟩
   ·skip
    rw [if_neg hc10] at hF
    have hbhc10 : (decide ((0 : Int) ≤ a0.Epoch)) = false := decide_eq_false hc10
    refine lv (v := .bool false) rfl (r_mv rfl ((show opd _ _ _ = _ from rfl).trans (congrArg Value.bool hbhc10))) rfl ?_
    with_reducible refine lx (d := 17) (by kernel_rfl) (by kernel_rfl) ?_
    with_reducible refine lx (d := 18) (by kernel_rfl) (by kernel_rfl) ?_
    with_reducible refine lx (d := 19) (by kernel_rfl) (by kernel_rfl) ?_
    refine lv (v := .bool false) rfl (r_pkF rfl rfl rfl) rfl ?_
    refine lv (v := .bool false) rfl (r_mv rfl rfl) rfl ?_
    with_reducible refine lx (d := 22) (by kernel_rfl) (by kernel_rfl) ?_
    with_reducible refine lx (d := 23) (by kernel_rfl) (by kernel_rfl) ?_
    with_reducible refine lx (d := 24) (by kernel_rfl) (by kernel_rfl) ?_
    refine lv (v := .bool false) rfl (r_pkF rfl rfl rfl) rfl ?_
    refine lv (v := .bool false) rfl (r_mv rfl rfl) rfl ?_
    with_reducible refine lx (d := 27) (by kernel_rfl) (by kernel_rfl) ?_
    with_reducible refine lx (d := 28) (by kernel_rfl) (by kernel_rfl) ?_
    with_reducible refine lx (d := 29) (by kernel_rfl) (by kernel_rfl) ?_
    refine lv (v := .bool false) rfl (r_pkF rfl rfl rfl) rfl ?_
    refine lv (v := .bool false) rfl (r_mv rfl rfl) rfl ?_
    with_reducible refine lx (d := 32) (by kernel_rfl) (by kernel_rfl) ?_
    with_reducible refine lx (d := 33) (by kernel_rfl) (by kernel_rfl) ?_
    with_reducible refine lx (d := 34) (by kernel_rfl) (by kernel_rfl) ?_
    refine lv (v := .bool false) rfl (r_pkF rfl rfl rfl) rfl ?_
    refine lv (v := .bool false) rfl (r_mv rfl rfl) rfl ?_
    with_reducible refine lx (d := 37) (by kernel_rfl) (by kernel_rfl) ?_
    with_reducible refine lx (d := 38) (by kernel_rfl) (by kernel_rfl) ?_
    with_reducible refine lx (d := 39) (by kernel_rfl) (by kernel_rfl) ?_
    refine lv (v := .bool false) rfl (r_pkF rfl rfl rfl) rfl ?_
    refine lv (v := .bool false) rfl (r_mv rfl rfl) rfl ?_
    with_reducible refine lx (d := 42) (by kernel_rfl) (by kernel_rfl) ?_
    with_reducible refine lx (d := 43) (by kernel_rfl) (by kernel_rfl) ?_
    with_reducible refine lx (d := 44) (by kernel_rfl) (by kernel_rfl) ?_
    refine lv (v := .bool false) rfl (r_pkF rfl rfl rfl) rfl ?_
    refine lv (v := .bool false) rfl (r_mv rfl rfl) rfl ?_
    with_reducible refine lx (d := 47) (by kernel_rfl) (by kernel_rfl) ?_
    with_reducible refine lx (d := 48) (by kernel_rfl) (by kernel_rfl) ?_
    with_reducible refine lx (d := 49) (by kernel_rfl) (by kernel_rfl) ?_
    refine lv (v := .bool false) rfl (r_pkF rfl rfl rfl) rfl ?_
    refine lv (v := .bool false) rfl (r_as rfl rfl) rfl ?_
    refine wend ?_
    refine wthen ?_
    refine wren (fun ρ31 eρ31 => ?_)
    have h32 : opd ρ31 51 (.tmp 2) = .bool false := eρ31 2
    clear eρ31
    refine wp_ret ?_
    obtain rfl := Option.some.inj hF
    subst hB
    refine finR (rs := [.tmp 2]) (vs := [.bool false]) rfl ⟨h32, trivial⟩ ?_
    exact hI.fin 0 ⟨rfl, rfl⟩
  ·skip
   rw [if_neg hc9] at hF
   have hbhc9 : (decide (a0.Kind ≤ 2)) = false := decide_eq_false hc9
   refine lv (v := .bool false) rfl (r_mv rfl ((show opd _ _ _ = _ from rfl).trans (congrArg Value.bool hbhc9))) rfl ?_
   with_reducible refine lx (d := 12) (by kernel_rfl) (by kernel_rfl) ?_
   with_reducible refine lx (d := 13) (by kernel_rfl) (by kernel_rfl) ?_
   with_reducible refine lx (d := 14) (by kernel_rfl) (by kernel_rfl) ?_
   refine lv (v := .bool false) rfl (r_pkF rfl rfl rfl) rfl ?_
   refine lv (v := .bool false) rfl (r_mv rfl rfl) rfl ?_
   with_reducible refine lx (d := 17) (by kernel_rfl) (by kernel_rfl) ?_
   with_reducible refine lx (d := 18) (by kernel_rfl) (by kernel_rfl) ?_
   with_reducible refine lx (d := 19) (by kernel_rfl) (by kernel_rfl) ?_
   refine lv (v := .bool false) rfl (r_pkF rfl rfl rfl) rfl ?_
   refine lv (v := .bool false) rfl (r_mv rfl rfl) rfl ?_
   with_reducible refine lx (d := 22) (by kernel_rfl) (by kernel_rfl) ?_
   with_reducible refine lx (d := 23) (by kernel_rfl) (by kernel_rfl) ?_
   with_reducible refine lx (d := 24) (by kernel_rfl) (by kernel_rfl) ?_
   refine lv (v := .bool false) rfl (r_pkF rfl rfl rfl) rfl ?_
   refine lv (v := .bool false) rfl (r_mv rfl rfl) rfl ?_
   with_reducible refine lx (d := 27) (by kernel_rfl) (by kernel_rfl) ?_
   with_reducible refine lx (d := 28) (by kernel_rfl) (by kernel_rfl) ?_
   with_reducible refine lx (d := 29) (by kernel_rfl) (by kernel_rfl) ?_
   refine lv (v := .bool false) rfl (r_pkF rfl rfl rfl) rfl ?_
   refine lv (v := .bool false) rfl (r_mv rfl rfl) rfl ?_
   with_reducible refine lx (d := 32) (by kernel_rfl) (by kernel_rfl) ?_
   with_reducible refine lx (d := 33) (by kernel_rfl) (by kernel_rfl) ?_
   with_reducible refine lx (d := 34) (by kernel_rfl) (by kernel_rfl) ?_
   refine lv (v := .bool false) rfl (r_pkF rfl rfl rfl) rfl ?_
   refine lv (v := .bool false) rfl (r_mv rfl rfl) rfl ?_
   with_reducible refine lx (d := 37) (by kernel_rfl) (by kernel_rfl) ?_
   with_reducible refine lx (d := 38) (by kernel_rfl) (by kernel_rfl) ?_
   with_reducible refine lx (d := 39) (by kernel_rfl) (by kernel_rfl) ?_
   refine lv (v := .bool false) rfl (r_pkF rfl rfl rfl) rfl ?_
   refine lv (v := .bool false) rfl (r_mv rfl rfl) rfl ?_
   with_reducible refine lx (d := 42) (by kernel_rfl) (by kernel_rfl) ?_
   with_reducible refine lx (d := 43) (by kernel_rfl) (by kernel_rfl) ?_
   with_reducible refine lx (d := 44) (by kernel_rfl) (by kernel_rfl) ?_
   refine lv (v := .bool false) rfl (r_pkF rfl rfl rfl) rfl ?_
   refine lv (v := .bool false) rfl (r_mv rfl rfl) rfl ?_
   with_reducible refine lx (d := 47) (by kernel_rfl) (by kernel_rfl) ?_
   with_reducible refine lx (d := 48) (by kernel_rfl) (by kernel_rfl) ?_
   with_reducible refine lx (d := 49) (by kernel_rfl) (by kernel_rfl) ?_
   refine lv (v := .bool false) rfl (r_pkF rfl rfl rfl) rfl ?_
   refine lv (v := .bool false) rfl (r_as rfl rfl) rfl ?_
   refine wend ?_
   refine wthen ?_
   refine wren (fun ρ33 eρ33 => ?_)
   have h34 : opd ρ33 51 (.tmp 2) = .bool false := eρ33 2
   clear eρ33
   refine wp_ret ?_
   obtain rfl := Option.some.inj hF
   subst hB
   refine finR (rs := [.tmp 2]) (vs := [.bool false]) rfl ⟨h34, trivial⟩ ?_
   exact hI.fin 0 ⟨rfl, rfl⟩
 ·skip
  rw [if_neg hc8] at hF
  have hbhc8 : (decide ((1 : Int) ≤ a0.Kind)) = false := decide_eq_false hc8
  refine lv (v := .bool false) rfl (r_mv rfl ((show opd _ _ _ = _ from rfl).trans (congrArg Value.bool hbhc8))) rfl ?_
  with_reducible refine lx (d := 7) (by kernel_rfl) (by kernel_rfl) ?_
  with_reducible refine lx (d := 8) (by kernel_rfl) (by kernel_rfl) ?_
  with_reducible refine lx (d := 9) (by kernel_rfl) (by kernel_rfl) ?_
  refine lv (v := .bool false) rfl (r_pkF rfl rfl rfl) rfl ?_
  refine lv (v := .bool false) rfl (r_mv rfl rfl) rfl ?_
  with_reducible refine lx (d := 12) (by kernel_rfl) (by kernel_rfl) ?_
  with_reducible refine lx (d := 13) (by kernel_rfl) (by kernel_rfl) ?_
  with_reducible refine lx (d := 14) (by kernel_rfl) (by kernel_rfl) ?_
  refine lv (v := .bool false) rfl (r_pkF rfl rfl rfl) rfl ?_
  refine lv (v := .bool false) rfl (r_mv rfl rfl) rfl ?_
  with_reducible refine lx (d := 17) (by kernel_rfl) (by kernel_rfl) ?_
  with_reducible refine lx (d := 18) (by kernel_rfl) (by kernel_rfl) ?_
  with_reducible refine lx (d := 19) (by kernel_rfl) (by kernel_rfl) ?_
  refine lv (v := .bool false) rfl (r_pkF rfl rfl rfl) rfl ?_
  refine lv (v := .bool false) rfl (r_mv rfl rfl) rfl ?_
  with_reducible refine lx (d := 22) (by kernel_rfl) (by kernel_rfl) ?_
  with_reducible refine lx (d := 23) (by kernel_rfl) (by kernel_rfl) ?_
  with_reducible refine lx (d := 24) (by kernel_rfl) (by kernel_rfl) ?_
  refine lv (v := .bool false) rfl (r_pkF rfl rfl rfl) rfl ?_
  refine lv (v := .bool false) rfl (r_mv rfl rfl) rfl ?_
  with_reducible refine lx (d := 27) (by kernel_rfl) (by kernel_rfl) ?_
  with_reducible refine lx (d := 28) (by kernel_rfl) (by kernel_rfl) ?_
  with_reducible refine lx (d := 29) (by kernel_rfl) (by kernel_rfl) ?_
  refine lv (v := .bool false) rfl (r_pkF rfl rfl rfl) rfl ?_
  refine lv (v := .bool false) rfl (r_mv rfl rfl) rfl ?_
  with_reducible refine lx (d := 32) (by kernel_rfl) (by kernel_rfl) ?_
  with_reducible refine lx (d := 33) (by kernel_rfl) (by kernel_rfl) ?_
  with_reducible refine lx (d := 34) (by kernel_rfl) (by kernel_rfl) ?_
  refine lv (v := .bool false) rfl (r_pkF rfl rfl rfl) rfl ?_
  refine lv (v := .bool false) rfl (r_mv rfl rfl) rfl ?_
  with_reducible refine lx (d := 37) (by kernel_rfl) (by kernel_rfl) ?_
  with_reducible refine lx (d := 38) (by kernel_rfl) (by kernel_rfl) ?_
  with_reducible refine lx (d := 39) (by kernel_rfl) (by kernel_rfl) ?_
  refine lv (v := .bool false) rfl (r_pkF rfl rfl rfl) rfl ?_
  refine lv (v := .bool false) rfl (r_mv rfl rfl) rfl ?_
  with_reducible refine lx (d := 42) (by kernel_rfl) (by kernel_rfl) ?_
  with_reducible refine lx (d := 43) (by kernel_rfl) (by kernel_rfl) ?_
  with_reducible refine lx (d := 44) (by kernel_rfl) (by kernel_rfl) ?_
  refine lv (v := .bool false) rfl (r_pkF rfl rfl rfl) rfl ?_
  refine lv (v := .bool false) rfl (r_mv rfl rfl) rfl ?_
  with_reducible refine lx (d := 47) (by kernel_rfl) (by kernel_rfl) ?_
  with_reducible refine lx (d := 48) (by kernel_rfl) (by kernel_rfl) ?_
  with_reducible refine lx (d := 49) (by kernel_rfl) (by kernel_rfl) ?_
  refine lv (v := .bool false) rfl (r_pkF rfl rfl rfl) rfl ?_
  refine lv (v := .bool false) rfl (r_as rfl rfl) rfl ?_
  refine wend ?_
  refine wthen ?_
  refine wren (fun ρ35 eρ35 => ?_)
  have h36 : opd ρ35 51 (.tmp 2) = .bool false := eρ35 2
  clear eρ35
  refine wp_ret ?_
  obtain rfl := Option.some.inj hF
  subst hB
  refine finR (rs := [.tmp 2]) (vs := [.bool false]) rfl ⟨h36, trivial⟩ ?_
  exact hI.fin 0 ⟨rfl, rfl⟩
noncomputable def M_sha_word (a0 : List UInt8) : Option (UInt32) := ((a0[0]?).bind fun x5 => ((a0[1]?).bind fun x11 => ((a0[2]?).bind fun x17 => ((a0[3]?).bind fun x23 => some ((((shlW (u32I (x5.toNat : Int)) 24) ||| (shlW (u32I (x11.toNat : Int)) 16)) ||| (shlW (u32I (x17.toNat : Int)) 8)) ||| (u32I (x23.toNat : Int)))))))
set_option maxHeartbeats 1000000 in
theorem spec_168 {w : World} {H : Hp} {a0 : List UInt8} {s1 : Sv} {r : UInt32} (hF : M_sha_word a0 = some r) (hT : Tab H) (hG : Good w H []) (hs1 : Sl (Fl.ty flB) H s1 a0) :
  Fine Tryd.prog 168 [s1.v] w H [] (fun H' v L' => v = u32v r ∧ L' = []) := by
 unfold M_sha_word at hF
 unfold Fine
 obtain ⟨B, hB⟩ : ∃ B : Base, B = ⟨w, H, blks []⟩ := ⟨_, rfl⟩
 have hI : Inv B w H [] := by rw [hB]; exact Inv.start hG
 refine enter (n := 25) (args := [s1.v]) Tryd.func168 rfl Tryd.ntmps168 (Nat.le_of_ble_eq_true rfl) ?_
 refine wseq ?_
 refine wreg ?_
 refine lv (v := u32v 0) rfl (r_as rfl rfl) rfl ?_
 refine wend ?_
 refine wthen ?_
 refine wren (fun ρ2 eρ2 => ?_)
 have h3 : opd ρ2 25 (.tmp 0) = s1.v := eρ2 0
 clear eρ2
 refine wseq ?_
 refine dstG (H0 := H) (L0 := keepL [] []) [] mixed rfl (by repeat (first | exact Pan.body | refine Pan.then ?_ | refine Pan.inBlock ?_ | refine Pan.noGoto ?_ | refine Pan.pure ?_)) hI (hI.good.weakm _ (Hle.refl _) rfl) ?_
 intro w4 hI hP
 refine dp (v := s1.v) 0 (by kernel_rfl) rfl rfl (fun _ => r_mv rfl h3) rfl hP ?_
 obtain ⟨x5, hx5, hF⟩ := Option.bind_eq_some_iff.1 hF
 obtain ⟨b6, j7, hix8, hil9, hA10⟩ := hs1.ixf hx5
 replace hA10 : At H b6 j7 [ckB x5] := hA10
 refine dp (v := .pointer (some ⟨b6, j7 + 0, none⟩)) 1 (by kernel_rfl) rfl rfl (fun _ => r_ixt rfl sl158 rfl rfl rfl hix8 hil9) rfl hP ?_
 refine dp (v := s1.v) 5 (by kernel_rfl) rfl rfl (fun _ => r_mv rfl h3) rfl hP ?_
 obtain ⟨x11, hx11, hF⟩ := Option.bind_eq_some_iff.1 hF
 obtain ⟨b12, j13, hix14, hil15, hA16⟩ := hs1.ixf hx11
 replace hA16 : At H b12 j13 [ckB x11] := hA16
 refine dp (v := .pointer (some ⟨b12, j13 + 0, none⟩)) 6 (by kernel_rfl) rfl rfl (fun _ => r_ixt rfl sl158 rfl rfl rfl hix14 hil15) rfl hP ?_
 refine dp (v := s1.v) 11 (by kernel_rfl) rfl rfl (fun _ => r_mv rfl h3) rfl hP ?_
 obtain ⟨x17, hx17, hF⟩ := Option.bind_eq_some_iff.1 hF
 obtain ⟨b18, j19, hix20, hil21, hA22⟩ := hs1.ixf hx17
 replace hA22 : At H b18 j19 [ckB x17] := hA22
 refine dp (v := .pointer (some ⟨b18, j19 + 0, none⟩)) 12 (by kernel_rfl) rfl rfl (fun _ => r_ixt rfl sl158 rfl rfl rfl hix20 hil21) rfl hP ?_
 refine dp (v := s1.v) 17 (by kernel_rfl) rfl rfl (fun _ => r_mv rfl h3) rfl hP ?_
 obtain ⟨x23, hx23, hF⟩ := Option.bind_eq_some_iff.1 hF
 obtain ⟨b24, j25, hix26, hil27, hA28⟩ := hs1.ixf hx23
 replace hA28 : At H b24 j25 [ckB x23] := hA28
 refine dp (v := .pointer (some ⟨b24, j25 + 0, none⟩)) 18 (by kernel_rfl) rfl rfl (fun _ => r_ixt rfl sl158 rfl rfl rfl hix26 hil27) rfl hP ?_
 refine dr (v := bv x5) 2 (by kernel_rfl) rfl rfl (hI.good.weakm [] (Hle.refl _) rfl) (fun _ hG => r_cl1 (off := 0) (p := 0) (hA10.ca hG) rfl sc5 rfl rfl rfl) rfl hP ?_
 refine dp (v := u32v (u32I (x5.toNat : Int))) 3 (by kernel_rfl) rfl rfl (fun _ => c_u32 rfl un5 un229 rfl) rfl hP ?_
 refine dp (v := u32v (shlW (u32I (x5.toNat : Int)) 24)) 4 (by kernel_rfl) rfl rfl (fun _ => q_shlW (b := 24) rfl rfl rfl (by decide)) rfl hP ?_
 refine dr (v := bv x11) 7 (by kernel_rfl) rfl rfl (hI.good.weakm [] (Hle.refl _) rfl) (fun _ hG => r_cl1 (off := 0) (p := 0) (hA16.ca hG) rfl sc5 rfl rfl rfl) rfl hP ?_
 refine dp (v := u32v (u32I (x11.toNat : Int))) 8 (by kernel_rfl) rfl rfl (fun _ => c_u32 rfl un5 un229 rfl) rfl hP ?_
 refine dp (v := u32v (shlW (u32I (x11.toNat : Int)) 16)) 9 (by kernel_rfl) rfl rfl (fun _ => q_shlW (b := 16) rfl rfl rfl (by decide)) rfl hP ?_
 refine dp (v := u32v ((shlW (u32I (x5.toNat : Int)) 24) ||| (shlW (u32I (x11.toNat : Int)) 16))) 10 (by kernel_rfl) rfl rfl (fun _ => q_or rfl rfl rfl) rfl hP ?_
 refine dr (v := bv x17) 13 (by kernel_rfl) rfl rfl (hI.good.weakm [] (Hle.refl _) rfl) (fun _ hG => r_cl1 (off := 0) (p := 0) (hA22.ca hG) rfl sc5 rfl rfl rfl) rfl hP ?_
 refine dp (v := u32v (u32I (x17.toNat : Int))) 14 (by kernel_rfl) rfl rfl (fun _ => c_u32 rfl un5 un229 rfl) rfl hP ?_
 refine dp (v := u32v (shlW (u32I (x17.toNat : Int)) 8)) 15 (by kernel_rfl) rfl rfl (fun _ => q_shlW (b := 8) rfl rfl rfl (by decide)) rfl hP ?_
 refine dp (v := u32v (((shlW (u32I (x5.toNat : Int)) 24) ||| (shlW (u32I (x11.toNat : Int)) 16)) ||| (shlW (u32I (x17.toNat : Int)) 8))) 16 (by kernel_rfl) rfl rfl (fun _ => q_or rfl rfl rfl) rfl hP ?_
 refine dr (v := bv x23) 19 (by kernel_rfl) rfl rfl (hI.good.weakm [] (Hle.refl _) rfl) (fun _ hG => r_cl1 (off := 0) (p := 0) (hA28.ca hG) rfl sc5 rfl rfl rfl) rfl hP ?_
 refine dp (v := u32v (u32I (x23.toNat : Int))) 20 (by kernel_rfl) rfl rfl (fun _ => c_u32 rfl un5 un229 rfl) rfl hP ?_
 refine dp (v := u32v ((((shlW (u32I (x5.toNat : Int)) 24) ||| (shlW (u32I (x11.toNat : Int)) 16)) ||| (shlW (u32I (x17.toNat : Int)) 8)) ||| (u32I (x23.toNat : Int)))) 21 (by kernel_rfl) rfl rfl (fun _ => q_or rfl rfl rfl) rfl hP ?_
 refine dp (v := u32v ((((shlW (u32I (x5.toNat : Int)) 24) ||| (shlW (u32I (x11.toNat : Int)) 16)) ||| (shlW (u32I (x17.toNat : Int)) 8)) ||| (u32I (x23.toNat : Int)))) 22 (by kernel_rfl) rfl rfl (fun _ => r_as rfl rfl) rfl hP ?_
 refine dend (by kernel_rfl) ?_
 refine wthen ?_
 refine wren (fun ρ29 eρ29 => ?_)
 have h30 : opd ρ29 25 (.tmp 2) = u32v ((((shlW (u32I (x5.toNat : Int)) 24) ||| (shlW (u32I (x11.toNat : Int)) 16)) ||| (shlW (u32I (x17.toNat : Int)) 8)) ||| (u32I (x23.toNat : Int))) := eρ29 2
 clear eρ29
 refine wp_ret ?_
 obtain rfl := Option.some.inj hF
 subst hB
 refine finR (rs := [.tmp 2]) (vs := [u32v ((((shlW (u32I (x5.toNat : Int)) 24) ||| (shlW (u32I (x11.toNat : Int)) 16)) ||| (shlW (u32I (x17.toNat : Int)) 8)) ||| (u32I (x23.toNat : Int)))]) rfl ⟨h30, trivial⟩ ?_
 exact hI.fin 0 ⟨rfl, rfl⟩
noncomputable def M_math_bits_RotateLeft32 (a0 : UInt32) (a1 : Int) : Option (UInt32) := some ((shlW a0 (((u64I a1) &&& 31).toNat : Int)) ||| (shrW a0 ((32 - ((u64I a1) &&& 31)).toNat : Int)))
set_option maxHeartbeats 1000000 in
theorem spec_169 {w : World} {H : Hp} {a0 : UInt32} {a1 : Int}  {r : UInt32} (hF : M_math_bits_RotateLeft32 a0 a1 = some r) (hT : Tab H) (hG : Good w H [])  :
  Fine Tryd.prog 169 [u32v a0, .int .i64 a1] w H [] (fun H' v L' => v = u32v r ∧ L' = []) := by
 unfold M_math_bits_RotateLeft32 at hF
 unfold Fine
 obtain ⟨B, hB⟩ : ∃ B : Base, B = ⟨w, H, blks []⟩ := ⟨_, rfl⟩
 have hI : Inv B w H [] := by rw [hB]; exact Inv.start hG
 refine enter (n := 17) (args := [u32v a0, .int .i64 a1]) Tryd.func169 rfl Tryd.ntmps169 (Nat.le_of_ble_eq_true rfl) ?_
 refine wseq ?_
 refine wreg ?_
 refine lv (v := u32v 0) rfl (r_as rfl rfl) rfl ?_
 refine wend ?_
 refine wthen ?_
 refine wren (fun ρ1 eρ1 => ?_)
 have h2 : opd ρ1 17 (.tmp 0) = u32v a0 := eρ1 0
 have h3 : opd ρ1 17 (.tmp 1) = .int .i64 a1 := eρ1 1
 clear eρ1
 refine wseq ?_
 refine wreg ?_
 refine lv (v := .int .i64 a1) rfl (r_mv rfl h3) rfl ?_
 refine lv (v := u64v (u64I a1)) rfl (c_u64 rfl un3 un102 rfl) rfl ?_
 refine lv (v := u64v ((u64I a1) &&& 31)) rfl (q_and64 rfl rfl rfl) rfl ?_
 refine lv (v := u64v ((u64I a1) &&& 31)) rfl (r_as rfl rfl) rfl ?_
 refine wend ?_
 refine wthen ?_
 refine wren (fun ρ4 eρ4 => ?_)
 have h5 : opd ρ4 17 (.tmp 0) = u32v a0 := (eρ4 0).trans h2
 have h6 : opd ρ4 17 (.tmp 5) = u64v ((u64I a1) &&& 31) := eρ4 5
 clear eρ4
 refine wseq ?_
 refine wreg ?_
 refine lv (v := u32v a0) rfl (r_mv rfl h5) rfl ?_
 refine lv (v := u64v ((u64I a1) &&& 31)) rfl (r_mv rfl h6) rfl ?_
 refine lv (v := u32v (shlW a0 (((u64I a1) &&& 31).toNat : Int))) rfl (q_shlW (b := (((u64I a1) &&& 31).toNat : Int)) rfl rfl rfl (by omega)) rfl ?_
 refine lv (v := u32v a0) rfl (r_mv rfl h5) rfl ?_
 refine lv (v := u64v ((u64I a1) &&& 31)) rfl (r_mv rfl h6) rfl ?_
 refine lv (v := u64v (32 - ((u64I a1) &&& 31))) rfl (q_sub64 rfl rfl rfl) rfl ?_
 refine lv (v := u32v (shrW a0 ((32 - ((u64I a1) &&& 31)).toNat : Int))) rfl (q_shrW (b := ((32 - ((u64I a1) &&& 31)).toNat : Int)) rfl rfl rfl (by omega)) rfl ?_
 refine lv (v := u32v ((shlW a0 (((u64I a1) &&& 31).toNat : Int)) ||| (shrW a0 ((32 - ((u64I a1) &&& 31)).toNat : Int)))) rfl (q_or rfl rfl rfl) rfl ?_
 refine lv (v := u32v ((shlW a0 (((u64I a1) &&& 31).toNat : Int)) ||| (shrW a0 ((32 - ((u64I a1) &&& 31)).toNat : Int)))) rfl (r_as rfl rfl) rfl ?_
 refine wend ?_
 refine wthen ?_
 refine wren (fun ρ7 eρ7 => ?_)
 have h8 : opd ρ7 17 (.tmp 4) = u32v ((shlW a0 (((u64I a1) &&& 31).toNat : Int)) ||| (shrW a0 ((32 - ((u64I a1) &&& 31)).toNat : Int))) := eρ7 4
 clear eρ7
 refine wp_ret ?_
 obtain rfl := Option.some.inj hF
 subst hB
 refine finR (rs := [.tmp 4]) (vs := [u32v ((shlW a0 (((u64I a1) &&& 31).toNat : Int)) ||| (shrW a0 ((32 - ((u64I a1) &&& 31)).toNat : Int)))]) rfl ⟨h8, trivial⟩ ?_
 exact hI.fin 0 ⟨rfl, rfl⟩
noncomputable def M_sha_state_block (a0 : Vec UInt32 8) (a1 : List UInt8) : Option ((Vec UInt32 8)) := ((forK (fun (i13 : Nat) (σ13 : (Vec UInt32 64)) => (((cutI a1 (wI ((4 : Int) * (i13 : Int))) (a1.length : Int)).bind fun x91 => ((M_sha_word x91).bind fun x93 => ((σ13.l[i13]?).bind fun x97 => some (.inl (Vec.set σ13 i13 x93))))) : Option ((Vec UInt32 64) ⊕ (Vec UInt32 8)))) 16 0 (Vec.rep 64 0)).bind fun y => match y with | .inl σ13 => (runL (fun (σ112 : Int × (Vec UInt32 64)) => ((if σ112.1 < 64 then ((ixI σ112.2.l (wI (σ112.1 - 15))).bind fun x242 => ((ixI σ112.2.l (wI (σ112.1 - 2))).bind fun x244 => ((M_math_bits_RotateLeft32 x242 (-7)).bind fun x252 => ((M_math_bits_RotateLeft32 x242 (-18)).bind fun x256 => ((M_math_bits_RotateLeft32 x244 (-17)).bind fun x266 => ((M_math_bits_RotateLeft32 x244 (-19)).bind fun x270 => ((ixI σ112.2.l (wI (σ112.1 - 16))).bind fun x281 => ((ixI σ112.2.l (wI (σ112.1 - 7))).bind fun x283 => ((ixI σ112.2.l σ112.1).bind fun x285 => some (.inl (wI (σ112.1 + 1), (Vec.set σ112.2 ((σ112.1 : Int).toNat) (((x281 + ((x252 ^^^ x256) ^^^ (shrW x242 3))) + x283) + ((x266 ^^^ x270) ^^^ (shrW x244 10))))))))))))))) else ((((a0.l[0]?).bind fun x294 => ((a0.l[1]?).bind fun x296 => ((a0.l[2]?).bind fun x298 => ((a0.l[3]?).bind fun x300 => ((a0.l[4]?).bind fun x302 => ((a0.l[5]?).bind fun x304 => ((a0.l[6]?).bind fun x306 => ((a0.l[7]?).bind fun x308 => ((forK (fun (i333 : Nat) (σ333 : UInt32 × UInt32 × UInt32 × UInt32 × UInt32 × UInt32 × UInt32 × UInt32) => (((σ112.2.l[i333]?).bind fun x605 => ((M_math_bits_RotateLeft32 σ333.2.2.2.2.1 (-6)).bind fun x620 => ((M_math_bits_RotateLeft32 σ333.2.2.2.2.1 (-11)).bind fun x624 => ((M_math_bits_RotateLeft32 σ333.2.2.2.2.1 (-25)).bind fun x628 => ((shaVec.l[i333]?).bind fun x647 => ((M_math_bits_RotateLeft32 σ333.1 (-2)).bind fun x661 => ((M_math_bits_RotateLeft32 σ333.1 (-13)).bind fun x665 => ((M_math_bits_RotateLeft32 σ333.1 (-22)).bind fun x669 => some (.inl ((((((σ333.2.2.2.2.2.2.2 + ((x620 ^^^ x624) ^^^ x628)) + ((σ333.2.2.2.2.1 &&& σ333.2.2.2.2.2.1) ^^^ ((~~~σ333.2.2.2.2.1) &&& σ333.2.2.2.2.2.2.1))) + x647) + x605) + (((x661 ^^^ x665) ^^^ x669) + (((σ333.1 &&& σ333.2.1) ^^^ (σ333.1 &&& σ333.2.2.1)) ^^^ (σ333.2.1 &&& σ333.2.2.1)))), σ333.1, σ333.2.1, σ333.2.2.1, (σ333.2.2.2.1 + ((((σ333.2.2.2.2.2.2.2 + ((x620 ^^^ x624) ^^^ x628)) + ((σ333.2.2.2.2.1 &&& σ333.2.2.2.2.2.1) ^^^ ((~~~σ333.2.2.2.2.1) &&& σ333.2.2.2.2.2.2.1))) + x647) + x605)), σ333.2.2.2.2.1, σ333.2.2.2.2.2.1, σ333.2.2.2.2.2.2.1)))))))))) : Option ((UInt32 × UInt32 × UInt32 × UInt32 × UInt32 × UInt32 × UInt32 × UInt32) ⊕ (Vec UInt32 8)))) 64 0 (x294, x296, x298, x300, x302, x304, x306, x308)).bind fun y => match y with | .inl σ333 => ((forK (fun (i725 : Nat) (σ725 : (Vec UInt32 8)) => ((((⟨[σ333.1, σ333.2.1, σ333.2.2.1, σ333.2.2.2.1, σ333.2.2.2.2.1, σ333.2.2.2.2.2.1, σ333.2.2.2.2.2.2.1, σ333.2.2.2.2.2.2.2], rfl⟩ : Vec UInt32 8).l[i725]?).bind fun x787 => ((σ725.l[i725]?).bind fun x795 => ((σ725.l[i725]?).bind fun x797 => some (.inl (Vec.set σ725 i725 (x795 + x787)))))) : Option ((Vec UInt32 8) ⊕ (Vec UInt32 8)))) 8 0 a0).bind fun y => match y with | .inl σ725 => some σ725 | .inr r => some r) | .inr r => some r)))))))))).map Sum.inr)) : Option ((Int × (Vec UInt32 64)) ⊕ (Vec UInt32 8)))) (16, σ13)) | .inr r => some r)
set_option maxHeartbeats 4000000 in
theorem spec_145 {w : World} {H : Hp} {a0 : Vec UInt32 8} {a1 : List UInt8} {g_0 : Nat} {s1 : Sv} {r : (Vec UInt32 8)} (hF : M_sha_state_block a0 a1 = some r) (hT : Tab H) (hG : Good w H [.cb g_0 [ckV flW a0] 231]) (hs1 : Sl (Fl.ty flB) H s1 a1) :
  Fine Tryd.prog 145 [.pointer (some ⟨g_0, 0, none⟩), s1.v] w H [.cb g_0 [ckV flW a0] 231] (fun H' v L' => v = .tuple #[] ∧ L' = [.cb g_0 [ckV flW r] 231]) := by
 unfold M_sha_state_block at hF
 unfold Fine
 obtain ⟨B, hB⟩ : ∃ B : Base, B = ⟨w, H, blks [.cb g_0 [ckV flW a0] 231]⟩ := ⟨_, rfl⟩
 have hI : Inv B w H [.cb g_0 [ckV flW a0] 231] := by rw [hB]; exact Inv.start hG
 refine enter (n := 200) (args := [.pointer (some ⟨g_0, 0, none⟩), s1.v]) Tryd.func145 rfl Tryd.ntmps145 (Nat.le_of_ble_eq_true rfl) ?_
 refine wseq ?_
 refine wreg ?_
 refine le rfl (l_al hI rfl ze237) rfl ?_
 rintro _ w3 ⟨g2, rfl, hI⟩
 replace hI : Inv B w3 H [.cb g_0 [ckV flW a0] 231, .cb g2 [ckV flW (Vec.rep 64 0)] 237] := hI
 refine wend ?_
 refine wthen ?_
 refine wren (fun ρ4 eρ4 => ?_)
 have h5 : opd ρ4 200 (.tmp 0) = .pointer (some ⟨g_0, 0 + 0, none⟩) := eρ4 0
 have h6 : opd ρ4 200 (.tmp 1) = s1.v := eρ4 1
 have h7 : opd ρ4 200 (.tmp 4) = .pointer (some ⟨g2, 0 + 0, none⟩) := eρ4 4
 clear eρ4
 refine wseq ?_
 refine wseq ?_
 refine wreg ?_
 refine lv (v := .int .i64 0) rfl (r_mv rfl rfl) rfl ?_
 refine wend ?_
 refine wthen ?_
 refine wren (fun ρ8 eρ8 => ?_)
 have h9 : opd ρ8 200 (.tmp 0) = .pointer (some ⟨g_0, 0 + 0, none⟩) := (eρ8 0).trans h5
 have h10 : opd ρ8 200 (.tmp 1) = s1.v := (eρ8 1).trans h6
 have h11 : opd ρ8 200 (.tmp 4) = .pointer (some ⟨g2, 0 + 0, none⟩) := (eρ8 4).trans h7
 have h12 : opd ρ8 200 (.tmp 26) = .int .i64 0 := eρ8 26
 clear eρ8
 refine wp_block ?_
 obtain ⟨y13, hy13, hF13⟩ := Option.bind_eq_some_iff.1 hF
 refine wfor (n := 200) 16 _ (fun (i13 : Nat) (σ13 : (Vec UInt32 64)) ρ' w' => ∃ (H72 : Hp), Hle H H72 ∧ opd ρ' 200 (.tmp 0) = .pointer (some ⟨g_0, 0 + 0, none⟩) ∧ opd ρ' 200 (.tmp 1) = s1.v ∧ opd ρ' 200 (.tmp 4) = .pointer (some ⟨g2, 0 + 0, none⟩) ∧ opd ρ' 200 (.tmp 26) = .int .i64 (i13 : Int) ∧ Inv B w' H72 [.cb g_0 [ckV flW a0] 231, .cb g2 [ckV flW σ13] 237]) hy13 ⟨H, (Hle.refl _), h9, h10, h11, h12, hI⟩ ?_
 rintro k13 i13 σ13 ρ77 w78 hk13 ⟨H72, hleH72, h73, h74, h75, h76, hI⟩ hy13
 refine wseq ?_
 refine wreg ?_
 refine lv (v := .bool (decide ((i13 : Int) < 16))) rfl (r_lss rfl h76 rfl rfl) rfl ?_
 refine wend ?_
 refine wthen ?_
 refine wseq ?_
 by_cases hc79 : (i13 : Int) < 16
 ·skip
  have hbhc79 : (decide ((i13 : Int) < 16)) = true := decide_eq_true hc79
  obtain ⟨k13, rfl⟩ : ∃ m, k13 = m + 1 := ⟨k13 - 1, by omega⟩
  obtain ⟨z13, hb13⟩ := forK_body hy13
  have hF := hb13
  have hlt13 : ((i13 : Nat) : Int) + 1 ≤ 9223372036854775807 := by omega
  refine wcT ((show opd _ _ _ = _ from rfl).trans (congrArg Value.bool hbhc79)) ?_
  refine wp_skip ?_
  refine wthen ?_
  refine wren (fun ρ80 eρ80 => ?_)
  have h81 : opd ρ80 200 (.tmp 0) = .pointer (some ⟨g_0, 0 + 0, none⟩) := (eρ80 0).trans h73
  have h82 : opd ρ80 200 (.tmp 1) = s1.v := (eρ80 1).trans h74
  have h83 : opd ρ80 200 (.tmp 4) = .pointer (some ⟨g2, 0 + 0, none⟩) := (eρ80 4).trans h75
  have h84 : opd ρ80 200 (.tmp 26) = .int .i64 (i13 : Int) := (eρ80 26).trans h76
  clear eρ80
  refine wseq ?_
  refine wp_block ?_
  refine wseq ?_
  refine wreg ?_
  refine lv (v := .int .i64 (i13 : Int)) rfl (r_mv rfl h84) rfl ?_
  refine lv (v := .int .i64 (i13 : Int)) rfl (r_as rfl rfl) rfl ?_
  refine wend ?_
  refine wthen ?_
  refine wren (fun ρ85 eρ85 => ?_)
  have h86 : opd ρ85 200 (.tmp 0) = .pointer (some ⟨g_0, 0 + 0, none⟩) := (eρ85 0).trans h81
  have h87 : opd ρ85 200 (.tmp 1) = s1.v := (eρ85 1).trans h82
  have h88 : opd ρ85 200 (.tmp 4) = .pointer (some ⟨g2, 0 + 0, none⟩) := (eρ85 4).trans h83
  have h89 : opd ρ85 200 (.tmp 5) = .int .i64 (i13 : Int) := eρ85 5
  have h90 : opd ρ85 200 (.tmp 26) = .int .i64 (i13 : Int) := (eρ85 26).trans h84
  clear eρ85
  refine wreg ?_
  refine lv (v := .int .i64 (i13 : Int)) rfl (r_mv rfl h89) rfl ?_
  refine lv (v := s1.v) rfl (r_mv rfl h87) rfl ?_
  refine lv (v := .int .i64 (i13 : Int)) rfl (r_mv rfl h89) rfl ?_
  refine lv (v := .int .i64 (wI ((4 : Int) * (i13 : Int)))) rfl (r_mulw rfl rfl rfl) rfl ?_
  obtain ⟨x91, hx91, hF⟩ := Option.bind_eq_some_iff.1 hF
  obtain ⟨s92, es92⟩ : ∃ z : Sv, z = s1.cut (wI ((4 : Int) * (i13 : Int)) : Int).toNat s1.n 1 := ⟨_, rfl⟩
  have es92' : s92 = s1.cut (wI ((4 : Int) * (i13 : Int)) : Int).toNat (a1.length : Int).toNat 1 := by rw [es92, (hs1.mono hleH72).n, (Int.toNat_natCast _ : (a1.length : Int).toNat = _)]
  have hs92 := Sl.cutI (hs1.mono hleH72) hx91 es92'
  refine lv (v := s92.v) rfl (s_sll rfl sl158 rfl rfl (hs1.mono hleH72) hx91 es92) rfl ?_
  obtain ⟨x93, hx93, hF⟩ := Option.bind_eq_some_iff.1 hF
  have hsp96 := spec_168 hx93 (hT.mono hleH72) (hI.part 0) hs92
  refine fc ([]) ([.cb g_0 [ckV flW a0] 231, .cb g2 [ckV flW σ13] 237]) (args := [s92.v]) fc168 rfl rfl rfl hI (argc rfl rfl) (hsp96) ?_
  rintro _ H94 _ w95 ⟨rfl, rfl⟩ hleH94 hI
  replace hI : Inv B w95 H94 [.cb g_0 [ckV flW a0] 231, .cb g2 [ckV flW σ13] 237] := hI
  obtain ⟨x97, hx97, hF⟩ := Option.bind_eq_some_iff.1 hF
  obtain ⟨q98, eq98⟩ : ∃ z, z = 0 + 0 + i13 * 1 := ⟨_, rfl⟩
  refine lv (v := .pointer (some ⟨g2, q98 + 0, none⟩)) rfl (r_ixq rfl ar237 h88 rfl rfl (Vec.lt hx97) eq98) rfl ?_
  refine lst rfl (l_sta (f := flW) (m := 64) (vv := σ13) (off := 0) (p := 0) (k := i13) (x1 := x93) hI 1 rfl rfl sz229 rfl eq98 rfl rfl rfl rfl hx97 rfl) rfl ?_
  intro w99 hI
  replace hI : Inv B w99 H94 [.cb g_0 [ckV flW a0] 231, .cb g2 [ckV flW (Vec.set σ13 i13 x93)] 237] := hI
  refine wend ?_
  refine inN ?_
  refine wthen ?_
  refine wren (fun ρ100 eρ100 => ?_)
  have h101 : opd ρ100 200 (.tmp 0) = .pointer (some ⟨g_0, 0 + 0, none⟩) := (eρ100 0).trans h86
  have h102 : opd ρ100 200 (.tmp 1) = s1.v := (eρ100 1).trans h87
  have h103 : opd ρ100 200 (.tmp 4) = .pointer (some ⟨g2, 0 + 0, none⟩) := (eρ100 4).trans h88
  have h104 : opd ρ100 200 (.tmp 26) = .int .i64 (i13 : Int) := (eρ100 26).trans h90
  clear eρ100
  refine wreg ?_
  refine lv (v := .int .i64 ((i13 + 1 : Nat) : Int)) rfl (r_addn rfl h104 rfl hlt13) rfl ?_
  refine lv (v := .int .i64 ((i13 + 1 : Nat) : Int)) rfl (r_mv rfl rfl) rfl ?_
  refine wend ?_
  obtain rfl := Option.some.inj hF
  exact ⟨k13, (Vec.set σ13 i13 x93), _, rfl, rfl, ⟨H94, (hleH72.trans hleH94), h101, h102, h103, rfl, hI⟩, forK_inl hy13 hb13⟩
 ·skip
  have hbhc79 : (decide ((i13 : Int) < 16)) = false := decide_eq_false hc79
  obtain rfl : k13 = 0 := by omega
  obtain rfl := forK_end hy13
  have hF := hF13
  try dsimp only at hF
  refine wcF ((show opd _ _ _ = _ from rfl).trans (congrArg Value.bool hbhc79)) ?_
  refine wp_exit ?_
  refine thE ?_
  refine thE ?_
  refine inX ?_
  refine wthen ?_
  refine wren (fun ρ105 eρ105 => ?_)
  have h106 : opd ρ105 200 (.tmp 0) = .pointer (some ⟨g_0, 0 + 0, none⟩) := (eρ105 0).trans h73
  have h107 : opd ρ105 200 (.tmp 4) = .pointer (some ⟨g2, 0 + 0, none⟩) := (eρ105 4).trans h75
  clear eρ105
  refine wseq ?_
  refine wseq ?_
  refine wreg ?_
  refine lv (v := .int .i64 16) rfl (r_as rfl rfl) rfl ?_
  refine wend ?_
  refine wthen ?_
  refine wren (fun ρ108 eρ108 => ?_)
  have h109 : opd ρ108 200 (.tmp 0) = .pointer (some ⟨g_0, 0 + 0, none⟩) := (eρ108 0).trans h106
  have h110 : opd ρ108 200 (.tmp 4) = .pointer (some ⟨g2, 0 + 0, none⟩) := (eρ108 4).trans h107
  have h111 : opd ρ108 200 (.tmp 6) = .int .i64 16 := eρ108 6
  clear eρ108
  refine wp_block ?_
  refine wrun (n := 200) _ (fun (σ112 : Int × (Vec UInt32 64)) ρ' w' => ∃ (H229 : Hp), Hle H72 H229 ∧ opd ρ' 200 (.tmp 0) = .pointer (some ⟨g_0, 0 + 0, none⟩) ∧ opd ρ' 200 (.tmp 4) = .pointer (some ⟨g2, 0 + 0, none⟩) ∧ opd ρ' 200 (.tmp 6) = .int .i64 σ112.1 ∧ Inv B w' H229 [.cb g_0 [ckV flW a0] 231, .cb g2 [ckV flW σ112.2] 237]) hF ⟨H72, (Hle.refl _), h109, h110, h111, hI⟩ ?_
  rintro k112 σ112 ρ233 w234 ⟨H229, hleH229, h230, h231, h232, hI⟩ hy112
  obtain ⟨z112, hb112⟩ := iterK_body hy112
  have hF := hb112
  refine wseq ?_
  refine wseq ?_
  refine wreg ?_
  refine lv (v := .int .i64 σ112.1) rfl (r_mv rfl h232) rfl ?_
  refine lv (v := .bool (decide (σ112.1 < 64))) rfl (r_lss rfl rfl rfl rfl) rfl ?_
  refine wend ?_
  refine wthen ?_
  refine wren (fun ρ235 eρ235 => ?_)
  have h236 : opd ρ235 200 (.tmp 0) = .pointer (some ⟨g_0, 0 + 0, none⟩) := (eρ235 0).trans h230
  have h237 : opd ρ235 200 (.tmp 4) = .pointer (some ⟨g2, 0 + 0, none⟩) := (eρ235 4).trans h231
  have h238 : opd ρ235 200 (.tmp 6) = .int .i64 σ112.1 := (eρ235 6).trans h232
  have h239 : opd ρ235 200 (.tmp 38) = .bool (decide (σ112.1 < 64)) := eρ235 38
  clear eρ235
  by_cases hc240 : σ112.1 < 64
  ·skip
   rw [if_pos hc240] at hF
   have hbhc240 : (decide (σ112.1 < 64)) = true := decide_eq_true hc240
   refine wcT (h239.trans (congrArg Value.bool hbhc240)) ?_
   refine wp_skip ?_
   refine wthen ?_
   refine wseq ?_
   refine wp_block ?_
   refine wseq ?_
   refine dstG (H0 := H229) (L0 := keepL [true, true] [.cb g_0 [ckV flW a0] 231, .cb g2 [ckV flW σ112.2] 237]) [] mixed rfl (by repeat (first | exact Pan.body | refine Pan.then ?_ | refine Pan.inBlock ?_ | refine Pan.noGoto ?_ | refine Pan.pure ?_)) hI (hI.good.weakm _ (Hle.refl _) rfl) ?_
   intro w241 hI hP
   refine dp (v := .int .i64 σ112.1) 0 (by kernel_rfl) rfl rfl (fun _ => r_mv rfl h238) rfl hP ?_
   refine dp (v := .int .i64 (wI (σ112.1 - 15))) 1 (by kernel_rfl) rfl rfl (fun _ => r_subw rfl rfl rfl) rfl hP ?_
   obtain ⟨x242, hx242, hF⟩ := Option.bind_eq_some_iff.1 hF
   obtain ⟨q243, eq243⟩ : ∃ z, z = 0 + 0 + ((wI (σ112.1 - 15) : Int).toNat) * 1 := ⟨_, rfl⟩
   refine dp (v := .pointer (some ⟨g2, q243 + 0, none⟩)) 2 (by kernel_rfl) rfl rfl (fun _ => r_ixq rfl ar237 h237 rfl (ixI_some hx242).2 (Vec.lt (ixI_some hx242).1) eq243) rfl hP ?_
   refine dp (v := .int .i64 σ112.1) 4 (by kernel_rfl) rfl rfl (fun _ => r_mv rfl h238) rfl hP ?_
   refine dp (v := .int .i64 (wI (σ112.1 - 2))) 5 (by kernel_rfl) rfl rfl (fun _ => r_subw rfl rfl rfl) rfl hP ?_
   obtain ⟨x244, hx244, hF⟩ := Option.bind_eq_some_iff.1 hF
   obtain ⟨q245, eq245⟩ : ∃ z, z = 0 + 0 + ((wI (σ112.1 - 2) : Int).toNat) * 1 := ⟨_, rfl⟩
   refine dp (v := .pointer (some ⟨g2, q245 + 0, none⟩)) 6 (by kernel_rfl) rfl rfl (fun _ => r_ixq rfl ar237 h237 rfl (ixI_some hx244).2 (Vec.lt (ixI_some hx244).1) eq245) rfl hP ?_
   refine dr (v := u32v x242) 3 (by kernel_rfl) rfl rfl (hI.good.weakm [true, true] (Hle.refl _) rfl) (fun _ hG => r_cl1 (off := 0) (p := 0) (CA.el (f := flW) (m := 64) (off := 0) (p := 0) (hG.ca 1 rfl) rfl rfl (ixI_some hx242).1 eq243) rfl sc229 rfl rfl rfl) rfl hP ?_
   refine dp (v := u32v x242) 8 (by kernel_rfl) rfl rfl (fun _ => r_as rfl rfl) rfl hP ?_
   refine dr (v := u32v x244) 7 (by kernel_rfl) rfl rfl (hI.good.weakm [true, true] (Hle.refl _) rfl) (fun _ hG => r_cl1 (off := 0) (p := 0) (CA.el (f := flW) (m := 64) (off := 0) (p := 0) (hG.ca 1 rfl) rfl rfl (ixI_some hx244).1 eq245) rfl sc229 rfl rfl rfl) rfl hP ?_
   refine dp (v := u32v x244) 9 (by kernel_rfl) rfl rfl (fun _ => r_as rfl rfl) rfl hP ?_
   refine dend (by kernel_rfl) ?_
   refine wthen ?_
   refine wren (fun ρ246 eρ246 => ?_)
   have h247 : opd ρ246 200 (.tmp 0) = .pointer (some ⟨g_0, 0 + 0, none⟩) := (eρ246 0).trans h236
   have h248 : opd ρ246 200 (.tmp 4) = .pointer (some ⟨g2, 0 + 0, none⟩) := (eρ246 4).trans h237
   have h249 : opd ρ246 200 (.tmp 6) = .int .i64 σ112.1 := (eρ246 6).trans h238
   have h250 : opd ρ246 200 (.tmp 7) = u32v x242 := eρ246 7
   have h251 : opd ρ246 200 (.tmp 8) = u32v x244 := eρ246 8
   clear eρ246
   refine wseq ?_
   refine wreg ?_
   refine lv (v := u32v x242) rfl (r_mv rfl h250) rfl ?_
   obtain ⟨x252, hx252, hF⟩ := Option.bind_eq_some_iff.1 hF
   have hsp255 := spec_169 hx252 ((hT.mono hleH72).mono hleH229) (hI.part 0) 
   refine fc ([]) ([.cb g_0 [ckV flW a0] 231, .cb g2 [ckV flW σ112.2] 237]) (args := [u32v x242, .int .i64 (-7)]) fc169 rfl rfl rfl hI (argc rfl (argc rfl rfl)) (hsp255) ?_
   rintro _ H253 _ w254 ⟨rfl, rfl⟩ hleH253 hI
   replace hI : Inv B w254 H253 [.cb g_0 [ckV flW a0] 231, .cb g2 [ckV flW σ112.2] 237] := hI
   refine lv (v := u32v x242) rfl (r_mv rfl h250) rfl ?_
   obtain ⟨x256, hx256, hF⟩ := Option.bind_eq_some_iff.1 hF
   have hsp259 := spec_169 hx256 (((hT.mono hleH72).mono hleH229).mono hleH253) (hI.part 0) 
   refine fc ([]) ([.cb g_0 [ckV flW a0] 231, .cb g2 [ckV flW σ112.2] 237]) (args := [u32v x242, .int .i64 (-18)]) fc169 rfl rfl rfl hI (argc rfl (argc rfl rfl)) (hsp259) ?_
   rintro _ H257 _ w258 ⟨rfl, rfl⟩ hleH257 hI
   replace hI : Inv B w258 H257 [.cb g_0 [ckV flW a0] 231, .cb g2 _ 237] := hI
   refine lv (v := u32v (x252 ^^^ x256)) rfl (q_xor rfl rfl rfl) rfl ?_
   refine lv (v := u32v x242) rfl (r_mv rfl h250) rfl ?_
   refine lv (v := u32v (shrW x242 3)) rfl (q_shrW (b := 3) rfl rfl rfl (by decide)) rfl ?_
   refine lv (v := u32v ((x252 ^^^ x256) ^^^ (shrW x242 3))) rfl (q_xor rfl rfl rfl) rfl ?_
   refine lv (v := u32v ((x252 ^^^ x256) ^^^ (shrW x242 3))) rfl (r_as rfl rfl) rfl ?_
   refine wend ?_
   refine wthen ?_
   refine wren (fun ρ260 eρ260 => ?_)
   have h261 : opd ρ260 200 (.tmp 0) = .pointer (some ⟨g_0, 0 + 0, none⟩) := (eρ260 0).trans h247
   have h262 : opd ρ260 200 (.tmp 4) = .pointer (some ⟨g2, 0 + 0, none⟩) := (eρ260 4).trans h248
   have h263 : opd ρ260 200 (.tmp 6) = .int .i64 σ112.1 := (eρ260 6).trans h249
   have h264 : opd ρ260 200 (.tmp 8) = u32v x244 := (eρ260 8).trans h251
   have h265 : opd ρ260 200 (.tmp 9) = u32v ((x252 ^^^ x256) ^^^ (shrW x242 3)) := eρ260 9
   clear eρ260
   refine wseq ?_
   refine wreg ?_
   refine lv (v := u32v x244) rfl (r_mv rfl h264) rfl ?_
   obtain ⟨x266, hx266, hF⟩ := Option.bind_eq_some_iff.1 hF
   have hsp269 := spec_169 hx266 ((((hT.mono hleH72).mono hleH229).mono hleH253).mono hleH257) (hI.part 0) 
   refine fc ([]) ([.cb g_0 [ckV flW a0] 231, .cb g2 [ckV flW σ112.2] 237]) (args := [u32v x244, .int .i64 (-17)]) fc169 rfl rfl rfl hI (argc rfl (argc rfl rfl)) (hsp269) ?_
   rintro _ H267 _ w268 ⟨rfl, rfl⟩ hleH267 hI
   replace hI : Inv B w268 H267 [.cb g_0 [ckV flW a0] 231, .cb g2 _ 237] := hI
   refine lv (v := u32v x244) rfl (r_mv rfl h264) rfl ?_
   obtain ⟨x270, hx270, hF⟩ := Option.bind_eq_some_iff.1 hF
   have hsp273 := spec_169 hx270 (((((hT.mono hleH72).mono hleH229).mono hleH253).mono hleH257).mono hleH267) (hI.part 0) 
   refine fc ([]) ([.cb g_0 [ckV flW a0] 231, .cb g2 [ckV flW σ112.2] 237]) (args := [u32v x244, .int .i64 (-19)]) fc169 rfl rfl rfl hI (argc rfl (argc rfl rfl)) (hsp273) ?_
   rintro _ H271 _ w272 ⟨rfl, rfl⟩ hleH271 hI
   replace hI : Inv B w272 H271 [.cb g_0 [ckV flW a0] 231, .cb g2 _ 237] := hI
   refine lv (v := u32v (x266 ^^^ x270)) rfl (q_xor rfl rfl rfl) rfl ?_
   refine lv (v := u32v x244) rfl (r_mv rfl h264) rfl ?_
   refine lv (v := u32v (shrW x244 10)) rfl (q_shrW (b := 10) rfl rfl rfl (by decide)) rfl ?_
   refine lv (v := u32v ((x266 ^^^ x270) ^^^ (shrW x244 10))) rfl (q_xor rfl rfl rfl) rfl ?_
   refine lv (v := u32v ((x266 ^^^ x270) ^^^ (shrW x244 10))) rfl (r_as rfl rfl) rfl ?_
   refine wend ?_
   refine wthen ?_
   refine wren (fun ρ274 eρ274 => ?_)
   have h275 : opd ρ274 200 (.tmp 0) = .pointer (some ⟨g_0, 0 + 0, none⟩) := (eρ274 0).trans h261
   have h276 : opd ρ274 200 (.tmp 4) = .pointer (some ⟨g2, 0 + 0, none⟩) := (eρ274 4).trans h262
   have h277 : opd ρ274 200 (.tmp 6) = .int .i64 σ112.1 := (eρ274 6).trans h263
   have h278 : opd ρ274 200 (.tmp 9) = u32v ((x252 ^^^ x256) ^^^ (shrW x242 3)) := (eρ274 9).trans h265
   have h279 : opd ρ274 200 (.tmp 10) = u32v ((x266 ^^^ x270) ^^^ (shrW x244 10)) := eρ274 10
   clear eρ274
   refine dstG (H0 := H271) (L0 := keepL [true, true] [.cb g_0 [ckV flW a0] 231, .cb g2 [ckV flW σ112.2] 237]) [15] mixed rfl (by repeat (first | exact Pan.body | refine Pan.then ?_ | refine Pan.inBlock ?_ | refine Pan.noGoto ?_ | refine Pan.pure ?_)) hI (hI.good.weakm _ (Hle.refl _) rfl) ?_
   intro w280 hI hP
   refine dp (v := .int .i64 σ112.1) 0 (by kernel_rfl) rfl rfl (fun _ => r_mv rfl h277) rfl hP ?_
   refine dp (v := .int .i64 σ112.1) 1 (by kernel_rfl) rfl rfl (fun _ => r_mv rfl h277) rfl hP ?_
   refine dp (v := .int .i64 (wI (σ112.1 - 16))) 2 (by kernel_rfl) rfl rfl (fun _ => r_subw rfl rfl rfl) rfl hP ?_
   obtain ⟨x281, hx281, hF⟩ := Option.bind_eq_some_iff.1 hF
   obtain ⟨q282, eq282⟩ : ∃ z, z = 0 + 0 + ((wI (σ112.1 - 16) : Int).toNat) * 1 := ⟨_, rfl⟩
   refine dp (v := .pointer (some ⟨g2, q282 + 0, none⟩)) 3 (by kernel_rfl) rfl rfl (fun _ => r_ixq rfl ar237 h276 rfl (ixI_some hx281).2 (Vec.lt (ixI_some hx281).1) eq282) rfl hP ?_
   refine dp (v := u32v ((x252 ^^^ x256) ^^^ (shrW x242 3))) 5 (by kernel_rfl) rfl rfl (fun _ => r_mv rfl h278) rfl hP ?_
   refine dp (v := .int .i64 σ112.1) 7 (by kernel_rfl) rfl rfl (fun _ => r_mv rfl h277) rfl hP ?_
   refine dp (v := .int .i64 (wI (σ112.1 - 7))) 8 (by kernel_rfl) rfl rfl (fun _ => r_subw rfl rfl rfl) rfl hP ?_
   obtain ⟨x283, hx283, hF⟩ := Option.bind_eq_some_iff.1 hF
   obtain ⟨q284, eq284⟩ : ∃ z, z = 0 + 0 + ((wI (σ112.1 - 7) : Int).toNat) * 1 := ⟨_, rfl⟩
   refine dp (v := .pointer (some ⟨g2, q284 + 0, none⟩)) 9 (by kernel_rfl) rfl rfl (fun _ => r_ixq rfl ar237 h276 rfl (ixI_some hx283).2 (Vec.lt (ixI_some hx283).1) eq284) rfl hP ?_
   refine dp (v := u32v ((x266 ^^^ x270) ^^^ (shrW x244 10))) 12 (by kernel_rfl) rfl rfl (fun _ => r_mv rfl h279) rfl hP ?_
   refine dr (v := u32v x281) 4 (by kernel_rfl) rfl rfl (hI.good.weakm [true, true] (Hle.refl _) rfl) (fun _ hG => r_cl1 (off := 0) (p := 0) (CA.el (f := flW) (m := 64) (off := 0) (p := 0) (hG.ca 1 rfl) rfl rfl (ixI_some hx281).1 eq282) rfl sc229 rfl rfl rfl) rfl hP ?_
   refine dp (v := u32v (x281 + ((x252 ^^^ x256) ^^^ (shrW x242 3)))) 6 (by kernel_rfl) rfl rfl (fun _ => q_add rfl rfl rfl) rfl hP ?_
   refine dr (v := u32v x283) 10 (by kernel_rfl) rfl rfl (hI.good.weakm [true, true] (Hle.refl _) rfl) (fun _ hG => r_cl1 (off := 0) (p := 0) (CA.el (f := flW) (m := 64) (off := 0) (p := 0) (hG.ca 1 rfl) rfl rfl (ixI_some hx283).1 eq284) rfl sc229 rfl rfl rfl) rfl hP ?_
   refine dp (v := u32v ((x281 + ((x252 ^^^ x256) ^^^ (shrW x242 3))) + x283)) 11 (by kernel_rfl) rfl rfl (fun _ => q_add rfl rfl rfl) rfl hP ?_
   refine dp (v := u32v (((x281 + ((x252 ^^^ x256) ^^^ (shrW x242 3))) + x283) + ((x266 ^^^ x270) ^^^ (shrW x244 10)))) 13 (by kernel_rfl) rfl rfl (fun _ => q_add rfl rfl rfl) rfl hP ?_
   obtain ⟨x285, hx285, hF⟩ := Option.bind_eq_some_iff.1 hF
   obtain ⟨q286, eq286⟩ : ∃ z, z = 0 + 0 + ((σ112.1 : Int).toNat) * 1 := ⟨_, rfl⟩
   refine dp (v := .pointer (some ⟨g2, q286 + 0, none⟩)) 14 (by kernel_rfl) rfl rfl (fun _ => r_ixq rfl ar237 h276 rfl (ixI_some hx285).2 (Vec.lt (ixI_some hx285).1) eq286) rfl hP ?_
   refine dsl 15 (by kernel_rfl) rfl rfl rfl (l_sta (f := flW) (m := 64) (vv := σ112.2) (off := 0) (p := 0) (k := ((σ112.1 : Int).toNat)) (x1 := (((x281 + ((x252 ^^^ x256) ^^^ (shrW x242 3))) + x283) + ((x266 ^^^ x270) ^^^ (shrW x244 10)))) hI 1 rfl rfl sz229 rfl eq286 rfl rfl rfl rfl (ixI_some hx285).1 rfl) rfl ?_
   intro w287 hI
   replace hI : Inv B w287 H271 [.cb g_0 [ckV flW a0] 231, .cb g2 [ckV flW (Vec.set σ112.2 ((σ112.1 : Int).toNat) (((x281 + ((x252 ^^^ x256) ^^^ (shrW x242 3))) + x283) + ((x266 ^^^ x270) ^^^ (shrW x244 10))))] 237] := hI
   refine dend (by kernel_rfl) ?_
   refine inN ?_
   refine wthen ?_
   refine wren (fun ρ288 eρ288 => ?_)
   have h289 : opd ρ288 200 (.tmp 0) = .pointer (some ⟨g_0, 0 + 0, none⟩) := (eρ288 0).trans h275
   have h290 : opd ρ288 200 (.tmp 4) = .pointer (some ⟨g2, 0 + 0, none⟩) := (eρ288 4).trans h276
   have h291 : opd ρ288 200 (.tmp 6) = .int .i64 σ112.1 := (eρ288 6).trans h277
   clear eρ288
   refine wreg ?_
   refine lv (v := .int .i64 σ112.1) rfl (r_mv rfl h291) rfl ?_
   refine lv (v := .int .i64 (wI (σ112.1 + 1))) rfl (r_addw rfl rfl rfl) rfl ?_
   refine lv (v := .int .i64 (wI (σ112.1 + 1))) rfl (r_as rfl rfl) rfl ?_
   refine wend ?_
   obtain rfl := Option.some.inj hF
   exact ⟨(wI (σ112.1 + 1), (Vec.set σ112.2 ((σ112.1 : Int).toNat) (((x281 + ((x252 ^^^ x256) ^^^ (shrW x242 3))) + x283) + ((x266 ^^^ x270) ^^^ (shrW x244 10))))), _, rfl, ⟨H271, ((((hleH229.trans hleH253).trans hleH257).trans hleH267).trans hleH271), h289, h290, rfl, hI⟩, iterK_inl hy112 hb112⟩
  ·skip
   rw [if_neg hc240] at hF
   have hbhc240 : (decide (σ112.1 < 64)) = false := decide_eq_false hc240
   refine wcF (h239.trans (congrArg Value.bool hbhc240)) ?_
   refine wp_exit ?_
   refine thE ?_
   refine thE ?_
   obtain ⟨q292, hFn, hzq292⟩ := Option.map_eq_some_iff.1 hF
   clear hF
   have hy0 := iterK_inr hy112 (hb112.trans (congrArg some hzq292.symm))
   rw [← hy0] at hFn
   have hF := hFn
   clear hFn
   refine inX ?_
   refine wthen ?_
   refine wseq ?_
   refine dstG (H0 := H229) (L0 := keepL [true, true] [.cb g_0 [ckV flW a0] 231, .cb g2 [ckV flW σ112.2] 237]) [] mixed rfl (by repeat (first | exact Pan.body | refine Pan.then ?_ | refine Pan.inBlock ?_ | refine Pan.noGoto ?_ | refine Pan.pure ?_)) hI (hI.good.weakm _ (Hle.refl _) rfl) ?_
   intro w293 hI hP
   refine dp (v := .pointer (some ⟨g_0, 0 + 0, none⟩)) 0 (by kernel_rfl) rfl rfl (fun _ => r_mv rfl h236) rfl hP ?_
   refine dp (v := .pointer (some ⟨g_0, 0 + 0, none⟩)) 1 (by kernel_rfl) rfl rfl (fun _ => r_nilc rfl rfl) rfl hP ?_
   obtain ⟨x294, hx294, hF⟩ := Option.bind_eq_some_iff.1 hF
   obtain ⟨q295, eq295⟩ : ∃ z, z = 0 + 0 + 0 * 1 := ⟨_, rfl⟩
   refine dp (v := .pointer (some ⟨g_0, q295 + 0, none⟩)) 2 (by kernel_rfl) rfl rfl (fun _ => r_ixq rfl ar231 rfl rfl rfl (Vec.lt hx294) eq295) rfl hP ?_
   refine dp (v := .pointer (some ⟨g_0, 0 + 0, none⟩)) 4 (by kernel_rfl) rfl rfl (fun _ => r_mv rfl h236) rfl hP ?_
   refine dp (v := .pointer (some ⟨g_0, 0 + 0, none⟩)) 5 (by kernel_rfl) rfl rfl (fun _ => r_nilc rfl rfl) rfl hP ?_
   obtain ⟨x296, hx296, hF⟩ := Option.bind_eq_some_iff.1 hF
   obtain ⟨q297, eq297⟩ : ∃ z, z = 0 + 0 + 1 * 1 := ⟨_, rfl⟩
   refine dp (v := .pointer (some ⟨g_0, q297 + 0, none⟩)) 6 (by kernel_rfl) rfl rfl (fun _ => r_ixq rfl ar231 rfl rfl rfl (Vec.lt hx296) eq297) rfl hP ?_
   refine dp (v := .pointer (some ⟨g_0, 0 + 0, none⟩)) 8 (by kernel_rfl) rfl rfl (fun _ => r_mv rfl h236) rfl hP ?_
   refine dp (v := .pointer (some ⟨g_0, 0 + 0, none⟩)) 9 (by kernel_rfl) rfl rfl (fun _ => r_nilc rfl rfl) rfl hP ?_
   obtain ⟨x298, hx298, hF⟩ := Option.bind_eq_some_iff.1 hF
   obtain ⟨q299, eq299⟩ : ∃ z, z = 0 + 0 + 2 * 1 := ⟨_, rfl⟩
   refine dp (v := .pointer (some ⟨g_0, q299 + 0, none⟩)) 10 (by kernel_rfl) rfl rfl (fun _ => r_ixq rfl ar231 rfl rfl rfl (Vec.lt hx298) eq299) rfl hP ?_
   refine dp (v := .pointer (some ⟨g_0, 0 + 0, none⟩)) 12 (by kernel_rfl) rfl rfl (fun _ => r_mv rfl h236) rfl hP ?_
   refine dp (v := .pointer (some ⟨g_0, 0 + 0, none⟩)) 13 (by kernel_rfl) rfl rfl (fun _ => r_nilc rfl rfl) rfl hP ?_
   obtain ⟨x300, hx300, hF⟩ := Option.bind_eq_some_iff.1 hF
   obtain ⟨q301, eq301⟩ : ∃ z, z = 0 + 0 + 3 * 1 := ⟨_, rfl⟩
   refine dp (v := .pointer (some ⟨g_0, q301 + 0, none⟩)) 14 (by kernel_rfl) rfl rfl (fun _ => r_ixq rfl ar231 rfl rfl rfl (Vec.lt hx300) eq301) rfl hP ?_
   refine dp (v := .pointer (some ⟨g_0, 0 + 0, none⟩)) 16 (by kernel_rfl) rfl rfl (fun _ => r_mv rfl h236) rfl hP ?_
   refine dp (v := .pointer (some ⟨g_0, 0 + 0, none⟩)) 17 (by kernel_rfl) rfl rfl (fun _ => r_nilc rfl rfl) rfl hP ?_
   obtain ⟨x302, hx302, hF⟩ := Option.bind_eq_some_iff.1 hF
   obtain ⟨q303, eq303⟩ : ∃ z, z = 0 + 0 + 4 * 1 := ⟨_, rfl⟩
   refine dp (v := .pointer (some ⟨g_0, q303 + 0, none⟩)) 18 (by kernel_rfl) rfl rfl (fun _ => r_ixq rfl ar231 rfl rfl rfl (Vec.lt hx302) eq303) rfl hP ?_
   refine dp (v := .pointer (some ⟨g_0, 0 + 0, none⟩)) 20 (by kernel_rfl) rfl rfl (fun _ => r_mv rfl h236) rfl hP ?_
   refine dp (v := .pointer (some ⟨g_0, 0 + 0, none⟩)) 21 (by kernel_rfl) rfl rfl (fun _ => r_nilc rfl rfl) rfl hP ?_
   obtain ⟨x304, hx304, hF⟩ := Option.bind_eq_some_iff.1 hF
   obtain ⟨q305, eq305⟩ : ∃ z, z = 0 + 0 + 5 * 1 := ⟨_, rfl⟩
   refine dp (v := .pointer (some ⟨g_0, q305 + 0, none⟩)) 22 (by kernel_rfl) rfl rfl (fun _ => r_ixq rfl ar231 rfl rfl rfl (Vec.lt hx304) eq305) rfl hP ?_
   refine dp (v := .pointer (some ⟨g_0, 0 + 0, none⟩)) 24 (by kernel_rfl) rfl rfl (fun _ => r_mv rfl h236) rfl hP ?_
   refine dp (v := .pointer (some ⟨g_0, 0 + 0, none⟩)) 25 (by kernel_rfl) rfl rfl (fun _ => r_nilc rfl rfl) rfl hP ?_
   obtain ⟨x306, hx306, hF⟩ := Option.bind_eq_some_iff.1 hF
   obtain ⟨q307, eq307⟩ : ∃ z, z = 0 + 0 + 6 * 1 := ⟨_, rfl⟩
   refine dp (v := .pointer (some ⟨g_0, q307 + 0, none⟩)) 26 (by kernel_rfl) rfl rfl (fun _ => r_ixq rfl ar231 rfl rfl rfl (Vec.lt hx306) eq307) rfl hP ?_
   refine dp (v := .pointer (some ⟨g_0, 0 + 0, none⟩)) 28 (by kernel_rfl) rfl rfl (fun _ => r_mv rfl h236) rfl hP ?_
   refine dp (v := .pointer (some ⟨g_0, 0 + 0, none⟩)) 29 (by kernel_rfl) rfl rfl (fun _ => r_nilc rfl rfl) rfl hP ?_
   obtain ⟨x308, hx308, hF⟩ := Option.bind_eq_some_iff.1 hF
   obtain ⟨q309, eq309⟩ : ∃ z, z = 0 + 0 + 7 * 1 := ⟨_, rfl⟩
   refine dp (v := .pointer (some ⟨g_0, q309 + 0, none⟩)) 30 (by kernel_rfl) rfl rfl (fun _ => r_ixq rfl ar231 rfl rfl rfl (Vec.lt hx308) eq309) rfl hP ?_
   refine dr (v := u32v x294) 3 (by kernel_rfl) rfl rfl (hI.good.weakm [true, true] (Hle.refl _) rfl) (fun _ hG => r_cl1 (off := 0) (p := 0) (CA.el (f := flW) (m := 8) (off := 0) (p := 0) (hG.ca 0 rfl) rfl rfl hx294 eq295) rfl sc229 rfl rfl rfl) rfl hP ?_
   refine dp (v := u32v x294) 32 (by kernel_rfl) rfl rfl (fun _ => r_as rfl rfl) rfl hP ?_
   refine dr (v := u32v x296) 7 (by kernel_rfl) rfl rfl (hI.good.weakm [true, true] (Hle.refl _) rfl) (fun _ hG => r_cl1 (off := 0) (p := 0) (CA.el (f := flW) (m := 8) (off := 0) (p := 0) (hG.ca 0 rfl) rfl rfl hx296 eq297) rfl sc229 rfl rfl rfl) rfl hP ?_
   refine dp (v := u32v x296) 33 (by kernel_rfl) rfl rfl (fun _ => r_as rfl rfl) rfl hP ?_
   refine dr (v := u32v x298) 11 (by kernel_rfl) rfl rfl (hI.good.weakm [true, true] (Hle.refl _) rfl) (fun _ hG => r_cl1 (off := 0) (p := 0) (CA.el (f := flW) (m := 8) (off := 0) (p := 0) (hG.ca 0 rfl) rfl rfl hx298 eq299) rfl sc229 rfl rfl rfl) rfl hP ?_
   refine dp (v := u32v x298) 34 (by kernel_rfl) rfl rfl (fun _ => r_as rfl rfl) rfl hP ?_
   refine dr (v := u32v x300) 15 (by kernel_rfl) rfl rfl (hI.good.weakm [true, true] (Hle.refl _) rfl) (fun _ hG => r_cl1 (off := 0) (p := 0) (CA.el (f := flW) (m := 8) (off := 0) (p := 0) (hG.ca 0 rfl) rfl rfl hx300 eq301) rfl sc229 rfl rfl rfl) rfl hP ?_
   refine dp (v := u32v x300) 35 (by kernel_rfl) rfl rfl (fun _ => r_as rfl rfl) rfl hP ?_
   refine dr (v := u32v x302) 19 (by kernel_rfl) rfl rfl (hI.good.weakm [true, true] (Hle.refl _) rfl) (fun _ hG => r_cl1 (off := 0) (p := 0) (CA.el (f := flW) (m := 8) (off := 0) (p := 0) (hG.ca 0 rfl) rfl rfl hx302 eq303) rfl sc229 rfl rfl rfl) rfl hP ?_
   refine dp (v := u32v x302) 36 (by kernel_rfl) rfl rfl (fun _ => r_as rfl rfl) rfl hP ?_
   refine dr (v := u32v x304) 23 (by kernel_rfl) rfl rfl (hI.good.weakm [true, true] (Hle.refl _) rfl) (fun _ hG => r_cl1 (off := 0) (p := 0) (CA.el (f := flW) (m := 8) (off := 0) (p := 0) (hG.ca 0 rfl) rfl rfl hx304 eq305) rfl sc229 rfl rfl rfl) rfl hP ?_
   refine dp (v := u32v x304) 37 (by kernel_rfl) rfl rfl (fun _ => r_as rfl rfl) rfl hP ?_
   refine dr (v := u32v x306) 27 (by kernel_rfl) rfl rfl (hI.good.weakm [true, true] (Hle.refl _) rfl) (fun _ hG => r_cl1 (off := 0) (p := 0) (CA.el (f := flW) (m := 8) (off := 0) (p := 0) (hG.ca 0 rfl) rfl rfl hx306 eq307) rfl sc229 rfl rfl rfl) rfl hP ?_
   refine dp (v := u32v x306) 38 (by kernel_rfl) rfl rfl (fun _ => r_as rfl rfl) rfl hP ?_
   refine dr (v := u32v x308) 31 (by kernel_rfl) rfl rfl (hI.good.weakm [true, true] (Hle.refl _) rfl) (fun _ hG => r_cl1 (off := 0) (p := 0) (CA.el (f := flW) (m := 8) (off := 0) (p := 0) (hG.ca 0 rfl) rfl rfl hx308 eq309) rfl sc229 rfl rfl rfl) rfl hP ?_
   refine dp (v := u32v x308) 39 (by kernel_rfl) rfl rfl (fun _ => r_as rfl rfl) rfl hP ?_
   refine dend (by kernel_rfl) ?_
   refine wthen ?_
   refine wren (fun ρ310 eρ310 => ?_)
   have h311 : opd ρ310 200 (.tmp 0) = .pointer (some ⟨g_0, 0 + 0, none⟩) := (eρ310 0).trans h236
   have h312 : opd ρ310 200 (.tmp 4) = .pointer (some ⟨g2, 0 + 0, none⟩) := (eρ310 4).trans h237
   have h313 : opd ρ310 200 (.tmp 11) = u32v x294 := eρ310 11
   have h314 : opd ρ310 200 (.tmp 12) = u32v x296 := eρ310 12
   have h315 : opd ρ310 200 (.tmp 13) = u32v x298 := eρ310 13
   have h316 : opd ρ310 200 (.tmp 14) = u32v x300 := eρ310 14
   have h317 : opd ρ310 200 (.tmp 15) = u32v x302 := eρ310 15
   have h318 : opd ρ310 200 (.tmp 16) = u32v x304 := eρ310 16
   have h319 : opd ρ310 200 (.tmp 17) = u32v x306 := eρ310 17
   have h320 : opd ρ310 200 (.tmp 18) = u32v x308 := eρ310 18
   clear eρ310
   refine wseq ?_
   refine wseq ?_
   refine wreg ?_
   refine lv (v := .agg (flat [ckV flW σ112.2]).toArray) rfl (r_cla (off := 0) (p := 0) (m := 1) (hI.good.ca 1 rfl) rfl ag237 h312 rfl rfl) rfl ?_
   refine lv (v := .int .i64 0) rfl (r_mv rfl rfl) rfl ?_
   refine wend ?_
   refine wthen ?_
   refine wren (fun ρ321 eρ321 => ?_)
   have h322 : opd ρ321 200 (.tmp 0) = .pointer (some ⟨g_0, 0 + 0, none⟩) := (eρ321 0).trans h311
   have h323 : opd ρ321 200 (.tmp 11) = u32v x294 := (eρ321 11).trans h313
   have h324 : opd ρ321 200 (.tmp 12) = u32v x296 := (eρ321 12).trans h314
   have h325 : opd ρ321 200 (.tmp 13) = u32v x298 := (eρ321 13).trans h315
   have h326 : opd ρ321 200 (.tmp 14) = u32v x300 := (eρ321 14).trans h316
   have h327 : opd ρ321 200 (.tmp 15) = u32v x302 := (eρ321 15).trans h317
   have h328 : opd ρ321 200 (.tmp 16) = u32v x304 := (eρ321 16).trans h318
   have h329 : opd ρ321 200 (.tmp 17) = u32v x306 := (eρ321 17).trans h319
   have h330 : opd ρ321 200 (.tmp 18) = u32v x308 := (eρ321 18).trans h320
   have h331 : opd ρ321 200 (.tmp 112) = .agg (flat [ckV flW σ112.2]).toArray := eρ321 112
   have h332 : opd ρ321 200 (.tmp 113) = .int .i64 0 := eρ321 113
   clear eρ321
   refine wp_block ?_
   obtain ⟨y333, hy333, hF333⟩ := Option.bind_eq_some_iff.1 hF
   refine wfor (n := 200) 64 _ (fun (i333 : Nat) (σ333 : UInt32 × UInt32 × UInt32 × UInt32 × UInt32 × UInt32 × UInt32 × UInt32) ρ' w' => ∃ (H578 : Hp), Hle H229 H578 ∧ opd ρ' 200 (.tmp 0) = .pointer (some ⟨g_0, 0 + 0, none⟩) ∧ opd ρ' 200 (.tmp 11) = u32v σ333.1 ∧ opd ρ' 200 (.tmp 12) = u32v σ333.2.1 ∧ opd ρ' 200 (.tmp 13) = u32v σ333.2.2.1 ∧ opd ρ' 200 (.tmp 14) = u32v σ333.2.2.2.1 ∧ opd ρ' 200 (.tmp 15) = u32v σ333.2.2.2.2.1 ∧ opd ρ' 200 (.tmp 16) = u32v σ333.2.2.2.2.2.1 ∧ opd ρ' 200 (.tmp 17) = u32v σ333.2.2.2.2.2.2.1 ∧ opd ρ' 200 (.tmp 18) = u32v σ333.2.2.2.2.2.2.2 ∧ opd ρ' 200 (.tmp 112) = .agg (flat [ckV flW σ112.2]).toArray ∧ opd ρ' 200 (.tmp 113) = .int .i64 (i333 : Int) ∧ Inv B w' H578 [.cb g_0 [ckV flW a0] 231]) hy333 ⟨H229, (Hle.refl _), h322, h323, h324, h325, h326, h327, h328, h329, h330, h331, h332, (hI.keep [true, false])⟩ ?_
   rintro k333 i333 σ333 ρ590 w591 hk333 ⟨H578, hleH578, h579, h580, h581, h582, h583, h584, h585, h586, h587, h588, h589, hI⟩ hy333
   refine wseq ?_
   refine wreg ?_
   refine lv (v := .bool (decide ((i333 : Int) < 64))) rfl (r_lss rfl h589 rfl rfl) rfl ?_
   refine wend ?_
   refine wthen ?_
   refine wseq ?_
   by_cases hc592 : (i333 : Int) < 64
   ·skip
    have hbhc592 : (decide ((i333 : Int) < 64)) = true := decide_eq_true hc592
    obtain ⟨k333, rfl⟩ : ∃ m, k333 = m + 1 := ⟨k333 - 1, by omega⟩
    obtain ⟨z333, hb333⟩ := forK_body hy333
    have hF := hb333
    have hlt333 : ((i333 : Nat) : Int) + 1 ≤ 9223372036854775807 := by omega
    refine wcT ((show opd _ _ _ = _ from rfl).trans (congrArg Value.bool hbhc592)) ?_
    refine wp_skip ?_
    refine wthen ?_
    refine wren (fun ρ593 eρ593 => ?_)
    have h594 : opd ρ593 200 (.tmp 0) = .pointer (some ⟨g_0, 0 + 0, none⟩) := (eρ593 0).trans h579
    have h595 : opd ρ593 200 (.tmp 11) = u32v σ333.1 := (eρ593 11).trans h580
    have h596 : opd ρ593 200 (.tmp 12) = u32v σ333.2.1 := (eρ593 12).trans h581
    have h597 : opd ρ593 200 (.tmp 13) = u32v σ333.2.2.1 := (eρ593 13).trans h582
    have h598 : opd ρ593 200 (.tmp 14) = u32v σ333.2.2.2.1 := (eρ593 14).trans h583
    have h599 : opd ρ593 200 (.tmp 15) = u32v σ333.2.2.2.2.1 := (eρ593 15).trans h584
    have h600 : opd ρ593 200 (.tmp 16) = u32v σ333.2.2.2.2.2.1 := (eρ593 16).trans h585
    have h601 : opd ρ593 200 (.tmp 17) = u32v σ333.2.2.2.2.2.2.1 := (eρ593 17).trans h586
    have h602 : opd ρ593 200 (.tmp 18) = u32v σ333.2.2.2.2.2.2.2 := (eρ593 18).trans h587
    have h603 : opd ρ593 200 (.tmp 112) = .agg (flat [ckV flW σ112.2]).toArray := (eρ593 112).trans h588
    have h604 : opd ρ593 200 (.tmp 113) = .int .i64 (i333 : Int) := (eρ593 113).trans h589
    clear eρ593
    refine wseq ?_
    refine wp_block ?_
    refine wseq ?_
    refine wreg ?_
    refine lv (v := .int .i64 (i333 : Int)) rfl (r_mv rfl h604) rfl ?_
    obtain ⟨x605, hx605, hF⟩ := Option.bind_eq_some_iff.1 hF
    refine lv (v := u32v x605) rfl (r_ixv1 (f := flW) rfl ar237 sc229 h603 h604 rfl hx605 rfl) rfl ?_
    refine lv (v := .int .i64 (i333 : Int)) rfl (r_as rfl rfl) rfl ?_
    refine lv (v := u32v x605) rfl (r_as rfl rfl) rfl ?_
    refine wend ?_
    refine wthen ?_
    refine wren (fun ρ606 eρ606 => ?_)
    have h607 : opd ρ606 200 (.tmp 0) = .pointer (some ⟨g_0, 0 + 0, none⟩) := (eρ606 0).trans h594
    have h608 : opd ρ606 200 (.tmp 11) = u32v σ333.1 := (eρ606 11).trans h595
    have h609 : opd ρ606 200 (.tmp 12) = u32v σ333.2.1 := (eρ606 12).trans h596
    have h610 : opd ρ606 200 (.tmp 13) = u32v σ333.2.2.1 := (eρ606 13).trans h597
    have h611 : opd ρ606 200 (.tmp 14) = u32v σ333.2.2.2.1 := (eρ606 14).trans h598
    have h612 : opd ρ606 200 (.tmp 15) = u32v σ333.2.2.2.2.1 := (eρ606 15).trans h599
    have h613 : opd ρ606 200 (.tmp 16) = u32v σ333.2.2.2.2.2.1 := (eρ606 16).trans h600
    have h614 : opd ρ606 200 (.tmp 17) = u32v σ333.2.2.2.2.2.2.1 := (eρ606 17).trans h601
    have h615 : opd ρ606 200 (.tmp 18) = u32v σ333.2.2.2.2.2.2.2 := (eρ606 18).trans h602
    have h616 : opd ρ606 200 (.tmp 19) = .int .i64 (i333 : Int) := eρ606 19
    have h617 : opd ρ606 200 (.tmp 20) = u32v x605 := eρ606 20
    have h618 : opd ρ606 200 (.tmp 112) = .agg (flat [ckV flW σ112.2]).toArray := (eρ606 112).trans h603
    have h619 : opd ρ606 200 (.tmp 113) = .int .i64 (i333 : Int) := (eρ606 113).trans h604
    clear eρ606
    refine wseq ?_
    refine wreg ?_
    refine lv (v := u32v σ333.2.2.2.2.1) rfl (r_mv rfl h612) rfl ?_
    obtain ⟨x620, hx620, hF⟩ := Option.bind_eq_some_iff.1 hF
    have hsp623 := spec_169 hx620 (((hT.mono hleH72).mono hleH229).mono hleH578) (hI.part 0) 
    refine fc ([]) ([.cb g_0 [ckV flW a0] 231]) (args := [u32v σ333.2.2.2.2.1, .int .i64 (-6)]) fc169 rfl rfl rfl hI (argc rfl (argc rfl rfl)) (hsp623) ?_
    rintro _ H621 _ w622 ⟨rfl, rfl⟩ hleH621 hI
    replace hI : Inv B w622 H621 [.cb g_0 [ckV flW a0] 231] := hI
    refine lv (v := u32v σ333.2.2.2.2.1) rfl (r_mv rfl h612) rfl ?_
    obtain ⟨x624, hx624, hF⟩ := Option.bind_eq_some_iff.1 hF
    have hsp627 := spec_169 hx624 ((((hT.mono hleH72).mono hleH229).mono hleH578).mono hleH621) (hI.part 0) 
    refine fc ([]) ([.cb g_0 [ckV flW a0] 231]) (args := [u32v σ333.2.2.2.2.1, .int .i64 (-11)]) fc169 rfl rfl rfl hI (argc rfl (argc rfl rfl)) (hsp627) ?_
    rintro _ H625 _ w626 ⟨rfl, rfl⟩ hleH625 hI
    replace hI : Inv B w626 H625 [.cb g_0 [ckV flW a0] 231] := hI
    refine lv (v := u32v (x620 ^^^ x624)) rfl (q_xor rfl rfl rfl) rfl ?_
    refine lv (v := u32v σ333.2.2.2.2.1) rfl (r_mv rfl h612) rfl ?_
    obtain ⟨x628, hx628, hF⟩ := Option.bind_eq_some_iff.1 hF
    have hsp631 := spec_169 hx628 (((((hT.mono hleH72).mono hleH229).mono hleH578).mono hleH621).mono hleH625) (hI.part 0) 
    refine fc ([]) ([.cb g_0 [ckV flW a0] 231]) (args := [u32v σ333.2.2.2.2.1, .int .i64 (-25)]) fc169 rfl rfl rfl hI (argc rfl (argc rfl rfl)) (hsp631) ?_
    rintro _ H629 _ w630 ⟨rfl, rfl⟩ hleH629 hI
    replace hI : Inv B w630 H629 [.cb g_0 [ckV flW a0] 231] := hI
    refine lv (v := u32v ((x620 ^^^ x624) ^^^ x628)) rfl (q_xor rfl rfl rfl) rfl ?_
    refine lv (v := u32v ((x620 ^^^ x624) ^^^ x628)) rfl (r_as rfl rfl) rfl ?_
    refine wend ?_
    refine wthen ?_
    refine wren (fun ρ632 eρ632 => ?_)
    have h633 : opd ρ632 200 (.tmp 0) = .pointer (some ⟨g_0, 0 + 0, none⟩) := (eρ632 0).trans h607
    have h634 : opd ρ632 200 (.tmp 11) = u32v σ333.1 := (eρ632 11).trans h608
    have h635 : opd ρ632 200 (.tmp 12) = u32v σ333.2.1 := (eρ632 12).trans h609
    have h636 : opd ρ632 200 (.tmp 13) = u32v σ333.2.2.1 := (eρ632 13).trans h610
    have h637 : opd ρ632 200 (.tmp 14) = u32v σ333.2.2.2.1 := (eρ632 14).trans h611
    have h638 : opd ρ632 200 (.tmp 15) = u32v σ333.2.2.2.2.1 := (eρ632 15).trans h612
    have h639 : opd ρ632 200 (.tmp 16) = u32v σ333.2.2.2.2.2.1 := (eρ632 16).trans h613
    have h640 : opd ρ632 200 (.tmp 17) = u32v σ333.2.2.2.2.2.2.1 := (eρ632 17).trans h614
    have h641 : opd ρ632 200 (.tmp 18) = u32v σ333.2.2.2.2.2.2.2 := (eρ632 18).trans h615
    have h642 : opd ρ632 200 (.tmp 19) = .int .i64 (i333 : Int) := (eρ632 19).trans h616
    have h643 : opd ρ632 200 (.tmp 20) = u32v x605 := (eρ632 20).trans h617
    have h644 : opd ρ632 200 (.tmp 21) = u32v ((x620 ^^^ x624) ^^^ x628) := eρ632 21
    have h645 : opd ρ632 200 (.tmp 112) = .agg (flat [ckV flW σ112.2]).toArray := (eρ632 112).trans h618
    have h646 : opd ρ632 200 (.tmp 113) = .int .i64 (i333 : Int) := (eρ632 113).trans h619
    clear eρ632
    refine wseq ?_
    refine wreg ?_
    refine lv (v := u32v σ333.2.2.2.2.2.2.2) rfl (r_mv rfl h641) rfl ?_
    refine lv (v := u32v ((x620 ^^^ x624) ^^^ x628)) rfl (r_mv rfl h644) rfl ?_
    refine lv (v := u32v (σ333.2.2.2.2.2.2.2 + ((x620 ^^^ x624) ^^^ x628))) rfl (q_add rfl rfl rfl) rfl ?_
    refine lv (v := u32v σ333.2.2.2.2.1) rfl (r_mv rfl h638) rfl ?_
    refine lv (v := u32v σ333.2.2.2.2.2.1) rfl (r_mv rfl h639) rfl ?_
    refine lv (v := u32v (σ333.2.2.2.2.1 &&& σ333.2.2.2.2.2.1)) rfl (q_and rfl rfl rfl) rfl ?_
    refine lv (v := u32v σ333.2.2.2.2.1) rfl (r_mv rfl h638) rfl ?_
    refine lv (v := u32v (~~~σ333.2.2.2.2.1)) rfl (q_not rfl rfl) rfl ?_
    refine lv (v := u32v σ333.2.2.2.2.2.2.1) rfl (r_mv rfl h640) rfl ?_
    refine lv (v := u32v ((~~~σ333.2.2.2.2.1) &&& σ333.2.2.2.2.2.2.1)) rfl (q_and rfl rfl rfl) rfl ?_
    refine lv (v := u32v ((σ333.2.2.2.2.1 &&& σ333.2.2.2.2.2.1) ^^^ ((~~~σ333.2.2.2.2.1) &&& σ333.2.2.2.2.2.2.1))) rfl (q_xor rfl rfl rfl) rfl ?_
    refine lv (v := u32v ((σ333.2.2.2.2.2.2.2 + ((x620 ^^^ x624) ^^^ x628)) + ((σ333.2.2.2.2.1 &&& σ333.2.2.2.2.2.1) ^^^ ((~~~σ333.2.2.2.2.1) &&& σ333.2.2.2.2.2.2.1)))) rfl (q_add rfl rfl rfl) rfl ?_
    refine lv (v := .int .i64 (i333 : Int)) rfl (r_mv rfl h642) rfl ?_
    obtain ⟨x647, hx647, hF⟩ := Option.bind_eq_some_iff.1 hF
    obtain ⟨q648, eq648⟩ : ∃ z, z = 0 + 0 + i333 * 1 := ⟨_, rfl⟩
    refine lv (v := .pointer (some ⟨0, q648 + 0, none⟩)) rfl (r_ixq rfl ar237 rfl rfl rfl (Vec.lt hx647) eq648) rfl ?_
    refine lv (v := u32v x647) rfl (r_cl1 (off := 0) (p := 0) (CA.el (f := flW) (m := 64) (off := 0) (p := 0) (((((((hT.mono hleH72).mono hleH229).mono hleH578).mono hleH621).mono hleH625).mono hleH629).ca hI.good) rfl rfl hx647 eq648) rfl sc229 rfl rfl rfl) rfl ?_
    refine lv (v := u32v (((σ333.2.2.2.2.2.2.2 + ((x620 ^^^ x624) ^^^ x628)) + ((σ333.2.2.2.2.1 &&& σ333.2.2.2.2.2.1) ^^^ ((~~~σ333.2.2.2.2.1) &&& σ333.2.2.2.2.2.2.1))) + x647)) rfl (q_add rfl rfl rfl) rfl ?_
    refine lv (v := u32v x605) rfl (r_mv rfl h643) rfl ?_
    refine lv (v := u32v ((((σ333.2.2.2.2.2.2.2 + ((x620 ^^^ x624) ^^^ x628)) + ((σ333.2.2.2.2.1 &&& σ333.2.2.2.2.2.1) ^^^ ((~~~σ333.2.2.2.2.1) &&& σ333.2.2.2.2.2.2.1))) + x647) + x605)) rfl (q_add rfl rfl rfl) rfl ?_
    refine lv (v := u32v ((((σ333.2.2.2.2.2.2.2 + ((x620 ^^^ x624) ^^^ x628)) + ((σ333.2.2.2.2.1 &&& σ333.2.2.2.2.2.1) ^^^ ((~~~σ333.2.2.2.2.1) &&& σ333.2.2.2.2.2.2.1))) + x647) + x605)) rfl (r_as rfl rfl) rfl ?_
    refine wend ?_
    refine wthen ?_
    refine wren (fun ρ649 eρ649 => ?_)
    have h650 : opd ρ649 200 (.tmp 0) = .pointer (some ⟨g_0, 0 + 0, none⟩) := (eρ649 0).trans h633
    have h651 : opd ρ649 200 (.tmp 11) = u32v σ333.1 := (eρ649 11).trans h634
    have h652 : opd ρ649 200 (.tmp 12) = u32v σ333.2.1 := (eρ649 12).trans h635
    have h653 : opd ρ649 200 (.tmp 13) = u32v σ333.2.2.1 := (eρ649 13).trans h636
    have h654 : opd ρ649 200 (.tmp 14) = u32v σ333.2.2.2.1 := (eρ649 14).trans h637
    have h655 : opd ρ649 200 (.tmp 15) = u32v σ333.2.2.2.2.1 := (eρ649 15).trans h638
    have h656 : opd ρ649 200 (.tmp 16) = u32v σ333.2.2.2.2.2.1 := (eρ649 16).trans h639
    have h657 : opd ρ649 200 (.tmp 17) = u32v σ333.2.2.2.2.2.2.1 := (eρ649 17).trans h640
    have h658 : opd ρ649 200 (.tmp 22) = u32v ((((σ333.2.2.2.2.2.2.2 + ((x620 ^^^ x624) ^^^ x628)) + ((σ333.2.2.2.2.1 &&& σ333.2.2.2.2.2.1) ^^^ ((~~~σ333.2.2.2.2.1) &&& σ333.2.2.2.2.2.2.1))) + x647) + x605) := eρ649 22
    have h659 : opd ρ649 200 (.tmp 112) = .agg (flat [ckV flW σ112.2]).toArray := (eρ649 112).trans h645
    have h660 : opd ρ649 200 (.tmp 113) = .int .i64 (i333 : Int) := (eρ649 113).trans h646
    clear eρ649
    refine wseq ?_
    refine wreg ?_
    refine lv (v := u32v σ333.1) rfl (r_mv rfl h651) rfl ?_
    obtain ⟨x661, hx661, hF⟩ := Option.bind_eq_some_iff.1 hF
    have hsp664 := spec_169 hx661 ((((((hT.mono hleH72).mono hleH229).mono hleH578).mono hleH621).mono hleH625).mono hleH629) (hI.part 0) 
    refine fc ([]) ([.cb g_0 [ckV flW a0] 231]) (args := [u32v σ333.1, .int .i64 (-2)]) fc169 rfl rfl rfl hI (argc rfl (argc rfl rfl)) (hsp664) ?_
    rintro _ H662 _ w663 ⟨rfl, rfl⟩ hleH662 hI
    replace hI : Inv B w663 H662 [.cb g_0 [ckV flW a0] 231] := hI
    refine lv (v := u32v σ333.1) rfl (r_mv rfl h651) rfl ?_
    obtain ⟨x665, hx665, hF⟩ := Option.bind_eq_some_iff.1 hF
    have hsp668 := spec_169 hx665 (((((((hT.mono hleH72).mono hleH229).mono hleH578).mono hleH621).mono hleH625).mono hleH629).mono hleH662) (hI.part 0) 
    refine fc ([]) ([.cb g_0 [ckV flW a0] 231]) (args := [u32v σ333.1, .int .i64 (-13)]) fc169 rfl rfl rfl hI (argc rfl (argc rfl rfl)) (hsp668) ?_
    rintro _ H666 _ w667 ⟨rfl, rfl⟩ hleH666 hI
    replace hI : Inv B w667 H666 [.cb g_0 [ckV flW a0] 231] := hI
    refine lv (v := u32v (x661 ^^^ x665)) rfl (q_xor rfl rfl rfl) rfl ?_
    refine lv (v := u32v σ333.1) rfl (r_mv rfl h651) rfl ?_
    obtain ⟨x669, hx669, hF⟩ := Option.bind_eq_some_iff.1 hF
    have hsp672 := spec_169 hx669 ((((((((hT.mono hleH72).mono hleH229).mono hleH578).mono hleH621).mono hleH625).mono hleH629).mono hleH662).mono hleH666) (hI.part 0) 
    refine fc ([]) ([.cb g_0 [ckV flW a0] 231]) (args := [u32v σ333.1, .int .i64 (-22)]) fc169 rfl rfl rfl hI (argc rfl (argc rfl rfl)) (hsp672) ?_
    rintro _ H670 _ w671 ⟨rfl, rfl⟩ hleH670 hI
    replace hI : Inv B w671 H670 [.cb g_0 [ckV flW a0] 231] := hI
    refine lv (v := u32v ((x661 ^^^ x665) ^^^ x669)) rfl (q_xor rfl rfl rfl) rfl ?_
    refine lv (v := u32v ((x661 ^^^ x665) ^^^ x669)) rfl (r_as rfl rfl) rfl ?_
    refine wend ?_
    refine wthen ?_
    refine wren (fun ρ673 eρ673 => ?_)
    have h674 : opd ρ673 200 (.tmp 0) = .pointer (some ⟨g_0, 0 + 0, none⟩) := (eρ673 0).trans h650
    have h675 : opd ρ673 200 (.tmp 11) = u32v σ333.1 := (eρ673 11).trans h651
    have h676 : opd ρ673 200 (.tmp 12) = u32v σ333.2.1 := (eρ673 12).trans h652
    have h677 : opd ρ673 200 (.tmp 13) = u32v σ333.2.2.1 := (eρ673 13).trans h653
    have h678 : opd ρ673 200 (.tmp 14) = u32v σ333.2.2.2.1 := (eρ673 14).trans h654
    have h679 : opd ρ673 200 (.tmp 15) = u32v σ333.2.2.2.2.1 := (eρ673 15).trans h655
    have h680 : opd ρ673 200 (.tmp 16) = u32v σ333.2.2.2.2.2.1 := (eρ673 16).trans h656
    have h681 : opd ρ673 200 (.tmp 17) = u32v σ333.2.2.2.2.2.2.1 := (eρ673 17).trans h657
    have h682 : opd ρ673 200 (.tmp 22) = u32v ((((σ333.2.2.2.2.2.2.2 + ((x620 ^^^ x624) ^^^ x628)) + ((σ333.2.2.2.2.1 &&& σ333.2.2.2.2.2.1) ^^^ ((~~~σ333.2.2.2.2.1) &&& σ333.2.2.2.2.2.2.1))) + x647) + x605) := (eρ673 22).trans h658
    have h683 : opd ρ673 200 (.tmp 23) = u32v ((x661 ^^^ x665) ^^^ x669) := eρ673 23
    have h684 : opd ρ673 200 (.tmp 112) = .agg (flat [ckV flW σ112.2]).toArray := (eρ673 112).trans h659
    have h685 : opd ρ673 200 (.tmp 113) = .int .i64 (i333 : Int) := (eρ673 113).trans h660
    clear eρ673
    refine wseq ?_
    refine wreg ?_
    refine lv (v := u32v ((x661 ^^^ x665) ^^^ x669)) rfl (r_mv rfl h683) rfl ?_
    refine lv (v := u32v σ333.1) rfl (r_mv rfl h675) rfl ?_
    refine lv (v := u32v σ333.2.1) rfl (r_mv rfl h676) rfl ?_
    refine lv (v := u32v (σ333.1 &&& σ333.2.1)) rfl (q_and rfl rfl rfl) rfl ?_
    refine lv (v := u32v σ333.1) rfl (r_mv rfl h675) rfl ?_
    refine lv (v := u32v σ333.2.2.1) rfl (r_mv rfl h677) rfl ?_
    refine lv (v := u32v (σ333.1 &&& σ333.2.2.1)) rfl (q_and rfl rfl rfl) rfl ?_
    refine lv (v := u32v ((σ333.1 &&& σ333.2.1) ^^^ (σ333.1 &&& σ333.2.2.1))) rfl (q_xor rfl rfl rfl) rfl ?_
    refine lv (v := u32v σ333.2.1) rfl (r_mv rfl h676) rfl ?_
    refine lv (v := u32v σ333.2.2.1) rfl (r_mv rfl h677) rfl ?_
    refine lv (v := u32v (σ333.2.1 &&& σ333.2.2.1)) rfl (q_and rfl rfl rfl) rfl ?_
    refine lv (v := u32v (((σ333.1 &&& σ333.2.1) ^^^ (σ333.1 &&& σ333.2.2.1)) ^^^ (σ333.2.1 &&& σ333.2.2.1))) rfl (q_xor rfl rfl rfl) rfl ?_
    refine lv (v := u32v (((x661 ^^^ x665) ^^^ x669) + (((σ333.1 &&& σ333.2.1) ^^^ (σ333.1 &&& σ333.2.2.1)) ^^^ (σ333.2.1 &&& σ333.2.2.1)))) rfl (q_add rfl rfl rfl) rfl ?_
    refine lv (v := u32v (((x661 ^^^ x665) ^^^ x669) + (((σ333.1 &&& σ333.2.1) ^^^ (σ333.1 &&& σ333.2.2.1)) ^^^ (σ333.2.1 &&& σ333.2.2.1)))) rfl (r_as rfl rfl) rfl ?_
    refine wend ?_
    refine wthen ?_
    refine wren (fun ρ686 eρ686 => ?_)
    have h687 : opd ρ686 200 (.tmp 0) = .pointer (some ⟨g_0, 0 + 0, none⟩) := (eρ686 0).trans h674
    have h688 : opd ρ686 200 (.tmp 11) = u32v σ333.1 := (eρ686 11).trans h675
    have h689 : opd ρ686 200 (.tmp 12) = u32v σ333.2.1 := (eρ686 12).trans h676
    have h690 : opd ρ686 200 (.tmp 13) = u32v σ333.2.2.1 := (eρ686 13).trans h677
    have h691 : opd ρ686 200 (.tmp 14) = u32v σ333.2.2.2.1 := (eρ686 14).trans h678
    have h692 : opd ρ686 200 (.tmp 15) = u32v σ333.2.2.2.2.1 := (eρ686 15).trans h679
    have h693 : opd ρ686 200 (.tmp 16) = u32v σ333.2.2.2.2.2.1 := (eρ686 16).trans h680
    have h694 : opd ρ686 200 (.tmp 17) = u32v σ333.2.2.2.2.2.2.1 := (eρ686 17).trans h681
    have h695 : opd ρ686 200 (.tmp 22) = u32v ((((σ333.2.2.2.2.2.2.2 + ((x620 ^^^ x624) ^^^ x628)) + ((σ333.2.2.2.2.1 &&& σ333.2.2.2.2.2.1) ^^^ ((~~~σ333.2.2.2.2.1) &&& σ333.2.2.2.2.2.2.1))) + x647) + x605) := (eρ686 22).trans h682
    have h696 : opd ρ686 200 (.tmp 23) = u32v (((x661 ^^^ x665) ^^^ x669) + (((σ333.1 &&& σ333.2.1) ^^^ (σ333.1 &&& σ333.2.2.1)) ^^^ (σ333.2.1 &&& σ333.2.2.1))) := eρ686 23
    have h697 : opd ρ686 200 (.tmp 112) = .agg (flat [ckV flW σ112.2]).toArray := (eρ686 112).trans h684
    have h698 : opd ρ686 200 (.tmp 113) = .int .i64 (i333 : Int) := (eρ686 113).trans h685
    clear eρ686
    refine wreg ?_
    refine lv (v := u32v ((((σ333.2.2.2.2.2.2.2 + ((x620 ^^^ x624) ^^^ x628)) + ((σ333.2.2.2.2.1 &&& σ333.2.2.2.2.2.1) ^^^ ((~~~σ333.2.2.2.2.1) &&& σ333.2.2.2.2.2.2.1))) + x647) + x605)) rfl (r_mv rfl h695) rfl ?_
    refine lv (v := u32v (((x661 ^^^ x665) ^^^ x669) + (((σ333.1 &&& σ333.2.1) ^^^ (σ333.1 &&& σ333.2.2.1)) ^^^ (σ333.2.1 &&& σ333.2.2.1)))) rfl (r_mv rfl h696) rfl ?_
    refine lv (v := u32v (((((σ333.2.2.2.2.2.2.2 + ((x620 ^^^ x624) ^^^ x628)) + ((σ333.2.2.2.2.1 &&& σ333.2.2.2.2.2.1) ^^^ ((~~~σ333.2.2.2.2.1) &&& σ333.2.2.2.2.2.2.1))) + x647) + x605) + (((x661 ^^^ x665) ^^^ x669) + (((σ333.1 &&& σ333.2.1) ^^^ (σ333.1 &&& σ333.2.2.1)) ^^^ (σ333.2.1 &&& σ333.2.2.1))))) rfl (q_add rfl rfl rfl) rfl ?_
    refine lv (v := u32v σ333.1) rfl (r_mv rfl h688) rfl ?_
    refine lv (v := u32v σ333.2.1) rfl (r_mv rfl h689) rfl ?_
    refine lv (v := u32v σ333.2.2.1) rfl (r_mv rfl h690) rfl ?_
    refine lv (v := u32v σ333.2.2.2.1) rfl (r_mv rfl h691) rfl ?_
    refine lv (v := u32v ((((σ333.2.2.2.2.2.2.2 + ((x620 ^^^ x624) ^^^ x628)) + ((σ333.2.2.2.2.1 &&& σ333.2.2.2.2.2.1) ^^^ ((~~~σ333.2.2.2.2.1) &&& σ333.2.2.2.2.2.2.1))) + x647) + x605)) rfl (r_mv rfl h695) rfl ?_
    refine lv (v := u32v (σ333.2.2.2.1 + ((((σ333.2.2.2.2.2.2.2 + ((x620 ^^^ x624) ^^^ x628)) + ((σ333.2.2.2.2.1 &&& σ333.2.2.2.2.2.1) ^^^ ((~~~σ333.2.2.2.2.1) &&& σ333.2.2.2.2.2.2.1))) + x647) + x605))) rfl (q_add rfl rfl rfl) rfl ?_
    refine lv (v := u32v σ333.2.2.2.2.1) rfl (r_mv rfl h692) rfl ?_
    refine lv (v := u32v σ333.2.2.2.2.2.1) rfl (r_mv rfl h693) rfl ?_
    refine lv (v := u32v σ333.2.2.2.2.2.2.1) rfl (r_mv rfl h694) rfl ?_
    refine lv (v := u32v (((((σ333.2.2.2.2.2.2.2 + ((x620 ^^^ x624) ^^^ x628)) + ((σ333.2.2.2.2.1 &&& σ333.2.2.2.2.2.1) ^^^ ((~~~σ333.2.2.2.2.1) &&& σ333.2.2.2.2.2.2.1))) + x647) + x605) + (((x661 ^^^ x665) ^^^ x669) + (((σ333.1 &&& σ333.2.1) ^^^ (σ333.1 &&& σ333.2.2.1)) ^^^ (σ333.2.1 &&& σ333.2.2.1))))) rfl (r_as rfl rfl) rfl ?_
    refine lv (v := u32v σ333.1) rfl (r_as rfl rfl) rfl ?_
    refine lv (v := u32v σ333.2.1) rfl (r_as rfl rfl) rfl ?_
    refine lv (v := u32v σ333.2.2.1) rfl (r_as rfl rfl) rfl ?_
    refine lv (v := u32v (σ333.2.2.2.1 + ((((σ333.2.2.2.2.2.2.2 + ((x620 ^^^ x624) ^^^ x628)) + ((σ333.2.2.2.2.1 &&& σ333.2.2.2.2.2.1) ^^^ ((~~~σ333.2.2.2.2.1) &&& σ333.2.2.2.2.2.2.1))) + x647) + x605))) rfl (r_as rfl rfl) rfl ?_
    refine lv (v := u32v σ333.2.2.2.2.1) rfl (r_as rfl rfl) rfl ?_
    refine lv (v := u32v σ333.2.2.2.2.2.1) rfl (r_as rfl rfl) rfl ?_
    refine lv (v := u32v σ333.2.2.2.2.2.2.1) rfl (r_as rfl rfl) rfl ?_
    refine wend ?_
    refine inN ?_
    refine wthen ?_
    refine wren (fun ρ699 eρ699 => ?_)
    have h700 : opd ρ699 200 (.tmp 0) = .pointer (some ⟨g_0, 0 + 0, none⟩) := (eρ699 0).trans h687
    have h701 : opd ρ699 200 (.tmp 11) = u32v (((((σ333.2.2.2.2.2.2.2 + ((x620 ^^^ x624) ^^^ x628)) + ((σ333.2.2.2.2.1 &&& σ333.2.2.2.2.2.1) ^^^ ((~~~σ333.2.2.2.2.1) &&& σ333.2.2.2.2.2.2.1))) + x647) + x605) + (((x661 ^^^ x665) ^^^ x669) + (((σ333.1 &&& σ333.2.1) ^^^ (σ333.1 &&& σ333.2.2.1)) ^^^ (σ333.2.1 &&& σ333.2.2.1)))) := eρ699 11
    have h702 : opd ρ699 200 (.tmp 12) = u32v σ333.1 := eρ699 12
    have h703 : opd ρ699 200 (.tmp 13) = u32v σ333.2.1 := eρ699 13
    have h704 : opd ρ699 200 (.tmp 14) = u32v σ333.2.2.1 := eρ699 14
    have h705 : opd ρ699 200 (.tmp 15) = u32v (σ333.2.2.2.1 + ((((σ333.2.2.2.2.2.2.2 + ((x620 ^^^ x624) ^^^ x628)) + ((σ333.2.2.2.2.1 &&& σ333.2.2.2.2.2.1) ^^^ ((~~~σ333.2.2.2.2.1) &&& σ333.2.2.2.2.2.2.1))) + x647) + x605)) := eρ699 15
    have h706 : opd ρ699 200 (.tmp 16) = u32v σ333.2.2.2.2.1 := eρ699 16
    have h707 : opd ρ699 200 (.tmp 17) = u32v σ333.2.2.2.2.2.1 := eρ699 17
    have h708 : opd ρ699 200 (.tmp 18) = u32v σ333.2.2.2.2.2.2.1 := eρ699 18
    have h709 : opd ρ699 200 (.tmp 112) = .agg (flat [ckV flW σ112.2]).toArray := (eρ699 112).trans h697
    have h710 : opd ρ699 200 (.tmp 113) = .int .i64 (i333 : Int) := (eρ699 113).trans h698
    clear eρ699
    refine wreg ?_
    refine lv (v := .int .i64 ((i333 + 1 : Nat) : Int)) rfl (r_addn rfl h710 rfl hlt333) rfl ?_
    refine lv (v := .int .i64 ((i333 + 1 : Nat) : Int)) rfl (r_mv rfl rfl) rfl ?_
    refine wend ?_
    obtain rfl := Option.some.inj hF
    exact ⟨k333, ((((((σ333.2.2.2.2.2.2.2 + ((x620 ^^^ x624) ^^^ x628)) + ((σ333.2.2.2.2.1 &&& σ333.2.2.2.2.2.1) ^^^ ((~~~σ333.2.2.2.2.1) &&& σ333.2.2.2.2.2.2.1))) + x647) + x605) + (((x661 ^^^ x665) ^^^ x669) + (((σ333.1 &&& σ333.2.1) ^^^ (σ333.1 &&& σ333.2.2.1)) ^^^ (σ333.2.1 &&& σ333.2.2.1)))), σ333.1, σ333.2.1, σ333.2.2.1, (σ333.2.2.2.1 + ((((σ333.2.2.2.2.2.2.2 + ((x620 ^^^ x624) ^^^ x628)) + ((σ333.2.2.2.2.1 &&& σ333.2.2.2.2.2.1) ^^^ ((~~~σ333.2.2.2.2.1) &&& σ333.2.2.2.2.2.2.1))) + x647) + x605)), σ333.2.2.2.2.1, σ333.2.2.2.2.2.1, σ333.2.2.2.2.2.2.1), _, rfl, rfl, ⟨H670, ((((((hleH578.trans hleH621).trans hleH625).trans hleH629).trans hleH662).trans hleH666).trans hleH670), h700, h701, h702, h703, h704, h705, h706, h707, h708, h709, rfl, hI⟩, forK_inl hy333 hb333⟩
   ·skip
    have hbhc592 : (decide ((i333 : Int) < 64)) = false := decide_eq_false hc592
    obtain rfl : k333 = 0 := by omega
    obtain rfl := forK_end hy333
    have hF := hF333
    try dsimp only at hF
    refine wcF ((show opd _ _ _ = _ from rfl).trans (congrArg Value.bool hbhc592)) ?_
    refine wp_exit ?_
    refine thE ?_
    refine thE ?_
    refine inX ?_
    refine wthen ?_
    refine wren (fun ρ711 eρ711 => ?_)
    have h712 : opd ρ711 200 (.tmp 0) = .pointer (some ⟨g_0, 0 + 0, none⟩) := (eρ711 0).trans h579
    have h713 : opd ρ711 200 (.tmp 11) = u32v σ333.1 := (eρ711 11).trans h580
    have h714 : opd ρ711 200 (.tmp 12) = u32v σ333.2.1 := (eρ711 12).trans h581
    have h715 : opd ρ711 200 (.tmp 13) = u32v σ333.2.2.1 := (eρ711 13).trans h582
    have h716 : opd ρ711 200 (.tmp 14) = u32v σ333.2.2.2.1 := (eρ711 14).trans h583
    have h717 : opd ρ711 200 (.tmp 15) = u32v σ333.2.2.2.2.1 := (eρ711 15).trans h584
    have h718 : opd ρ711 200 (.tmp 16) = u32v σ333.2.2.2.2.2.1 := (eρ711 16).trans h585
    have h719 : opd ρ711 200 (.tmp 17) = u32v σ333.2.2.2.2.2.2.1 := (eρ711 17).trans h586
    have h720 : opd ρ711 200 (.tmp 18) = u32v σ333.2.2.2.2.2.2.2 := (eρ711 18).trans h587
    clear eρ711
    refine wseq ?_
    refine wreg ?_
    refine lv (v := u32v σ333.1) rfl (r_mv rfl h713) rfl ?_
    refine lv (v := u32v σ333.2.1) rfl (r_mv rfl h714) rfl ?_
    refine lv (v := u32v σ333.2.2.1) rfl (r_mv rfl h715) rfl ?_
    refine lv (v := u32v σ333.2.2.2.1) rfl (r_mv rfl h716) rfl ?_
    refine lv (v := u32v σ333.2.2.2.2.1) rfl (r_mv rfl h717) rfl ?_
    refine lv (v := u32v σ333.2.2.2.2.2.1) rfl (r_mv rfl h718) rfl ?_
    refine lv (v := u32v σ333.2.2.2.2.2.2.1) rfl (r_mv rfl h719) rfl ?_
    refine lv (v := u32v σ333.2.2.2.2.2.2.2) rfl (r_mv rfl h720) rfl ?_
    refine lv (v := .agg (flat [ckV flW (⟨[σ333.1, σ333.2.1, σ333.2.2.1, σ333.2.2.2.1, σ333.2.2.2.2.1, σ333.2.2.2.2.2.1, σ333.2.2.2.2.2.2.1, σ333.2.2.2.2.2.2.2], rfl⟩ : Vec UInt32 8)]).toArray) rfl (r_bldv (f := flW) (xs := [σ333.1, σ333.2.1, σ333.2.2.1, σ333.2.2.2.1, σ333.2.2.2.2.1, σ333.2.2.2.2.2.1, σ333.2.2.2.2.2.2.1, σ333.2.2.2.2.2.2.2]) (vs := [u32v σ333.1, u32v σ333.2.1, u32v σ333.2.2.1, u32v σ333.2.2.2.1, u32v σ333.2.2.2.2.1, u32v σ333.2.2.2.2.2.1, u32v σ333.2.2.2.2.2.2.1, u32v σ333.2.2.2.2.2.2.2]) rfl ze230 rfl ar230 rfl (argc rfl (argc rfl (argc rfl (argc rfl (argc rfl (argc rfl (argc rfl (argc rfl rfl)))))))) rfl) rfl ?_
    refine lv (v := .int .i64 0) rfl (r_mv rfl rfl) rfl ?_
    refine wend ?_
    refine wthen ?_
    refine wren (fun ρ721 eρ721 => ?_)
    have h722 : opd ρ721 200 (.tmp 0) = .pointer (some ⟨g_0, 0 + 0, none⟩) := (eρ721 0).trans h712
    have h723 : opd ρ721 200 (.tmp 185) = .agg (flat [ckV flW (⟨[σ333.1, σ333.2.1, σ333.2.2.1, σ333.2.2.2.1, σ333.2.2.2.2.1, σ333.2.2.2.2.2.1, σ333.2.2.2.2.2.2.1, σ333.2.2.2.2.2.2.2], rfl⟩ : Vec UInt32 8)]).toArray := eρ721 185
    have h724 : opd ρ721 200 (.tmp 186) = .int .i64 0 := eρ721 186
    clear eρ721
    refine wp_block ?_
    obtain ⟨y725, hy725, hF725⟩ := Option.bind_eq_some_iff.1 hF
    refine wfor (n := 200) 8 _ (fun (i725 : Nat) (σ725 : (Vec UInt32 8)) ρ' w' => ∃ (H776 : Hp), Hle H578 H776 ∧ opd ρ' 200 (.tmp 0) = .pointer (some ⟨g_0, 0 + 0, none⟩) ∧ opd ρ' 200 (.tmp 185) = .agg (flat [ckV flW (⟨[σ333.1, σ333.2.1, σ333.2.2.1, σ333.2.2.2.1, σ333.2.2.2.2.1, σ333.2.2.2.2.2.1, σ333.2.2.2.2.2.2.1, σ333.2.2.2.2.2.2.2], rfl⟩ : Vec UInt32 8)]).toArray ∧ opd ρ' 200 (.tmp 186) = .int .i64 (i725 : Int) ∧ Inv B w' H776 [.cb g_0 [ckV flW σ725] 231]) hy725 ⟨H578, (Hle.refl _), h722, h723, h724, hI⟩ ?_
    rintro k725 i725 σ725 ρ780 w781 hk725 ⟨H776, hleH776, h777, h778, h779, hI⟩ hy725
    refine wseq ?_
    refine wreg ?_
    refine lv (v := .bool (decide ((i725 : Int) < 8))) rfl (r_lss rfl h779 rfl rfl) rfl ?_
    refine wend ?_
    refine wthen ?_
    refine wseq ?_
    by_cases hc782 : (i725 : Int) < 8
    ·skip
     have hbhc782 : (decide ((i725 : Int) < 8)) = true := decide_eq_true hc782
     obtain ⟨k725, rfl⟩ : ∃ m, k725 = m + 1 := ⟨k725 - 1, by omega⟩
     obtain ⟨z725, hb725⟩ := forK_body hy725
     have hF := hb725
     have hlt725 : ((i725 : Nat) : Int) + 1 ≤ 9223372036854775807 := by omega
     refine wcT ((show opd _ _ _ = _ from rfl).trans (congrArg Value.bool hbhc782)) ?_
     refine wp_skip ?_
     refine wthen ?_
     refine wren (fun ρ783 eρ783 => ?_)
     have h784 : opd ρ783 200 (.tmp 0) = .pointer (some ⟨g_0, 0 + 0, none⟩) := (eρ783 0).trans h777
     have h785 : opd ρ783 200 (.tmp 185) = .agg (flat [ckV flW (⟨[σ333.1, σ333.2.1, σ333.2.2.1, σ333.2.2.2.1, σ333.2.2.2.2.1, σ333.2.2.2.2.2.1, σ333.2.2.2.2.2.2.1, σ333.2.2.2.2.2.2.2], rfl⟩ : Vec UInt32 8)]).toArray := (eρ783 185).trans h778
     have h786 : opd ρ783 200 (.tmp 186) = .int .i64 (i725 : Int) := (eρ783 186).trans h779
     clear eρ783
     refine wseq ?_
     refine wp_block ?_
     refine wseq ?_
     refine wreg ?_
     refine lv (v := .int .i64 (i725 : Int)) rfl (r_mv rfl h786) rfl ?_
     obtain ⟨x787, hx787, hF⟩ := Option.bind_eq_some_iff.1 hF
     refine lv (v := u32v x787) rfl (r_ixv1 (f := flW) rfl ar230 sc229 h785 h786 rfl hx787 rfl) rfl ?_
     refine lv (v := .int .i64 (i725 : Int)) rfl (r_as rfl rfl) rfl ?_
     refine lv (v := u32v x787) rfl (r_as rfl rfl) rfl ?_
     refine wend ?_
     refine wthen ?_
     refine wren (fun ρ788 eρ788 => ?_)
     have h789 : opd ρ788 200 (.tmp 0) = .pointer (some ⟨g_0, 0 + 0, none⟩) := (eρ788 0).trans h784
     have h790 : opd ρ788 200 (.tmp 24) = .int .i64 (i725 : Int) := eρ788 24
     have h791 : opd ρ788 200 (.tmp 25) = u32v x787 := eρ788 25
     have h792 : opd ρ788 200 (.tmp 185) = .agg (flat [ckV flW (⟨[σ333.1, σ333.2.1, σ333.2.2.1, σ333.2.2.2.1, σ333.2.2.2.2.1, σ333.2.2.2.2.2.1, σ333.2.2.2.2.2.2.1, σ333.2.2.2.2.2.2.2], rfl⟩ : Vec UInt32 8)]).toArray := (eρ788 185).trans h785
     have h793 : opd ρ788 200 (.tmp 186) = .int .i64 (i725 : Int) := (eρ788 186).trans h786
     clear eρ788
     refine dstG (H0 := H776) (L0 := keepL [true] [.cb g_0 [ckV flW σ725] 231]) [9] mixed rfl (by repeat (first | exact Pan.body | refine Pan.then ?_ | refine Pan.inBlock ?_ | refine Pan.noGoto ?_ | refine Pan.pure ?_)) hI (hI.good.weakm _ (Hle.refl _) rfl) ?_
     intro w794 hI hP
     refine dp (v := .pointer (some ⟨g_0, 0 + 0, none⟩)) 0 (by kernel_rfl) rfl rfl (fun _ => r_mv rfl h789) rfl hP ?_
     refine dp (v := .int .i64 (i725 : Int)) 1 (by kernel_rfl) rfl rfl (fun _ => r_mv rfl h790) rfl hP ?_
     refine dp (v := .pointer (some ⟨g_0, 0 + 0, none⟩)) 2 (by kernel_rfl) rfl rfl (fun _ => r_nilc rfl rfl) rfl hP ?_
     obtain ⟨x795, hx795, hF⟩ := Option.bind_eq_some_iff.1 hF
     obtain ⟨q796, eq796⟩ : ∃ z, z = 0 + 0 + i725 * 1 := ⟨_, rfl⟩
     refine dp (v := .pointer (some ⟨g_0, q796 + 0, none⟩)) 3 (by kernel_rfl) rfl rfl (fun _ => r_ixq rfl ar231 rfl rfl rfl (Vec.lt hx795) eq796) rfl hP ?_
     refine dp (v := u32v x787) 5 (by kernel_rfl) rfl rfl (fun _ => r_mv rfl h791) rfl hP ?_
     refine dp (v := .pointer (some ⟨g_0, 0 + 0, none⟩)) 7 (by kernel_rfl) rfl rfl (fun _ => r_nilc rfl rfl) rfl hP ?_
     refine dr (v := u32v x795) 4 (by kernel_rfl) rfl rfl (hI.good.weakm [true] (Hle.refl _) rfl) (fun _ hG => r_cl1 (off := 0) (p := 0) (CA.el (f := flW) (m := 8) (off := 0) (p := 0) (hG.ca 0 rfl) rfl rfl hx795 eq796) rfl sc229 rfl rfl rfl) rfl hP ?_
     refine dp (v := u32v (x795 + x787)) 6 (by kernel_rfl) rfl rfl (fun _ => q_add rfl rfl rfl) rfl hP ?_
     obtain ⟨x797, hx797, hF⟩ := Option.bind_eq_some_iff.1 hF
     obtain ⟨q798, eq798⟩ : ∃ z, z = 0 + 0 + i725 * 1 := ⟨_, rfl⟩
     refine dp (v := .pointer (some ⟨g_0, q798 + 0, none⟩)) 8 (by kernel_rfl) rfl rfl (fun _ => r_ixq rfl ar231 rfl rfl rfl (Vec.lt hx797) eq798) rfl hP ?_
     refine dsl 9 (by kernel_rfl) rfl rfl rfl (l_sta (f := flW) (m := 8) (vv := σ725) (off := 0) (p := 0) (k := i725) (x1 := (x795 + x787)) hI 0 rfl rfl sz229 rfl eq798 rfl rfl rfl rfl hx797 rfl) rfl ?_
     intro w799 hI
     replace hI : Inv B w799 H776 [.cb g_0 [ckV flW (Vec.set σ725 i725 (x795 + x787))] 231] := hI
     refine dend (by kernel_rfl) ?_
     refine inN ?_
     refine wthen ?_
     refine wren (fun ρ800 eρ800 => ?_)
     have h801 : opd ρ800 200 (.tmp 0) = .pointer (some ⟨g_0, 0 + 0, none⟩) := (eρ800 0).trans h789
     have h802 : opd ρ800 200 (.tmp 185) = .agg (flat [ckV flW (⟨[σ333.1, σ333.2.1, σ333.2.2.1, σ333.2.2.2.1, σ333.2.2.2.2.1, σ333.2.2.2.2.2.1, σ333.2.2.2.2.2.2.1, σ333.2.2.2.2.2.2.2], rfl⟩ : Vec UInt32 8)]).toArray := (eρ800 185).trans h792
     have h803 : opd ρ800 200 (.tmp 186) = .int .i64 (i725 : Int) := (eρ800 186).trans h793
     clear eρ800
     refine wreg ?_
     refine lv (v := .int .i64 ((i725 + 1 : Nat) : Int)) rfl (r_addn rfl h803 rfl hlt725) rfl ?_
     refine lv (v := .int .i64 ((i725 + 1 : Nat) : Int)) rfl (r_mv rfl rfl) rfl ?_
     refine wend ?_
     obtain rfl := Option.some.inj hF
     exact ⟨k725, (Vec.set σ725 i725 (x795 + x787)), _, rfl, rfl, ⟨H776, hleH776, h801, h802, rfl, hI⟩, forK_inl hy725 hb725⟩
    ·skip
     have hbhc782 : (decide ((i725 : Int) < 8)) = false := decide_eq_false hc782
     obtain rfl : k725 = 0 := by omega
     obtain rfl := forK_end hy725
     have hF := hF725
     try dsimp only at hF
     refine wcF ((show opd _ _ _ = _ from rfl).trans (congrArg Value.bool hbhc782)) ?_
     refine wp_exit ?_
     refine thE ?_
     refine thE ?_
     refine inX ?_
     obtain rfl := Option.some.inj hF
     subst hB
     refine finN (rs := []) (vs := []) rfl trivial ?_
     exact hI.fin 1 ⟨rfl, rfl⟩
noncomputable def M_sha_Of (a0 : List (List UInt8)) : Option ((Vec UInt8 32)) := ((forK (fun (i37 : Nat) (σ37 : Int × Int × (Vec UInt32 8) × (Vec UInt8 64)) => (((a0[i37]?).bind fun x565 => (runL (fun (σ592 : Int × (List UInt8) × (Vec UInt32 8) × (Vec UInt8 64)) => ((if (0 : Int) < (σ592.2.1.length : Int) then (if (0 : Int) ≤ σ592.1 ∧ σ592.1 ≤ 64 then ((cutI σ592.2.1 ((min σ592.2.1.length (64 - (σ592.1 : Int).toNat) : Nat) : Int) (σ592.2.1.length : Int)).bind fun x766 => (if (wI (σ592.1 + ((min σ592.2.1.length (64 - (σ592.1 : Int).toNat) : Nat) : Int))) = 64 then ((M_sha_state_block σ592.2.2.1 (Vec.paste σ592.2.2.2 ((σ592.1 : Int).toNat) (List.take (64 - (σ592.1 : Int).toNat) σ592.2.1)).l).bind fun x791 => some (.inl (0, x766, x791, (Vec.paste σ592.2.2.2 ((σ592.1 : Int).toNat) (List.take (64 - (σ592.1 : Int).toNat) σ592.2.1))))) else some (.inl (wI (σ592.1 + ((min σ592.2.1.length (64 - (σ592.1 : Int).toNat) : Nat) : Int)), x766, σ592.2.2.1, (Vec.paste σ592.2.2.2 ((σ592.1 : Int).toNat) (List.take (64 - (σ592.1 : Int).toNat) σ592.2.1)))))) else none) else ((some (.inl (wI (σ37.1 + (x565.length : Int)), σ592.1, σ592.2.2.1, σ592.2.2.2))).map Sum.inr)) : Option ((Int × (List UInt8) × (Vec UInt32 8) × (Vec UInt8 64)) ⊕ ((Int × Int × (Vec UInt32 8) × (Vec UInt8 64)) ⊕ (Vec UInt8 32))))) (σ37.2.1, x565, σ37.2.2.1, σ37.2.2.2))) : Option ((Int × Int × (Vec UInt32 8) × (Vec UInt8 64)) ⊕ (Vec UInt8 32)))) a0.length 0 (0, 0, (⟨[1779033703, 3144134277, 1013904242, 2773480762, 1359893119, 2600822924, 528734635, 1541459225], rfl⟩ : Vec UInt32 8), (Vec.rep 64 0))).bind fun y => match y with | .inl σ37 => ((ixI σ37.2.2.2.l σ37.2.1).bind fun x811 => (if (0 : Int) ≤ (wI (σ37.2.1 + 1)) ∧ (wI (σ37.2.1 + 1)) ≤ 64 then (if (56 : Int) ≤ σ37.2.1 then ((M_sha_state_block σ37.2.2.1 (Vec.paste (Vec.set σ37.2.2.2 ((σ37.2.1 : Int).toNat) 128) ((wI (σ37.2.1 + 1) : Int).toNat) (List.replicate (64 - (wI (σ37.2.1 + 1) : Int).toNat) 0)).l).bind fun x837 => ((forK (fun (i859 : Nat) (σ859 : (Vec UInt8 64)) => ((if (0 : Int) ≤ (wI ((56 : Int) - (wI ((8 : Int) * (i859 : Int))))) then ((ixI σ859.l (wI ((56 : Int) + (i859 : Int)))).bind fun x937 => some (.inl (Vec.set σ859 ((wI ((56 : Int) + (i859 : Int)) : Int).toNat) (u8I ((shrQ (shlQ (u64I σ37.1) 3) (wI ((56 : Int) - (wI ((8 : Int) * (i859 : Int)))))).toNat : Int))))) else none) : Option ((Vec UInt8 64) ⊕ (Vec UInt8 32)))) 8 0 (Vec.paste (Vec.paste (Vec.set σ37.2.2.2 ((σ37.2.1 : Int).toNat) 128) ((wI (σ37.2.1 + 1) : Int).toNat) (List.replicate (64 - (wI (σ37.2.1 + 1) : Int).toNat) 0)) 0 (List.replicate (64 - 0) 0))).bind fun y => match y with | .inl σ859 => ((M_sha_state_block x837 σ859.l).bind fun x951 => ((forK (fun (i969 : Nat) (σ969 : (Vec UInt8 32)) => (((ixI x951.l (wI (Int.tdiv (i969 : Int) 4))).bind fun x1041 => (if (0 : Int) ≤ (wI ((24 : Int) - (wI ((8 : Int) * (Int.tmod (i969 : Int) 4))))) then ((σ969.l[i969]?).bind fun x1044 => some (.inl (Vec.set σ969 i969 (u8I ((shrW x1041 (wI ((24 : Int) - (wI ((8 : Int) * (Int.tmod (i969 : Int) 4)))))).toNat : Int))))) else none)) : Option ((Vec UInt8 32) ⊕ (Vec UInt8 32)))) 32 0 (Vec.rep 32 0)).bind fun y => match y with | .inl σ969 => some σ969 | .inr r => some r)) | .inr r => some r)) else ((forK (fun (i1064 : Nat) (σ1064 : (Vec UInt8 64)) => ((if (0 : Int) ≤ (wI ((56 : Int) - (wI ((8 : Int) * (i1064 : Int))))) then ((ixI σ1064.l (wI ((56 : Int) + (i1064 : Int)))).bind fun x1142 => some (.inl (Vec.set σ1064 ((wI ((56 : Int) + (i1064 : Int)) : Int).toNat) (u8I ((shrQ (shlQ (u64I σ37.1) 3) (wI ((56 : Int) - (wI ((8 : Int) * (i1064 : Int)))))).toNat : Int))))) else none) : Option ((Vec UInt8 64) ⊕ (Vec UInt8 32)))) 8 0 (Vec.paste (Vec.set σ37.2.2.2 ((σ37.2.1 : Int).toNat) 128) ((wI (σ37.2.1 + 1) : Int).toNat) (List.replicate (64 - (wI (σ37.2.1 + 1) : Int).toNat) 0))).bind fun y => match y with | .inl σ1064 => ((M_sha_state_block σ37.2.2.1 σ1064.l).bind fun x1156 => ((forK (fun (i1174 : Nat) (σ1174 : (Vec UInt8 32)) => (((ixI x1156.l (wI (Int.tdiv (i1174 : Int) 4))).bind fun x1246 => (if (0 : Int) ≤ (wI ((24 : Int) - (wI ((8 : Int) * (Int.tmod (i1174 : Int) 4))))) then ((σ1174.l[i1174]?).bind fun x1249 => some (.inl (Vec.set σ1174 i1174 (u8I ((shrW x1246 (wI ((24 : Int) - (wI ((8 : Int) * (Int.tmod (i1174 : Int) 4)))))).toNat : Int))))) else none)) : Option ((Vec UInt8 32) ⊕ (Vec UInt8 32)))) 32 0 (Vec.rep 32 0)).bind fun y => match y with | .inl σ1174 => some σ1174 | .inr r => some r)) | .inr r => some r)) else none)) | .inr r => some r)
set_option maxHeartbeats 4000000 in
theorem spec_99 {w : World} {H : Hp} {a0 : List (List UInt8)} {s1 : Sv} {r : (Vec UInt8 32)} (hF : M_sha_Of a0 = some r) (hT : Tab H) (hG : Good w H []) (hs1 : Sl (Ty.sl (Fl.ty flB)) H s1 a0) :
  Fine Tryd.prog 99 [s1.v] w H [] (fun H' v L' => v = .agg (flat [ckV flB r]).toArray ∧ L' = []) := by
 unfold M_sha_Of at hF
 unfold Fine
 obtain ⟨B, hB⟩ : ∃ B : Base, B = ⟨w, H, blks []⟩ := ⟨_, rfl⟩
 have hI : Inv B w H [] := by rw [hB]; exact Inv.start hG
 refine enter (n := 86) (args := [s1.v]) Tryd.func99 rfl Tryd.ntmps99 (Nat.le_of_ble_eq_true rfl) ?_
 refine wseq ?_
 refine wreg ?_
 refine le rfl (l_al hI rfl ze29) rfl ?_
 rintro _ w3 ⟨g2, rfl, hI⟩
 replace hI : Inv B w3 H [.cb g2 [ckV flB (Vec.rep 32 0)] 29] := hI
 refine wend ?_
 refine wthen ?_
 refine wren (fun ρ4 eρ4 => ?_)
 have h5 : opd ρ4 86 (.tmp 0) = s1.v := eρ4 0
 have h6 : opd ρ4 86 (.tmp 2) = .pointer (some ⟨g2, 0 + 0, none⟩) := eρ4 2
 clear eρ4
 refine wseq ?_
 refine wreg ?_
 refine lv (v := .agg (flat [ckV flW (⟨[1779033703, 3144134277, 1013904242, 2773480762, 1359893119, 2600822924, 528734635, 1541459225], rfl⟩ : Vec UInt32 8)]).toArray) rfl (r_bldv (f := flW) (xs := [1779033703, 3144134277, 1013904242, 2773480762, 1359893119, 2600822924, 528734635, 1541459225]) (vs := [u32v 1779033703, u32v 3144134277, u32v 1013904242, u32v 2773480762, u32v 1359893119, u32v 2600822924, u32v 528734635, u32v 1541459225]) rfl ze231 rfl ar231 rfl (argc rfl (argc rfl (argc rfl (argc rfl (argc rfl (argc rfl (argc rfl (argc rfl rfl)))))))) rfl) rfl ?_
 refine le rfl (l_al hI rfl ze231) rfl ?_
 rintro _ w8 ⟨g7, rfl, hI⟩
 replace hI : Inv B w8 H [.cb g2 _ 29, .cb g7 [ckV flW (Vec.rep 8 0)] 231] := hI
 refine lst rfl (l_st (off := 0) (p := 0) (m := 1) (new := [ckV flW (⟨[1779033703, 3144134277, 1013904242, 2773480762, 1359893119, 2600822924, 528734635, 1541459225], rfl⟩ : Vec UInt32 8)]) hI 1 rfl rfl sz231 rfl rfl rfl rfl rfl rfl) rfl ?_
 intro w9 hI
 replace hI : Inv B w9 H [.cb g2 _ 29, .cb g7 [ckV flW (⟨[1779033703, 3144134277, 1013904242, 2773480762, 1359893119, 2600822924, 528734635, 1541459225], rfl⟩ : Vec UInt32 8)] 231] := hI
 refine wend ?_
 refine wthen ?_
 refine wren (fun ρ10 eρ10 => ?_)
 have h11 : opd ρ10 86 (.tmp 0) = s1.v := (eρ10 0).trans h5
 have h12 : opd ρ10 86 (.tmp 2) = .pointer (some ⟨g2, 0 + 0, none⟩) := (eρ10 2).trans h6
 have h13 : opd ρ10 86 (.tmp 3) = .pointer (some ⟨g7, 0 + 0, none⟩) := eρ10 3
 clear eρ10
 refine wseq ?_
 refine wreg ?_
 refine le rfl (l_al hI rfl ze232) rfl ?_
 rintro _ w15 ⟨g14, rfl, hI⟩
 replace hI : Inv B w15 H [.cb g2 _ 29, .cb g7 _ 231, .cb g14 [ckV flB (Vec.rep 64 0)] 232] := hI
 refine wend ?_
 refine wthen ?_
 refine wren (fun ρ16 eρ16 => ?_)
 have h17 : opd ρ16 86 (.tmp 0) = s1.v := (eρ16 0).trans h11
 have h18 : opd ρ16 86 (.tmp 2) = .pointer (some ⟨g2, 0 + 0, none⟩) := (eρ16 2).trans h12
 have h19 : opd ρ16 86 (.tmp 3) = .pointer (some ⟨g7, 0 + 0, none⟩) := (eρ16 3).trans h13
 have h20 : opd ρ16 86 (.tmp 4) = .pointer (some ⟨g14, 0 + 0, none⟩) := eρ16 4
 clear eρ16
 refine wseq ?_
 refine wreg ?_
 refine lv (v := .int .i64 0) rfl (r_as rfl rfl) rfl ?_
 refine lv (v := .int .i64 0) rfl (r_as rfl rfl) rfl ?_
 refine wend ?_
 refine wthen ?_
 refine wren (fun ρ21 eρ21 => ?_)
 have h22 : opd ρ21 86 (.tmp 0) = s1.v := (eρ21 0).trans h17
 have h23 : opd ρ21 86 (.tmp 2) = .pointer (some ⟨g2, 0 + 0, none⟩) := (eρ21 2).trans h18
 have h24 : opd ρ21 86 (.tmp 3) = .pointer (some ⟨g7, 0 + 0, none⟩) := (eρ21 3).trans h19
 have h25 : opd ρ21 86 (.tmp 4) = .pointer (some ⟨g14, 0 + 0, none⟩) := (eρ21 4).trans h20
 have h26 : opd ρ21 86 (.tmp 5) = .int .i64 0 := eρ21 5
 have h27 : opd ρ21 86 (.tmp 6) = .int .i64 0 := eρ21 6
 clear eρ21
 refine wseq ?_
 refine wseq ?_
 refine wreg ?_
 refine lv (v := s1.v) rfl (r_mv rfl h22) rfl ?_
 refine lv (v := .int .i64 (a0.length : Int)) rfl (r_lenS rfl sl228 rfl hs1) rfl ?_
 refine lv (v := .int .i64 0) rfl (r_mv rfl rfl) rfl ?_
 refine wend ?_
 refine wthen ?_
 refine wren (fun ρ28 eρ28 => ?_)
 have h29 : opd ρ28 86 (.tmp 2) = .pointer (some ⟨g2, 0 + 0, none⟩) := (eρ28 2).trans h23
 have h30 : opd ρ28 86 (.tmp 3) = .pointer (some ⟨g7, 0 + 0, none⟩) := (eρ28 3).trans h24
 have h31 : opd ρ28 86 (.tmp 4) = .pointer (some ⟨g14, 0 + 0, none⟩) := (eρ28 4).trans h25
 have h32 : opd ρ28 86 (.tmp 5) = .int .i64 0 := (eρ28 5).trans h26
 have h33 : opd ρ28 86 (.tmp 6) = .int .i64 0 := (eρ28 6).trans h27
 have h34 : opd ρ28 86 (.tmp 14) = s1.v := eρ28 14
 have h35 : opd ρ28 86 (.tmp 15) = .int .i64 (a0.length : Int) := eρ28 15
 have h36 : opd ρ28 86 (.tmp 16) = .int .i64 0 := eρ28 16
 clear eρ28
 refine wp_block ?_
 have hbd37 := (hs1).bd
 rw [(hs1).n] at hbd37
 obtain ⟨y37, hy37, hF37⟩ := Option.bind_eq_some_iff.1 hF
 refine wfor (n := 86) a0.length _ (fun (i37 : Nat) (σ37 : Int × Int × (Vec UInt32 8) × (Vec UInt8 64)) ρ' w' => ∃ (H544 : Hp), Hle H H544 ∧ opd ρ' 86 (.tmp 2) = .pointer (some ⟨g2, 0 + 0, none⟩) ∧ opd ρ' 86 (.tmp 3) = .pointer (some ⟨g7, 0 + 0, none⟩) ∧ opd ρ' 86 (.tmp 4) = .pointer (some ⟨g14, 0 + 0, none⟩) ∧ opd ρ' 86 (.tmp 5) = .int .i64 σ37.1 ∧ opd ρ' 86 (.tmp 6) = .int .i64 σ37.2.1 ∧ opd ρ' 86 (.tmp 14) = s1.v ∧ opd ρ' 86 (.tmp 15) = .int .i64 (a0.length : Int) ∧ opd ρ' 86 (.tmp 16) = .int .i64 (i37 : Int) ∧ Inv B w' H544 [.cb g2 [ckV flB (Vec.rep 32 0)] 29, .cb g7 [ckV flW σ37.2.2.1] 231, .cb g14 [ckV flB σ37.2.2.2] 232]) hy37 ⟨H, (Hle.refl _), h29, h30, h31, h32, h33, h34, h35, h36, hI⟩ ?_
 rintro k37 i37 σ37 ρ553 w554 hk37 ⟨H544, hleH544, h545, h546, h547, h548, h549, h550, h551, h552, hI⟩ hy37
 refine wseq ?_
 refine wreg ?_
 refine lv (v := .bool (decide ((i37 : Int) < (a0.length : Int)))) rfl (r_lss rfl h552 h551 rfl) rfl ?_
 refine wend ?_
 refine wthen ?_
 refine wseq ?_
 by_cases hc555 : (i37 : Int) < (a0.length : Int)
 ·skip
  have hbhc555 : (decide ((i37 : Int) < (a0.length : Int))) = true := decide_eq_true hc555
  obtain ⟨k37, rfl⟩ : ∃ m, k37 = m + 1 := ⟨k37 - 1, by omega⟩
  obtain ⟨z37, hb37⟩ := forK_body hy37
  have hF := hb37
  have hlt37 : ((i37 : Nat) : Int) + 1 ≤ 9223372036854775807 := by omega
  refine wcT ((show opd _ _ _ = _ from rfl).trans (congrArg Value.bool hbhc555)) ?_
  refine wp_skip ?_
  refine wthen ?_
  refine wren (fun ρ556 eρ556 => ?_)
  have h557 : opd ρ556 86 (.tmp 2) = .pointer (some ⟨g2, 0 + 0, none⟩) := (eρ556 2).trans h545
  have h558 : opd ρ556 86 (.tmp 3) = .pointer (some ⟨g7, 0 + 0, none⟩) := (eρ556 3).trans h546
  have h559 : opd ρ556 86 (.tmp 4) = .pointer (some ⟨g14, 0 + 0, none⟩) := (eρ556 4).trans h547
  have h560 : opd ρ556 86 (.tmp 5) = .int .i64 σ37.1 := (eρ556 5).trans h548
  have h561 : opd ρ556 86 (.tmp 6) = .int .i64 σ37.2.1 := (eρ556 6).trans h549
  have h562 : opd ρ556 86 (.tmp 14) = s1.v := (eρ556 14).trans h550
  have h563 : opd ρ556 86 (.tmp 15) = .int .i64 (a0.length : Int) := (eρ556 15).trans h551
  have h564 : opd ρ556 86 (.tmp 16) = .int .i64 (i37 : Int) := (eρ556 16).trans h552
  clear eρ556
  refine wseq ?_
  refine wp_block ?_
  refine wseq ?_
  refine wreg ?_
  obtain ⟨x565, hx565, hF⟩ := Option.bind_eq_some_iff.1 hF
  obtain ⟨b566, j567, _, hix568, hil569, ⟨s571, rfl, hs571⟩, hA570⟩ := (hs1.mono hleH544).ix hx565
  replace hA570 : At H544 b566 j567 [ckL s571] := hA570
  refine lv (v := .pointer (some ⟨b566, j567 + 0, none⟩)) rfl (r_ixt rfl sl228 h562 h564 rfl hix568 hil569) rfl ?_
  refine lv (v := s571.v) rfl (r_cl1 (off := 0) (p := 0) (hA570.ca hI.good) rfl sc158 rfl rfl rfl) rfl ?_
  refine lv (v := s571.v) rfl (r_as rfl rfl) rfl ?_
  refine wend ?_
  refine wthen ?_
  refine wren (fun ρ572 eρ572 => ?_)
  have h573 : opd ρ572 86 (.tmp 2) = .pointer (some ⟨g2, 0 + 0, none⟩) := (eρ572 2).trans h557
  have h574 : opd ρ572 86 (.tmp 3) = .pointer (some ⟨g7, 0 + 0, none⟩) := (eρ572 3).trans h558
  have h575 : opd ρ572 86 (.tmp 4) = .pointer (some ⟨g14, 0 + 0, none⟩) := (eρ572 4).trans h559
  have h576 : opd ρ572 86 (.tmp 5) = .int .i64 σ37.1 := (eρ572 5).trans h560
  have h577 : opd ρ572 86 (.tmp 6) = .int .i64 σ37.2.1 := (eρ572 6).trans h561
  have h578 : opd ρ572 86 (.tmp 8) = s571.v := eρ572 8
  have h579 : opd ρ572 86 (.tmp 14) = s1.v := (eρ572 14).trans h562
  have h580 : opd ρ572 86 (.tmp 15) = .int .i64 (a0.length : Int) := (eρ572 15).trans h563
  have h581 : opd ρ572 86 (.tmp 16) = .int .i64 (i37 : Int) := (eρ572 16).trans h564
  clear eρ572
  refine wseq ?_
  refine wreg ?_
  refine lv (v := .int .i64 σ37.1) rfl (r_mv rfl h576) rfl ?_
  refine lv (v := s571.v) rfl (r_mv rfl h578) rfl ?_
  refine lv (v := .int .i64 (x565.length : Int)) rfl (r_lenS rfl sl158 rfl hs571) rfl ?_
  refine lv (v := .int .i64 (wI (σ37.1 + (x565.length : Int)))) rfl (r_addw rfl rfl rfl) rfl ?_
  refine lv (v := .int .i64 (wI (σ37.1 + (x565.length : Int)))) rfl (r_as rfl rfl) rfl ?_
  refine wend ?_
  refine wthen ?_
  refine wren (fun ρ582 eρ582 => ?_)
  have h583 : opd ρ582 86 (.tmp 2) = .pointer (some ⟨g2, 0 + 0, none⟩) := (eρ582 2).trans h573
  have h584 : opd ρ582 86 (.tmp 3) = .pointer (some ⟨g7, 0 + 0, none⟩) := (eρ582 3).trans h574
  have h585 : opd ρ582 86 (.tmp 4) = .pointer (some ⟨g14, 0 + 0, none⟩) := (eρ582 4).trans h575
  have h586 : opd ρ582 86 (.tmp 5) = .int .i64 (wI (σ37.1 + (x565.length : Int))) := eρ582 5
  have h587 : opd ρ582 86 (.tmp 6) = .int .i64 σ37.2.1 := (eρ582 6).trans h577
  have h588 : opd ρ582 86 (.tmp 8) = s571.v := (eρ582 8).trans h578
  have h589 : opd ρ582 86 (.tmp 14) = s1.v := (eρ582 14).trans h579
  have h590 : opd ρ582 86 (.tmp 15) = .int .i64 (a0.length : Int) := (eρ582 15).trans h580
  have h591 : opd ρ582 86 (.tmp 16) = .int .i64 (i37 : Int) := (eρ582 16).trans h581
  clear eρ582
  refine wp_block ?_
  refine wrun (n := 86) _ (fun (σ592 : Int × (List UInt8) × (Vec UInt32 8) × (Vec UInt8 64)) ρ' w' => ∃ (H727 : Hp) (s726 : Sv), Hle H544 H727 ∧ opd ρ' 86 (.tmp 2) = .pointer (some ⟨g2, 0 + 0, none⟩) ∧ opd ρ' 86 (.tmp 3) = .pointer (some ⟨g7, 0 + 0, none⟩) ∧ opd ρ' 86 (.tmp 4) = .pointer (some ⟨g14, 0 + 0, none⟩) ∧ opd ρ' 86 (.tmp 5) = .int .i64 (wI (σ37.1 + (x565.length : Int))) ∧ opd ρ' 86 (.tmp 6) = .int .i64 σ592.1 ∧ opd ρ' 86 (.tmp 8) = s726.v ∧ opd ρ' 86 (.tmp 14) = s1.v ∧ opd ρ' 86 (.tmp 15) = .int .i64 (a0.length : Int) ∧ opd ρ' 86 (.tmp 16) = .int .i64 (i37 : Int) ∧ Sl (Fl.ty flB) H727 s726 σ592.2.1 ∧ Inv B w' H727 [.cb g2 [ckV flB (Vec.rep 32 0)] 29, .cb g7 [ckV flW σ592.2.2.1] 231, .cb g14 [ckV flB σ592.2.2.2] 232]) hF ⟨H544, s571, (Hle.refl _), h583, h584, h585, h586, h587, h588, h589, h590, h591, hs571, hI⟩ ?_
  rintro k592 σ592 ρ737 w738 ⟨H727, s726, hleH727, h728, h729, h730, h731, h732, h733, h734, h735, h736, hs726, hI⟩ hy592
  obtain ⟨z592, hb592⟩ := iterK_body hy592
  have hF := hb592
  refine wseq ?_
  refine wseq ?_
  refine wreg ?_
  refine lv (v := s726.v) rfl (r_mv rfl h733) rfl ?_
  refine lv (v := .int .i64 (σ592.2.1.length : Int)) rfl (r_lenS rfl sl158 rfl hs726) rfl ?_
  refine lv (v := .bool (decide ((0 : Int) < (σ592.2.1.length : Int)))) rfl (r_gtr rfl rfl rfl rfl) rfl ?_
  refine wend ?_
  refine wthen ?_
  refine wren (fun ρ739 eρ739 => ?_)
  have h740 : opd ρ739 86 (.tmp 2) = .pointer (some ⟨g2, 0 + 0, none⟩) := (eρ739 2).trans h728
  have h741 : opd ρ739 86 (.tmp 3) = .pointer (some ⟨g7, 0 + 0, none⟩) := (eρ739 3).trans h729
  have h742 : opd ρ739 86 (.tmp 4) = .pointer (some ⟨g14, 0 + 0, none⟩) := (eρ739 4).trans h730
  have h743 : opd ρ739 86 (.tmp 5) = .int .i64 (wI (σ37.1 + (x565.length : Int))) := (eρ739 5).trans h731
  have h744 : opd ρ739 86 (.tmp 6) = .int .i64 σ592.1 := (eρ739 6).trans h732
  have h745 : opd ρ739 86 (.tmp 8) = s726.v := (eρ739 8).trans h733
  have h746 : opd ρ739 86 (.tmp 14) = s1.v := (eρ739 14).trans h734
  have h747 : opd ρ739 86 (.tmp 15) = .int .i64 (a0.length : Int) := (eρ739 15).trans h735
  have h748 : opd ρ739 86 (.tmp 16) = .int .i64 (i37 : Int) := (eρ739 16).trans h736
  have h749 : opd ρ739 86 (.tmp 26) = .bool (decide ((0 : Int) < (σ592.2.1.length : Int))) := eρ739 26
  clear eρ739
  by_cases hc750 : (0 : Int) < (σ592.2.1.length : Int)
  ·skip
   rw [if_pos hc750] at hF
   have hbhc750 : (decide ((0 : Int) < (σ592.2.1.length : Int))) = true := decide_eq_true hc750
   refine wcT (h749.trans (congrArg Value.bool hbhc750)) ?_
   refine wp_skip ?_
   refine wthen ?_
   refine wp_block ?_
   refine wseq ?_
   refine wreg ?_
   refine lv (v := .int .i64 σ592.1) rfl (r_mv rfl h744) rfl ?_
   by_cases hc751 : (0 : Int) ≤ σ592.1 ∧ σ592.1 ≤ 64
   ·rw [if_pos hc751] at hF
    obtain ⟨q752, eq752⟩ : ∃ z : Nat, z = if 64 = (σ592.1 : Int).toNat then 0 else (σ592.1 : Int).toNat := ⟨_, rfl⟩
    have hlq752 : (σ592.1 : Int).toNat ≤ 64 := by omega
    refine lv (v := .slice (some ⟨g14, q752, none⟩) (64 - (σ592.1 : Int).toNat) (64 - (σ592.1 : Int).toNat)) rfl (r_slp (m := 64) (lo := (σ592.1 : Int).toNat) rfl ar232 h742 rfl (by omega) hlq752 eq752) rfl ?_
    refine lv (v := s726.v) rfl (r_mv rfl h745) rfl ?_
    refine le rfl (l_cp (i := 2) (lo := (σ592.1 : Int).toNat) (m := 64) (ys := σ592.2.1) hI rfl rfl sl158 rfl rfl hs726 hlq752 eq752) rfl ?_
    rintro _ w753 ⟨rfl, hI⟩
    replace hI : Inv B w753 H727 [.cb g2 _ 29, .cb g7 [ckV flW σ592.2.2.1] 231, .cb g14 [ckV flB (Vec.paste σ592.2.2.2 ((σ592.1 : Int).toNat) (List.take (64 - (σ592.1 : Int).toNat) σ592.2.1))] 232] := hI
    refine lv (v := .int .i64 ((min σ592.2.1.length (64 - (σ592.1 : Int).toNat) : Nat) : Int)) rfl (r_as rfl rfl) rfl ?_
    refine wend ?_
    refine wthen ?_
    refine wren (fun ρ754 eρ754 => ?_)
    have h755 : opd ρ754 86 (.tmp 2) = .pointer (some ⟨g2, 0 + 0, none⟩) := (eρ754 2).trans h740
    have h756 : opd ρ754 86 (.tmp 3) = .pointer (some ⟨g7, 0 + 0, none⟩) := (eρ754 3).trans h741
    have h757 : opd ρ754 86 (.tmp 4) = .pointer (some ⟨g14, 0 + 0, none⟩) := (eρ754 4).trans h742
    have h758 : opd ρ754 86 (.tmp 5) = .int .i64 (wI (σ37.1 + (x565.length : Int))) := (eρ754 5).trans h743
    have h759 : opd ρ754 86 (.tmp 6) = .int .i64 σ592.1 := (eρ754 6).trans h744
    have h760 : opd ρ754 86 (.tmp 8) = s726.v := (eρ754 8).trans h745
    have h761 : opd ρ754 86 (.tmp 9) = .int .i64 ((min σ592.2.1.length (64 - (σ592.1 : Int).toNat) : Nat) : Int) := eρ754 9
    have h762 : opd ρ754 86 (.tmp 14) = s1.v := (eρ754 14).trans h746
    have h763 : opd ρ754 86 (.tmp 15) = .int .i64 (a0.length : Int) := (eρ754 15).trans h747
    have h764 : opd ρ754 86 (.tmp 16) = .int .i64 (i37 : Int) := (eρ754 16).trans h748
    clear eρ754
    refine wseq ?_
    refine dstG (H0 := H727) (L0 := keepL [true, true, true] [.cb g2 [ckV flB (Vec.rep 32 0)] 29, .cb g7 [ckV flW σ592.2.2.1] 231, .cb g14 [ckV flB (Vec.paste σ592.2.2.2 ((σ592.1 : Int).toNat) (List.take (64 - (σ592.1 : Int).toNat) σ592.2.1))] 232]) [] mixed rfl (by repeat (first | exact Pan.body | refine Pan.then ?_ | refine Pan.inBlock ?_ | refine Pan.noGoto ?_ | refine Pan.pure ?_)) hI (hI.good.weakm _ (Hle.refl _) rfl) ?_
    intro w765 hI hP
    refine dp (v := .int .i64 σ592.1) 0 (by kernel_rfl) rfl rfl (fun _ => r_mv rfl h759) rfl hP ?_
    refine dp (v := .int .i64 ((min σ592.2.1.length (64 - (σ592.1 : Int).toNat) : Nat) : Int)) 1 (by kernel_rfl) rfl rfl (fun _ => r_mv rfl h761) rfl hP ?_
    refine dp (v := .int .i64 (wI (σ592.1 + ((min σ592.2.1.length (64 - (σ592.1 : Int).toNat) : Nat) : Int)))) 2 (by kernel_rfl) rfl rfl (fun _ => r_addw rfl rfl rfl) rfl hP ?_
    refine dp (v := s726.v) 3 (by kernel_rfl) rfl rfl (fun _ => r_mv rfl h760) rfl hP ?_
    refine dp (v := .int .i64 ((min σ592.2.1.length (64 - (σ592.1 : Int).toNat) : Nat) : Int)) 4 (by kernel_rfl) rfl rfl (fun _ => r_mv rfl h761) rfl hP ?_
    obtain ⟨x766, hx766, hF⟩ := Option.bind_eq_some_iff.1 hF
    obtain ⟨s767, es767⟩ : ∃ z : Sv, z = s726.cut (((min σ592.2.1.length (64 - (σ592.1 : Int).toNat) : Nat) : Int) : Int).toNat s726.n 1 := ⟨_, rfl⟩
    have es767' : s767 = s726.cut (((min σ592.2.1.length (64 - (σ592.1 : Int).toNat) : Nat) : Int) : Int).toNat (σ592.2.1.length : Int).toNat 1 := by rw [es767, hs726.n, (Int.toNat_natCast _ : (σ592.2.1.length : Int).toNat = _)]
    have hs767 := Sl.cutI hs726 hx766 es767'
    refine dp (v := s767.v) 5 (by kernel_rfl) rfl rfl (fun _ => s_sll rfl sl158 rfl rfl hs726 hx766 es767) rfl hP ?_
    refine dp (v := .int .i64 (wI (σ592.1 + ((min σ592.2.1.length (64 - (σ592.1 : Int).toNat) : Nat) : Int)))) 6 (by kernel_rfl) rfl rfl (fun _ => r_as rfl rfl) rfl hP ?_
    refine dp (v := s767.v) 7 (by kernel_rfl) rfl rfl (fun _ => r_as rfl rfl) rfl hP ?_
    refine dend (by kernel_rfl) ?_
    refine wthen ?_
    refine wren (fun ρ768 eρ768 => ?_)
    have h769 : opd ρ768 86 (.tmp 2) = .pointer (some ⟨g2, 0 + 0, none⟩) := (eρ768 2).trans h755
    have h770 : opd ρ768 86 (.tmp 3) = .pointer (some ⟨g7, 0 + 0, none⟩) := (eρ768 3).trans h756
    have h771 : opd ρ768 86 (.tmp 4) = .pointer (some ⟨g14, 0 + 0, none⟩) := (eρ768 4).trans h757
    have h772 : opd ρ768 86 (.tmp 5) = .int .i64 (wI (σ37.1 + (x565.length : Int))) := (eρ768 5).trans h758
    have h773 : opd ρ768 86 (.tmp 6) = .int .i64 (wI (σ592.1 + ((min σ592.2.1.length (64 - (σ592.1 : Int).toNat) : Nat) : Int))) := eρ768 6
    have h774 : opd ρ768 86 (.tmp 8) = s767.v := eρ768 8
    have h775 : opd ρ768 86 (.tmp 14) = s1.v := (eρ768 14).trans h762
    have h776 : opd ρ768 86 (.tmp 15) = .int .i64 (a0.length : Int) := (eρ768 15).trans h763
    have h777 : opd ρ768 86 (.tmp 16) = .int .i64 (i37 : Int) := (eρ768 16).trans h764
    clear eρ768
    refine wseq ?_
    refine wreg ?_
    refine lv (v := .int .i64 (wI (σ592.1 + ((min σ592.2.1.length (64 - (σ592.1 : Int).toNat) : Nat) : Int)))) rfl (r_mv rfl h773) rfl ?_
    refine lv (v := .bool (decide ((wI (σ592.1 + ((min σ592.2.1.length (64 - (σ592.1 : Int).toNat) : Nat) : Int))) = 64))) rfl (r_eql rfl rfl rfl rfl) rfl ?_
    refine wend ?_
    refine wthen ?_
    refine wren (fun ρ778 eρ778 => ?_)
    have h779 : opd ρ778 86 (.tmp 2) = .pointer (some ⟨g2, 0 + 0, none⟩) := (eρ778 2).trans h769
    have h780 : opd ρ778 86 (.tmp 3) = .pointer (some ⟨g7, 0 + 0, none⟩) := (eρ778 3).trans h770
    have h781 : opd ρ778 86 (.tmp 4) = .pointer (some ⟨g14, 0 + 0, none⟩) := (eρ778 4).trans h771
    have h782 : opd ρ778 86 (.tmp 5) = .int .i64 (wI (σ37.1 + (x565.length : Int))) := (eρ778 5).trans h772
    have h783 : opd ρ778 86 (.tmp 6) = .int .i64 (wI (σ592.1 + ((min σ592.2.1.length (64 - (σ592.1 : Int).toNat) : Nat) : Int))) := (eρ778 6).trans h773
    have h784 : opd ρ778 86 (.tmp 8) = s767.v := (eρ778 8).trans h774
    have h785 : opd ρ778 86 (.tmp 14) = s1.v := (eρ778 14).trans h775
    have h786 : opd ρ778 86 (.tmp 15) = .int .i64 (a0.length : Int) := (eρ778 15).trans h776
    have h787 : opd ρ778 86 (.tmp 16) = .int .i64 (i37 : Int) := (eρ778 16).trans h777
    have h788 : opd ρ778 86 (.tmp 38) = .bool (decide ((wI (σ592.1 + ((min σ592.2.1.length (64 - (σ592.1 : Int).toNat) : Nat) : Int))) = 64)) := eρ778 38
    clear eρ778
    by_cases hc789 : (wI (σ592.1 + ((min σ592.2.1.length (64 - (σ592.1 : Int).toNat) : Nat) : Int))) = 64
    ·skip
     rw [if_pos hc789] at hF
     have hbhc789 : (decide ((wI (σ592.1 + ((min σ592.2.1.length (64 - (σ592.1 : Int).toNat) : Nat) : Int))) = 64)) = true := decide_eq_true hc789
     refine wcT (h788.trans (congrArg Value.bool hbhc789)) ?_
     refine wseq ?_
     refine wreg ?_
     obtain ⟨q790, eq790⟩ : ∃ z : Nat, z = 0 := ⟨_, rfl⟩
     refine lv (v := .slice (some ⟨g14, q790, none⟩) (64 - 0) (64 - 0)) rfl (by rw [eq790]; exact r_sla' rfl ar232 h781) rfl ?_
     replace hI := hI.bring 2 rfl
     replace hI := hI.bring 2 rfl
     replace hI : Inv B w765 H727 [.cb g7 _ 231, .cb g14 _ 232, .cb g2 _ 29] := hI
     obtain ⟨x791, hx791, hF⟩ := Option.bind_eq_some_iff.1 hF
     subst eq790
     have hsp794 := fun (H1 : Hp) (hl1 : Hle H727 H1) (hA1 : At H1 g14 0 [ckV flB (Vec.paste σ592.2.2.2 ((σ592.1 : Int).toNat) (List.take (64 - (σ592.1 : Int).toNat) σ592.2.1))]) (hG1 : Good w765 H1 [.cb g7 [ckV flW σ592.2.2.1] 231]) => spec_145 hx791 (((hT.mono hleH544).mono hleH727).mono hl1) hG1 (At.sl (f := flB) (m := 64) (off := 0) (p := 0) hA1 rfl rfl rfl)
     refine fcl [.cb g7 [ckV flW σ592.2.2.1] 231] [.cb g2 [ckV flB (Vec.rep 32 0)] 29] fc145 rfl rfl rfl hI (argc h780 (argc rfl rfl)) hsp794 ?_ ?_
     ·rintro _ _ ⟨rfl, rfl⟩ e he; simp at he; subst he; exact ⟨_, _, _, rfl⟩
     rintro _ H792 _ w793 ⟨rfl, rfl⟩ hleH792 hI
     replace hI : Inv B w793 H792 [.cb g7 [ckV flW x791] 231, .cb g14 _ 232, .cb g2 _ 29] := hI
     refine wend ?_
     refine wthen ?_
     refine wren (fun ρ795 eρ795 => ?_)
     have h796 : opd ρ795 86 (.tmp 2) = .pointer (some ⟨g2, 0 + 0, none⟩) := (eρ795 2).trans h779
     have h797 : opd ρ795 86 (.tmp 3) = .pointer (some ⟨g7, 0 + 0, none⟩) := (eρ795 3).trans h780
     have h798 : opd ρ795 86 (.tmp 4) = .pointer (some ⟨g14, 0 + 0, none⟩) := (eρ795 4).trans h781
     have h799 : opd ρ795 86 (.tmp 5) = .int .i64 (wI (σ37.1 + (x565.length : Int))) := (eρ795 5).trans h782
     have h800 : opd ρ795 86 (.tmp 8) = s767.v := (eρ795 8).trans h784
     have h801 : opd ρ795 86 (.tmp 14) = s1.v := (eρ795 14).trans h785
     have h802 : opd ρ795 86 (.tmp 15) = .int .i64 (a0.length : Int) := (eρ795 15).trans h786
     have h803 : opd ρ795 86 (.tmp 16) = .int .i64 (i37 : Int) := (eρ795 16).trans h787
     clear eρ795
     refine wreg ?_
     refine lv (v := .int .i64 0) rfl (r_as rfl rfl) rfl ?_
     refine wend ?_
     refine inN ?_
     obtain rfl := Option.some.inj hF
     replace hI := hI.bring 1 rfl
     replace hI := hI.bring 1 rfl
     replace hI := hI.bring 2 rfl
     replace hI : Inv B w793 H792 [.cb g2 _ 29, .cb g7 _ 231, .cb g14 _ 232] := hI
     exact ⟨(0, x766, x791, (Vec.paste σ592.2.2.2 ((σ592.1 : Int).toNat) (List.take (64 - (σ592.1 : Int).toNat) σ592.2.1))), _, rfl, ⟨H792, s767, (hleH727.trans hleH792), h796, h797, h798, h799, rfl, h800, h801, h802, h803, (hs767.mono hleH792), hI⟩, iterK_inl hy592 hb592⟩
    ·skip
     rw [if_neg hc789] at hF
     have hbhc789 : (decide ((wI (σ592.1 + ((min σ592.2.1.length (64 - (σ592.1 : Int).toNat) : Nat) : Int))) = 64)) = false := decide_eq_false hc789
     refine wcF (h788.trans (congrArg Value.bool hbhc789)) ?_
     refine wp_skip ?_
     refine inN ?_
     obtain rfl := Option.some.inj hF
     exact ⟨(wI (σ592.1 + ((min σ592.2.1.length (64 - (σ592.1 : Int).toNat) : Nat) : Int)), x766, σ592.2.2.1, (Vec.paste σ592.2.2.2 ((σ592.1 : Int).toNat) (List.take (64 - (σ592.1 : Int).toNat) σ592.2.1))), _, rfl, ⟨H727, s767, hleH727, h779, h780, h781, h782, h783, h784, h785, h786, h787, hs767, hI⟩, iterK_inl hy592 hb592⟩
   ·rw [if_neg hc751] at hF; cases hF
  ·skip
   rw [if_neg hc750] at hF
   have hbhc750 : (decide ((0 : Int) < (σ592.2.1.length : Int))) = false := decide_eq_false hc750
   refine wcF (h749.trans (congrArg Value.bool hbhc750)) ?_
   refine wp_exit ?_
   refine thE ?_
   refine thE ?_
   obtain ⟨q804, hFn, hzq804⟩ := Option.map_eq_some_iff.1 hF
   clear hF
   have hy0 := iterK_inr hy592 (hb592.trans (congrArg some hzq804.symm))
   rw [← hy0] at hFn
   have hF := hFn
   clear hFn
   refine inX ?_
   refine inN ?_
   refine wthen ?_
   refine wreg ?_
   refine lv (v := .int .i64 ((i37 + 1 : Nat) : Int)) rfl (r_addn rfl h748 rfl hlt37) rfl ?_
   refine lv (v := .int .i64 ((i37 + 1 : Nat) : Int)) rfl (r_mv rfl rfl) rfl ?_
   refine wend ?_
   obtain rfl := Option.some.inj hF
   exact ⟨k37, (wI (σ37.1 + (x565.length : Int)), σ592.1, σ592.2.2.1, σ592.2.2.2), _, rfl, rfl, ⟨H727, (hleH544.trans hleH727), h740, h741, h742, h743, h744, h746, h747, rfl, hI⟩, forK_inl hy37 hb37⟩
 ·skip
  have hbhc555 : (decide ((i37 : Int) < (a0.length : Int))) = false := decide_eq_false hc555
  obtain rfl : k37 = 0 := by omega
  obtain rfl := forK_end hy37
  have hF := hF37
  try dsimp only at hF
  refine wcF ((show opd _ _ _ = _ from rfl).trans (congrArg Value.bool hbhc555)) ?_
  refine wp_exit ?_
  refine thE ?_
  refine thE ?_
  refine inX ?_
  refine wthen ?_
  refine wren (fun ρ805 eρ805 => ?_)
  have h806 : opd ρ805 86 (.tmp 2) = .pointer (some ⟨g2, 0 + 0, none⟩) := (eρ805 2).trans h545
  have h807 : opd ρ805 86 (.tmp 3) = .pointer (some ⟨g7, 0 + 0, none⟩) := (eρ805 3).trans h546
  have h808 : opd ρ805 86 (.tmp 4) = .pointer (some ⟨g14, 0 + 0, none⟩) := (eρ805 4).trans h547
  have h809 : opd ρ805 86 (.tmp 5) = .int .i64 σ37.1 := (eρ805 5).trans h548
  have h810 : opd ρ805 86 (.tmp 6) = .int .i64 σ37.2.1 := (eρ805 6).trans h549
  clear eρ805
  refine wseq ?_
  refine wreg ?_
  refine lv (v := .int .i64 σ37.2.1) rfl (r_mv rfl h810) rfl ?_
  obtain ⟨x811, hx811, hF⟩ := Option.bind_eq_some_iff.1 hF
  obtain ⟨q812, eq812⟩ : ∃ z, z = 0 + 0 + ((σ37.2.1 : Int).toNat) * 1 := ⟨_, rfl⟩
  refine lv (v := .pointer (some ⟨g14, q812 + 0, none⟩)) rfl (r_ixq rfl ar232 h808 rfl (ixI_some hx811).2 (Vec.lt (ixI_some hx811).1) eq812) rfl ?_
  refine lst rfl (l_sta (f := flB) (m := 64) (vv := σ37.2.2.2) (off := 0) (p := 0) (k := ((σ37.2.1 : Int).toNat)) (x1 := 128) hI 2 rfl rfl sz5 rfl eq812 rfl rfl rfl rfl (ixI_some hx811).1 rfl) rfl ?_
  intro w813 hI
  replace hI : Inv B w813 H544 [.cb g2 _ 29, .cb g7 [ckV flW σ37.2.2.1] 231, .cb g14 [ckV flB (Vec.set σ37.2.2.2 ((σ37.2.1 : Int).toNat) 128)] 232] := hI
  refine wend ?_
  refine wthen ?_
  refine wren (fun ρ814 eρ814 => ?_)
  have h815 : opd ρ814 86 (.tmp 2) = .pointer (some ⟨g2, 0 + 0, none⟩) := (eρ814 2).trans h806
  have h816 : opd ρ814 86 (.tmp 3) = .pointer (some ⟨g7, 0 + 0, none⟩) := (eρ814 3).trans h807
  have h817 : opd ρ814 86 (.tmp 4) = .pointer (some ⟨g14, 0 + 0, none⟩) := (eρ814 4).trans h808
  have h818 : opd ρ814 86 (.tmp 5) = .int .i64 σ37.1 := (eρ814 5).trans h809
  have h819 : opd ρ814 86 (.tmp 6) = .int .i64 σ37.2.1 := (eρ814 6).trans h810
  clear eρ814
  refine wseq ?_
  refine wreg ?_
  refine lv (v := .int .i64 σ37.2.1) rfl (r_mv rfl h819) rfl ?_
  refine lv (v := .int .i64 (wI (σ37.2.1 + 1))) rfl (r_addw rfl rfl rfl) rfl ?_
  by_cases hc820 : (0 : Int) ≤ (wI (σ37.2.1 + 1)) ∧ (wI (σ37.2.1 + 1)) ≤ 64
  ·rw [if_pos hc820] at hF
   obtain ⟨q821, eq821⟩ : ∃ z : Nat, z = if 64 = (wI (σ37.2.1 + 1) : Int).toNat then 0 else (wI (σ37.2.1 + 1) : Int).toNat := ⟨_, rfl⟩
   have hlq821 : (wI (σ37.2.1 + 1) : Int).toNat ≤ 64 := by omega
   refine lv (v := .slice (some ⟨g14, q821, none⟩) (64 - (wI (σ37.2.1 + 1) : Int).toNat) (64 - (wI (σ37.2.1 + 1) : Int).toNat)) rfl (r_slp (m := 64) (lo := (wI (σ37.2.1 + 1) : Int).toNat) rfl ar232 h817 rfl (by omega) hlq821 eq821) rfl ?_
   refine le0 rfl (l_clr (i := 2) (lo := (wI (σ37.2.1 + 1) : Int).toNat) (m := 64) hI rfl rfl sl158 zv5 rfl hlq821 eq821) rfl ?_
   rintro _ w822 ⟨rfl, hI⟩
   replace hI : Inv B w822 H544 [.cb g2 _ 29, .cb g7 _ 231, .cb g14 [ckV flB (Vec.paste (Vec.set σ37.2.2.2 ((σ37.2.1 : Int).toNat) 128) ((wI (σ37.2.1 + 1) : Int).toNat) (List.replicate (64 - (wI (σ37.2.1 + 1) : Int).toNat) 0))] 232] := hI
   refine wend ?_
   refine wthen ?_
   refine wren (fun ρ823 eρ823 => ?_)
   have h824 : opd ρ823 86 (.tmp 2) = .pointer (some ⟨g2, 0 + 0, none⟩) := (eρ823 2).trans h815
   have h825 : opd ρ823 86 (.tmp 3) = .pointer (some ⟨g7, 0 + 0, none⟩) := (eρ823 3).trans h816
   have h826 : opd ρ823 86 (.tmp 4) = .pointer (some ⟨g14, 0 + 0, none⟩) := (eρ823 4).trans h817
   have h827 : opd ρ823 86 (.tmp 5) = .int .i64 σ37.1 := (eρ823 5).trans h818
   have h828 : opd ρ823 86 (.tmp 6) = .int .i64 σ37.2.1 := (eρ823 6).trans h819
   clear eρ823
   refine wseq ?_
   refine wseq ?_
   refine wreg ?_
   refine lv (v := .int .i64 σ37.2.1) rfl (r_mv rfl h828) rfl ?_
   refine lv (v := .bool (decide ((56 : Int) ≤ σ37.2.1))) rfl (r_geq rfl rfl rfl rfl) rfl ?_
   refine wend ?_
   refine wthen ?_
   refine wren (fun ρ829 eρ829 => ?_)
   have h830 : opd ρ829 86 (.tmp 2) = .pointer (some ⟨g2, 0 + 0, none⟩) := (eρ829 2).trans h824
   have h831 : opd ρ829 86 (.tmp 3) = .pointer (some ⟨g7, 0 + 0, none⟩) := (eρ829 3).trans h825
   have h832 : opd ρ829 86 (.tmp 4) = .pointer (some ⟨g14, 0 + 0, none⟩) := (eρ829 4).trans h826
   have h833 : opd ρ829 86 (.tmp 5) = .int .i64 σ37.1 := (eρ829 5).trans h827
   have h834 : opd ρ829 86 (.tmp 48) = .bool (decide ((56 : Int) ≤ σ37.2.1)) := eρ829 48
   clear eρ829
   by_cases hc835 : (56 : Int) ≤ σ37.2.1
   ·skip
    rw [if_pos hc835] at hF
    have hbhc835 : (decide ((56 : Int) ≤ σ37.2.1)) = true := decide_eq_true hc835
    refine wcT (h834.trans (congrArg Value.bool hbhc835)) ?_
    refine wseq ?_
    refine wreg ?_
    obtain ⟨q836, eq836⟩ : ∃ z : Nat, z = 0 := ⟨_, rfl⟩
    refine lv (v := .slice (some ⟨g14, q836, none⟩) (64 - 0) (64 - 0)) rfl (by rw [eq836]; exact r_sla' rfl ar232 h832) rfl ?_
    replace hI := hI.bring 2 rfl
    replace hI := hI.bring 2 rfl
    replace hI : Inv B w822 H544 [.cb g7 _ 231, .cb g14 _ 232, .cb g2 _ 29] := hI
    obtain ⟨x837, hx837, hF⟩ := Option.bind_eq_some_iff.1 hF
    subst eq836
    have hsp840 := fun (H1 : Hp) (hl1 : Hle H544 H1) (hA1 : At H1 g14 0 [ckV flB (Vec.paste (Vec.set σ37.2.2.2 ((σ37.2.1 : Int).toNat) 128) ((wI (σ37.2.1 + 1) : Int).toNat) (List.replicate (64 - (wI (σ37.2.1 + 1) : Int).toNat) 0))]) (hG1 : Good w822 H1 [.cb g7 [ckV flW σ37.2.2.1] 231]) => spec_145 hx837 ((hT.mono hleH544).mono hl1) hG1 (At.sl (f := flB) (m := 64) (off := 0) (p := 0) hA1 rfl rfl rfl)
    refine fcl [.cb g7 [ckV flW σ37.2.2.1] 231] [.cb g2 [ckV flB (Vec.rep 32 0)] 29] fc145 rfl rfl rfl hI (argc h831 (argc rfl rfl)) hsp840 ?_ ?_
    ·rintro _ _ ⟨rfl, rfl⟩ e he; simp at he; subst he; exact ⟨_, _, _, rfl⟩
    rintro _ H838 _ w839 ⟨rfl, rfl⟩ hleH838 hI
    replace hI : Inv B w839 H838 [.cb g7 [ckV flW x837] 231, .cb g14 _ 232, .cb g2 _ 29] := hI
    refine wend ?_
    refine wthen ?_
    refine wren (fun ρ841 eρ841 => ?_)
    have h842 : opd ρ841 86 (.tmp 2) = .pointer (some ⟨g2, 0 + 0, none⟩) := (eρ841 2).trans h830
    have h843 : opd ρ841 86 (.tmp 3) = .pointer (some ⟨g7, 0 + 0, none⟩) := (eρ841 3).trans h831
    have h844 : opd ρ841 86 (.tmp 4) = .pointer (some ⟨g14, 0 + 0, none⟩) := (eρ841 4).trans h832
    have h845 : opd ρ841 86 (.tmp 5) = .int .i64 σ37.1 := (eρ841 5).trans h833
    clear eρ841
    refine wreg ?_
    obtain ⟨q846, eq846⟩ : ∃ z : Nat, z = 0 := ⟨_, rfl⟩
    refine lv (v := .slice (some ⟨g14, q846, none⟩) (64 - 0) (64 - 0)) rfl (by rw [eq846]; exact r_sla' rfl ar232 h844) rfl ?_
    refine le0 rfl (l_clr (i := 1) (lo := 0) (m := 64) hI rfl rfl sl158 zv5 rfl (Nat.zero_le _) (by rw [eq846]; rfl)) rfl ?_
    rintro _ w847 ⟨rfl, hI⟩
    replace hI : Inv B w847 H838 [.cb g7 _ 231, .cb g14 [ckV flB (Vec.paste (Vec.paste (Vec.set σ37.2.2.2 ((σ37.2.1 : Int).toNat) 128) ((wI (σ37.2.1 + 1) : Int).toNat) (List.replicate (64 - (wI (σ37.2.1 + 1) : Int).toNat) 0)) 0 (List.replicate (64 - 0) 0))] 232, .cb g2 _ 29] := hI
    refine wend ?_
    refine wthen ?_
    refine wren (fun ρ848 eρ848 => ?_)
    have h849 : opd ρ848 86 (.tmp 2) = .pointer (some ⟨g2, 0 + 0, none⟩) := (eρ848 2).trans h842
    have h850 : opd ρ848 86 (.tmp 3) = .pointer (some ⟨g7, 0 + 0, none⟩) := (eρ848 3).trans h843
    have h851 : opd ρ848 86 (.tmp 4) = .pointer (some ⟨g14, 0 + 0, none⟩) := (eρ848 4).trans h844
    have h852 : opd ρ848 86 (.tmp 5) = .int .i64 σ37.1 := (eρ848 5).trans h845
    clear eρ848
    refine wseq ?_
    refine wseq ?_
    refine wreg ?_
    refine lv (v := .int .i64 0) rfl (r_mv rfl rfl) rfl ?_
    refine wend ?_
    refine wthen ?_
    refine wren (fun ρ853 eρ853 => ?_)
    have h854 : opd ρ853 86 (.tmp 2) = .pointer (some ⟨g2, 0 + 0, none⟩) := (eρ853 2).trans h849
    have h855 : opd ρ853 86 (.tmp 3) = .pointer (some ⟨g7, 0 + 0, none⟩) := (eρ853 3).trans h850
    have h856 : opd ρ853 86 (.tmp 4) = .pointer (some ⟨g14, 0 + 0, none⟩) := (eρ853 4).trans h851
    have h857 : opd ρ853 86 (.tmp 5) = .int .i64 σ37.1 := (eρ853 5).trans h852
    have h858 : opd ρ853 86 (.tmp 52) = .int .i64 0 := eρ853 52
    clear eρ853
    refine wp_block ?_
    obtain ⟨y859, hy859, hF859⟩ := Option.bind_eq_some_iff.1 hF
    refine wfor (n := 86) 8 _ (fun (i859 : Nat) (σ859 : (Vec UInt8 64)) ρ' w' => ∃ (H914 : Hp), Hle H838 H914 ∧ opd ρ' 86 (.tmp 2) = .pointer (some ⟨g2, 0 + 0, none⟩) ∧ opd ρ' 86 (.tmp 3) = .pointer (some ⟨g7, 0 + 0, none⟩) ∧ opd ρ' 86 (.tmp 4) = .pointer (some ⟨g14, 0 + 0, none⟩) ∧ opd ρ' 86 (.tmp 5) = .int .i64 σ37.1 ∧ opd ρ' 86 (.tmp 52) = .int .i64 (i859 : Int) ∧ Inv B w' H914 [.cb g7 [ckV flW x837] 231, .cb g14 [ckV flB σ859] 232, .cb g2 [ckV flB (Vec.rep 32 0)] 29]) hy859 ⟨H838, (Hle.refl _), h854, h855, h856, h857, h858, hI⟩ ?_
    rintro k859 i859 σ859 ρ920 w921 hk859 ⟨H914, hleH914, h915, h916, h917, h918, h919, hI⟩ hy859
    refine wseq ?_
    refine wreg ?_
    refine lv (v := .bool (decide ((i859 : Int) < 8))) rfl (r_lss rfl h919 rfl rfl) rfl ?_
    refine wend ?_
    refine wthen ?_
    refine wseq ?_
    by_cases hc922 : (i859 : Int) < 8
    ·skip
     have hbhc922 : (decide ((i859 : Int) < 8)) = true := decide_eq_true hc922
     obtain ⟨k859, rfl⟩ : ∃ m, k859 = m + 1 := ⟨k859 - 1, by omega⟩
     obtain ⟨z859, hb859⟩ := forK_body hy859
     have hF := hb859
     have hlt859 : ((i859 : Nat) : Int) + 1 ≤ 9223372036854775807 := by omega
     refine wcT ((show opd _ _ _ = _ from rfl).trans (congrArg Value.bool hbhc922)) ?_
     refine wp_skip ?_
     refine wthen ?_
     refine wren (fun ρ923 eρ923 => ?_)
     have h924 : opd ρ923 86 (.tmp 2) = .pointer (some ⟨g2, 0 + 0, none⟩) := (eρ923 2).trans h915
     have h925 : opd ρ923 86 (.tmp 3) = .pointer (some ⟨g7, 0 + 0, none⟩) := (eρ923 3).trans h916
     have h926 : opd ρ923 86 (.tmp 4) = .pointer (some ⟨g14, 0 + 0, none⟩) := (eρ923 4).trans h917
     have h927 : opd ρ923 86 (.tmp 5) = .int .i64 σ37.1 := (eρ923 5).trans h918
     have h928 : opd ρ923 86 (.tmp 52) = .int .i64 (i859 : Int) := (eρ923 52).trans h919
     clear eρ923
     refine wseq ?_
     refine wp_block ?_
     refine wseq ?_
     refine wreg ?_
     refine lv (v := .int .i64 (i859 : Int)) rfl (r_mv rfl h928) rfl ?_
     refine lv (v := .int .i64 (i859 : Int)) rfl (r_as rfl rfl) rfl ?_
     refine wend ?_
     refine wthen ?_
     refine wren (fun ρ929 eρ929 => ?_)
     have h930 : opd ρ929 86 (.tmp 2) = .pointer (some ⟨g2, 0 + 0, none⟩) := (eρ929 2).trans h924
     have h931 : opd ρ929 86 (.tmp 3) = .pointer (some ⟨g7, 0 + 0, none⟩) := (eρ929 3).trans h925
     have h932 : opd ρ929 86 (.tmp 4) = .pointer (some ⟨g14, 0 + 0, none⟩) := (eρ929 4).trans h926
     have h933 : opd ρ929 86 (.tmp 5) = .int .i64 σ37.1 := (eρ929 5).trans h927
     have h934 : opd ρ929 86 (.tmp 10) = .int .i64 (i859 : Int) := eρ929 10
     have h935 : opd ρ929 86 (.tmp 52) = .int .i64 (i859 : Int) := (eρ929 52).trans h928
     clear eρ929
     refine wreg ?_
     refine lv (v := .int .i64 (i859 : Int)) rfl (r_mv rfl h934) rfl ?_
     refine lv (v := .int .i64 (wI ((56 : Int) + (i859 : Int)))) rfl (r_addw rfl rfl rfl) rfl ?_
     refine lv (v := .int .i64 σ37.1) rfl (r_mv rfl h933) rfl ?_
     refine lv (v := u64v (u64I σ37.1)) rfl (c_u64 rfl un3 un234 rfl) rfl ?_
     refine lv (v := u64v (shlQ (u64I σ37.1) 3)) rfl (q_shlQ (b := 3) rfl rfl rfl (by decide)) rfl ?_
     refine lv (v := .int .i64 (i859 : Int)) rfl (r_mv rfl h934) rfl ?_
     refine lv (v := .int .i64 (wI ((8 : Int) * (i859 : Int)))) rfl (r_mulw rfl rfl rfl) rfl ?_
     refine lv (v := .int .i64 (wI ((56 : Int) - (wI ((8 : Int) * (i859 : Int)))))) rfl (r_subw rfl rfl rfl) rfl ?_
     by_cases hc936 : (0 : Int) ≤ (wI ((56 : Int) - (wI ((8 : Int) * (i859 : Int)))))
     ·rw [if_pos hc936] at hF
      refine lv (v := u64v (shrQ (shlQ (u64I σ37.1) 3) (wI ((56 : Int) - (wI ((8 : Int) * (i859 : Int))))))) rfl (r_shrQ rfl rfl rfl hc936) rfl ?_
      refine lv (v := bv (u8I ((shrQ (shlQ (u64I σ37.1) 3) (wI ((56 : Int) - (wI ((8 : Int) * (i859 : Int)))))).toNat : Int))) rfl (c_i8 rfl un234 un5 rfl) rfl ?_
      obtain ⟨x937, hx937, hF⟩ := Option.bind_eq_some_iff.1 hF
      obtain ⟨q938, eq938⟩ : ∃ z, z = 0 + 0 + ((wI ((56 : Int) + (i859 : Int)) : Int).toNat) * 1 := ⟨_, rfl⟩
      refine lv (v := .pointer (some ⟨g14, q938 + 0, none⟩)) rfl (r_ixq rfl ar232 h932 rfl (ixI_some hx937).2 (Vec.lt (ixI_some hx937).1) eq938) rfl ?_
      refine lst rfl (l_sta (f := flB) (m := 64) (vv := σ859) (off := 0) (p := 0) (k := ((wI ((56 : Int) + (i859 : Int)) : Int).toNat)) (x1 := (u8I ((shrQ (shlQ (u64I σ37.1) 3) (wI ((56 : Int) - (wI ((8 : Int) * (i859 : Int)))))).toNat : Int))) hI 1 rfl rfl sz5 rfl eq938 rfl rfl rfl rfl (ixI_some hx937).1 rfl) rfl ?_
      intro w939 hI
      replace hI : Inv B w939 H914 [.cb g7 _ 231, .cb g14 [ckV flB (Vec.set σ859 ((wI ((56 : Int) + (i859 : Int)) : Int).toNat) (u8I ((shrQ (shlQ (u64I σ37.1) 3) (wI ((56 : Int) - (wI ((8 : Int) * (i859 : Int)))))).toNat : Int)))] 232, .cb g2 _ 29] := hI
      refine wend ?_
      refine inN ?_
      refine wthen ?_
      refine wren (fun ρ940 eρ940 => ?_)
      have h941 : opd ρ940 86 (.tmp 2) = .pointer (some ⟨g2, 0 + 0, none⟩) := (eρ940 2).trans h930
      have h942 : opd ρ940 86 (.tmp 3) = .pointer (some ⟨g7, 0 + 0, none⟩) := (eρ940 3).trans h931
      have h943 : opd ρ940 86 (.tmp 4) = .pointer (some ⟨g14, 0 + 0, none⟩) := (eρ940 4).trans h932
      have h944 : opd ρ940 86 (.tmp 5) = .int .i64 σ37.1 := (eρ940 5).trans h933
      have h945 : opd ρ940 86 (.tmp 52) = .int .i64 (i859 : Int) := (eρ940 52).trans h935
      clear eρ940
      refine wreg ?_
      refine lv (v := .int .i64 ((i859 + 1 : Nat) : Int)) rfl (r_addn rfl h945 rfl hlt859) rfl ?_
      refine lv (v := .int .i64 ((i859 + 1 : Nat) : Int)) rfl (r_mv rfl rfl) rfl ?_
      refine wend ?_
      obtain rfl := Option.some.inj hF
      exact ⟨k859, (Vec.set σ859 ((wI ((56 : Int) + (i859 : Int)) : Int).toNat) (u8I ((shrQ (shlQ (u64I σ37.1) 3) (wI ((56 : Int) - (wI ((8 : Int) * (i859 : Int)))))).toNat : Int))), _, rfl, rfl, ⟨H914, hleH914, h941, h942, h943, h944, rfl, hI⟩, forK_inl hy859 hb859⟩
     ·rw [if_neg hc936] at hF; cases hF
    ·skip
     have hbhc922 : (decide ((i859 : Int) < 8)) = false := decide_eq_false hc922
     obtain rfl : k859 = 0 := by omega
     obtain rfl := forK_end hy859
     have hF := hF859
     try dsimp only at hF
     refine wcF ((show opd _ _ _ = _ from rfl).trans (congrArg Value.bool hbhc922)) ?_
     refine wp_exit ?_
     refine thE ?_
     refine thE ?_
     refine inX ?_
     refine wthen ?_
     refine wren (fun ρ946 eρ946 => ?_)
     have h947 : opd ρ946 86 (.tmp 2) = .pointer (some ⟨g2, 0 + 0, none⟩) := (eρ946 2).trans h915
     have h948 : opd ρ946 86 (.tmp 3) = .pointer (some ⟨g7, 0 + 0, none⟩) := (eρ946 3).trans h916
     have h949 : opd ρ946 86 (.tmp 4) = .pointer (some ⟨g14, 0 + 0, none⟩) := (eρ946 4).trans h917
     clear eρ946
     refine wseq ?_
     refine wreg ?_
     obtain ⟨q950, eq950⟩ : ∃ z : Nat, z = 0 := ⟨_, rfl⟩
     refine lv (v := .slice (some ⟨g14, q950, none⟩) (64 - 0) (64 - 0)) rfl (by rw [eq950]; exact r_sla' rfl ar232 h949) rfl ?_
     obtain ⟨x951, hx951, hF⟩ := Option.bind_eq_some_iff.1 hF
     subst eq950
     have hsp954 := fun (H1 : Hp) (hl1 : Hle H914 H1) (hA1 : At H1 g14 0 [ckV flB σ859]) (hG1 : Good w921 H1 [.cb g7 [ckV flW x837] 231]) => spec_145 hx951 ((((hT.mono hleH544).mono hleH838).mono hleH914).mono hl1) hG1 (At.sl (f := flB) (m := 64) (off := 0) (p := 0) hA1 rfl rfl rfl)
     refine fcl [.cb g7 [ckV flW x837] 231] [.cb g2 [ckV flB (Vec.rep 32 0)] 29] fc145 rfl rfl rfl hI (argc h948 (argc rfl rfl)) hsp954 ?_ ?_
     ·rintro _ _ ⟨rfl, rfl⟩ e he; simp at he; subst he; exact ⟨_, _, _, rfl⟩
     rintro _ H952 _ w953 ⟨rfl, rfl⟩ hleH952 hI
     replace hI : Inv B w953 H952 [.cb g7 [ckV flW x951] 231, .cb g14 [ckV flB σ859] 232, .cb g2 _ 29] := hI
     refine wend ?_
     refine wthen ?_
     refine wren (fun ρ955 eρ955 => ?_)
     have h956 : opd ρ955 86 (.tmp 2) = .pointer (some ⟨g2, 0 + 0, none⟩) := (eρ955 2).trans h947
     have h957 : opd ρ955 86 (.tmp 3) = .pointer (some ⟨g7, 0 + 0, none⟩) := (eρ955 3).trans h948
     clear eρ955
     refine wseq ?_
     refine wreg ?_
     refine le rfl (l_al hI rfl ze29) rfl ?_
     rintro _ w959 ⟨g958, rfl, hI⟩
     replace hI : Inv B w959 H952 [.cb g7 _ 231, .cb g14 _ 232, .cb g2 _ 29, .cb g958 [ckV flB (Vec.rep 32 0)] 29] := hI
     refine wend ?_
     refine wthen ?_
     refine wren (fun ρ960 eρ960 => ?_)
     have h961 : opd ρ960 86 (.tmp 2) = .pointer (some ⟨g2, 0 + 0, none⟩) := (eρ960 2).trans h956
     have h962 : opd ρ960 86 (.tmp 3) = .pointer (some ⟨g7, 0 + 0, none⟩) := (eρ960 3).trans h957
     have h963 : opd ρ960 86 (.tmp 11) = .pointer (some ⟨g958, 0 + 0, none⟩) := eρ960 11
     clear eρ960
     refine wseq ?_
     refine wseq ?_
     refine wreg ?_
     refine lv (v := .int .i64 0) rfl (r_mv rfl rfl) rfl ?_
     refine wend ?_
     refine wthen ?_
     refine wren (fun ρ964 eρ964 => ?_)
     have h965 : opd ρ964 86 (.tmp 2) = .pointer (some ⟨g2, 0 + 0, none⟩) := (eρ964 2).trans h961
     have h966 : opd ρ964 86 (.tmp 3) = .pointer (some ⟨g7, 0 + 0, none⟩) := (eρ964 3).trans h962
     have h967 : opd ρ964 86 (.tmp 11) = .pointer (some ⟨g958, 0 + 0, none⟩) := (eρ964 11).trans h963
     have h968 : opd ρ964 86 (.tmp 69) = .int .i64 0 := eρ964 69
     clear eρ964
     refine wp_block ?_
     obtain ⟨y969, hy969, hF969⟩ := Option.bind_eq_some_iff.1 hF
     refine wfor (n := 86) 32 _ (fun (i969 : Nat) (σ969 : (Vec UInt8 32)) ρ' w' => ∃ (H1022 : Hp), Hle H952 H1022 ∧ opd ρ' 86 (.tmp 2) = .pointer (some ⟨g2, 0 + 0, none⟩) ∧ opd ρ' 86 (.tmp 3) = .pointer (some ⟨g7, 0 + 0, none⟩) ∧ opd ρ' 86 (.tmp 11) = .pointer (some ⟨g958, 0 + 0, none⟩) ∧ opd ρ' 86 (.tmp 69) = .int .i64 (i969 : Int) ∧ Inv B w' H1022 [.cb g7 [ckV flW x951] 231, .cb g2 [ckV flB (Vec.rep 32 0)] 29, .cb g958 [ckV flB σ969] 29]) hy969 ⟨H952, (Hle.refl _), h965, h966, h967, h968, (hI.keep [true, false, true, true])⟩ ?_
     rintro k969 i969 σ969 ρ1027 w1028 hk969 ⟨H1022, hleH1022, h1023, h1024, h1025, h1026, hI⟩ hy969
     refine wseq ?_
     refine wreg ?_
     refine lv (v := .bool (decide ((i969 : Int) < 32))) rfl (r_lss rfl h1026 rfl rfl) rfl ?_
     refine wend ?_
     refine wthen ?_
     refine wseq ?_
     by_cases hc1029 : (i969 : Int) < 32
     ·skip
      have hbhc1029 : (decide ((i969 : Int) < 32)) = true := decide_eq_true hc1029
      obtain ⟨k969, rfl⟩ : ∃ m, k969 = m + 1 := ⟨k969 - 1, by omega⟩
      obtain ⟨z969, hb969⟩ := forK_body hy969
      have hF := hb969
      have hlt969 : ((i969 : Nat) : Int) + 1 ≤ 9223372036854775807 := by omega
      refine wcT ((show opd _ _ _ = _ from rfl).trans (congrArg Value.bool hbhc1029)) ?_
      refine wp_skip ?_
      refine wthen ?_
      refine wren (fun ρ1030 eρ1030 => ?_)
      have h1031 : opd ρ1030 86 (.tmp 2) = .pointer (some ⟨g2, 0 + 0, none⟩) := (eρ1030 2).trans h1023
      have h1032 : opd ρ1030 86 (.tmp 3) = .pointer (some ⟨g7, 0 + 0, none⟩) := (eρ1030 3).trans h1024
      have h1033 : opd ρ1030 86 (.tmp 11) = .pointer (some ⟨g958, 0 + 0, none⟩) := (eρ1030 11).trans h1025
      have h1034 : opd ρ1030 86 (.tmp 69) = .int .i64 (i969 : Int) := (eρ1030 69).trans h1026
      clear eρ1030
      refine wseq ?_
      refine wp_block ?_
      refine wseq ?_
      refine wreg ?_
      refine lv (v := .int .i64 (i969 : Int)) rfl (r_mv rfl h1034) rfl ?_
      refine lv (v := .int .i64 (i969 : Int)) rfl (r_as rfl rfl) rfl ?_
      refine wend ?_
      refine wthen ?_
      refine wren (fun ρ1035 eρ1035 => ?_)
      have h1036 : opd ρ1035 86 (.tmp 2) = .pointer (some ⟨g2, 0 + 0, none⟩) := (eρ1035 2).trans h1031
      have h1037 : opd ρ1035 86 (.tmp 3) = .pointer (some ⟨g7, 0 + 0, none⟩) := (eρ1035 3).trans h1032
      have h1038 : opd ρ1035 86 (.tmp 11) = .pointer (some ⟨g958, 0 + 0, none⟩) := (eρ1035 11).trans h1033
      have h1039 : opd ρ1035 86 (.tmp 12) = .int .i64 (i969 : Int) := eρ1035 12
      have h1040 : opd ρ1035 86 (.tmp 69) = .int .i64 (i969 : Int) := (eρ1035 69).trans h1034
      clear eρ1035
      refine wreg ?_
      refine lv (v := .int .i64 (i969 : Int)) rfl (r_mv rfl h1039) rfl ?_
      refine lv (v := .int .i64 (i969 : Int)) rfl (r_mv rfl h1039) rfl ?_
      refine lv (v := .int .i64 (wI (Int.tdiv (i969 : Int) 4))) rfl (r_quo rfl rfl rfl (by decide)) rfl ?_
      obtain ⟨x1041, hx1041, hF⟩ := Option.bind_eq_some_iff.1 hF
      obtain ⟨q1042, eq1042⟩ : ∃ z, z = 0 + 0 + ((wI (Int.tdiv (i969 : Int) 4) : Int).toNat) * 1 := ⟨_, rfl⟩
      refine lv (v := .pointer (some ⟨g7, q1042 + 0, none⟩)) rfl (r_ixq rfl ar231 h1037 rfl (ixI_some hx1041).2 (Vec.lt (ixI_some hx1041).1) eq1042) rfl ?_
      refine lv (v := u32v x1041) rfl (r_cl1 (off := 0) (p := 0) (CA.el (f := flW) (m := 8) (off := 0) (p := 0) (hI.good.ca 0 rfl) rfl rfl (ixI_some hx1041).1 eq1042) rfl sc229 rfl rfl rfl) rfl ?_
      refine lv (v := .int .i64 (i969 : Int)) rfl (r_mv rfl h1039) rfl ?_
      refine lv (v := .int .i64 (Int.tmod (i969 : Int) 4)) rfl (r_rem rfl rfl rfl (by decide)) rfl ?_
      refine lv (v := .int .i64 (wI ((8 : Int) * (Int.tmod (i969 : Int) 4)))) rfl (r_mulw rfl rfl rfl) rfl ?_
      refine lv (v := .int .i64 (wI ((24 : Int) - (wI ((8 : Int) * (Int.tmod (i969 : Int) 4)))))) rfl (r_subw rfl rfl rfl) rfl ?_
      by_cases hc1043 : (0 : Int) ≤ (wI ((24 : Int) - (wI ((8 : Int) * (Int.tmod (i969 : Int) 4)))))
      ·rw [if_pos hc1043] at hF
       refine lv (v := u32v (shrW x1041 (wI ((24 : Int) - (wI ((8 : Int) * (Int.tmod (i969 : Int) 4))))))) rfl (q_shrW rfl rfl rfl hc1043) rfl ?_
       refine lv (v := bv (u8I ((shrW x1041 (wI ((24 : Int) - (wI ((8 : Int) * (Int.tmod (i969 : Int) 4)))))).toNat : Int))) rfl (c_i8 rfl un229 un5 rfl) rfl ?_
       obtain ⟨x1044, hx1044, hF⟩ := Option.bind_eq_some_iff.1 hF
       obtain ⟨q1045, eq1045⟩ : ∃ z, z = 0 + 0 + i969 * 1 := ⟨_, rfl⟩
       refine lv (v := .pointer (some ⟨g958, q1045 + 0, none⟩)) rfl (r_ixq rfl ar29 h1038 rfl rfl (Vec.lt hx1044) eq1045) rfl ?_
       refine lst rfl (l_sta (f := flB) (m := 32) (vv := σ969) (off := 0) (p := 0) (k := i969) (x1 := (u8I ((shrW x1041 (wI ((24 : Int) - (wI ((8 : Int) * (Int.tmod (i969 : Int) 4)))))).toNat : Int))) hI 2 rfl rfl sz5 rfl eq1045 rfl rfl rfl rfl hx1044 rfl) rfl ?_
       intro w1046 hI
       replace hI : Inv B w1046 H1022 [.cb g7 _ 231, .cb g2 _ 29, .cb g958 [ckV flB (Vec.set σ969 i969 (u8I ((shrW x1041 (wI ((24 : Int) - (wI ((8 : Int) * (Int.tmod (i969 : Int) 4)))))).toNat : Int)))] 29] := hI
       refine wend ?_
       refine inN ?_
       refine wthen ?_
       refine wren (fun ρ1047 eρ1047 => ?_)
       have h1048 : opd ρ1047 86 (.tmp 2) = .pointer (some ⟨g2, 0 + 0, none⟩) := (eρ1047 2).trans h1036
       have h1049 : opd ρ1047 86 (.tmp 3) = .pointer (some ⟨g7, 0 + 0, none⟩) := (eρ1047 3).trans h1037
       have h1050 : opd ρ1047 86 (.tmp 11) = .pointer (some ⟨g958, 0 + 0, none⟩) := (eρ1047 11).trans h1038
       have h1051 : opd ρ1047 86 (.tmp 69) = .int .i64 (i969 : Int) := (eρ1047 69).trans h1040
       clear eρ1047
       refine wreg ?_
       refine lv (v := .int .i64 ((i969 + 1 : Nat) : Int)) rfl (r_addn rfl h1051 rfl hlt969) rfl ?_
       refine lv (v := .int .i64 ((i969 + 1 : Nat) : Int)) rfl (r_mv rfl rfl) rfl ?_
       refine wend ?_
       obtain rfl := Option.some.inj hF
       exact ⟨k969, (Vec.set σ969 i969 (u8I ((shrW x1041 (wI ((24 : Int) - (wI ((8 : Int) * (Int.tmod (i969 : Int) 4)))))).toNat : Int))), _, rfl, rfl, ⟨H1022, hleH1022, h1048, h1049, h1050, rfl, hI⟩, forK_inl hy969 hb969⟩
      ·rw [if_neg hc1043] at hF; cases hF
     ·skip
      have hbhc1029 : (decide ((i969 : Int) < 32)) = false := decide_eq_false hc1029
      obtain rfl : k969 = 0 := by omega
      obtain rfl := forK_end hy969
      have hF := hF969
      try dsimp only at hF
      refine wcF ((show opd _ _ _ = _ from rfl).trans (congrArg Value.bool hbhc1029)) ?_
      refine wp_exit ?_
      refine thE ?_
      refine thE ?_
      refine inX ?_
      refine wthen ?_
      refine wren (fun ρ1052 eρ1052 => ?_)
      have h1053 : opd ρ1052 86 (.tmp 2) = .pointer (some ⟨g2, 0 + 0, none⟩) := (eρ1052 2).trans h1023
      have h1054 : opd ρ1052 86 (.tmp 11) = .pointer (some ⟨g958, 0 + 0, none⟩) := (eρ1052 11).trans h1025
      clear eρ1052
      refine wseq ?_
      refine wreg ?_
      refine lv (v := .agg (flat [ckV flB σ969]).toArray) rfl (r_cla (off := 0) (p := 0) (m := 1) (hI.good.ca 2 rfl) rfl ag29 h1054 rfl rfl) rfl ?_
      refine lst rfl (l_st (off := 0) (p := 0) (m := 1) (new := [ckV flB σ969]) hI 1 rfl rfl sz29 h1053 rfl rfl rfl rfl rfl) rfl ?_
      intro w1055 hI
      replace hI : Inv B w1055 H1022 [.cb g7 _ 231, .cb g2 [ckV flB σ969] 29, .cb g958 [ckV flB σ969] 29] := hI
      refine wend ?_
      refine wthen ?_
      refine wren (fun ρ1056 eρ1056 => ?_)
      have h1057 : opd ρ1056 86 (.tmp 2) = .pointer (some ⟨g2, 0 + 0, none⟩) := (eρ1056 2).trans h1053
      clear eρ1056
      refine wp_ret ?_
      obtain rfl := Option.some.inj hF
      subst hB
      refine finR (rs := [.cell 2 29]) (vs := [.agg (flat [ckV flB σ969]).toArray]) rfl ⟨⟨_, h1057, ld_agg (hI.good.ca 1 rfl) ag29 rfl⟩, trivial⟩ ?_
      exact hI.fin 0 ⟨rfl, rfl⟩
   ·skip
    rw [if_neg hc835] at hF
    have hbhc835 : (decide ((56 : Int) ≤ σ37.2.1)) = false := decide_eq_false hc835
    refine wcF (h834.trans (congrArg Value.bool hbhc835)) ?_
    refine wp_skip ?_
    refine wthen ?_
    refine wseq ?_
    refine wseq ?_
    refine wreg ?_
    refine lv (v := .int .i64 0) rfl (r_mv rfl rfl) rfl ?_
    refine wend ?_
    refine wthen ?_
    refine wren (fun ρ1058 eρ1058 => ?_)
    have h1059 : opd ρ1058 86 (.tmp 2) = .pointer (some ⟨g2, 0 + 0, none⟩) := (eρ1058 2).trans h830
    have h1060 : opd ρ1058 86 (.tmp 3) = .pointer (some ⟨g7, 0 + 0, none⟩) := (eρ1058 3).trans h831
    have h1061 : opd ρ1058 86 (.tmp 4) = .pointer (some ⟨g14, 0 + 0, none⟩) := (eρ1058 4).trans h832
    have h1062 : opd ρ1058 86 (.tmp 5) = .int .i64 σ37.1 := (eρ1058 5).trans h833
    have h1063 : opd ρ1058 86 (.tmp 52) = .int .i64 0 := eρ1058 52
    clear eρ1058
    refine wp_block ?_
    obtain ⟨y1064, hy1064, hF1064⟩ := Option.bind_eq_some_iff.1 hF
    refine wfor (n := 86) 8 _ (fun (i1064 : Nat) (σ1064 : (Vec UInt8 64)) ρ' w' => ∃ (H1119 : Hp), Hle H544 H1119 ∧ opd ρ' 86 (.tmp 2) = .pointer (some ⟨g2, 0 + 0, none⟩) ∧ opd ρ' 86 (.tmp 3) = .pointer (some ⟨g7, 0 + 0, none⟩) ∧ opd ρ' 86 (.tmp 4) = .pointer (some ⟨g14, 0 + 0, none⟩) ∧ opd ρ' 86 (.tmp 5) = .int .i64 σ37.1 ∧ opd ρ' 86 (.tmp 52) = .int .i64 (i1064 : Int) ∧ Inv B w' H1119 [.cb g2 [ckV flB (Vec.rep 32 0)] 29, .cb g7 [ckV flW σ37.2.2.1] 231, .cb g14 [ckV flB σ1064] 232]) hy1064 ⟨H544, (Hle.refl _), h1059, h1060, h1061, h1062, h1063, hI⟩ ?_
    rintro k1064 i1064 σ1064 ρ1125 w1126 hk1064 ⟨H1119, hleH1119, h1120, h1121, h1122, h1123, h1124, hI⟩ hy1064
    refine wseq ?_
    refine wreg ?_
    refine lv (v := .bool (decide ((i1064 : Int) < 8))) rfl (r_lss rfl h1124 rfl rfl) rfl ?_
    refine wend ?_
    refine wthen ?_
    refine wseq ?_
    by_cases hc1127 : (i1064 : Int) < 8
    ·skip
     have hbhc1127 : (decide ((i1064 : Int) < 8)) = true := decide_eq_true hc1127
     obtain ⟨k1064, rfl⟩ : ∃ m, k1064 = m + 1 := ⟨k1064 - 1, by omega⟩
     obtain ⟨z1064, hb1064⟩ := forK_body hy1064
     have hF := hb1064
     have hlt1064 : ((i1064 : Nat) : Int) + 1 ≤ 9223372036854775807 := by omega
     refine wcT ((show opd _ _ _ = _ from rfl).trans (congrArg Value.bool hbhc1127)) ?_
     refine wp_skip ?_
     refine wthen ?_
     refine wren (fun ρ1128 eρ1128 => ?_)
     have h1129 : opd ρ1128 86 (.tmp 2) = .pointer (some ⟨g2, 0 + 0, none⟩) := (eρ1128 2).trans h1120
     have h1130 : opd ρ1128 86 (.tmp 3) = .pointer (some ⟨g7, 0 + 0, none⟩) := (eρ1128 3).trans h1121
     have h1131 : opd ρ1128 86 (.tmp 4) = .pointer (some ⟨g14, 0 + 0, none⟩) := (eρ1128 4).trans h1122
     have h1132 : opd ρ1128 86 (.tmp 5) = .int .i64 σ37.1 := (eρ1128 5).trans h1123
     have h1133 : opd ρ1128 86 (.tmp 52) = .int .i64 (i1064 : Int) := (eρ1128 52).trans h1124
     clear eρ1128
     refine wseq ?_
     refine wp_block ?_
     refine wseq ?_
     refine wreg ?_
     refine lv (v := .int .i64 (i1064 : Int)) rfl (r_mv rfl h1133) rfl ?_
     refine lv (v := .int .i64 (i1064 : Int)) rfl (r_as rfl rfl) rfl ?_
     refine wend ?_
     refine wthen ?_
     refine wren (fun ρ1134 eρ1134 => ?_)
     have h1135 : opd ρ1134 86 (.tmp 2) = .pointer (some ⟨g2, 0 + 0, none⟩) := (eρ1134 2).trans h1129
     have h1136 : opd ρ1134 86 (.tmp 3) = .pointer (some ⟨g7, 0 + 0, none⟩) := (eρ1134 3).trans h1130
     have h1137 : opd ρ1134 86 (.tmp 4) = .pointer (some ⟨g14, 0 + 0, none⟩) := (eρ1134 4).trans h1131
     have h1138 : opd ρ1134 86 (.tmp 5) = .int .i64 σ37.1 := (eρ1134 5).trans h1132
     have h1139 : opd ρ1134 86 (.tmp 10) = .int .i64 (i1064 : Int) := eρ1134 10
     have h1140 : opd ρ1134 86 (.tmp 52) = .int .i64 (i1064 : Int) := (eρ1134 52).trans h1133
     clear eρ1134
     refine wreg ?_
     refine lv (v := .int .i64 (i1064 : Int)) rfl (r_mv rfl h1139) rfl ?_
     refine lv (v := .int .i64 (wI ((56 : Int) + (i1064 : Int)))) rfl (r_addw rfl rfl rfl) rfl ?_
     refine lv (v := .int .i64 σ37.1) rfl (r_mv rfl h1138) rfl ?_
     refine lv (v := u64v (u64I σ37.1)) rfl (c_u64 rfl un3 un234 rfl) rfl ?_
     refine lv (v := u64v (shlQ (u64I σ37.1) 3)) rfl (q_shlQ (b := 3) rfl rfl rfl (by decide)) rfl ?_
     refine lv (v := .int .i64 (i1064 : Int)) rfl (r_mv rfl h1139) rfl ?_
     refine lv (v := .int .i64 (wI ((8 : Int) * (i1064 : Int)))) rfl (r_mulw rfl rfl rfl) rfl ?_
     refine lv (v := .int .i64 (wI ((56 : Int) - (wI ((8 : Int) * (i1064 : Int)))))) rfl (r_subw rfl rfl rfl) rfl ?_
     by_cases hc1141 : (0 : Int) ≤ (wI ((56 : Int) - (wI ((8 : Int) * (i1064 : Int)))))
     ·rw [if_pos hc1141] at hF
      refine lv (v := u64v (shrQ (shlQ (u64I σ37.1) 3) (wI ((56 : Int) - (wI ((8 : Int) * (i1064 : Int))))))) rfl (r_shrQ rfl rfl rfl hc1141) rfl ?_
      refine lv (v := bv (u8I ((shrQ (shlQ (u64I σ37.1) 3) (wI ((56 : Int) - (wI ((8 : Int) * (i1064 : Int)))))).toNat : Int))) rfl (c_i8 rfl un234 un5 rfl) rfl ?_
      obtain ⟨x1142, hx1142, hF⟩ := Option.bind_eq_some_iff.1 hF
      obtain ⟨q1143, eq1143⟩ : ∃ z, z = 0 + 0 + ((wI ((56 : Int) + (i1064 : Int)) : Int).toNat) * 1 := ⟨_, rfl⟩
      refine lv (v := .pointer (some ⟨g14, q1143 + 0, none⟩)) rfl (r_ixq rfl ar232 h1137 rfl (ixI_some hx1142).2 (Vec.lt (ixI_some hx1142).1) eq1143) rfl ?_
      refine lst rfl (l_sta (f := flB) (m := 64) (vv := σ1064) (off := 0) (p := 0) (k := ((wI ((56 : Int) + (i1064 : Int)) : Int).toNat)) (x1 := (u8I ((shrQ (shlQ (u64I σ37.1) 3) (wI ((56 : Int) - (wI ((8 : Int) * (i1064 : Int)))))).toNat : Int))) hI 2 rfl rfl sz5 rfl eq1143 rfl rfl rfl rfl (ixI_some hx1142).1 rfl) rfl ?_
      intro w1144 hI
      replace hI : Inv B w1144 H1119 [.cb g2 _ 29, .cb g7 _ 231, .cb g14 [ckV flB (Vec.set σ1064 ((wI ((56 : Int) + (i1064 : Int)) : Int).toNat) (u8I ((shrQ (shlQ (u64I σ37.1) 3) (wI ((56 : Int) - (wI ((8 : Int) * (i1064 : Int)))))).toNat : Int)))] 232] := hI
      refine wend ?_
      refine inN ?_
      refine wthen ?_
      refine wren (fun ρ1145 eρ1145 => ?_)
      have h1146 : opd ρ1145 86 (.tmp 2) = .pointer (some ⟨g2, 0 + 0, none⟩) := (eρ1145 2).trans h1135
      have h1147 : opd ρ1145 86 (.tmp 3) = .pointer (some ⟨g7, 0 + 0, none⟩) := (eρ1145 3).trans h1136
      have h1148 : opd ρ1145 86 (.tmp 4) = .pointer (some ⟨g14, 0 + 0, none⟩) := (eρ1145 4).trans h1137
      have h1149 : opd ρ1145 86 (.tmp 5) = .int .i64 σ37.1 := (eρ1145 5).trans h1138
      have h1150 : opd ρ1145 86 (.tmp 52) = .int .i64 (i1064 : Int) := (eρ1145 52).trans h1140
      clear eρ1145
      refine wreg ?_
      refine lv (v := .int .i64 ((i1064 + 1 : Nat) : Int)) rfl (r_addn rfl h1150 rfl hlt1064) rfl ?_
      refine lv (v := .int .i64 ((i1064 + 1 : Nat) : Int)) rfl (r_mv rfl rfl) rfl ?_
      refine wend ?_
      obtain rfl := Option.some.inj hF
      exact ⟨k1064, (Vec.set σ1064 ((wI ((56 : Int) + (i1064 : Int)) : Int).toNat) (u8I ((shrQ (shlQ (u64I σ37.1) 3) (wI ((56 : Int) - (wI ((8 : Int) * (i1064 : Int)))))).toNat : Int))), _, rfl, rfl, ⟨H1119, hleH1119, h1146, h1147, h1148, h1149, rfl, hI⟩, forK_inl hy1064 hb1064⟩
     ·rw [if_neg hc1141] at hF; cases hF
    ·skip
     have hbhc1127 : (decide ((i1064 : Int) < 8)) = false := decide_eq_false hc1127
     obtain rfl : k1064 = 0 := by omega
     obtain rfl := forK_end hy1064
     have hF := hF1064
     try dsimp only at hF
     refine wcF ((show opd _ _ _ = _ from rfl).trans (congrArg Value.bool hbhc1127)) ?_
     refine wp_exit ?_
     refine thE ?_
     refine thE ?_
     refine inX ?_
     refine wthen ?_
     refine wren (fun ρ1151 eρ1151 => ?_)
     have h1152 : opd ρ1151 86 (.tmp 2) = .pointer (some ⟨g2, 0 + 0, none⟩) := (eρ1151 2).trans h1120
     have h1153 : opd ρ1151 86 (.tmp 3) = .pointer (some ⟨g7, 0 + 0, none⟩) := (eρ1151 3).trans h1121
     have h1154 : opd ρ1151 86 (.tmp 4) = .pointer (some ⟨g14, 0 + 0, none⟩) := (eρ1151 4).trans h1122
     clear eρ1151
     refine wseq ?_
     refine wreg ?_
     obtain ⟨q1155, eq1155⟩ : ∃ z : Nat, z = 0 := ⟨_, rfl⟩
     refine lv (v := .slice (some ⟨g14, q1155, none⟩) (64 - 0) (64 - 0)) rfl (by rw [eq1155]; exact r_sla' rfl ar232 h1154) rfl ?_
     replace hI := hI.bring 2 rfl
     replace hI := hI.bring 2 rfl
     replace hI : Inv B w1126 H1119 [.cb g7 _ 231, .cb g14 [ckV flB σ1064] 232, .cb g2 _ 29] := hI
     obtain ⟨x1156, hx1156, hF⟩ := Option.bind_eq_some_iff.1 hF
     subst eq1155
     have hsp1159 := fun (H1 : Hp) (hl1 : Hle H1119 H1) (hA1 : At H1 g14 0 [ckV flB σ1064]) (hG1 : Good w1126 H1 [.cb g7 [ckV flW σ37.2.2.1] 231]) => spec_145 hx1156 (((hT.mono hleH544).mono hleH1119).mono hl1) hG1 (At.sl (f := flB) (m := 64) (off := 0) (p := 0) hA1 rfl rfl rfl)
     refine fcl [.cb g7 [ckV flW σ37.2.2.1] 231] [.cb g2 [ckV flB (Vec.rep 32 0)] 29] fc145 rfl rfl rfl hI (argc h1153 (argc rfl rfl)) hsp1159 ?_ ?_
     ·rintro _ _ ⟨rfl, rfl⟩ e he; simp at he; subst he; exact ⟨_, _, _, rfl⟩
     rintro _ H1157 _ w1158 ⟨rfl, rfl⟩ hleH1157 hI
     replace hI : Inv B w1158 H1157 [.cb g7 [ckV flW x1156] 231, .cb g14 _ 232, .cb g2 _ 29] := hI
     refine wend ?_
     refine wthen ?_
     refine wren (fun ρ1160 eρ1160 => ?_)
     have h1161 : opd ρ1160 86 (.tmp 2) = .pointer (some ⟨g2, 0 + 0, none⟩) := (eρ1160 2).trans h1152
     have h1162 : opd ρ1160 86 (.tmp 3) = .pointer (some ⟨g7, 0 + 0, none⟩) := (eρ1160 3).trans h1153
     clear eρ1160
     refine wseq ?_
     refine wreg ?_
     refine le rfl (l_al hI rfl ze29) rfl ?_
     rintro _ w1164 ⟨g1163, rfl, hI⟩
     replace hI : Inv B w1164 H1157 [.cb g7 _ 231, .cb g14 _ 232, .cb g2 _ 29, .cb g1163 [ckV flB (Vec.rep 32 0)] 29] := hI
     refine wend ?_
     refine wthen ?_
     refine wren (fun ρ1165 eρ1165 => ?_)
     have h1166 : opd ρ1165 86 (.tmp 2) = .pointer (some ⟨g2, 0 + 0, none⟩) := (eρ1165 2).trans h1161
     have h1167 : opd ρ1165 86 (.tmp 3) = .pointer (some ⟨g7, 0 + 0, none⟩) := (eρ1165 3).trans h1162
     have h1168 : opd ρ1165 86 (.tmp 11) = .pointer (some ⟨g1163, 0 + 0, none⟩) := eρ1165 11
     clear eρ1165
     refine wseq ?_
     refine wseq ?_
     refine wreg ?_
     refine lv (v := .int .i64 0) rfl (r_mv rfl rfl) rfl ?_
     refine wend ?_
     refine wthen ?_
     refine wren (fun ρ1169 eρ1169 => ?_)
     have h1170 : opd ρ1169 86 (.tmp 2) = .pointer (some ⟨g2, 0 + 0, none⟩) := (eρ1169 2).trans h1166
     have h1171 : opd ρ1169 86 (.tmp 3) = .pointer (some ⟨g7, 0 + 0, none⟩) := (eρ1169 3).trans h1167
     have h1172 : opd ρ1169 86 (.tmp 11) = .pointer (some ⟨g1163, 0 + 0, none⟩) := (eρ1169 11).trans h1168
     have h1173 : opd ρ1169 86 (.tmp 69) = .int .i64 0 := eρ1169 69
     clear eρ1169
     refine wp_block ?_
     obtain ⟨y1174, hy1174, hF1174⟩ := Option.bind_eq_some_iff.1 hF
     refine wfor (n := 86) 32 _ (fun (i1174 : Nat) (σ1174 : (Vec UInt8 32)) ρ' w' => ∃ (H1227 : Hp), Hle H1157 H1227 ∧ opd ρ' 86 (.tmp 2) = .pointer (some ⟨g2, 0 + 0, none⟩) ∧ opd ρ' 86 (.tmp 3) = .pointer (some ⟨g7, 0 + 0, none⟩) ∧ opd ρ' 86 (.tmp 11) = .pointer (some ⟨g1163, 0 + 0, none⟩) ∧ opd ρ' 86 (.tmp 69) = .int .i64 (i1174 : Int) ∧ Inv B w' H1227 [.cb g7 [ckV flW x1156] 231, .cb g2 [ckV flB (Vec.rep 32 0)] 29, .cb g1163 [ckV flB σ1174] 29]) hy1174 ⟨H1157, (Hle.refl _), h1170, h1171, h1172, h1173, (hI.keep [true, false, true, true])⟩ ?_
     rintro k1174 i1174 σ1174 ρ1232 w1233 hk1174 ⟨H1227, hleH1227, h1228, h1229, h1230, h1231, hI⟩ hy1174
     refine wseq ?_
     refine wreg ?_
     refine lv (v := .bool (decide ((i1174 : Int) < 32))) rfl (r_lss rfl h1231 rfl rfl) rfl ?_
     refine wend ?_
     refine wthen ?_
     refine wseq ?_
     by_cases hc1234 : (i1174 : Int) < 32
     ·skip
      have hbhc1234 : (decide ((i1174 : Int) < 32)) = true := decide_eq_true hc1234
      obtain ⟨k1174, rfl⟩ : ∃ m, k1174 = m + 1 := ⟨k1174 - 1, by omega⟩
      obtain ⟨z1174, hb1174⟩ := forK_body hy1174
      have hF := hb1174
      have hlt1174 : ((i1174 : Nat) : Int) + 1 ≤ 9223372036854775807 := by omega
      refine wcT ((show opd _ _ _ = _ from rfl).trans (congrArg Value.bool hbhc1234)) ?_
      refine wp_skip ?_
      refine wthen ?_
      refine wren (fun ρ1235 eρ1235 => ?_)
      have h1236 : opd ρ1235 86 (.tmp 2) = .pointer (some ⟨g2, 0 + 0, none⟩) := (eρ1235 2).trans h1228
      have h1237 : opd ρ1235 86 (.tmp 3) = .pointer (some ⟨g7, 0 + 0, none⟩) := (eρ1235 3).trans h1229
      have h1238 : opd ρ1235 86 (.tmp 11) = .pointer (some ⟨g1163, 0 + 0, none⟩) := (eρ1235 11).trans h1230
      have h1239 : opd ρ1235 86 (.tmp 69) = .int .i64 (i1174 : Int) := (eρ1235 69).trans h1231
      clear eρ1235
      refine wseq ?_
      refine wp_block ?_
      refine wseq ?_
      refine wreg ?_
      refine lv (v := .int .i64 (i1174 : Int)) rfl (r_mv rfl h1239) rfl ?_
      refine lv (v := .int .i64 (i1174 : Int)) rfl (r_as rfl rfl) rfl ?_
      refine wend ?_
      refine wthen ?_
      refine wren (fun ρ1240 eρ1240 => ?_)
      have h1241 : opd ρ1240 86 (.tmp 2) = .pointer (some ⟨g2, 0 + 0, none⟩) := (eρ1240 2).trans h1236
      have h1242 : opd ρ1240 86 (.tmp 3) = .pointer (some ⟨g7, 0 + 0, none⟩) := (eρ1240 3).trans h1237
      have h1243 : opd ρ1240 86 (.tmp 11) = .pointer (some ⟨g1163, 0 + 0, none⟩) := (eρ1240 11).trans h1238
      have h1244 : opd ρ1240 86 (.tmp 12) = .int .i64 (i1174 : Int) := eρ1240 12
      have h1245 : opd ρ1240 86 (.tmp 69) = .int .i64 (i1174 : Int) := (eρ1240 69).trans h1239
      clear eρ1240
      refine wreg ?_
      refine lv (v := .int .i64 (i1174 : Int)) rfl (r_mv rfl h1244) rfl ?_
      refine lv (v := .int .i64 (i1174 : Int)) rfl (r_mv rfl h1244) rfl ?_
      refine lv (v := .int .i64 (wI (Int.tdiv (i1174 : Int) 4))) rfl (r_quo rfl rfl rfl (by decide)) rfl ?_
      obtain ⟨x1246, hx1246, hF⟩ := Option.bind_eq_some_iff.1 hF
      obtain ⟨q1247, eq1247⟩ : ∃ z, z = 0 + 0 + ((wI (Int.tdiv (i1174 : Int) 4) : Int).toNat) * 1 := ⟨_, rfl⟩
      refine lv (v := .pointer (some ⟨g7, q1247 + 0, none⟩)) rfl (r_ixq rfl ar231 h1242 rfl (ixI_some hx1246).2 (Vec.lt (ixI_some hx1246).1) eq1247) rfl ?_
      refine lv (v := u32v x1246) rfl (r_cl1 (off := 0) (p := 0) (CA.el (f := flW) (m := 8) (off := 0) (p := 0) (hI.good.ca 0 rfl) rfl rfl (ixI_some hx1246).1 eq1247) rfl sc229 rfl rfl rfl) rfl ?_
      refine lv (v := .int .i64 (i1174 : Int)) rfl (r_mv rfl h1244) rfl ?_
      refine lv (v := .int .i64 (Int.tmod (i1174 : Int) 4)) rfl (r_rem rfl rfl rfl (by decide)) rfl ?_
      refine lv (v := .int .i64 (wI ((8 : Int) * (Int.tmod (i1174 : Int) 4)))) rfl (r_mulw rfl rfl rfl) rfl ?_
      refine lv (v := .int .i64 (wI ((24 : Int) - (wI ((8 : Int) * (Int.tmod (i1174 : Int) 4)))))) rfl (r_subw rfl rfl rfl) rfl ?_
      by_cases hc1248 : (0 : Int) ≤ (wI ((24 : Int) - (wI ((8 : Int) * (Int.tmod (i1174 : Int) 4)))))
      ·rw [if_pos hc1248] at hF
       refine lv (v := u32v (shrW x1246 (wI ((24 : Int) - (wI ((8 : Int) * (Int.tmod (i1174 : Int) 4))))))) rfl (q_shrW rfl rfl rfl hc1248) rfl ?_
       refine lv (v := bv (u8I ((shrW x1246 (wI ((24 : Int) - (wI ((8 : Int) * (Int.tmod (i1174 : Int) 4)))))).toNat : Int))) rfl (c_i8 rfl un229 un5 rfl) rfl ?_
       obtain ⟨x1249, hx1249, hF⟩ := Option.bind_eq_some_iff.1 hF
       obtain ⟨q1250, eq1250⟩ : ∃ z, z = 0 + 0 + i1174 * 1 := ⟨_, rfl⟩
       refine lv (v := .pointer (some ⟨g1163, q1250 + 0, none⟩)) rfl (r_ixq rfl ar29 h1243 rfl rfl (Vec.lt hx1249) eq1250) rfl ?_
       refine lst rfl (l_sta (f := flB) (m := 32) (vv := σ1174) (off := 0) (p := 0) (k := i1174) (x1 := (u8I ((shrW x1246 (wI ((24 : Int) - (wI ((8 : Int) * (Int.tmod (i1174 : Int) 4)))))).toNat : Int))) hI 2 rfl rfl sz5 rfl eq1250 rfl rfl rfl rfl hx1249 rfl) rfl ?_
       intro w1251 hI
       replace hI : Inv B w1251 H1227 [.cb g7 _ 231, .cb g2 _ 29, .cb g1163 [ckV flB (Vec.set σ1174 i1174 (u8I ((shrW x1246 (wI ((24 : Int) - (wI ((8 : Int) * (Int.tmod (i1174 : Int) 4)))))).toNat : Int)))] 29] := hI
       refine wend ?_
       refine inN ?_
       refine wthen ?_
       refine wren (fun ρ1252 eρ1252 => ?_)
       have h1253 : opd ρ1252 86 (.tmp 2) = .pointer (some ⟨g2, 0 + 0, none⟩) := (eρ1252 2).trans h1241
       have h1254 : opd ρ1252 86 (.tmp 3) = .pointer (some ⟨g7, 0 + 0, none⟩) := (eρ1252 3).trans h1242
       have h1255 : opd ρ1252 86 (.tmp 11) = .pointer (some ⟨g1163, 0 + 0, none⟩) := (eρ1252 11).trans h1243
       have h1256 : opd ρ1252 86 (.tmp 69) = .int .i64 (i1174 : Int) := (eρ1252 69).trans h1245
       clear eρ1252
       refine wreg ?_
       refine lv (v := .int .i64 ((i1174 + 1 : Nat) : Int)) rfl (r_addn rfl h1256 rfl hlt1174) rfl ?_
       refine lv (v := .int .i64 ((i1174 + 1 : Nat) : Int)) rfl (r_mv rfl rfl) rfl ?_
       refine wend ?_
       obtain rfl := Option.some.inj hF
       exact ⟨k1174, (Vec.set σ1174 i1174 (u8I ((shrW x1246 (wI ((24 : Int) - (wI ((8 : Int) * (Int.tmod (i1174 : Int) 4)))))).toNat : Int))), _, rfl, rfl, ⟨H1227, hleH1227, h1253, h1254, h1255, rfl, hI⟩, forK_inl hy1174 hb1174⟩
      ·rw [if_neg hc1248] at hF; cases hF
     ·skip
      have hbhc1234 : (decide ((i1174 : Int) < 32)) = false := decide_eq_false hc1234
      obtain rfl : k1174 = 0 := by omega
      obtain rfl := forK_end hy1174
      have hF := hF1174
      try dsimp only at hF
      refine wcF ((show opd _ _ _ = _ from rfl).trans (congrArg Value.bool hbhc1234)) ?_
      refine wp_exit ?_
      refine thE ?_
      refine thE ?_
      refine inX ?_
      refine wthen ?_
      refine wren (fun ρ1257 eρ1257 => ?_)
      have h1258 : opd ρ1257 86 (.tmp 2) = .pointer (some ⟨g2, 0 + 0, none⟩) := (eρ1257 2).trans h1228
      have h1259 : opd ρ1257 86 (.tmp 11) = .pointer (some ⟨g1163, 0 + 0, none⟩) := (eρ1257 11).trans h1230
      clear eρ1257
      refine wseq ?_
      refine wreg ?_
      refine lv (v := .agg (flat [ckV flB σ1174]).toArray) rfl (r_cla (off := 0) (p := 0) (m := 1) (hI.good.ca 2 rfl) rfl ag29 h1259 rfl rfl) rfl ?_
      refine lst rfl (l_st (off := 0) (p := 0) (m := 1) (new := [ckV flB σ1174]) hI 1 rfl rfl sz29 h1258 rfl rfl rfl rfl rfl) rfl ?_
      intro w1260 hI
      replace hI : Inv B w1260 H1227 [.cb g7 _ 231, .cb g2 [ckV flB σ1174] 29, .cb g1163 [ckV flB σ1174] 29] := hI
      refine wend ?_
      refine wthen ?_
      refine wren (fun ρ1261 eρ1261 => ?_)
      have h1262 : opd ρ1261 86 (.tmp 2) = .pointer (some ⟨g2, 0 + 0, none⟩) := (eρ1261 2).trans h1258
      clear eρ1261
      refine wp_ret ?_
      obtain rfl := Option.some.inj hF
      subst hB
      refine finR (rs := [.cell 2 29]) (vs := [.agg (flat [ckV flB σ1174]).toArray]) rfl ⟨⟨_, h1262, ld_agg (hI.good.ca 1 rfl) ag29 rfl⟩, trivial⟩ ?_
      exact hI.fin 0 ⟨rfl, rfl⟩
  ·rw [if_neg hc820] at hF; cases hF
noncomputable def M_once_shut (a0 : Vec UInt8 32) : Option ((Vec UInt8 32)) := ((M_sha_Of [a0.l]).bind fun x14 => some x14)
set_option maxHeartbeats 1000000 in
theorem spec_104 {w : World} {H : Hp} {a0 : Vec UInt8 32}  {r : (Vec UInt8 32)} (hF : M_once_shut a0 = some r) (hT : Tab H) (hG : Good w H [])  :
  Fine Tryd.prog 104 [.agg (flat [ckV flB a0]).toArray] w H [] (fun H' v L' => v = .agg (flat [ckV flB r]).toArray ∧ L' = []) := by
 unfold M_once_shut at hF
 unfold Fine
 obtain ⟨B, hB⟩ : ∃ B : Base, B = ⟨w, H, blks []⟩ := ⟨_, rfl⟩
 have hI : Inv B w H [] := by rw [hB]; exact Inv.start hG
 refine enter (n := 6) (args := [.agg (flat [ckV flB a0]).toArray]) Tryd.func104 rfl Tryd.ntmps104 (Nat.le_of_ble_eq_true rfl) ?_
 refine wseq ?_
 refine wreg ?_
 refine le rfl (l_box (cks := [ckV flB a0]) hI rfl rfl rfl) rfl ?_
 rintro _ w2 ⟨g1, rfl, hI⟩
 replace hI : Inv B w2 H [.cb g1 [ckV flB a0] 29] := hI
 refine le rfl (l_al hI rfl ze29) rfl ?_
 rintro _ w4 ⟨g3, rfl, hI⟩
 replace hI : Inv B w4 H [.cb g1 [ckV flB a0] 29, .cb g3 [ckV flB (Vec.rep 32 0)] 29] := hI
 refine wend ?_
 refine wthen ?_
 refine wren (fun ρ5 eρ5 => ?_)
 have h6 : opd ρ5 6 (.tmp 1) = .pointer (some ⟨g1, 0 + 0, none⟩) := eρ5 1
 have h7 : opd ρ5 6 (.tmp 2) = .pointer (some ⟨g3, 0 + 0, none⟩) := eρ5 2
 clear eρ5
 refine wseq ?_
 refine wreg ?_
 obtain ⟨H8, hI, hleH8, hA9⟩ := hI.freeze' 0 rfl
 replace hI : Inv B w4 H8 [.cb g3 _ 29] := hI
 replace hA9 : At H8 g1 0 [ckV flB a0] := hA9
 have hs10 := At.sl (f := flB) (m := 32) (off := 0) (p := 0) hA9 rfl rfl rfl
 obtain ⟨s10, es10⟩ : ∃ z : Sv, z = ⟨some ⟨g1, 0 + 0, none⟩, 32, 32⟩ := ⟨_, rfl⟩
 rw [← es10] at hs10
 have hfs10 : s10.n = s10.c := by rw [es10]
 refine lv (v := s10.v) rfl (by rw [es10]; exact r_sla' rfl ar29 h6) rfl ?_
 refine le rfl (l_bs (t := (Ty.sl (Fl.ty flB))) (vs := [s10.v]) (xs := [a0.l]) hI rfl sl228 inf158 rfl rfl (argc rfl rfl) (.cons rfl ⟨s10, rfl, hs10⟩ .nil) rfl) rfl ?_
 rintro _ w13 ⟨s11, H12, rfl, hI, hleH12, hs11, hfs11, hgs11⟩
 obtain ⟨x14, hx14, hF⟩ := Option.bind_eq_some_iff.1 hF
 have hsp17 := spec_99 hx14 ((hT.mono hleH8).mono hleH12) (hI.part 0) hs11
 refine fc ([]) ([.cb g3 [ckV flB (Vec.rep 32 0)] 29]) (args := [s11.v]) fc99 rfl rfl rfl hI (argc rfl rfl) (hsp17) ?_
 rintro _ H15 _ w16 ⟨rfl, rfl⟩ hleH15 hI
 replace hI : Inv B w16 H15 [.cb g3 _ 29] := hI
 refine lst rfl (l_st (off := 0) (p := 0) (m := 1) (new := [ckV flB x14]) hI 0 rfl rfl sz29 h7 rfl rfl rfl rfl rfl) rfl ?_
 intro w18 hI
 replace hI : Inv B w18 H15 [.cb g3 [ckV flB x14] 29] := hI
 refine wend ?_
 refine wthen ?_
 refine wren (fun ρ19 eρ19 => ?_)
 have h20 : opd ρ19 6 (.tmp 2) = .pointer (some ⟨g3, 0 + 0, none⟩) := (eρ19 2).trans h7
 clear eρ19
 refine wp_ret ?_
 obtain rfl := Option.some.inj hF
 subst hB
 refine finR (rs := [.cell 2 29]) (vs := [.agg (flat [ckV flB x14]).toArray]) rfl ⟨⟨_, h20, ld_agg (hI.good.ca 0 rfl) ag29 rfl⟩, trivial⟩ ?_
 exact hI.fin 0 ⟨rfl, rfl⟩
noncomputable def M_once_bit (a0 : Vec UInt8 32) (a1 : Int) : Option (Int) := ((ixI a0.l (wI (Int.tdiv a1 8))).bind fun x6 => (if (0 : Int) ≤ (wI ((7 : Int) - (Int.tmod a1 8))) then some (bits .and .i64 ((shrB x6 (wI ((7 : Int) - (Int.tmod a1 8)))).toNat : Int) 1) else none))
set_option maxHeartbeats 1000000 in
theorem spec_105 {w : World} {H : Hp} {a0 : Vec UInt8 32} {a1 : Int}  {r : Int} (hF : M_once_bit a0 a1 = some r) (hT : Tab H) (hG : Good w H [])  :
  Fine Tryd.prog 105 [.agg (flat [ckV flB a0]).toArray, .int .i64 a1] w H [] (fun H' v L' => v = .int .i64 r ∧ L' = []) := by
 unfold M_once_bit at hF
 unfold Fine
 obtain ⟨B, hB⟩ : ∃ B : Base, B = ⟨w, H, blks []⟩ := ⟨_, rfl⟩
 have hI : Inv B w H [] := by rw [hB]; exact Inv.start hG
 refine enter (n := 15) (args := [.agg (flat [ckV flB a0]).toArray, .int .i64 a1]) Tryd.func105 rfl Tryd.ntmps105 (Nat.le_of_ble_eq_true rfl) ?_
 refine wseq ?_
 refine wreg ?_
 refine le rfl (l_box (cks := [ckV flB a0]) hI rfl rfl rfl) rfl ?_
 rintro _ w2 ⟨g1, rfl, hI⟩
 replace hI : Inv B w2 H [.cb g1 [ckV flB a0] 29] := hI
 refine lv (v := .int .i64 0) rfl (r_as rfl rfl) rfl ?_
 refine wend ?_
 refine wthen ?_
 refine wren (fun ρ3 eρ3 => ?_)
 have h4 : opd ρ3 15 (.tmp 1) = .int .i64 a1 := eρ3 1
 have h5 : opd ρ3 15 (.tmp 2) = .pointer (some ⟨g1, 0 + 0, none⟩) := eρ3 2
 clear eρ3
 refine wseq ?_
 refine wreg ?_
 refine lv (v := .int .i64 a1) rfl (r_mv rfl h4) rfl ?_
 refine lv (v := .int .i64 (wI (Int.tdiv a1 8))) rfl (r_quo rfl rfl rfl (by decide)) rfl ?_
 obtain ⟨x6, hx6, hF⟩ := Option.bind_eq_some_iff.1 hF
 obtain ⟨q7, eq7⟩ : ∃ z, z = 0 + 0 + ((wI (Int.tdiv a1 8) : Int).toNat) * 1 := ⟨_, rfl⟩
 refine lv (v := .pointer (some ⟨g1, q7 + 0, none⟩)) rfl (r_ixq rfl ar29 h5 rfl (ixI_some hx6).2 (Vec.lt (ixI_some hx6).1) eq7) rfl ?_
 refine lv (v := bv x6) rfl (r_cl1 (off := 0) (p := 0) (CA.el (f := flB) (m := 32) (off := 0) (p := 0) (hI.good.ca 0 rfl) rfl rfl (ixI_some hx6).1 eq7) rfl sc5 rfl rfl rfl) rfl ?_
 refine lv (v := .int .i64 a1) rfl (r_mv rfl h4) rfl ?_
 refine lv (v := .int .i64 (Int.tmod a1 8)) rfl (r_rem rfl rfl rfl (by decide)) rfl ?_
 refine lv (v := .int .i64 (wI ((7 : Int) - (Int.tmod a1 8)))) rfl (r_subw rfl rfl rfl) rfl ?_
 by_cases hc8 : (0 : Int) ≤ (wI ((7 : Int) - (Int.tmod a1 8)))
 ·rw [if_pos hc8] at hF
  refine lv (v := bv (shrB x6 (wI ((7 : Int) - (Int.tmod a1 8))))) rfl (r_shrB rfl rfl rfl hc8) rfl ?_
  refine lv (v := .int .i64 ((shrB x6 (wI ((7 : Int) - (Int.tmod a1 8)))).toNat : Int)) rfl (c_b8 rfl un5 un3 rfl) rfl ?_
  refine lv (v := .int .i64 (bits .and .i64 ((shrB x6 (wI ((7 : Int) - (Int.tmod a1 8)))).toNat : Int) 1)) rfl (r_and rfl rfl rfl) rfl ?_
  refine lv (v := .int .i64 (bits .and .i64 ((shrB x6 (wI ((7 : Int) - (Int.tmod a1 8)))).toNat : Int) 1)) rfl (r_as rfl rfl) rfl ?_
  refine wend ?_
  refine wthen ?_
  refine wren (fun ρ9 eρ9 => ?_)
  have h10 : opd ρ9 15 (.tmp 4) = .int .i64 (bits .and .i64 ((shrB x6 (wI ((7 : Int) - (Int.tmod a1 8)))).toNat : Int) 1) := eρ9 4
  clear eρ9
  refine wp_ret ?_
  obtain rfl := Option.some.inj hF
  subst hB
  refine finR (rs := [.tmp 4]) (vs := [.int .i64 (bits .and .i64 ((shrB x6 (wI ((7 : Int) - (Int.tmod a1 8)))).toNat : Int) 1)]) rfl ⟨h10, trivial⟩ ?_
  exact hI.fin 0 ⟨rfl, rfl⟩
 ·rw [if_neg hc8] at hF; cases hF
noncomputable def M_code_Writer_Bytes (a0 : Code_Writer) : Option ((List UInt8) × Code_Writer) := ((appI 1 ([] : List UInt8) a0.b_).bind fun x10 => some (x10, a0))
set_option maxHeartbeats 1000000 in
theorem spec_100 {w : World} {H : Hp} {a0 : Code_Writer} {gg_0_0 : Option Nat} {g_0 : Nat} {s1 : Sv} {r : (List UInt8) × Code_Writer} (hF : M_code_Writer_Bytes a0 = some r) (hT : Tab H) (hG : Good w H [.cb g_0 [ckL s1] 175, .own s1 5 1 gg_0_0]) (hs1 : Sl (Fl.ty flB) H s1 a0.b_) :
  Fine Tryd.prog 100 [.pointer (some ⟨g_0, 0, none⟩)] w H [.cb g_0 [ckL s1] 175, .own s1 5 1 gg_0_0] (fun H' v L' => ∃ s900 : Sv, ∃ s901 : Sv, ∃ gg902 : Option Nat, v = s900.v ∧ Sl (Fl.ty flB) H' s900 r.1 ∧ Sl (Fl.ty flB) H' s901 r.2.b_ ∧ L' = [.cb g_0 [ckL s901] 175, .own s901 5 1 gg902]) := by
 unfold M_code_Writer_Bytes at hF
 unfold Fine
 obtain ⟨B, hB⟩ : ∃ B : Base, B = ⟨w, H, blks [.cb g_0 [ckL s1] 175, .own s1 5 1 gg_0_0]⟩ := ⟨_, rfl⟩
 have hI : Inv B w H [.cb g_0 [ckL s1] 175, .own s1 5 1 gg_0_0] := by rw [hB]; exact Inv.start hG
 refine enter (n := 15) (args := [.pointer (some ⟨g_0, 0, none⟩)]) Tryd.func100 rfl Tryd.ntmps100 (Nat.le_of_ble_eq_true rfl) ?_
 refine wseq ?_
 refine wreg ?_
 refine lv (v := Sv.nil.v) rfl (r_as rfl rfl) rfl ?_
 refine wend ?_
 refine wthen ?_
 refine wren (fun ρ2 eρ2 => ?_)
 have h3 : opd ρ2 15 (.tmp 0) = .pointer (some ⟨g_0, 0 + 0, none⟩) := eρ2 0
 clear eρ2
 refine wseq ?_
 refine wseq ?_
 refine wreg ?_
 refine lv (v := .pointer (some ⟨g_0, 0 + 0, none⟩)) rfl (r_mv rfl h3) rfl ?_
 refine lv (v := .bool false) rfl (r_pn rfl un173 rfl rfl) rfl ?_
 refine wend ?_
 refine wthen ?_
 refine wren (fun ρ4 eρ4 => ?_)
 have h5 : opd ρ4 15 (.tmp 0) = .pointer (some ⟨g_0, 0 + 0, none⟩) := (eρ4 0).trans h3
 have h6 : opd ρ4 15 (.tmp 4) = .bool false := eρ4 4
 clear eρ4
 refine wcF h6 ?_
 refine wp_skip ?_
 refine wthen ?_
 refine wseq ?_
 refine dstG (H0 := H) (L0 := keepL [true, true] [.cb g_0 [ckL s1] 175, .own s1 5 1 gg_0_0]) [9] mixed rfl (by repeat (first | exact Pan.body | refine Pan.then ?_ | refine Pan.inBlock ?_ | refine Pan.noGoto ?_ | refine Pan.pure ?_)) hI (hI.good.weakm _ (Hle.refl _) rfl) ?_
 intro w7 hI hP
 refine dp (v := .pointer (some ⟨g_0, 0 + 0, none⟩)) 0 (by kernel_rfl) rfl rfl (fun _ => r_mv rfl h5) rfl hP ?_
 refine dp (v := .pointer (some ⟨g_0, 0 + 0, none⟩)) 1 (by kernel_rfl) rfl rfl (fun _ => r_nilc rfl rfl) rfl hP ?_
 refine dp (v := .pointer (some ⟨g_0, 0 + 0, none⟩)) 2 (by kernel_rfl) rfl rfl (fun _ => l_fa (j := 0) (i := 0) rfl fl175_0 rfl rfl) rfl hP ?_
 refine dp (v := .pointer (some ⟨g_0, 0 + 0, none⟩)) 5 (by kernel_rfl) rfl rfl (fun _ => r_mv rfl h5) rfl hP ?_
 refine dp (v := .pointer (some ⟨g_0, 0 + 0, none⟩)) 6 (by kernel_rfl) rfl rfl (fun _ => r_nilc rfl rfl) rfl hP ?_
 refine dp (v := .pointer (some ⟨g_0, 0 + 0, none⟩)) 7 (by kernel_rfl) rfl rfl (fun _ => l_fa (j := 0) (i := 0) rfl fl175_0 rfl rfl) rfl hP ?_
 refine dr (v := s1.v) 3 (by kernel_rfl) rfl rfl (hI.good.weakm [true, true] (Hle.refl _) rfl) (fun _ hG => r_cl1 (off := 0) (p := 0) (hG.ca 0 rfl) rfl sc158 rfl rfl rfl) rfl hP ?_
 obtain ⟨s8, es8⟩ : ∃ z : Sv, z = Sv.mk s1.a 0 0 := ⟨_, rfl⟩
 have hs8 : Sl (Fl.ty flB) H s8 [] := by rw [es8]; exact Sl.zz
 have hfs8 : s8.n = s8.c := by rw [es8]
 refine dp (v := s8.v) 4 (by kernel_rfl) rfl rfl (fun _ => (by rw [es8]; exact s_slzz rfl sl158 rfl rfl rfl)) rfl hP ?_
 refine dr (v := s1.v) 8 (by kernel_rfl) rfl rfl (hI.good.weakm [true, true] (Hle.refl _) rfl) (fun _ hG => r_cl1 (off := 0) (p := 0) (hG.ca 0 rfl) rfl sc158 rfl rfl rfl) rfl hP ?_
 replace hI := Inv.full (e := 5) (sz := 1) hI (show s8.n = s8.c from hfs8)
 replace hI : Inv B w7 H [.cb g_0 [ckL s1] 175, .own s1 5 1 gg_0_0, .own s8 5 1 none] := hI
 obtain ⟨x10, hx10, hF⟩ := Option.bind_eq_some_iff.1 hF
 refine del 9 (by kernel_rfl) rfl rfl rfl (l_app (t := (Fl.ty flB)) hI 2 rfl rfl sl158 inf5 rfl rfl rfl rfl hs8 hs1 (appI_some hx10).1) rfl ?_
 rintro _ w14 ⟨s11, H12, gg13, rfl, hI, hleH12, hs11⟩
 rw [← (appI_some hx10).2] at hs11
 replace hI : Inv B w14 H12 [.cb g_0 [ckL s1] 175, .own s1 5 1 gg_0_0, .own s11 5 1 gg13] := hI
 refine dp (v := s11.v) 10 (by kernel_rfl) rfl rfl (fun _ => r_as rfl rfl) rfl hP ?_
 refine dend (by kernel_rfl) ?_
 refine wthen ?_
 refine wren (fun ρ15 eρ15 => ?_)
 have h16 : opd ρ15 15 (.tmp 2) = s11.v := eρ15 2
 clear eρ15
 refine wp_ret ?_
 obtain rfl := Option.some.inj hF
 subst hB
 refine finR (rs := [.tmp 2]) (vs := [s11.v]) rfl ⟨h16, trivial⟩ ?_
 exact hI.fin 2 ⟨s11, s1, gg_0_0, rfl, hs11, (hs1.mono hleH12), rfl⟩
noncomputable def M_code_Writer_Digest (a0 : Code_Writer) (a1 : List (Vec UInt8 32)) : Option (Code_Writer) := ((forK (fun (i12 : Nat) (σ12 : (List UInt8)) => (((a1[i12]?).bind fun x137 => ((appI 1 σ12 x137.l).bind fun x156 => some (.inl x156))) : Option ((List UInt8) ⊕ Code_Writer))) a1.length 0 a0.b_).bind fun y => match y with | .inl σ12 => some (⟨σ12⟩ : Code_Writer) | .inr r => some r)
set_option maxHeartbeats 1000000 in
theorem spec_125 {w : World} {H : Hp} {a0 : Code_Writer} {a1 : List (Vec UInt8 32)} {gg_0_0 : Option Nat} {g_0 : Nat} {s1 : Sv} {s2 : Sv} {r : Code_Writer} (hF : M_code_Writer_Digest a0 a1 = some r) (hT : Tab H) (hG : Good w H [.cb g_0 [ckL s1] 175, .own s1 5 1 gg_0_0]) (hs1 : Sl (Fl.ty flB) H s1 a0.b_) (hs2 : Sl (Fl.ty (flV flB 32)) H s2 a1) :
  Fine Tryd.prog 125 [.pointer (some ⟨g_0, 0, none⟩), s2.v] w H [.cb g_0 [ckL s1] 175, .own s1 5 1 gg_0_0] (fun H' v L' => ∃ s900 : Sv, ∃ gg901 : Option Nat, v = .tuple #[] ∧ Sl (Fl.ty flB) H' s900 r.b_ ∧ L' = [.cb g_0 [ckL s900] 175, .own s900 5 1 gg901]) := by
 unfold M_code_Writer_Digest at hF
 unfold Fine
 obtain ⟨B, hB⟩ : ∃ B : Base, B = ⟨w, H, blks [.cb g_0 [ckL s1] 175, .own s1 5 1 gg_0_0]⟩ := ⟨_, rfl⟩
 have hI : Inv B w H [.cb g_0 [ckL s1] 175, .own s1 5 1 gg_0_0] := by rw [hB]; exact Inv.start hG
 refine enter (n := 24) (args := [.pointer (some ⟨g_0, 0, none⟩), s2.v]) Tryd.func125 rfl Tryd.ntmps125 (Nat.le_of_ble_eq_true rfl) ?_
 refine wseq ?_
 refine wseq ?_
 refine wreg ?_
 refine lv (v := .pointer (some ⟨g_0, 0 + 0, none⟩)) rfl (r_mv rfl rfl) rfl ?_
 refine lv (v := .bool false) rfl (r_pn rfl un173 rfl rfl) rfl ?_
 refine wend ?_
 refine wthen ?_
 refine wren (fun ρ3 eρ3 => ?_)
 have h4 : opd ρ3 24 (.tmp 0) = .pointer (some ⟨g_0, 0 + 0, none⟩) := eρ3 0
 have h5 : opd ρ3 24 (.tmp 1) = s2.v := eρ3 1
 have h6 : opd ρ3 24 (.tmp 7) = .bool false := eρ3 7
 clear eρ3
 refine wcF h6 ?_
 refine wp_skip ?_
 refine wthen ?_
 refine wseq ?_
 refine wreg ?_
 refine lv (v := s2.v) rfl (r_mv rfl h5) rfl ?_
 refine lv (v := .int .i64 (a1.length : Int)) rfl (r_lenS rfl sl27 rfl hs2) rfl ?_
 refine lv (v := .int .i64 0) rfl (r_mv rfl rfl) rfl ?_
 refine wend ?_
 refine wthen ?_
 refine wren (fun ρ7 eρ7 => ?_)
 have h8 : opd ρ7 24 (.tmp 0) = .pointer (some ⟨g_0, 0 + 0, none⟩) := (eρ7 0).trans h4
 have h9 : opd ρ7 24 (.tmp 8) = s2.v := eρ7 8
 have h10 : opd ρ7 24 (.tmp 9) = .int .i64 (a1.length : Int) := eρ7 9
 have h11 : opd ρ7 24 (.tmp 10) = .int .i64 0 := eρ7 10
 clear eρ7
 refine wp_block ?_
 have hbd12 := (hs2).bd
 rw [(hs2).n] at hbd12
 obtain ⟨y12, hy12, hF12⟩ := Option.bind_eq_some_iff.1 hF
 refine wfor (n := 24) a1.length _ (fun (i12 : Nat) (σ12 : (List UInt8)) ρ' w' => ∃ (H124 : Hp) (s122 : Sv) (gg123 : Option Nat), Hle H H124 ∧ opd ρ' 24 (.tmp 0) = .pointer (some ⟨g_0, 0 + 0, none⟩) ∧ opd ρ' 24 (.tmp 8) = s2.v ∧ opd ρ' 24 (.tmp 9) = .int .i64 (a1.length : Int) ∧ opd ρ' 24 (.tmp 10) = .int .i64 (i12 : Int) ∧ Sl (Fl.ty flB) H124 s122 σ12 ∧ Inv B w' H124 [.cb g_0 [ckL s122] 175, .own s122 5 1 gg123]) hy12 ⟨H, s1, gg_0_0, (Hle.refl _), h8, h9, h10, h11, hs1, hI⟩ ?_
 rintro k12 i12 σ12 ρ129 w130 hk12 ⟨H124, s122, gg123, hleH124, h125, h126, h127, h128, hs122, hI⟩ hy12
 refine wseq ?_
 refine wreg ?_
 refine lv (v := .bool (decide ((i12 : Int) < (a1.length : Int)))) rfl (r_lss rfl h128 h127 rfl) rfl ?_
 refine wend ?_
 refine wthen ?_
 refine wseq ?_
 by_cases hc131 : (i12 : Int) < (a1.length : Int)
 ·skip
  have hbhc131 : (decide ((i12 : Int) < (a1.length : Int))) = true := decide_eq_true hc131
  obtain ⟨k12, rfl⟩ : ∃ m, k12 = m + 1 := ⟨k12 - 1, by omega⟩
  obtain ⟨z12, hb12⟩ := forK_body hy12
  have hF := hb12
  have hlt12 : ((i12 : Nat) : Int) + 1 ≤ 9223372036854775807 := by omega
  refine wcT ((show opd _ _ _ = _ from rfl).trans (congrArg Value.bool hbhc131)) ?_
  refine wp_skip ?_
  refine wthen ?_
  refine wren (fun ρ132 eρ132 => ?_)
  have h133 : opd ρ132 24 (.tmp 0) = .pointer (some ⟨g_0, 0 + 0, none⟩) := (eρ132 0).trans h125
  have h134 : opd ρ132 24 (.tmp 8) = s2.v := (eρ132 8).trans h126
  have h135 : opd ρ132 24 (.tmp 9) = .int .i64 (a1.length : Int) := (eρ132 9).trans h127
  have h136 : opd ρ132 24 (.tmp 10) = .int .i64 (i12 : Int) := (eρ132 10).trans h128
  clear eρ132
  refine wseq ?_
  refine wp_block ?_
  refine wseq ?_
  refine wreg ?_
  obtain ⟨x137, hx137, hF⟩ := Option.bind_eq_some_iff.1 hF
  obtain ⟨b138, j139, hix140, hil141, hA142⟩ := (hs2.mono hleH124).ixf hx137
  replace hA142 : At H124 b138 j139 [ckV flB x137] := hA142
  refine lv (v := .pointer (some ⟨b138, j139 + 0, none⟩)) rfl (r_ixt rfl sl27 h134 h136 rfl hix140 hil141) rfl ?_
  refine lv (v := .agg (flat [ckV flB x137]).toArray) rfl (r_cla (off := 0) (p := 0) (m := 1) (hA142.ca hI.good) rfl ag29 rfl rfl rfl) rfl ?_
  refine le rfl (l_al hI rfl ze29) rfl ?_
  rintro _ w144 ⟨g143, rfl, hI⟩
  replace hI : Inv B w144 H124 [.cb g_0 [ckL s122] 175, .own s122 5 1 gg123, .cb g143 [ckV flB (Vec.rep 32 0)] 29] := hI
  refine lst rfl (l_st (off := 0) (p := 0) (m := 1) (new := [ckV flB x137]) hI 2 rfl rfl sz29 rfl rfl rfl rfl rfl rfl) rfl ?_
  intro w145 hI
  replace hI : Inv B w145 H124 [.cb g_0 [ckL s122] 175, .own s122 5 1 gg123, .cb g143 [ckV flB x137] 29] := hI
  refine wend ?_
  refine wthen ?_
  refine wren (fun ρ146 eρ146 => ?_)
  have h147 : opd ρ146 24 (.tmp 0) = .pointer (some ⟨g_0, 0 + 0, none⟩) := (eρ146 0).trans h133
  have h148 : opd ρ146 24 (.tmp 5) = .pointer (some ⟨g143, 0 + 0, none⟩) := eρ146 5
  have h149 : opd ρ146 24 (.tmp 8) = s2.v := (eρ146 8).trans h134
  have h150 : opd ρ146 24 (.tmp 9) = .int .i64 (a1.length : Int) := (eρ146 9).trans h135
  have h151 : opd ρ146 24 (.tmp 10) = .int .i64 (i12 : Int) := (eρ146 10).trans h136
  clear eρ146
  refine dstG (H0 := H124) (L0 := keepL [true, true, false] [.cb g_0 [ckL s122] 175, .own s122 5 1 gg123, .cb g143 [ckV flB x137] 29]) [6, 9] mixed rfl (by repeat (first | exact Pan.body | refine Pan.then ?_ | refine Pan.inBlock ?_ | refine Pan.noGoto ?_ | refine Pan.pure ?_)) hI (hI.good.weakm _ (Hle.refl _) rfl) ?_
  intro w152 hI hP
  refine dp (v := .pointer (some ⟨g_0, 0 + 0, none⟩)) 0 (by kernel_rfl) rfl rfl (fun _ => r_mv rfl h147) rfl hP ?_
  refine dp (v := .pointer (some ⟨g_0, 0 + 0, none⟩)) 1 (by kernel_rfl) rfl rfl (fun _ => r_mv rfl h147) rfl hP ?_
  refine dp (v := .pointer (some ⟨g_0, 0 + 0, none⟩)) 2 (by kernel_rfl) rfl rfl (fun _ => r_nilc rfl rfl) rfl hP ?_
  refine dp (v := .pointer (some ⟨g_0, 0 + 0, none⟩)) 3 (by kernel_rfl) rfl rfl (fun _ => l_fa (j := 0) (i := 0) rfl fl175_0 rfl rfl) rfl hP ?_
  obtain ⟨H153, hI, hleH153, hA154⟩ := hI.freeze' 2 rfl
  replace hI : Inv B w152 H153 [.cb g_0 [ckL s122] 175, .own s122 5 1 gg123] := hI
  replace hA154 : At H153 g143 0 [ckV flB x137] := hA154
  have hs155 := At.sl (f := flB) (m := 32) (off := 0) (p := 0) hA154 rfl rfl rfl
  obtain ⟨s155, es155⟩ : ∃ z : Sv, z = ⟨some ⟨g143, 0 + 0, none⟩, 32, 32⟩ := ⟨_, rfl⟩
  rw [← es155] at hs155
  have hfs155 : s155.n = s155.c := by rw [es155]
  refine dp (v := s155.v) 5 (by kernel_rfl) rfl rfl (fun _ => (by rw [es155]; exact r_sla' rfl ar29 h148)) rfl hP ?_
  refine dr (v := s122.v) 4 (by kernel_rfl) rfl rfl (hI.good.weakm [true, true] hleH153 rfl) (fun _ hG => r_cl1 (off := 0) (p := 0) (hG.ca 0 rfl) rfl sc158 rfl rfl rfl) rfl hP ?_
  obtain ⟨x156, hx156, hF⟩ := Option.bind_eq_some_iff.1 hF
  refine del 6 (by kernel_rfl) rfl rfl rfl (l_app (t := (Fl.ty flB)) hI 1 rfl rfl sl158 inf5 rfl rfl rfl rfl (hs122.mono hleH153) hs155 (appI_some hx156).1) rfl ?_
  rintro _ w160 ⟨s157, H158, gg159, rfl, hI, hleH158, hs157⟩
  rw [← (appI_some hx156).2] at hs157
  replace hI : Inv B w160 H158 [.cb g_0 [ckL s122] 175, .own s157 5 1 gg159] := hI
  refine dp (v := .pointer (some ⟨g_0, 0 + 0, none⟩)) 7 (by kernel_rfl) rfl rfl (fun _ => r_nilc rfl rfl) rfl hP ?_
  refine dp (v := .pointer (some ⟨g_0, 0 + 0, none⟩)) 8 (by kernel_rfl) rfl rfl (fun _ => l_fa (j := 0) (i := 0) rfl fl175_0 rfl rfl) rfl hP ?_
  refine dsl 9 (by kernel_rfl) rfl rfl rfl (l_st (off := 0) (p := 0) (m := 1) (new := [ckL s157]) hI 0 rfl rfl sz158 rfl rfl rfl rfl rfl rfl) rfl ?_
  intro w161 hI
  replace hI : Inv B w161 H158 [.cb g_0 [ckL s157] 175, .own s157 5 1 gg159] := hI
  refine dend (by kernel_rfl) ?_
  refine inN ?_
  refine wthen ?_
  refine wren (fun ρ162 eρ162 => ?_)
  have h163 : opd ρ162 24 (.tmp 0) = .pointer (some ⟨g_0, 0 + 0, none⟩) := (eρ162 0).trans h147
  have h164 : opd ρ162 24 (.tmp 8) = s2.v := (eρ162 8).trans h149
  have h165 : opd ρ162 24 (.tmp 9) = .int .i64 (a1.length : Int) := (eρ162 9).trans h150
  have h166 : opd ρ162 24 (.tmp 10) = .int .i64 (i12 : Int) := (eρ162 10).trans h151
  clear eρ162
  refine wreg ?_
  refine lv (v := .int .i64 ((i12 + 1 : Nat) : Int)) rfl (r_addn rfl h166 rfl hlt12) rfl ?_
  refine lv (v := .int .i64 ((i12 + 1 : Nat) : Int)) rfl (r_mv rfl rfl) rfl ?_
  refine wend ?_
  obtain rfl := Option.some.inj hF
  exact ⟨k12, x156, _, rfl, rfl, ⟨H158, s157, gg159, ((hleH124.trans hleH153).trans hleH158), h163, h164, h165, rfl, hs157, hI⟩, forK_inl hy12 hb12⟩
 ·skip
  have hbhc131 : (decide ((i12 : Int) < (a1.length : Int))) = false := decide_eq_false hc131
  obtain rfl : k12 = 0 := by omega
  obtain rfl := forK_end hy12
  have hF := hF12
  try dsimp only at hF
  refine wcF ((show opd _ _ _ = _ from rfl).trans (congrArg Value.bool hbhc131)) ?_
  refine wp_exit ?_
  refine thE ?_
  refine thE ?_
  refine inX ?_
  obtain rfl := Option.some.inj hF
  subst hB
  refine finN (rs := []) (vs := []) rfl trivial ?_
  exact hI.fin 2 ⟨s122, gg123, rfl, hs122, rfl⟩
end Go.Proofs.YtdebnncpclodcaaDoor.X
