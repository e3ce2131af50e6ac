/-
  Functions of the program: what each computes, and its walk. No condition beyond those that the lemmas name.
-/
import Derived.Test.YtdebnncpclodcaaDoorXPT
import Derived.Test.YtdebnncpclodcaaDoorXGb
import Derived.Test.YtdebnncpclodcaaDoorXGa
import Derived.Test.YtdebnncpclodcaaDoorXGc
set_option linter.unusedSimpArgs false
set_option linter.unusedVariables false
set_option maxRecDepth 10000
namespace Go.Proofs.YtdebnncpclodcaaDoor.X
open Go.RowKit Go.Proofs.YtdebnncpclodcaaDoorW.PrintLast
noncomputable def M_config_Write (a0 : Code_Writer) (a1 : Config) : Option (Code_Writer) := ((M_code_Writer_Num a0 [a1.Epoch, (a1.Members.length : Int)]).bind fun x11 => ((forK (fun (i25 : Nat) (σ25 : (List UInt8)) => (((a1.Members[i25]?).bind fun x177 => ((M_code_Writer_Num (⟨σ25⟩ : Code_Writer) [x177.Id, x177.Key.Height]).bind fun x195 => ((M_code_Writer_Digest x195 [x177.Key.Root]).bind fun x210 => some (.inl x210.b_)))) : Option ((List UInt8) ⊕ Code_Writer))) a1.Members.length 0 x11.b_).bind fun y => match y with | .inl σ25 => some (⟨σ25⟩ : Code_Writer) | .inr r => some r))
set_option maxHeartbeats 4000000 in
theorem spec_110 {w : World} {H : Hp} {a0 : Code_Writer} {a1 : Config} {gg_0_0 : Option Nat} {g_0 : Nat} {s1 : Sv} {s2 : Sv} {r : Code_Writer} (hF : M_config_Write a0 a1 = some r) (hT : Tab H) (hG : Good w H [.cb g_0 [ckL s1] 175, .own s1 5 1 gg_0_0]) (hs1 : Sl (Fl.ty flB) H s1 a0.b_) (hs2 : Sl (Fl.ty fl_Member) H s2 a1.Members) :
    Fine Tryd.prog 110 [.pointer (some ⟨g_0, 0, none⟩), .agg (flat [ckI a1.Epoch, ckL s2]).toArray] w H [.cb g_0 [ckL s1] 175, .own s1 5 1 gg_0_0] (fun H' v L' => ∃ s900 : Sv, ∃ gg901 : Option Nat, v = .tuple #[] ∧ Sl (Fl.ty flB) H' s900 r.b_ ∧ L' = [.cb g_0 [ckL s900] 175, .own s900 5 1 gg901]) := by
  unfold M_config_Write at hF
  unfold Fine
  obtain ⟨B, hB⟩ : ∃ B : Base, B = ⟨w, H, blks [.cb g_0 [ckL s1] 175, .own s1 5 1 gg_0_0]⟩ := ⟨_, rfl⟩
  have hI : Inv B w H [.cb g_0 [ckL s1] 175, .own s1 5 1 gg_0_0] := by rw [hB]; exact Inv.start hG
  refine enter (n := 36) (args := [.pointer (some ⟨g_0, 0, none⟩), .agg (flat [ckI a1.Epoch, ckL s2]).toArray]) Tryd.func110 rfl Tryd.ntmps110 (Nat.le_of_ble_eq_true rfl) ?_
  refine wseq ?_
  refine wreg ?_
  refine le rfl (l_box (cks := [ckI a1.Epoch, ckL s2]) hI rfl rfl rfl) rfl ?_
  rintro _ w4 ⟨g3, rfl, hI⟩
  replace hI : Inv B w4 H [.cb g_0 [ckL s1] 175, .own s1 5 1 gg_0_0, .cb g3 [ckI a1.Epoch, ckL s2] 64] := hI
  refine wend ?_
  refine wthen ?_
  refine wren (fun ρ5 eρ5 => ?_)
  have h6 : opd ρ5 36 (.tmp 0) = .pointer (some ⟨g_0, 0 + 0, none⟩) := eρ5 0
  have h7 : opd ρ5 36 (.tmp 3) = .pointer (some ⟨g3, 0 + 0, none⟩) := eρ5 3
  clear eρ5
  refine wseq ?_
  refine wreg ?_
  refine lv (v := .pointer (some ⟨g_0, 0 + 0, none⟩)) rfl (r_mv rfl h6) rfl ?_
  refine lv (v := .pointer (some ⟨g3, 0 + 0, none⟩)) rfl (l_fa (j := 0) (i := 0) rfl fl64_0 h7 rfl) rfl ?_
  refine lv (v := .int .i64 a1.Epoch) rfl (r_cl1 (off := 0) (p := 0) (hI.good.ca 2 rfl) rfl sc3 rfl rfl rfl) rfl ?_
  refine lv (v := .pointer (some ⟨g3, 0 + 1, none⟩)) rfl (l_fa (j := 0) (i := 0) rfl fl64_1 h7 rfl) rfl ?_
  refine lv (v := s2.v) rfl (r_cl1 (off := 1) (p := 1) (hI.good.ca 2 rfl) rfl sc62 rfl rfl rfl) rfl ?_
  refine lv (v := .int .i64 (a1.Members.length : Int)) rfl (r_lenS rfl sl62 rfl hs2) rfl ?_
  refine le rfl (l_bs (t := (Fl.ty flI)) (vs := [.int .i64 a1.Epoch, .int .i64 (a1.Members.length : Int)]) (xs := [a1.Epoch, (a1.Members.length : Int)]) hI rfl sl59 inf3 rfl rfl (argc rfl (argc rfl rfl)) (.cons rfl rfl (.cons rfl rfl .nil)) rfl) rfl ?_
  rintro _ w10 ⟨s8, H9, rfl, hI, hleH9, hs8, hfs8, hgs8⟩
  obtain ⟨x11, hx11, hF⟩ := Option.bind_eq_some_iff.1 hF
  have hsp14 := spec_124 hx11 (hT.mono hleH9) (hI.part 2) (hs1.mono hleH9) hs8
  refine fc ([.cb g_0 [ckL s1] 175, .own s1 5 1 gg_0_0]) ([.cb g3 [ckI a1.Epoch, ckL s2] 64]) (args := [.pointer (some ⟨g_0, 0 + 0, none⟩), s8.v]) fc124 rfl rfl rfl hI (argc rfl (argc rfl rfl)) (hsp14) ?_
  rintro _ H12 _ w13 ⟨s15, gg16, rfl, hs15, rfl⟩ hleH12 hI
  replace hI : Inv B w13 H12 [.cb g_0 [ckL s15] 175, .own s15 5 1 gg16, .cb g3 [ckI a1.Epoch, ckL s2] 64] := hI
  refine wend ?_
  refine wthen ?_
  refine wren (fun ρ17 eρ17 => ?_)
  have h18 : opd ρ17 36 (.tmp 0) = .pointer (some ⟨g_0, 0 + 0, none⟩) := (eρ17 0).trans h6
  have h19 : opd ρ17 36 (.tmp 3) = .pointer (some ⟨g3, 0 + 0, none⟩) := (eρ17 3).trans h7
  clear eρ17
  refine wseq ?_
  refine wreg ?_
  refine lv (v := .pointer (some ⟨g3, 0 + 1, none⟩)) rfl (l_fa (j := 0) (i := 0) rfl fl64_1 h19 rfl) rfl ?_
  refine lv (v := s2.v) rfl (r_cl1 (off := 1) (p := 1) (hI.good.ca 2 rfl) rfl sc62 rfl rfl rfl) rfl ?_
  refine lv (v := .int .i64 (a1.Members.length : Int)) rfl (r_lenS rfl sl62 rfl ((hs2.mono hleH9).mono hleH12)) rfl ?_
  refine lv (v := .int .i64 0) rfl (r_mv rfl rfl) rfl ?_
  refine wend ?_
  refine wthen ?_
  refine wren (fun ρ20 eρ20 => ?_)
  have h21 : opd ρ20 36 (.tmp 0) = .pointer (some ⟨g_0, 0 + 0, none⟩) := (eρ20 0).trans h18
  have h22 : opd ρ20 36 (.tmp 15) = s2.v := eρ20 15
  have h23 : opd ρ20 36 (.tmp 16) = .int .i64 (a1.Members.length : Int) := eρ20 16
  have h24 : opd ρ20 36 (.tmp 17) = .int .i64 0 := eρ20 17
  clear eρ20
  refine wp_block ?_
  have hbd25 := (((hs2.mono hleH9).mono hleH12)).bd
  rw [(((hs2.mono hleH9).mono hleH12)).n] at hbd25
  obtain ⟨y25, hy25, hF25⟩ := Option.bind_eq_some_iff.1 hF
  refine wfor (n := 36) a1.Members.length _ (fun (i25 : Nat) (σ25 : (List UInt8)) ρ' w' => ∃ (H164 : Hp) (s162 : Sv) (gg163 : Option Nat), Hle H12 H164 ∧ opd ρ' 36 (.tmp 0) = .pointer (some ⟨g_0, 0 + 0, none⟩) ∧ opd ρ' 36 (.tmp 15) = s2.v ∧ opd ρ' 36 (.tmp 16) = .int .i64 (a1.Members.length : Int) ∧ opd ρ' 36 (.tmp 17) = .int .i64 (i25 : Int) ∧ Sl (Fl.ty flB) H164 s162 σ25 ∧ Inv B w' H164 [.cb g_0 [ckL s162] 175, .own s162 5 1 gg163]) hy25 ⟨H12, s15, gg16, (Hle.refl _), h21, h22, h23, h24, hs15, (hI.keep [true, true, false])⟩ ?_
  rintro k25 i25 σ25 ρ169 w170 hk25 ⟨H164, s162, gg163, hleH164, h165, h166, h167, h168, hs162, hI⟩ hy25
  refine wseq ?_
  refine wreg ?_
  refine lv (v := .bool (decide ((i25 : Int) < (a1.Members.length : Int)))) rfl (r_lss rfl h168 h167 rfl) rfl ?_
  refine wend ?_
  refine wthen ?_
  refine wseq ?_
  by_cases hc171 : (i25 : Int) < (a1.Members.length : Int)
  · skip
    have hbhc171 : (decide ((i25 : Int) < (a1.Members.length : Int))) = true := decide_eq_true hc171
    obtain ⟨k25, rfl⟩ : ∃ m, k25 = m + 1 := ⟨k25 - 1, by omega⟩
    obtain ⟨z25, hb25⟩ := forK_body hy25
    have hF := hb25
    have hlt25 : ((i25 : Nat) : Int) + 1 ≤ 9223372036854775807 := by omega
    refine wcT ((show opd _ _ _ = _ from rfl).trans (congrArg Value.bool hbhc171)) ?_
    refine wp_skip ?_
    refine wthen ?_
    refine wren (fun ρ172 eρ172 => ?_)
    have h173 : opd ρ172 36 (.tmp 0) = .pointer (some ⟨g_0, 0 + 0, none⟩) := (eρ172 0).trans h165
    have h174 : opd ρ172 36 (.tmp 15) = s2.v := (eρ172 15).trans h166
    have h175 : opd ρ172 36 (.tmp 16) = .int .i64 (a1.Members.length : Int) := (eρ172 16).trans h167
    have h176 : opd ρ172 36 (.tmp 17) = .int .i64 (i25 : Int) := (eρ172 17).trans h168
    clear eρ172
    refine wseq ?_
    refine wp_block ?_
    refine wseq ?_
    refine wreg ?_
    obtain ⟨x177, hx177, hF⟩ := Option.bind_eq_some_iff.1 hF
    obtain ⟨b178, j179, hix180, hil181, hA182⟩ := (((hs2.mono hleH9).mono hleH12).mono hleH164).ixf hx177
    replace hA182 : At H164 b178 j179 [ckI x177.Id, ckV flB x177.Key.Root, ckI x177.Key.Height] := hA182
    refine lv (v := .pointer (some ⟨b178, j179 + 0, none⟩)) rfl (r_ixt rfl sl62 h174 h176 rfl hix180 hil181) rfl ?_
    refine lv (v := .agg (flat [ckI x177.Id, ckV flB x177.Key.Root, ckI x177.Key.Height]).toArray) rfl (r_cla (off := 0) (p := 0) (m := 3) (hA182.ca hI.good) rfl ag114 rfl rfl rfl) rfl ?_
    refine le rfl (l_al hI rfl ze114) rfl ?_
    rintro _ w184 ⟨g183, rfl, hI⟩
    replace hI : Inv B w184 H164 [.cb g_0 [ckL s162] 175, .own s162 5 1 gg163, .cb g183 [ckI 0, ckV flB (Vec.rep 32 0), ckI 0] 114] := hI
    refine lst rfl (l_st (off := 0) (p := 0) (m := 3) (new := [ckI x177.Id, ckV flB x177.Key.Root, ckI x177.Key.Height]) hI 2 rfl rfl sz114 rfl rfl rfl rfl rfl rfl) rfl ?_
    intro w185 hI
    replace hI : Inv B w185 H164 [.cb g_0 [ckL s162] 175, .own s162 5 1 gg163, .cb g183 [ckI x177.Id, ckV flB x177.Key.Root, ckI x177.Key.Height] 114] := hI
    refine wend ?_
    refine wthen ?_
    refine wren (fun ρ186 eρ186 => ?_)
    have h187 : opd ρ186 36 (.tmp 0) = .pointer (some ⟨g_0, 0 + 0, none⟩) := (eρ186 0).trans h173
    have h188 : opd ρ186 36 (.tmp 5) = .pointer (some ⟨g183, 0 + 0, none⟩) := eρ186 5
    have h189 : opd ρ186 36 (.tmp 15) = s2.v := (eρ186 15).trans h174
    have h190 : opd ρ186 36 (.tmp 16) = .int .i64 (a1.Members.length : Int) := (eρ186 16).trans h175
    have h191 : opd ρ186 36 (.tmp 17) = .int .i64 (i25 : Int) := (eρ186 17).trans h176
    clear eρ186
    refine wseq ?_
    refine wreg ?_
    refine lv (v := .pointer (some ⟨g_0, 0 + 0, none⟩)) rfl (r_mv rfl h187) rfl ?_
    refine lv (v := .pointer (some ⟨g183, 0 + 0, none⟩)) rfl (l_fa (j := 0) (i := 0) rfl fl114_0 h188 rfl) rfl ?_
    refine lv (v := .int .i64 x177.Id) rfl (r_cl1 (off := 0) (p := 0) (hI.good.ca 2 rfl) rfl sc3 rfl rfl rfl) rfl ?_
    refine lv (v := .pointer (some ⟨g183, 0 + 1, none⟩)) rfl (l_fa (j := 0) (i := 0) rfl fl114_1 h188 rfl) rfl ?_
    refine lv (v := .pointer (some ⟨g183, 0 + 33, none⟩)) rfl (l_fa (j := 0) (i := 1) rfl fl49_1 rfl rfl) rfl ?_
    refine lv (v := .int .i64 x177.Key.Height) rfl (r_cl1 (off := 33) (p := 2) (hI.good.ca 2 rfl) rfl sc3 rfl rfl rfl) rfl ?_
    refine le rfl (l_bs (t := (Fl.ty flI)) (vs := [.int .i64 x177.Id, .int .i64 x177.Key.Height]) (xs := [x177.Id, x177.Key.Height]) hI rfl sl59 inf3 rfl rfl (argc rfl (argc rfl rfl)) (.cons rfl rfl (.cons rfl rfl .nil)) rfl) rfl ?_
    rintro _ w194 ⟨s192, H193, rfl, hI, hleH193, hs192, hfs192, hgs192⟩
    obtain ⟨x195, hx195, hF⟩ := Option.bind_eq_some_iff.1 hF
    have hsp198 := spec_124 hx195 ((((hT.mono hleH9).mono hleH12).mono hleH164).mono hleH193) (hI.part 2) (hs162.mono hleH193) hs192
    refine fc ([.cb g_0 [ckL s162] 175, .own s162 5 1 gg163]) ([.cb g183 [ckI x177.Id, ckV flB x177.Key.Root, ckI x177.Key.Height] 114]) (args := [.pointer (some ⟨g_0, 0 + 0, none⟩), s192.v]) fc124 rfl rfl rfl hI (argc rfl (argc rfl rfl)) (hsp198) ?_
    rintro _ H196 _ w197 ⟨s199, gg200, rfl, hs199, rfl⟩ hleH196 hI
    replace hI : Inv B w197 H196 [.cb g_0 [ckL s199] 175, .own s199 5 1 gg200, .cb g183 [ckI x177.Id, ckV flB x177.Key.Root, ckI x177.Key.Height] 114] := hI
    refine wend ?_
    refine wthen ?_
    refine wren (fun ρ201 eρ201 => ?_)
    have h202 : opd ρ201 36 (.tmp 0) = .pointer (some ⟨g_0, 0 + 0, none⟩) := (eρ201 0).trans h187
    have h203 : opd ρ201 36 (.tmp 5) = .pointer (some ⟨g183, 0 + 0, none⟩) := (eρ201 5).trans h188
    have h204 : opd ρ201 36 (.tmp 15) = s2.v := (eρ201 15).trans h189
    have h205 : opd ρ201 36 (.tmp 16) = .int .i64 (a1.Members.length : Int) := (eρ201 16).trans h190
    have h206 : opd ρ201 36 (.tmp 17) = .int .i64 (i25 : Int) := (eρ201 17).trans h191
    clear eρ201
    refine wreg ?_
    refine lv (v := .pointer (some ⟨g_0, 0 + 0, none⟩)) rfl (r_mv rfl h202) rfl ?_
    refine lv (v := .pointer (some ⟨g183, 0 + 1, none⟩)) rfl (l_fa (j := 0) (i := 0) rfl fl114_1 h203 rfl) rfl ?_
    refine lv (v := .pointer (some ⟨g183, 0 + 1, none⟩)) rfl (l_fa (j := 0) (i := 1) rfl fl49_0 rfl rfl) rfl ?_
    refine lv (v := .agg (flat [ckV flB x177.Key.Root]).toArray) rfl (r_cla (off := 1) (p := 1) (m := 1) (hI.good.ca 2 rfl) rfl ag29 rfl rfl rfl) rfl ?_
    refine le rfl (l_bs (t := (Fl.ty (flV flB 32))) (vs := [.agg (flat [ckV flB x177.Key.Root]).toArray]) (xs := [x177.Key.Root]) hI rfl sl27 inf29 rfl rfl (argc rfl rfl) (.cons rfl rfl .nil) rfl) rfl ?_
    rintro _ w209 ⟨s207, H208, rfl, hI, hleH208, hs207, hfs207, hgs207⟩
    obtain ⟨x210, hx210, hF⟩ := Option.bind_eq_some_iff.1 hF
    have hsp213 := spec_125 hx210 ((((((hT.mono hleH9).mono hleH12).mono hleH164).mono hleH193).mono hleH196).mono hleH208) (hI.part 2) (hs199.mono hleH208) hs207
    refine fc ([.cb g_0 [ckL s199] 175, .own s199 5 1 gg200]) ([.cb g183 [ckI x177.Id, ckV flB x177.Key.Root, ckI x177.Key.Height] 114]) (args := [.pointer (some ⟨g_0, 0 + 0, none⟩), s207.v]) fc125 rfl rfl rfl hI (argc rfl (argc rfl rfl)) (hsp213) ?_
    rintro _ H211 _ w212 ⟨s214, gg215, rfl, hs214, rfl⟩ hleH211 hI
    replace hI : Inv B w212 H211 [.cb g_0 [ckL s214] 175, .own s214 5 1 gg215, .cb g183 [ckI x177.Id, ckV flB x177.Key.Root, ckI x177.Key.Height] 114] := hI
    refine wend ?_
    refine inN ?_
    refine wthen ?_
    refine wren (fun ρ216 eρ216 => ?_)
    have h217 : opd ρ216 36 (.tmp 0) = .pointer (some ⟨g_0, 0 + 0, none⟩) := (eρ216 0).trans h202
    have h218 : opd ρ216 36 (.tmp 15) = s2.v := (eρ216 15).trans h204
    have h219 : opd ρ216 36 (.tmp 16) = .int .i64 (a1.Members.length : Int) := (eρ216 16).trans h205
    have h220 : opd ρ216 36 (.tmp 17) = .int .i64 (i25 : Int) := (eρ216 17).trans h206
    clear eρ216
    refine wreg ?_
    refine lv (v := .int .i64 ((i25 + 1 : Nat) : Int)) rfl (r_addn rfl h220 rfl hlt25) rfl ?_
    refine lv (v := .int .i64 ((i25 + 1 : Nat) : Int)) rfl (r_mv rfl rfl) rfl ?_
    refine wend ?_
    obtain rfl := Option.some.inj hF
    exact ⟨k25, x210.b_, _, rfl, rfl, ⟨H211, s214, gg215, ((((hleH164.trans hleH193).trans hleH196).trans hleH208).trans hleH211), h217, h218, h219, rfl, hs214, (hI.keep [true, true, false])⟩, forK_inl hy25 hb25⟩
  · skip
    have hbhc171 : (decide ((i25 : Int) < (a1.Members.length : Int))) = false := decide_eq_false hc171
    obtain rfl : k25 = 0 := by omega
    obtain rfl := forK_end hy25
    have hF := hF25
    try dsimp only at hF
    refine wcF ((show opd _ _ _ = _ from rfl).trans (congrArg Value.bool hbhc171)) ?_
    refine wp_exit ?_
    refine thE ?_
    refine thE ?_
    refine inX ?_
    obtain rfl := Option.some.inj hF
    subst hB
    refine finN (rs := []) (vs := []) rfl trivial ?_
    exact hI.fin 2 ⟨s162, gg163, rfl, hs162, rfl⟩
noncomputable def M_config_Digest (a0 : Config) : Option ((Vec UInt8 32)) := ((M_config_Write (⟨[]⟩ : Code_Writer) a0).bind fun x16 => ((M_code_Writer_Bytes x16).bind fun x29 => ((M_sha_Of [[99, 111, 110, 102, 105, 103], x29.1]).bind fun x39 => some x39)))
set_option maxHeartbeats 1000000 in
theorem spec_66 {w : World} {H : Hp} {a0 : Config} {s1 : Sv} {r : (Vec UInt8 32)} (hF : M_config_Digest a0 = some r) (hT : Tab H) (hG : Good w H []) (hs1 : Sl (Fl.ty fl_Member) H s1 a0.Members) :
    Fine Tryd.prog 66 [.agg (flat [ckI a0.Epoch, ckL s1]).toArray] w H [] (fun H' v L' => v = .agg (flat [ckV flB r]).toArray ∧ L' = []) := by
  unfold M_config_Digest at hF
  unfold Fine
  obtain ⟨B, hB⟩ : ∃ B : Base, B = ⟨w, H, blks []⟩ := ⟨_, rfl⟩
  have hI : Inv B w H [] := by rw [hB]; exact Inv.start hG
  refine enter (n := 15) (args := [.agg (flat [ckI a0.Epoch, ckL s1]).toArray]) Tryd.func66 rfl Tryd.ntmps66 (Nat.le_of_ble_eq_true rfl) ?_
  refine wseq ?_
  refine wreg ?_
  refine le rfl (l_box (cks := [ckI a0.Epoch, ckL s1]) hI rfl rfl rfl) rfl ?_
  rintro _ w3 ⟨g2, rfl, hI⟩
  replace hI : Inv B w3 H [.cb g2 [ckI a0.Epoch, ckL s1] 64] := hI
  refine le rfl (l_al hI rfl ze29) rfl ?_
  rintro _ w5 ⟨g4, rfl, hI⟩
  replace hI : Inv B w5 H [.cb g2 [ckI a0.Epoch, ckL s1] 64, .cb g4 [ckV flB (Vec.rep 32 0)] 29] := hI
  refine wend ?_
  refine wthen ?_
  refine wren (fun ρ6 eρ6 => ?_)
  have h7 : opd ρ6 15 (.tmp 1) = .pointer (some ⟨g2, 0 + 0, none⟩) := eρ6 1
  have h8 : opd ρ6 15 (.tmp 2) = .pointer (some ⟨g4, 0 + 0, none⟩) := eρ6 2
  clear eρ6
  refine wseq ?_
  refine wreg ?_
  refine lv (v := .agg (flat [ckL Sv.nil]).toArray) rfl (r_bldk (z := [[ckL Sv.nil]]) (pc := []) rfl zg175 bf175 rfl rfl rfl rfl) rfl ?_
  refine le rfl (l_box (cks := [ckL Sv.nil]) hI rfl rfl rfl) rfl ?_
  rintro _ w10 ⟨g9, rfl, hI⟩
  replace hI : Inv B w10 H [.cb g2 [ckI a0.Epoch, ckL s1] 64, .cb g4 [ckV flB (Vec.rep 32 0)] 29, .cb g9 [ckL Sv.nil] 175] := hI
  refine lv (v := .pointer (some ⟨g9, 0 + 0, none⟩)) rfl (r_as rfl rfl) rfl ?_
  refine wend ?_
  refine wthen ?_
  refine wren (fun ρ11 eρ11 => ?_)
  have h12 : opd ρ11 15 (.tmp 1) = .pointer (some ⟨g2, 0 + 0, none⟩) := (eρ11 1).trans h7
  have h13 : opd ρ11 15 (.tmp 2) = .pointer (some ⟨g4, 0 + 0, none⟩) := (eρ11 2).trans h8
  have h14 : opd ρ11 15 (.tmp 3) = .pointer (some ⟨g9, 0 + 0, none⟩) := eρ11 3
  clear eρ11
  refine wseq ?_
  refine wreg ?_
  refine lv (v := .pointer (some ⟨g9, 0 + 0, none⟩)) rfl (r_mv rfl h14) rfl ?_
  refine lv (v := .agg (flat [ckI a0.Epoch, ckL s1]).toArray) rfl (r_cla (off := 0) (p := 0) (m := 2) (hI.good.ca 0 rfl) rfl ag64 h12 rfl rfl) rfl ?_
  replace hI := Inv.full (e := 5) (sz := 1) hI (show Sv.nil.n = Sv.nil.c from rfl)
  replace hI : Inv B w10 H [.cb g2 [ckI a0.Epoch, ckL s1] 64, .cb g4 [ckV flB (Vec.rep 32 0)] 29, .cb g9 [ckL Sv.nil] 175, .own Sv.nil 5 1 none] := hI
  replace hI := hI.bring 3 rfl
  replace hI := hI.bring 3 rfl
  replace hI : Inv B w10 H [.cb g9 [ckL Sv.nil] 175, .own Sv.nil 5 1 none, .cb g2 [ckI a0.Epoch, ckL s1] 64, .cb g4 [ckV flB (Vec.rep 32 0)] 29] := hI
  obtain ⟨x16, hx16, hF⟩ := Option.bind_eq_some_iff.1 hF
  have hsp19 := spec_110 hx16 hT (hI.part 2) (Sl.nil _ _) hs1
  refine fc ([.cb g9 [ckL Sv.nil] 175, .own Sv.nil 5 1 none]) ([.cb g2 [ckI a0.Epoch, ckL s1] 64, .cb g4 [ckV flB (Vec.rep 32 0)] 29]) (args := [.pointer (some ⟨g9, 0 + 0, none⟩), .agg (flat [ckI a0.Epoch, ckL s1]).toArray]) fc110 rfl rfl rfl hI (argc rfl (argc rfl rfl)) (hsp19) ?_
  rintro _ H17 _ w18 ⟨s20, gg21, rfl, hs20, rfl⟩ hleH17 hI
  replace hI : Inv B w18 H17 [.cb g9 [ckL s20] 175, .own s20 5 1 gg21, .cb g2 [ckI a0.Epoch, ckL s1] 64, .cb g4 [ckV flB (Vec.rep 32 0)] 29] := hI
  refine wend ?_
  refine wthen ?_
  refine wren (fun ρ22 eρ22 => ?_)
  have h23 : opd ρ22 15 (.tmp 2) = .pointer (some ⟨g4, 0 + 0, none⟩) := (eρ22 2).trans h13
  have h24 : opd ρ22 15 (.tmp 3) = .pointer (some ⟨g9, 0 + 0, none⟩) := (eρ22 3).trans h14
  clear eρ22
  refine wseq ?_
  refine wreg ?_
  refine le rfl (l_bs (t := (Fl.ty flB)) (vs := [bv 99, bv 111, bv 110, bv 102, bv 105, bv 103]) (xs := [99, 111, 110, 102, 105, 103]) hI rfl sl158 inf5 rfl rfl (argc rfl (argc rfl (argc rfl (argc rfl (argc rfl (argc rfl rfl)))))) (.cons rfl rfl (.cons rfl rfl (.cons rfl rfl (.cons rfl rfl (.cons rfl rfl (.cons rfl rfl .nil)))))) rfl) rfl ?_
  rintro _ w27 ⟨s25, H26, rfl, hI, hleH26, hs25, hfs25, hgs25⟩
  refine le rfl (l_cvc (t := flB.ty) hI rfl un158 un5 rfl hs25 hgs25) rfl ?_
  rintro _ w28 ⟨rfl, hI⟩
  replace hI : Inv B w28 H26 [.cb g9 [ckL s20] 175, .own s20 5 1 gg21, .cb g2 [ckI a0.Epoch, ckL s1] 64, .cb g4 [ckV flB (Vec.rep 32 0)] 29] := hI
  refine lv (v := .pointer (some ⟨g9, 0 + 0, none⟩)) rfl (r_mv rfl h24) rfl ?_
  obtain ⟨x29, hx29, hF⟩ := Option.bind_eq_some_iff.1 hF
  have hsp32 := spec_100 hx29 ((hT.mono hleH17).mono hleH26) (hI.part 2) (hs20.mono hleH26)
  refine fc ([.cb g9 [ckL s20] 175, .own s20 5 1 gg21]) ([.cb g2 [ckI a0.Epoch, ckL s1] 64, .cb g4 [ckV flB (Vec.rep 32 0)] 29]) (args := [.pointer (some ⟨g9, 0 + 0, none⟩)]) fc100 rfl rfl rfl hI (argc rfl rfl) (hsp32) ?_
  rintro _ H30 _ w31 ⟨s33, s34, gg35, rfl, hs33, hs34, rfl⟩ hleH30 hI
  replace hI : Inv B w31 H30 [.cb g9 [ckL s34] 175, .own s34 5 1 gg35, .cb g2 [ckI a0.Epoch, ckL s1] 64, .cb g4 [ckV flB (Vec.rep 32 0)] 29] := hI
  refine le rfl (l_bs (t := (Ty.sl (Fl.ty flB))) (vs := [s25.v, s33.v]) (xs := [[99, 111, 110, 102, 105, 103], x29.1]) hI rfl sl228 inf158 rfl rfl (argc rfl (argc rfl rfl)) (.cons rfl ⟨s25, rfl, (hs25.mono hleH30)⟩ (.cons rfl ⟨s33, rfl, hs33⟩ .nil)) rfl) rfl ?_
  rintro _ w38 ⟨s36, H37, rfl, hI, hleH37, hs36, hfs36, hgs36⟩
  obtain ⟨x39, hx39, hF⟩ := Option.bind_eq_some_iff.1 hF
  have hsp42 := spec_99 hx39 ((((hT.mono hleH17).mono hleH26).mono hleH30).mono hleH37) (hI.part 0) hs36
  refine fc ([]) ([.cb g9 [ckL s34] 175, .own s34 5 1 gg35, .cb g2 [ckI a0.Epoch, ckL s1] 64, .cb g4 [ckV flB (Vec.rep 32 0)] 29]) (args := [s36.v]) fc99 rfl rfl rfl hI (argc rfl rfl) (hsp42) ?_
  rintro _ H40 _ w41 ⟨rfl, rfl⟩ hleH40 hI
  replace hI : Inv B w41 H40 [.cb g9 [ckL s34] 175, .own s34 5 1 gg35, .cb g2 [ckI a0.Epoch, ckL s1] 64, .cb g4 [ckV flB (Vec.rep 32 0)] 29] := hI
  refine lst rfl (l_st (off := 0) (p := 0) (m := 1) (new := [ckV flB x39]) hI 3 rfl rfl sz29 h23 rfl rfl rfl rfl rfl) rfl ?_
  intro w43 hI
  replace hI : Inv B w43 H40 [.cb g9 [ckL s34] 175, .own s34 5 1 gg35, .cb g2 [ckI a0.Epoch, ckL s1] 64, .cb g4 [ckV flB x39] 29] := hI
  refine wend ?_
  refine wthen ?_
  refine wren (fun ρ44 eρ44 => ?_)
  have h45 : opd ρ44 15 (.tmp 2) = .pointer (some ⟨g4, 0 + 0, none⟩) := (eρ44 2).trans h23
  clear eρ44
  refine wp_ret ?_
  obtain rfl := Option.some.inj hF
  subst hB
  refine finR (rs := [.cell 2 29]) (vs := [.agg (flat [ckV flB x39]).toArray]) rfl ⟨⟨_, h45, ld_agg (hI.good.ca 3 rfl) ag29 rfl⟩, trivial⟩ ?_
  exact hI.fin 0 ⟨rfl, rfl⟩
noncomputable def M_chain_Step (a0 : Config) (a1 : Int) (a2 : Link) : Option (Int) := (((if a2.Block.Height ≤ a1 then some true else ((M_config_Good a2.Config).bind fun x24 => (if x24 = true then some (decide (a2.Config.Epoch ≤ a0.Epoch)) else some true)))).bind fun (x15 : Bool) => (if x15 = true then some 12 else ((M_cert_Check a0 a2.Block a2.Cert).bind fun x32 => (if x32 = true then ((M_config_Digest a2.Config).bind fun x41 => (if x41 = a2.Block.Next then some 0 else some 13)) else some 10))))
set_option maxHeartbeats 4000000 in
theorem spec_31 {w : World} {H : Hp} {a0 : Config} {a1 : Int} {a2 : Link} {s1 : Sv} {s2 : Sv} {s3 : Sv} {s4 : Sv} {r : Int} (hF : M_chain_Step a0 a1 a2 = some r) (hT : Tab H) (hG : Good w H []) (hs1 : Sl (Fl.ty fl_Member) H s1 a0.Members) (hs2 : Sl (Fl.ty fl_Request) H s2 a2.Block.Requests) (hs3 : Sl ty_Vote H s3 a2.Cert.Votes) (hs4 : Sl (Fl.ty fl_Member) H s4 a2.Config.Members) :
    Fine Tryd.prog 31 [.agg (flat [ckI a0.Epoch, ckL s1]).toArray, .int .i64 a1, .agg (flat [ckI a2.Block.Epoch, ckI a2.Block.Height, ckV flB a2.Block.Prev, ckV flB a2.Block.State, ckV flB a2.Block.Next, ckL s2, ckI a2.Cert.Round, ckL s3, ckI a2.Config.Epoch, ckL s4]).toArray] w H [] (fun H' v L' => v = .int .i64 r ∧ L' = []) := by
  unfold M_chain_Step at hF
  unfold Fine
  obtain ⟨B, hB⟩ : ∃ B : Base, B = ⟨w, H, blks []⟩ := ⟨_, rfl⟩
  have hI : Inv B w H [] := by rw [hB]; exact Inv.start hG
  refine enter (n := 43) (args := [.agg (flat [ckI a0.Epoch, ckL s1]).toArray, .int .i64 a1, .agg (flat [ckI a2.Block.Epoch, ckI a2.Block.Height, ckV flB a2.Block.Prev, ckV flB a2.Block.State, ckV flB a2.Block.Next, ckL s2, ckI a2.Cert.Round, ckL s3, ckI a2.Config.Epoch, ckL s4]).toArray]) Tryd.func31 rfl Tryd.ntmps31 (Nat.le_of_ble_eq_true rfl) ?_
  refine wseq ?_
  refine wreg ?_
  refine le rfl (l_box (cks := [ckI a0.Epoch, ckL s1]) hI rfl rfl rfl) rfl ?_
  rintro _ w6 ⟨g5, rfl, hI⟩
  replace hI : Inv B w6 H [.cb g5 [ckI a0.Epoch, ckL s1] 64] := hI
  refine le rfl (l_box (cks := [ckI a2.Block.Epoch, ckI a2.Block.Height, ckV flB a2.Block.Prev, ckV flB a2.Block.State, ckV flB a2.Block.Next, ckL s2, ckI a2.Cert.Round, ckL s3, ckI a2.Config.Epoch, ckL s4]) hI rfl rfl rfl) rfl ?_
  rintro _ w8 ⟨g7, rfl, hI⟩
  replace hI : Inv B w8 H [.cb g5 [ckI a0.Epoch, ckL s1] 64, .cb g7 [ckI a2.Block.Epoch, ckI a2.Block.Height, ckV flB a2.Block.Prev, ckV flB a2.Block.State, ckV flB a2.Block.Next, ckL s2, ckI a2.Cert.Round, ckL s3, ckI a2.Config.Epoch, ckL s4] 73] := hI
  refine lv (v := .int .i64 0) rfl (r_as rfl rfl) rfl ?_
  refine wend ?_
  refine wthen ?_
  refine wren (fun ρ9 eρ9 => ?_)
  have h10 : opd ρ9 43 (.tmp 1) = .int .i64 a1 := eρ9 1
  have h11 : opd ρ9 43 (.tmp 3) = .pointer (some ⟨g5, 0 + 0, none⟩) := eρ9 3
  have h12 : opd ρ9 43 (.tmp 5) = .pointer (some ⟨g7, 0 + 0, none⟩) := eρ9 5
  clear eρ9
  refine wseq ?_
  refine wp_block ?_
  obtain ⟨x15, hx15, hF⟩ := Option.bind_eq_some_iff.1 hF
  refine wcut (fun ρ' w' => ∃ (H16 : Hp), Hle H H16 ∧ opd ρ' 43 (.tmp 3) = .pointer (some ⟨g5, 0 + 0, none⟩) ∧ opd ρ' 43 (.tmp 5) = .pointer (some ⟨g7, 0 + 0, none⟩) ∧ opd ρ' 43 (.tmp 7) = .bool x15 ∧ Inv B w' H16 [.cb g5 [ckI a0.Epoch, ckL s1] 64, .cb g7 [ckI a2.Block.Epoch, ckI a2.Block.Height, ckV flB a2.Block.Prev, ckV flB a2.Block.State, ckV flB a2.Block.Next, ckL s2, ckI a2.Cert.Round, ckL s3, ckI a2.Config.Epoch, ckL s4] 73]) ?_ ?_
  · skip
    replace hF := hx15
    refine wreg ?_
    refine lv (v := .pointer (some ⟨g7, 0 + 0, none⟩)) rfl (l_fa (j := 0) (i := 0) rfl fl73_0 h12 rfl) rfl ?_
    refine lv (v := .pointer (some ⟨g7, 0 + 1, none⟩)) rfl (l_fa (j := 0) (i := 0) rfl fl69_1 rfl rfl) rfl ?_
    refine lv (v := .int .i64 a2.Block.Height) rfl (r_cl1 (off := 1) (p := 1) (hI.good.ca 1 rfl) rfl sc3 rfl rfl rfl) rfl ?_
    refine lv (v := .int .i64 a1) rfl (r_mv rfl h10) rfl ?_
    refine lv (v := .bool (decide (a2.Block.Height ≤ a1))) rfl (r_leq rfl rfl rfl rfl) rfl ?_
    by_cases hc23 : a2.Block.Height ≤ a1
    · skip
      rw [if_pos hc23] at hF
      have hbhc23 : (decide (a2.Block.Height ≤ a1)) = true := decide_eq_true hc23
      refine lv (v := .bool true) rfl (r_mv rfl ((show opd _ _ _ = _ from rfl).trans (congrArg Value.bool hbhc23))) rfl ?_
      with_reducible refine lx (d := 14) (by kernel_rfl) (by kernel_rfl) ?_
      with_reducible refine lx (d := 15) (by kernel_rfl) (by kernel_rfl) ?_
      with_reducible refine lx (d := 16) (by kernel_rfl) (by kernel_rfl) ?_
      with_reducible refine lx (d := 17) (by kernel_rfl) (by kernel_rfl) ?_
      refine lv (v := .bool true) rfl (r_pkT rfl rfl rfl) rfl ?_
      refine lv (v := .bool true) rfl (r_mv rfl rfl) rfl ?_
      with_reducible refine lx (d := 20) (by kernel_rfl) (by kernel_rfl) ?_
      with_reducible refine lx (d := 21) (by kernel_rfl) (by kernel_rfl) ?_
      with_reducible refine lx (d := 22) (by kernel_rfl) (by kernel_rfl) ?_
      with_reducible refine lx (d := 23) (by kernel_rfl) (by kernel_rfl) ?_
      with_reducible refine lx (d := 24) (by kernel_rfl) (by kernel_rfl) ?_
      with_reducible refine lx (d := 25) (by kernel_rfl) (by kernel_rfl) ?_
      refine lv (v := .bool true) rfl (r_pkT rfl rfl rfl) rfl ?_
      refine lv (v := .bool true) rfl (r_as rfl rfl) rfl ?_
      refine wend ?_
      obtain rfl := Option.some.inj hF
      exact wmid ⟨H, (Hle.refl _), h11, h12, rfl, hI⟩
    · skip
      rw [if_neg hc23] at hF
      have hbhc23 : (decide (a2.Block.Height ≤ a1)) = false := decide_eq_false hc23
      refine lv (v := .bool false) rfl (r_mv rfl ((show opd _ _ _ = _ from rfl).trans (congrArg Value.bool hbhc23))) rfl ?_
      refine lv (v := .pointer (some ⟨g7, 0 + 101, none⟩)) rfl (l_fa (j := 0) (i := 0) rfl fl73_2 h12 rfl) rfl ?_
      refine lv (v := .agg (flat [ckI a2.Config.Epoch, ckL s4]).toArray) rfl (r_cla (off := 101) (p := 8) (m := 2) (hI.good.ca 1 rfl) rfl ag64 rfl rfl rfl) rfl ?_
      obtain ⟨x24, hx24, hF⟩ := Option.bind_eq_some_iff.1 hF
      have hsp27 := spec_65 hx24 hT (hI.part 0) hs4
      refine fc ([]) ([.cb g5 [ckI a0.Epoch, ckL s1] 64, .cb g7 [ckI a2.Block.Epoch, ckI a2.Block.Height, ckV flB a2.Block.Prev, ckV flB a2.Block.State, ckV flB a2.Block.Next, ckL s2, ckI a2.Cert.Round, ckL s3, ckI a2.Config.Epoch, ckL s4] 73]) (args := [.agg (flat [ckI a2.Config.Epoch, ckL s4]).toArray]) fc65 rfl rfl rfl hI (argc rfl rfl) (hsp27) ?_
      rintro _ H25 _ w26 ⟨rfl, rfl⟩ hleH25 hI
      replace hI : Inv B w26 H25 [.cb g5 [ckI a0.Epoch, ckL s1] 64, .cb g7 [ckI a2.Block.Epoch, ckI a2.Block.Height, ckV flB a2.Block.Prev, ckV flB a2.Block.State, ckV flB a2.Block.Next, ckL s2, ckI a2.Cert.Round, ckL s3, ckI a2.Config.Epoch, ckL s4] 73] := hI
      refine lv (v := .bool (!x24)) rfl (r_not rfl rfl) rfl ?_
      refine lv (v := .bool (!x24)) rfl (r_pkF rfl rfl rfl) rfl ?_
      by_cases hc28 : x24 = true
      · skip
        rw [if_pos hc28] at hF
        have hbhc28 : (!x24) = false := (by rw [hc28]; rfl)
        refine lv (v := .bool false) rfl (r_mv rfl ((show opd _ _ _ = _ from rfl).trans (congrArg Value.bool hbhc28))) rfl ?_
        refine lv (v := .pointer (some ⟨g7, 0 + 101, none⟩)) rfl (l_fa (j := 0) (i := 0) rfl fl73_2 h12 rfl) rfl ?_
        refine lv (v := .pointer (some ⟨g7, 0 + 101, none⟩)) rfl (l_fa (j := 0) (i := 101) rfl fl64_0 rfl rfl) rfl ?_
        refine lv (v := .int .i64 a2.Config.Epoch) rfl (r_cl1 (off := 101) (p := 8) (hI.good.ca 1 rfl) rfl sc3 rfl rfl rfl) rfl ?_
        refine lv (v := .pointer (some ⟨g5, 0 + 0, none⟩)) rfl (l_fa (j := 0) (i := 0) rfl fl64_0 h11 rfl) rfl ?_
        refine lv (v := .int .i64 a0.Epoch) rfl (r_cl1 (off := 0) (p := 0) (hI.good.ca 0 rfl) rfl sc3 rfl rfl rfl) rfl ?_
        refine lv (v := .bool (decide (a2.Config.Epoch ≤ a0.Epoch))) rfl (r_leq rfl rfl rfl rfl) rfl ?_
        refine lv (v := .bool (decide (a2.Config.Epoch ≤ a0.Epoch))) rfl (r_pkF rfl rfl rfl) rfl ?_
        refine lv (v := .bool (decide (a2.Config.Epoch ≤ a0.Epoch))) rfl (r_as rfl rfl) rfl ?_
        refine wend ?_
        obtain rfl := Option.some.inj hF
        exact wmid ⟨H25, hleH25, h11, h12, rfl, hI⟩
      · skip
        rw [if_neg hc28] at hF
        have hbhc28 : (!x24) = true := (by rw [(Bool.eq_false_iff.2 hc28)]; rfl)
        refine lv (v := .bool true) rfl (r_mv rfl ((show opd _ _ _ = _ from rfl).trans (congrArg Value.bool hbhc28))) rfl ?_
        with_reducible refine lx (d := 20) (by kernel_rfl) (by kernel_rfl) ?_
        with_reducible refine lx (d := 21) (by kernel_rfl) (by kernel_rfl) ?_
        with_reducible refine lx (d := 22) (by kernel_rfl) (by kernel_rfl) ?_
        with_reducible refine lx (d := 23) (by kernel_rfl) (by kernel_rfl) ?_
        with_reducible refine lx (d := 24) (by kernel_rfl) (by kernel_rfl) ?_
        with_reducible refine lx (d := 25) (by kernel_rfl) (by kernel_rfl) ?_
        refine lv (v := .bool true) rfl (r_pkT rfl rfl rfl) rfl ?_
        refine lv (v := .bool true) rfl (r_as rfl rfl) rfl ?_
        refine wend ?_
        obtain rfl := Option.some.inj hF
        exact wmid ⟨H25, hleH25, h11, h12, rfl, hI⟩
  rintro ρ18 w17 ⟨H16, hleH16, h19, h20, h21, hI⟩
  by_cases hc29 : x15 = true
  · skip
    rw [if_pos hc29] at hF
    have hbhc29 : x15 = true := hc29
    refine wcT (h21.trans (congrArg Value.bool hbhc29)) ?_
    refine wseq ?_
    refine wreg ?_
    refine lv (v := .int .i64 12) rfl (r_as rfl rfl) rfl ?_
    refine wend ?_
    refine wthen ?_
    refine wren (fun ρ30 eρ30 => ?_)
    have h31 : opd ρ30 43 (.tmp 6) = .int .i64 12 := eρ30 6
    clear eρ30
    refine wp_ret ?_
    refine inR ?_
    refine thR ?_
    obtain rfl := Option.some.inj hF
    subst hB
    refine finR (rs := [.tmp 6]) (vs := [.int .i64 12]) rfl ⟨h31, trivial⟩ ?_
    exact hI.fin 0 ⟨rfl, rfl⟩
  · skip
    rw [if_neg hc29] at hF
    have hbhc29 : x15 = false := (Bool.eq_false_iff.2 hc29)
    refine wcF (h21.trans (congrArg Value.bool hbhc29)) ?_
    refine wseq ?_
    refine wreg ?_
    refine lv (v := .agg (flat [ckI a0.Epoch, ckL s1]).toArray) rfl (r_cla (off := 0) (p := 0) (m := 2) (hI.good.ca 0 rfl) rfl ag64 h19 rfl rfl) rfl ?_
    refine lv (v := .pointer (some ⟨g7, 0 + 0, none⟩)) rfl (l_fa (j := 0) (i := 0) rfl fl73_0 h20 rfl) rfl ?_
    refine lv (v := .agg (flat [ckI a2.Block.Epoch, ckI a2.Block.Height, ckV flB a2.Block.Prev, ckV flB a2.Block.State, ckV flB a2.Block.Next, ckL s2]).toArray) rfl (r_cla (off := 0) (p := 0) (m := 6) (hI.good.ca 1 rfl) rfl ag69 rfl rfl rfl) rfl ?_
    refine lv (v := .pointer (some ⟨g7, 0 + 99, none⟩)) rfl (l_fa (j := 0) (i := 0) rfl fl73_1 h20 rfl) rfl ?_
    refine lv (v := .agg (flat [ckI a2.Cert.Round, ckL s3]).toArray) rfl (r_cla (off := 99) (p := 6) (m := 2) (hI.good.ca 1 rfl) rfl ag71 rfl rfl rfl) rfl ?_
    obtain ⟨x32, hx32, hF⟩ := Option.bind_eq_some_iff.1 hF
    have hsp35 := spec_46 hx32 (hT.mono hleH16) (hI.part 0) (hs1.mono hleH16) (hs2.mono hleH16) (hs3.mono hleH16)
    refine fc ([]) ([.cb g5 [ckI a0.Epoch, ckL s1] 64, .cb g7 [ckI a2.Block.Epoch, ckI a2.Block.Height, ckV flB a2.Block.Prev, ckV flB a2.Block.State, ckV flB a2.Block.Next, ckL s2, ckI a2.Cert.Round, ckL s3, ckI a2.Config.Epoch, ckL s4] 73]) (args := [.agg (flat [ckI a0.Epoch, ckL s1]).toArray, .agg (flat [ckI a2.Block.Epoch, ckI a2.Block.Height, ckV flB a2.Block.Prev, ckV flB a2.Block.State, ckV flB a2.Block.Next, ckL s2]).toArray, .agg (flat [ckI a2.Cert.Round, ckL s3]).toArray]) fc46 rfl rfl rfl hI (argc rfl (argc rfl (argc rfl rfl))) (hsp35) ?_
    rintro _ H33 _ w34 ⟨rfl, rfl⟩ hleH33 hI
    replace hI : Inv B w34 H33 [.cb g5 [ckI a0.Epoch, ckL s1] 64, .cb g7 [ckI a2.Block.Epoch, ckI a2.Block.Height, ckV flB a2.Block.Prev, ckV flB a2.Block.State, ckV flB a2.Block.Next, ckL s2, ckI a2.Cert.Round, ckL s3, ckI a2.Config.Epoch, ckL s4] 73] := hI
    refine lv (v := .bool (!x32)) rfl (r_not rfl rfl) rfl ?_
    refine lv (v := .bool (!x32)) rfl (r_as rfl rfl) rfl ?_
    refine wend ?_
    refine wthen ?_
    refine wren (fun ρ36 eρ36 => ?_)
    have h37 : opd ρ36 43 (.tmp 5) = .pointer (some ⟨g7, 0 + 0, none⟩) := (eρ36 5).trans h20
    have h38 : opd ρ36 43 (.tmp 27) = .bool (!x32) := eρ36 27
    clear eρ36
    by_cases hc39 : x32 = true
    · skip
      rw [if_pos hc39] at hF
      have hbhc39 : (!x32) = false := (by rw [hc39]; rfl)
      refine wcF (h38.trans (congrArg Value.bool hbhc39)) ?_
      refine wseq ?_
      refine dstG (H0 := H33) (L0 := keepL [true, true] [.cb g5 [ckI a0.Epoch, ckL s1] 64, .cb g7 [ckI a2.Block.Epoch, ckI a2.Block.Height, ckV flB a2.Block.Prev, ckV flB a2.Block.State, ckV flB a2.Block.Next, ckL s2, ckI a2.Cert.Round, ckL s3, ckI a2.Config.Epoch, ckL s4] 73]) [] mixed rfl (by repeat (first | exact Pan.body | refine Pan.then ?_ | refine Pan.inBlock ?_ | refine Pan.noGoto ?_ | refine Pan.pure ?_)) hI (hI.good.weakm _ (Hle.refl _) rfl) ?_
      intro w40 hI hP
      refine dp (v := .pointer (some ⟨g7, 0 + 101, none⟩)) 0 (by kernel_rfl) rfl rfl (fun _ => l_fa (j := 0) (i := 0) rfl fl73_2 h37 rfl) rfl hP ?_
      refine dp (v := .pointer (some ⟨g7, 0 + 0, none⟩)) 3 (by kernel_rfl) rfl rfl (fun _ => l_fa (j := 0) (i := 0) rfl fl73_0 h37 rfl) rfl hP ?_
      refine dp (v := .pointer (some ⟨g7, 0 + 66, none⟩)) 4 (by kernel_rfl) rfl rfl (fun _ => l_fa (j := 0) (i := 0) rfl fl69_4 rfl rfl) rfl hP ?_
      refine dr (v := .agg (flat [ckI a2.Config.Epoch, ckL s4]).toArray) 1 (by kernel_rfl) rfl rfl (hI.good.weakm [true, true] (Hle.refl _) rfl) (fun _ hG => r_cla (off := 101) (p := 8) (m := 2) (hG.ca 1 rfl) rfl ag64 rfl rfl rfl) rfl hP ?_
      refine dr (v := .agg (flat [ckV flB a2.Block.Next]).toArray) 5 (by kernel_rfl) rfl rfl (hI.good.weakm [true, true] (Hle.refl _) rfl) (fun _ hG => r_cla (off := 66) (p := 4) (m := 1) (hG.ca 1 rfl) rfl ag29 rfl rfl rfl) rfl hP ?_
      obtain ⟨x41, hx41, hF⟩ := Option.bind_eq_some_iff.1 hF
      have hsp44 := spec_66 hx41 ((hT.mono hleH16).mono hleH33) (hI.part 0) ((hs4.mono hleH16).mono hleH33)
      refine dfc 2 ([]) ([.cb g5 [ckI a0.Epoch, ckL s1] 64, .cb g7 [ckI a2.Block.Epoch, ckI a2.Block.Height, ckV flB a2.Block.Prev, ckV flB a2.Block.State, ckV flB a2.Block.Next, ckL s2, ckI a2.Cert.Round, ckL s3, ckI a2.Config.Epoch, ckL s4] 73]) (args := [.agg (flat [ckI a2.Config.Epoch, ckL s4]).toArray]) fc66 (by kernel_rfl) rfl rfl rfl rfl rfl hI (argc rfl rfl) (hsp44) ?_
      rintro _ H42 _ w43 ⟨rfl, rfl⟩ hleH42 hI
      replace hI : Inv B w43 H42 [.cb g5 [ckI a0.Epoch, ckL s1] 64, .cb g7 [ckI a2.Block.Epoch, ckI a2.Block.Height, ckV flB a2.Block.Prev, ckV flB a2.Block.State, ckV flB a2.Block.Next, ckL s2, ckI a2.Cert.Round, ckL s3, ckI a2.Config.Epoch, ckL s4] 73] := hI
      refine ⟨(hI.good.weakm [true, true] hleH42 rfl), ?_⟩
      refine dp (v := .bool (!decide (x41 = a2.Block.Next))) 6 (by kernel_rfl) rfl rfl (fun _ => r_neb rfl ba29 rfl rfl) rfl hP ?_
      refine dp (v := .bool (!decide (x41 = a2.Block.Next))) 7 (by kernel_rfl) rfl rfl (fun _ => r_as rfl rfl) rfl hP ?_
      refine dend (by kernel_rfl) ?_
      refine wthen ?_
      refine wren (fun ρ45 eρ45 => ?_)
      have h46 : opd ρ45 43 (.tmp 35) = .bool (!decide (x41 = a2.Block.Next)) := eρ45 35
      clear eρ45
      by_cases hc47 : x41 = a2.Block.Next
      · skip
        rw [if_pos hc47] at hF
        have hbhc47 : (!decide (x41 = a2.Block.Next)) = false := (by rw [decide_eq_true hc47]; rfl)
        refine wcF (h46.trans (congrArg Value.bool hbhc47)) ?_
        refine wp_skip ?_
        refine inN ?_
        refine wthen ?_
        refine wseq ?_
        refine wreg ?_
        refine lv (v := .int .i64 0) rfl (r_as rfl rfl) rfl ?_
        refine wend ?_
        refine wthen ?_
        refine wren (fun ρ48 eρ48 => ?_)
        have h49 : opd ρ48 43 (.tmp 6) = .int .i64 0 := eρ48 6
        clear eρ48
        refine wp_ret ?_
        obtain rfl := Option.some.inj hF
        subst hB
        refine finR (rs := [.tmp 6]) (vs := [.int .i64 0]) rfl ⟨h49, trivial⟩ ?_
        exact hI.fin 0 ⟨rfl, rfl⟩
      · skip
        rw [if_neg hc47] at hF
        have hbhc47 : (!decide (x41 = a2.Block.Next)) = true := (by rw [decide_eq_false hc47]; rfl)
        refine wcT (h46.trans (congrArg Value.bool hbhc47)) ?_
        refine wseq ?_
        refine wreg ?_
        refine lv (v := .int .i64 13) rfl (r_as rfl rfl) rfl ?_
        refine wend ?_
        refine wthen ?_
        refine wren (fun ρ50 eρ50 => ?_)
        have h51 : opd ρ50 43 (.tmp 6) = .int .i64 13 := eρ50 6
        clear eρ50
        refine wp_ret ?_
        refine inR ?_
        refine thR ?_
        obtain rfl := Option.some.inj hF
        subst hB
        refine finR (rs := [.tmp 6]) (vs := [.int .i64 13]) rfl ⟨h51, trivial⟩ ?_
        exact hI.fin 0 ⟨rfl, rfl⟩
    · skip
      rw [if_neg hc39] at hF
      have hbhc39 : (!x32) = true := (by rw [(Bool.eq_false_iff.2 hc39)]; rfl)
      refine wcT (h38.trans (congrArg Value.bool hbhc39)) ?_
      refine wseq ?_
      refine wreg ?_
      refine lv (v := .int .i64 10) rfl (r_as rfl rfl) rfl ?_
      refine wend ?_
      refine wthen ?_
      refine wren (fun ρ52 eρ52 => ?_)
      have h53 : opd ρ52 43 (.tmp 6) = .int .i64 10 := eρ52 6
      clear eρ52
      refine wp_ret ?_
      refine inR ?_
      refine thR ?_
      obtain rfl := Option.some.inj hF
      subst hB
      refine finR (rs := [.tmp 6]) (vs := [.int .i64 10]) rfl ⟨h53, trivial⟩ ?_
      exact hI.fin 0 ⟨rfl, rfl⟩
noncomputable def M_chain_Check (a0 : Config) (a1 : List Link) : Option (Config × Int × Int) := ((M_config_Good a0).bind fun x11 => (if x11 = true then (if (1024 : Int) < (a1.length : Int) then some ((⟨0, []⟩ : Config), 0, 11) else ((forK (fun (i48 : Nat) (σ48 : Int × Int × (List Member)) => (((a1[i48]?).bind fun x220 => ((M_chain_Step (⟨σ48.2.1, σ48.2.2⟩ : Config) σ48.1 x220).bind fun x242 => (if x242 ≠ 0 then ((some ((⟨0, []⟩ : Config), (i48 : Int), x242)).map Sum.inr) else some (.inl (x220.Block.Height, x220.Config.Epoch, x220.Config.Members))))) : Option ((Int × Int × (List Member)) ⊕ (Config × Int × Int)))) a1.length 0 (0, a0.Epoch, a0.Members)).bind fun y => match y with | .inl σ48 => ((appI 48 ([] : List Member) σ48.2.2).bind fun x293 => some ((⟨σ48.2.1, x293⟩ : Config), (a1.length : Int), 0)) | .inr r => some r)) else some ((⟨0, []⟩ : Config), 0, 1)))
set_option maxHeartbeats 4000000 in
theorem spec_33 {w : World} {H : Hp} {a0 : Config} {a1 : List Link} {s1 : Sv} {s2 : Sv} {r : Config × Int × Int} (hF : M_chain_Check a0 a1 = some r) (hT : Tab H) (hG : Good w H []) (hs1 : Sl (Fl.ty fl_Member) H s1 a0.Members) (hs2 : Sl ty_Link H s2 a1) :
    Fine Tryd.prog 33 [.agg (flat [ckI a0.Epoch, ckL s1]).toArray, s2.v] w H [] (fun H' v L' => ∃ s900 : Sv, v = .tuple #[.agg (flat [ckI r.1.Epoch, ckL s900]).toArray, .int .i64 r.2.1, .int .i64 r.2.2] ∧ Sl (Fl.ty fl_Member) H' s900 r.1.Members ∧ L' = []) := by
  unfold M_chain_Check at hF
  unfold Fine
  obtain ⟨B, hB⟩ : ∃ B : Base, B = ⟨w, H, blks []⟩ := ⟨_, rfl⟩
  have hI : Inv B w H [] := by rw [hB]; exact Inv.start hG
  refine enter (n := 52) (args := [.agg (flat [ckI a0.Epoch, ckL s1]).toArray, s2.v]) Tryd.func33 rfl Tryd.ntmps33 (Nat.le_of_ble_eq_true rfl) ?_
  refine wseq ?_
  refine wreg ?_
  refine le rfl (l_box (cks := [ckI a0.Epoch, ckL s1]) hI rfl rfl rfl) rfl ?_
  rintro _ w4 ⟨g3, rfl, hI⟩
  replace hI : Inv B w4 H [.cb g3 [ckI a0.Epoch, ckL s1] 64] := hI
  refine le rfl (l_al hI rfl ze64) rfl ?_
  rintro _ w6 ⟨g5, rfl, hI⟩
  replace hI : Inv B w6 H [.cb g3 [ckI a0.Epoch, ckL s1] 64, .cb g5 [ckI 0, ckL Sv.nil] 64] := hI
  refine lv (v := .int .i64 0) rfl (r_as rfl rfl) rfl ?_
  refine lv (v := .int .i64 0) rfl (r_as rfl rfl) rfl ?_
  refine wend ?_
  refine wthen ?_
  refine wren (fun ρ7 eρ7 => ?_)
  have h8 : opd ρ7 52 (.tmp 1) = s2.v := eρ7 1
  have h9 : opd ρ7 52 (.tmp 2) = .pointer (some ⟨g3, 0 + 0, none⟩) := eρ7 2
  have h10 : opd ρ7 52 (.tmp 4) = .pointer (some ⟨g5, 0 + 0, none⟩) := eρ7 4
  clear eρ7
  refine wseq ?_
  refine wseq ?_
  refine wreg ?_
  refine lv (v := .agg (flat [ckI a0.Epoch, ckL s1]).toArray) rfl (r_cla (off := 0) (p := 0) (m := 2) (hI.good.ca 0 rfl) rfl ag64 h9 rfl rfl) rfl ?_
  obtain ⟨x11, hx11, hF⟩ := Option.bind_eq_some_iff.1 hF
  have hsp14 := spec_65 hx11 hT (hI.part 0) hs1
  refine fc ([]) ([.cb g3 [ckI a0.Epoch, ckL s1] 64, .cb g5 [ckI 0, ckL Sv.nil] 64]) (args := [.agg (flat [ckI a0.Epoch, ckL s1]).toArray]) fc65 rfl rfl rfl hI (argc rfl rfl) (hsp14) ?_
  rintro _ H12 _ w13 ⟨rfl, rfl⟩ hleH12 hI
  replace hI : Inv B w13 H12 [.cb g3 [ckI a0.Epoch, ckL s1] 64, .cb g5 [ckI 0, ckL Sv.nil] 64] := hI
  refine lv (v := .bool (!x11)) rfl (r_not rfl rfl) rfl ?_
  refine wend ?_
  refine wthen ?_
  refine wren (fun ρ15 eρ15 => ?_)
  have h16 : opd ρ15 52 (.tmp 1) = s2.v := (eρ15 1).trans h8
  have h17 : opd ρ15 52 (.tmp 2) = .pointer (some ⟨g3, 0 + 0, none⟩) := (eρ15 2).trans h9
  have h18 : opd ρ15 52 (.tmp 4) = .pointer (some ⟨g5, 0 + 0, none⟩) := (eρ15 4).trans h10
  have h19 : opd ρ15 52 (.tmp 14) = .bool (!x11) := eρ15 14
  clear eρ15
  by_cases hc20 : x11 = true
  · skip
    rw [if_pos hc20] at hF
    have hbhc20 : (!x11) = false := (by rw [hc20]; rfl)
    refine wcF (h19.trans (congrArg Value.bool hbhc20)) ?_
    refine wp_skip ?_
    refine wthen ?_
    refine wseq ?_
    refine wseq ?_
    refine wreg ?_
    refine lv (v := s2.v) rfl (r_mv rfl h16) rfl ?_
    refine lv (v := .int .i64 (a1.length : Int)) rfl (r_lenS rfl sl65 rfl (hs2.mono hleH12)) rfl ?_
    refine lv (v := .bool (decide ((1024 : Int) < (a1.length : Int)))) rfl (r_gtr rfl rfl rfl rfl) rfl ?_
    refine wend ?_
    refine wthen ?_
    refine wren (fun ρ21 eρ21 => ?_)
    have h22 : opd ρ21 52 (.tmp 1) = s2.v := (eρ21 1).trans h16
    have h23 : opd ρ21 52 (.tmp 2) = .pointer (some ⟨g3, 0 + 0, none⟩) := (eρ21 2).trans h17
    have h24 : opd ρ21 52 (.tmp 4) = .pointer (some ⟨g5, 0 + 0, none⟩) := (eρ21 4).trans h18
    have h25 : opd ρ21 52 (.tmp 18) = .bool (decide ((1024 : Int) < (a1.length : Int))) := eρ21 18
    clear eρ21
    by_cases hc26 : (1024 : Int) < (a1.length : Int)
    · skip
      rw [if_pos hc26] at hF
      have hbhc26 : (decide ((1024 : Int) < (a1.length : Int))) = true := decide_eq_true hc26
      refine wcT (h25.trans (congrArg Value.bool hbhc26)) ?_
      refine wseq ?_
      refine wreg ?_
      refine lv (v := .agg (flat [ckI 0, ckL Sv.nil]).toArray) rfl (r_bldk (z := [[ckI 0], [ckL Sv.nil]]) (pc := []) rfl zg64 bf64 rfl rfl rfl rfl) rfl ?_
      refine lst rfl (l_st (off := 0) (p := 0) (m := 2) (new := [ckI 0, ckL Sv.nil]) hI 1 rfl rfl sz64 h24 rfl rfl rfl rfl rfl) rfl ?_
      intro w27 hI
      replace hI : Inv B w27 H12 [.cb g3 [ckI a0.Epoch, ckL s1] 64, .cb g5 [ckI 0, ckL Sv.nil] 64] := hI
      refine lv (v := .int .i64 0) rfl (r_as rfl rfl) rfl ?_
      refine lv (v := .int .i64 11) rfl (r_as rfl rfl) rfl ?_
      refine wend ?_
      refine wthen ?_
      refine wren (fun ρ28 eρ28 => ?_)
      have h29 : opd ρ28 52 (.tmp 4) = .pointer (some ⟨g5, 0 + 0, none⟩) := (eρ28 4).trans h24
      have h30 : opd ρ28 52 (.tmp 5) = .int .i64 0 := eρ28 5
      have h31 : opd ρ28 52 (.tmp 6) = .int .i64 11 := eρ28 6
      clear eρ28
      refine wp_ret ?_
      refine thR ?_
      obtain rfl := Option.some.inj hF
      subst hB
      refine finR (rs := [.cell 4 64, .tmp 5, .tmp 6]) (vs := [.agg (flat [ckI 0, ckL Sv.nil]).toArray, .int .i64 0, .int .i64 11]) rfl ⟨⟨_, h29, ld_agg (hI.good.ca 1 rfl) ag64 rfl⟩, h30, h31, trivial⟩ ?_
      exact hI.fin 0 ⟨Sv.nil, rfl, (Sl.nil _ _), rfl⟩
    · skip
      rw [if_neg hc26] at hF
      have hbhc26 : (decide ((1024 : Int) < (a1.length : Int))) = false := decide_eq_false hc26
      refine wcF (h25.trans (congrArg Value.bool hbhc26)) ?_
      refine wp_skip ?_
      refine wthen ?_
      refine wseq ?_
      refine wreg ?_
      refine lv (v := .agg (flat [ckI a0.Epoch, ckL s1]).toArray) rfl (r_cla (off := 0) (p := 0) (m := 2) (hI.good.ca 0 rfl) rfl ag64 h23 rfl rfl) rfl ?_
      refine le rfl (l_al hI rfl ze64) rfl ?_
      rintro _ w33 ⟨g32, rfl, hI⟩
      replace hI : Inv B w33 H12 [.cb g3 [ckI a0.Epoch, ckL s1] 64, .cb g5 [ckI 0, ckL Sv.nil] 64, .cb g32 [ckI 0, ckL Sv.nil] 64] := hI
      refine lst rfl (l_st (off := 0) (p := 0) (m := 2) (new := [ckI a0.Epoch, ckL s1]) hI 2 rfl rfl sz64 rfl rfl rfl rfl rfl rfl) rfl ?_
      intro w34 hI
      replace hI : Inv B w34 H12 [.cb g3 [ckI a0.Epoch, ckL s1] 64, .cb g5 [ckI 0, ckL Sv.nil] 64, .cb g32 [ckI a0.Epoch, ckL s1] 64] := hI
      refine lv (v := .int .i64 0) rfl (r_as rfl rfl) rfl ?_
      refine wend ?_
      refine wthen ?_
      refine wren (fun ρ35 eρ35 => ?_)
      have h36 : opd ρ35 52 (.tmp 1) = s2.v := (eρ35 1).trans h22
      have h37 : opd ρ35 52 (.tmp 4) = .pointer (some ⟨g5, 0 + 0, none⟩) := (eρ35 4).trans h24
      have h38 : opd ρ35 52 (.tmp 7) = .pointer (some ⟨g32, 0 + 0, none⟩) := eρ35 7
      have h39 : opd ρ35 52 (.tmp 8) = .int .i64 0 := eρ35 8
      clear eρ35
      refine wseq ?_
      refine wseq ?_
      refine wreg ?_
      refine lv (v := s2.v) rfl (r_mv rfl h36) rfl ?_
      refine lv (v := .int .i64 (a1.length : Int)) rfl (r_lenS rfl sl65 rfl (hs2.mono hleH12)) rfl ?_
      refine lv (v := .int .i64 0) rfl (r_mv rfl rfl) rfl ?_
      refine wend ?_
      refine wthen ?_
      refine wren (fun ρ40 eρ40 => ?_)
      have h41 : opd ρ40 52 (.tmp 1) = s2.v := (eρ40 1).trans h36
      have h42 : opd ρ40 52 (.tmp 4) = .pointer (some ⟨g5, 0 + 0, none⟩) := (eρ40 4).trans h37
      have h43 : opd ρ40 52 (.tmp 7) = .pointer (some ⟨g32, 0 + 0, none⟩) := (eρ40 7).trans h38
      have h44 : opd ρ40 52 (.tmp 8) = .int .i64 0 := (eρ40 8).trans h39
      have h45 : opd ρ40 52 (.tmp 21) = s2.v := eρ40 21
      have h46 : opd ρ40 52 (.tmp 22) = .int .i64 (a1.length : Int) := eρ40 22
      have h47 : opd ρ40 52 (.tmp 23) = .int .i64 0 := eρ40 23
      clear eρ40
      refine wp_block ?_
      have hbd48 := ((hs2.mono hleH12)).bd
      rw [((hs2.mono hleH12)).n] at hbd48
      obtain ⟨y48, hy48, hF48⟩ := Option.bind_eq_some_iff.1 hF
      refine wfor (n := 52) a1.length _ (fun (i48 : Nat) (σ48 : Int × Int × (List Member)) ρ' w' => ∃ (H201 : Hp) (s200 : Sv), Hle H12 H201 ∧ opd ρ' 52 (.tmp 1) = s2.v ∧ opd ρ' 52 (.tmp 4) = .pointer (some ⟨g5, 0 + 0, none⟩) ∧ opd ρ' 52 (.tmp 7) = .pointer (some ⟨g32, 0 + 0, none⟩) ∧ opd ρ' 52 (.tmp 8) = .int .i64 σ48.1 ∧ opd ρ' 52 (.tmp 21) = s2.v ∧ opd ρ' 52 (.tmp 22) = .int .i64 (a1.length : Int) ∧ opd ρ' 52 (.tmp 23) = .int .i64 (i48 : Int) ∧ Sl (Fl.ty fl_Member) H201 s200 σ48.2.2 ∧ Inv B w' H201 [.cb g5 [ckI 0, ckL Sv.nil] 64, .cb g32 [ckI σ48.2.1, ckL s200] 64]) hy48 ⟨H12, s1, (Hle.refl _), h41, h42, h43, h44, h45, h46, h47, (hs1.mono hleH12), (hI.keep [false, true, true])⟩ ?_
      rintro k48 i48 σ48 ρ209 w210 hk48 ⟨H201, s200, hleH201, h202, h203, h204, h205, h206, h207, h208, hs200, hI⟩ hy48
      refine wseq ?_
      refine wreg ?_
      refine lv (v := .bool (decide ((i48 : Int) < (a1.length : Int)))) rfl (r_lss rfl h208 h207 rfl) rfl ?_
      refine wend ?_
      refine wthen ?_
      refine wseq ?_
      by_cases hc211 : (i48 : Int) < (a1.length : Int)
      · skip
        have hbhc211 : (decide ((i48 : Int) < (a1.length : Int))) = true := decide_eq_true hc211
        obtain ⟨k48, rfl⟩ : ∃ m, k48 = m + 1 := ⟨k48 - 1, by omega⟩
        obtain ⟨z48, hb48⟩ := forK_body hy48
        have hF := hb48
        have hlt48 : ((i48 : Nat) : Int) + 1 ≤ 9223372036854775807 := by omega
        refine wcT ((show opd _ _ _ = _ from rfl).trans (congrArg Value.bool hbhc211)) ?_
        refine wp_skip ?_
        refine wthen ?_
        refine wren (fun ρ212 eρ212 => ?_)
        have h213 : opd ρ212 52 (.tmp 1) = s2.v := (eρ212 1).trans h202
        have h214 : opd ρ212 52 (.tmp 4) = .pointer (some ⟨g5, 0 + 0, none⟩) := (eρ212 4).trans h203
        have h215 : opd ρ212 52 (.tmp 7) = .pointer (some ⟨g32, 0 + 0, none⟩) := (eρ212 7).trans h204
        have h216 : opd ρ212 52 (.tmp 8) = .int .i64 σ48.1 := (eρ212 8).trans h205
        have h217 : opd ρ212 52 (.tmp 21) = s2.v := (eρ212 21).trans h206
        have h218 : opd ρ212 52 (.tmp 22) = .int .i64 (a1.length : Int) := (eρ212 22).trans h207
        have h219 : opd ρ212 52 (.tmp 23) = .int .i64 (i48 : Int) := (eρ212 23).trans h208
        clear eρ212
        refine wseq ?_
        refine wp_block ?_
        refine wseq ?_
        refine wreg ?_
        refine lv (v := .int .i64 (i48 : Int)) rfl (r_mv rfl h219) rfl ?_
        obtain ⟨x220, hx220, hF⟩ := Option.bind_eq_some_iff.1 hF
        obtain ⟨b221, j222, _, hix223, hil224, ⟨s226, s227, s228, rfl, hs226, hs227, hs228⟩, hA225⟩ := ((hs2.mono hleH12).mono hleH201).ix hx220
        replace hA225 : At H201 b221 j222 [ckI x220.Block.Epoch, ckI x220.Block.Height, ckV flB x220.Block.Prev, ckV flB x220.Block.State, ckV flB x220.Block.Next, ckL s226, ckI x220.Cert.Round, ckL s227, ckI x220.Config.Epoch, ckL s228] := hA225
        refine lv (v := .pointer (some ⟨b221, j222 + 0, none⟩)) rfl (r_ixt rfl sl65 h217 h219 rfl hix223 hil224) rfl ?_
        refine lv (v := .agg (flat [ckI x220.Block.Epoch, ckI x220.Block.Height, ckV flB x220.Block.Prev, ckV flB x220.Block.State, ckV flB x220.Block.Next, ckL s226, ckI x220.Cert.Round, ckL s227, ckI x220.Config.Epoch, ckL s228]).toArray) rfl (r_cla (off := 0) (p := 0) (m := 10) (hA225.ca hI.good) rfl ag73 rfl rfl rfl) rfl ?_
        refine le rfl (l_al hI rfl ze73) rfl ?_
        rintro _ w230 ⟨g229, rfl, hI⟩
        replace hI : Inv B w230 H201 [.cb g5 [ckI 0, ckL Sv.nil] 64, .cb g32 [ckI σ48.2.1, ckL s200] 64, .cb g229 [ckI 0, ckI 0, ckV flB (Vec.rep 32 0), ckV flB (Vec.rep 32 0), ckV flB (Vec.rep 32 0), ckL Sv.nil, ckI 0, ckL Sv.nil, ckI 0, ckL Sv.nil] 73] := hI
        refine lv (v := .int .i64 (i48 : Int)) rfl (r_as rfl rfl) rfl ?_
        refine lst rfl (l_st (off := 0) (p := 0) (m := 10) (new := [ckI x220.Block.Epoch, ckI x220.Block.Height, ckV flB x220.Block.Prev, ckV flB x220.Block.State, ckV flB x220.Block.Next, ckL s226, ckI x220.Cert.Round, ckL s227, ckI x220.Config.Epoch, ckL s228]) hI 2 rfl rfl sz73 rfl rfl rfl rfl rfl rfl) rfl ?_
        intro w231 hI
        replace hI : Inv B w231 H201 [.cb g5 [ckI 0, ckL Sv.nil] 64, .cb g32 [ckI σ48.2.1, ckL s200] 64, .cb g229 [ckI x220.Block.Epoch, ckI x220.Block.Height, ckV flB x220.Block.Prev, ckV flB x220.Block.State, ckV flB x220.Block.Next, ckL s226, ckI x220.Cert.Round, ckL s227, ckI x220.Config.Epoch, ckL s228] 73] := hI
        refine wend ?_
        refine wthen ?_
        refine wren (fun ρ232 eρ232 => ?_)
        have h233 : opd ρ232 52 (.tmp 1) = s2.v := (eρ232 1).trans h213
        have h234 : opd ρ232 52 (.tmp 4) = .pointer (some ⟨g5, 0 + 0, none⟩) := (eρ232 4).trans h214
        have h235 : opd ρ232 52 (.tmp 7) = .pointer (some ⟨g32, 0 + 0, none⟩) := (eρ232 7).trans h215
        have h236 : opd ρ232 52 (.tmp 8) = .int .i64 σ48.1 := (eρ232 8).trans h216
        have h237 : opd ρ232 52 (.tmp 9) = .int .i64 (i48 : Int) := eρ232 9
        have h238 : opd ρ232 52 (.tmp 10) = .pointer (some ⟨g229, 0 + 0, none⟩) := eρ232 10
        have h239 : opd ρ232 52 (.tmp 21) = s2.v := (eρ232 21).trans h217
        have h240 : opd ρ232 52 (.tmp 22) = .int .i64 (a1.length : Int) := (eρ232 22).trans h218
        have h241 : opd ρ232 52 (.tmp 23) = .int .i64 (i48 : Int) := (eρ232 23).trans h219
        clear eρ232
        refine wseq ?_
        refine wseq ?_
        refine wreg ?_
        refine lv (v := .agg (flat [ckI σ48.2.1, ckL s200]).toArray) rfl (r_cla (off := 0) (p := 0) (m := 2) (hI.good.ca 1 rfl) rfl ag64 h235 rfl rfl) rfl ?_
        refine lv (v := .int .i64 σ48.1) rfl (r_mv rfl h236) rfl ?_
        refine lv (v := .agg (flat [ckI x220.Block.Epoch, ckI x220.Block.Height, ckV flB x220.Block.Prev, ckV flB x220.Block.State, ckV flB x220.Block.Next, ckL s226, ckI x220.Cert.Round, ckL s227, ckI x220.Config.Epoch, ckL s228]).toArray) rfl (r_cla (off := 0) (p := 0) (m := 10) (hI.good.ca 2 rfl) rfl ag73 h238 rfl rfl) rfl ?_
        obtain ⟨x242, hx242, hF⟩ := Option.bind_eq_some_iff.1 hF
        have hsp245 := spec_31 hx242 ((hT.mono hleH12).mono hleH201) (hI.part 0) hs200 hs226 hs227 hs228
        refine fc ([]) ([.cb g5 [ckI 0, ckL Sv.nil] 64, .cb g32 [ckI σ48.2.1, ckL s200] 64, .cb g229 [ckI x220.Block.Epoch, ckI x220.Block.Height, ckV flB x220.Block.Prev, ckV flB x220.Block.State, ckV flB x220.Block.Next, ckL s226, ckI x220.Cert.Round, ckL s227, ckI x220.Config.Epoch, ckL s228] 73]) (args := [.agg (flat [ckI σ48.2.1, ckL s200]).toArray, .int .i64 σ48.1, .agg (flat [ckI x220.Block.Epoch, ckI x220.Block.Height, ckV flB x220.Block.Prev, ckV flB x220.Block.State, ckV flB x220.Block.Next, ckL s226, ckI x220.Cert.Round, ckL s227, ckI x220.Config.Epoch, ckL s228]).toArray]) fc31 rfl rfl rfl hI (argc rfl (argc rfl (argc rfl rfl))) (hsp245) ?_
        rintro _ H243 _ w244 ⟨rfl, rfl⟩ hleH243 hI
        replace hI : Inv B w244 H243 [.cb g5 [ckI 0, ckL Sv.nil] 64, .cb g32 [ckI σ48.2.1, ckL s200] 64, .cb g229 [ckI x220.Block.Epoch, ckI x220.Block.Height, ckV flB x220.Block.Prev, ckV flB x220.Block.State, ckV flB x220.Block.Next, ckL s226, ckI x220.Cert.Round, ckL s227, ckI x220.Config.Epoch, ckL s228] 73] := hI
        refine lv (v := .int .i64 x242) rfl (r_as rfl rfl) rfl ?_
        refine wend ?_
        refine wthen ?_
        refine wren (fun ρ246 eρ246 => ?_)
        have h247 : opd ρ246 52 (.tmp 1) = s2.v := (eρ246 1).trans h233
        have h248 : opd ρ246 52 (.tmp 4) = .pointer (some ⟨g5, 0 + 0, none⟩) := (eρ246 4).trans h234
        have h249 : opd ρ246 52 (.tmp 7) = .pointer (some ⟨g32, 0 + 0, none⟩) := (eρ246 7).trans h235
        have h250 : opd ρ246 52 (.tmp 9) = .int .i64 (i48 : Int) := (eρ246 9).trans h237
        have h251 : opd ρ246 52 (.tmp 10) = .pointer (some ⟨g229, 0 + 0, none⟩) := (eρ246 10).trans h238
        have h252 : opd ρ246 52 (.tmp 11) = .int .i64 x242 := eρ246 11
        have h253 : opd ρ246 52 (.tmp 21) = s2.v := (eρ246 21).trans h239
        have h254 : opd ρ246 52 (.tmp 22) = .int .i64 (a1.length : Int) := (eρ246 22).trans h240
        have h255 : opd ρ246 52 (.tmp 23) = .int .i64 (i48 : Int) := (eρ246 23).trans h241
        clear eρ246
        refine wseq ?_
        refine wreg ?_
        refine lv (v := .int .i64 x242) rfl (r_mv rfl h252) rfl ?_
        refine lv (v := .bool (decide (x242 ≠ 0))) rfl (r_neq rfl rfl rfl rfl) rfl ?_
        refine wend ?_
        refine wthen ?_
        refine wren (fun ρ256 eρ256 => ?_)
        have h257 : opd ρ256 52 (.tmp 1) = s2.v := (eρ256 1).trans h247
        have h258 : opd ρ256 52 (.tmp 4) = .pointer (some ⟨g5, 0 + 0, none⟩) := (eρ256 4).trans h248
        have h259 : opd ρ256 52 (.tmp 7) = .pointer (some ⟨g32, 0 + 0, none⟩) := (eρ256 7).trans h249
        have h260 : opd ρ256 52 (.tmp 9) = .int .i64 (i48 : Int) := (eρ256 9).trans h250
        have h261 : opd ρ256 52 (.tmp 10) = .pointer (some ⟨g229, 0 + 0, none⟩) := (eρ256 10).trans h251
        have h262 : opd ρ256 52 (.tmp 11) = .int .i64 x242 := (eρ256 11).trans h252
        have h263 : opd ρ256 52 (.tmp 21) = s2.v := (eρ256 21).trans h253
        have h264 : opd ρ256 52 (.tmp 22) = .int .i64 (a1.length : Int) := (eρ256 22).trans h254
        have h265 : opd ρ256 52 (.tmp 23) = .int .i64 (i48 : Int) := (eρ256 23).trans h255
        have h266 : opd ρ256 52 (.tmp 33) = .bool (decide (x242 ≠ 0)) := eρ256 33
        clear eρ256
        by_cases hc267 : x242 ≠ 0
        · skip
          rw [if_pos hc267] at hF
          have hbhc267 : (decide (x242 ≠ 0)) = true := decide_eq_true hc267
          refine wcT (h266.trans (congrArg Value.bool hbhc267)) ?_
          refine wseq ?_
          refine wreg ?_
          refine lv (v := .agg (flat [ckI 0, ckL Sv.nil]).toArray) rfl (r_bldk (z := [[ckI 0], [ckL Sv.nil]]) (pc := []) rfl zg64 bf64 rfl rfl rfl rfl) rfl ?_
          refine lv (v := .int .i64 (i48 : Int)) rfl (r_mv rfl h260) rfl ?_
          refine lv (v := .int .i64 x242) rfl (r_mv rfl h262) rfl ?_
          refine lst rfl (l_st (off := 0) (p := 0) (m := 2) (new := [ckI 0, ckL Sv.nil]) hI 0 rfl rfl sz64 h258 rfl rfl rfl rfl rfl) rfl ?_
          intro w268 hI
          replace hI : Inv B w268 H243 [.cb g5 [ckI 0, ckL Sv.nil] 64, .cb g32 [ckI σ48.2.1, ckL s200] 64, .cb g229 [ckI x220.Block.Epoch, ckI x220.Block.Height, ckV flB x220.Block.Prev, ckV flB x220.Block.State, ckV flB x220.Block.Next, ckL s226, ckI x220.Cert.Round, ckL s227, ckI x220.Config.Epoch, ckL s228] 73] := hI
          refine lv (v := .int .i64 (i48 : Int)) rfl (r_as rfl rfl) rfl ?_
          refine lv (v := .int .i64 x242) rfl (r_as rfl rfl) rfl ?_
          refine wend ?_
          refine wthen ?_
          refine wren (fun ρ269 eρ269 => ?_)
          have h270 : opd ρ269 52 (.tmp 4) = .pointer (some ⟨g5, 0 + 0, none⟩) := (eρ269 4).trans h258
          have h271 : opd ρ269 52 (.tmp 5) = .int .i64 (i48 : Int) := eρ269 5
          have h272 : opd ρ269 52 (.tmp 6) = .int .i64 x242 := eρ269 6
          clear eρ269
          refine wp_ret ?_
          refine thR ?_
          refine inR ?_
          refine thR ?_
          refine thR ?_
          obtain ⟨q273, hFn, hzq273⟩ := Option.map_eq_some_iff.1 hF
          clear hF
          obtain rfl := forK_inr hy48 (hb48.trans (congrArg some hzq273.symm))
          have hF0 := hF48
          try dsimp only at hF0
          have hF := hFn.trans hF0
          clear hFn hF0
          refine inR ?_
          refine thR ?_
          obtain rfl := Option.some.inj hF
          subst hB
          refine finR (rs := [.cell 4 64, .tmp 5, .tmp 6]) (vs := [.agg (flat [ckI 0, ckL Sv.nil]).toArray, .int .i64 (i48 : Int), .int .i64 x242]) rfl ⟨⟨_, h270, ld_agg (hI.good.ca 0 rfl) ag64 rfl⟩, h271, h272, trivial⟩ ?_
          exact hI.fin 0 ⟨Sv.nil, rfl, (Sl.nil _ _), rfl⟩
        · skip
          rw [if_neg hc267] at hF
          have hbhc267 : (decide (x242 ≠ 0)) = false := decide_eq_false hc267
          refine wcF (h266.trans (congrArg Value.bool hbhc267)) ?_
          refine wp_skip ?_
          refine wthen ?_
          refine dstG (H0 := H243) (L0 := keepL [true, false, true] [.cb g5 [ckI 0, ckL Sv.nil] 64, .cb g32 [ckI σ48.2.1, ckL s200] 64, .cb g229 [ckI x220.Block.Epoch, ckI x220.Block.Height, ckV flB x220.Block.Prev, ckV flB x220.Block.State, ckV flB x220.Block.Next, ckL s226, ckI x220.Cert.Round, ckL s227, ckI x220.Config.Epoch, ckL s228] 73]) [] mixed rfl (by repeat (first | exact Pan.body | refine Pan.then ?_ | refine Pan.inBlock ?_ | refine Pan.noGoto ?_ | refine Pan.pure ?_)) hI (hI.good.weakm _ (Hle.refl _) rfl) ?_
          intro w274 hI hP
          refine dp (v := .pointer (some ⟨g229, 0 + 101, none⟩)) 0 (by kernel_rfl) rfl rfl (fun _ => l_fa (j := 0) (i := 0) rfl fl73_2 h261 rfl) rfl hP ?_
          refine dp (v := .pointer (some ⟨g229, 0 + 0, none⟩)) 2 (by kernel_rfl) rfl rfl (fun _ => l_fa (j := 0) (i := 0) rfl fl73_0 h261 rfl) rfl hP ?_
          refine dp (v := .pointer (some ⟨g229, 0 + 1, none⟩)) 3 (by kernel_rfl) rfl rfl (fun _ => l_fa (j := 0) (i := 0) rfl fl69_1 rfl rfl) rfl hP ?_
          refine dr (v := .agg (flat [ckI x220.Config.Epoch, ckL s228]).toArray) 1 (by kernel_rfl) rfl rfl (hI.good.weakm [true, false, true] (Hle.refl _) rfl) (fun _ hG => r_cla (off := 101) (p := 8) (m := 2) (hG.ca 1 rfl) rfl ag64 rfl rfl rfl) rfl hP ?_
          refine dr (v := .int .i64 x220.Block.Height) 4 (by kernel_rfl) rfl rfl (hI.good.weakm [true, false, true] (Hle.refl _) rfl) (fun _ hG => r_cl1 (off := 1) (p := 1) (hG.ca 1 rfl) rfl sc3 rfl rfl rfl) rfl hP ?_
          refine dst 5 (by kernel_rfl) rfl rfl rfl (l_st (off := 0) (p := 0) (m := 2) (new := [ckI x220.Config.Epoch, ckL s228]) hI 1 rfl rfl sz64 h259 rfl rfl rfl rfl rfl) rfl ?_
          intro w275 hI
          replace hI : Inv B w275 H243 [.cb g5 [ckI 0, ckL Sv.nil] 64, .cb g32 [ckI x220.Config.Epoch, ckL s228] 64, .cb g229 [ckI x220.Block.Epoch, ckI x220.Block.Height, ckV flB x220.Block.Prev, ckV flB x220.Block.State, ckV flB x220.Block.Next, ckL s226, ckI x220.Cert.Round, ckL s227, ckI x220.Config.Epoch, ckL s228] 73] := hI
          refine ⟨(hI.good.weakm [true, false, true] (Hle.refl _) rfl), ?_⟩
          refine dp (v := .int .i64 x220.Block.Height) 6 (by kernel_rfl) rfl rfl (fun _ => r_as rfl rfl) rfl hP ?_
          refine dend (by kernel_rfl) ?_
          refine inN ?_
          refine wthen ?_
          refine wren (fun ρ276 eρ276 => ?_)
          have h277 : opd ρ276 52 (.tmp 1) = s2.v := (eρ276 1).trans h257
          have h278 : opd ρ276 52 (.tmp 4) = .pointer (some ⟨g5, 0 + 0, none⟩) := (eρ276 4).trans h258
          have h279 : opd ρ276 52 (.tmp 7) = .pointer (some ⟨g32, 0 + 0, none⟩) := (eρ276 7).trans h259
          have h280 : opd ρ276 52 (.tmp 8) = .int .i64 x220.Block.Height := eρ276 8
          have h281 : opd ρ276 52 (.tmp 21) = s2.v := (eρ276 21).trans h263
          have h282 : opd ρ276 52 (.tmp 22) = .int .i64 (a1.length : Int) := (eρ276 22).trans h264
          have h283 : opd ρ276 52 (.tmp 23) = .int .i64 (i48 : Int) := (eρ276 23).trans h265
          clear eρ276
          refine wreg ?_
          refine lv (v := .int .i64 ((i48 + 1 : Nat) : Int)) rfl (r_addn rfl h283 rfl hlt48) rfl ?_
          refine lv (v := .int .i64 ((i48 + 1 : Nat) : Int)) rfl (r_mv rfl rfl) rfl ?_
          refine wend ?_
          obtain rfl := Option.some.inj hF
          exact ⟨k48, (x220.Block.Height, x220.Config.Epoch, x220.Config.Members), _, rfl, rfl, ⟨H243, s228, (hleH201.trans hleH243), h277, h278, h279, h280, h281, h282, rfl, (hs228.mono hleH243), (hI.keep [true, true, false])⟩, forK_inl hy48 hb48⟩
      · skip
        have hbhc211 : (decide ((i48 : Int) < (a1.length : Int))) = false := decide_eq_false hc211
        obtain rfl : k48 = 0 := by omega
        obtain rfl := forK_end hy48
        have hF := hF48
        try dsimp only at hF
        refine wcF ((show opd _ _ _ = _ from rfl).trans (congrArg Value.bool hbhc211)) ?_
        refine wp_exit ?_
        refine thE ?_
        refine thE ?_
        refine inX ?_
        refine wthen ?_
        refine wren (fun ρ284 eρ284 => ?_)
        have h285 : opd ρ284 52 (.tmp 1) = s2.v := (eρ284 1).trans h202
        have h286 : opd ρ284 52 (.tmp 4) = .pointer (some ⟨g5, 0 + 0, none⟩) := (eρ284 4).trans h203
        have h287 : opd ρ284 52 (.tmp 7) = .pointer (some ⟨g32, 0 + 0, none⟩) := (eρ284 7).trans h204
        clear eρ284
        refine wseq ?_
        refine dstG (H0 := H201) (L0 := keepL [true, true] [.cb g5 [ckI 0, ckL Sv.nil] 64, .cb g32 [ckI σ48.2.1, ckL s200] 64]) [9] mixed rfl (by repeat (first | exact Pan.body | refine Pan.then ?_ | refine Pan.inBlock ?_ | refine Pan.noGoto ?_ | refine Pan.pure ?_)) hI (hI.good.weakm _ (Hle.refl _) rfl) ?_
        intro w288 hI hP
        refine dp (v := .pointer (some ⟨g32, 0 + 0, none⟩)) 0 (by kernel_rfl) rfl rfl (fun _ => l_fa (j := 0) (i := 0) rfl fl64_0 h287 rfl) rfl hP ?_
        refine dp (v := .pointer (some ⟨g32, 0 + 1, none⟩)) 3 (by kernel_rfl) rfl rfl (fun _ => l_fa (j := 0) (i := 0) rfl fl64_1 h287 rfl) rfl hP ?_
        refine dp (v := s2.v) 7 (by kernel_rfl) rfl rfl (fun _ => r_mv rfl h285) rfl hP ?_
        refine dp (v := .int .i64 (a1.length : Int)) 8 (by kernel_rfl) rfl rfl (fun _ => r_lenS rfl sl65 rfl ((hs2.mono hleH12).mono hleH201)) rfl hP ?_
        refine dr (v := .int .i64 σ48.2.1) 1 (by kernel_rfl) rfl rfl (hI.good.weakm [true, true] (Hle.refl _) rfl) (fun _ hG => r_cl1 (off := 0) (p := 0) (hG.ca 1 rfl) rfl sc3 rfl rfl rfl) rfl hP ?_
        refine dr (v := s200.v) 4 (by kernel_rfl) rfl rfl (hI.good.weakm [true, true] (Hle.refl _) rfl) (fun _ hG => r_cl1 (off := 1) (p := 1) (hG.ca 1 rfl) rfl sc62 rfl rfl rfl) rfl hP ?_
        refine de 2 (by kernel_rfl) rfl rfl rfl (l_bs (t := (Fl.ty fl_Member)) (vs := []) (xs := []) hI rfl sl62 inf114 rfl rfl rfl .nil rfl) rfl ?_
        rintro _ w291 ⟨s289, H290, rfl, hI, hleH290, hs289, hfs289, hgs289⟩
        refine ⟨(hI.good.weakm [true, true] hleH290 rfl), ?_⟩
        replace hI := Inv.full (e := 114) (sz := 34) hI (show s289.n = s289.c from hfs289)
        replace hI : Inv B w291 H290 [.cb g5 [ckI 0, ckL Sv.nil] 64, .cb g32 [ckI σ48.2.1, ckL s200] 64, .own s289 114 34 none] := hI
        obtain ⟨x293, hx293, hF⟩ := Option.bind_eq_some_iff.1 hF
        refine de 5 (by kernel_rfl) rfl rfl rfl (l_app (t := (Fl.ty fl_Member)) hI 2 rfl rfl sl62 inf114 rfl rfl rfl rfl hs289 (hs200.mono hleH290) (appI_some hx293).1) rfl ?_
        rintro _ w297 ⟨s294, H295, gg296, rfl, hI, hleH295, hs294⟩
        rw [← (appI_some hx293).2] at hs294
        replace hI : Inv B w297 H295 [.cb g5 [ckI 0, ckL Sv.nil] 64, .cb g32 [ckI σ48.2.1, ckL s200] 64, .own s294 114 34 gg296] := hI
        refine ⟨(hI.good.weakm [true, true, false] (hleH290.trans hleH295) rfl), ?_⟩
        refine dp (v := .agg (flat [ckI σ48.2.1, ckL s294]).toArray) 6 (by kernel_rfl) rfl rfl (fun _ => r_bldk (z := [[ckI 0], [ckL Sv.nil]]) (pc := [(0, [ckI σ48.2.1]), (1, [ckL s294])]) rfl zg64 bf64 rfl (argc (congrArg Value.cells rfl) (argc (congrArg Value.cells rfl) rfl)) rfl rfl) rfl hP ?_
        refine dsl 9 (by kernel_rfl) rfl rfl rfl (l_st (off := 0) (p := 0) (m := 2) (new := [ckI σ48.2.1, ckL s294]) hI 0 rfl rfl sz64 h286 rfl rfl rfl rfl rfl) rfl ?_
        intro w298 hI
        replace hI : Inv B w298 H295 [.cb g5 [ckI σ48.2.1, ckL s294] 64, .cb g32 [ckI σ48.2.1, ckL s200] 64, .own s294 114 34 gg296] := hI
        refine dp (v := .int .i64 (a1.length : Int)) 10 (by kernel_rfl) rfl rfl (fun _ => r_as rfl rfl) rfl hP ?_
        refine dp (v := .int .i64 0) 11 (by kernel_rfl) rfl rfl (fun _ => r_as rfl rfl) rfl hP ?_
        refine dend (by kernel_rfl) ?_
        refine wthen ?_
        refine wren (fun ρ299 eρ299 => ?_)
        have h300 : opd ρ299 52 (.tmp 4) = .pointer (some ⟨g5, 0 + 0, none⟩) := (eρ299 4).trans h286
        have h301 : opd ρ299 52 (.tmp 5) = .int .i64 (a1.length : Int) := eρ299 5
        have h302 : opd ρ299 52 (.tmp 6) = .int .i64 0 := eρ299 6
        clear eρ299
        refine wp_ret ?_
        obtain rfl := Option.some.inj hF
        subst hB
        refine finR (rs := [.cell 4 64, .tmp 5, .tmp 6]) (vs := [.agg (flat [ckI σ48.2.1, ckL s294]).toArray, .int .i64 (a1.length : Int), .int .i64 0]) rfl ⟨⟨_, h300, ld_agg (hI.good.ca 0 rfl) ag64 rfl⟩, h301, h302, trivial⟩ ?_
        exact hI.fin 0 ⟨s294, rfl, hs294, rfl⟩
  · skip
    rw [if_neg hc20] at hF
    have hbhc20 : (!x11) = true := (by rw [(Bool.eq_false_iff.2 hc20)]; rfl)
    refine wcT (h19.trans (congrArg Value.bool hbhc20)) ?_
    refine wseq ?_
    refine wreg ?_
    refine lv (v := .agg (flat [ckI 0, ckL Sv.nil]).toArray) rfl (r_bldk (z := [[ckI 0], [ckL Sv.nil]]) (pc := []) rfl zg64 bf64 rfl rfl rfl rfl) rfl ?_
    refine lst rfl (l_st (off := 0) (p := 0) (m := 2) (new := [ckI 0, ckL Sv.nil]) hI 1 rfl rfl sz64 h18 rfl rfl rfl rfl rfl) rfl ?_
    intro w303 hI
    replace hI : Inv B w303 H12 [.cb g3 [ckI a0.Epoch, ckL s1] 64, .cb g5 [ckI 0, ckL Sv.nil] 64] := hI
    refine lv (v := .int .i64 0) rfl (r_as rfl rfl) rfl ?_
    refine lv (v := .int .i64 1) rfl (r_as rfl rfl) rfl ?_
    refine wend ?_
    refine wthen ?_
    refine wren (fun ρ304 eρ304 => ?_)
    have h305 : opd ρ304 52 (.tmp 4) = .pointer (some ⟨g5, 0 + 0, none⟩) := (eρ304 4).trans h18
    have h306 : opd ρ304 52 (.tmp 5) = .int .i64 0 := eρ304 5
    have h307 : opd ρ304 52 (.tmp 6) = .int .i64 1 := eρ304 6
    clear eρ304
    refine wp_ret ?_
    refine thR ?_
    obtain rfl := Option.some.inj hF
    subst hB
    refine finR (rs := [.cell 4 64, .tmp 5, .tmp 6]) (vs := [.agg (flat [ckI 0, ckL Sv.nil]).toArray, .int .i64 0, .int .i64 1]) rfl ⟨⟨_, h305, ld_agg (hI.good.ca 1 rfl) ag64 rfl⟩, h306, h307, trivial⟩ ?_
    exact hI.fin 0 ⟨Sv.nil, rfl, (Sl.nil _ _), rfl⟩
noncomputable def M_wapentakelaw15_alive  : Option (Bool) := ((M_chain_Check (⟨0, [(⟨1, (⟨(Vec.rep 32 0), 0⟩ : Key)⟩ : Member)]⟩ : Config) []).bind fun x10 => (if x10.2.2 = 0 then (if x10.2.1 = 0 then (if (x10.1.Members.length : Int) = 1 then ((M_chain_Step (⟨0, [(⟨1, (⟨(Vec.rep 32 0), 0⟩ : Key)⟩ : Member)]⟩ : Config) 0 (⟨(⟨0, 0, (Vec.rep 32 0), (Vec.rep 32 0), (Vec.rep 32 0), []⟩ : Block), (⟨0, []⟩ : Cert), (⟨0, []⟩ : Config)⟩ : Link)).bind fun x26 => some (decide (x26 = 12))) else some false) else some false) else some false))
set_option maxHeartbeats 4000000 in
theorem spec_29 {w : World} {H : Hp}   {r : Bool} (hF : M_wapentakelaw15_alive  = some r) (hT : Tab H) (hG : Good w H [])  :
    Fine Tryd.prog 29 [] w H [] (fun H' v L' => v = .bool r ∧ L' = []) := by
  unfold M_wapentakelaw15_alive at hF
  unfold Fine
  obtain ⟨B, hB⟩ : ∃ B : Base, B = ⟨w, H, blks []⟩ := ⟨_, rfl⟩
  have hI : Inv B w H [] := by rw [hB]; exact Inv.start hG
  refine enter (n := 32) (args := []) Tryd.func29 rfl Tryd.ntmps29 (Nat.le_of_ble_eq_true rfl) ?_
  refine wseq ?_
  refine wreg ?_
  refine lv (v := .bool false) rfl (r_as rfl rfl) rfl ?_
  refine wend ?_
  refine wthen ?_
  refine wren (fun ρ1 eρ1 => ?_)
  clear eρ1
  refine wseq ?_
  refine wreg ?_
  refine lv (v := .agg (flat [ckI 1, ckV flB (Vec.rep 32 0), ckI 0]).toArray) rfl (r_bldk (z := [[ckI 0], [ckV flB (Vec.rep 32 0), ckI 0]]) (pc := [(0, [ckI 1])]) rfl zg114 bf114 rfl (argc (congrArg Value.cells rfl) rfl) rfl rfl) rfl ?_
  refine le rfl (l_bs (t := (Fl.ty fl_Member)) (vs := [.agg (flat [ckI 1, ckV flB (Vec.rep 32 0), ckI 0]).toArray]) (xs := [(⟨1, (⟨(Vec.rep 32 0), 0⟩ : Key)⟩ : Member)]) hI rfl sl62 inf114 rfl rfl (argc rfl rfl) (.cons rfl rfl .nil) rfl) rfl ?_
  rintro _ w4 ⟨s2, H3, rfl, hI, hleH3, hs2, hfs2, hgs2⟩
  refine lv (v := .agg (flat [ckI 0, ckL s2]).toArray) rfl (r_bldk (z := [[ckI 0], [ckL Sv.nil]]) (pc := [(1, [ckL s2])]) rfl zg64 bf64 rfl (argc (congrArg Value.cells rfl) rfl) rfl rfl) rfl ?_
  refine le rfl (l_al hI rfl ze64) rfl ?_
  rintro _ w6 ⟨g5, rfl, hI⟩
  replace hI : Inv B w6 H3 [.cb g5 [ckI 0, ckL Sv.nil] 64] := hI
  refine lst rfl (l_st (off := 0) (p := 0) (m := 2) (new := [ckI 0, ckL s2]) hI 0 rfl rfl sz64 rfl rfl rfl rfl rfl rfl) rfl ?_
  intro w7 hI
  replace hI : Inv B w7 H3 [.cb g5 [ckI 0, ckL s2] 64] := hI
  refine wend ?_
  refine wthen ?_
  refine wren (fun ρ8 eρ8 => ?_)
  have h9 : opd ρ8 32 (.tmp 1) = .pointer (some ⟨g5, 0 + 0, none⟩) := eρ8 1
  clear eρ8
  refine wseq ?_
  refine wreg ?_
  refine lv (v := .agg (flat [ckI 0, ckL s2]).toArray) rfl (r_cla (off := 0) (p := 0) (m := 2) (hI.good.ca 0 rfl) rfl ag64 h9 rfl rfl) rfl ?_
  obtain ⟨x10, hx10, hF⟩ := Option.bind_eq_some_iff.1 hF
  have hsp13 := spec_33 hx10 (hT.mono hleH3) (hI.part 0) hs2 (Sl.nil _ _)
  refine fc ([]) ([.cb g5 [ckI 0, ckL s2] 64]) (args := [.agg (flat [ckI 0, ckL s2]).toArray, Sv.nil.v]) fc33 rfl rfl rfl hI (argc rfl (argc rfl rfl)) (hsp13) ?_
  rintro _ H11 _ w12 ⟨s14, rfl, hs14, rfl⟩ hleH11 hI
  replace hI : Inv B w12 H11 [.cb g5 [ckI 0, ckL s2] 64] := hI
  refine lv (v := .tuple #[.agg (flat [ckI x10.1.Epoch, ckL s14]).toArray, .int .i64 x10.2.1, .int .i64 x10.2.2]) rfl (r_mv rfl rfl) rfl ?_
  refine lv (v := .agg (flat [ckI x10.1.Epoch, ckL s14]).toArray) rfl (r_ext rfl rfl rfl) rfl ?_
  refine lv (v := .int .i64 x10.2.1) rfl (r_ext rfl rfl rfl) rfl ?_
  refine lv (v := .int .i64 x10.2.2) rfl (r_ext rfl rfl rfl) rfl ?_
  refine le rfl (l_al hI rfl ze64) rfl ?_
  rintro _ w16 ⟨g15, rfl, hI⟩
  replace hI : Inv B w16 H11 [.cb g5 [ckI 0, ckL s2] 64, .cb g15 [ckI 0, ckL Sv.nil] 64] := hI
  refine lst rfl (l_st (off := 0) (p := 0) (m := 2) (new := [ckI x10.1.Epoch, ckL s14]) hI 1 rfl rfl sz64 rfl rfl rfl rfl rfl rfl) rfl ?_
  intro w17 hI
  replace hI : Inv B w17 H11 [.cb g5 [ckI 0, ckL s2] 64, .cb g15 [ckI x10.1.Epoch, ckL s14] 64] := hI
  refine lv (v := .int .i64 x10.2.1) rfl (r_as rfl rfl) rfl ?_
  refine lv (v := .int .i64 x10.2.2) rfl (r_as rfl rfl) rfl ?_
  refine wend ?_
  refine wthen ?_
  refine wren (fun ρ18 eρ18 => ?_)
  have h19 : opd ρ18 32 (.tmp 1) = .pointer (some ⟨g5, 0 + 0, none⟩) := (eρ18 1).trans h9
  have h20 : opd ρ18 32 (.tmp 2) = .pointer (some ⟨g15, 0 + 0, none⟩) := eρ18 2
  have h21 : opd ρ18 32 (.tmp 3) = .int .i64 x10.2.1 := eρ18 3
  have h22 : opd ρ18 32 (.tmp 4) = .int .i64 x10.2.2 := eρ18 4
  clear eρ18
  refine wseq ?_
  refine wreg ?_
  refine lv (v := .int .i64 x10.2.2) rfl (r_mv rfl h22) rfl ?_
  refine lv (v := .bool (decide (x10.2.2 = 0))) rfl (r_eql rfl rfl rfl rfl) rfl ?_
  by_cases hc23 : x10.2.2 = 0
  · skip
    rw [if_pos hc23] at hF
    have hbhc23 : (decide (x10.2.2 = 0)) = true := decide_eq_true hc23
    refine lv (v := .bool true) rfl (r_mv rfl ((show opd _ _ _ = _ from rfl).trans (congrArg Value.bool hbhc23))) rfl ?_
    refine lv (v := .int .i64 x10.2.1) rfl (r_mv rfl h21) rfl ?_
    refine lv (v := .bool (decide (x10.2.1 = 0))) rfl (r_eql rfl rfl rfl rfl) rfl ?_
    refine lv (v := .bool (decide (x10.2.1 = 0))) rfl (r_pkT rfl rfl rfl) rfl ?_
    by_cases hc24 : x10.2.1 = 0
    · skip
      rw [if_pos hc24] at hF
      have hbhc24 : (decide (x10.2.1 = 0)) = true := decide_eq_true hc24
      refine lv (v := .bool true) rfl (r_mv rfl ((show opd _ _ _ = _ from rfl).trans (congrArg Value.bool hbhc24))) rfl ?_
      refine lv (v := .pointer (some ⟨g15, 0 + 1, none⟩)) rfl (l_fa (j := 0) (i := 0) rfl fl64_1 h20 rfl) rfl ?_
      refine lv (v := s14.v) rfl (r_cl1 (off := 1) (p := 1) (hI.good.ca 1 rfl) rfl sc62 rfl rfl rfl) rfl ?_
      refine lv (v := .int .i64 (x10.1.Members.length : Int)) rfl (r_lenS rfl sl62 rfl hs14) rfl ?_
      refine lv (v := .bool (decide ((x10.1.Members.length : Int) = 1))) rfl (r_eql rfl rfl rfl rfl) rfl ?_
      refine lv (v := .bool (decide ((x10.1.Members.length : Int) = 1))) rfl (r_pkT rfl rfl rfl) rfl ?_
      by_cases hc25 : (x10.1.Members.length : Int) = 1
      · skip
        rw [if_pos hc25] at hF
        have hbhc25 : (decide ((x10.1.Members.length : Int) = 1)) = true := decide_eq_true hc25
        refine lv (v := .bool true) rfl (r_mv rfl ((show opd _ _ _ = _ from rfl).trans (congrArg Value.bool hbhc25))) rfl ?_
        refine lv (v := .agg (flat [ckI 0, ckL s2]).toArray) rfl (r_cla (off := 0) (p := 0) (m := 2) (hI.good.ca 0 rfl) rfl ag64 h19 rfl rfl) rfl ?_
        refine lv (v := .agg (flat [ckI 0, ckI 0, ckV flB (Vec.rep 32 0), ckV flB (Vec.rep 32 0), ckV flB (Vec.rep 32 0), ckL Sv.nil, ckI 0, ckL Sv.nil, ckI 0, ckL Sv.nil]).toArray) rfl (r_bldk (z := [[ckI 0, ckI 0, ckV flB (Vec.rep 32 0), ckV flB (Vec.rep 32 0), ckV flB (Vec.rep 32 0), ckL Sv.nil], [ckI 0, ckL Sv.nil], [ckI 0, ckL Sv.nil]]) (pc := []) rfl zg73 bf73 rfl rfl rfl rfl) rfl ?_
        obtain ⟨x26, hx26, hF⟩ := Option.bind_eq_some_iff.1 hF
        have hsp29 := spec_31 hx26 ((hT.mono hleH3).mono hleH11) (hI.part 0) (hs2.mono hleH11) (Sl.nil _ _) (Sl.nil _ _) (Sl.nil _ _)
        refine fc ([]) ([.cb g5 [ckI 0, ckL s2] 64, .cb g15 [ckI x10.1.Epoch, ckL s14] 64]) (args := [.agg (flat [ckI 0, ckL s2]).toArray, .int .i64 0, .agg (flat [ckI 0, ckI 0, ckV flB (Vec.rep 32 0), ckV flB (Vec.rep 32 0), ckV flB (Vec.rep 32 0), ckL Sv.nil, ckI 0, ckL Sv.nil, ckI 0, ckL Sv.nil]).toArray]) fc31 rfl rfl rfl hI (argc rfl (argc rfl (argc rfl rfl))) (hsp29) ?_
        rintro _ H27 _ w28 ⟨rfl, rfl⟩ hleH27 hI
        replace hI : Inv B w28 H27 [.cb g5 [ckI 0, ckL s2] 64, .cb g15 [ckI x10.1.Epoch, ckL s14] 64] := hI
        refine lv (v := .bool (decide (x26 = 12))) rfl (r_eql rfl rfl rfl rfl) rfl ?_
        refine lv (v := .bool (decide (x26 = 12))) rfl (r_pkT rfl rfl rfl) rfl ?_
        refine lv (v := .bool (decide (x26 = 12))) rfl (r_as rfl rfl) rfl ?_
        refine wend ?_
        refine wthen ?_
        refine wren (fun ρ30 eρ30 => ?_)
        have h31 : opd ρ30 32 (.tmp 0) = .bool (decide (x26 = 12)) := eρ30 0
        clear eρ30
        refine wp_ret ?_
        obtain rfl := Option.some.inj hF
        subst hB
        refine finR (rs := [.tmp 0]) (vs := [.bool (decide (x26 = 12))]) rfl ⟨h31, trivial⟩ ?_
        exact hI.fin 0 ⟨rfl, rfl⟩
      · skip
        rw [if_neg hc25] at hF
        have hbhc25 : (decide ((x10.1.Members.length : Int) = 1)) = false := decide_eq_false hc25
        refine lv (v := .bool false) rfl (r_mv rfl ((show opd _ _ _ = _ from rfl).trans (congrArg Value.bool hbhc25))) rfl ?_
        with_reducible refine lx (d := 27) (by kernel_rfl) (by kernel_rfl) ?_
        with_reducible refine lx (d := 28) (by kernel_rfl) (by kernel_rfl) ?_
        with_reducible refine lx (d := 29) (by kernel_rfl) (by kernel_rfl) ?_
        with_reducible refine lx (d := 30) (by kernel_rfl) (by kernel_rfl) ?_
        refine lv (v := .bool false) rfl (r_pkF rfl rfl rfl) rfl ?_
        refine lv (v := .bool false) rfl (r_as rfl rfl) rfl ?_
        refine wend ?_
        refine wthen ?_
        refine wren (fun ρ32 eρ32 => ?_)
        have h33 : opd ρ32 32 (.tmp 0) = .bool false := eρ32 0
        clear eρ32
        refine wp_ret ?_
        obtain rfl := Option.some.inj hF
        subst hB
        refine finR (rs := [.tmp 0]) (vs := [.bool false]) rfl ⟨h33, trivial⟩ ?_
        exact hI.fin 0 ⟨rfl, rfl⟩
    · skip
      rw [if_neg hc24] at hF
      have hbhc24 : (decide (x10.2.1 = 0)) = false := decide_eq_false hc24
      refine lv (v := .bool false) rfl (r_mv rfl ((show opd _ _ _ = _ from rfl).trans (congrArg Value.bool hbhc24))) rfl ?_
      with_reducible refine lx (d := 21) (by kernel_rfl) (by kernel_rfl) ?_
      with_reducible refine lx (d := 22) (by kernel_rfl) (by kernel_rfl) ?_
      with_reducible refine lx (d := 23) (by kernel_rfl) (by kernel_rfl) ?_
      with_reducible refine lx (d := 24) (by kernel_rfl) (by kernel_rfl) ?_
      refine lv (v := .bool false) rfl (r_pkF rfl rfl rfl) rfl ?_
      refine lv (v := .bool false) rfl (r_mv rfl rfl) rfl ?_
      with_reducible refine lx (d := 27) (by kernel_rfl) (by kernel_rfl) ?_
      with_reducible refine lx (d := 28) (by kernel_rfl) (by kernel_rfl) ?_
      with_reducible refine lx (d := 29) (by kernel_rfl) (by kernel_rfl) ?_
      with_reducible refine lx (d := 30) (by kernel_rfl) (by kernel_rfl) ?_
      refine lv (v := .bool false) rfl (r_pkF rfl rfl rfl) rfl ?_
      refine lv (v := .bool false) rfl (r_as rfl rfl) rfl ?_
      refine wend ?_
      refine wthen ?_
      refine wren (fun ρ34 eρ34 => ?_)
      have h35 : opd ρ34 32 (.tmp 0) = .bool false := eρ34 0
      clear eρ34
      refine wp_ret ?_
      obtain rfl := Option.some.inj hF
      subst hB
      refine finR (rs := [.tmp 0]) (vs := [.bool false]) rfl ⟨h35, trivial⟩ ?_
      exact hI.fin 0 ⟨rfl, rfl⟩
  · skip
    rw [if_neg hc23] at hF
    have hbhc23 : (decide (x10.2.2 = 0)) = false := decide_eq_false hc23
    refine lv (v := .bool false) rfl (r_mv rfl ((show opd _ _ _ = _ from rfl).trans (congrArg Value.bool hbhc23))) rfl ?_
    with_reducible refine lx (d := 17) (by kernel_rfl) (by kernel_rfl) ?_
    with_reducible refine lx (d := 18) (by kernel_rfl) (by kernel_rfl) ?_
    refine lv (v := .bool false) rfl (r_pkF rfl rfl rfl) rfl ?_
    refine lv (v := .bool false) rfl (r_mv rfl rfl) rfl ?_
    with_reducible refine lx (d := 21) (by kernel_rfl) (by kernel_rfl) ?_
    with_reducible refine lx (d := 22) (by kernel_rfl) (by kernel_rfl) ?_
    with_reducible refine lx (d := 23) (by kernel_rfl) (by kernel_rfl) ?_
    with_reducible refine lx (d := 24) (by kernel_rfl) (by kernel_rfl) ?_
    refine lv (v := .bool false) rfl (r_pkF rfl rfl rfl) rfl ?_
    refine lv (v := .bool false) rfl (r_mv rfl rfl) rfl ?_
    with_reducible refine lx (d := 27) (by kernel_rfl) (by kernel_rfl) ?_
    with_reducible refine lx (d := 28) (by kernel_rfl) (by kernel_rfl) ?_
    with_reducible refine lx (d := 29) (by kernel_rfl) (by kernel_rfl) ?_
    with_reducible refine lx (d := 30) (by kernel_rfl) (by kernel_rfl) ?_
    refine lv (v := .bool false) rfl (r_pkF rfl rfl rfl) rfl ?_
    refine lv (v := .bool false) rfl (r_as rfl rfl) rfl ?_
    refine wend ?_
    refine wthen ?_
    refine wren (fun ρ36 eρ36 => ?_)
    have h37 : opd ρ36 32 (.tmp 0) = .bool false := eρ36 0
    clear eρ36
    refine wp_ret ?_
    obtain rfl := Option.some.inj hF
    subst hB
    refine finR (rs := [.tmp 0]) (vs := [.bool false]) rfl ⟨h37, trivial⟩ ?_
    exact hI.fin 0 ⟨rfl, rfl⟩
noncomputable def M_wapentakelaw15_great (a0 : Config) (a1 : List Link) : Option (Bool) := (if (20 : Int) < (a0.Members.length : Int) then some true else (if (6 : Int) < (a1.length : Int) then some true else ((forK (fun (i24 : Nat) (σ24 : Unit) => (((a1[i24]?).bind fun x241 => (if (20 : Int) < (x241.Config.Members.length : Int) then ((some true).map Sum.inr) else (if (12 : Int) < (x241.Cert.Votes.length : Int) then ((some true).map Sum.inr) else ((M_wapentakeref12_Great x241.Block 4096).bind fun x278 => (if x278 = true then ((some true).map Sum.inr) else ((forK (fun (i299 : Nat) (σ299 : Unit) => (((x241.Cert.Votes[i299]?).bind fun x381 => (if (200 : Int) < (x381.Sig.Once.Open.length : Int) then ((((some true).map Sum.inr)).map Sum.inr) else (if (200 : Int) < (x381.Sig.Once.Shut.length : Int) then ((((some true).map Sum.inr)).map Sum.inr) else (if (200 : Int) < (x381.Sig.Path.length : Int) then ((((some true).map Sum.inr)).map Sum.inr) else some (.inl ()))))) : Option (Unit ⊕ (Unit ⊕ Bool)))) x241.Cert.Votes.length 0 ()).bind fun y => match y with | .inl _ => some (.inl ()) | .inr r => some r)))))) : Option (Unit ⊕ Bool))) a1.length 0 ()).bind fun y => match y with | .inl _ => some false | .inr r => some r)))
set_option maxHeartbeats 4000000 in
theorem spec_30 {w : World} {H : Hp} {a0 : Config} {a1 : List Link} {s1 : Sv} {s2 : Sv} {r : Bool} (hF : M_wapentakelaw15_great a0 a1 = some r) (hT : Tab H) (hG : Good w H []) (hs1 : Sl (Fl.ty fl_Member) H s1 a0.Members) (hs2 : Sl ty_Link H s2 a1) :
    Fine Tryd.prog 30 [.agg (flat [ckI a0.Epoch, ckL s1]).toArray, s2.v] w H [] (fun H' v L' => v = .bool r ∧ L' = []) := by
  unfold M_wapentakelaw15_great at hF
  unfold Fine
  obtain ⟨B, hB⟩ : ∃ B : Base, B = ⟨w, H, blks []⟩ := ⟨_, rfl⟩
  have hI : Inv B w H [] := by rw [hB]; exact Inv.start hG
  refine enter (n := 72) (args := [.agg (flat [ckI a0.Epoch, ckL s1]).toArray, s2.v]) Tryd.func30 rfl Tryd.ntmps30 (Nat.le_of_ble_eq_true rfl) ?_
  refine wseq ?_
  refine wreg ?_
  refine le rfl (l_box (cks := [ckI a0.Epoch, ckL s1]) hI rfl rfl rfl) rfl ?_
  rintro _ w4 ⟨g3, rfl, hI⟩
  replace hI : Inv B w4 H [.cb g3 [ckI a0.Epoch, ckL s1] 64] := hI
  refine lv (v := .bool false) rfl (r_as rfl rfl) rfl ?_
  refine wend ?_
  refine wthen ?_
  refine wren (fun ρ5 eρ5 => ?_)
  have h6 : opd ρ5 72 (.tmp 1) = s2.v := eρ5 1
  have h7 : opd ρ5 72 (.tmp 2) = .pointer (some ⟨g3, 0 + 0, none⟩) := eρ5 2
  clear eρ5
  refine wseq ?_
  refine wseq ?_
  refine wreg ?_
  refine lv (v := .pointer (some ⟨g3, 0 + 1, none⟩)) rfl (l_fa (j := 0) (i := 0) rfl fl64_1 h7 rfl) rfl ?_
  refine lv (v := s1.v) rfl (r_cl1 (off := 1) (p := 1) (hI.good.ca 0 rfl) rfl sc62 rfl rfl rfl) rfl ?_
  refine lv (v := .int .i64 (a0.Members.length : Int)) rfl (r_lenS rfl sl62 rfl hs1) rfl ?_
  refine lv (v := .bool (decide ((20 : Int) < (a0.Members.length : Int)))) rfl (r_gtr rfl rfl rfl rfl) rfl ?_
  by_cases hc8 : (20 : Int) < (a0.Members.length : Int)
  · skip
    rw [if_pos hc8] at hF
    have hbhc8 : (decide ((20 : Int) < (a0.Members.length : Int))) = true := decide_eq_true hc8
    refine lv (v := .bool true) rfl (r_mv rfl ((show opd _ _ _ = _ from rfl).trans (congrArg Value.bool hbhc8))) rfl ?_
    with_reducible refine lx (d := 14) (by kernel_rfl) (by kernel_rfl) ?_
    with_reducible refine lx (d := 15) (by kernel_rfl) (by kernel_rfl) ?_
    with_reducible refine lx (d := 16) (by kernel_rfl) (by kernel_rfl) ?_
    refine lv (v := .bool true) rfl (r_pkT rfl rfl rfl) rfl ?_
    refine wend ?_
    refine wthen ?_
    refine wren (fun ρ9 eρ9 => ?_)
    have h10 : opd ρ9 72 (.tmp 1) = s2.v := (eρ9 1).trans h6
    have h11 : opd ρ9 72 (.tmp 17) = .bool true := eρ9 17
    clear eρ9
    refine wcT h11 ?_
    refine wseq ?_
    refine wreg ?_
    refine lv (v := .bool true) rfl (r_as rfl rfl) rfl ?_
    refine wend ?_
    refine wthen ?_
    refine wren (fun ρ12 eρ12 => ?_)
    have h13 : opd ρ12 72 (.tmp 4) = .bool true := eρ12 4
    clear eρ12
    refine wp_ret ?_
    refine thR ?_
    obtain rfl := Option.some.inj hF
    subst hB
    refine finR (rs := [.tmp 4]) (vs := [.bool true]) rfl ⟨h13, trivial⟩ ?_
    exact hI.fin 0 ⟨rfl, rfl⟩
  · skip
    rw [if_neg hc8] at hF
    have hbhc8 : (decide ((20 : Int) < (a0.Members.length : Int))) = false := decide_eq_false hc8
    refine lv (v := .bool false) rfl (r_mv rfl ((show opd _ _ _ = _ from rfl).trans (congrArg Value.bool hbhc8))) rfl ?_
    refine lv (v := s2.v) rfl (r_mv rfl h6) rfl ?_
    refine lv (v := .int .i64 (a1.length : Int)) rfl (r_lenS rfl sl65 rfl hs2) rfl ?_
    refine lv (v := .bool (decide ((6 : Int) < (a1.length : Int)))) rfl (r_gtr rfl rfl rfl rfl) rfl ?_
    refine lv (v := .bool (decide ((6 : Int) < (a1.length : Int)))) rfl (r_pkF rfl rfl rfl) rfl ?_
    refine wend ?_
    refine wthen ?_
    refine wren (fun ρ14 eρ14 => ?_)
    have h15 : opd ρ14 72 (.tmp 1) = s2.v := (eρ14 1).trans h6
    have h16 : opd ρ14 72 (.tmp 17) = .bool (decide ((6 : Int) < (a1.length : Int))) := eρ14 17
    clear eρ14
    by_cases hc17 : (6 : Int) < (a1.length : Int)
    · skip
      rw [if_pos hc17] at hF
      have hbhc17 : (decide ((6 : Int) < (a1.length : Int))) = true := decide_eq_true hc17
      refine wcT (h16.trans (congrArg Value.bool hbhc17)) ?_
      refine wseq ?_
      refine wreg ?_
      refine lv (v := .bool true) rfl (r_as rfl rfl) rfl ?_
      refine wend ?_
      refine wthen ?_
      refine wren (fun ρ18 eρ18 => ?_)
      have h19 : opd ρ18 72 (.tmp 4) = .bool true := eρ18 4
      clear eρ18
      refine wp_ret ?_
      refine thR ?_
      obtain rfl := Option.some.inj hF
      subst hB
      refine finR (rs := [.tmp 4]) (vs := [.bool true]) rfl ⟨h19, trivial⟩ ?_
      exact hI.fin 0 ⟨rfl, rfl⟩
    · skip
      rw [if_neg hc17] at hF
      have hbhc17 : (decide ((6 : Int) < (a1.length : Int))) = false := decide_eq_false hc17
      refine wcF (h16.trans (congrArg Value.bool hbhc17)) ?_
      refine wp_skip ?_
      refine wthen ?_
      refine wseq ?_
      refine wseq ?_
      refine wreg ?_
      refine lv (v := s2.v) rfl (r_mv rfl h15) rfl ?_
      refine lv (v := .int .i64 (a1.length : Int)) rfl (r_lenS rfl sl65 rfl hs2) rfl ?_
      refine lv (v := .int .i64 0) rfl (r_mv rfl rfl) rfl ?_
      refine wend ?_
      refine wthen ?_
      refine wren (fun ρ20 eρ20 => ?_)
      have h21 : opd ρ20 72 (.tmp 18) = s2.v := eρ20 18
      have h22 : opd ρ20 72 (.tmp 19) = .int .i64 (a1.length : Int) := eρ20 19
      have h23 : opd ρ20 72 (.tmp 20) = .int .i64 0 := eρ20 20
      clear eρ20
      refine wp_block ?_
      have hbd24 := (hs2).bd
      rw [(hs2).n] at hbd24
      obtain ⟨y24, hy24, hF24⟩ := Option.bind_eq_some_iff.1 hF
      refine wfor (n := 72) a1.length _ (fun (i24 : Nat) (σ24 : Unit) ρ' w' => ∃ (H230 : Hp), Hle H H230 ∧ opd ρ' 72 (.tmp 18) = s2.v ∧ opd ρ' 72 (.tmp 19) = .int .i64 (a1.length : Int) ∧ opd ρ' 72 (.tmp 20) = .int .i64 (i24 : Int) ∧ Inv B w' H230 []) hy24 ⟨H, (Hle.refl _), h21, h22, h23, (hI.keep [false])⟩ ?_
      rintro k24 i24 σ24 ρ234 w235 hk24 ⟨H230, hleH230, h231, h232, h233, hI⟩ hy24
      refine wseq ?_
      refine wreg ?_
      refine lv (v := .bool (decide ((i24 : Int) < (a1.length : Int)))) rfl (r_lss rfl h233 h232 rfl) rfl ?_
      refine wend ?_
      refine wthen ?_
      refine wseq ?_
      by_cases hc236 : (i24 : Int) < (a1.length : Int)
      · skip
        have hbhc236 : (decide ((i24 : Int) < (a1.length : Int))) = true := decide_eq_true hc236
        obtain ⟨k24, rfl⟩ : ∃ m, k24 = m + 1 := ⟨k24 - 1, by omega⟩
        obtain ⟨z24, hb24⟩ := forK_body hy24
        have hF := hb24
        have hlt24 : ((i24 : Nat) : Int) + 1 ≤ 9223372036854775807 := by omega
        refine wcT ((show opd _ _ _ = _ from rfl).trans (congrArg Value.bool hbhc236)) ?_
        refine wp_skip ?_
        refine wthen ?_
        refine wren (fun ρ237 eρ237 => ?_)
        have h238 : opd ρ237 72 (.tmp 18) = s2.v := (eρ237 18).trans h231
        have h239 : opd ρ237 72 (.tmp 19) = .int .i64 (a1.length : Int) := (eρ237 19).trans h232
        have h240 : opd ρ237 72 (.tmp 20) = .int .i64 (i24 : Int) := (eρ237 20).trans h233
        clear eρ237
        refine wseq ?_
        refine wp_block ?_
        refine wseq ?_
        refine wreg ?_
        obtain ⟨x241, hx241, hF⟩ := Option.bind_eq_some_iff.1 hF
        obtain ⟨b242, j243, _, hix244, hil245, ⟨s247, s248, s249, rfl, hs247, hs248, hs249⟩, hA246⟩ := (hs2.mono hleH230).ix hx241
        replace hA246 : At H230 b242 j243 [ckI x241.Block.Epoch, ckI x241.Block.Height, ckV flB x241.Block.Prev, ckV flB x241.Block.State, ckV flB x241.Block.Next, ckL s247, ckI x241.Cert.Round, ckL s248, ckI x241.Config.Epoch, ckL s249] := hA246
        refine lv (v := .pointer (some ⟨b242, j243 + 0, none⟩)) rfl (r_ixt rfl sl65 h238 h240 rfl hix244 hil245) rfl ?_
        refine lv (v := .agg (flat [ckI x241.Block.Epoch, ckI x241.Block.Height, ckV flB x241.Block.Prev, ckV flB x241.Block.State, ckV flB x241.Block.Next, ckL s247, ckI x241.Cert.Round, ckL s248, ckI x241.Config.Epoch, ckL s249]).toArray) rfl (r_cla (off := 0) (p := 0) (m := 10) (hA246.ca hI.good) rfl ag73 rfl rfl rfl) rfl ?_
        refine le rfl (l_al hI rfl ze73) rfl ?_
        rintro _ w251 ⟨g250, rfl, hI⟩
        replace hI : Inv B w251 H230 [.cb g250 [ckI 0, ckI 0, ckV flB (Vec.rep 32 0), ckV flB (Vec.rep 32 0), ckV flB (Vec.rep 32 0), ckL Sv.nil, ckI 0, ckL Sv.nil, ckI 0, ckL Sv.nil] 73] := hI
        refine lst rfl (l_st (off := 0) (p := 0) (m := 10) (new := [ckI x241.Block.Epoch, ckI x241.Block.Height, ckV flB x241.Block.Prev, ckV flB x241.Block.State, ckV flB x241.Block.Next, ckL s247, ckI x241.Cert.Round, ckL s248, ckI x241.Config.Epoch, ckL s249]) hI 0 rfl rfl sz73 rfl rfl rfl rfl rfl rfl) rfl ?_
        intro w252 hI
        replace hI : Inv B w252 H230 [.cb g250 [ckI x241.Block.Epoch, ckI x241.Block.Height, ckV flB x241.Block.Prev, ckV flB x241.Block.State, ckV flB x241.Block.Next, ckL s247, ckI x241.Cert.Round, ckL s248, ckI x241.Config.Epoch, ckL s249] 73] := hI
        refine wend ?_
        refine wthen ?_
        refine wren (fun ρ253 eρ253 => ?_)
        have h254 : opd ρ253 72 (.tmp 6) = .pointer (some ⟨g250, 0 + 0, none⟩) := eρ253 6
        have h255 : opd ρ253 72 (.tmp 18) = s2.v := (eρ253 18).trans h238
        have h256 : opd ρ253 72 (.tmp 19) = .int .i64 (a1.length : Int) := (eρ253 19).trans h239
        have h257 : opd ρ253 72 (.tmp 20) = .int .i64 (i24 : Int) := (eρ253 20).trans h240
        clear eρ253
        refine wseq ?_
        refine wseq ?_
        refine wreg ?_
        refine lv (v := .pointer (some ⟨g250, 0 + 101, none⟩)) rfl (l_fa (j := 0) (i := 0) rfl fl73_2 h254 rfl) rfl ?_
        refine lv (v := .pointer (some ⟨g250, 0 + 102, none⟩)) rfl (l_fa (j := 0) (i := 101) rfl fl64_1 rfl rfl) rfl ?_
        refine lv (v := s249.v) rfl (r_cl1 (off := 102) (p := 9) (hI.good.ca 0 rfl) rfl sc62 rfl rfl rfl) rfl ?_
        refine lv (v := .int .i64 (x241.Config.Members.length : Int)) rfl (r_lenS rfl sl62 rfl hs249) rfl ?_
        refine lv (v := .bool (decide ((20 : Int) < (x241.Config.Members.length : Int)))) rfl (r_gtr rfl rfl rfl rfl) rfl ?_
        by_cases hc258 : (20 : Int) < (x241.Config.Members.length : Int)
        · skip
          rw [if_pos hc258] at hF
          have hbhc258 : (decide ((20 : Int) < (x241.Config.Members.length : Int))) = true := decide_eq_true hc258
          refine lv (v := .bool true) rfl (r_mv rfl ((show opd _ _ _ = _ from rfl).trans (congrArg Value.bool hbhc258))) rfl ?_
          with_reducible refine lx (d := 30) (by kernel_rfl) (by kernel_rfl) ?_
          with_reducible refine lx (d := 31) (by kernel_rfl) (by kernel_rfl) ?_
          with_reducible refine lx (d := 32) (by kernel_rfl) (by kernel_rfl) ?_
          with_reducible refine lx (d := 33) (by kernel_rfl) (by kernel_rfl) ?_
          with_reducible refine lx (d := 34) (by kernel_rfl) (by kernel_rfl) ?_
          refine lv (v := .bool true) rfl (r_pkT rfl rfl rfl) rfl ?_
          refine lv (v := .bool true) rfl (r_mv rfl rfl) rfl ?_
          with_reducible refine lx (d := 37) (by kernel_rfl) (by kernel_rfl) ?_
          with_reducible refine lx (d := 38) (by kernel_rfl) (by kernel_rfl) ?_
          with_reducible refine lx (d := 39) (by kernel_rfl) (by kernel_rfl) ?_
          refine lv (v := .bool true) rfl (r_pkT rfl rfl rfl) rfl ?_
          refine wend ?_
          refine wthen ?_
          refine wren (fun ρ259 eρ259 => ?_)
          have h260 : opd ρ259 72 (.tmp 6) = .pointer (some ⟨g250, 0 + 0, none⟩) := (eρ259 6).trans h254
          have h261 : opd ρ259 72 (.tmp 18) = s2.v := (eρ259 18).trans h255
          have h262 : opd ρ259 72 (.tmp 19) = .int .i64 (a1.length : Int) := (eρ259 19).trans h256
          have h263 : opd ρ259 72 (.tmp 20) = .int .i64 (i24 : Int) := (eρ259 20).trans h257
          have h264 : opd ρ259 72 (.tmp 40) = .bool true := eρ259 40
          clear eρ259
          refine wcT h264 ?_
          refine wseq ?_
          refine wreg ?_
          refine lv (v := .bool true) rfl (r_as rfl rfl) rfl ?_
          refine wend ?_
          refine wthen ?_
          refine wren (fun ρ265 eρ265 => ?_)
          have h266 : opd ρ265 72 (.tmp 4) = .bool true := eρ265 4
          clear eρ265
          refine wp_ret ?_
          refine thR ?_
          refine inR ?_
          refine thR ?_
          refine thR ?_
          obtain ⟨q267, hFn, hzq267⟩ := Option.map_eq_some_iff.1 hF
          clear hF
          obtain rfl := forK_inr hy24 (hb24.trans (congrArg some hzq267.symm))
          have hF0 := hF24
          try dsimp only at hF0
          have hF := hFn.trans hF0
          clear hFn hF0
          refine inR ?_
          refine thR ?_
          obtain rfl := Option.some.inj hF
          subst hB
          refine finR (rs := [.tmp 4]) (vs := [.bool true]) rfl ⟨h266, trivial⟩ ?_
          exact hI.fin 0 ⟨rfl, rfl⟩
        · skip
          rw [if_neg hc258] at hF
          have hbhc258 : (decide ((20 : Int) < (x241.Config.Members.length : Int))) = false := decide_eq_false hc258
          refine lv (v := .bool false) rfl (r_mv rfl ((show opd _ _ _ = _ from rfl).trans (congrArg Value.bool hbhc258))) rfl ?_
          refine lv (v := .pointer (some ⟨g250, 0 + 99, none⟩)) rfl (l_fa (j := 0) (i := 0) rfl fl73_1 h254 rfl) rfl ?_
          refine lv (v := .pointer (some ⟨g250, 0 + 100, none⟩)) rfl (l_fa (j := 0) (i := 99) rfl fl71_1 rfl rfl) rfl ?_
          refine lv (v := s248.v) rfl (r_cl1 (off := 100) (p := 7) (hI.good.ca 0 rfl) rfl sc22 rfl rfl rfl) rfl ?_
          refine lv (v := .int .i64 (x241.Cert.Votes.length : Int)) rfl (r_lenS rfl sl22 rfl hs248) rfl ?_
          refine lv (v := .bool (decide ((12 : Int) < (x241.Cert.Votes.length : Int)))) rfl (r_gtr rfl rfl rfl rfl) rfl ?_
          refine lv (v := .bool (decide ((12 : Int) < (x241.Cert.Votes.length : Int)))) rfl (r_pkF rfl rfl rfl) rfl ?_
          by_cases hc268 : (12 : Int) < (x241.Cert.Votes.length : Int)
          · skip
            rw [if_pos hc268] at hF
            have hbhc268 : (decide ((12 : Int) < (x241.Cert.Votes.length : Int))) = true := decide_eq_true hc268
            refine lv (v := .bool true) rfl (r_mv rfl ((show opd _ _ _ = _ from rfl).trans (congrArg Value.bool hbhc268))) rfl ?_
            with_reducible refine lx (d := 37) (by kernel_rfl) (by kernel_rfl) ?_
            with_reducible refine lx (d := 38) (by kernel_rfl) (by kernel_rfl) ?_
            with_reducible refine lx (d := 39) (by kernel_rfl) (by kernel_rfl) ?_
            refine lv (v := .bool true) rfl (r_pkT rfl rfl rfl) rfl ?_
            refine wend ?_
            refine wthen ?_
            refine wren (fun ρ269 eρ269 => ?_)
            have h270 : opd ρ269 72 (.tmp 6) = .pointer (some ⟨g250, 0 + 0, none⟩) := (eρ269 6).trans h254
            have h271 : opd ρ269 72 (.tmp 18) = s2.v := (eρ269 18).trans h255
            have h272 : opd ρ269 72 (.tmp 19) = .int .i64 (a1.length : Int) := (eρ269 19).trans h256
            have h273 : opd ρ269 72 (.tmp 20) = .int .i64 (i24 : Int) := (eρ269 20).trans h257
            have h274 : opd ρ269 72 (.tmp 40) = .bool true := eρ269 40
            clear eρ269
            refine wcT h274 ?_
            refine wseq ?_
            refine wreg ?_
            refine lv (v := .bool true) rfl (r_as rfl rfl) rfl ?_
            refine wend ?_
            refine wthen ?_
            refine wren (fun ρ275 eρ275 => ?_)
            have h276 : opd ρ275 72 (.tmp 4) = .bool true := eρ275 4
            clear eρ275
            refine wp_ret ?_
            refine thR ?_
            refine inR ?_
            refine thR ?_
            refine thR ?_
            obtain ⟨q277, hFn, hzq277⟩ := Option.map_eq_some_iff.1 hF
            clear hF
            obtain rfl := forK_inr hy24 (hb24.trans (congrArg some hzq277.symm))
            have hF0 := hF24
            try dsimp only at hF0
            have hF := hFn.trans hF0
            clear hFn hF0
            refine inR ?_
            refine thR ?_
            obtain rfl := Option.some.inj hF
            subst hB
            refine finR (rs := [.tmp 4]) (vs := [.bool true]) rfl ⟨h276, trivial⟩ ?_
            exact hI.fin 0 ⟨rfl, rfl⟩
          · skip
            rw [if_neg hc268] at hF
            have hbhc268 : (decide ((12 : Int) < (x241.Cert.Votes.length : Int))) = false := decide_eq_false hc268
            refine lv (v := .bool false) rfl (r_mv rfl ((show opd _ _ _ = _ from rfl).trans (congrArg Value.bool hbhc268))) rfl ?_
            refine lv (v := .pointer (some ⟨g250, 0 + 0, none⟩)) rfl (l_fa (j := 0) (i := 0) rfl fl73_0 h254 rfl) rfl ?_
            refine lv (v := .agg (flat [ckI x241.Block.Epoch, ckI x241.Block.Height, ckV flB x241.Block.Prev, ckV flB x241.Block.State, ckV flB x241.Block.Next, ckL s247]).toArray) rfl (r_cla (off := 0) (p := 0) (m := 6) (hI.good.ca 0 rfl) rfl ag69 rfl rfl rfl) rfl ?_
            obtain ⟨x278, hx278, hF⟩ := Option.bind_eq_some_iff.1 hF
            have hsp281 := spec_64 hx278 (hT.mono hleH230) (hI.part 0) hs247
            refine fc ([]) ([.cb g250 [ckI x241.Block.Epoch, ckI x241.Block.Height, ckV flB x241.Block.Prev, ckV flB x241.Block.State, ckV flB x241.Block.Next, ckL s247, ckI x241.Cert.Round, ckL s248, ckI x241.Config.Epoch, ckL s249] 73]) (args := [.agg (flat [ckI x241.Block.Epoch, ckI x241.Block.Height, ckV flB x241.Block.Prev, ckV flB x241.Block.State, ckV flB x241.Block.Next, ckL s247]).toArray, .int .i64 4096]) fc64 rfl rfl rfl hI (argc rfl (argc rfl rfl)) (hsp281) ?_
            rintro _ H279 _ w280 ⟨rfl, rfl⟩ hleH279 hI
            replace hI : Inv B w280 H279 [.cb g250 [ckI x241.Block.Epoch, ckI x241.Block.Height, ckV flB x241.Block.Prev, ckV flB x241.Block.State, ckV flB x241.Block.Next, ckL s247, ckI x241.Cert.Round, ckL s248, ckI x241.Config.Epoch, ckL s249] 73] := hI
            refine lv (v := .bool x278) rfl (r_pkF rfl rfl rfl) rfl ?_
            refine wend ?_
            refine wthen ?_
            refine wren (fun ρ282 eρ282 => ?_)
            have h283 : opd ρ282 72 (.tmp 6) = .pointer (some ⟨g250, 0 + 0, none⟩) := (eρ282 6).trans h254
            have h284 : opd ρ282 72 (.tmp 18) = s2.v := (eρ282 18).trans h255
            have h285 : opd ρ282 72 (.tmp 19) = .int .i64 (a1.length : Int) := (eρ282 19).trans h256
            have h286 : opd ρ282 72 (.tmp 20) = .int .i64 (i24 : Int) := (eρ282 20).trans h257
            have h287 : opd ρ282 72 (.tmp 40) = .bool x278 := eρ282 40
            clear eρ282
            by_cases hc288 : x278 = true
            · skip
              rw [if_pos hc288] at hF
              have hbhc288 : x278 = true := hc288
              refine wcT (h287.trans (congrArg Value.bool hbhc288)) ?_
              refine wseq ?_
              refine wreg ?_
              refine lv (v := .bool true) rfl (r_as rfl rfl) rfl ?_
              refine wend ?_
              refine wthen ?_
              refine wren (fun ρ289 eρ289 => ?_)
              have h290 : opd ρ289 72 (.tmp 4) = .bool true := eρ289 4
              clear eρ289
              refine wp_ret ?_
              refine thR ?_
              refine inR ?_
              refine thR ?_
              refine thR ?_
              obtain ⟨q291, hFn, hzq291⟩ := Option.map_eq_some_iff.1 hF
              clear hF
              obtain rfl := forK_inr hy24 (hb24.trans (congrArg some hzq291.symm))
              have hF0 := hF24
              try dsimp only at hF0
              have hF := hFn.trans hF0
              clear hFn hF0
              refine inR ?_
              refine thR ?_
              obtain rfl := Option.some.inj hF
              subst hB
              refine finR (rs := [.tmp 4]) (vs := [.bool true]) rfl ⟨h290, trivial⟩ ?_
              exact hI.fin 0 ⟨rfl, rfl⟩
            · skip
              rw [if_neg hc288] at hF
              have hbhc288 : x278 = false := (Bool.eq_false_iff.2 hc288)
              refine wcF (h287.trans (congrArg Value.bool hbhc288)) ?_
              refine wp_skip ?_
              refine wthen ?_
              refine wseq ?_
              refine wreg ?_
              refine lv (v := .pointer (some ⟨g250, 0 + 99, none⟩)) rfl (l_fa (j := 0) (i := 0) rfl fl73_1 h283 rfl) rfl ?_
              refine lv (v := .pointer (some ⟨g250, 0 + 100, none⟩)) rfl (l_fa (j := 0) (i := 99) rfl fl71_1 rfl rfl) rfl ?_
              refine lv (v := s248.v) rfl (r_cl1 (off := 100) (p := 7) (hI.good.ca 0 rfl) rfl sc22 rfl rfl rfl) rfl ?_
              refine lv (v := .int .i64 (x241.Cert.Votes.length : Int)) rfl (r_lenS rfl sl22 rfl (hs248.mono hleH279)) rfl ?_
              refine lv (v := .int .i64 0) rfl (r_mv rfl rfl) rfl ?_
              refine wend ?_
              refine wthen ?_
              refine wren (fun ρ292 eρ292 => ?_)
              have h293 : opd ρ292 72 (.tmp 18) = s2.v := (eρ292 18).trans h284
              have h294 : opd ρ292 72 (.tmp 19) = .int .i64 (a1.length : Int) := (eρ292 19).trans h285
              have h295 : opd ρ292 72 (.tmp 20) = .int .i64 (i24 : Int) := (eρ292 20).trans h286
              have h296 : opd ρ292 72 (.tmp 43) = s248.v := eρ292 43
              have h297 : opd ρ292 72 (.tmp 44) = .int .i64 (x241.Cert.Votes.length : Int) := eρ292 44
              have h298 : opd ρ292 72 (.tmp 45) = .int .i64 0 := eρ292 45
              clear eρ292
              refine wp_block ?_
              have hbd299 := ((hs248.mono hleH279)).bd
              rw [((hs248.mono hleH279)).n] at hbd299
              obtain ⟨y299, hy299, hF299⟩ := Option.bind_eq_some_iff.1 hF
              refine wfor (n := 72) x241.Cert.Votes.length _ (fun (i299 : Nat) (σ299 : Unit) ρ' w' => ∃ (H364 : Hp), Hle H279 H364 ∧ opd ρ' 72 (.tmp 18) = s2.v ∧ opd ρ' 72 (.tmp 19) = .int .i64 (a1.length : Int) ∧ opd ρ' 72 (.tmp 20) = .int .i64 (i24 : Int) ∧ opd ρ' 72 (.tmp 43) = s248.v ∧ opd ρ' 72 (.tmp 44) = .int .i64 (x241.Cert.Votes.length : Int) ∧ opd ρ' 72 (.tmp 45) = .int .i64 (i299 : Int) ∧ Inv B w' H364 []) hy299 ⟨H279, (Hle.refl _), h293, h294, h295, h296, h297, h298, (hI.keep [false])⟩ ?_
              rintro k299 i299 σ299 ρ371 w372 hk299 ⟨H364, hleH364, h365, h366, h367, h368, h369, h370, hI⟩ hy299
              refine wseq ?_
              refine wreg ?_
              refine lv (v := .bool (decide ((i299 : Int) < (x241.Cert.Votes.length : Int)))) rfl (r_lss rfl h370 h369 rfl) rfl ?_
              refine wend ?_
              refine wthen ?_
              refine wseq ?_
              by_cases hc373 : (i299 : Int) < (x241.Cert.Votes.length : Int)
              · skip
                have hbhc373 : (decide ((i299 : Int) < (x241.Cert.Votes.length : Int))) = true := decide_eq_true hc373
                obtain ⟨k299, rfl⟩ : ∃ m, k299 = m + 1 := ⟨k299 - 1, by omega⟩
                obtain ⟨z299, hb299⟩ := forK_body hy299
                have hF := hb299
                have hlt299 : ((i299 : Nat) : Int) + 1 ≤ 9223372036854775807 := by omega
                refine wcT ((show opd _ _ _ = _ from rfl).trans (congrArg Value.bool hbhc373)) ?_
                refine wp_skip ?_
                refine wthen ?_
                refine wren (fun ρ374 eρ374 => ?_)
                have h375 : opd ρ374 72 (.tmp 18) = s2.v := (eρ374 18).trans h365
                have h376 : opd ρ374 72 (.tmp 19) = .int .i64 (a1.length : Int) := (eρ374 19).trans h366
                have h377 : opd ρ374 72 (.tmp 20) = .int .i64 (i24 : Int) := (eρ374 20).trans h367
                have h378 : opd ρ374 72 (.tmp 43) = s248.v := (eρ374 43).trans h368
                have h379 : opd ρ374 72 (.tmp 44) = .int .i64 (x241.Cert.Votes.length : Int) := (eρ374 44).trans h369
                have h380 : opd ρ374 72 (.tmp 45) = .int .i64 (i299 : Int) := (eρ374 45).trans h370
                clear eρ374
                refine wseq ?_
                refine wp_block ?_
                refine wseq ?_
                refine wreg ?_
                obtain ⟨x381, hx381, hF⟩ := Option.bind_eq_some_iff.1 hF
                obtain ⟨b382, j383, _, hix384, hil385, ⟨s387, s388, s389, rfl, hs387, hs388, hs389⟩, hA386⟩ := ((hs248.mono hleH279).mono hleH364).ix hx381
                replace hA386 : At H364 b382 j383 [ckI x381.Kind, ckI x381.Epoch, ckI x381.Height, ckI x381.Round, ckV flB x381.Digest, ckI x381.From, ckI x381.Sig.Leaf, ckL s387, ckL s388, ckL s389] := hA386
                refine lv (v := .pointer (some ⟨b382, j383 + 0, none⟩)) rfl (r_ixt rfl sl22 h378 h380 rfl hix384 hil385) rfl ?_
                refine lv (v := .agg (flat [ckI x381.Kind, ckI x381.Epoch, ckI x381.Height, ckI x381.Round, ckV flB x381.Digest, ckI x381.From, ckI x381.Sig.Leaf, ckL s387, ckL s388, ckL s389]).toArray) rfl (r_cla (off := 0) (p := 0) (m := 10) (hA386.ca hI.good) rfl ag35 rfl rfl rfl) rfl ?_
                refine le rfl (l_al hI rfl ze35) rfl ?_
                rintro _ w391 ⟨g390, rfl, hI⟩
                replace hI : Inv B w391 H364 [.cb g390 [ckI 0, ckI 0, ckI 0, ckI 0, ckV flB (Vec.rep 32 0), ckI 0, ckI 0, ckL Sv.nil, ckL Sv.nil, ckL Sv.nil] 35] := hI
                refine lst rfl (l_st (off := 0) (p := 0) (m := 10) (new := [ckI x381.Kind, ckI x381.Epoch, ckI x381.Height, ckI x381.Round, ckV flB x381.Digest, ckI x381.From, ckI x381.Sig.Leaf, ckL s387, ckL s388, ckL s389]) hI 0 rfl rfl sz35 rfl rfl rfl rfl rfl rfl) rfl ?_
                intro w392 hI
                replace hI : Inv B w392 H364 [.cb g390 [ckI x381.Kind, ckI x381.Epoch, ckI x381.Height, ckI x381.Round, ckV flB x381.Digest, ckI x381.From, ckI x381.Sig.Leaf, ckL s387, ckL s388, ckL s389] 35] := hI
                refine wend ?_
                refine wthen ?_
                refine wren (fun ρ393 eρ393 => ?_)
                have h394 : opd ρ393 72 (.tmp 8) = .pointer (some ⟨g390, 0 + 0, none⟩) := eρ393 8
                have h395 : opd ρ393 72 (.tmp 18) = s2.v := (eρ393 18).trans h375
                have h396 : opd ρ393 72 (.tmp 19) = .int .i64 (a1.length : Int) := (eρ393 19).trans h376
                have h397 : opd ρ393 72 (.tmp 20) = .int .i64 (i24 : Int) := (eρ393 20).trans h377
                have h398 : opd ρ393 72 (.tmp 43) = s248.v := (eρ393 43).trans h378
                have h399 : opd ρ393 72 (.tmp 44) = .int .i64 (x241.Cert.Votes.length : Int) := (eρ393 44).trans h379
                have h400 : opd ρ393 72 (.tmp 45) = .int .i64 (i299 : Int) := (eρ393 45).trans h380
                clear eρ393
                refine wseq ?_
                refine wreg ?_
                refine lv (v := .pointer (some ⟨g390, 0 + 37, none⟩)) rfl (l_fa (j := 0) (i := 0) rfl fl35_6 h394 rfl) rfl ?_
                refine lv (v := .pointer (some ⟨g390, 0 + 38, none⟩)) rfl (l_fa (j := 0) (i := 37) rfl fl33_1 rfl rfl) rfl ?_
                refine lv (v := .pointer (some ⟨g390, 0 + 38, none⟩)) rfl (l_fa (j := 0) (i := 38) rfl fl31_0 rfl rfl) rfl ?_
                refine lv (v := s387.v) rfl (r_cl1 (off := 38) (p := 7) (hI.good.ca 0 rfl) rfl sc27 rfl rfl rfl) rfl ?_
                refine lv (v := .int .i64 (x381.Sig.Once.Open.length : Int)) rfl (r_lenS rfl sl27 rfl hs387) rfl ?_
                refine lv (v := .bool (decide ((200 : Int) < (x381.Sig.Once.Open.length : Int)))) rfl (r_gtr rfl rfl rfl rfl) rfl ?_
                by_cases hc401 : (200 : Int) < (x381.Sig.Once.Open.length : Int)
                · skip
                  rw [if_pos hc401] at hF
                  have hbhc401 : (decide ((200 : Int) < (x381.Sig.Once.Open.length : Int))) = true := decide_eq_true hc401
                  refine lv (v := .bool true) rfl (r_mv rfl ((show opd _ _ _ = _ from rfl).trans (congrArg Value.bool hbhc401))) rfl ?_
                  with_reducible refine lx (d := 56) (by kernel_rfl) (by kernel_rfl) ?_
                  with_reducible refine lx (d := 57) (by kernel_rfl) (by kernel_rfl) ?_
                  with_reducible refine lx (d := 58) (by kernel_rfl) (by kernel_rfl) ?_
                  with_reducible refine lx (d := 59) (by kernel_rfl) (by kernel_rfl) ?_
                  with_reducible refine lx (d := 60) (by kernel_rfl) (by kernel_rfl) ?_
                  with_reducible refine lx (d := 61) (by kernel_rfl) (by kernel_rfl) ?_
                  refine lv (v := .bool true) rfl (r_pkT rfl rfl rfl) rfl ?_
                  refine lv (v := .bool true) rfl (r_mv rfl rfl) rfl ?_
                  with_reducible refine lx (d := 64) (by kernel_rfl) (by kernel_rfl) ?_
                  with_reducible refine lx (d := 65) (by kernel_rfl) (by kernel_rfl) ?_
                  with_reducible refine lx (d := 66) (by kernel_rfl) (by kernel_rfl) ?_
                  with_reducible refine lx (d := 67) (by kernel_rfl) (by kernel_rfl) ?_
                  with_reducible refine lx (d := 68) (by kernel_rfl) (by kernel_rfl) ?_
                  refine lv (v := .bool true) rfl (r_pkT rfl rfl rfl) rfl ?_
                  refine wend ?_
                  refine wthen ?_
                  refine wren (fun ρ402 eρ402 => ?_)
                  have h403 : opd ρ402 72 (.tmp 18) = s2.v := (eρ402 18).trans h395
                  have h404 : opd ρ402 72 (.tmp 19) = .int .i64 (a1.length : Int) := (eρ402 19).trans h396
                  have h405 : opd ρ402 72 (.tmp 20) = .int .i64 (i24 : Int) := (eρ402 20).trans h397
                  have h406 : opd ρ402 72 (.tmp 43) = s248.v := (eρ402 43).trans h398
                  have h407 : opd ρ402 72 (.tmp 44) = .int .i64 (x241.Cert.Votes.length : Int) := (eρ402 44).trans h399
                  have h408 : opd ρ402 72 (.tmp 45) = .int .i64 (i299 : Int) := (eρ402 45).trans h400
                  have h409 : opd ρ402 72 (.tmp 69) = .bool true := eρ402 69
                  clear eρ402
                  refine wcT h409 ?_
                  refine wseq ?_
                  refine wreg ?_
                  refine lv (v := .bool true) rfl (r_as rfl rfl) rfl ?_
                  refine wend ?_
                  refine wthen ?_
                  refine wren (fun ρ410 eρ410 => ?_)
                  have h411 : opd ρ410 72 (.tmp 4) = .bool true := eρ410 4
                  clear eρ410
                  refine wp_ret ?_
                  refine inR ?_
                  refine thR ?_
                  refine thR ?_
                  obtain ⟨q412, hFn, hzq412⟩ := Option.map_eq_some_iff.1 hF
                  clear hF
                  obtain rfl := forK_inr hy299 (hb299.trans (congrArg some hzq412.symm))
                  have hF0 := hF299
                  try dsimp only at hF0
                  have hF := hFn.trans hF0
                  clear hFn hF0
                  refine inR ?_
                  refine inR ?_
                  refine thR ?_
                  refine thR ?_
                  obtain ⟨q413, hFn, hzq413⟩ := Option.map_eq_some_iff.1 hF
                  clear hF
                  obtain rfl := forK_inr hy24 (hb24.trans (congrArg some hzq413.symm))
                  have hF0 := hF24
                  try dsimp only at hF0
                  have hF := hFn.trans hF0
                  clear hFn hF0
                  refine inR ?_
                  refine thR ?_
                  obtain rfl := Option.some.inj hF
                  subst hB
                  refine finR (rs := [.tmp 4]) (vs := [.bool true]) rfl ⟨h411, trivial⟩ ?_
                  exact hI.fin 0 ⟨rfl, rfl⟩
                · skip
                  rw [if_neg hc401] at hF
                  have hbhc401 : (decide ((200 : Int) < (x381.Sig.Once.Open.length : Int))) = false := decide_eq_false hc401
                  refine lv (v := .bool false) rfl (r_mv rfl ((show opd _ _ _ = _ from rfl).trans (congrArg Value.bool hbhc401))) rfl ?_
                  refine lv (v := .pointer (some ⟨g390, 0 + 37, none⟩)) rfl (l_fa (j := 0) (i := 0) rfl fl35_6 h394 rfl) rfl ?_
                  refine lv (v := .pointer (some ⟨g390, 0 + 38, none⟩)) rfl (l_fa (j := 0) (i := 37) rfl fl33_1 rfl rfl) rfl ?_
                  refine lv (v := .pointer (some ⟨g390, 0 + 39, none⟩)) rfl (l_fa (j := 0) (i := 38) rfl fl31_1 rfl rfl) rfl ?_
                  refine lv (v := s388.v) rfl (r_cl1 (off := 39) (p := 8) (hI.good.ca 0 rfl) rfl sc27 rfl rfl rfl) rfl ?_
                  refine lv (v := .int .i64 (x381.Sig.Once.Shut.length : Int)) rfl (r_lenS rfl sl27 rfl hs388) rfl ?_
                  refine lv (v := .bool (decide ((200 : Int) < (x381.Sig.Once.Shut.length : Int)))) rfl (r_gtr rfl rfl rfl rfl) rfl ?_
                  refine lv (v := .bool (decide ((200 : Int) < (x381.Sig.Once.Shut.length : Int)))) rfl (r_pkF rfl rfl rfl) rfl ?_
                  by_cases hc414 : (200 : Int) < (x381.Sig.Once.Shut.length : Int)
                  · skip
                    rw [if_pos hc414] at hF
                    have hbhc414 : (decide ((200 : Int) < (x381.Sig.Once.Shut.length : Int))) = true := decide_eq_true hc414
                    refine lv (v := .bool true) rfl (r_mv rfl ((show opd _ _ _ = _ from rfl).trans (congrArg Value.bool hbhc414))) rfl ?_
                    with_reducible refine lx (d := 64) (by kernel_rfl) (by kernel_rfl) ?_
                    with_reducible refine lx (d := 65) (by kernel_rfl) (by kernel_rfl) ?_
                    with_reducible refine lx (d := 66) (by kernel_rfl) (by kernel_rfl) ?_
                    with_reducible refine lx (d := 67) (by kernel_rfl) (by kernel_rfl) ?_
                    with_reducible refine lx (d := 68) (by kernel_rfl) (by kernel_rfl) ?_
                    refine lv (v := .bool true) rfl (r_pkT rfl rfl rfl) rfl ?_
                    refine wend ?_
                    refine wthen ?_
                    refine wren (fun ρ415 eρ415 => ?_)
                    have h416 : opd ρ415 72 (.tmp 18) = s2.v := (eρ415 18).trans h395
                    have h417 : opd ρ415 72 (.tmp 19) = .int .i64 (a1.length : Int) := (eρ415 19).trans h396
                    have h418 : opd ρ415 72 (.tmp 20) = .int .i64 (i24 : Int) := (eρ415 20).trans h397
                    have h419 : opd ρ415 72 (.tmp 43) = s248.v := (eρ415 43).trans h398
                    have h420 : opd ρ415 72 (.tmp 44) = .int .i64 (x241.Cert.Votes.length : Int) := (eρ415 44).trans h399
                    have h421 : opd ρ415 72 (.tmp 45) = .int .i64 (i299 : Int) := (eρ415 45).trans h400
                    have h422 : opd ρ415 72 (.tmp 69) = .bool true := eρ415 69
                    clear eρ415
                    refine wcT h422 ?_
                    refine wseq ?_
                    refine wreg ?_
                    refine lv (v := .bool true) rfl (r_as rfl rfl) rfl ?_
                    refine wend ?_
                    refine wthen ?_
                    refine wren (fun ρ423 eρ423 => ?_)
                    have h424 : opd ρ423 72 (.tmp 4) = .bool true := eρ423 4
                    clear eρ423
                    refine wp_ret ?_
                    refine inR ?_
                    refine thR ?_
                    refine thR ?_
                    obtain ⟨q425, hFn, hzq425⟩ := Option.map_eq_some_iff.1 hF
                    clear hF
                    obtain rfl := forK_inr hy299 (hb299.trans (congrArg some hzq425.symm))
                    have hF0 := hF299
                    try dsimp only at hF0
                    have hF := hFn.trans hF0
                    clear hFn hF0
                    refine inR ?_
                    refine inR ?_
                    refine thR ?_
                    refine thR ?_
                    obtain ⟨q426, hFn, hzq426⟩ := Option.map_eq_some_iff.1 hF
                    clear hF
                    obtain rfl := forK_inr hy24 (hb24.trans (congrArg some hzq426.symm))
                    have hF0 := hF24
                    try dsimp only at hF0
                    have hF := hFn.trans hF0
                    clear hFn hF0
                    refine inR ?_
                    refine thR ?_
                    obtain rfl := Option.some.inj hF
                    subst hB
                    refine finR (rs := [.tmp 4]) (vs := [.bool true]) rfl ⟨h424, trivial⟩ ?_
                    exact hI.fin 0 ⟨rfl, rfl⟩
                  · skip
                    rw [if_neg hc414] at hF
                    have hbhc414 : (decide ((200 : Int) < (x381.Sig.Once.Shut.length : Int))) = false := decide_eq_false hc414
                    refine lv (v := .bool false) rfl (r_mv rfl ((show opd _ _ _ = _ from rfl).trans (congrArg Value.bool hbhc414))) rfl ?_
                    refine lv (v := .pointer (some ⟨g390, 0 + 37, none⟩)) rfl (l_fa (j := 0) (i := 0) rfl fl35_6 h394 rfl) rfl ?_
                    refine lv (v := .pointer (some ⟨g390, 0 + 40, none⟩)) rfl (l_fa (j := 0) (i := 37) rfl fl33_2 rfl rfl) rfl ?_
                    refine lv (v := s389.v) rfl (r_cl1 (off := 40) (p := 9) (hI.good.ca 0 rfl) rfl sc27 rfl rfl rfl) rfl ?_
                    refine lv (v := .int .i64 (x381.Sig.Path.length : Int)) rfl (r_lenS rfl sl27 rfl hs389) rfl ?_
                    refine lv (v := .bool (decide ((200 : Int) < (x381.Sig.Path.length : Int)))) rfl (r_gtr rfl rfl rfl rfl) rfl ?_
                    refine lv (v := .bool (decide ((200 : Int) < (x381.Sig.Path.length : Int)))) rfl (r_pkF rfl rfl rfl) rfl ?_
                    refine wend ?_
                    refine wthen ?_
                    refine wren (fun ρ427 eρ427 => ?_)
                    have h428 : opd ρ427 72 (.tmp 18) = s2.v := (eρ427 18).trans h395
                    have h429 : opd ρ427 72 (.tmp 19) = .int .i64 (a1.length : Int) := (eρ427 19).trans h396
                    have h430 : opd ρ427 72 (.tmp 20) = .int .i64 (i24 : Int) := (eρ427 20).trans h397
                    have h431 : opd ρ427 72 (.tmp 43) = s248.v := (eρ427 43).trans h398
                    have h432 : opd ρ427 72 (.tmp 44) = .int .i64 (x241.Cert.Votes.length : Int) := (eρ427 44).trans h399
                    have h433 : opd ρ427 72 (.tmp 45) = .int .i64 (i299 : Int) := (eρ427 45).trans h400
                    have h434 : opd ρ427 72 (.tmp 69) = .bool (decide ((200 : Int) < (x381.Sig.Path.length : Int))) := eρ427 69
                    clear eρ427
                    by_cases hc435 : (200 : Int) < (x381.Sig.Path.length : Int)
                    · skip
                      rw [if_pos hc435] at hF
                      have hbhc435 : (decide ((200 : Int) < (x381.Sig.Path.length : Int))) = true := decide_eq_true hc435
                      refine wcT (h434.trans (congrArg Value.bool hbhc435)) ?_
                      refine wseq ?_
                      refine wreg ?_
                      refine lv (v := .bool true) rfl (r_as rfl rfl) rfl ?_
                      refine wend ?_
                      refine wthen ?_
                      refine wren (fun ρ436 eρ436 => ?_)
                      have h437 : opd ρ436 72 (.tmp 4) = .bool true := eρ436 4
                      clear eρ436
                      refine wp_ret ?_
                      refine inR ?_
                      refine thR ?_
                      refine thR ?_
                      obtain ⟨q438, hFn, hzq438⟩ := Option.map_eq_some_iff.1 hF
                      clear hF
                      obtain rfl := forK_inr hy299 (hb299.trans (congrArg some hzq438.symm))
                      have hF0 := hF299
                      try dsimp only at hF0
                      have hF := hFn.trans hF0
                      clear hFn hF0
                      refine inR ?_
                      refine inR ?_
                      refine thR ?_
                      refine thR ?_
                      obtain ⟨q439, hFn, hzq439⟩ := Option.map_eq_some_iff.1 hF
                      clear hF
                      obtain rfl := forK_inr hy24 (hb24.trans (congrArg some hzq439.symm))
                      have hF0 := hF24
                      try dsimp only at hF0
                      have hF := hFn.trans hF0
                      clear hFn hF0
                      refine inR ?_
                      refine thR ?_
                      obtain rfl := Option.some.inj hF
                      subst hB
                      refine finR (rs := [.tmp 4]) (vs := [.bool true]) rfl ⟨h437, trivial⟩ ?_
                      exact hI.fin 0 ⟨rfl, rfl⟩
                    · skip
                      rw [if_neg hc435] at hF
                      have hbhc435 : (decide ((200 : Int) < (x381.Sig.Path.length : Int))) = false := decide_eq_false hc435
                      refine wcF (h434.trans (congrArg Value.bool hbhc435)) ?_
                      refine wp_skip ?_
                      refine inN ?_
                      refine wthen ?_
                      refine wreg ?_
                      refine lv (v := .int .i64 ((i299 + 1 : Nat) : Int)) rfl (r_addn rfl h433 rfl hlt299) rfl ?_
                      refine lv (v := .int .i64 ((i299 + 1 : Nat) : Int)) rfl (r_mv rfl rfl) rfl ?_
                      refine wend ?_
                      obtain rfl := Option.some.inj hF
                      exact ⟨k299, (), _, rfl, rfl, ⟨H364, hleH364, h428, h429, h430, h431, h432, rfl, (hI.keep [false])⟩, forK_inl hy299 hb299⟩
              · skip
                have hbhc373 : (decide ((i299 : Int) < (x241.Cert.Votes.length : Int))) = false := decide_eq_false hc373
                obtain rfl : k299 = 0 := by omega
                obtain rfl := forK_end hy299
                have hF := hF299
                try dsimp only at hF
                refine wcF ((show opd _ _ _ = _ from rfl).trans (congrArg Value.bool hbhc373)) ?_
                refine wp_exit ?_
                refine thE ?_
                refine thE ?_
                refine inX ?_
                refine inN ?_
                refine wthen ?_
                refine wren (fun ρ440 eρ440 => ?_)
                have h441 : opd ρ440 72 (.tmp 18) = s2.v := (eρ440 18).trans h365
                have h442 : opd ρ440 72 (.tmp 19) = .int .i64 (a1.length : Int) := (eρ440 19).trans h366
                have h443 : opd ρ440 72 (.tmp 20) = .int .i64 (i24 : Int) := (eρ440 20).trans h367
                clear eρ440
                refine wreg ?_
                refine lv (v := .int .i64 ((i24 + 1 : Nat) : Int)) rfl (r_addn rfl h443 rfl hlt24) rfl ?_
                refine lv (v := .int .i64 ((i24 + 1 : Nat) : Int)) rfl (r_mv rfl rfl) rfl ?_
                refine wend ?_
                obtain rfl := Option.some.inj hF
                exact ⟨k24, (), _, rfl, rfl, ⟨H364, ((hleH230.trans hleH279).trans hleH364), h441, h442, rfl, hI⟩, forK_inl hy24 hb24⟩
      · skip
        have hbhc236 : (decide ((i24 : Int) < (a1.length : Int))) = false := decide_eq_false hc236
        obtain rfl : k24 = 0 := by omega
        obtain rfl := forK_end hy24
        have hF := hF24
        try dsimp only at hF
        refine wcF ((show opd _ _ _ = _ from rfl).trans (congrArg Value.bool hbhc236)) ?_
        refine wp_exit ?_
        refine thE ?_
        refine thE ?_
        refine inX ?_
        refine wthen ?_
        refine wren (fun ρ444 eρ444 => ?_)
        clear eρ444
        refine wseq ?_
        refine wreg ?_
        refine lv (v := .bool false) rfl (r_as rfl rfl) rfl ?_
        refine wend ?_
        refine wthen ?_
        refine wren (fun ρ445 eρ445 => ?_)
        have h446 : opd ρ445 72 (.tmp 4) = .bool false := eρ445 4
        clear eρ445
        refine wp_ret ?_
        obtain rfl := Option.some.inj hF
        subst hB
        refine finR (rs := [.tmp 4]) (vs := [.bool false]) rfl ⟨h446, trivial⟩ ?_
        exact hI.fin 0 ⟨rfl, rfl⟩
noncomputable def M_wapentakeref08_Same (a0 : Config) (a1 : Config) : Option (Bool) := (if a0.Epoch ≠ a1.Epoch then some false else (if (a0.Members.length : Int) ≠ (a1.Members.length : Int) then some false else ((forK (fun (i29 : Nat) (σ29 : Unit) => (((a0.Members[i29]?).bind fun x87 => ((a1.Members[i29]?).bind fun x93 => (if x87 = x93 then some (.inl ()) else ((some false).map Sum.inr)))) : Option (Unit ⊕ Bool))) a0.Members.length 0 ()).bind fun y => match y with | .inl _ => some true | .inr r => some r)))
set_option maxHeartbeats 4000000 in
theorem spec_35 {w : World} {H : Hp} {a0 : Config} {a1 : Config} {s1 : Sv} {s2 : Sv} {r : Bool} (hF : M_wapentakeref08_Same a0 a1 = some r) (hT : Tab H) (hG : Good w H []) (hs1 : Sl (Fl.ty fl_Member) H s1 a0.Members) (hs2 : Sl (Fl.ty fl_Member) H s2 a1.Members) :
    Fine Tryd.prog 35 [.agg (flat [ckI a0.Epoch, ckL s1]).toArray, .agg (flat [ckI a1.Epoch, ckL s2]).toArray] w H [] (fun H' v L' => v = .bool r ∧ L' = []) := by
  unfold M_wapentakeref08_Same at hF
  unfold Fine
  obtain ⟨B, hB⟩ : ∃ B : Base, B = ⟨w, H, blks []⟩ := ⟨_, rfl⟩
  have hI : Inv B w H [] := by rw [hB]; exact Inv.start hG
  refine enter (n := 38) (args := [.agg (flat [ckI a0.Epoch, ckL s1]).toArray, .agg (flat [ckI a1.Epoch, ckL s2]).toArray]) Tryd.func35 rfl Tryd.ntmps35 (Nat.le_of_ble_eq_true rfl) ?_
  refine wseq ?_
  refine wreg ?_
  refine le rfl (l_box (cks := [ckI a0.Epoch, ckL s1]) hI rfl rfl rfl) rfl ?_
  rintro _ w4 ⟨g3, rfl, hI⟩
  replace hI : Inv B w4 H [.cb g3 [ckI a0.Epoch, ckL s1] 64] := hI
  refine le rfl (l_box (cks := [ckI a1.Epoch, ckL s2]) hI rfl rfl rfl) rfl ?_
  rintro _ w6 ⟨g5, rfl, hI⟩
  replace hI : Inv B w6 H [.cb g3 [ckI a0.Epoch, ckL s1] 64, .cb g5 [ckI a1.Epoch, ckL s2] 64] := hI
  refine lv (v := .bool false) rfl (r_as rfl rfl) rfl ?_
  refine wend ?_
  refine wthen ?_
  refine wren (fun ρ7 eρ7 => ?_)
  have h8 : opd ρ7 38 (.tmp 2) = .pointer (some ⟨g3, 0 + 0, none⟩) := eρ7 2
  have h9 : opd ρ7 38 (.tmp 3) = .pointer (some ⟨g5, 0 + 0, none⟩) := eρ7 3
  clear eρ7
  refine wseq ?_
  refine wseq ?_
  refine wreg ?_
  refine lv (v := .pointer (some ⟨g3, 0 + 0, none⟩)) rfl (l_fa (j := 0) (i := 0) rfl fl64_0 h8 rfl) rfl ?_
  refine lv (v := .int .i64 a0.Epoch) rfl (r_cl1 (off := 0) (p := 0) (hI.good.ca 0 rfl) rfl sc3 rfl rfl rfl) rfl ?_
  refine lv (v := .pointer (some ⟨g5, 0 + 0, none⟩)) rfl (l_fa (j := 0) (i := 0) rfl fl64_0 h9 rfl) rfl ?_
  refine lv (v := .int .i64 a1.Epoch) rfl (r_cl1 (off := 0) (p := 0) (hI.good.ca 1 rfl) rfl sc3 rfl rfl rfl) rfl ?_
  refine lv (v := .bool (decide (a0.Epoch ≠ a1.Epoch))) rfl (r_neq rfl rfl rfl rfl) rfl ?_
  by_cases hc10 : a0.Epoch ≠ a1.Epoch
  · skip
    rw [if_pos hc10] at hF
    have hbhc10 : (decide (a0.Epoch ≠ a1.Epoch)) = true := decide_eq_true hc10
    refine lv (v := .bool true) rfl (r_mv rfl ((show opd _ _ _ = _ from rfl).trans (congrArg Value.bool hbhc10))) rfl ?_
    with_reducible refine lx (d := 12) (by kernel_rfl) (by kernel_rfl) ?_
    with_reducible refine lx (d := 13) (by kernel_rfl) (by kernel_rfl) ?_
    with_reducible refine lx (d := 14) (by kernel_rfl) (by kernel_rfl) ?_
    with_reducible refine lx (d := 15) (by kernel_rfl) (by kernel_rfl) ?_
    with_reducible refine lx (d := 16) (by kernel_rfl) (by kernel_rfl) ?_
    with_reducible refine lx (d := 17) (by kernel_rfl) (by kernel_rfl) ?_
    with_reducible refine lx (d := 18) (by kernel_rfl) (by kernel_rfl) ?_
    refine lv (v := .bool true) rfl (r_pkT rfl rfl rfl) rfl ?_
    refine wend ?_
    refine wthen ?_
    refine wren (fun ρ11 eρ11 => ?_)
    have h12 : opd ρ11 38 (.tmp 2) = .pointer (some ⟨g3, 0 + 0, none⟩) := (eρ11 2).trans h8
    have h13 : opd ρ11 38 (.tmp 3) = .pointer (some ⟨g5, 0 + 0, none⟩) := (eρ11 3).trans h9
    have h14 : opd ρ11 38 (.tmp 19) = .bool true := eρ11 19
    clear eρ11
    refine wcT h14 ?_
    refine wseq ?_
    refine wreg ?_
    refine lv (v := .bool false) rfl (r_as rfl rfl) rfl ?_
    refine wend ?_
    refine wthen ?_
    refine wren (fun ρ15 eρ15 => ?_)
    have h16 : opd ρ15 38 (.tmp 4) = .bool false := eρ15 4
    clear eρ15
    refine wp_ret ?_
    refine thR ?_
    obtain rfl := Option.some.inj hF
    subst hB
    refine finR (rs := [.tmp 4]) (vs := [.bool false]) rfl ⟨h16, trivial⟩ ?_
    exact hI.fin 0 ⟨rfl, rfl⟩
  · skip
    rw [if_neg hc10] at hF
    have hbhc10 : (decide (a0.Epoch ≠ a1.Epoch)) = false := decide_eq_false hc10
    refine lv (v := .bool false) rfl (r_mv rfl ((show opd _ _ _ = _ from rfl).trans (congrArg Value.bool hbhc10))) rfl ?_
    refine lv (v := .pointer (some ⟨g3, 0 + 1, none⟩)) rfl (l_fa (j := 0) (i := 0) rfl fl64_1 h8 rfl) rfl ?_
    refine lv (v := s1.v) rfl (r_cl1 (off := 1) (p := 1) (hI.good.ca 0 rfl) rfl sc62 rfl rfl rfl) rfl ?_
    refine lv (v := .int .i64 (a0.Members.length : Int)) rfl (r_lenS rfl sl62 rfl hs1) rfl ?_
    refine lv (v := .pointer (some ⟨g5, 0 + 1, none⟩)) rfl (l_fa (j := 0) (i := 0) rfl fl64_1 h9 rfl) rfl ?_
    refine lv (v := s2.v) rfl (r_cl1 (off := 1) (p := 1) (hI.good.ca 1 rfl) rfl sc62 rfl rfl rfl) rfl ?_
    refine lv (v := .int .i64 (a1.Members.length : Int)) rfl (r_lenS rfl sl62 rfl hs2) rfl ?_
    refine lv (v := .bool (decide ((a0.Members.length : Int) ≠ (a1.Members.length : Int)))) rfl (r_neq rfl rfl rfl rfl) rfl ?_
    refine lv (v := .bool (decide ((a0.Members.length : Int) ≠ (a1.Members.length : Int)))) rfl (r_pkF rfl rfl rfl) rfl ?_
    refine wend ?_
    refine wthen ?_
    refine wren (fun ρ17 eρ17 => ?_)
    have h18 : opd ρ17 38 (.tmp 2) = .pointer (some ⟨g3, 0 + 0, none⟩) := (eρ17 2).trans h8
    have h19 : opd ρ17 38 (.tmp 3) = .pointer (some ⟨g5, 0 + 0, none⟩) := (eρ17 3).trans h9
    have h20 : opd ρ17 38 (.tmp 19) = .bool (decide ((a0.Members.length : Int) ≠ (a1.Members.length : Int))) := eρ17 19
    clear eρ17
    by_cases hc21 : (a0.Members.length : Int) ≠ (a1.Members.length : Int)
    · skip
      rw [if_pos hc21] at hF
      have hbhc21 : (decide ((a0.Members.length : Int) ≠ (a1.Members.length : Int))) = true := decide_eq_true hc21
      refine wcT (h20.trans (congrArg Value.bool hbhc21)) ?_
      refine wseq ?_
      refine wreg ?_
      refine lv (v := .bool false) rfl (r_as rfl rfl) rfl ?_
      refine wend ?_
      refine wthen ?_
      refine wren (fun ρ22 eρ22 => ?_)
      have h23 : opd ρ22 38 (.tmp 4) = .bool false := eρ22 4
      clear eρ22
      refine wp_ret ?_
      refine thR ?_
      obtain rfl := Option.some.inj hF
      subst hB
      refine finR (rs := [.tmp 4]) (vs := [.bool false]) rfl ⟨h23, trivial⟩ ?_
      exact hI.fin 0 ⟨rfl, rfl⟩
    · skip
      rw [if_neg hc21] at hF
      have hbhc21 : (decide ((a0.Members.length : Int) ≠ (a1.Members.length : Int))) = false := decide_eq_false hc21
      refine wcF (h20.trans (congrArg Value.bool hbhc21)) ?_
      refine wp_skip ?_
      refine wthen ?_
      refine wseq ?_
      refine wseq ?_
      refine wreg ?_
      refine lv (v := .pointer (some ⟨g3, 0 + 1, none⟩)) rfl (l_fa (j := 0) (i := 0) rfl fl64_1 h18 rfl) rfl ?_
      refine lv (v := s1.v) rfl (r_cl1 (off := 1) (p := 1) (hI.good.ca 0 rfl) rfl sc62 rfl rfl rfl) rfl ?_
      refine lv (v := .int .i64 (a0.Members.length : Int)) rfl (r_lenS rfl sl62 rfl hs1) rfl ?_
      refine lv (v := .int .i64 0) rfl (r_mv rfl rfl) rfl ?_
      refine wend ?_
      refine wthen ?_
      refine wren (fun ρ24 eρ24 => ?_)
      have h25 : opd ρ24 38 (.tmp 2) = .pointer (some ⟨g3, 0 + 0, none⟩) := (eρ24 2).trans h18
      have h26 : opd ρ24 38 (.tmp 3) = .pointer (some ⟨g5, 0 + 0, none⟩) := (eρ24 3).trans h19
      have h27 : opd ρ24 38 (.tmp 22) = .int .i64 (a0.Members.length : Int) := eρ24 22
      have h28 : opd ρ24 38 (.tmp 23) = .int .i64 0 := eρ24 23
      clear eρ24
      refine wp_block ?_
      have hbd29 := (hs1).bd
      rw [(hs1).n] at hbd29
      obtain ⟨y29, hy29, hF29⟩ := Option.bind_eq_some_iff.1 hF
      refine wfor (n := 38) a0.Members.length _ (fun (i29 : Nat) (σ29 : Unit) ρ' w' => ∃ (H67 : Hp), Hle H H67 ∧ opd ρ' 38 (.tmp 2) = .pointer (some ⟨g3, 0 + 0, none⟩) ∧ opd ρ' 38 (.tmp 3) = .pointer (some ⟨g5, 0 + 0, none⟩) ∧ opd ρ' 38 (.tmp 22) = .int .i64 (a0.Members.length : Int) ∧ opd ρ' 38 (.tmp 23) = .int .i64 (i29 : Int) ∧ Inv B w' H67 [.cb g3 [ckI a0.Epoch, ckL s1] 64, .cb g5 [ckI a1.Epoch, ckL s2] 64]) hy29 ⟨H, (Hle.refl _), h25, h26, h27, h28, hI⟩ ?_
      rintro k29 i29 σ29 ρ72 w73 hk29 ⟨H67, hleH67, h68, h69, h70, h71, hI⟩ hy29
      refine wseq ?_
      refine wreg ?_
      refine lv (v := .bool (decide ((i29 : Int) < (a0.Members.length : Int)))) rfl (r_lss rfl h71 h70 rfl) rfl ?_
      refine wend ?_
      refine wthen ?_
      refine wseq ?_
      by_cases hc74 : (i29 : Int) < (a0.Members.length : Int)
      · skip
        have hbhc74 : (decide ((i29 : Int) < (a0.Members.length : Int))) = true := decide_eq_true hc74
        obtain ⟨k29, rfl⟩ : ∃ m, k29 = m + 1 := ⟨k29 - 1, by omega⟩
        obtain ⟨z29, hb29⟩ := forK_body hy29
        have hF := hb29
        have hlt29 : ((i29 : Nat) : Int) + 1 ≤ 9223372036854775807 := by omega
        refine wcT ((show opd _ _ _ = _ from rfl).trans (congrArg Value.bool hbhc74)) ?_
        refine wp_skip ?_
        refine wthen ?_
        refine wren (fun ρ75 eρ75 => ?_)
        have h76 : opd ρ75 38 (.tmp 2) = .pointer (some ⟨g3, 0 + 0, none⟩) := (eρ75 2).trans h68
        have h77 : opd ρ75 38 (.tmp 3) = .pointer (some ⟨g5, 0 + 0, none⟩) := (eρ75 3).trans h69
        have h78 : opd ρ75 38 (.tmp 22) = .int .i64 (a0.Members.length : Int) := (eρ75 22).trans h70
        have h79 : opd ρ75 38 (.tmp 23) = .int .i64 (i29 : Int) := (eρ75 23).trans h71
        clear eρ75
        refine wseq ?_
        refine wp_block ?_
        refine wseq ?_
        refine wreg ?_
        refine lv (v := .int .i64 (i29 : Int)) rfl (r_mv rfl h79) rfl ?_
        refine lv (v := .int .i64 (i29 : Int)) rfl (r_as rfl rfl) rfl ?_
        refine wend ?_
        refine wthen ?_
        refine wren (fun ρ80 eρ80 => ?_)
        have h81 : opd ρ80 38 (.tmp 2) = .pointer (some ⟨g3, 0 + 0, none⟩) := (eρ80 2).trans h76
        have h82 : opd ρ80 38 (.tmp 3) = .pointer (some ⟨g5, 0 + 0, none⟩) := (eρ80 3).trans h77
        have h83 : opd ρ80 38 (.tmp 5) = .int .i64 (i29 : Int) := eρ80 5
        have h84 : opd ρ80 38 (.tmp 22) = .int .i64 (a0.Members.length : Int) := (eρ80 22).trans h78
        have h85 : opd ρ80 38 (.tmp 23) = .int .i64 (i29 : Int) := (eρ80 23).trans h79
        clear eρ80
        refine wseq ?_
        refine dstG (H0 := H67) (L0 := keepL [true, true] [.cb g3 [ckI a0.Epoch, ckL s1] 64, .cb g5 [ckI a1.Epoch, ckL s2] 64]) [] mixed rfl (by repeat (first | exact Pan.body | refine Pan.then ?_ | refine Pan.inBlock ?_ | refine Pan.noGoto ?_ | refine Pan.pure ?_)) hI (hI.good.weakm _ (Hle.refl _) rfl) ?_
        intro w86 hI hP
        refine dp (v := .pointer (some ⟨g3, 0 + 1, none⟩)) 0 (by kernel_rfl) rfl rfl (fun _ => l_fa (j := 0) (i := 0) rfl fl64_1 h81 rfl) rfl hP ?_
        refine dp (v := .int .i64 (i29 : Int)) 2 (by kernel_rfl) rfl rfl (fun _ => r_mv rfl h83) rfl hP ?_
        refine dp (v := .pointer (some ⟨g5, 0 + 1, none⟩)) 5 (by kernel_rfl) rfl rfl (fun _ => l_fa (j := 0) (i := 0) rfl fl64_1 h82 rfl) rfl hP ?_
        refine dp (v := .int .i64 (i29 : Int)) 7 (by kernel_rfl) rfl rfl (fun _ => r_mv rfl h83) rfl hP ?_
        refine dr (v := s1.v) 1 (by kernel_rfl) rfl rfl (hI.good.weakm [true, true] (Hle.refl _) rfl) (fun _ hG => r_cl1 (off := 1) (p := 1) (hG.ca 0 rfl) rfl sc62 rfl rfl rfl) rfl hP ?_
        obtain ⟨x87, hx87, hF⟩ := Option.bind_eq_some_iff.1 hF
        obtain ⟨b88, j89, hix90, hil91, hA92⟩ := (hs1.mono hleH67).ixf hx87
        replace hA92 : At H67 b88 j89 [ckI x87.Id, ckV flB x87.Key.Root, ckI x87.Key.Height] := hA92
        refine dp (v := .pointer (some ⟨b88, j89 + 0, none⟩)) 3 (by kernel_rfl) rfl rfl (fun _ => r_ixt rfl sl62 rfl rfl rfl hix90 hil91) rfl hP ?_
        refine dr (v := .agg (flat [ckI x87.Id, ckV flB x87.Key.Root, ckI x87.Key.Height]).toArray) 4 (by kernel_rfl) rfl rfl (hI.good.weakm [true, true] (Hle.refl _) rfl) (fun _ hG => r_cla (off := 0) (p := 0) (m := 3) (hA92.ca hG) rfl ag114 rfl rfl rfl) rfl hP ?_
        refine dr (v := s2.v) 6 (by kernel_rfl) rfl rfl (hI.good.weakm [true, true] (Hle.refl _) rfl) (fun _ hG => r_cl1 (off := 1) (p := 1) (hG.ca 1 rfl) rfl sc62 rfl rfl rfl) rfl hP ?_
        obtain ⟨x93, hx93, hF⟩ := Option.bind_eq_some_iff.1 hF
        obtain ⟨b94, j95, hix96, hil97, hA98⟩ := (hs2.mono hleH67).ixf hx93
        replace hA98 : At H67 b94 j95 [ckI x93.Id, ckV flB x93.Key.Root, ckI x93.Key.Height] := hA98
        refine dp (v := .pointer (some ⟨b94, j95 + 0, none⟩)) 8 (by kernel_rfl) rfl rfl (fun _ => r_ixt rfl sl62 rfl rfl rfl hix96 hil97) rfl hP ?_
        refine dr (v := .agg (flat [ckI x93.Id, ckV flB x93.Key.Root, ckI x93.Key.Height]).toArray) 9 (by kernel_rfl) rfl rfl (hI.good.weakm [true, true] (Hle.refl _) rfl) (fun _ hG => r_cla (off := 0) (p := 0) (m := 3) (hA98.ca hG) rfl ag114 rfl rfl rfl) rfl hP ?_
        refine dp (v := .bool (!decide (x87 = x93))) 10 (by kernel_rfl) rfl rfl (fun _ => r_neT eqt114 rfl sb114 (fun _ => rfl) rfl rfl rfl) rfl hP ?_
        refine dend (by kernel_rfl) ?_
        refine wthen ?_
        refine wren (fun ρ99 eρ99 => ?_)
        have h100 : opd ρ99 38 (.tmp 2) = .pointer (some ⟨g3, 0 + 0, none⟩) := (eρ99 2).trans h81
        have h101 : opd ρ99 38 (.tmp 3) = .pointer (some ⟨g5, 0 + 0, none⟩) := (eρ99 3).trans h82
        have h102 : opd ρ99 38 (.tmp 22) = .int .i64 (a0.Members.length : Int) := (eρ99 22).trans h84
        have h103 : opd ρ99 38 (.tmp 23) = .int .i64 (i29 : Int) := (eρ99 23).trans h85
        have h104 : opd ρ99 38 (.tmp 36) = .bool (!decide (x87 = x93)) := eρ99 36
        clear eρ99
        by_cases hc105 : x87 = x93
        · skip
          rw [if_pos hc105] at hF
          have hbhc105 : (!decide (x87 = x93)) = false := (by rw [decide_eq_true hc105]; rfl)
          refine wcF (h104.trans (congrArg Value.bool hbhc105)) ?_
          refine wp_skip ?_
          refine inN ?_
          refine wthen ?_
          refine wreg ?_
          refine lv (v := .int .i64 ((i29 + 1 : Nat) : Int)) rfl (r_addn rfl h103 rfl hlt29) rfl ?_
          refine lv (v := .int .i64 ((i29 + 1 : Nat) : Int)) rfl (r_mv rfl rfl) rfl ?_
          refine wend ?_
          obtain rfl := Option.some.inj hF
          exact ⟨k29, (), _, rfl, rfl, ⟨H67, hleH67, h100, h101, h102, rfl, hI⟩, forK_inl hy29 hb29⟩
        · skip
          rw [if_neg hc105] at hF
          have hbhc105 : (!decide (x87 = x93)) = true := (by rw [decide_eq_false hc105]; rfl)
          refine wcT (h104.trans (congrArg Value.bool hbhc105)) ?_
          refine wseq ?_
          refine wreg ?_
          refine lv (v := .bool false) rfl (r_as rfl rfl) rfl ?_
          refine wend ?_
          refine wthen ?_
          refine wren (fun ρ106 eρ106 => ?_)
          have h107 : opd ρ106 38 (.tmp 4) = .bool false := eρ106 4
          clear eρ106
          refine wp_ret ?_
          refine inR ?_
          refine thR ?_
          refine thR ?_
          obtain ⟨q108, hFn, hzq108⟩ := Option.map_eq_some_iff.1 hF
          clear hF
          obtain rfl := forK_inr hy29 (hb29.trans (congrArg some hzq108.symm))
          have hF0 := hF29
          try dsimp only at hF0
          have hF := hFn.trans hF0
          clear hFn hF0
          refine inR ?_
          refine thR ?_
          obtain rfl := Option.some.inj hF
          subst hB
          refine finR (rs := [.tmp 4]) (vs := [.bool false]) rfl ⟨h107, trivial⟩ ?_
          exact hI.fin 0 ⟨rfl, rfl⟩
      · skip
        have hbhc74 : (decide ((i29 : Int) < (a0.Members.length : Int))) = false := decide_eq_false hc74
        obtain rfl : k29 = 0 := by omega
        obtain rfl := forK_end hy29
        have hF := hF29
        try dsimp only at hF
        refine wcF ((show opd _ _ _ = _ from rfl).trans (congrArg Value.bool hbhc74)) ?_
        refine wp_exit ?_
        refine thE ?_
        refine thE ?_
        refine inX ?_
        refine wthen ?_
        refine wren (fun ρ109 eρ109 => ?_)
        clear eρ109
        refine wseq ?_
        refine wreg ?_
        refine lv (v := .bool true) rfl (r_as rfl rfl) rfl ?_
        refine wend ?_
        refine wthen ?_
        refine wren (fun ρ110 eρ110 => ?_)
        have h111 : opd ρ110 38 (.tmp 4) = .bool true := eρ110 4
        clear eρ110
        refine wp_ret ?_
        obtain rfl := Option.some.inj hF
        subst hB
        refine finR (rs := [.tmp 4]) (vs := [.bool true]) rfl ⟨h111, trivial⟩ ?_
        exact hI.fin 0 ⟨rfl, rfl⟩
noncomputable def M_wapentakelaw15_ChainParts (a0 : Config) (a1 : List Link) (a2 : Int) : Option (Bool) := ((M_wapentakelaw15_alive).bind fun x9 => (if x9 = true then ((M_wapentakelaw15_great a0 a1).bind fun x19 => (if x19 = true then some true else (if a2 < 0 then some true else (if (a1.length : Int) < a2 then some true else ((M_chain_Check a0 a1).bind fun x47 => ((((cutI a1 0 a2).bind fun x81 => ((M_chain_Check a0 x81).bind fun x83 => some (x83.2.1, x83.2.2, x83.1.Epoch, x83.1.Members)))).bind fun (x64 : Int × Int × Int × (List Member)) => (if x47.2.2 ≠ 0 then (if x64.2.1 = 0 then (if x64.1 = a2 then (if a2 ≤ x47.2.1 then some true else (if x64.2.1 = x47.2.2 then some (decide (x64.1 = x47.2.1)) else some false)) else (if x64.2.1 = x47.2.2 then some (decide (x64.1 = x47.2.1)) else some false)) else (if x64.2.1 = x47.2.2 then some (decide (x64.1 = x47.2.1)) else some false)) else (if x64.2.1 ≠ 0 then some false else (if x47.2.1 ≠ (a1.length : Int) then some false else ((((cutI a1 a2 (a1.length : Int)).bind fun x166 => ((M_chain_Check (⟨x64.2.2.1, x64.2.2.2⟩ : Config) x166).bind fun x168 => some (x168.2.2, x168.1.Epoch, x168.1.Members)))).bind fun (x153 : Int × Int × (List Member)) => ((forK (fun (i200 : Nat) (σ200 : Int × Int) => (((a1[i200]?).bind fun x384 => (if x384.Config.Epoch ≤ σ200.1 then ((some false).map Sum.inr) else (if x384.Block.Height ≤ σ200.2 then ((some false).map Sum.inr) else (if x384.Block.Epoch ≠ σ200.1 then ((some false).map Sum.inr) else some (.inl (x384.Config.Epoch, x384.Block.Height)))))) : Option ((Int × Int) ⊕ Bool))) a1.length 0 (a0.Epoch, 0)).bind fun y => match y with | .inl σ200 => (if x153.1 = 0 then ((M_wapentakeref08_Same (⟨x153.2.1, x153.2.2⟩ : Config) x47.1).bind fun x460 => some x460) else some false) | .inr r => some r))))))))))) else some false))
set_option maxHeartbeats 4000000 in
theorem spec_6 {w : World} {H : Hp} {a0 : Config} {a1 : List Link} {a2 : Int} {s1 : Sv} {s2 : Sv} {r : Bool} (hF : M_wapentakelaw15_ChainParts a0 a1 a2 = some r) (hT : Tab H) (hG : Good w H []) (hs1 : Sl (Fl.ty fl_Member) H s1 a0.Members) (hs2 : Sl ty_Link H s2 a1) :
    Fine Tryd.prog 6 [.agg (flat [ckI a0.Epoch, ckL s1]).toArray, s2.v, .int .i64 a2] w H [] (fun H' v L' => v = .bool r ∧ L' = []) := by
  unfold M_wapentakelaw15_ChainParts at hF
  unfold Fine
  obtain ⟨B, hB⟩ : ∃ B : Base, B = ⟨w, H, blks []⟩ := ⟨_, rfl⟩
  have hI : Inv B w H [] := by rw [hB]; exact Inv.start hG
  refine enter (n := 133) (args := [.agg (flat [ckI a0.Epoch, ckL s1]).toArray, s2.v, .int .i64 a2]) Tryd.func6 rfl Tryd.ntmps6 (Nat.le_of_ble_eq_true rfl) ?_
  refine wseq ?_
  refine wreg ?_
  refine le rfl (l_box (cks := [ckI a0.Epoch, ckL s1]) hI rfl rfl rfl) rfl ?_
  rintro _ w4 ⟨g3, rfl, hI⟩
  replace hI : Inv B w4 H [.cb g3 [ckI a0.Epoch, ckL s1] 64] := hI
  refine lv (v := .bool false) rfl (r_as rfl rfl) rfl ?_
  refine wend ?_
  refine wthen ?_
  refine wren (fun ρ5 eρ5 => ?_)
  have h6 : opd ρ5 133 (.tmp 1) = s2.v := eρ5 1
  have h7 : opd ρ5 133 (.tmp 2) = .int .i64 a2 := eρ5 2
  have h8 : opd ρ5 133 (.tmp 3) = .pointer (some ⟨g3, 0 + 0, none⟩) := eρ5 3
  clear eρ5
  refine wseq ?_
  refine wseq ?_
  refine wreg ?_
  obtain ⟨x9, hx9, hF⟩ := Option.bind_eq_some_iff.1 hF
  have hsp12 := spec_29 hx9 hT (hI.part 0) 
  refine fc ([]) ([.cb g3 [ckI a0.Epoch, ckL s1] 64]) (args := []) fc29 rfl rfl rfl hI rfl (hsp12) ?_
  rintro _ H10 _ w11 ⟨rfl, rfl⟩ hleH10 hI
  replace hI : Inv B w11 H10 [.cb g3 [ckI a0.Epoch, ckL s1] 64] := hI
  refine lv (v := .bool (!x9)) rfl (r_not rfl rfl) rfl ?_
  refine wend ?_
  refine wthen ?_
  refine wren (fun ρ13 eρ13 => ?_)
  have h14 : opd ρ13 133 (.tmp 1) = s2.v := (eρ13 1).trans h6
  have h15 : opd ρ13 133 (.tmp 2) = .int .i64 a2 := (eρ13 2).trans h7
  have h16 : opd ρ13 133 (.tmp 3) = .pointer (some ⟨g3, 0 + 0, none⟩) := (eρ13 3).trans h8
  have h17 : opd ρ13 133 (.tmp 21) = .bool (!x9) := eρ13 21
  clear eρ13
  by_cases hc18 : x9 = true
  · skip
    rw [if_pos hc18] at hF
    have hbhc18 : (!x9) = false := (by rw [hc18]; rfl)
    refine wcF (h17.trans (congrArg Value.bool hbhc18)) ?_
    refine wp_skip ?_
    refine wthen ?_
    refine wseq ?_
    refine wseq ?_
    refine wreg ?_
    refine lv (v := .agg (flat [ckI a0.Epoch, ckL s1]).toArray) rfl (r_cla (off := 0) (p := 0) (m := 2) (hI.good.ca 0 rfl) rfl ag64 h16 rfl rfl) rfl ?_
    refine lv (v := s2.v) rfl (r_mv rfl h14) rfl ?_
    obtain ⟨x19, hx19, hF⟩ := Option.bind_eq_some_iff.1 hF
    have hsp22 := spec_30 hx19 (hT.mono hleH10) (hI.part 0) (hs1.mono hleH10) (hs2.mono hleH10)
    refine fc ([]) ([.cb g3 [ckI a0.Epoch, ckL s1] 64]) (args := [.agg (flat [ckI a0.Epoch, ckL s1]).toArray, s2.v]) fc30 rfl rfl rfl hI (argc rfl (argc rfl rfl)) (hsp22) ?_
    rintro _ H20 _ w21 ⟨rfl, rfl⟩ hleH20 hI
    replace hI : Inv B w21 H20 [.cb g3 [ckI a0.Epoch, ckL s1] 64] := hI
    by_cases hc23 : x19 = true
    · skip
      rw [if_pos hc23] at hF
      have hbhc23 : x19 = true := hc23
      refine lv (v := .bool true) rfl (r_mv rfl ((show opd _ _ _ = _ from rfl).trans (congrArg Value.bool hbhc23))) rfl ?_
      with_reducible refine lx (d := 26) (by kernel_rfl) (by kernel_rfl) ?_
      with_reducible refine lx (d := 27) (by kernel_rfl) (by kernel_rfl) ?_
      refine lv (v := .bool true) rfl (r_pkT rfl rfl rfl) rfl ?_
      refine lv (v := .bool true) rfl (r_mv rfl rfl) rfl ?_
      with_reducible refine lx (d := 30) (by kernel_rfl) (by kernel_rfl) ?_
      with_reducible refine lx (d := 31) (by kernel_rfl) (by kernel_rfl) ?_
      with_reducible refine lx (d := 32) (by kernel_rfl) (by kernel_rfl) ?_
      with_reducible refine lx (d := 33) (by kernel_rfl) (by kernel_rfl) ?_
      refine lv (v := .bool true) rfl (r_pkT rfl rfl rfl) rfl ?_
      refine wend ?_
      refine wthen ?_
      refine wren (fun ρ24 eρ24 => ?_)
      have h25 : opd ρ24 133 (.tmp 1) = s2.v := (eρ24 1).trans h14
      have h26 : opd ρ24 133 (.tmp 2) = .int .i64 a2 := (eρ24 2).trans h15
      have h27 : opd ρ24 133 (.tmp 3) = .pointer (some ⟨g3, 0 + 0, none⟩) := (eρ24 3).trans h16
      have h28 : opd ρ24 133 (.tmp 34) = .bool true := eρ24 34
      clear eρ24
      refine wcT h28 ?_
      refine wseq ?_
      refine wreg ?_
      refine lv (v := .bool true) rfl (r_as rfl rfl) rfl ?_
      refine wend ?_
      refine wthen ?_
      refine wren (fun ρ29 eρ29 => ?_)
      have h30 : opd ρ29 133 (.tmp 6) = .bool true := eρ29 6
      clear eρ29
      refine wp_ret ?_
      refine thR ?_
      obtain rfl := Option.some.inj hF
      subst hB
      refine finR (rs := [.tmp 6]) (vs := [.bool true]) rfl ⟨h30, trivial⟩ ?_
      exact hI.fin 0 ⟨rfl, rfl⟩
    · skip
      rw [if_neg hc23] at hF
      have hbhc23 : x19 = false := (Bool.eq_false_iff.2 hc23)
      refine lv (v := .bool false) rfl (r_mv rfl ((show opd _ _ _ = _ from rfl).trans (congrArg Value.bool hbhc23))) rfl ?_
      refine lv (v := .int .i64 a2) rfl (r_mv rfl h15) rfl ?_
      refine lv (v := .bool (decide (a2 < 0))) rfl (r_lss rfl rfl rfl rfl) rfl ?_
      refine lv (v := .bool (decide (a2 < 0))) rfl (r_pkF rfl rfl rfl) rfl ?_
      by_cases hc31 : a2 < 0
      · skip
        rw [if_pos hc31] at hF
        have hbhc31 : (decide (a2 < 0)) = true := decide_eq_true hc31
        refine lv (v := .bool true) rfl (r_mv rfl ((show opd _ _ _ = _ from rfl).trans (congrArg Value.bool hbhc31))) rfl ?_
        with_reducible refine lx (d := 30) (by kernel_rfl) (by kernel_rfl) ?_
        with_reducible refine lx (d := 31) (by kernel_rfl) (by kernel_rfl) ?_
        with_reducible refine lx (d := 32) (by kernel_rfl) (by kernel_rfl) ?_
        with_reducible refine lx (d := 33) (by kernel_rfl) (by kernel_rfl) ?_
        refine lv (v := .bool true) rfl (r_pkT rfl rfl rfl) rfl ?_
        refine wend ?_
        refine wthen ?_
        refine wren (fun ρ32 eρ32 => ?_)
        have h33 : opd ρ32 133 (.tmp 1) = s2.v := (eρ32 1).trans h14
        have h34 : opd ρ32 133 (.tmp 2) = .int .i64 a2 := (eρ32 2).trans h15
        have h35 : opd ρ32 133 (.tmp 3) = .pointer (some ⟨g3, 0 + 0, none⟩) := (eρ32 3).trans h16
        have h36 : opd ρ32 133 (.tmp 34) = .bool true := eρ32 34
        clear eρ32
        refine wcT h36 ?_
        refine wseq ?_
        refine wreg ?_
        refine lv (v := .bool true) rfl (r_as rfl rfl) rfl ?_
        refine wend ?_
        refine wthen ?_
        refine wren (fun ρ37 eρ37 => ?_)
        have h38 : opd ρ37 133 (.tmp 6) = .bool true := eρ37 6
        clear eρ37
        refine wp_ret ?_
        refine thR ?_
        obtain rfl := Option.some.inj hF
        subst hB
        refine finR (rs := [.tmp 6]) (vs := [.bool true]) rfl ⟨h38, trivial⟩ ?_
        exact hI.fin 0 ⟨rfl, rfl⟩
      · skip
        rw [if_neg hc31] at hF
        have hbhc31 : (decide (a2 < 0)) = false := decide_eq_false hc31
        refine lv (v := .bool false) rfl (r_mv rfl ((show opd _ _ _ = _ from rfl).trans (congrArg Value.bool hbhc31))) rfl ?_
        refine lv (v := .int .i64 a2) rfl (r_mv rfl h15) rfl ?_
        refine lv (v := s2.v) rfl (r_mv rfl h14) rfl ?_
        refine lv (v := .int .i64 (a1.length : Int)) rfl (r_lenS rfl sl65 rfl ((hs2.mono hleH10).mono hleH20)) rfl ?_
        refine lv (v := .bool (decide ((a1.length : Int) < a2))) rfl (r_gtr rfl rfl rfl rfl) rfl ?_
        refine lv (v := .bool (decide ((a1.length : Int) < a2))) rfl (r_pkF rfl rfl rfl) rfl ?_
        refine wend ?_
        refine wthen ?_
        refine wren (fun ρ39 eρ39 => ?_)
        have h40 : opd ρ39 133 (.tmp 1) = s2.v := (eρ39 1).trans h14
        have h41 : opd ρ39 133 (.tmp 2) = .int .i64 a2 := (eρ39 2).trans h15
        have h42 : opd ρ39 133 (.tmp 3) = .pointer (some ⟨g3, 0 + 0, none⟩) := (eρ39 3).trans h16
        have h43 : opd ρ39 133 (.tmp 34) = .bool (decide ((a1.length : Int) < a2)) := eρ39 34
        clear eρ39
        by_cases hc44 : (a1.length : Int) < a2
        · skip
          rw [if_pos hc44] at hF
          have hbhc44 : (decide ((a1.length : Int) < a2)) = true := decide_eq_true hc44
          refine wcT (h43.trans (congrArg Value.bool hbhc44)) ?_
          refine wseq ?_
          refine wreg ?_
          refine lv (v := .bool true) rfl (r_as rfl rfl) rfl ?_
          refine wend ?_
          refine wthen ?_
          refine wren (fun ρ45 eρ45 => ?_)
          have h46 : opd ρ45 133 (.tmp 6) = .bool true := eρ45 6
          clear eρ45
          refine wp_ret ?_
          refine thR ?_
          obtain rfl := Option.some.inj hF
          subst hB
          refine finR (rs := [.tmp 6]) (vs := [.bool true]) rfl ⟨h46, trivial⟩ ?_
          exact hI.fin 0 ⟨rfl, rfl⟩
        · skip
          rw [if_neg hc44] at hF
          have hbhc44 : (decide ((a1.length : Int) < a2)) = false := decide_eq_false hc44
          refine wcF (h43.trans (congrArg Value.bool hbhc44)) ?_
          refine wp_skip ?_
          refine wthen ?_
          refine wseq ?_
          refine wreg ?_
          refine lv (v := .agg (flat [ckI a0.Epoch, ckL s1]).toArray) rfl (r_cla (off := 0) (p := 0) (m := 2) (hI.good.ca 0 rfl) rfl ag64 h42 rfl rfl) rfl ?_
          refine lv (v := s2.v) rfl (r_mv rfl h40) rfl ?_
          obtain ⟨x47, hx47, hF⟩ := Option.bind_eq_some_iff.1 hF
          have hsp50 := spec_33 hx47 ((hT.mono hleH10).mono hleH20) (hI.part 0) ((hs1.mono hleH10).mono hleH20) ((hs2.mono hleH10).mono hleH20)
          refine fc ([]) ([.cb g3 [ckI a0.Epoch, ckL s1] 64]) (args := [.agg (flat [ckI a0.Epoch, ckL s1]).toArray, s2.v]) fc33 rfl rfl rfl hI (argc rfl (argc rfl rfl)) (hsp50) ?_
          rintro _ H48 _ w49 ⟨s51, rfl, hs51, rfl⟩ hleH48 hI
          replace hI : Inv B w49 H48 [.cb g3 [ckI a0.Epoch, ckL s1] 64] := hI
          refine lv (v := .tuple #[.agg (flat [ckI x47.1.Epoch, ckL s51]).toArray, .int .i64 x47.2.1, .int .i64 x47.2.2]) rfl (r_mv rfl rfl) rfl ?_
          refine lv (v := .agg (flat [ckI x47.1.Epoch, ckL s51]).toArray) rfl (r_ext rfl rfl rfl) rfl ?_
          refine lv (v := .int .i64 x47.2.1) rfl (r_ext rfl rfl rfl) rfl ?_
          refine lv (v := .int .i64 x47.2.2) rfl (r_ext rfl rfl rfl) rfl ?_
          refine le rfl (l_al hI rfl ze64) rfl ?_
          rintro _ w53 ⟨g52, rfl, hI⟩
          replace hI : Inv B w53 H48 [.cb g3 [ckI a0.Epoch, ckL s1] 64, .cb g52 [ckI 0, ckL Sv.nil] 64] := hI
          refine lst rfl (l_st (off := 0) (p := 0) (m := 2) (new := [ckI x47.1.Epoch, ckL s51]) hI 1 rfl rfl sz64 rfl rfl rfl rfl rfl rfl) rfl ?_
          intro w54 hI
          replace hI : Inv B w54 H48 [.cb g3 [ckI a0.Epoch, ckL s1] 64, .cb g52 [ckI x47.1.Epoch, ckL s51] 64] := hI
          refine lv (v := .int .i64 x47.2.1) rfl (r_as rfl rfl) rfl ?_
          refine lv (v := .int .i64 x47.2.2) rfl (r_as rfl rfl) rfl ?_
          refine wend ?_
          refine wthen ?_
          refine wren (fun ρ55 eρ55 => ?_)
          have h56 : opd ρ55 133 (.tmp 1) = s2.v := (eρ55 1).trans h40
          have h57 : opd ρ55 133 (.tmp 2) = .int .i64 a2 := (eρ55 2).trans h41
          have h58 : opd ρ55 133 (.tmp 3) = .pointer (some ⟨g3, 0 + 0, none⟩) := (eρ55 3).trans h42
          have h59 : opd ρ55 133 (.tmp 7) = .pointer (some ⟨g52, 0 + 0, none⟩) := eρ55 7
          have h60 : opd ρ55 133 (.tmp 8) = .int .i64 x47.2.1 := eρ55 8
          have h61 : opd ρ55 133 (.tmp 9) = .int .i64 x47.2.2 := eρ55 9
          clear eρ55
          obtain ⟨x64, hx64, hF⟩ := Option.bind_eq_some_iff.1 hF
          refine wcut (fun ρ' w' => ∃ (H65 : Hp) (s67 : Sv) (g68 : Nat), Hle H48 H65 ∧ opd ρ' 133 (.tmp 1) = s2.v ∧ opd ρ' 133 (.tmp 2) = .int .i64 a2 ∧ opd ρ' 133 (.tmp 3) = .pointer (some ⟨g3, 0 + 0, none⟩) ∧ opd ρ' 133 (.tmp 7) = .pointer (some ⟨g52, 0 + 0, none⟩) ∧ opd ρ' 133 (.tmp 8) = .int .i64 x47.2.1 ∧ opd ρ' 133 (.tmp 9) = .int .i64 x47.2.2 ∧ opd ρ' 133 (.tmp 10) = .pointer (some ⟨g68, 0 + 0, none⟩) ∧ opd ρ' 133 (.tmp 11) = .int .i64 x64.1 ∧ opd ρ' 133 (.tmp 12) = .int .i64 x64.2.1 ∧ Sl (Fl.ty fl_Member) H65 s67 x64.2.2.2 ∧ Inv B w' H65 [.cb g3 [ckI a0.Epoch, ckL s1] 64, .cb g52 [ckI x47.1.Epoch, ckL s51] 64, .cb g68 [ckI x64.2.2.1, ckL s67] 64]) ?_ ?_
          · skip
            replace hF := hx64
            refine dstG (H0 := H48) (L0 := keepL [true, true] [.cb g3 [ckI a0.Epoch, ckL s1] 64, .cb g52 [ckI x47.1.Epoch, ckL s51] 64]) [10] mixed rfl (by repeat (first | exact Pan.body | refine Pan.then ?_ | refine Pan.inBlock ?_ | refine Pan.noGoto ?_ | refine Pan.pure ?_)) hI (hI.good.weakm _ (Hle.refl _) rfl) ?_
            intro w80 hI hP
            refine dp (v := s2.v) 1 (by kernel_rfl) rfl rfl (fun _ => r_mv rfl h56) rfl hP ?_
            refine dp (v := .int .i64 a2) 2 (by kernel_rfl) rfl rfl (fun _ => r_mv rfl h57) rfl hP ?_
            obtain ⟨x81, hx81, hF⟩ := Option.bind_eq_some_iff.1 hF
            obtain ⟨s82, es82⟩ : ∃ z : Sv, z = s2.cut 0 (a2 : Int).toNat 103 := ⟨_, rfl⟩
            have hs82 := Sl.cutI (((hs2.mono hleH10).mono hleH20).mono hleH48) hx81 es82
            refine dp (v := s82.v) 3 (by kernel_rfl) rfl rfl (fun _ => s_slh rfl sl65 rfl rfl (((hs2.mono hleH10).mono hleH20).mono hleH48) hx81 es82) rfl hP ?_
            refine dr (v := .agg (flat [ckI a0.Epoch, ckL s1]).toArray) 0 (by kernel_rfl) rfl rfl (hI.good.weakm [true, true] (Hle.refl _) rfl) (fun _ hG => r_cla (off := 0) (p := 0) (m := 2) (hG.ca 0 rfl) rfl ag64 h58 rfl rfl) rfl hP ?_
            refine dtwo 4 9 (by kernel_rfl) ?_ ?_
            · skip
              obtain ⟨x83, hx83, hF⟩ := Option.bind_eq_some_iff.1 hF
              have hsp86 := spec_33 hx83 (((hT.mono hleH10).mono hleH20).mono hleH48) (hI.part 0) (((hs1.mono hleH10).mono hleH20).mono hleH48) hs82
              refine do_fc ([]) ([.cb g3 [ckI a0.Epoch, ckL s1] 64, .cb g52 [ckI x47.1.Epoch, ckL s51] 64]) (args := [.agg (flat [ckI a0.Epoch, ckL s1]).toArray, s82.v]) fc33 rfl rfl rfl rfl hI (argc rfl (argc rfl rfl)) (hsp86) ?_
              rintro _ H84 _ w85 ⟨s87, rfl, hs87, rfl⟩ hleH84 hI
              replace hI : Inv B w85 H84 [.cb g3 [ckI a0.Epoch, ckL s1] 64, .cb g52 [ckI x47.1.Epoch, ckL s51] 64] := hI
              refine ⟨(hI.good.weakm [true, true] hleH84 rfl), ?_⟩
              refine dp (v := .tuple #[.agg (flat [ckI x83.1.Epoch, ckL s87]).toArray, .int .i64 x83.2.1, .int .i64 x83.2.2]) 5 (by kernel_rfl) rfl rfl (fun _ => r_mv rfl rfl) rfl hP ?_
              refine dp (v := .agg (flat [ckI x83.1.Epoch, ckL s87]).toArray) 6 (by kernel_rfl) rfl rfl (fun _ => r_ext rfl rfl rfl) rfl hP ?_
              refine dp (v := .int .i64 x83.2.1) 7 (by kernel_rfl) rfl rfl (fun _ => r_ext rfl rfl rfl) rfl hP ?_
              refine dp (v := .int .i64 x83.2.2) 8 (by kernel_rfl) rfl rfl (fun _ => r_ext rfl rfl rfl) rfl hP ?_
              refine de 9 (by kernel_rfl) rfl rfl rfl (l_al hI rfl ze64) rfl ?_
              rintro _ w89 ⟨g88, rfl, hI⟩
              replace hI : Inv B w89 H84 [.cb g3 [ckI a0.Epoch, ckL s1] 64, .cb g52 [ckI x47.1.Epoch, ckL s51] 64, .cb g88 [ckI 0, ckL Sv.nil] 64] := hI
              refine ⟨(hI.good.weakm [true, true, false] hleH84 rfl), ?_⟩
              refine dsl 10 (by kernel_rfl) rfl rfl rfl (l_st (off := 0) (p := 0) (m := 2) (new := [ckI x83.1.Epoch, ckL s87]) hI 2 rfl rfl sz64 rfl rfl rfl rfl rfl rfl) rfl ?_
              intro w90 hI
              replace hI : Inv B w90 H84 [.cb g3 [ckI a0.Epoch, ckL s1] 64, .cb g52 [ckI x47.1.Epoch, ckL s51] 64, .cb g88 [ckI x83.1.Epoch, ckL s87] 64] := hI
              refine dp (v := .int .i64 x83.2.1) 11 (by kernel_rfl) rfl rfl (fun _ => r_as rfl rfl) rfl hP ?_
              refine dp (v := .int .i64 x83.2.2) 12 (by kernel_rfl) rfl rfl (fun _ => r_as rfl rfl) rfl hP ?_
              refine dend (by kernel_rfl) ?_
              obtain rfl := Option.some.inj hF
              exact wmid ⟨H84, s87, g88, hleH84, h56, h57, h58, h59, h60, h61, rfl, rfl, rfl, hs87, hI⟩
            · skip
              refine do_e rfl rfl (l_al hI rfl ze64) rfl ?_
              rintro _ w92 ⟨g91, rfl, hI⟩
              replace hI : Inv B w92 H48 [.cb g3 [ckI a0.Epoch, ckL s1] 64, .cb g52 [ckI x47.1.Epoch, ckL s51] 64, .cb g91 [ckI 0, ckL Sv.nil] 64] := hI
              refine ⟨(hI.good.weakm [true, true, false] (Hle.refl _) rfl), ?_⟩
              obtain ⟨x93, hx93, hF⟩ := Option.bind_eq_some_iff.1 hF
              have hsp96 := spec_33 hx93 (((hT.mono hleH10).mono hleH20).mono hleH48) (hI.part 0) (((hs1.mono hleH10).mono hleH20).mono hleH48) hs82
              refine dfc 4 ([]) ([.cb g3 [ckI a0.Epoch, ckL s1] 64, .cb g52 [ckI x47.1.Epoch, ckL s51] 64, .cb g91 [ckI 0, ckL Sv.nil] 64]) (args := [.agg (flat [ckI a0.Epoch, ckL s1]).toArray, s82.v]) fc33 (by kernel_rfl) rfl rfl rfl rfl rfl hI (argc rfl (argc rfl rfl)) (hsp96) ?_
              rintro _ H94 _ w95 ⟨s97, rfl, hs97, rfl⟩ hleH94 hI
              replace hI : Inv B w95 H94 [.cb g3 [ckI a0.Epoch, ckL s1] 64, .cb g52 [ckI x47.1.Epoch, ckL s51] 64, .cb g91 [ckI 0, ckL Sv.nil] 64] := hI
              refine ⟨(hI.good.weakm [true, true, false] hleH94 rfl), ?_⟩
              refine dp (v := .tuple #[.agg (flat [ckI x93.1.Epoch, ckL s97]).toArray, .int .i64 x93.2.1, .int .i64 x93.2.2]) 5 (by kernel_rfl) rfl rfl (fun _ => r_mv rfl rfl) rfl hP ?_
              refine dp (v := .agg (flat [ckI x93.1.Epoch, ckL s97]).toArray) 6 (by kernel_rfl) rfl rfl (fun _ => r_ext rfl rfl rfl) rfl hP ?_
              refine dp (v := .int .i64 x93.2.1) 7 (by kernel_rfl) rfl rfl (fun _ => r_ext rfl rfl rfl) rfl hP ?_
              refine dp (v := .int .i64 x93.2.2) 8 (by kernel_rfl) rfl rfl (fun _ => r_ext rfl rfl rfl) rfl hP ?_
              refine dsl 10 (by kernel_rfl) rfl rfl rfl (l_st (off := 0) (p := 0) (m := 2) (new := [ckI x93.1.Epoch, ckL s97]) hI 2 rfl rfl sz64 rfl rfl rfl rfl rfl rfl) rfl ?_
              intro w98 hI
              replace hI : Inv B w98 H94 [.cb g3 [ckI a0.Epoch, ckL s1] 64, .cb g52 [ckI x47.1.Epoch, ckL s51] 64, .cb g91 [ckI x93.1.Epoch, ckL s97] 64] := hI
              refine dp (v := .int .i64 x93.2.1) 11 (by kernel_rfl) rfl rfl (fun _ => r_as rfl rfl) rfl hP ?_
              refine dp (v := .int .i64 x93.2.2) 12 (by kernel_rfl) rfl rfl (fun _ => r_as rfl rfl) rfl hP ?_
              refine dend (by kernel_rfl) ?_
              obtain rfl := Option.some.inj hF
              exact wmid ⟨H94, s97, g91, hleH94, h56, h57, h58, h59, h60, h61, rfl, rfl, rfl, hs97, hI⟩
          rintro ρ69 w66 ⟨H65, s67, g68, hleH65, h70, h71, h72, h73, h74, h75, h76, h77, h78, hs67, hI⟩
          refine wseq ?_
          refine wseq ?_
          refine wreg ?_
          refine lv (v := .int .i64 x47.2.2) rfl (r_mv rfl h75) rfl ?_
          refine lv (v := .bool (decide (x47.2.2 ≠ 0))) rfl (r_neq rfl rfl rfl rfl) rfl ?_
          refine wend ?_
          refine wthen ?_
          refine wren (fun ρ99 eρ99 => ?_)
          have h100 : opd ρ99 133 (.tmp 1) = s2.v := (eρ99 1).trans h70
          have h101 : opd ρ99 133 (.tmp 2) = .int .i64 a2 := (eρ99 2).trans h71
          have h102 : opd ρ99 133 (.tmp 3) = .pointer (some ⟨g3, 0 + 0, none⟩) := (eρ99 3).trans h72
          have h103 : opd ρ99 133 (.tmp 7) = .pointer (some ⟨g52, 0 + 0, none⟩) := (eρ99 7).trans h73
          have h104 : opd ρ99 133 (.tmp 8) = .int .i64 x47.2.1 := (eρ99 8).trans h74
          have h105 : opd ρ99 133 (.tmp 9) = .int .i64 x47.2.2 := (eρ99 9).trans h75
          have h106 : opd ρ99 133 (.tmp 10) = .pointer (some ⟨g68, 0 + 0, none⟩) := (eρ99 10).trans h76
          have h107 : opd ρ99 133 (.tmp 11) = .int .i64 x64.1 := (eρ99 11).trans h77
          have h108 : opd ρ99 133 (.tmp 12) = .int .i64 x64.2.1 := (eρ99 12).trans h78
          have h109 : opd ρ99 133 (.tmp 52) = .bool (decide (x47.2.2 ≠ 0)) := eρ99 52
          clear eρ99
          by_cases hc110 : x47.2.2 ≠ 0
          · skip
            rw [if_pos hc110] at hF
            have hbhc110 : (decide (x47.2.2 ≠ 0)) = true := decide_eq_true hc110
            refine wcT (h109.trans (congrArg Value.bool hbhc110)) ?_
            refine wseq ?_
            refine wreg ?_
            refine lv (v := .int .i64 x64.2.1) rfl (r_mv rfl h108) rfl ?_
            refine lv (v := .bool (decide (x64.2.1 = 0))) rfl (r_eql rfl rfl rfl rfl) rfl ?_
            by_cases hc111 : x64.2.1 = 0
            · skip
              rw [if_pos hc111] at hF
              have hbhc111 : (decide (x64.2.1 = 0)) = true := decide_eq_true hc111
              refine lv (v := .bool true) rfl (r_mv rfl ((show opd _ _ _ = _ from rfl).trans (congrArg Value.bool hbhc111))) rfl ?_
              refine lv (v := .int .i64 x64.1) rfl (r_mv rfl h107) rfl ?_
              refine lv (v := .int .i64 a2) rfl (r_mv rfl h101) rfl ?_
              refine lv (v := .bool (decide (x64.1 = a2))) rfl (r_eql rfl rfl rfl rfl) rfl ?_
              refine lv (v := .bool (decide (x64.1 = a2))) rfl (r_pkT rfl rfl rfl) rfl ?_
              by_cases hc112 : x64.1 = a2
              · skip
                rw [if_pos hc112] at hF
                have hbhc112 : (decide (x64.1 = a2)) = true := decide_eq_true hc112
                refine lv (v := .bool true) rfl (r_mv rfl ((show opd _ _ _ = _ from rfl).trans (congrArg Value.bool hbhc112))) rfl ?_
                refine lv (v := .int .i64 x47.2.1) rfl (r_mv rfl h104) rfl ?_
                refine lv (v := .int .i64 a2) rfl (r_mv rfl h101) rfl ?_
                refine lv (v := .bool (decide (a2 ≤ x47.2.1))) rfl (r_geq rfl rfl rfl rfl) rfl ?_
                refine lv (v := .bool (decide (a2 ≤ x47.2.1))) rfl (r_pkT rfl rfl rfl) rfl ?_
                by_cases hc113 : a2 ≤ x47.2.1
                · skip
                  rw [if_pos hc113] at hF
                  have hbhc113 : (decide (a2 ≤ x47.2.1)) = true := decide_eq_true hc113
                  refine lv (v := .bool true) rfl (r_mv rfl ((show opd _ _ _ = _ from rfl).trans (congrArg Value.bool hbhc113))) rfl ?_
                  with_reducible refine lx (d := 66) (by kernel_rfl) (by kernel_rfl) ?_
                  with_reducible refine lx (d := 67) (by kernel_rfl) (by kernel_rfl) ?_
                  with_reducible refine lx (d := 68) (by kernel_rfl) (by kernel_rfl) ?_
                  with_reducible refine lx (d := 69) (by kernel_rfl) (by kernel_rfl) ?_
                  with_reducible refine lx (d := 70) (by kernel_rfl) (by kernel_rfl) ?_
                  with_reducible refine lx (d := 71) (by kernel_rfl) (by kernel_rfl) ?_
                  with_reducible refine lx (d := 72) (by kernel_rfl) (by kernel_rfl) ?_
                  with_reducible refine lx (d := 73) (by kernel_rfl) (by kernel_rfl) ?_
                  refine lv (v := .bool true) rfl (r_pkT rfl rfl rfl) rfl ?_
                  refine lv (v := .bool true) rfl (r_as rfl rfl) rfl ?_
                  refine wend ?_
                  refine wthen ?_
                  refine wren (fun ρ114 eρ114 => ?_)
                  have h115 : opd ρ114 133 (.tmp 6) = .bool true := eρ114 6
                  clear eρ114
                  refine wp_ret ?_
                  refine thR ?_
                  obtain rfl := Option.some.inj hF
                  subst hB
                  refine finR (rs := [.tmp 6]) (vs := [.bool true]) rfl ⟨h115, trivial⟩ ?_
                  exact hI.fin 0 ⟨rfl, rfl⟩
                · skip
                  rw [if_neg hc113] at hF
                  have hbhc113 : (decide (a2 ≤ x47.2.1)) = false := decide_eq_false hc113
                  refine lv (v := .bool false) rfl (r_mv rfl ((show opd _ _ _ = _ from rfl).trans (congrArg Value.bool hbhc113))) rfl ?_
                  refine lv (v := .int .i64 x64.2.1) rfl (r_mv rfl h108) rfl ?_
                  refine lv (v := .int .i64 x47.2.2) rfl (r_mv rfl h105) rfl ?_
                  refine lv (v := .bool (decide (x64.2.1 = x47.2.2))) rfl (r_eql rfl rfl rfl rfl) rfl ?_
                  by_cases hc116 : x64.2.1 = x47.2.2
                  · skip
                    rw [if_pos hc116] at hF
                    have hbhc116 : (decide (x64.2.1 = x47.2.2)) = true := decide_eq_true hc116
                    refine lv (v := .bool true) rfl (r_mv rfl ((show opd _ _ _ = _ from rfl).trans (congrArg Value.bool hbhc116))) rfl ?_
                    refine lv (v := .int .i64 x64.1) rfl (r_mv rfl h107) rfl ?_
                    refine lv (v := .int .i64 x47.2.1) rfl (r_mv rfl h104) rfl ?_
                    refine lv (v := .bool (decide (x64.1 = x47.2.1))) rfl (r_eql rfl rfl rfl rfl) rfl ?_
                    refine lv (v := .bool (decide (x64.1 = x47.2.1))) rfl (r_pkT rfl rfl rfl) rfl ?_
                    refine lv (v := .bool (decide (x64.1 = x47.2.1))) rfl (r_pkF rfl rfl rfl) rfl ?_
                    refine lv (v := .bool (decide (x64.1 = x47.2.1))) rfl (r_as rfl rfl) rfl ?_
                    refine wend ?_
                    refine wthen ?_
                    refine wren (fun ρ117 eρ117 => ?_)
                    have h118 : opd ρ117 133 (.tmp 6) = .bool (decide (x64.1 = x47.2.1)) := eρ117 6
                    clear eρ117
                    refine wp_ret ?_
                    refine thR ?_
                    obtain rfl := Option.some.inj hF
                    subst hB
                    refine finR (rs := [.tmp 6]) (vs := [.bool (decide (x64.1 = x47.2.1))]) rfl ⟨h118, trivial⟩ ?_
                    exact hI.fin 0 ⟨rfl, rfl⟩
                  · skip
                    rw [if_neg hc116] at hF
                    have hbhc116 : (decide (x64.2.1 = x47.2.2)) = false := decide_eq_false hc116
                    refine lv (v := .bool false) rfl (r_mv rfl ((show opd _ _ _ = _ from rfl).trans (congrArg Value.bool hbhc116))) rfl ?_
                    with_reducible refine lx (d := 70) (by kernel_rfl) (by kernel_rfl) ?_
                    with_reducible refine lx (d := 71) (by kernel_rfl) (by kernel_rfl) ?_
                    with_reducible refine lx (d := 72) (by kernel_rfl) (by kernel_rfl) ?_
                    refine lv (v := .bool false) rfl (r_pkF rfl rfl rfl) rfl ?_
                    refine lv (v := .bool false) rfl (r_pkF rfl rfl rfl) rfl ?_
                    refine lv (v := .bool false) rfl (r_as rfl rfl) rfl ?_
                    refine wend ?_
                    refine wthen ?_
                    refine wren (fun ρ119 eρ119 => ?_)
                    have h120 : opd ρ119 133 (.tmp 6) = .bool false := eρ119 6
                    clear eρ119
                    refine wp_ret ?_
                    refine thR ?_
                    obtain rfl := Option.some.inj hF
                    subst hB
                    refine finR (rs := [.tmp 6]) (vs := [.bool false]) rfl ⟨h120, trivial⟩ ?_
                    exact hI.fin 0 ⟨rfl, rfl⟩
              · skip
                rw [if_neg hc112] at hF
                have hbhc112 : (decide (x64.1 = a2)) = false := decide_eq_false hc112
                refine lv (v := .bool false) rfl (r_mv rfl ((show opd _ _ _ = _ from rfl).trans (congrArg Value.bool hbhc112))) rfl ?_
                with_reducible refine lx (d := 61) (by kernel_rfl) (by kernel_rfl) ?_
                with_reducible refine lx (d := 62) (by kernel_rfl) (by kernel_rfl) ?_
                with_reducible refine lx (d := 63) (by kernel_rfl) (by kernel_rfl) ?_
                refine lv (v := .bool false) rfl (r_pkF rfl rfl rfl) rfl ?_
                refine lv (v := .bool false) rfl (r_mv rfl rfl) rfl ?_
                refine lv (v := .int .i64 x64.2.1) rfl (r_mv rfl h108) rfl ?_
                refine lv (v := .int .i64 x47.2.2) rfl (r_mv rfl h105) rfl ?_
                refine lv (v := .bool (decide (x64.2.1 = x47.2.2))) rfl (r_eql rfl rfl rfl rfl) rfl ?_
                by_cases hc121 : x64.2.1 = x47.2.2
                · skip
                  rw [if_pos hc121] at hF
                  have hbhc121 : (decide (x64.2.1 = x47.2.2)) = true := decide_eq_true hc121
                  refine lv (v := .bool true) rfl (r_mv rfl ((show opd _ _ _ = _ from rfl).trans (congrArg Value.bool hbhc121))) rfl ?_
                  refine lv (v := .int .i64 x64.1) rfl (r_mv rfl h107) rfl ?_
                  refine lv (v := .int .i64 x47.2.1) rfl (r_mv rfl h104) rfl ?_
                  refine lv (v := .bool (decide (x64.1 = x47.2.1))) rfl (r_eql rfl rfl rfl rfl) rfl ?_
                  refine lv (v := .bool (decide (x64.1 = x47.2.1))) rfl (r_pkT rfl rfl rfl) rfl ?_
                  refine lv (v := .bool (decide (x64.1 = x47.2.1))) rfl (r_pkF rfl rfl rfl) rfl ?_
                  refine lv (v := .bool (decide (x64.1 = x47.2.1))) rfl (r_as rfl rfl) rfl ?_
                  refine wend ?_
                  refine wthen ?_
                  refine wren (fun ρ122 eρ122 => ?_)
                  have h123 : opd ρ122 133 (.tmp 6) = .bool (decide (x64.1 = x47.2.1)) := eρ122 6
                  clear eρ122
                  refine wp_ret ?_
                  refine thR ?_
                  obtain rfl := Option.some.inj hF
                  subst hB
                  refine finR (rs := [.tmp 6]) (vs := [.bool (decide (x64.1 = x47.2.1))]) rfl ⟨h123, trivial⟩ ?_
                  exact hI.fin 0 ⟨rfl, rfl⟩
                · skip
                  rw [if_neg hc121] at hF
                  have hbhc121 : (decide (x64.2.1 = x47.2.2)) = false := decide_eq_false hc121
                  refine lv (v := .bool false) rfl (r_mv rfl ((show opd _ _ _ = _ from rfl).trans (congrArg Value.bool hbhc121))) rfl ?_
                  with_reducible refine lx (d := 70) (by kernel_rfl) (by kernel_rfl) ?_
                  with_reducible refine lx (d := 71) (by kernel_rfl) (by kernel_rfl) ?_
                  with_reducible refine lx (d := 72) (by kernel_rfl) (by kernel_rfl) ?_
                  refine lv (v := .bool false) rfl (r_pkF rfl rfl rfl) rfl ?_
                  refine lv (v := .bool false) rfl (r_pkF rfl rfl rfl) rfl ?_
                  refine lv (v := .bool false) rfl (r_as rfl rfl) rfl ?_
                  refine wend ?_
                  refine wthen ?_
                  refine wren (fun ρ124 eρ124 => ?_)
                  have h125 : opd ρ124 133 (.tmp 6) = .bool false := eρ124 6
                  clear eρ124
                  refine wp_ret ?_
                  refine thR ?_
                  obtain rfl := Option.some.inj hF
                  subst hB
                  refine finR (rs := [.tmp 6]) (vs := [.bool false]) rfl ⟨h125, trivial⟩ ?_
                  exact hI.fin 0 ⟨rfl, rfl⟩
            · skip
              rw [if_neg hc111] at hF
              have hbhc111 : (decide (x64.2.1 = 0)) = false := decide_eq_false hc111
              refine lv (v := .bool false) rfl (r_mv rfl ((show opd _ _ _ = _ from rfl).trans (congrArg Value.bool hbhc111))) rfl ?_
              with_reducible refine lx (d := 56) (by kernel_rfl) (by kernel_rfl) ?_
              with_reducible refine lx (d := 57) (by kernel_rfl) (by kernel_rfl) ?_
              with_reducible refine lx (d := 58) (by kernel_rfl) (by kernel_rfl) ?_
              refine lv (v := .bool false) rfl (r_pkF rfl rfl rfl) rfl ?_
              refine lv (v := .bool false) rfl (r_mv rfl rfl) rfl ?_
              with_reducible refine lx (d := 61) (by kernel_rfl) (by kernel_rfl) ?_
              with_reducible refine lx (d := 62) (by kernel_rfl) (by kernel_rfl) ?_
              with_reducible refine lx (d := 63) (by kernel_rfl) (by kernel_rfl) ?_
              refine lv (v := .bool false) rfl (r_pkF rfl rfl rfl) rfl ?_
              refine lv (v := .bool false) rfl (r_mv rfl rfl) rfl ?_
              refine lv (v := .int .i64 x64.2.1) rfl (r_mv rfl h108) rfl ?_
              refine lv (v := .int .i64 x47.2.2) rfl (r_mv rfl h105) rfl ?_
              refine lv (v := .bool (decide (x64.2.1 = x47.2.2))) rfl (r_eql rfl rfl rfl rfl) rfl ?_
              by_cases hc126 : x64.2.1 = x47.2.2
              · skip
                rw [if_pos hc126] at hF
                have hbhc126 : (decide (x64.2.1 = x47.2.2)) = true := decide_eq_true hc126
                refine lv (v := .bool true) rfl (r_mv rfl ((show opd _ _ _ = _ from rfl).trans (congrArg Value.bool hbhc126))) rfl ?_
                refine lv (v := .int .i64 x64.1) rfl (r_mv rfl h107) rfl ?_
                refine lv (v := .int .i64 x47.2.1) rfl (r_mv rfl h104) rfl ?_
                refine lv (v := .bool (decide (x64.1 = x47.2.1))) rfl (r_eql rfl rfl rfl rfl) rfl ?_
                refine lv (v := .bool (decide (x64.1 = x47.2.1))) rfl (r_pkT rfl rfl rfl) rfl ?_
                refine lv (v := .bool (decide (x64.1 = x47.2.1))) rfl (r_pkF rfl rfl rfl) rfl ?_
                refine lv (v := .bool (decide (x64.1 = x47.2.1))) rfl (r_as rfl rfl) rfl ?_
                refine wend ?_
                refine wthen ?_
                refine wren (fun ρ127 eρ127 => ?_)
                have h128 : opd ρ127 133 (.tmp 6) = .bool (decide (x64.1 = x47.2.1)) := eρ127 6
                clear eρ127
                refine wp_ret ?_
                refine thR ?_
                obtain rfl := Option.some.inj hF
                subst hB
                refine finR (rs := [.tmp 6]) (vs := [.bool (decide (x64.1 = x47.2.1))]) rfl ⟨h128, trivial⟩ ?_
                exact hI.fin 0 ⟨rfl, rfl⟩
              · skip
                rw [if_neg hc126] at hF
                have hbhc126 : (decide (x64.2.1 = x47.2.2)) = false := decide_eq_false hc126
                refine lv (v := .bool false) rfl (r_mv rfl ((show opd _ _ _ = _ from rfl).trans (congrArg Value.bool hbhc126))) rfl ?_
                with_reducible refine lx (d := 70) (by kernel_rfl) (by kernel_rfl) ?_
                with_reducible refine lx (d := 71) (by kernel_rfl) (by kernel_rfl) ?_
                with_reducible refine lx (d := 72) (by kernel_rfl) (by kernel_rfl) ?_
                refine lv (v := .bool false) rfl (r_pkF rfl rfl rfl) rfl ?_
                refine lv (v := .bool false) rfl (r_pkF rfl rfl rfl) rfl ?_
                refine lv (v := .bool false) rfl (r_as rfl rfl) rfl ?_
                refine wend ?_
                refine wthen ?_
                refine wren (fun ρ129 eρ129 => ?_)
                have h130 : opd ρ129 133 (.tmp 6) = .bool false := eρ129 6
                clear eρ129
                refine wp_ret ?_
                refine thR ?_
                obtain rfl := Option.some.inj hF
                subst hB
                refine finR (rs := [.tmp 6]) (vs := [.bool false]) rfl ⟨h130, trivial⟩ ?_
                exact hI.fin 0 ⟨rfl, rfl⟩
          · skip
            rw [if_neg hc110] at hF
            have hbhc110 : (decide (x47.2.2 ≠ 0)) = false := decide_eq_false hc110
            refine wcF (h109.trans (congrArg Value.bool hbhc110)) ?_
            refine wp_skip ?_
            refine wthen ?_
            refine wseq ?_
            refine wseq ?_
            refine wreg ?_
            refine lv (v := .int .i64 x64.2.1) rfl (r_mv rfl h108) rfl ?_
            refine lv (v := .bool (decide (x64.2.1 ≠ 0))) rfl (r_neq rfl rfl rfl rfl) rfl ?_
            by_cases hc131 : x64.2.1 ≠ 0
            · skip
              rw [if_pos hc131] at hF
              have hbhc131 : (decide (x64.2.1 ≠ 0)) = true := decide_eq_true hc131
              refine lv (v := .bool true) rfl (r_mv rfl ((show opd _ _ _ = _ from rfl).trans (congrArg Value.bool hbhc131))) rfl ?_
              with_reducible refine lx (d := 78) (by kernel_rfl) (by kernel_rfl) ?_
              with_reducible refine lx (d := 79) (by kernel_rfl) (by kernel_rfl) ?_
              with_reducible refine lx (d := 80) (by kernel_rfl) (by kernel_rfl) ?_
              with_reducible refine lx (d := 81) (by kernel_rfl) (by kernel_rfl) ?_
              refine lv (v := .bool true) rfl (r_pkT rfl rfl rfl) rfl ?_
              refine wend ?_
              refine wthen ?_
              refine wren (fun ρ132 eρ132 => ?_)
              have h133 : opd ρ132 133 (.tmp 1) = s2.v := (eρ132 1).trans h100
              have h134 : opd ρ132 133 (.tmp 2) = .int .i64 a2 := (eρ132 2).trans h101
              have h135 : opd ρ132 133 (.tmp 3) = .pointer (some ⟨g3, 0 + 0, none⟩) := (eρ132 3).trans h102
              have h136 : opd ρ132 133 (.tmp 7) = .pointer (some ⟨g52, 0 + 0, none⟩) := (eρ132 7).trans h103
              have h137 : opd ρ132 133 (.tmp 10) = .pointer (some ⟨g68, 0 + 0, none⟩) := (eρ132 10).trans h106
              have h138 : opd ρ132 133 (.tmp 82) = .bool true := eρ132 82
              clear eρ132
              refine wcT h138 ?_
              refine wseq ?_
              refine wreg ?_
              refine lv (v := .bool false) rfl (r_as rfl rfl) rfl ?_
              refine wend ?_
              refine wthen ?_
              refine wren (fun ρ139 eρ139 => ?_)
              have h140 : opd ρ139 133 (.tmp 6) = .bool false := eρ139 6
              clear eρ139
              refine wp_ret ?_
              refine thR ?_
              obtain rfl := Option.some.inj hF
              subst hB
              refine finR (rs := [.tmp 6]) (vs := [.bool false]) rfl ⟨h140, trivial⟩ ?_
              exact hI.fin 0 ⟨rfl, rfl⟩
            · skip
              rw [if_neg hc131] at hF
              have hbhc131 : (decide (x64.2.1 ≠ 0)) = false := decide_eq_false hc131
              refine lv (v := .bool false) rfl (r_mv rfl ((show opd _ _ _ = _ from rfl).trans (congrArg Value.bool hbhc131))) rfl ?_
              refine lv (v := .int .i64 x47.2.1) rfl (r_mv rfl h104) rfl ?_
              refine lv (v := s2.v) rfl (r_mv rfl h100) rfl ?_
              refine lv (v := .int .i64 (a1.length : Int)) rfl (r_lenS rfl sl65 rfl ((((hs2.mono hleH10).mono hleH20).mono hleH48).mono hleH65)) rfl ?_
              refine lv (v := .bool (decide (x47.2.1 ≠ (a1.length : Int)))) rfl (r_neq rfl rfl rfl rfl) rfl ?_
              refine lv (v := .bool (decide (x47.2.1 ≠ (a1.length : Int)))) rfl (r_pkF rfl rfl rfl) rfl ?_
              refine wend ?_
              refine wthen ?_
              refine wren (fun ρ141 eρ141 => ?_)
              have h142 : opd ρ141 133 (.tmp 1) = s2.v := (eρ141 1).trans h100
              have h143 : opd ρ141 133 (.tmp 2) = .int .i64 a2 := (eρ141 2).trans h101
              have h144 : opd ρ141 133 (.tmp 3) = .pointer (some ⟨g3, 0 + 0, none⟩) := (eρ141 3).trans h102
              have h145 : opd ρ141 133 (.tmp 7) = .pointer (some ⟨g52, 0 + 0, none⟩) := (eρ141 7).trans h103
              have h146 : opd ρ141 133 (.tmp 10) = .pointer (some ⟨g68, 0 + 0, none⟩) := (eρ141 10).trans h106
              have h147 : opd ρ141 133 (.tmp 82) = .bool (decide (x47.2.1 ≠ (a1.length : Int))) := eρ141 82
              clear eρ141
              by_cases hc148 : x47.2.1 ≠ (a1.length : Int)
              · skip
                rw [if_pos hc148] at hF
                have hbhc148 : (decide (x47.2.1 ≠ (a1.length : Int))) = true := decide_eq_true hc148
                refine wcT (h147.trans (congrArg Value.bool hbhc148)) ?_
                refine wseq ?_
                refine wreg ?_
                refine lv (v := .bool false) rfl (r_as rfl rfl) rfl ?_
                refine wend ?_
                refine wthen ?_
                refine wren (fun ρ149 eρ149 => ?_)
                have h150 : opd ρ149 133 (.tmp 6) = .bool false := eρ149 6
                clear eρ149
                refine wp_ret ?_
                refine thR ?_
                obtain rfl := Option.some.inj hF
                subst hB
                refine finR (rs := [.tmp 6]) (vs := [.bool false]) rfl ⟨h150, trivial⟩ ?_
                exact hI.fin 0 ⟨rfl, rfl⟩
              · skip
                rw [if_neg hc148] at hF
                have hbhc148 : (decide (x47.2.1 ≠ (a1.length : Int))) = false := decide_eq_false hc148
                refine wcF (h147.trans (congrArg Value.bool hbhc148)) ?_
                refine wp_skip ?_
                refine wthen ?_
                obtain ⟨x153, hx153, hF⟩ := Option.bind_eq_some_iff.1 hF
                refine wcut (fun ρ' w' => ∃ (H154 : Hp) (s156 : Sv) (g157 : Nat), Hle H65 H154 ∧ opd ρ' 133 (.tmp 1) = s2.v ∧ opd ρ' 133 (.tmp 3) = .pointer (some ⟨g3, 0 + 0, none⟩) ∧ opd ρ' 133 (.tmp 7) = .pointer (some ⟨g52, 0 + 0, none⟩) ∧ opd ρ' 133 (.tmp 13) = .pointer (some ⟨g157, 0 + 0, none⟩) ∧ opd ρ' 133 (.tmp 15) = .int .i64 x153.1 ∧ Sl (Fl.ty fl_Member) H154 s156 x153.2.2 ∧ Inv B w' H154 [.cb g3 [ckI a0.Epoch, ckL s1] 64, .cb g52 [ckI x47.1.Epoch, ckL s51] 64, .cb g157 [ckI x153.2.1, ckL s156] 64]) ?_ ?_
                · skip
                  replace hF := hx153
                  refine dstG (H0 := H65) (L0 := keepL [true, true, true] [.cb g3 [ckI a0.Epoch, ckL s1] 64, .cb g52 [ckI x47.1.Epoch, ckL s51] 64, .cb g68 [ckI x64.2.2.1, ckL s67] 64]) [10] mixed rfl (by repeat (first | exact Pan.body | refine Pan.then ?_ | refine Pan.inBlock ?_ | refine Pan.noGoto ?_ | refine Pan.pure ?_)) hI (hI.good.weakm _ (Hle.refl _) rfl) ?_
                  intro w165 hI hP
                  refine dp (v := s2.v) 1 (by kernel_rfl) rfl rfl (fun _ => r_mv rfl h142) rfl hP ?_
                  refine dp (v := .int .i64 a2) 2 (by kernel_rfl) rfl rfl (fun _ => r_mv rfl h143) rfl hP ?_
                  obtain ⟨x166, hx166, hF⟩ := Option.bind_eq_some_iff.1 hF
                  obtain ⟨s167, es167⟩ : ∃ z : Sv, z = s2.cut (a2 : Int).toNat s2.n 103 := ⟨_, rfl⟩
                  have es167' : s167 = s2.cut (a2 : Int).toNat (a1.length : Int).toNat 103 := by rw [es167, ((((hs2.mono hleH10).mono hleH20).mono hleH48).mono hleH65).n, (Int.toNat_natCast _ : (a1.length : Int).toNat = _)]
                  have hs167 := Sl.cutI ((((hs2.mono hleH10).mono hleH20).mono hleH48).mono hleH65) hx166 es167'
                  refine dp (v := s167.v) 3 (by kernel_rfl) rfl rfl (fun _ => s_sll rfl sl65 rfl rfl ((((hs2.mono hleH10).mono hleH20).mono hleH48).mono hleH65) hx166 es167) rfl hP ?_
                  refine dr (v := .agg (flat [ckI x64.2.2.1, ckL s67]).toArray) 0 (by kernel_rfl) rfl rfl (hI.good.weakm [true, true, true] (Hle.refl _) rfl) (fun _ hG => r_cla (off := 0) (p := 0) (m := 2) (hG.ca 2 rfl) rfl ag64 h146 rfl rfl) rfl hP ?_
                  refine dtwo 4 9 (by kernel_rfl) ?_ ?_
                  · skip
                    obtain ⟨x168, hx168, hF⟩ := Option.bind_eq_some_iff.1 hF
                    have hsp171 := spec_33 hx168 ((((hT.mono hleH10).mono hleH20).mono hleH48).mono hleH65) (hI.part 0) hs67 hs167
                    refine do_fc ([]) ([.cb g3 [ckI a0.Epoch, ckL s1] 64, .cb g52 [ckI x47.1.Epoch, ckL s51] 64, .cb g68 [ckI x64.2.2.1, ckL s67] 64]) (args := [.agg (flat [ckI x64.2.2.1, ckL s67]).toArray, s167.v]) fc33 rfl rfl rfl rfl hI (argc rfl (argc rfl rfl)) (hsp171) ?_
                    rintro _ H169 _ w170 ⟨s172, rfl, hs172, rfl⟩ hleH169 hI
                    replace hI : Inv B w170 H169 [.cb g3 [ckI a0.Epoch, ckL s1] 64, .cb g52 [ckI x47.1.Epoch, ckL s51] 64, .cb g68 [ckI x64.2.2.1, ckL s67] 64] := hI
                    refine ⟨(hI.good.weakm [true, true, true] hleH169 rfl), ?_⟩
                    refine dp (v := .tuple #[.agg (flat [ckI x168.1.Epoch, ckL s172]).toArray, .int .i64 x168.2.1, .int .i64 x168.2.2]) 5 (by kernel_rfl) rfl rfl (fun _ => r_mv rfl rfl) rfl hP ?_
                    refine dp (v := .agg (flat [ckI x168.1.Epoch, ckL s172]).toArray) 6 (by kernel_rfl) rfl rfl (fun _ => r_ext rfl rfl rfl) rfl hP ?_
                    refine dp (v := .int .i64 x168.2.1) 7 (by kernel_rfl) rfl rfl (fun _ => r_ext rfl rfl rfl) rfl hP ?_
                    refine dp (v := .int .i64 x168.2.2) 8 (by kernel_rfl) rfl rfl (fun _ => r_ext rfl rfl rfl) rfl hP ?_
                    refine de 9 (by kernel_rfl) rfl rfl rfl (l_al hI rfl ze64) rfl ?_
                    rintro _ w174 ⟨g173, rfl, hI⟩
                    replace hI : Inv B w174 H169 [.cb g3 [ckI a0.Epoch, ckL s1] 64, .cb g52 [ckI x47.1.Epoch, ckL s51] 64, .cb g68 [ckI x64.2.2.1, ckL s67] 64, .cb g173 [ckI 0, ckL Sv.nil] 64] := hI
                    refine ⟨(hI.good.weakm [true, true, true, false] hleH169 rfl), ?_⟩
                    refine dsl 10 (by kernel_rfl) rfl rfl rfl (l_st (off := 0) (p := 0) (m := 2) (new := [ckI x168.1.Epoch, ckL s172]) hI 3 rfl rfl sz64 rfl rfl rfl rfl rfl rfl) rfl ?_
                    intro w175 hI
                    replace hI : Inv B w175 H169 [.cb g3 [ckI a0.Epoch, ckL s1] 64, .cb g52 [ckI x47.1.Epoch, ckL s51] 64, .cb g68 [ckI x64.2.2.1, ckL s67] 64, .cb g173 [ckI x168.1.Epoch, ckL s172] 64] := hI
                    refine dp (v := .int .i64 x168.2.1) 11 (by kernel_rfl) rfl rfl (fun _ => r_as rfl rfl) rfl hP ?_
                    refine dp (v := .int .i64 x168.2.2) 12 (by kernel_rfl) rfl rfl (fun _ => r_as rfl rfl) rfl hP ?_
                    refine dend (by kernel_rfl) ?_
                    obtain rfl := Option.some.inj hF
                    exact wmid ⟨H169, s172, g173, hleH169, h142, h144, h145, rfl, rfl, hs172, (hI.keep [true, true, false, true])⟩
                  · skip
                    refine do_e rfl rfl (l_al hI rfl ze64) rfl ?_
                    rintro _ w177 ⟨g176, rfl, hI⟩
                    replace hI : Inv B w177 H65 [.cb g3 [ckI a0.Epoch, ckL s1] 64, .cb g52 [ckI x47.1.Epoch, ckL s51] 64, .cb g68 [ckI x64.2.2.1, ckL s67] 64, .cb g176 [ckI 0, ckL Sv.nil] 64] := hI
                    refine ⟨(hI.good.weakm [true, true, true, false] (Hle.refl _) rfl), ?_⟩
                    obtain ⟨x178, hx178, hF⟩ := Option.bind_eq_some_iff.1 hF
                    have hsp181 := spec_33 hx178 ((((hT.mono hleH10).mono hleH20).mono hleH48).mono hleH65) (hI.part 0) hs67 hs167
                    refine dfc 4 ([]) ([.cb g3 [ckI a0.Epoch, ckL s1] 64, .cb g52 [ckI x47.1.Epoch, ckL s51] 64, .cb g68 [ckI x64.2.2.1, ckL s67] 64, .cb g176 [ckI 0, ckL Sv.nil] 64]) (args := [.agg (flat [ckI x64.2.2.1, ckL s67]).toArray, s167.v]) fc33 (by kernel_rfl) rfl rfl rfl rfl rfl hI (argc rfl (argc rfl rfl)) (hsp181) ?_
                    rintro _ H179 _ w180 ⟨s182, rfl, hs182, rfl⟩ hleH179 hI
                    replace hI : Inv B w180 H179 [.cb g3 [ckI a0.Epoch, ckL s1] 64, .cb g52 [ckI x47.1.Epoch, ckL s51] 64, .cb g68 [ckI x64.2.2.1, ckL s67] 64, .cb g176 [ckI 0, ckL Sv.nil] 64] := hI
                    refine ⟨(hI.good.weakm [true, true, true, false] hleH179 rfl), ?_⟩
                    refine dp (v := .tuple #[.agg (flat [ckI x178.1.Epoch, ckL s182]).toArray, .int .i64 x178.2.1, .int .i64 x178.2.2]) 5 (by kernel_rfl) rfl rfl (fun _ => r_mv rfl rfl) rfl hP ?_
                    refine dp (v := .agg (flat [ckI x178.1.Epoch, ckL s182]).toArray) 6 (by kernel_rfl) rfl rfl (fun _ => r_ext rfl rfl rfl) rfl hP ?_
                    refine dp (v := .int .i64 x178.2.1) 7 (by kernel_rfl) rfl rfl (fun _ => r_ext rfl rfl rfl) rfl hP ?_
                    refine dp (v := .int .i64 x178.2.2) 8 (by kernel_rfl) rfl rfl (fun _ => r_ext rfl rfl rfl) rfl hP ?_
                    refine dsl 10 (by kernel_rfl) rfl rfl rfl (l_st (off := 0) (p := 0) (m := 2) (new := [ckI x178.1.Epoch, ckL s182]) hI 3 rfl rfl sz64 rfl rfl rfl rfl rfl rfl) rfl ?_
                    intro w183 hI
                    replace hI : Inv B w183 H179 [.cb g3 [ckI a0.Epoch, ckL s1] 64, .cb g52 [ckI x47.1.Epoch, ckL s51] 64, .cb g68 [ckI x64.2.2.1, ckL s67] 64, .cb g176 [ckI x178.1.Epoch, ckL s182] 64] := hI
                    refine dp (v := .int .i64 x178.2.1) 11 (by kernel_rfl) rfl rfl (fun _ => r_as rfl rfl) rfl hP ?_
                    refine dp (v := .int .i64 x178.2.2) 12 (by kernel_rfl) rfl rfl (fun _ => r_as rfl rfl) rfl hP ?_
                    refine dend (by kernel_rfl) ?_
                    obtain rfl := Option.some.inj hF
                    exact wmid ⟨H179, s182, g176, hleH179, h142, h144, h145, rfl, rfl, hs182, (hI.keep [true, true, false, true])⟩
                rintro ρ158 w155 ⟨H154, s156, g157, hleH154, h159, h160, h161, h162, h163, hs156, hI⟩
                refine wseq ?_
                refine wreg ?_
                refine lv (v := .pointer (some ⟨g3, 0 + 0, none⟩)) rfl (l_fa (j := 0) (i := 0) rfl fl64_0 h160 rfl) rfl ?_
                refine lv (v := .int .i64 a0.Epoch) rfl (r_cl1 (off := 0) (p := 0) (hI.good.ca 0 rfl) rfl sc3 rfl rfl rfl) rfl ?_
                refine lv (v := .int .i64 a0.Epoch) rfl (r_as rfl rfl) rfl ?_
                refine lv (v := .int .i64 0) rfl (r_as rfl rfl) rfl ?_
                refine wend ?_
                refine wthen ?_
                refine wren (fun ρ184 eρ184 => ?_)
                have h185 : opd ρ184 133 (.tmp 1) = s2.v := (eρ184 1).trans h159
                have h186 : opd ρ184 133 (.tmp 7) = .pointer (some ⟨g52, 0 + 0, none⟩) := (eρ184 7).trans h161
                have h187 : opd ρ184 133 (.tmp 13) = .pointer (some ⟨g157, 0 + 0, none⟩) := (eρ184 13).trans h162
                have h188 : opd ρ184 133 (.tmp 15) = .int .i64 x153.1 := (eρ184 15).trans h163
                have h189 : opd ρ184 133 (.tmp 16) = .int .i64 a0.Epoch := eρ184 16
                have h190 : opd ρ184 133 (.tmp 17) = .int .i64 0 := eρ184 17
                clear eρ184
                refine wseq ?_
                refine wseq ?_
                refine wreg ?_
                refine lv (v := s2.v) rfl (r_mv rfl h185) rfl ?_
                refine lv (v := .int .i64 (a1.length : Int)) rfl (r_lenS rfl sl65 rfl (((((hs2.mono hleH10).mono hleH20).mono hleH48).mono hleH65).mono hleH154)) rfl ?_
                refine lv (v := .int .i64 0) rfl (r_mv rfl rfl) rfl ?_
                refine wend ?_
                refine wthen ?_
                refine wren (fun ρ191 eρ191 => ?_)
                have h192 : opd ρ191 133 (.tmp 7) = .pointer (some ⟨g52, 0 + 0, none⟩) := (eρ191 7).trans h186
                have h193 : opd ρ191 133 (.tmp 13) = .pointer (some ⟨g157, 0 + 0, none⟩) := (eρ191 13).trans h187
                have h194 : opd ρ191 133 (.tmp 15) = .int .i64 x153.1 := (eρ191 15).trans h188
                have h195 : opd ρ191 133 (.tmp 16) = .int .i64 a0.Epoch := (eρ191 16).trans h189
                have h196 : opd ρ191 133 (.tmp 17) = .int .i64 0 := (eρ191 17).trans h190
                have h197 : opd ρ191 133 (.tmp 94) = s2.v := eρ191 94
                have h198 : opd ρ191 133 (.tmp 95) = .int .i64 (a1.length : Int) := eρ191 95
                have h199 : opd ρ191 133 (.tmp 96) = .int .i64 0 := eρ191 96
                clear eρ191
                refine wp_block ?_
                have hbd200 := ((((((hs2.mono hleH10).mono hleH20).mono hleH48).mono hleH65).mono hleH154)).bd
                rw [((((((hs2.mono hleH10).mono hleH20).mono hleH48).mono hleH65).mono hleH154)).n] at hbd200
                obtain ⟨y200, hy200, hF200⟩ := Option.bind_eq_some_iff.1 hF
                refine wfor (n := 133) a1.length _ (fun (i200 : Nat) (σ200 : Int × Int) ρ' w' => ∃ (H363 : Hp), Hle H154 H363 ∧ opd ρ' 133 (.tmp 7) = .pointer (some ⟨g52, 0 + 0, none⟩) ∧ opd ρ' 133 (.tmp 13) = .pointer (some ⟨g157, 0 + 0, none⟩) ∧ opd ρ' 133 (.tmp 15) = .int .i64 x153.1 ∧ opd ρ' 133 (.tmp 16) = .int .i64 σ200.1 ∧ opd ρ' 133 (.tmp 17) = .int .i64 σ200.2 ∧ opd ρ' 133 (.tmp 94) = s2.v ∧ opd ρ' 133 (.tmp 95) = .int .i64 (a1.length : Int) ∧ opd ρ' 133 (.tmp 96) = .int .i64 (i200 : Int) ∧ Inv B w' H363 [.cb g52 [ckI x47.1.Epoch, ckL s51] 64, .cb g157 [ckI x153.2.1, ckL s156] 64]) hy200 ⟨H154, (Hle.refl _), h192, h193, h194, h195, h196, h197, h198, h199, (hI.keep [false, true, true])⟩ ?_
                rintro k200 i200 σ200 ρ372 w373 hk200 ⟨H363, hleH363, h364, h365, h366, h367, h368, h369, h370, h371, hI⟩ hy200
                refine wseq ?_
                refine wreg ?_
                refine lv (v := .bool (decide ((i200 : Int) < (a1.length : Int)))) rfl (r_lss rfl h371 h370 rfl) rfl ?_
                refine wend ?_
                refine wthen ?_
                refine wseq ?_
                by_cases hc374 : (i200 : Int) < (a1.length : Int)
                · skip
                  have hbhc374 : (decide ((i200 : Int) < (a1.length : Int))) = true := decide_eq_true hc374
                  obtain ⟨k200, rfl⟩ : ∃ m, k200 = m + 1 := ⟨k200 - 1, by omega⟩
                  obtain ⟨z200, hb200⟩ := forK_body hy200
                  have hF := hb200
                  have hlt200 : ((i200 : Nat) : Int) + 1 ≤ 9223372036854775807 := by omega
                  refine wcT ((show opd _ _ _ = _ from rfl).trans (congrArg Value.bool hbhc374)) ?_
                  refine wp_skip ?_
                  refine wthen ?_
                  refine wren (fun ρ375 eρ375 => ?_)
                  have h376 : opd ρ375 133 (.tmp 7) = .pointer (some ⟨g52, 0 + 0, none⟩) := (eρ375 7).trans h364
                  have h377 : opd ρ375 133 (.tmp 13) = .pointer (some ⟨g157, 0 + 0, none⟩) := (eρ375 13).trans h365
                  have h378 : opd ρ375 133 (.tmp 15) = .int .i64 x153.1 := (eρ375 15).trans h366
                  have h379 : opd ρ375 133 (.tmp 16) = .int .i64 σ200.1 := (eρ375 16).trans h367
                  have h380 : opd ρ375 133 (.tmp 17) = .int .i64 σ200.2 := (eρ375 17).trans h368
                  have h381 : opd ρ375 133 (.tmp 94) = s2.v := (eρ375 94).trans h369
                  have h382 : opd ρ375 133 (.tmp 95) = .int .i64 (a1.length : Int) := (eρ375 95).trans h370
                  have h383 : opd ρ375 133 (.tmp 96) = .int .i64 (i200 : Int) := (eρ375 96).trans h371
                  clear eρ375
                  refine wseq ?_
                  refine wp_block ?_
                  refine wseq ?_
                  refine wreg ?_
                  obtain ⟨x384, hx384, hF⟩ := Option.bind_eq_some_iff.1 hF
                  obtain ⟨b385, j386, _, hix387, hil388, ⟨s390, s391, s392, rfl, hs390, hs391, hs392⟩, hA389⟩ := ((((((hs2.mono hleH10).mono hleH20).mono hleH48).mono hleH65).mono hleH154).mono hleH363).ix hx384
                  replace hA389 : At H363 b385 j386 [ckI x384.Block.Epoch, ckI x384.Block.Height, ckV flB x384.Block.Prev, ckV flB x384.Block.State, ckV flB x384.Block.Next, ckL s390, ckI x384.Cert.Round, ckL s391, ckI x384.Config.Epoch, ckL s392] := hA389
                  refine lv (v := .pointer (some ⟨b385, j386 + 0, none⟩)) rfl (r_ixt rfl sl65 h381 h383 rfl hix387 hil388) rfl ?_
                  refine lv (v := .agg (flat [ckI x384.Block.Epoch, ckI x384.Block.Height, ckV flB x384.Block.Prev, ckV flB x384.Block.State, ckV flB x384.Block.Next, ckL s390, ckI x384.Cert.Round, ckL s391, ckI x384.Config.Epoch, ckL s392]).toArray) rfl (r_cla (off := 0) (p := 0) (m := 10) (hA389.ca hI.good) rfl ag73 rfl rfl rfl) rfl ?_
                  refine le rfl (l_al hI rfl ze73) rfl ?_
                  rintro _ w394 ⟨g393, rfl, hI⟩
                  replace hI : Inv B w394 H363 [.cb g52 [ckI x47.1.Epoch, ckL s51] 64, .cb g157 [ckI x153.2.1, ckL s156] 64, .cb g393 [ckI 0, ckI 0, ckV flB (Vec.rep 32 0), ckV flB (Vec.rep 32 0), ckV flB (Vec.rep 32 0), ckL Sv.nil, ckI 0, ckL Sv.nil, ckI 0, ckL Sv.nil] 73] := hI
                  refine lst rfl (l_st (off := 0) (p := 0) (m := 10) (new := [ckI x384.Block.Epoch, ckI x384.Block.Height, ckV flB x384.Block.Prev, ckV flB x384.Block.State, ckV flB x384.Block.Next, ckL s390, ckI x384.Cert.Round, ckL s391, ckI x384.Config.Epoch, ckL s392]) hI 2 rfl rfl sz73 rfl rfl rfl rfl rfl rfl) rfl ?_
                  intro w395 hI
                  replace hI : Inv B w395 H363 [.cb g52 [ckI x47.1.Epoch, ckL s51] 64, .cb g157 [ckI x153.2.1, ckL s156] 64, .cb g393 [ckI x384.Block.Epoch, ckI x384.Block.Height, ckV flB x384.Block.Prev, ckV flB x384.Block.State, ckV flB x384.Block.Next, ckL s390, ckI x384.Cert.Round, ckL s391, ckI x384.Config.Epoch, ckL s392] 73] := hI
                  refine wend ?_
                  refine wthen ?_
                  refine wren (fun ρ396 eρ396 => ?_)
                  have h397 : opd ρ396 133 (.tmp 7) = .pointer (some ⟨g52, 0 + 0, none⟩) := (eρ396 7).trans h376
                  have h398 : opd ρ396 133 (.tmp 13) = .pointer (some ⟨g157, 0 + 0, none⟩) := (eρ396 13).trans h377
                  have h399 : opd ρ396 133 (.tmp 15) = .int .i64 x153.1 := (eρ396 15).trans h378
                  have h400 : opd ρ396 133 (.tmp 16) = .int .i64 σ200.1 := (eρ396 16).trans h379
                  have h401 : opd ρ396 133 (.tmp 17) = .int .i64 σ200.2 := (eρ396 17).trans h380
                  have h402 : opd ρ396 133 (.tmp 19) = .pointer (some ⟨g393, 0 + 0, none⟩) := eρ396 19
                  have h403 : opd ρ396 133 (.tmp 94) = s2.v := (eρ396 94).trans h381
                  have h404 : opd ρ396 133 (.tmp 95) = .int .i64 (a1.length : Int) := (eρ396 95).trans h382
                  have h405 : opd ρ396 133 (.tmp 96) = .int .i64 (i200 : Int) := (eρ396 96).trans h383
                  clear eρ396
                  refine wseq ?_
                  refine wseq ?_
                  refine wreg ?_
                  refine lv (v := .pointer (some ⟨g393, 0 + 101, none⟩)) rfl (l_fa (j := 0) (i := 0) rfl fl73_2 h402 rfl) rfl ?_
                  refine lv (v := .pointer (some ⟨g393, 0 + 101, none⟩)) rfl (l_fa (j := 0) (i := 101) rfl fl64_0 rfl rfl) rfl ?_
                  refine lv (v := .int .i64 x384.Config.Epoch) rfl (r_cl1 (off := 101) (p := 8) (hI.good.ca 2 rfl) rfl sc3 rfl rfl rfl) rfl ?_
                  refine lv (v := .int .i64 σ200.1) rfl (r_mv rfl h400) rfl ?_
                  refine lv (v := .bool (decide (x384.Config.Epoch ≤ σ200.1))) rfl (r_leq rfl rfl rfl rfl) rfl ?_
                  by_cases hc406 : x384.Config.Epoch ≤ σ200.1
                  · skip
                    rw [if_pos hc406] at hF
                    have hbhc406 : (decide (x384.Config.Epoch ≤ σ200.1)) = true := decide_eq_true hc406
                    refine lv (v := .bool true) rfl (r_mv rfl ((show opd _ _ _ = _ from rfl).trans (congrArg Value.bool hbhc406))) rfl ?_
                    with_reducible refine lx (d := 106) (by kernel_rfl) (by kernel_rfl) ?_
                    with_reducible refine lx (d := 107) (by kernel_rfl) (by kernel_rfl) ?_
                    with_reducible refine lx (d := 108) (by kernel_rfl) (by kernel_rfl) ?_
                    with_reducible refine lx (d := 109) (by kernel_rfl) (by kernel_rfl) ?_
                    with_reducible refine lx (d := 110) (by kernel_rfl) (by kernel_rfl) ?_
                    refine lv (v := .bool true) rfl (r_pkT rfl rfl rfl) rfl ?_
                    refine lv (v := .bool true) rfl (r_mv rfl rfl) rfl ?_
                    with_reducible refine lx (d := 113) (by kernel_rfl) (by kernel_rfl) ?_
                    with_reducible refine lx (d := 114) (by kernel_rfl) (by kernel_rfl) ?_
                    with_reducible refine lx (d := 115) (by kernel_rfl) (by kernel_rfl) ?_
                    with_reducible refine lx (d := 116) (by kernel_rfl) (by kernel_rfl) ?_
                    with_reducible refine lx (d := 117) (by kernel_rfl) (by kernel_rfl) ?_
                    refine lv (v := .bool true) rfl (r_pkT rfl rfl rfl) rfl ?_
                    refine wend ?_
                    refine wthen ?_
                    refine wren (fun ρ407 eρ407 => ?_)
                    have h408 : opd ρ407 133 (.tmp 7) = .pointer (some ⟨g52, 0 + 0, none⟩) := (eρ407 7).trans h397
                    have h409 : opd ρ407 133 (.tmp 13) = .pointer (some ⟨g157, 0 + 0, none⟩) := (eρ407 13).trans h398
                    have h410 : opd ρ407 133 (.tmp 15) = .int .i64 x153.1 := (eρ407 15).trans h399
                    have h411 : opd ρ407 133 (.tmp 19) = .pointer (some ⟨g393, 0 + 0, none⟩) := (eρ407 19).trans h402
                    have h412 : opd ρ407 133 (.tmp 94) = s2.v := (eρ407 94).trans h403
                    have h413 : opd ρ407 133 (.tmp 95) = .int .i64 (a1.length : Int) := (eρ407 95).trans h404
                    have h414 : opd ρ407 133 (.tmp 96) = .int .i64 (i200 : Int) := (eρ407 96).trans h405
                    have h415 : opd ρ407 133 (.tmp 118) = .bool true := eρ407 118
                    clear eρ407
                    refine wcT h415 ?_
                    refine wseq ?_
                    refine wreg ?_
                    refine lv (v := .bool false) rfl (r_as rfl rfl) rfl ?_
                    refine wend ?_
                    refine wthen ?_
                    refine wren (fun ρ416 eρ416 => ?_)
                    have h417 : opd ρ416 133 (.tmp 6) = .bool false := eρ416 6
                    clear eρ416
                    refine wp_ret ?_
                    refine thR ?_
                    refine inR ?_
                    refine thR ?_
                    refine thR ?_
                    obtain ⟨q418, hFn, hzq418⟩ := Option.map_eq_some_iff.1 hF
                    clear hF
                    obtain rfl := forK_inr hy200 (hb200.trans (congrArg some hzq418.symm))
                    have hF0 := hF200
                    try dsimp only at hF0
                    have hF := hFn.trans hF0
                    clear hFn hF0
                    refine inR ?_
                    refine thR ?_
                    obtain rfl := Option.some.inj hF
                    subst hB
                    refine finR (rs := [.tmp 6]) (vs := [.bool false]) rfl ⟨h417, trivial⟩ ?_
                    exact hI.fin 0 ⟨rfl, rfl⟩
                  · skip
                    rw [if_neg hc406] at hF
                    have hbhc406 : (decide (x384.Config.Epoch ≤ σ200.1)) = false := decide_eq_false hc406
                    refine lv (v := .bool false) rfl (r_mv rfl ((show opd _ _ _ = _ from rfl).trans (congrArg Value.bool hbhc406))) rfl ?_
                    refine lv (v := .pointer (some ⟨g393, 0 + 0, none⟩)) rfl (l_fa (j := 0) (i := 0) rfl fl73_0 h402 rfl) rfl ?_
                    refine lv (v := .pointer (some ⟨g393, 0 + 1, none⟩)) rfl (l_fa (j := 0) (i := 0) rfl fl69_1 rfl rfl) rfl ?_
                    refine lv (v := .int .i64 x384.Block.Height) rfl (r_cl1 (off := 1) (p := 1) (hI.good.ca 2 rfl) rfl sc3 rfl rfl rfl) rfl ?_
                    refine lv (v := .int .i64 σ200.2) rfl (r_mv rfl h401) rfl ?_
                    refine lv (v := .bool (decide (x384.Block.Height ≤ σ200.2))) rfl (r_leq rfl rfl rfl rfl) rfl ?_
                    refine lv (v := .bool (decide (x384.Block.Height ≤ σ200.2))) rfl (r_pkF rfl rfl rfl) rfl ?_
                    by_cases hc419 : x384.Block.Height ≤ σ200.2
                    · skip
                      rw [if_pos hc419] at hF
                      have hbhc419 : (decide (x384.Block.Height ≤ σ200.2)) = true := decide_eq_true hc419
                      refine lv (v := .bool true) rfl (r_mv rfl ((show opd _ _ _ = _ from rfl).trans (congrArg Value.bool hbhc419))) rfl ?_
                      with_reducible refine lx (d := 113) (by kernel_rfl) (by kernel_rfl) ?_
                      with_reducible refine lx (d := 114) (by kernel_rfl) (by kernel_rfl) ?_
                      with_reducible refine lx (d := 115) (by kernel_rfl) (by kernel_rfl) ?_
                      with_reducible refine lx (d := 116) (by kernel_rfl) (by kernel_rfl) ?_
                      with_reducible refine lx (d := 117) (by kernel_rfl) (by kernel_rfl) ?_
                      refine lv (v := .bool true) rfl (r_pkT rfl rfl rfl) rfl ?_
                      refine wend ?_
                      refine wthen ?_
                      refine wren (fun ρ420 eρ420 => ?_)
                      have h421 : opd ρ420 133 (.tmp 7) = .pointer (some ⟨g52, 0 + 0, none⟩) := (eρ420 7).trans h397
                      have h422 : opd ρ420 133 (.tmp 13) = .pointer (some ⟨g157, 0 + 0, none⟩) := (eρ420 13).trans h398
                      have h423 : opd ρ420 133 (.tmp 15) = .int .i64 x153.1 := (eρ420 15).trans h399
                      have h424 : opd ρ420 133 (.tmp 19) = .pointer (some ⟨g393, 0 + 0, none⟩) := (eρ420 19).trans h402
                      have h425 : opd ρ420 133 (.tmp 94) = s2.v := (eρ420 94).trans h403
                      have h426 : opd ρ420 133 (.tmp 95) = .int .i64 (a1.length : Int) := (eρ420 95).trans h404
                      have h427 : opd ρ420 133 (.tmp 96) = .int .i64 (i200 : Int) := (eρ420 96).trans h405
                      have h428 : opd ρ420 133 (.tmp 118) = .bool true := eρ420 118
                      clear eρ420
                      refine wcT h428 ?_
                      refine wseq ?_
                      refine wreg ?_
                      refine lv (v := .bool false) rfl (r_as rfl rfl) rfl ?_
                      refine wend ?_
                      refine wthen ?_
                      refine wren (fun ρ429 eρ429 => ?_)
                      have h430 : opd ρ429 133 (.tmp 6) = .bool false := eρ429 6
                      clear eρ429
                      refine wp_ret ?_
                      refine thR ?_
                      refine inR ?_
                      refine thR ?_
                      refine thR ?_
                      obtain ⟨q431, hFn, hzq431⟩ := Option.map_eq_some_iff.1 hF
                      clear hF
                      obtain rfl := forK_inr hy200 (hb200.trans (congrArg some hzq431.symm))
                      have hF0 := hF200
                      try dsimp only at hF0
                      have hF := hFn.trans hF0
                      clear hFn hF0
                      refine inR ?_
                      refine thR ?_
                      obtain rfl := Option.some.inj hF
                      subst hB
                      refine finR (rs := [.tmp 6]) (vs := [.bool false]) rfl ⟨h430, trivial⟩ ?_
                      exact hI.fin 0 ⟨rfl, rfl⟩
                    · skip
                      rw [if_neg hc419] at hF
                      have hbhc419 : (decide (x384.Block.Height ≤ σ200.2)) = false := decide_eq_false hc419
                      refine lv (v := .bool false) rfl (r_mv rfl ((show opd _ _ _ = _ from rfl).trans (congrArg Value.bool hbhc419))) rfl ?_
                      refine lv (v := .pointer (some ⟨g393, 0 + 0, none⟩)) rfl (l_fa (j := 0) (i := 0) rfl fl73_0 h402 rfl) rfl ?_
                      refine lv (v := .pointer (some ⟨g393, 0 + 0, none⟩)) rfl (l_fa (j := 0) (i := 0) rfl fl69_0 rfl rfl) rfl ?_
                      refine lv (v := .int .i64 x384.Block.Epoch) rfl (r_cl1 (off := 0) (p := 0) (hI.good.ca 2 rfl) rfl sc3 rfl rfl rfl) rfl ?_
                      refine lv (v := .int .i64 σ200.1) rfl (r_mv rfl h400) rfl ?_
                      refine lv (v := .bool (decide (x384.Block.Epoch ≠ σ200.1))) rfl (r_neq rfl rfl rfl rfl) rfl ?_
                      refine lv (v := .bool (decide (x384.Block.Epoch ≠ σ200.1))) rfl (r_pkF rfl rfl rfl) rfl ?_
                      refine wend ?_
                      refine wthen ?_
                      refine wren (fun ρ432 eρ432 => ?_)
                      have h433 : opd ρ432 133 (.tmp 7) = .pointer (some ⟨g52, 0 + 0, none⟩) := (eρ432 7).trans h397
                      have h434 : opd ρ432 133 (.tmp 13) = .pointer (some ⟨g157, 0 + 0, none⟩) := (eρ432 13).trans h398
                      have h435 : opd ρ432 133 (.tmp 15) = .int .i64 x153.1 := (eρ432 15).trans h399
                      have h436 : opd ρ432 133 (.tmp 19) = .pointer (some ⟨g393, 0 + 0, none⟩) := (eρ432 19).trans h402
                      have h437 : opd ρ432 133 (.tmp 94) = s2.v := (eρ432 94).trans h403
                      have h438 : opd ρ432 133 (.tmp 95) = .int .i64 (a1.length : Int) := (eρ432 95).trans h404
                      have h439 : opd ρ432 133 (.tmp 96) = .int .i64 (i200 : Int) := (eρ432 96).trans h405
                      have h440 : opd ρ432 133 (.tmp 118) = .bool (decide (x384.Block.Epoch ≠ σ200.1)) := eρ432 118
                      clear eρ432
                      by_cases hc441 : x384.Block.Epoch ≠ σ200.1
                      · skip
                        rw [if_pos hc441] at hF
                        have hbhc441 : (decide (x384.Block.Epoch ≠ σ200.1)) = true := decide_eq_true hc441
                        refine wcT (h440.trans (congrArg Value.bool hbhc441)) ?_
                        refine wseq ?_
                        refine wreg ?_
                        refine lv (v := .bool false) rfl (r_as rfl rfl) rfl ?_
                        refine wend ?_
                        refine wthen ?_
                        refine wren (fun ρ442 eρ442 => ?_)
                        have h443 : opd ρ442 133 (.tmp 6) = .bool false := eρ442 6
                        clear eρ442
                        refine wp_ret ?_
                        refine thR ?_
                        refine inR ?_
                        refine thR ?_
                        refine thR ?_
                        obtain ⟨q444, hFn, hzq444⟩ := Option.map_eq_some_iff.1 hF
                        clear hF
                        obtain rfl := forK_inr hy200 (hb200.trans (congrArg some hzq444.symm))
                        have hF0 := hF200
                        try dsimp only at hF0
                        have hF := hFn.trans hF0
                        clear hFn hF0
                        refine inR ?_
                        refine thR ?_
                        obtain rfl := Option.some.inj hF
                        subst hB
                        refine finR (rs := [.tmp 6]) (vs := [.bool false]) rfl ⟨h443, trivial⟩ ?_
                        exact hI.fin 0 ⟨rfl, rfl⟩
                      · skip
                        rw [if_neg hc441] at hF
                        have hbhc441 : (decide (x384.Block.Epoch ≠ σ200.1)) = false := decide_eq_false hc441
                        refine wcF (h440.trans (congrArg Value.bool hbhc441)) ?_
                        refine wp_skip ?_
                        refine wthen ?_
                        refine dstG (H0 := H363) (L0 := keepL [true, true, true] [.cb g52 [ckI x47.1.Epoch, ckL s51] 64, .cb g157 [ckI x153.2.1, ckL s156] 64, .cb g393 [ckI x384.Block.Epoch, ckI x384.Block.Height, ckV flB x384.Block.Prev, ckV flB x384.Block.State, ckV flB x384.Block.Next, ckL s390, ckI x384.Cert.Round, ckL s391, ckI x384.Config.Epoch, ckL s392] 73]) [] mixed rfl (by repeat (first | exact Pan.body | refine Pan.then ?_ | refine Pan.inBlock ?_ | refine Pan.noGoto ?_ | refine Pan.pure ?_)) hI (hI.good.weakm _ (Hle.refl _) rfl) ?_
                        intro w445 hI hP
                        refine dp (v := .pointer (some ⟨g393, 0 + 101, none⟩)) 0 (by kernel_rfl) rfl rfl (fun _ => l_fa (j := 0) (i := 0) rfl fl73_2 h436 rfl) rfl hP ?_
                        refine dp (v := .pointer (some ⟨g393, 0 + 101, none⟩)) 1 (by kernel_rfl) rfl rfl (fun _ => l_fa (j := 0) (i := 101) rfl fl64_0 rfl rfl) rfl hP ?_
                        refine dp (v := .pointer (some ⟨g393, 0 + 0, none⟩)) 3 (by kernel_rfl) rfl rfl (fun _ => l_fa (j := 0) (i := 0) rfl fl73_0 h436 rfl) rfl hP ?_
                        refine dp (v := .pointer (some ⟨g393, 0 + 1, none⟩)) 4 (by kernel_rfl) rfl rfl (fun _ => l_fa (j := 0) (i := 0) rfl fl69_1 rfl rfl) rfl hP ?_
                        refine dr (v := .int .i64 x384.Config.Epoch) 2 (by kernel_rfl) rfl rfl (hI.good.weakm [true, true, true] (Hle.refl _) rfl) (fun _ hG => r_cl1 (off := 101) (p := 8) (hG.ca 2 rfl) rfl sc3 rfl rfl rfl) rfl hP ?_
                        refine dp (v := .int .i64 x384.Config.Epoch) 6 (by kernel_rfl) rfl rfl (fun _ => r_as rfl rfl) rfl hP ?_
                        refine dr (v := .int .i64 x384.Block.Height) 5 (by kernel_rfl) rfl rfl (hI.good.weakm [true, true, true] (Hle.refl _) rfl) (fun _ hG => r_cl1 (off := 1) (p := 1) (hG.ca 2 rfl) rfl sc3 rfl rfl rfl) rfl hP ?_
                        refine dp (v := .int .i64 x384.Block.Height) 7 (by kernel_rfl) rfl rfl (fun _ => r_as rfl rfl) rfl hP ?_
                        refine dend (by kernel_rfl) ?_
                        refine inN ?_
                        refine wthen ?_
                        refine wren (fun ρ446 eρ446 => ?_)
                        have h447 : opd ρ446 133 (.tmp 7) = .pointer (some ⟨g52, 0 + 0, none⟩) := (eρ446 7).trans h433
                        have h448 : opd ρ446 133 (.tmp 13) = .pointer (some ⟨g157, 0 + 0, none⟩) := (eρ446 13).trans h434
                        have h449 : opd ρ446 133 (.tmp 15) = .int .i64 x153.1 := (eρ446 15).trans h435
                        have h450 : opd ρ446 133 (.tmp 16) = .int .i64 x384.Config.Epoch := eρ446 16
                        have h451 : opd ρ446 133 (.tmp 17) = .int .i64 x384.Block.Height := eρ446 17
                        have h452 : opd ρ446 133 (.tmp 94) = s2.v := (eρ446 94).trans h437
                        have h453 : opd ρ446 133 (.tmp 95) = .int .i64 (a1.length : Int) := (eρ446 95).trans h438
                        have h454 : opd ρ446 133 (.tmp 96) = .int .i64 (i200 : Int) := (eρ446 96).trans h439
                        clear eρ446
                        refine wreg ?_
                        refine lv (v := .int .i64 ((i200 + 1 : Nat) : Int)) rfl (r_addn rfl h454 rfl hlt200) rfl ?_
                        refine lv (v := .int .i64 ((i200 + 1 : Nat) : Int)) rfl (r_mv rfl rfl) rfl ?_
                        refine wend ?_
                        obtain rfl := Option.some.inj hF
                        exact ⟨k200, (x384.Config.Epoch, x384.Block.Height), _, rfl, rfl, ⟨H363, hleH363, h447, h448, h449, h450, h451, h452, h453, rfl, (hI.keep [true, true, false])⟩, forK_inl hy200 hb200⟩
                · skip
                  have hbhc374 : (decide ((i200 : Int) < (a1.length : Int))) = false := decide_eq_false hc374
                  obtain rfl : k200 = 0 := by omega
                  obtain rfl := forK_end hy200
                  have hF := hF200
                  try dsimp only at hF
                  refine wcF ((show opd _ _ _ = _ from rfl).trans (congrArg Value.bool hbhc374)) ?_
                  refine wp_exit ?_
                  refine thE ?_
                  refine thE ?_
                  refine inX ?_
                  refine wthen ?_
                  refine wren (fun ρ455 eρ455 => ?_)
                  have h456 : opd ρ455 133 (.tmp 7) = .pointer (some ⟨g52, 0 + 0, none⟩) := (eρ455 7).trans h364
                  have h457 : opd ρ455 133 (.tmp 13) = .pointer (some ⟨g157, 0 + 0, none⟩) := (eρ455 13).trans h365
                  have h458 : opd ρ455 133 (.tmp 15) = .int .i64 x153.1 := (eρ455 15).trans h366
                  clear eρ455
                  refine wseq ?_
                  refine wreg ?_
                  refine lv (v := .int .i64 x153.1) rfl (r_mv rfl h458) rfl ?_
                  refine lv (v := .bool (decide (x153.1 = 0))) rfl (r_eql rfl rfl rfl rfl) rfl ?_
                  by_cases hc459 : x153.1 = 0
                  · skip
                    rw [if_pos hc459] at hF
                    have hbhc459 : (decide (x153.1 = 0)) = true := decide_eq_true hc459
                    refine lv (v := .bool true) rfl (r_mv rfl ((show opd _ _ _ = _ from rfl).trans (congrArg Value.bool hbhc459))) rfl ?_
                    refine lv (v := .agg (flat [ckI x153.2.1, ckL s156]).toArray) rfl (r_cla (off := 0) (p := 0) (m := 2) (hI.good.ca 1 rfl) rfl ag64 h457 rfl rfl) rfl ?_
                    refine lv (v := .agg (flat [ckI x47.1.Epoch, ckL s51]).toArray) rfl (r_cla (off := 0) (p := 0) (m := 2) (hI.good.ca 0 rfl) rfl ag64 h456 rfl rfl) rfl ?_
                    obtain ⟨x460, hx460, hF⟩ := Option.bind_eq_some_iff.1 hF
                    have hsp463 := spec_35 hx460 ((((((hT.mono hleH10).mono hleH20).mono hleH48).mono hleH65).mono hleH154).mono hleH363) (hI.part 0) (hs156.mono hleH363) (((hs51.mono hleH65).mono hleH154).mono hleH363)
                    refine fc ([]) ([.cb g52 [ckI x47.1.Epoch, ckL s51] 64, .cb g157 [ckI x153.2.1, ckL s156] 64]) (args := [.agg (flat [ckI x153.2.1, ckL s156]).toArray, .agg (flat [ckI x47.1.Epoch, ckL s51]).toArray]) fc35 rfl rfl rfl hI (argc rfl (argc rfl rfl)) (hsp463) ?_
                    rintro _ H461 _ w462 ⟨rfl, rfl⟩ hleH461 hI
                    replace hI : Inv B w462 H461 [.cb g52 [ckI x47.1.Epoch, ckL s51] 64, .cb g157 [ckI x153.2.1, ckL s156] 64] := hI
                    refine lv (v := .bool x460) rfl (r_pkT rfl rfl rfl) rfl ?_
                    refine lv (v := .bool x460) rfl (r_as rfl rfl) rfl ?_
                    refine wend ?_
                    refine wthen ?_
                    refine wren (fun ρ464 eρ464 => ?_)
                    have h465 : opd ρ464 133 (.tmp 6) = .bool x460 := eρ464 6
                    clear eρ464
                    refine wp_ret ?_
                    obtain rfl := Option.some.inj hF
                    subst hB
                    refine finR (rs := [.tmp 6]) (vs := [.bool x460]) rfl ⟨h465, trivial⟩ ?_
                    exact hI.fin 0 ⟨rfl, rfl⟩
                  · skip
                    rw [if_neg hc459] at hF
                    have hbhc459 : (decide (x153.1 = 0)) = false := decide_eq_false hc459
                    refine lv (v := .bool false) rfl (r_mv rfl ((show opd _ _ _ = _ from rfl).trans (congrArg Value.bool hbhc459))) rfl ?_
                    with_reducible refine lx (d := 129) (by kernel_rfl) (by kernel_rfl) ?_
                    with_reducible refine lx (d := 130) (by kernel_rfl) (by kernel_rfl) ?_
                    with_reducible refine lx (d := 131) (by kernel_rfl) (by kernel_rfl) ?_
                    refine lv (v := .bool false) rfl (r_pkF rfl rfl rfl) rfl ?_
                    refine lv (v := .bool false) rfl (r_as rfl rfl) rfl ?_
                    refine wend ?_
                    refine wthen ?_
                    refine wren (fun ρ466 eρ466 => ?_)
                    have h467 : opd ρ466 133 (.tmp 6) = .bool false := eρ466 6
                    clear eρ466
                    refine wp_ret ?_
                    obtain rfl := Option.some.inj hF
                    subst hB
                    refine finR (rs := [.tmp 6]) (vs := [.bool false]) rfl ⟨h467, trivial⟩ ?_
                    exact hI.fin 0 ⟨rfl, rfl⟩
  · skip
    rw [if_neg hc18] at hF
    have hbhc18 : (!x9) = true := (by rw [(Bool.eq_false_iff.2 hc18)]; rfl)
    refine wcT (h17.trans (congrArg Value.bool hbhc18)) ?_
    refine wseq ?_
    refine wreg ?_
    refine lv (v := .bool false) rfl (r_as rfl rfl) rfl ?_
    refine wend ?_
    refine wthen ?_
    refine wren (fun ρ468 eρ468 => ?_)
    have h469 : opd ρ468 133 (.tmp 6) = .bool false := eρ468 6
    clear eρ468
    refine wp_ret ?_
    refine thR ?_
    obtain rfl := Option.some.inj hF
    subst hB
    refine finR (rs := [.tmp 6]) (vs := [.bool false]) rfl ⟨h469, trivial⟩ ?_
    exact hI.fin 0 ⟨rfl, rfl⟩
end Go.Proofs.YtdebnncpclodcaaDoor.X
