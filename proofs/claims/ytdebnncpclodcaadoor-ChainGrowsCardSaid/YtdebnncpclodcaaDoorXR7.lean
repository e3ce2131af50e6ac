/-
  The given statement, proved for every input. No condition beyond those that the lemmas name.
-/
import Derived.Test.YtdebnncpclodcaaDoorCards
import Derived.Test.YtdebnncpclodcaaDoorTie
import Derived.ProofKit
import Derived.LaidMore
import Derived.OpenShut
import Derived.Stop.Joined
import Derived.SevenTiedAt
import Derived.Test.YtdebnncpclodcaaDoorXTabC
import Derived.Test.YtdebnncpclodcaaDoorXPO
import Derived.Test.YtdebnncpclodcaaDoorXTGrows
set_option linter.unusedSimpArgs false
set_option linter.unusedVariables false
namespace Go.Proofs.YtdebnncpclodcaaDoor
open Go Go.ChangeShapes Go.WideShapes Go.ChangeAt Go.RowKit
open Go.Proofs.YtdebnncpclodcaaDoor.X
theorem door_met7 (os : Os) (args : Array Value) : laidMetH Tryd.prog laidT ((World.doorLaid Tryd.prog 400 os).forCall (fun _ _ => 0) ⟨#[], args, []⟩).memory :=
  laidMetH_of_parts3 (fuel := 8) (laidMet_of_run' 8 (by kernel_rfl) (by kernel_rfl)) (by kernel_rfl) (by kernel_rfl)
set_option maxRecDepth 100000 in
theorem chainGrows_lifted (os : Os) (started : os.Started) (H : Type) (enc : TypeId × Value → H) :
    ReturnsInHanded {} Tryd.checked os 7 .any (fun w args => (Rows.chainGrowsSpec.pre enc Tryd.prog Tryd.f7 [] false w args ∧ laidMetH Tryd.prog laidT w) ∧ sizedMet enc Tryd.prog Tryd.f7 (OpenSpec.ofChange Rows.chainGrowsSpec) false w args)
      (Rows.chainGrowsSpec.post enc Tryd.prog Tryd.f7 false true false false) := by
  refine returnsInHanded_of_change_and (C := Tryd.checked) (X := fun w _ => laidMetH Tryd.prog laidT w) (fun _ _ _ hh h => h.of_heap hh) ownT started (by kernel_rfl) Tryd.func7
    (ChangeSpec.witness_shaped (enc := enc) (C := Tryd.checked) (os := os) (X := fun w _ => laidMetH Tryd.prog laidT w) false (World.doorLaid Tryd.prog 400 os) #[.agg #[.int .i64 0, .slice none 0 0], .slice none 0 0, .agg #[.int .i64 0, .int .i64 0, .int .u8 0, .int .u8 0, .int .u8 0, .int .u8 0, .int .u8 0, .int .u8 0, .int .u8 0, .int .u8 0, .int .u8 0, .int .u8 0, .int .u8 0, .int .u8 0, .int .u8 0, .int .u8 0, .int .u8 0, .int .u8 0, .int .u8 0, .int .u8 0, .int .u8 0, .int .u8 0, .int .u8 0, .int .u8 0, .int .u8 0, .int .u8 0, .int .u8 0, .int .u8 0, .int .u8 0, .int .u8 0, .int .u8 0, .int .u8 0, .int .u8 0, .int .u8 0, .int .u8 0, .int .u8 0, .int .u8 0, .int .u8 0, .int .u8 0, .int .u8 0, .int .u8 0, .int .u8 0, .int .u8 0, .int .u8 0, .int .u8 0, .int .u8 0, .int .u8 0, .int .u8 0, .int .u8 0, .int .u8 0, .int .u8 0, .int .u8 0, .int .u8 0, .int .u8 0, .int .u8 0, .int .u8 0, .int .u8 0, .int .u8 0, .int .u8 0, .int .u8 0, .int .u8 0, .int .u8 0, .int .u8 0, .int .u8 0, .int .u8 0, .int .u8 0, .int .u8 0, .int .u8 0, .int .u8 0, .int .u8 0, .int .u8 0, .int .u8 0, .int .u8 0, .int .u8 0, .int .u8 0, .int .u8 0, .int .u8 0, .int .u8 0, .int .u8 0, .int .u8 0, .int .u8 0, .int .u8 0, .int .u8 0, .int .u8 0, .int .u8 0, .int .u8 0, .int .u8 0, .int .u8 0, .int .u8 0, .int .u8 0, .int .u8 0, .int .u8 0, .int .u8 0, .int .u8 0, .int .u8 0, .int .u8 0, .int .u8 0, .int .u8 0, .slice none 0 0, .int .i64 0, .slice none 0 0, .int .i64 0, .slice none 0 0]] 8 rfl (World.shaped_of_RefB (by kernel_rfl) (by kernel_rfl)) (by kernel_rfl) (by kernel_rfl) (by kernel_rfl) (door_met7 os _)) ?_
  intro W base args ds gs before hval0 hW _ hsz0 hL _
  have hval : ∀ (j : Nat) t v, Tryd.f7.params[j]? = some t → args[j]? = some v → Value.okWide Tryd.prog W .any base t v := hval0
  have hW' := hW
  obtain ⟨p, q, hA0, hV, rfl, _, _⟩ := hW
  have hA : DataW.TrodAll enc Tryd.prog W 0 (fun _ => true) true Tryd.f7.params.toList args.toList ds p := hA0
  have hsz : (DataW.weightsEach Tryd.prog (Tryd.f7.params.toList ++ Rows.chainGrowsSpec.plain.varTypes Tryd.prog) (ds ++ gs)).all (· ≤ reachBytes) = true := hsz0
  rw [Tryd.params7] at hA hval hsz
  obtain ⟨rfl, rfl⟩ := trodVars_none hV
  obtain ⟨av, rfl⟩ : ∃ l : List Value, args = l.toArray := ⟨args.toList, by simp⟩
  simp only [List.toList_toArray] at hA
  obtain ⟨v0, av0, d0, ds0, p0, q0, rfl, rfl, rfl, h0, hA0⟩ := trodAll_cons hA
  obtain ⟨v1, av1, d1, ds1, p1, q1, rfl, rfl, rfl, h1, hA1⟩ := trodAll_cons hA0
  obtain ⟨v2, av2, d2, ds2, p2, q2, rfl, rfl, rfl, h2, hA2⟩ := trodAll_cons hA1
  obtain ⟨rfl, rfl, rfl⟩ := trodAll_nil hA2
  have o0 := opt_arg (j := 0) h0 hsz rfl rfl
  obtain ⟨c0, rfl⟩ := wide_str (by kernel_rfl) (hval 0 64 v0 rfl rfl)
  obtain ⟨a0, s0_0, e0, ks0_0⟩ := opn_64 o0
  have f0 := agg_of e0
  subst f0
  have o1 := opt_arg (j := 1) h1 hsz rfl rfl
  obtain ⟨x1, y1, z1, rfl⟩ := wide_sl (by kernel_rfl) (hval 1 65 v1 rfl rfl)
  obtain ⟨a1, s1_0, e1, ks1_0⟩ := opn_65 o1
  obtain ⟨rfl⟩ : Value.slice x1 y1 z1 = s1_0.v := (List.cons.inj e1).1
  have o2 := opt_arg (j := 2) h2 hsz rfl rfl
  obtain ⟨c2, rfl⟩ := wide_str (by kernel_rfl) (hval 2 73 v2 rfl rfl)
  obtain ⟨a2, s2_0, s2_1, s2_2, e2, ks2_0, ks2_1, ks2_2⟩ := opn_73 o2
  have f2 := agg_of e2
  subst f2
  simp only [List.append_nil] at hW'
  refine (spec_7 (law_7 a0 a1 a2) (tab_of hL) (HW.good W) ks0_0 ks1_0 ks2_0 ks2_1 ks2_2).mono fun e W2 ⟨v, H2, L2, he, hR, hG, hE, _⟩ => ?_
  obtain ⟨rfl, _⟩ := hR
  subst he
  have hA2 : Ag M0 W W2 := agM0 hE.ag
  exact ⟨_, rfl, post_law laidOutT (by kernel_rfl) rfl (by kernel_rfl) rfl hW' hA2 rfl⟩

theorem chainGrows_row : Rows.ChainGrowsSaid :=
  OpenClaim.holds_of_wide 7 Tryd.f7 rfl rfl rfl rfl rfl rfl rfl ⟨rfl, rfl, rfl, rfl, rfl⟩ rfl rfl rfl rfl rfl (by kernel_rfl) Tryd.func7 (by kernel_rfl)
    (of_decide_eq_true (by kernel_rfl)) (by unfold Func.isWrapper; first | (rw [if_pos (by decide +kernel)]; kernel_rfl) | (rw [if_neg (by decide +kernel)]; exact ⟨rfl, rfl⟩))
    (fun os started H enc _ => chainGrows_lifted os started H enc)
theorem chainGrows_holds : Rows.ChainGrowsCardSaid :=
  Claim7.holds_tied_plain_at .later [] [.data] true Rows.chainGrowsCard.stood.harness false
    chainGrows_row (fun _ h => by cases h) (by kernel_rfl) (fun _ h => by cases h) chainGrows_row_tie rfl ⟨rfl, rfl⟩ (by kernel_rfl) rfl
    (fun f fn hf hfn => by
      obtain rfl : f = 7 := Option.some.inj ((show Tryd.prog.funcNamed "wapentake/wapentakelaw15.ChainGrows" = some 7 by kernel_rfl).symm.trans hf) |>.symm
      obtain rfl : fn = Tryd.f7 := (Option.some.inj (Tryd.func7.symm.trans hfn)).symm
      exact ⟨by kernel_rfl, fun j t ht => by
        rw [Tryd.params7] at ht
        have hm : t ∈ [64, 65, 73] := by simpa using Array.mem_of_getElem? ht
        have hall : ([64, 65, 73].all fun u => !Tryd.prog.wantsStandIn u) = true := by kernel_rfl
        exact (show Tryd.prog.wantsStandIn t = false by simpa using List.all_eq_true.1 hall t hm)⟩)
    (by kernel_rfl)
#print axioms chainGrows_holds
end Go.Proofs.YtdebnncpclodcaaDoor
