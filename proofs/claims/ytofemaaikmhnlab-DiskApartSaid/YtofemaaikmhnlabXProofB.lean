/-
  The given statement, proved for every input. No condition beyond those that the lemmas name.
-/
import Derived.Test.YtofemaaikmhnlabRows
import Derived.Test.YtofemaaikmhnlabXApart
import Derived.Test.YtofemaaikmhnlabXRow
namespace Go.Proofs.Ytofemaaikmhnlab
open Go.ChangeShapes Go.WideShapes Go.ChangeAt Go.RowKit
open Go.Proofs.Ytofemaaikmhnlab.X

theorem own : ownKnob Try.prog.godebug = none := by kernel_rfl
theorem laidOut : laidOutB Try.prog = true := by kernel_rfl
theorem cells5 : Try.prog.cellsOf 5 = 1 := by kernel_rfl
theorem bytes5 : Try.prog.bytesOf 5 = 1 := by kernel_rfl

set_option maxRecDepth 100000 in
theorem diskApart_lifted (os : Os) (started : os.Started) (H : Type) (enc : TypeId × Value → H) :
    ReturnsInHanded {} Try.checked os 5 .any (Rows.diskApartSpec.pre6 enc Try.prog Try.f5 Rows.diskApartRow.domain false) (Rows.diskApartSpec.post enc Try.prog Try.f5 false true false false) := by
  refine returnsInHanded_of_change_sized (C := Try.checked) own started (by kernel_rfl) Try.func5
    (ChangeSpec.witness6 (enc := enc) (C := Try.checked) false ⟨#[], #[.slice none 0 0, .slice none 0 0, .slice none 0 0], []⟩ 8 (by kernel_rfl) (by kernel_rfl) (by kernel_rfl) (by kernel_rfl)) ?_
  intro W base args ds gs before hval0 hW _ hsz0 _
  have hval : ∀ (j : Nat) t v, Try.f5.params[j]? = some t → args[j]? = some v → Value.okWide Try.prog W .any base t v := hval0
  have hW' := hW
  obtain ⟨p, q, hA0, hV, rfl, _, _⟩ := hW
  have hA : DataW.TrodAll enc Try.prog W 0 (fun _ => true) true Try.f5.params.toList args.toList ds p := hA0
  have hsz : (DataW.weightsEach Try.prog (Try.f5.params.toList ++ Rows.diskApartSpec.plain.varTypes Try.prog) (ds ++ gs)).all (· ≤ reachBytes) = true := hsz0
  rw [Try.params5] at hA hval hsz
  obtain ⟨v0, v1, v2, d0, d1, d2, p0, p1, p2, rfl, rfl, rfl, h0, h1, h2⟩ := trodAll_three hA
  obtain ⟨rfl, rfl⟩ := trodVars_none hV
  obtain ⟨sa, ba, rfl, hRa⟩ := open_bytes (j := 0) Try.underlying55 Try.underlying5 cells5 bytes5 (hval 0 55 v0 rfl rfl) h0 hsz rfl rfl
  obtain ⟨sb, bb, rfl, hRb⟩ := open_bytes (j := 1) Try.underlying55 Try.underlying5 cells5 bytes5 (hval 1 55 v1 rfl rfl) h1 hsz rfl rfl
  obtain ⟨sc, bc, rfl, hRc⟩ := open_bytes (j := 2) Try.underlying55 Try.underlying5 cells5 bytes5 (hval 2 55 v2 rfl rfl) h2 hsz rfl rfl
  refine (DiskApart_walk hRa hRb hRc).mono fun e W' ⟨he, hA'⟩ => ?_
  subst he
  exact ⟨_, rfl, post_law laidOut (by kernel_rfl) rfl Try.underlying4 rfl hW' hA' rfl⟩

theorem diskApart_holds : Rows.DiskApartSaid :=
  OpenClaim.holds_of_wide 5 Try.f5 rfl rfl rfl rfl rfl rfl rfl ⟨rfl, rfl, rfl, rfl, rfl⟩ rfl rfl rfl rfl rfl (by kernel_rfl) Try.func5 (by kernel_rfl)
    (of_decide_eq_true (by kernel_rfl)) (by unfold Func.isWrapper; first | (rw [if_pos (by decide +kernel)]; kernel_rfl) | (rw [if_neg (by decide +kernel)]; exact ⟨rfl, rfl⟩))
    (fun os started H enc _ => diskApart_lifted os started H enc)
#print axioms diskApart_holds
end Go.Proofs.Ytofemaaikmhnlab
