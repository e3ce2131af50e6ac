/-
  Plain: what the functions compute always answers, and how. No condition beyond those that the lemmas name.
-/
import Derived.Test.YtdebnncpclodcaaDoorXTot
import Derived.Test.YtdebnncpclodcaaDoorXGa
set_option linter.unusedSimpArgs false
set_option linter.unusedVariables false
set_option maxRecDepth 10000
namespace Go.Proofs.YtdebnncpclodcaaDoor.X
theorem t_word {l : List UInt8} (h : 4 ≤ l.length) : Tot (M_sha_word l) fun _ => True := by
  unfold M_sha_word
  refine Tot.bind (Tot.get (Q := fun _ => True) (by omega) fun _ _ => trivial) fun _ _ => ?_
  refine Tot.bind (Tot.get (Q := fun _ => True) (by omega) fun _ _ => trivial) fun _ _ => ?_
  refine Tot.bind (Tot.get (Q := fun _ => True) (by omega) fun _ _ => trivial) fun _ _ => ?_
  refine Tot.bind (Tot.get (Q := fun _ => True) (by omega) fun _ _ => trivial) fun _ _ => ?_
  exact Tot.yes trivial
theorem t_rot (a : UInt32) (b : Int) : Tot (M_math_bits_RotateLeft32 a b) fun _ => True := Tot.yes trivial
theorem t_block {a0 : Vec UInt32 8} {a1 : List UInt8} (h : a1.length = 64) : Tot (M_sha_state_block a0 a1) fun _ => True := by
  unfold M_sha_state_block
  refine Tot.fold (fun _ _ => True) trivial (fun _ => rfl) (fun j s hj _ => ?_) (fun s _ => ?_)
  · have e : wI ((4 : Int) * (j : Int)) = 4 * j := wI_of (by omega) (by omega)
    rw [e]
    refine Tot.bind (Q := fun l => 4 ≤ l.length) (Tot.cut (by omega) (by omega) (by omega) (by simp [h]; omega)) fun x hx => ?_
    refine Tot.bind (t_word hx) fun x _ => ?_
    refine Tot.bind (Tot.get (Q := fun _ => True) (by rw [s.h]; omega) fun _ _ => trivial) fun _ _ => ?_
    exact Tot.yes trivial
  · refine Tot.while (fun s : Int × Vec UInt32 64 => 16 ≤ s.1 ∧ s.1 ≤ 64) (fun s => (64 - s.1).toNat) ⟨by simp, by simp⟩ fun s ⟨h1, h2⟩ => ?_
    refine Tot.ite (fun hc => ?_) (fun hc => ?_)
    · rw [show wI (s.1 - 15) = s.1 - 15 from wI_of (by omega) (by omega), show wI (s.1 - 2) = s.1 - 2 from wI_of (by omega) (by omega), show wI (s.1 - 16) = s.1 - 16 from wI_of (by omega) (by omega), show wI (s.1 - 7) = s.1 - 7 from wI_of (by omega) (by omega), show wI (s.1 + 1) = s.1 + 1 from wI_of (by omega) (by omega)]
      refine Tot.bind (Tot.ix (Q := fun _ => True) (by omega) (by rw [s.2.h]; omega) fun _ _ => trivial) fun _ _ => ?_
      refine Tot.bind (Tot.ix (Q := fun _ => True) (by omega) (by rw [s.2.h]; omega) fun _ _ => trivial) fun _ _ => ?_
      refine Tot.bind (t_rot _ _) fun _ _ => ?_
      refine Tot.bind (t_rot _ _) fun _ _ => ?_
      refine Tot.bind (t_rot _ _) fun _ _ => ?_
      refine Tot.bind (t_rot _ _) fun _ _ => ?_
      refine Tot.bind (Tot.ix (Q := fun _ => True) (by omega) (by rw [s.2.h]; omega) fun _ _ => trivial) fun _ _ => ?_
      refine Tot.bind (Tot.ix (Q := fun _ => True) (by omega) (by rw [s.2.h]; omega) fun _ _ => trivial) fun _ _ => ?_
      refine Tot.bind (Tot.ix (Q := fun _ => True) (by omega) (by rw [s.2.h]; omega) fun _ _ => trivial) fun _ _ => ?_
      exact Tot.yes ⟨⟨by simp only []; omega, by simp only []; omega⟩, by simp only []; omega⟩
    · refine Tot.map ?_
      refine Tot.bind (Tot.get (Q := fun _ => True) (by rw [a0.h]; omega) fun _ _ => trivial) fun _ _ => ?_
      refine Tot.bind (Tot.get (Q := fun _ => True) (by rw [a0.h]; omega) fun _ _ => trivial) fun _ _ => ?_
      refine Tot.bind (Tot.get (Q := fun _ => True) (by rw [a0.h]; omega) fun _ _ => trivial) fun _ _ => ?_
      refine Tot.bind (Tot.get (Q := fun _ => True) (by rw [a0.h]; omega) fun _ _ => trivial) fun _ _ => ?_
      refine Tot.bind (Tot.get (Q := fun _ => True) (by rw [a0.h]; omega) fun _ _ => trivial) fun _ _ => ?_
      refine Tot.bind (Tot.get (Q := fun _ => True) (by rw [a0.h]; omega) fun _ _ => trivial) fun _ _ => ?_
      refine Tot.bind (Tot.get (Q := fun _ => True) (by rw [a0.h]; omega) fun _ _ => trivial) fun _ _ => ?_
      refine Tot.bind (Tot.get (Q := fun _ => True) (by rw [a0.h]; omega) fun _ _ => trivial) fun _ _ => ?_
      refine Tot.fold (fun _ _ => True) trivial (fun _ => rfl) (fun j s' hj _ => ?_) (fun s' _ => ?_)
      · refine Tot.bind (Tot.get (Q := fun _ => True) (by rw [s.2.h]; omega) fun _ _ => trivial) fun _ _ => ?_
        refine Tot.bind (t_rot _ _) fun _ _ => ?_
        refine Tot.bind (t_rot _ _) fun _ _ => ?_
        refine Tot.bind (t_rot _ _) fun _ _ => ?_
        refine Tot.bind (Tot.get (Q := fun _ => True) (by rw [shaVec.h]; omega) fun _ _ => trivial) fun _ _ => ?_
        refine Tot.bind (t_rot _ _) fun _ _ => ?_
        refine Tot.bind (t_rot _ _) fun _ _ => ?_
        refine Tot.bind (t_rot _ _) fun _ _ => ?_
        exact Tot.yes trivial
      · refine Tot.fold (fun _ _ => True) trivial (fun _ => rfl) (fun j s'' hj _ => ?_) (fun s'' _ => ?_)
        · refine Tot.bind (Tot.get (Q := fun _ => True) (by simp only [List.length_cons, List.length_nil]; omega) fun _ _ => trivial) fun _ _ => ?_
          refine Tot.bind (Tot.get (Q := fun _ => True) (by rw [s''.h]; omega) fun _ _ => trivial) fun _ _ => ?_
          refine Tot.bind (Tot.get (Q := fun _ => True) (by rw [s''.h]; omega) fun _ _ => trivial) fun _ _ => ?_
          exact Tot.yes trivial
        · exact Tot.yes trivial
end Go.Proofs.YtdebnncpclodcaaDoor.X
