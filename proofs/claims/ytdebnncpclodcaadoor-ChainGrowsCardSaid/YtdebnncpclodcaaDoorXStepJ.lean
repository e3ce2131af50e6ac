/-
  Operations, regions, calls and loops over one invariant of memory. No condition beyond those that the lemmas name.
-/
import Derived.Test.YtdebnncpclodcaaDoorXStepI
set_option linter.unusedSimpArgs false
set_option linter.unusedVariables false
namespace Go.Proofs.YtdebnncpclodcaaDoor.X
open Go.RowKit Go.Proofs.YtdebnncpclodcaaDoorW.PrintLast
section
variable {P : Program} {o : Oper} {ρ : Nat → Value} {n : Nat} {w : World}
end
section
variable {P : Program} {ops : Array Oper} {Q : Exit → Act → World → Prop} {ρ : Nat → Value} {n : Nat} {w : World} {S : World → Prop} {ds : List Nat} {l : Array Bool} {fuel : Nat}
theorem dthree (i j k : Nat) (hc : (Region.ready .any ops l == [i, j, k]) = true) (h1 : Do1 P ops Q S ds fuel l ρ n w i) (h2 : Do1 P ops Q S ds fuel l ρ n w j) (h3 : Do1 P ops Q S ds fuel l ρ n w k) : wpAnyLast P .any ops Q S ds (fuel + 1) l (E ρ n) w :=
  wpAnyLast_all (rs := [i, j, k]) (by simpa using hc) (by simp) (fun m hm => by
    simp at hm
    rcases hm with rfl | rfl | rfl
    · exact h1
    · exact h2
    · exact h3)
end
end Go.Proofs.YtdebnncpclodcaaDoor.X
