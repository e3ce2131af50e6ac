/-
  Operations, regions, calls and loops over one invariant of memory. No condition beyond those that the lemmas name.
-/
import Derived.Test.YtdebnncpclodcaaDoorXStepI
set_option linter.unusedSimpArgs false
set_option linter.unusedVariables false
namespace Go.Proofs.YtdebnncpclodcaaDoor.X
open Go.RowKit Go.Proofs.YtdebnncpclodcaaDoorW.PrintLast
section
variable {P : Program} {o : Oper} {ρ : Nat → Value} {n : Nat} {w : World}
theorem r_remQ {x y : Operand} {t u : TypeId} {a b : UInt64} (ho : o.op = .binOp .rem t x y u) (hx : opd ρ n x = u64v a) (hy : opd ρ n y = u64v b) (hb : b ≠ 0) : Rn P ρ n o w (u64v (a % b)) w := by
  have hb' : (b.toNat : Int) ≠ 0 := fun h => hb (UInt64.toNat_inj.1 (by simpa using h))
  have hm : Int.tmod (a.toNat : Int) (b.toNat : Int) = ((a % b).toNat : Int) := by
    rw [UInt64.toNat_mod]; rfl
  have hx' : opd ρ n x = .int .u64 (a.toNat : Int) := hx
  have hy' : opd ρ n y = .int .u64 (b.toNat : Int) := hy
  have hm' : (.int .u64 ((a % b).toNat : Int) : Value) = .int .u64 (Int.tmod (a.toNat : Int) (b.toNat : Int)) := by rw [hm]
  show Rn P ρ n o w (.int .u64 ((a % b).toNat : Int)) w
  rw [hm']
  unfold Rn execOp
  simp only [ho, hx', hy']
  simp [eqGuard, binOp, Op.intDiv, if_neg hb', hb']
  intro h
  exact absurd (by rw [h]; rfl) hb'
end
section
variable {P : Program} {ops : Array Oper} {Q : Exit → Act → World → Prop} {ρ : Nat → Value} {n : Nat} {w : World} {S : World → Prop} {ds : List Nat} {l : Array Bool} {fuel : Nat}
theorem dthree (i j k : Nat) (hc : (Region.ready .any ops l == [i, j, k]) = true) (h1 : Do1 P ops Q S ds fuel l ρ n w i) (h2 : Do1 P ops Q S ds fuel l ρ n w j) (h3 : Do1 P ops Q S ds fuel l ρ n w k) : wpAnyLast P .any ops Q S ds (fuel + 1) l (E ρ n) w :=
  wpAnyLast_all (rs := [i, j, k]) (by simpa using hc) (by simp) (fun m hm => by
    simp at hm
    rcases hm with rfl | rfl | rfl
    · exact h1
    · exact h2
    · exact h3)
end
end Go.Proofs.YtdebnncpclodcaaDoor.X
