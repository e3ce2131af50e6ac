/-
  Operations that laws use: min, max, equal strings, conversions, make. No condition beyond those that the lemmas name.
-/
import Derived.Test.YtdebnncpclodcaaDoorXDisk
import Derived.Laws.OwnMore
import Derived.Laws.BytesString
import Derived.Laws.Strings
import Derived.Lib.SlBytesConst
import Derived.Lib.SlicesS
set_option linter.unusedSimpArgs false
set_option linter.unusedVariables false
namespace Go.Proofs.YtdebnncpclodcaaDoor.X
open Go.RowKit

section
variable {P : Program} {o : Oper} {ρ : Nat → Value} {n : Nat} {w w1 : World} {v : Value} {d : Nat}
theorem r_max {x y : Operand} {k k' : IntKind} {a b c : Int} {ts : Array TypeId} (ho : o.op = .call { callee := .builtin .max, args := #[x, y], argTypes := ts }) (hx : opd ρ n x = .int k a) (hy : opd ρ n y = .int k' b) (hc : (if b > a then b else a) = c) : Rn P ρ n o w (.int k c) w := by
  unfold Rn execOp
  simp only [ho]
  simp [resolve, invoke, builtin, hx, hy, run_max_int2, ← hc]
end
end Go.Proofs.YtdebnncpclodcaaDoor.X
