/-
  Operations, regions, calls and loops over one invariant of memory. No condition beyond those that the lemmas name.
-/
import Derived.Test.YtdebnncpclodcaaDoorXStepG
set_option linter.unusedSimpArgs false
set_option linter.unusedVariables false
namespace Go.Proofs.YtdebnncpclodcaaDoor.X
open Go.RowKit Go.Proofs.YtdebnncpclodcaaDoorW.PrintLast

/-! ### Words of 32 and 64 bits -/
theorem bv32 (a : UInt32) : (BitVec.ofInt 32 (a.toNat : Int)) = a.toBitVec := by
  rw [BitVec.ofInt_natCast]; apply BitVec.eq_of_toNat_eq; simp
theorem bv64 (a : UInt64) : (BitVec.ofInt 64 (a.toNat : Int)) = a.toBitVec := by
  rw [BitVec.ofInt_natCast]; apply BitVec.eq_of_toNat_eq; simp
theorem wrap32 (a : UInt32) : IntKind.u32.wrap (a.toNat : Int) = a.toNat := by rw [IntKind.wrap_u32]; have := a.toNat_lt; omega
theorem wrap64' (a : UInt64) : IntKind.u64.wrap (a.toNat : Int) = a.toNat := by rw [IntKind.wrap_u64]; have := a.toNat_lt; omega
theorem bits_xor32 (a b : UInt32) : bits .xor .u32 a.toNat b.toNat = (a ^^^ b).toNat := by
  show IntKind.u32.wrap ((BitVec.ofInt 32 (a.toNat : Int) ^^^ BitVec.ofInt 32 (b.toNat : Int)).toNat : Int) = _
  rw [bv32, bv32]; exact wrap32 (a ^^^ b)
theorem bits_or32 (a b : UInt32) : bits .or .u32 a.toNat b.toNat = (a ||| b).toNat := by
  show IntKind.u32.wrap ((BitVec.ofInt 32 (a.toNat : Int) ||| BitVec.ofInt 32 (b.toNat : Int)).toNat : Int) = _
  rw [bv32, bv32]; exact wrap32 (a ||| b)
theorem bits_and32 (a b : UInt32) : bits .and .u32 a.toNat b.toNat = (a &&& b).toNat := by
  show IntKind.u32.wrap ((BitVec.ofInt 32 (a.toNat : Int) &&& BitVec.ofInt 32 (b.toNat : Int)).toNat : Int) = _
  rw [bv32, bv32]; exact wrap32 (a &&& b)
theorem bits_and64 (a b : UInt64) : bits .and .u64 a.toNat b.toNat = (a &&& b).toNat := by
  show IntKind.u64.wrap ((BitVec.ofInt 64 (a.toNat : Int) &&& BitVec.ofInt 64 (b.toNat : Int)).toNat : Int) = _
  rw [bv64, bv64]; exact wrap64' (a &&& b)
theorem add32 (a b : UInt32) : IntKind.u32.wrap ((a.toNat : Int) + b.toNat) = (a + b).toNat := by rw [IntKind.wrap_u32, UInt32.toNat_add]; omega
theorem sub64 (a b : UInt64) : IntKind.u64.wrap ((a.toNat : Int) - b.toNat) = (a - b).toNat := by
  have h1 := a.toNat_lt; have h2 := b.toNat_lt
  rw [IntKind.wrap_u64, UInt64.toNat_sub]; omega
section
variable {P : Program} {o : Oper} {ρ : Nat → Value} {n : Nat} {w w1 : World} {v : Value} {d : Nat}
theorem q_add {x y : Operand} {t u : TypeId} {a b : UInt32} (ho : o.op = .binOp .add t x y u) (hx : opd ρ n x = u32v a) (hy : opd ρ n y = u32v b) : Rn P ρ n o w (u32v (a + b)) w := by
  have := r_addw (P := P) (w := w) ho hx hy; rw [add32] at this; exact this
theorem q_xor {x y : Operand} {t u : TypeId} {a b : UInt32} (ho : o.op = .binOp .xor t x y u) (hx : opd ρ n x = u32v a) (hy : opd ρ n y = u32v b) : Rn P ρ n o w (u32v (a ^^^ b)) w := by
  have := r_xor (P := P) (w := w) ho hx hy; rw [bits_xor32] at this; exact this
theorem q_or {x y : Operand} {t u : TypeId} {a b : UInt32} (ho : o.op = .binOp .or t x y u) (hx : opd ρ n x = u32v a) (hy : opd ρ n y = u32v b) : Rn P ρ n o w (u32v (a ||| b)) w := by
  have := r_or (P := P) (w := w) ho hx hy; rw [bits_or32] at this; exact this
theorem q_and {x y : Operand} {t u : TypeId} {a b : UInt32} (ho : o.op = .binOp .and t x y u) (hx : opd ρ n x = u32v a) (hy : opd ρ n y = u32v b) : Rn P ρ n o w (u32v (a &&& b)) w := by
  have := r_and (P := P) (w := w) ho hx hy; rw [bits_and32] at this; exact this
theorem q_not {x : Operand} {t : TypeId} {a : UInt32} (ho : o.op = .unOp .xor t x) (hx : opd ρ n x = u32v a) : Rn P ρ n o w (u32v (~~~a)) w := by
  have h : bits .xor .u32 ((4294967295 : UInt32).toNat : Int) a.toNat = ((4294967295 : UInt32) ^^^ a).toNat := bits_xor32 _ _
  have h2 : (4294967295 : UInt32) ^^^ a = ~~~a := by
    apply UInt32.toBitVec_inj.1
    show (4294967295 : UInt32).toBitVec ^^^ a.toBitVec = ~~~a.toBitVec
    rw [show (4294967295 : UInt32).toBitVec = BitVec.allOnes 32 from rfl]; exact BitVec.allOnes_xor
  rw [h2] at h
  unfold Rn execOp
  have h3 : (Op.unary .xor (u32v a)).run P w = .ok (u32v (~~~a)) w := by
    show (Op.intBits .xor .u32 IntKind.u32.max (a.toNat : Int)).run P w = _
    rw [intBits_xor]
    show Result.ok (Value.int .u32 (bits .xor .u32 ((4294967295 : UInt32).toNat : Int) a.toNat)) w = _
    rw [h]; rfl
  simp [ho, hx, h3]
theorem q_and64 {x y : Operand} {t u : TypeId} {a b : UInt64} (ho : o.op = .binOp .and t x y u) (hx : opd ρ n x = u64v a) (hy : opd ρ n y = u64v b) : Rn P ρ n o w (u64v (a &&& b)) w := by
  have := r_and (P := P) (w := w) ho hx hy; rw [bits_and64] at this; exact this
theorem q_sub64 {x y : Operand} {t u : TypeId} {a b : UInt64} (ho : o.op = .binOp .sub t x y u) (hx : opd ρ n x = u64v a) (hy : opd ρ n y = u64v b) : Rn P ρ n o w (u64v (a - b)) w := by
  have := r_subw (P := P) (w := w) ho hx hy; rw [sub64] at this; exact this
theorem q_shrW {x y : Operand} {t u : TypeId} {a : UInt32} {b : Int} {k : IntKind} (ho : o.op = .binOp .shr t x y u) (hx : opd ρ n x = u32v a) (hy : opd ρ n y = .int k b) (hb : 0 ≤ b) : Rn P ρ n o w (u32v (shrW a b)) w := by
  have h := r_shr (w := w) (P := P) (b := b) ho hx hy hb
  have : (.int .u32 ((a.toNat : Int).fdiv (2 ^ (min b.toNat 32))) : Value) = u32v (shrW a b) := by
    unfold u32v shrW
    have ha := a.toNat_lt
    rw [UInt32.toNat_ofNat']
    have h1 : (a.toNat : Int).fdiv (2 ^ (min b.toNat 32)) = ((a.toNat / 2 ^ (min b.toNat 32) : Nat) : Int) := by
      rw [Int.fdiv_eq_ediv_of_nonneg _ (by exact Int.le_of_lt (Int.pow_pos (by decide)))]
      simp
    rw [h1]
    have h2 : a.toNat / 2 ^ (min b.toNat 32) ≤ a.toNat := Nat.div_le_self _ _
    rw [Nat.mod_eq_of_lt (by omega)]
  rw [← this]; exact h
theorem q_shlW {x y : Operand} {t u : TypeId} {a : UInt32} {b : Int} {k : IntKind} (ho : o.op = .binOp .shl t x y u) (hx : opd ρ n x = u32v a) (hy : opd ρ n y = .int k b) (hb : 0 ≤ b) : Rn P ρ n o w (u32v (shlW a b)) w := by
  have h := r_shl (w := w) (P := P) (b := b) ho hx hy hb
  unfold shlW; rw [← u32I_v]; exact h
theorem q_shlQ {x y : Operand} {t u : TypeId} {a : UInt64} {b : Int} {k : IntKind} (ho : o.op = .binOp .shl t x y u) (hx : opd ρ n x = u64v a) (hy : opd ρ n y = .int k b) (hb : 0 ≤ b) : Rn P ρ n o w (u64v (shlQ a b)) w := by
  have h := r_shl (w := w) (P := P) (b := b) ho hx hy hb
  unfold shlQ; rw [← u64I_v]; exact h
end
end Go.Proofs.YtdebnncpclodcaaDoor.X
