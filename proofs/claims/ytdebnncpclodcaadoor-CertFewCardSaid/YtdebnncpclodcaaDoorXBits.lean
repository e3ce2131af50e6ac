/-
  Operations on bits. No condition beyond those that the lemmas name.
-/
import Derived.Test.YtdebnncpclodcaaDoorXLaw
import Derived.Laws.CopyRow
import Derived.Laws.Bits64b
import Derived.Laws.BitsAllLaws
set_option linter.unusedSimpArgs false
set_option linter.unusedVariables false
namespace Go.Proofs.YtdebnncpclodcaaDoor.X
open Go.RowKit

section
variable {P : Program} {o : Oper} {ρ : Nat → Value} {n : Nat} {w w1 : World} {v : Value} {d : Nat}
theorem r_addw {x y : Operand} {t u : TypeId} {k : IntKind} {a b : Int} (ho : o.op = .binOp .add t x y u) (hx : opd ρ n x = .int k a) (hy : opd ρ n y = .int k b) : Rn P ρ n o w (.int k (k.wrap (a + b))) w := by
  unfold Rn execOp; simp [ho, hx, hy, eqGuard, binOp, Op.intArith]
theorem r_subw {x y : Operand} {t u : TypeId} {k : IntKind} {a b : Int} (ho : o.op = .binOp .sub t x y u) (hx : opd ρ n x = .int k a) (hy : opd ρ n y = .int k b) : Rn P ρ n o w (.int k (k.wrap (a - b))) w := by
  unfold Rn execOp; simp [ho, hx, hy, eqGuard, binOp, Op.intArith]
theorem r_mulw {x y : Operand} {t u : TypeId} {k : IntKind} {a b : Int} (ho : o.op = .binOp .mul t x y u) (hx : opd ρ n x = .int k a) (hy : opd ρ n y = .int k b) : Rn P ρ n o w (.int k (k.wrap (a * b))) w := by
  unfold Rn execOp; simp [ho, hx, hy, eqGuard, binOp, Op.intArith]
theorem r_or {x y : Operand} {t u : TypeId} {k : IntKind} {a b : Int} (ho : o.op = .binOp .or t x y u) (hx : opd ρ n x = .int k a) (hy : opd ρ n y = .int k b) : Rn P ρ n o w (.int k (bits .or k a b)) w := by
  unfold Rn execOp; simp [ho, hx, hy, eqGuard, binOp]; rfl
theorem r_and {x y : Operand} {t u : TypeId} {k : IntKind} {a b : Int} (ho : o.op = .binOp .and t x y u) (hx : opd ρ n x = .int k a) (hy : opd ρ n y = .int k b) : Rn P ρ n o w (.int k (bits .and k a b)) w := by
  unfold Rn execOp; simp [ho, hx, hy, eqGuard, binOp]; rfl
theorem r_xor {x y : Operand} {t u : TypeId} {k : IntKind} {a b : Int} (ho : o.op = .binOp .xor t x y u) (hx : opd ρ n x = .int k a) (hy : opd ρ n y = .int k b) : Rn P ρ n o w (.int k (bits .xor k a b)) w := by
  unfold Rn execOp; simp [ho, hx, hy, eqGuard, binOp]; rfl
end
/-- A number's bytes, read from the highest on. -/
theorem beNat_snoc (l : List UInt8) (b : UInt8) : beNat (l ++ [b]) = beNat l * 256 + b.toNat := by simp [beNat]
theorem be_acc : ∀ (l : List UInt8) (a : Nat), l.foldl (fun a b => a * 256 + b.toNat) a + 1 ≤ (a + 1) * 256 ^ l.length
  | [], a => by simp
  | b :: l, a => by
    have ih := be_acc l (a * 256 + b.toNat)
    have hb := b.toNat_lt
    have h1 : (a * 256 + b.toNat + 1) * 256 ^ l.length ≤ ((a + 1) * 256) * 256 ^ l.length := Nat.mul_le_mul_right _ (by omega)
    have h2 : ((a + 1) * 256) * 256 ^ l.length = (a + 1) * 256 ^ (l.length + 1) := by rw [Nat.pow_succ, Nat.mul_assoc, Nat.mul_comm 256]
    simp only [List.foldl_cons, List.length_cons]
    omega
theorem beNat_lt (l : List UInt8) : beNat l < 256 ^ l.length := by
  have := be_acc l 0
  unfold beNat
  omega
theorem or_add (a : Nat) (b : UInt8) : a * 256 ||| b.toNat = a * 256 + b.toNat := by
  have := Nat.shiftLeft_add_eq_or_of_lt (i := 8) (b := b.toNat) b.toNat_lt a
  rw [Nat.shiftLeft_eq] at this
  exact this.symm
/-- One step of reading a number: n<<8 | c. -/
theorem be_step64 (l : List UInt8) (b : UInt8) (h : l.length < 8) : bits .or .u64 (IntKind.u64.wrap ((beNat l : Int) * 2 ^ (min (8 : Int).toNat 64))) (IntKind.u64.wrap (b.toNat : Int)) = (beNat (l ++ [b]) : Int) := by
  have h1 := beNat_lt l
  have h2 : 256 ^ l.length ≤ 256 ^ 7 := Nat.pow_le_pow_right (by decide) (by omega)
  have h3 : (256 : Nat) ^ 7 = 72057594037927936 := by decide
  have hb := b.toNat_lt
  have e1 : IntKind.u64.wrap ((beNat l : Int) * 2 ^ (min (8 : Int).toNat 64)) = ((beNat l * 256 : Nat) : Int) := by
    rw [show (min (8 : Int).toNat 64) = 8 from rfl, IntKind.wrap_u64]
    simp
    omega
  have e2 : IntKind.u64.wrap (b.toNat : Int) = ((b.toNat : Nat) : Int) := by
    rw [IntKind.wrap_u64]; omega
  rw [e1, e2, u64_or_nat _ _ (by omega) (by omega), or_add, beNat_snoc]
theorem rtake_le (st : List UInt8 × Bool) {k : Int} (hk : 0 ≤ k) : ((rtake k st).1.length : Int) ≤ k := by
  unfold rtake
  split
  · simpa using hk
  · simp only [List.length_take]; omega
theorem rin_ok {lo hi : Int} {st : List UInt8 × Bool} (h1 : lo ≤ (rnum st).1) (h2 : (rnum st).1 ≤ hi) (h3 : (rnum st).2.2 = false) : rin lo hi st = rnum st := by unfold rin; rw [if_pos ⟨h1, h2, h3⟩]
theorem rin_bad {lo hi : Int} {st : List UInt8 × Bool} (h : ¬ (lo ≤ (rnum st).1 ∧ (rnum st).1 ≤ hi ∧ (rnum st).2.2 = false)) : rin lo hi st = (0, ([], true)) := by unfold rin; rw [if_neg h]
theorem rend_eq (st : List UInt8 × Bool) : rend st = (rgood st && decide (st.1.length = 0)) := by
  unfold rend rgood
  cases st.1 <;> simp
theorem i64_or_small (a b : Nat) (ha : a < 4611686018427387904) (hb : b < 4611686018427387904) : bits .or .i64 (a : Int) (b : Int) = ((a ||| b : Nat) : Int) := by
  have hx : a ||| b < 2 ^ 62 := Nat.or_lt_two_pow (by omega) (by omega)
  have h1 : (BitVec.ofInt 64 (a : Int)).toNat = a := by
    rw [BitVec.ofInt_natCast, BitVec.toNat_ofNat]; exact Nat.mod_eq_of_lt (by omega)
  have h2 : (BitVec.ofInt 64 (b : Int)).toNat = b := by
    rw [BitVec.ofInt_natCast, BitVec.toNat_ofNat]; exact Nat.mod_eq_of_lt (by omega)
  show IntKind.i64.wrap ((BitVec.ofInt 64 (a : Int) ||| BitVec.ofInt 64 (b : Int)).toNat : Int) = _
  rw [BitVec.toNat_or, h1, h2, IntKind.wrap_i64]
  omega
theorem be_step32 (l : List UInt8) (b : UInt8) (h : l.length < 4) : bits .or .i64 (IntKind.i64.wrap ((beNat l : Int) * 2 ^ (min (8 : Int).toNat 64))) (IntKind.i64.wrap (b.toNat : Int)) = (beNat (l ++ [b]) : Int) := by
  have h1 := beNat_lt l
  have h2 : 256 ^ l.length ≤ 256 ^ 3 := Nat.pow_le_pow_right (by decide) (by omega)
  have h3 : (256 : Nat) ^ 3 = 16777216 := by decide
  have hb := b.toNat_lt
  have e1 : IntKind.i64.wrap ((beNat l : Int) * 2 ^ (min (8 : Int).toNat 64)) = ((beNat l * 256 : Nat) : Int) := by
    rw [show (min (8 : Int).toNat 64) = 8 from rfl, IntKind.wrap_i64]
    simp
    omega
  have e2 : IntKind.i64.wrap (b.toNat : Int) = ((b.toNat : Nat) : Int) := by
    rw [IntKind.wrap_i64]; omega
  rw [e1, e2, i64_or_small _ _ (by omega) (by omega), or_add, beNat_snoc]
section
variable {P : Program} {o : Oper} {ρ : Nat → Value} {n : Nat} {w w1 : World} {v : Value} {d : Nat}
/-- copy into a block of one's own. -/
theorem e_cp {T e g off dLen dCap m Tc : Nat} {x y : Operand} {u : Value} {cur news : List Value} (ho : o.op = .call { callee := .builtin .copy, args := #[x, y], argTypes := #[T, T] }) (hT : sliceB P T e 1 = true)
    (hx : opd ρ n x = .slice (some ⟨g, off, none⟩) dLen dCap) (hy : opd ρ n y = u) (hB : Blk w g cur Tc) (hS : Src w u m news) (hl : news.length = m) (hf : off + dLen ≤ cur.length) :
    Ef P ρ n o w (fun v1 w1 => v1 = .int .i64 ((min m dLen : Nat) : Int) ∧ St w w1 g (cur.take off ++ news.take (min m dLen) ++ cur.drop (off + min m dLen)) Tc) := by
  obtain ⟨hu, inf, hq, hs⟩ := sliceB_spec hT
  have hs' : (P.info? e).map (·.size) = some 1 := by rw [hq]; simp [hs]
  obtain ⟨⟨A, c, rfl, hA0, hA1⟩, hone⟩ := hS
  cases A with
  | none =>
    obtain ⟨rfl, rfl⟩ := hA0 rfl
    have hr := run_copy_none (P := P) w T T o.type e (some ⟨g, off, none⟩) none dLen dCap 0 c hu hs' (by simp)
    refine ⟨_, w, ⟨rfl, ?_, Ag.refl _ _⟩, ?_⟩
    · simpa using hB
    · unfold Rn execOp
      simp [ho, hx, hy, resolve, invoke, builtin, hr, goInt]
  | some a =>
    have hlen : (news.take (min m dLen)).length = Nat.min m dLen := by
      rw [List.length_take, hl]; show min (min m dLen) m = min m dLen; omega
    have hr := run_copy_row (P := P) w T T o.type e g off dLen dCap a m c _ Tc (news.take (min m dLen)) hu hs' hB hlen
      (fun j v hj => hA1 a rfl j v (by rw [List.getElem?_take] at hj; split at hj; exact hj; cases hj)) (by rw [hlen]; have : Nat.min m dLen ≤ dLen := Nat.min_le_right _ _; simp; omega) (fun v hv => hone v (List.mem_of_mem_take hv))
    refine ⟨_, _, ⟨rfl, setRow_blk hB _⟩, ?_⟩
    unfold Rn execOp
    rw [hlen] at hr
    simp [ho, hx, hy, resolve, invoke, builtin, hr, goInt]
end
theorem be4 (l : List UInt8) (h : l.length ≤ 4) : beNat l ≤ 4294967295 := by
  have h1 := beNat_lt l
  have h2 : 256 ^ l.length ≤ 256 ^ 4 := Nat.pow_le_pow_right (by decide) h
  have h3 : (256 : Nat) ^ 4 = 4294967296 := by decide
  omega
theorem rtext_hi {most : Int} {st : List UInt8 × Bool} (h : most < (beNat (rtake 4 st).1 : Int)) : rtext most st = (⟨(rtake (-1) (rtake 4 st).2).1.toArray⟩, (rtake (-1) (rtake 4 st).2).2) := by
  unfold rtext; simp only [if_pos h]
theorem rtext_lo {most : Int} {st : List UInt8 × Bool} (h : ¬ most < (beNat (rtake 4 st).1 : Int)) : rtext most st = (⟨(rtake (beNat (rtake 4 st).1 : Int) (rtake 4 st).2).1.toArray⟩, (rtake (beNat (rtake 4 st).1 : Int) (rtake 4 st).2).2) := by
  unfold rtext; simp only [if_neg h]
theorem rtake_len (n : Nat) (st : List UInt8 × Bool) : (rtake n st).1.length = n ∨ (rtake n st).1 = [] := by
  unfold rtake
  split
  · exact .inr rfl
  · rename_i h
    refine .inl ?_
    simp only [not_or] at h
    simp only [List.length_take]; omega
theorem rdig_cells (st : List UInt8 × Bool) : Dig.zero.c.take 0 ++ (bvs (rtake 32 st).1).take (min (rtake 32 st).1.length 32) ++ Dig.zero.c.drop (0 + min (rtake 32 st).1.length 32) = (rdig st).1.c := by
  rcases rtake_len 32 st with h | h
  · have h' : (rtake 32 st).1.length = 32 := h
    have e1 : (rdig st).1.c = bvs (rtake 32 st).1 := by unfold rdig; simp only [h', dif_pos]; rfl
    have h0 : Dig.zero.c.length = 32 := Dig.len _
    rw [e1, h', List.take_zero, List.nil_append, List.take_of_length_le (by rw [bvs_length]; omega), List.drop_of_length_le (by omega), List.append_nil]
  · have h' : (rtake 32 st).1 = [] := h
    have e1 : (rdig st).1.c = Dig.zero.c := by unfold rdig; simp [h']
    rw [e1, h']; simp [bvs]
theorem and31 (a : Int) : 0 ≤ bits .and .u64 a 31 ∧ bits .and .u64 a 31 ≤ 31 := by
  have h2 : (BitVec.ofInt 64 (31 : Int)).toNat = 31 := by decide
  have h1 : (BitVec.ofInt 64 a &&& BitVec.ofInt 64 (31 : Int)).toNat ≤ 31 := by
    rw [BitVec.toNat_and, h2]; exact Nat.and_le_right
  show 0 ≤ IntKind.u64.wrap ((BitVec.ofInt 64 a &&& BitVec.ofInt 64 (31 : Int)).toNat : Int) ∧ IntKind.u64.wrap ((BitVec.ofInt 64 a &&& BitVec.ofInt 64 (31 : Int)).toNat : Int) ≤ 31
  rw [IntKind.wrap_u64]
  omega
/-- bits.RotateLeft32, as it is computed. -/
def rotl (x k : Int) : Int :=
  bits .or .u32 (IntKind.u32.wrap (x * 2 ^ (min (bits .and .u64 (IntKind.u64.wrap k) 31).toNat 32))) (x.fdiv (2 ^ (min (32 - bits .and .u64 (IntKind.u64.wrap k) 31).toNat 32)))
/-- sha.word, as it is computed. -/
def word4 (a b c d : UInt8) : Int :=
  bits .or .u32 (bits .or .u32 (bits .or .u32 (IntKind.u32.wrap (IntKind.u32.wrap (a.toNat : Int) * 2 ^ (min (24 : Int).toNat 32))) (IntKind.u32.wrap (IntKind.u32.wrap (b.toNat : Int) * 2 ^ (min (16 : Int).toNat 32)))) (IntKind.u32.wrap (IntKind.u32.wrap (c.toNat : Int) * 2 ^ (min (8 : Int).toNat 32)))) (IntKind.u32.wrap (d.toNat : Int))
section
variable {P : Program} {o : Oper} {ρ : Nat → Value} {n : Nat} {w w1 : World} {v : Value} {d : Nat}
/-- An element of an array that is a value. -/
theorem r_idx {T m e : TypeId} {x y : Operand} {cs : List Value} {k : IntKind} {i : Int} (ho : o.op = .index T x y) (hT : arrB P T m e 1 = true) (hE : scalB P e = true) (hx : opd ρ n x = .agg cs.toArray) (hy : opd ρ n y = .int k i) (h0 : 0 ≤ i) (h1 : i < m) (hc : cs[i.toNat]? = some v) : Rn P ρ n o w v w := by
  obtain ⟨hu, inf, hq, hs⟩ := arrB_spec hT
  have hp : (part e cs.toArray i.toNat).run P w = .ok v w := by
    unfold scalB at hE
    cases hd : P.underlying e with
    | none => simp [hd] at hE
    | some dd => cases dd <;> simp_all [part, isAgg, run_underlying hd]
  unfold Rn execOp
  simp [ho, hx, hy, Instr.index, asIntOf, run_underlying hu, sizeOf, typeInfo, hq, hs, h0, h1, hp]
end
section
variable {P : Program} {ops : Array Oper} {rest : List Oper} {Q : Exit → Act → World → Prop} {o : Oper} {ρ : Nat → Value} {n : Nat} {w w1 : World} {v : Value} {d : Nat}
/-- An effect whose value nobody takes. -/
theorem le0 {R : Value → World → Prop} (hw : wnt ops ρ n o = true) (hr : Ef P ρ n o w R) (hd : o.dst = none) (h : ∀ v w1, R v w1 → wpList P ops Q rest (E ρ n) w1) : wpList P ops Q (o :: rest) (E ρ n) w := by
  obtain ⟨v, w1, hR, hr⟩ := hr
  exact lv0 hw hr hd (h v w1 hR)
/-- clear of a part of a block of one's own. -/
theorem e_clr {T e g off len cap Tc : Nat} {x : Operand} {z : Value} {cur : List Value} (ho : o.op = .call { callee := .builtin .clear, args := #[x], argTypes := #[T] }) (hT : sliceB P T e 1 = true) (hz : zvB P e z) (hz1 : z.cells = #[z]) (h1 : z.oneCell' = true)
    (hx : opd ρ n x = .slice (some ⟨g, off, none⟩) len cap) (hB : Blk w g cur Tc) (hf : off + len ≤ cur.length) :
    Ef P ρ n o w (fun v1 w1 => v1 = .tuple #[] ∧ St w w1 g (cur.take off ++ List.replicate len z ++ cur.drop (off + len)) Tc) := by
  obtain ⟨hu, inf, hq, hs⟩ := sliceB_spec hT
  cases len with
  | zero =>
    refine ⟨_, w, ⟨rfl, by simpa using hB, Ag.refl _ _⟩, ?_⟩
    unfold Rn execOp
    simp [ho, hx, resolve, invoke, builtin, Builtin.clear_, run_underlying hu]
  | succ m =>
    have hzc : (Builtin.zeroCells z.cells (m + 1)).toList = List.replicate (m + 1) z := by
      rw [hz1]
      simp [Builtin.zeroCells]
      apply List.ext_getElem
      · simp
      · intro i h1 h2; simp [Nat.mod_one]
    have hst := run_storeCells_at P g off Tc (List.replicate (m + 1) z) 0 cur.toArray w hB (by simpa using hf) (fun v hv => by rw [List.eq_of_mem_replicate hv]; exact h1)
    refine ⟨_, _, ⟨rfl, setRow_blk hB _⟩, ?_⟩
    unfold Rn execOp
    simp [ho, hx, resolve, invoke, builtin, Builtin.clear_, run_underlying hu, hz.run, hzc]
    simp at hst
    rw [hst]
    rfl
end
end Go.Proofs.YtdebnncpclodcaaDoor.X
