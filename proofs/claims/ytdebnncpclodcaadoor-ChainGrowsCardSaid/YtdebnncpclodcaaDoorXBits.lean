/-
  Operations on bits. No condition beyond those that the lemmas name.
-/
import Derived.Test.YtdebnncpclodcaaDoorXLaw
import Derived.Laws.CopyRow
import Derived.Laws.Bits64b
import Derived.Laws.BitsAllLaws
set_option linter.unusedSimpArgs false
set_option linter.unusedVariables false
namespace Go.Proofs.YtdebnncpclodcaaDoor.X
open Go.RowKit

section
variable {P : Program} {o : Oper} {ρ : Nat → Value} {n : Nat} {w w1 : World} {v : Value} {d : Nat}
theorem r_addw {x y : Operand} {t u : TypeId} {k : IntKind} {a b : Int} (ho : o.op = .binOp .add t x y u) (hx : opd ρ n x = .int k a) (hy : opd ρ n y = .int k b) : Rn P ρ n o w (.int k (k.wrap (a + b))) w := by
  unfold Rn execOp; simp [ho, hx, hy, eqGuard, binOp, Op.intArith]
theorem r_subw {x y : Operand} {t u : TypeId} {k : IntKind} {a b : Int} (ho : o.op = .binOp .sub t x y u) (hx : opd ρ n x = .int k a) (hy : opd ρ n y = .int k b) : Rn P ρ n o w (.int k (k.wrap (a - b))) w := by
  unfold Rn execOp; simp [ho, hx, hy, eqGuard, binOp, Op.intArith]
theorem r_mulw {x y : Operand} {t u : TypeId} {k : IntKind} {a b : Int} (ho : o.op = .binOp .mul t x y u) (hx : opd ρ n x = .int k a) (hy : opd ρ n y = .int k b) : Rn P ρ n o w (.int k (k.wrap (a * b))) w := by
  unfold Rn execOp; simp [ho, hx, hy, eqGuard, binOp, Op.intArith]
theorem r_or {x y : Operand} {t u : TypeId} {k : IntKind} {a b : Int} (ho : o.op = .binOp .or t x y u) (hx : opd ρ n x = .int k a) (hy : opd ρ n y = .int k b) : Rn P ρ n o w (.int k (bits .or k a b)) w := by
  unfold Rn execOp; simp [ho, hx, hy, eqGuard, binOp]; rfl
theorem r_and {x y : Operand} {t u : TypeId} {k : IntKind} {a b : Int} (ho : o.op = .binOp .and t x y u) (hx : opd ρ n x = .int k a) (hy : opd ρ n y = .int k b) : Rn P ρ n o w (.int k (bits .and k a b)) w := by
  unfold Rn execOp; simp [ho, hx, hy, eqGuard, binOp]; rfl
theorem r_xor {x y : Operand} {t u : TypeId} {k : IntKind} {a b : Int} (ho : o.op = .binOp .xor t x y u) (hx : opd ρ n x = .int k a) (hy : opd ρ n y = .int k b) : Rn P ρ n o w (.int k (bits .xor k a b)) w := by
  unfold Rn execOp; simp [ho, hx, hy, eqGuard, binOp]; rfl
end
section
variable {P : Program} {o : Oper} {ρ : Nat → Value} {n : Nat} {w w1 : World} {v : Value} {d : Nat}
/-- copy into a block of one's own. -/
theorem e_cp {T e g off dLen dCap m Tc : Nat} {x y : Operand} {u : Value} {cur news : List Value} (ho : o.op = .call { callee := .builtin .copy, args := #[x, y], argTypes := #[T, T] }) (hT : sliceB P T e 1 = true)
    (hx : opd ρ n x = .slice (some ⟨g, off, none⟩) dLen dCap) (hy : opd ρ n y = u) (hB : Blk w g cur Tc) (hS : Src w u m news) (hl : news.length = m) (hf : off + dLen ≤ cur.length) :
    Ef P ρ n o w (fun v1 w1 => v1 = .int .i64 ((min m dLen : Nat) : Int) ∧ St w w1 g (cur.take off ++ news.take (min m dLen) ++ cur.drop (off + min m dLen)) Tc) := by
  obtain ⟨hu, inf, hq, hs⟩ := sliceB_spec hT
  have hs' : (P.info? e).map (·.size) = some 1 := by rw [hq]; simp [hs]
  obtain ⟨⟨A, c, rfl, hA0, hA1⟩, hone⟩ := hS
  cases A with
  | none =>
    obtain ⟨rfl, rfl⟩ := hA0 rfl
    have hr := run_copy_none (P := P) w T T o.type e (some ⟨g, off, none⟩) none dLen dCap 0 c hu hs' (by simp)
    refine ⟨_, w, ⟨rfl, ?_, Ag.refl _ _⟩, ?_⟩
    · simpa using hB
    · unfold Rn execOp
      simp [ho, hx, hy, resolve, invoke, builtin, hr, goInt]
  | some a =>
    have hlen : (news.take (min m dLen)).length = Nat.min m dLen := by
      rw [List.length_take, hl]; show min (min m dLen) m = min m dLen; omega
    have hr := run_copy_row (P := P) w T T o.type e g off dLen dCap a m c _ Tc (news.take (min m dLen)) hu hs' hB hlen
      (fun j v hj => hA1 a rfl j v (by rw [List.getElem?_take] at hj; split at hj; exact hj; cases hj)) (by rw [hlen]; have : Nat.min m dLen ≤ dLen := Nat.min_le_right _ _; simp; omega) (fun v hv => hone v (List.mem_of_mem_take hv))
    refine ⟨_, _, ⟨rfl, setRow_blk hB _⟩, ?_⟩
    unfold Rn execOp
    rw [hlen] at hr
    simp [ho, hx, hy, resolve, invoke, builtin, hr, goInt]
end
section
variable {P : Program} {o : Oper} {ρ : Nat → Value} {n : Nat} {w w1 : World} {v : Value} {d : Nat}
end
section
variable {P : Program} {ops : Array Oper} {rest : List Oper} {Q : Exit → Act → World → Prop} {o : Oper} {ρ : Nat → Value} {n : Nat} {w w1 : World} {v : Value} {d : Nat}
/-- An effect whose value nobody takes. -/
theorem le0 {R : Value → World → Prop} (hw : wnt ops ρ n o = true) (hr : Ef P ρ n o w R) (hd : o.dst = none) (h : ∀ v w1, R v w1 → wpList P ops Q rest (E ρ n) w1) : wpList P ops Q (o :: rest) (E ρ n) w := by
  obtain ⟨v, w1, hR, hr⟩ := hr
  exact lv0 hw hr hd (h v w1 hR)
/-- clear of a part of a block of one's own. -/
theorem e_clr {T e g off len cap Tc : Nat} {x : Operand} {z : Value} {cur : List Value} (ho : o.op = .call { callee := .builtin .clear, args := #[x], argTypes := #[T] }) (hT : sliceB P T e 1 = true) (hz : zvB P e z) (hz1 : z.cells = #[z]) (h1 : z.oneCell' = true)
    (hx : opd ρ n x = .slice (some ⟨g, off, none⟩) len cap) (hB : Blk w g cur Tc) (hf : off + len ≤ cur.length) :
    Ef P ρ n o w (fun v1 w1 => v1 = .tuple #[] ∧ St w w1 g (cur.take off ++ List.replicate len z ++ cur.drop (off + len)) Tc) := by
  obtain ⟨hu, inf, hq, hs⟩ := sliceB_spec hT
  cases len with
  | zero =>
    refine ⟨_, w, ⟨rfl, by simpa using hB, Ag.refl _ _⟩, ?_⟩
    unfold Rn execOp
    simp [ho, hx, resolve, invoke, builtin, Builtin.clear_, run_underlying hu]
  | succ m =>
    have hzc : (Builtin.zeroCells z.cells (m + 1)).toList = List.replicate (m + 1) z := by
      rw [hz1]
      simp [Builtin.zeroCells]
      apply List.ext_getElem
      · simp
      · intro i h1 h2; simp [Nat.mod_one]
    have hst := run_storeCells_at P g off Tc (List.replicate (m + 1) z) 0 cur.toArray w hB (by simpa using hf) (fun v hv => by rw [List.eq_of_mem_replicate hv]; exact h1)
    refine ⟨_, _, ⟨rfl, setRow_blk hB _⟩, ?_⟩
    unfold Rn execOp
    simp [ho, hx, resolve, invoke, builtin, Builtin.clear_, run_underlying hu, hz.run, hzc]
    simp at hst
    rw [hst]
    rfl
end
end Go.Proofs.YtdebnncpclodcaaDoor.X
