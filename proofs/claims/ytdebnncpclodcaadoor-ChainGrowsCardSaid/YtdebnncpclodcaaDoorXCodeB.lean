/-
  Bytes of numbers, shifts, literals of slices. No condition beyond those that the lemmas name.
-/
import Derived.Test.YtdebnncpclodcaaDoorXMore
namespace Go.Proofs.YtdebnncpclodcaaDoor.X
open Go.RowKit Go.Proofs.YtdebnncpclodcaaDoorW.PrintLast

/-! ### A number's eight bytes, a length's four -/
def byteAt (x : Int) (k : Nat) : UInt8 := UInt8.ofNat ((x / 2 ^ k) % 256).toNat
def enc (x : Int) : List UInt8 := (List.range 8).map fun k => byteAt x (56 - 8 * k)
section
variable {P : Program} {ops : Array Oper} {rest : List Oper} {o : Oper} {Q : Exit → Act → World → Prop} {ρ : Nat → Value} {n : Nat} {w w1 : World} {v : Value} {d : Nat}

theorem r_shr {x y : Operand} {t u : TypeId} {k k' : IntKind} {a b : Int} (ho : o.op = .binOp .shr t x y u) (hx : opd ρ n x = .int k a) (hy : opd ρ n y = .int k' b) (h0 : 0 ≤ b) : Rn P ρ n o w (.int k (a.fdiv (2 ^ (min b.toNat k.bits)))) w := by
  have : ¬ b < 0 := by omega
  unfold Rn execOp
  simp [ho, hx, hy, eqGuard, binOp, Op.shift, this]
theorem r_shl {x y : Operand} {t u : TypeId} {k k' : IntKind} {a b : Int} (ho : o.op = .binOp .shl t x y u) (hx : opd ρ n x = .int k a) (hy : opd ρ n y = .int k' b) (h0 : 0 ≤ b) : Rn P ρ n o w (.int k (k.wrap (a * 2 ^ (min b.toNat k.bits)))) w := by
  have : ¬ b < 0 := by omega
  unfold Rn execOp
  simp [ho, hx, hy, eqGuard, binOp, Op.shift, this]
/-- The same value, spelled otherwise. -/
theorem Rn.as {v v' : Value} (h : Rn P ρ n o w v w1) (e : v = v') : Rn P ρ n o w v' w1 := e ▸ h

/-! ### What is appended -/
theorem Src.blk {b T m c : Nat} {cs : List Value} (hB : Blk w b cs T) (h1 : Ones cs) : Src w (.slice (some ⟨b, 0, none⟩) m c) m cs :=
  ⟨⟨_, _, rfl, ⟨fun h => (by cases h), fun a ha j u hj => (by cases ha; rw [add_at, hB.cell, Nat.zero_add]; exact hj)⟩⟩, h1⟩
theorem Src.nil : Src w (.slice none 0 0) 0 [] := ⟨⟨_, _, rfl, ⟨fun _ => ⟨rfl, rfl⟩, fun _ h => (by cases h)⟩⟩, Ones_nil⟩
theorem Row.src {D : Nat → Prop} {s : Sv} {css : List (List Value)} (h : Row D w s 1 css) (h1 : Ones css.flatten) : Src w s.v s.n css.flatten := by
  refine ⟨⟨s.a, s.c, rfl, ⟨fun hn => ?_, fun a ha j u hj => ?_⟩⟩, h1⟩
  · rcases h.el with h0 | ⟨b, off, cells, ha, _⟩
    · refine ⟨h0, ?_⟩
      have : css = [] := List.eq_nil_of_length_eq_zero (by rw [← h.len, h0])
      rw [this]; rfl
    · rw [hn] at ha; cases ha
  · rcases h.el with h0 | ⟨b, off, cells, ha', _, hC, hE⟩
    · have : css = [] := List.eq_nil_of_length_eq_zero (by rw [← h.len, h0])
      subst this; simp at hj
    · rw [ha] at ha'; cases ha'
      rw [add_at, hC.cell]
      have hsz : ∀ cs ∈ css, cs.length = 1 := fun cs hc => by
        obtain ⟨i, hi⟩ := List.getElem?_of_mem hc
        exact (hE i cs hi).1
      have key : ∀ (css : List (List Value)), (∀ cs ∈ css, cs.length = 1) → ∀ (j : Nat) (u : Value), css.flatten[j]? = some u → ∃ cs : List Value, css[j]? = some cs ∧ cs[0]? = some u := by
        intro css
        induction css with
        | nil => intro _ j u hj; simp at hj
        | cons c l ih =>
          intro hs j u hj
          have hc := hs c (by simp)
          cases j with
          | zero =>
            refine ⟨c, rfl, ?_⟩
            rw [← hj, List.flatten_cons, List.getElem?_append, if_pos (by omega)]
          | succ j =>
            obtain ⟨cs, h1, h2⟩ := ih (fun cs hc => hs cs (by simp [hc])) j u (by
              rw [← hj, List.flatten_cons, List.getElem?_append, if_neg (by omega)]
              congr 1; omega)
            exact ⟨cs, h1, h2⟩
      obtain ⟨cs, h1, h2⟩ := key css hsz j u hj
      have := (hE j cs h1).2 0 (by omega)
      rw [Nat.mul_one, Nat.add_zero] at this
      rw [this, h2]

theorem Own.src {e m : Nat} {xs : List Value} (h : Own w e 1 v m xs) (h1 : Ones xs) : Src w v m xs := by
  have hl : xs.length = m := by have := h.1; simpa using this
  rcases h.2 with ⟨rfl, rfl⟩ | ⟨g, cap, cur, rfl, _⟩
  · rw [List.eq_nil_of_length_eq_zero hl]; exact Src.nil
  · exact ⟨⟨_, _, rfl, ⟨fun h => (by cases h), fun a ha j u hj => (by cases ha; exact World.ownsRow.cells h (g := g) rfl j u hj)⟩⟩, h1⟩

/-! ### Literals of slices -/
/-! ### A writer that is written -/
theorem Wr.app {T e : TypeId} {wb : Nat} {bs news : List UInt8} {v v1 : Value} {w0 w1 w2 : World} (hO : Own w1 e 1 v1 (bs.length + news.length) (bvs bs ++ bvs news)) (hB : Blk w0 wb [v] T) (hne : ¬ rowM v wb) (hR : Ag (rowM v) w0 w1) (hlt : wb < w0.heap.size)
    (hloc : v1.ownBlock = v.ownBlock ∨ ∃ k, v1.ownBlock = some k ∧ w0.heap.size ≤ k) (hT : St w1 w2 wb [v1] T) : Wr T e w2 wb (bs ++ news) ∧ Fr (fpW wb) w0 w2 := by
  have hne1 : ¬ rowM v1 wb := by
    intro h
    rcases hloc with h1 | ⟨k, h1, h2⟩
    · exact hne (by unfold rowM at h ⊢; rw [← h1]; exact h)
    · unfold rowM at h; rw [h1] at h; cases h; omega
  have hf0 : ∀ k, fpW wb w0 k ↔ k = wb ∨ rowM v k := fun k => by unfold fpW rowM; rw [rowOf_blk hB]
  have hf2 : ∀ k, fpW wb w2 k ↔ k = wb ∨ rowM v1 k := fun k => by unfold fpW rowM; rw [rowOf_blk hT.blk]
  refine ⟨⟨v1, hT.blk, ?_, hne1⟩, ⟨?_, fun k hk hf => ?_⟩⟩
  · have := hO.keep hT.ag (fun k hk e => hne1 (by subst e; exact hk))
    simpa [bvs_append] using this
  · exact (hR.mono (fun i _ hi => (hf0 i).2 (.inr hi))).step hT.ag (fun i _ hi => (hf0 i).2 (.inl hi))
  · rcases (hf2 k).1 hf with h | h
    · exact (hf0 k).2 (.inl h)
    · refine (hf0 k).2 (.inr ?_)
      rcases hloc with h1 | ⟨j, h1, h2⟩
      · unfold rowM at h ⊢; rw [← h1]; exact h
      · unfold rowM at h; rw [h1] at h; cases h; omega
end
end Go.Proofs.YtdebnncpclodcaaDoor.X
