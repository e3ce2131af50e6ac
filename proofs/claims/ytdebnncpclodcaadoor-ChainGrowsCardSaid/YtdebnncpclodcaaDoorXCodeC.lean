/-
  Slicing, appends to copies, and readers. No condition beyond those that the lemmas name.
-/
import Derived.Test.YtdebnncpclodcaaDoorXCodeB
import Derived.Lib.AppendStr
namespace Go.Proofs.YtdebnncpclodcaaDoor.X
open Go.RowKit Go.Proofs.YtdebnncpclodcaaDoorW.PrintLast

section
variable {P : Program} {ops : Array Oper} {rest : List Oper} {o : Oper} {Q : Exit → Act → World → Prop} {ρ : Nat → Value} {n : Nat} {w w1 : World} {v : Value} {d : Nat}

end
section
variable {P : Program} {ops : Array Oper} {rest : List Oper} {o : Oper} {Q : Exit → Act → World → Prop} {ρ : Nat → Value} {n : Nat} {w w1 : World} {v : Value} {d : Nat}
end
def Sv.take (s : Sv) (k : Nat) : Sv := ⟨s.a, k, s.c⟩
def Sv.drop (s : Sv) (k sz : Nat) : Sv := ⟨if s.c = k then s.a else s.a.map (fun x => x.add (k * sz)), s.n - k, s.c - k⟩
theorem Row.take {D : Nat → Prop} {w : World} {s : Sv} {sz : Nat} {css : List (List Value)} (h : Row D w s sz css) {k : Nat} (hk : k ≤ s.n) : Row D w (s.take k) sz (css.take k) := by
  have hl := h.len
  refine ⟨by simp [Sv.take]; omega, Nat.le_trans hk h.cap, Nat.le_trans hk h.bd, ?_⟩
  rcases h.el with h0 | ⟨b, off, cells, h1, h2, h3, h4⟩
  · exact .inl (by simp [Sv.take]; omega)
  · refine .inr ⟨b, off, cells, h1, h2, h3, fun i cs hi => ?_⟩
    rw [List.getElem?_take] at hi
    split at hi
    · exact h4 i cs hi
    · cases hi
theorem Row.drop {D : Nat → Prop} {w : World} {s : Sv} {sz : Nat} {css : List (List Value)} (h : Row D w s sz css) {k : Nat} (hk : k ≤ s.n) : Row D w (s.drop k sz) sz (css.drop k) := by
  have hl := h.len
  have hc := h.cap
  have hb := h.bd
  refine ⟨by simp [Sv.drop]; omega, by simp [Sv.drop]; omega, by simp [Sv.drop]; omega, ?_⟩
  rcases h.el with h0 | ⟨b, off, cells, h1, h2, h3, h4⟩
  · exact .inl (by simp [Sv.drop]; omega)
  · by_cases hz : s.n = k
    · exact .inl (by simp [Sv.drop]; omega)
    · refine .inr ⟨b, off + k * sz, cells, ?_, h2, h3, fun i cs hi => ?_⟩
      · have : ¬ s.c = k := by omega
        simp [Sv.drop, this, h1, add_at]
      · rw [List.getElem?_drop] at hi
        obtain ⟨q1, q2⟩ := h4 (k + i) cs hi
        refine ⟨q1, fun j hj => ?_⟩
        rw [← q2 j hj, Nat.add_mul]
        congr 1
        omega

/-! ### code.Reader -/
def brow (bs : List UInt8) : List (List Value) := bs.map fun b => [bv b]
def rbD (rb : Nat) (D : Nat → Prop) : Nat → Prop := fun k => k ≠ rb ∧ D k
def Rd (T : TypeId) (D : Nat → Prop) (w : World) (rb : Nat) (st : List UInt8 × Bool) : Prop := ∃ s : Sv, Blk w rb [s.v, .bool st.2] T ∧ Row (rbD rb D) w s 1 (brow st.1)
theorem Rd.keep {M D : Nat → Prop} {T : TypeId} {w w1 : World} {rb : Nat} {st : List UInt8 × Bool} (h : Rd T D w rb st) (ha : Ag M w w1) (hr : ¬ M rb) (hn : ∀ k, k < w.heap.size → D k → ¬ M k) : Rd T D w1 rb st := by
  obtain ⟨s, h1, h2⟩ := h
  exact ⟨s, h1.keep ha hr, h2.keep ha (fun k hk hd => hn k hk hd.2)⟩
theorem Rd.lt {T : TypeId} {D : Nat → Prop} {w : World} {rb : Nat} {st : List UInt8 × Bool} (h : Rd T D w rb st) : rb < w.heap.size := by
  obtain ⟨s, h1, h2⟩ := h
  exact h1.lt
theorem Rd.mono {T : TypeId} {D D' : Nat → Prop} {w : World} {rb : Nat} {st : List UInt8 × Bool} (h : Rd T D w rb st) (hd : ∀ k, k < w.heap.size → D k → D' k) : Rd T D' w rb st := by
  obtain ⟨s, h1, h2⟩ := h
  exact ⟨s, h1, h2.mono (fun k hk hD => ⟨hD.1, hd k hk hD.2⟩)⟩
end Go.Proofs.YtdebnncpclodcaaDoor.X
