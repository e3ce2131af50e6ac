/-
  When an expression of options answers. No condition beyond those that the lemmas name.
-/
import Derived.Test.YtdebnncpclodcaaDoorXStepI
set_option linter.unusedSimpArgs false
set_option linter.unusedVariables false
namespace Go.Proofs.YtdebnncpclodcaaDoor.X

/-! ### Plain: a mirror answers, and what -/
def SumP {σ τ : Type} (A : σ → Prop) (B : τ → Prop) : σ ⊕ τ → Prop
  | .inl s => A s
  | .inr r => B r
def Tot {α : Type} (o : Option α) (Q : α → Prop) : Prop := ∃ x, o = some x ∧ Q x
section
variable {α β σ τ : Type} {Q : α → Prop} {R : β → Prop}
theorem Tot.mono {o : Option α} {Q' : α → Prop} (h : Tot o Q) (k : ∀ x, Q x → Q' x) : Tot o Q' := by
  obtain ⟨x, e, q⟩ := h; exact ⟨x, e, k x q⟩
theorem Tot.yes {x : α} (h : Q x) : Tot (some x) Q := ⟨x, rfl, h⟩
theorem Tot.bind {o : Option α} {f : α → Option β} (h : Tot o Q) (k : ∀ x, Q x → Tot (f x) R) : Tot (o.bind f) R := by
  obtain ⟨x, rfl, q⟩ := h; exact k x q
theorem Tot.map {o : Option α} {f : α → β} (h : Tot o fun x => R (f x)) : Tot (o.map f) R := by
  obtain ⟨x, rfl, q⟩ := h; exact ⟨_, rfl, q⟩
theorem Tot.ite {c : Prop} [Decidable c] {a b : Option α} (h : c → Tot a Q) (k : ¬ c → Tot b Q) : Tot (if c then a else b) Q := by
  by_cases hc : c
  · rw [if_pos hc]; exact h hc
  · rw [if_neg hc]; exact k hc
theorem Tot.pos {c : Prop} [Decidable c] {a b : Option α} (hc : c) (h : Tot a Q) : Tot (if c then a else b) Q := by rw [if_pos hc]; exact h
theorem Tot.neg {c : Prop} [Decidable c] {a b : Option α} (hc : ¬ c) (h : Tot b Q) : Tot (if c then a else b) Q := by rw [if_neg hc]; exact h
theorem Tot.get {l : List α} {i : Nat} (h : i < l.length) (k : ∀ x, l[i]? = some x → Q x) : Tot l[i]? Q := ⟨l[i], by simp [h], k _ (by simp [h])⟩
theorem Tot.ix {l : List α} {i : Int} (h0 : 0 ≤ i) (h : i < l.length) (k : ∀ x, l[i.toNat]? = some x → Q x) : Tot (ixI l i) Q := by
  unfold ixI; rw [if_pos h0]; exact Tot.get (by omega) k
theorem Tot.cut {l : List α} {lo hi : Int} {Q : List α → Prop} (h0 : 0 ≤ lo) (h1 : lo ≤ hi) (h2 : hi ≤ l.length) (k : Q ((l.take hi.toNat).drop lo.toNat)) : Tot (cutI l lo hi) Q := by
  unfold cutI; rw [if_pos ⟨h0, h1, h2⟩]; exact Tot.yes k
theorem Tot.app {n : Nat} {l m : List α} {Q : List α → Prop} (h : (l.length + m.length) * n ≤ 140737488355328) (k : Q (l ++ m)) : Tot (appI n l m) Q := by
  unfold appI; rw [if_pos h]; exact Tot.yes k
/-- A counted loop: an invariant; what it returns early. -/
theorem Tot.loop {body : Nat → σ → Option (σ ⊕ τ)} (I : Nat → σ → Prop) (E : τ → Prop) : ∀ (k i : Nat) (s : σ), I i s → (∀ j s, i ≤ j → j < i + k → I j s → Tot (body j s) (SumP (I (j + 1)) E)) →
    Tot (forK body k i s) (SumP (I (i + k)) E)
  | 0, i, s, h, _ => ⟨.inl s, rfl, h⟩
  | k + 1, i, s, h, hb => by
    obtain ⟨y, e, q⟩ := hb i s (Nat.le_refl _) (by omega) h
    cases y with
    | inl s' =>
      have := Tot.loop I E k (i + 1) s' q (fun j s h1 h2 => hb j s (by omega) (by omega))
      unfold forK
      rw [e]
      rw [show i + (k + 1) = i + 1 + k from by omega]
      exact this
    | inr r =>
      unfold forK
      rw [e]
      exact ⟨.inr r, rfl, q⟩
/-- The loop and what follows it. -/
theorem Tot.fold' {body : Nat → σ → Option (σ ⊕ τ)} {g : σ ⊕ τ → Option β} {k : Nat} {s : σ} (I : Nat → σ → Prop) (E : τ → Prop) (h0 : I 0 s) (hb : ∀ j s, j < k → I j s → Tot (body j s) (SumP (I (j + 1)) E)) (hf : ∀ s, I k s → Tot (g (.inl s)) R) (hr : ∀ r, E r → Tot (g (.inr r)) R) :
    Tot ((forK body k 0 s).bind g) R := by
  refine Tot.bind (Tot.loop I E k 0 s h0 fun j s _ h2 hI => hb j s (by omega) hI) fun y hy => ?_
  cases y with
  | inl s' => exact hf s' (by have hy' : I (0 + k) s' := hy; simpa using hy')
  | inr r => exact hr r hy
theorem Tot.fold {body : Nat → σ → Option (σ ⊕ β)} {g : σ ⊕ β → Option β} {k : Nat} {s : σ} (I : Nat → σ → Prop) (h0 : I 0 s) (hg : ∀ r, g (.inr r) = some r) (hb : ∀ j s, j < k → I j s → Tot (body j s) (SumP (I (j + 1)) R)) (hf : ∀ s, I k s → Tot (g (.inl s)) R) :
    Tot ((forK body k 0 s).bind g) R := Tot.fold' I R h0 hb hf fun r h => by rw [hg]; exact Tot.yes h
/-- A loop with a measure. -/
theorem Tot.run {body : σ → Option (σ ⊕ β)} (I : σ → Prop) (μ : σ → Nat) : ∀ (n : Nat) (s : σ), μ s < n → I s → (∀ s, I s → Tot (body s) (SumP (fun s' => I s' ∧ μ s' < μ s) R)) → Tot (runL body s) R
  | 0, _, h, _, _ => by omega
  | n + 1, s, h, hI, hb => by
    obtain ⟨y, e, q⟩ := hb s hI
    rw [runL_eq, e]
    cases y with
    | inl s' => exact Tot.run I μ n s' (by have : μ s' < μ s := q.2; omega) q.1 hb
    | inr r => exact ⟨r, rfl, q⟩
theorem Tot.while {body : σ → Option (σ ⊕ β)} {s : σ} (I : σ → Prop) (μ : σ → Nat) (h0 : I s) (hb : ∀ s, I s → Tot (body s) (SumP (fun s' => I s' ∧ μ s' < μ s) R)) : Tot (runL body s) R :=
  Tot.run I μ (μ s + 1) s (Nat.lt_succ_self _) h0 hb
end
theorem wI_of {x : Int} (h : -9223372036854775808 ≤ x) (k : x ≤ 9223372036854775807) : wI x = x := wI_eq ⟨h, k⟩
end Go.Proofs.YtdebnncpclodcaaDoor.X
