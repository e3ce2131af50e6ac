/-
  Operations, regions, calls and loops over one invariant of memory. No condition beyond those that the lemmas name.
-/
import Derived.Test.YtdebnncpclodcaaDoorXStepB
set_option linter.unusedSimpArgs false
set_option linter.unusedVariables false
namespace Go.Proofs.YtdebnncpclodcaaDoor.X
open Go.RowKit

/-! ### Contracts -/
/-- What a call answers: R of what is known then, of the value, of the entries of its own memory. -/
def Fine (P : Program) (f : FuncId) (args : List Value) (w : World) (H : Hp) (Lc : List Ent) (R : Hp → Value → List Ent → Prop) : Prop :=
  Calls P f args.toArray w fun e w' => ∃ v H' L', e = .returned v ∧ R H' v L' ∧ Good w' H' L' ∧ Ext (blks Lc) w H w' H' ∧ ∀ e ∈ L', ∀ b, e.blk = some b → blks Lc b ∨ w.heap.size ≤ b
theorem argc {α : Type} {a b : α} {l m : List α} (h : a = b) (k : l = m) : a :: l = b :: m := by rw [h, k]
section
variable {P : Program} {ops : Array Oper} {rest : List Oper} {o : Oper} {Q : Exit → Act → World → Prop} {ρ : Nat → Value} {n : Nat} {w w1 : World} {v : Value} {d : Nat} {B : Base} {H : Hp} {L : List Ent}
theorem fc {f : FuncId} (Lc Lr : List Ent) {R : Hp → Value → List Ent → Prop} {args : List Value} (hf : Fnc P f) {as : List Operand} {ts : Array TypeId} (hw : wnt ops ρ n o = true) (hop : o.op = .call { callee := .value (.func f), args := as.toArray, argTypes := ts }) (hd : o.dst = some d)
    (hI : Inv B w H (Lc ++ Lr)) (ha : as.map (opd ρ n) = args) (hF : Fine P f args w H Lc R)
    (h : ∀ v H' L' w', R H' v L' → Hle H H' → Inv B w' H' (L' ++ Lr) → wpList P ops Q rest (E (upd ρ d v) n) w') : wpList P ops Q (o :: rest) (E ρ n) w := by
  refine lc hf hw hop hd ?_
  rw [ha]
  refine hF.mono fun e w' ⟨v, H', L', he, hR, hG, hE, hl⟩ => ⟨v, he, h v H' L' w' hR hE.le (hI.call hG hE hl)⟩
theorem Inv.fin {w0 : World} {H0 : Hp} {Lc : List Ent} (hI : Inv ⟨w0, H0, blks Lc⟩ w H L) (k : Nat) {R : Hp → Value → List Ent → Prop} (hR : R H v (L.take k)) :
    ∃ v' H' L', Ending.returned v = .returned v' ∧ R H' v' L' ∧ Good w H' L' ∧ Ext (blks Lc) w0 H0 w H' ∧ ∀ e ∈ L', ∀ b, e.blk = some b → blks Lc b ∨ w0.heap.size ≤ b :=
  ⟨v, H, L.take k, rfl, hR, (hI.take k).good, hI.ext, (hI.take k).loc⟩
/-- Slots are named anew: what is known of them is said by equations. -/
theorem wcut {x y : Code} (Mid : (Nat → Value) → World → Prop) (h1 : x.wp P (Exit.then (fun a w => ∃ ρ', a = E ρ' n ∧ Mid ρ' w) Q) (E ρ n) w) (h2 : ∀ ρ' w', Mid ρ' w' → y.wp P Q (E ρ' n) w') : (Code.seq x y).wp P Q (E ρ n) w := by
  refine wp_seq (wp_mono h1 ?_)
  intro e a w' h
  cases e with
  | normal => obtain ⟨ρ', rfl, hm⟩ := h; exact h2 ρ' w' hm
  | exit id => exact h
  | goto l => exact h
  | ret => exact h
  | panic c => exact h
  | outgrown => exact h
theorem wmid {Mid : (Nat → Value) → World → Prop} (h : Mid ρ w) : Exit.then (fun a w => ∃ ρ', a = E ρ' n ∧ Mid ρ' w) Q .normal (E ρ n) w := ⟨ρ, rfl, h⟩
theorem wren {c : Code} (h : ∀ ρ', (∀ i, ρ' i = ρ i) → c.wp P Q (E ρ' n) w) : c.wp P Q (E ρ n) w := h ρ (fun _ => rfl)

/-! ### Loops -/
def forK {σ τ : Type} (body : Nat → σ → Option (σ ⊕ τ)) : Nat → Nat → σ → Option (σ ⊕ τ)
  | 0, _, s => some (.inl s)
  | k + 1, i, s => match body i s with
    | none => none
    | some (.inl s') => forK body k (i + 1) s'
    | some (.inr r) => some (.inr r)
def iterK {σ τ : Type} (body : σ → Option (σ ⊕ τ)) : Nat → σ → Option τ
  | 0, _ => none
  | k + 1, s => match body s with
    | none => none
    | some (.inl s') => iterK body k s'
    | some (.inr r) => some r
theorem iterK_mono {σ τ : Type} {body : σ → Option (σ ⊕ τ)} : ∀ {k m : Nat} {s : σ} {r : τ}, iterK body k s = some r → k ≤ m → iterK body m s = some r
  | 0, _, _, _, h, _ => by cases h
  | k + 1, 0, _, _, _, hm => by omega
  | k + 1, m + 1, s, r, h, hm => by
    unfold iterK at h ⊢
    cases hb : body s with
    | none => rw [hb] at h; cases h
    | some z =>
      rw [hb] at h
      cases z with
      | inl s' => exact iterK_mono h (by omega)
      | inr r' => exact h
theorem iterK_det {σ τ : Type} {body : σ → Option (σ ⊕ τ)} {k m : Nat} {s : σ} {r q : τ} (h : iterK body k s = some r) (h' : iterK body m s = some q) : r = q := by
  have h1 := iterK_mono h (Nat.le_max_left k m)
  have h2 := iterK_mono h' (Nat.le_max_right k m)
  rw [h1] at h2; cases h2; rfl
open Classical in
noncomputable def runL {σ τ : Type} (body : σ → Option (σ ⊕ τ)) (s : σ) : Option τ := if h : ∃ r k, iterK body k s = some r then some (Classical.choose h) else none
theorem runL_some {σ τ : Type} {body : σ → Option (σ ⊕ τ)} {s : σ} {r : τ} : runL body s = some r ↔ ∃ k, iterK body k s = some r := by
  unfold runL
  constructor
  · intro h
    split at h
    · rename_i hx
      cases h
      exact Classical.choose_spec hx
    · cases h
  · rintro ⟨k, h⟩
    rw [dif_pos ⟨r, k, h⟩]
    congr 1
    obtain ⟨m, hm⟩ := Classical.choose_spec (⟨r, k, h⟩ : ∃ r k, iterK body k s = some r)
    exact iterK_det hm h
theorem runL_eq {σ τ : Type} (body : σ → Option (σ ⊕ τ)) (s : σ) : runL body s = match body s with | none => none | some (.inl s') => runL body s' | some (.inr r) => some r := by
  cases hb : body s with
  | none =>
    cases hr : runL body s with
    | none => rfl
    | some r =>
      obtain ⟨k, hk⟩ := runL_some.1 hr
      cases k with
      | zero => cases hk
      | succ k => simp [iterK, hb] at hk
  | some z =>
    cases z with
    | inl s' =>
      simp only []
      apply Option.ext
      intro r
      rw [runL_some, runL_some]
      constructor
      · rintro ⟨k, hk⟩
        cases k with
        | zero => cases hk
        | succ k => simp only [iterK, hb] at hk; exact ⟨k, hk⟩
      · rintro ⟨k, hk⟩
        exact ⟨k + 1, by simp only [iterK, hb]; exact hk⟩
    | inr r => exact runL_some.2 ⟨1, by simp only [iterK, hb]⟩
theorem wfor {σ τ : Type} {c : Code} (N : Nat) (body : Nat → σ → Option (σ ⊕ τ)) (I : Nat → σ → (Nat → Value) → World → Prop) {y : σ ⊕ τ} {s : σ} (hy : forK body N 0 s = some y) (h0 : I 0 s ρ w)
    (round : ∀ k i s ρ w, i + k = N → I i s ρ w → forK body k i s = some y → c.wp P (Exit.then (fun a' w' => ∃ k' s' ρ', k = k' + 1 ∧ a' = E ρ' n ∧ I (i + 1) s' ρ' w' ∧ forK body k' (i + 1) s' = some y) Q) (E ρ n) w) : (Code.loop c).wp P Q (E ρ n) w := by
  refine wloop (σ := Nat × Nat × σ) (fun z ρ w => z.2.1 + z.1 = N ∧ I z.2.1 z.2.2 ρ w ∧ forK body z.1 z.2.1 z.2.2 = some y) (fun z => z.1) (N, 0, s) ⟨by simp, h0, hy⟩ ?_
  rintro ⟨k, i, s⟩ ρ w ⟨h1, h2, h3⟩
  refine wp_mono (round k i s ρ w h1 h2 h3) ?_
  intro e a w' h
  cases e with
  | normal =>
    obtain ⟨k', s', ρ', h4, h5, h6, h7⟩ := h
    simp only at h1
    exact ⟨(k', i + 1, s'), ρ', h5, ⟨by simp only []; omega, h6, h7⟩, by simp only []; omega⟩
  | exit id => exact h
  | goto l => exact h
  | ret => exact h
  | panic c => exact h
  | outgrown => exact h
theorem wrun {σ τ : Type} {c : Code} (body : σ → Option (σ ⊕ τ)) (I : σ → (Nat → Value) → World → Prop) {y : τ} {s : σ} (hy : runL body s = some y) (h0 : I s ρ w)
    (round : ∀ k s ρ w, I s ρ w → iterK body (k + 1) s = some y → c.wp P (Exit.then (fun a' w' => ∃ s' ρ', a' = E ρ' n ∧ I s' ρ' w' ∧ iterK body k s' = some y) Q) (E ρ n) w) : (Code.loop c).wp P Q (E ρ n) w := by
  obtain ⟨k, hk⟩ := runL_some.1 hy
  refine wloop (σ := Nat × σ) (fun z ρ w => I z.2 ρ w ∧ iterK body z.1 z.2 = some y) (fun z => z.1) (k, s) ⟨h0, hk⟩ ?_
  rintro ⟨k, s⟩ ρ w ⟨h2, h3⟩
  cases k with
  | zero => cases h3
  | succ k =>
    refine wp_mono (round k s ρ w h2 h3) ?_
    intro e a w' h
    cases e with
    | normal =>
      obtain ⟨s', ρ', h5, h6, h7⟩ := h
      exact ⟨(k, s'), ρ', h5, ⟨h6, h7⟩, by simp only []; omega⟩
    | exit id => exact h
    | goto l => exact h
    | ret => exact h
    | panic c => exact h
    | outgrown => exact h
theorem forK_inl {σ τ : Type} {body : Nat → σ → Option (σ ⊕ τ)} {k i : Nat} {s s' : σ} {y : σ ⊕ τ} (h : forK body (k + 1) i s = some y) (hb : body i s = some (.inl s')) : forK body k (i + 1) s' = some y := by simpa [forK, hb] using h
theorem forK_inr {σ τ : Type} {body : Nat → σ → Option (σ ⊕ τ)} {k i : Nat} {s : σ} {r : τ} {y : σ ⊕ τ} (h : forK body (k + 1) i s = some y) (hb : body i s = some (.inr r)) : y = .inr r := by
  simp [forK, hb] at h; exact h.symm
theorem forK_body {σ τ : Type} {body : Nat → σ → Option (σ ⊕ τ)} {k i : Nat} {s : σ} {y : σ ⊕ τ} (h : forK body (k + 1) i s = some y) : ∃ z, body i s = some z := by
  unfold forK at h
  cases hb : body i s with
  | none => rw [hb] at h; cases h
  | some z => exact ⟨z, rfl⟩
theorem forK_end {σ τ : Type} {body : Nat → σ → Option (σ ⊕ τ)} {i : Nat} {s : σ} {y : σ ⊕ τ} (h : forK body 0 i s = some y) : y = .inl s := by simp [forK] at h; exact h.symm
theorem iterK_inl {σ τ : Type} {body : σ → Option (σ ⊕ τ)} {k : Nat} {s s' : σ} {y : τ} (h : iterK body (k + 1) s = some y) (hb : body s = some (.inl s')) : iterK body k s' = some y := by simpa [iterK, hb] using h
theorem iterK_inr {σ τ : Type} {body : σ → Option (σ ⊕ τ)} {k : Nat} {s : σ} {r y : τ} (h : iterK body (k + 1) s = some y) (hb : body s = some (.inr r)) : y = r := by
  simp [iterK, hb] at h; exact h.symm
theorem iterK_body {σ τ : Type} {body : σ → Option (σ ⊕ τ)} {k : Nat} {s : σ} {y : τ} (h : iterK body (k + 1) s = some y) : ∃ z, body s = some z := by
  unfold iterK at h
  cases hb : body s with
  | none => rw [hb] at h; cases h
  | some z => exact ⟨z, rfl⟩

/-! ### Slices, lists -/
def ixI {α : Type} (xs : List α) (i : Int) : Option α := if 0 ≤ i then xs[i.toNat]? else none
def cutI {α : Type} (xs : List α) (lo hi : Int) : Option (List α) := if 0 ≤ lo ∧ lo ≤ hi ∧ hi ≤ xs.length then some ((xs.take hi.toNat).drop lo.toNat) else none
def appI {α : Type} (bytes : Nat) (xs ys : List α) : Option (List α) := if (xs.length + ys.length) * bytes ≤ 140737488355328 then some (xs ++ ys) else none
theorem ixI_some {α : Type} {xs : List α} {i : Int} {x : α} (h : ixI xs i = some x) : xs[i.toNat]? = some x ∧ i = (i.toNat : Int) := by
  unfold ixI at h
  split at h
  · exact ⟨h, by omega⟩
  · cases h
theorem cutI_some {α : Type} {xs ys : List α} {lo hi : Int} (h : cutI xs lo hi = some ys) : 0 ≤ lo ∧ lo ≤ hi ∧ hi ≤ xs.length ∧ ys = (xs.take hi.toNat).drop lo.toNat := by
  unfold cutI at h
  split at h
  · rename_i hc; cases h; exact ⟨hc.1, hc.2.1, hc.2.2, rfl⟩
  · cases h
theorem appI_some {α : Type} {b : Nat} {xs ys zs : List α} (h : appI b xs ys = some zs) : (xs.length + ys.length) * b ≤ 140737488355328 ∧ zs = xs ++ ys := by
  unfold appI at h
  split at h
  · rename_i hc; cases h; exact ⟨hc, rfl⟩
  · cases h
/-- A slice of a slice. -/
theorem Sl.cut {α : Type} {t : Ty α} {s : Sv} {xs : List α} (h : Sl t H s xs) {lo hi : Nat} (h1 : lo ≤ hi) (h2 : hi ≤ xs.length) (a : Option Addr) (ha : a = if s.c = lo then s.a else s.a.map (·.add (lo * t.sz))) :
    Sl t H ⟨a, hi - lo, s.c - lo⟩ ((xs.take hi).drop lo) := by
  have hcap := h.cap
  have hn := h.n
  refine ⟨by simp only [List.length_drop, List.length_take]; omega, by simp only []; omega, by have := h.bd; simp only []; omega, fun i x hi' => ?_⟩
  rw [List.getElem?_drop, List.getElem?_take] at hi'
  split at hi'
  · rename_i hlt
    obtain ⟨b, off, cs, h3, h4, h5⟩ := h.el (lo + i) x hi'
    have hne : ¬ s.c = lo := by omega
    refine ⟨b, off + lo * t.sz, cs, ?_, h4, fun k v hk => ?_⟩
    · simp only [ha, if_neg hne, h3, Option.map_some, add_at]
    · have := h5 k v hk
      rwa [Nat.add_mul, ← Nat.add_assoc] at this
  · cases hi'
end
end Go.Proofs.YtdebnncpclodcaaDoor.X
