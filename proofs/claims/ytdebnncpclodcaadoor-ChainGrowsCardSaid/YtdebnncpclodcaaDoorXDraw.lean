/-
  Regions that draw their order, one step each. No condition beyond those that the lemmas name.
-/
import Derived.Test.YtdebnncpclodcaaDoorXData
import Derived.Test.YtdebnncpclodcaaDoorWLast
namespace Go.Proofs.YtdebnncpclodcaaDoor.X
open Go.RowKit Go.Proofs.YtdebnncpclodcaaDoorW.PrintLast

section
variable {P : Program} {ops : Array Oper} {o : Oper} {Q : Exit → Act → World → Prop} {ρ : Nat → Value} {n : Nat} {w w1 : World} {v : Value} {d : Nat} {S : World → Prop} {ds : List Nat} {l : Array Bool} {fuel : Nat}

/-- No goal of an operation hangs on a slot when it panics. -/
def Pan (Q : Exit → Act → World → Prop) : Prop := ∀ c (a : Act) d v w, Q (.panic c) (a.put d v) w → Q (.panic c) a w
theorem put_defers (a : Act) (d : Option Tmp) (v : Value) : (a.put d v).defers = a.defers := by cases d <;> rfl
theorem Pan.body {fn : Func} {R : Ending → World → Prop} : Pan (bodyPost P fn R) := fun c a d v w h => by
  unfold bodyPost at h ⊢
  simp only [put_defers] at h
  exact h
theorem Pan.then {next : Act → World → Prop} (h : Pan Q) : Pan (Exit.then next Q) := fun c a d v w k => h c a d v w k
theorem Pan.inBlock {id : Nat} (h : Pan Q) : Pan (Exit.inBlock id Q) := fun c a d v w k => h c a d v w k
theorem Pan.noGoto (h : Pan Q) : Pan (Exit.noGoto Q) := fun c a d v w k => h c a d v w k

theorem Ag.drew (M : Nat → Prop) (w : World) : Ag M w w.drew := ⟨rfl, rfl, rfl, Nat.le_refl _, fun _ _ _ => rfl⟩

theorem dp (i : Nat) (hc : anyB .any ops l (l.setIfInBounds i true) i = true) (hi : ops[i]? = some o) (hw : wnt ops ρ n o = true) (hr : ∀ w, Rn P ρ n o w v w) (hd : o.dst = some d) (hQ : Pan Q)
    (h : wpAnyLast P .any ops Q S ds fuel (l.setIfInBounds i true) (E (upd ρ d v) n) w) : wpAnyLast P .any ops Q S ds (fuel + 1) l (E ρ n) w :=
  pure_ _ hi hd hc (fun c a w h => hQ c a _ _ w h) (.inl ⟨by rw [wnt_eq]; exact hw, fun w => by rw [E_eval]; exact hr w⟩) (E_put ρ n d v) h
/-- Guarded, and not wanted. -/
theorem dx (i : Nat) (hc : anyB .any ops l (l.setIfInBounds i true) i = true) (hi : ops[i]? = some o) (hw : wnt ops ρ n o = false) (hd : o.dst = some d) (hQ : Pan Q)
    (h : wpAnyLast P .any ops Q S ds fuel (l.setIfInBounds i true) (E (upd ρ d undef) n) w) : wpAnyLast P .any ops Q S ds (fuel + 1) l (E ρ n) w :=
  pure_ _ hi hd hc (fun c a w h => hQ c a _ _ w h) (.inr ⟨by rw [wnt_eq]; exact hw, rfl⟩) (E_put ρ n d undef) h
/-- A read: the same in every world that meets S. -/
theorem dr (i : Nat) (hc : takeB .any ops ds l (l.setIfInBounds i true) i = true) (hi : ops[i]? = some o) (hw : wnt ops ρ n o = true) (hS : S w) (hr : ∀ w, S w → Rn P ρ n o w v w) (hd : o.dst = some d) (hQ : Pan Q)
    (h : wpAnyLast P .any ops Q S ds fuel (l.setIfInBounds i true) (E (upd ρ d v) n) w) : wpAnyLast P .any ops Q S ds (fuel + 1) l (E ρ n) w :=
  take_ _ hi hd hc (fun c a w h => hQ c a _ _ w h) (.inl ⟨by rw [wnt_eq]; exact hw, fun w hs => by rw [E_eval]; exact hr w hs⟩) hS (E_put ρ n d v) h
/-- One operation alone may come up: it yields a value, and may make memory. -/
theorem de (i : Nat) (hc : readyB .any ops l (l.setIfInBounds i true) i = true) (hi : ops[i]? = some o) (hw : wnt ops ρ n o = true) (hs : ds.contains i = false) {R : Value → World → Prop} (hr : Ef P ρ n o w R) (hd : o.dst = some d)
    (h : ∀ v w1, R v w1 → S w1 ∧ wpAnyLast P .any ops Q S ds fuel (l.setIfInBounds i true) (E (upd ρ d v) n) w1) : wpAnyLast P .any ops Q S ds (fuel + 1) l (E ρ n) w := by
  obtain ⟨v, w1, hR, hr⟩ := hr
  refine one_ _ hi hd hc (by simpa using hs) (fun K hK => ?_)
  have hw' : Region.wanted o (yielded ops (E ρ n).tmps) = true := by rw [wnt_eq]; exact hw
  refine value_ hw' hd (v := v) (w1 := w1) (by rw [E_eval]; exact hr) ?_
  rw [E_put]
  exact hK _ _ (h v w1 hR).1 (fun _ => (h v w1 hR).2)
/-- The same for one behind which nothing is read. -/
theorem del (i : Nat) (hc : readyB .any ops l (l.setIfInBounds i true) i = true) (hi : ops[i]? = some o) (hw : wnt ops ρ n o = true) (hs : ds.contains i = true) {R : Value → World → Prop} (hr : Ef P ρ n o w R) (hd : o.dst = some d)
    (h : ∀ v w1, R v w1 → wpAnyLast P .any ops Q S ds fuel (l.setIfInBounds i true) (E (upd ρ d v) n) w1) : wpAnyLast P .any ops Q S ds (fuel + 1) l (E ρ n) w := by
  obtain ⟨v, w1, hR, hr⟩ := hr
  refine last_ _ hi hd hc (by simpa using hs) (fun K hK => ?_)
  have hw' : Region.wanted o (yielded ops (E ρ n).tmps) = true := by rw [wnt_eq]; exact hw
  refine value_ hw' hd (v := v) (w1 := w1) (by rw [E_eval]; exact hr) ?_
  rw [E_put]
  exact hK _ _ (h v w1 hR)
/-- A store behind which something is still read. -/
theorem dst (i : Nat) (hc : readyB .any ops l (l.setIfInBounds i true) i = true) (hi : ops[i]? = some o) (hw : wnt ops ρ n o = true) (hs : ds.contains i = false) {R : World → Prop} (hr : Es P ρ n o w R) (hd : o.dst = none)
    (h : ∀ w1, R w1 → S w1 ∧ wpAnyLast P .any ops Q S ds fuel (l.setIfInBounds i true) (E ρ n) w1) : wpAnyLast P .any ops Q S ds (fuel + 1) l (E ρ n) w := by
  obtain ⟨w1, hR, hr⟩ := hr
  refine one_ _ hi hd hc (by simpa using hs) (fun K hK => ?_)
  have hw' : Region.wanted o (yielded ops (E ρ n).tmps) = true := by rw [wnt_eq]; exact hw
  refine skip_ hw' hd (w1 := w1) (by rw [E_eval]; exact hr) ?_
  exact hK _ _ (h w1 hR).1 (fun _ => (h w1 hR).2)
theorem dsl (i : Nat) (hc : readyB .any ops l (l.setIfInBounds i true) i = true) (hi : ops[i]? = some o) (hw : wnt ops ρ n o = true) (hs : ds.contains i = true) {R : World → Prop} (hr : Es P ρ n o w R) (hd : o.dst = none)
    (h : ∀ w1, R w1 → wpAnyLast P .any ops Q S ds fuel (l.setIfInBounds i true) (E ρ n) w1) : wpAnyLast P .any ops Q S ds (fuel + 1) l (E ρ n) w := by
  obtain ⟨w1, hR, hr⟩ := hr
  refine last_ _ hi hd hc (by simpa using hs) (fun K hK => ?_)
  have hw' : Region.wanted o (yielded ops (E ρ n).tmps) = true := by rw [wnt_eq]; exact hw
  refine skip_ hw' hd (w1 := w1) (by rw [E_eval]; exact hr) ?_
  exact hK _ _ (h w1 hR)
/-- A call. -/
theorem dc (i : Nat) {f : FuncId} (hf : Fnc P f) {as : List Operand} {ts : Array TypeId} (hc : readyB .any ops l (l.setIfInBounds i true) i = true) (hi : ops[i]? = some o) (hw : wnt ops ρ n o = true) (hs : ds.contains i = false)
    (hop : o.op = .call { callee := .value (.func f), args := as.toArray, argTypes := ts }) (hd : o.dst = some d)
    (h : Calls P f (as.map (opd ρ n)).toArray w fun e w' => ∃ v, e = .returned v ∧ S w' ∧ wpAnyLast P .any ops Q S ds fuel (l.setIfInBounds i true) (E (upd ρ d v) n) w') : wpAnyLast P .any ops Q S ds (fuel + 1) l (E ρ n) w := by
  refine one_ _ hi hd hc (by simpa using hs) (fun K hK => ?_)
  have hw' : Region.wanted o (yielded ops (E ρ n).tmps) = true := by rw [wnt_eq]; exact hw
  refine call_ f _ hw' hd (by rw [E_eval]; exact run_call hf hop (by simp) w) (h.mono fun e w' ⟨v, he, hS, hh⟩ => ⟨v, he, ?_⟩)
  rw [E_put]
  exact hK _ _ hS (fun _ => hh)
theorem dend (hr : (Region.ready .any ops l == []) = true) (h : Q .normal (E ρ n) w) : wpAnyLast P .any ops Q S ds fuel l (E ρ n) w := done_ hr h
end
end Go.Proofs.YtdebnncpclodcaaDoor.X
