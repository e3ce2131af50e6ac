/-
  Steps of the walk: slots as a function, regions, control. No condition beyond those that the lemmas name.
-/
import Derived.WalkKit
import Derived.WalkSpells
import Derived.WalkLawsBesides
import Derived.KernelRfl
namespace Go.Proofs.YtdebnncpclodcaaDoor.X
open Go.RowKit

/-! ### Slots as a function -/
def upd (ρ : Nat → Value) (d : Nat) (v : Value) : Nat → Value := fun i => cond (Nat.beq i d) v (ρ i)
def E (ρ : Nat → Value) (n : Nat) : Act := ⟨((List.range n).map ρ).toArray, []⟩
def opd (ρ : Nat → Value) (n : Nat) : Operand → Value
  | .tmp i => cond (Nat.blt i n) (ρ i) undef
  | .const v => v
  | .global g => .pointer (some ⟨g, 0, none⟩)
  | .func f => .func (.func f) #[] #[]
theorem E_get (ρ : Nat → Value) (n i : Nat) : (E ρ n).tmps.getD i undef = cond (Nat.blt i n) (ρ i) undef := by
  unfold E
  by_cases h : i < n
  · have : Nat.blt i n = true := by simpa [Nat.blt_eq] using h
    simp [this, h]
  · have : Nat.blt i n = false := by
      cases hb : Nat.blt i n
      · rfl
      · exact absurd (by simpa [Nat.blt_eq] using hb) h
    simp [this, h]
theorem E_eval (ρ : Nat → Value) (n : Nat) : (E ρ n).eval = opd ρ n := by
  funext x
  cases x with
  | tmp i => exact E_get ρ n i
  | const v => rfl
  | global g => rfl
  | func f => rfl
theorem E_put (ρ : Nat → Value) (n d : Nat) (v : Value) : (E ρ n).put (some d) v = E (upd ρ d v) n := by
  unfold E Act.put upd
  simp only
  congr 1
  apply Array.ext_getElem?
  intro i
  rw [Array.getElem?_setIfInBounds]
  by_cases h : i < n
  · by_cases hd : d = i
    · subst hd; simp [h]
    · have hd' : Nat.beq i d = false := by
        cases hb : Nat.beq i d
        · rfl
        · exact absurd (Nat.eq_of_beq_eq_true hb).symm hd
      simp [h, hd, hd']
  · by_cases hd : d = i
    · subst hd; simp [h]
    · simp [h, hd]
def lget {α : Type} : List α → Nat → Option α
  | [], _ => none
  | a :: _, 0 => some a
  | _ :: l, k + 1 => lget l k
theorem lget_eq {α : Type} : ∀ (l : List α) (k : Nat), lget l k = l[k]?
  | [], k => by simp [lget]
  | a :: l, 0 => by simp [lget]
  | a :: l, k + 1 => by simp [lget, lget_eq l k]
def wnt (ops : Array Oper) (ρ : Nat → Value) (n : Nat) (o : Oper) : Bool :=
  match o.guard with
  | none => true
  | some (j, want) =>
    match (lget ops.toList j).bind (·.dst) with
    | some t => (match cond (Nat.blt t n) (ρ t) undef with
      | .bool b => b == want
      | _ => false)
    | none => false
theorem wnt_eq (ops : Array Oper) (ρ : Nat → Value) (n : Nat) (o : Oper) : Region.wanted o (yielded ops (E ρ n).tmps) = wnt ops ρ n o := by
  unfold Region.wanted wnt yielded
  cases o.guard with
  | none => rfl
  | some p =>
    obtain ⟨j, want⟩ := p
    simp only [lget_eq, Array.getElem?_toList]
    cases (ops[j]?).bind (·.dst) with
    | none => rfl
    | some t =>
      simp only [Option.bind_some]
      have h := E_get ρ n t
      rw [Array.getD_eq_getD_getElem?] at h
      rw [← h]
      cases hq : (E ρ n).tmps[t]? with
      | none => simp [undef]
      | some v => cases v <;> simp

/-! ### What an operation does -/
def Rn (P : Program) (ρ : Nat → Value) (n : Nat) (o : Oper) (w : World) (v : Value) (w1 : World) : Prop := (execOp (opd ρ n) o).run P w = .ok (.value v) w1
def Rs (P : Program) (ρ : Nat → Value) (n : Nat) (o : Oper) (w w1 : World) : Prop := (execOp (opd ρ n) o).run P w = .ok .skip w1

section
variable {P : Program} {ops : Array Oper} {rest : List Oper} {o : Oper} {Q : Exit → Act → World → Prop} {ρ : Nat → Value} {n : Nat} {w w1 : World} {v : Value} {d : Nat}

theorem lv (hw : wnt ops ρ n o = true) (hr : Rn P ρ n o w v w1) (hd : o.dst = some d) (h : wpList P ops Q rest (E (upd ρ d v) n) w1) : wpList P ops Q (o :: rest) (E ρ n) w := by
  unfold wpList
  rw [if_pos (by rw [wnt_eq]; exact hw)]
  refine .inl ?_
  unfold Oper.wp
  rw [E_eval, show (execOp (opd ρ n) o).run P w = _ from hr, Oper.upon_value, hd, E_put]
  exact h
theorem lv0 (hw : wnt ops ρ n o = true) (hr : Rn P ρ n o w v w1) (hd : o.dst = none) (h : wpList P ops Q rest (E ρ n) w1) : wpList P ops Q (o :: rest) (E ρ n) w := by
  unfold wpList
  rw [if_pos (by rw [wnt_eq]; exact hw)]
  refine .inl ?_
  unfold Oper.wp
  rw [E_eval, show (execOp (opd ρ n) o).run P w = _ from hr, Oper.upon_value, hd]
  exact h
theorem ls (hw : wnt ops ρ n o = true) (hr : Rs P ρ n o w w1) (hd : o.dst = none) (h : wpList P ops Q rest (E ρ n) w1) : wpList P ops Q (o :: rest) (E ρ n) w := by
  unfold wpList
  rw [if_pos (by rw [wnt_eq]; exact hw)]
  refine .inl ?_
  unfold Oper.wp
  rw [E_eval, show (execOp (opd ρ n) o).run P w = _ from hr, Oper.upon_skip, hd]
  exact h
/-- Guarded, and not wanted. -/
theorem lx (hw : wnt ops ρ n o = false) (hd : o.dst = some d) (h : wpList P ops Q rest (E (upd ρ d undef) n) w) : wpList P ops Q (o :: rest) (E ρ n) w := by
  unfold wpList
  rw [if_neg (by rw [wnt_eq, hw]; simp), hd, E_put]
  exact h
/-! ### A call of a Go function -/
theorem run_enters {f : FuncId} {fn : Func} (hf : P.funcs[f]? = some fn) (hname : (fn.name == "runtime.NumGoroutine") = false) (hb : fn.body.isSome = true) (args : Array Value) (w : World) : (callFunc f args).run P w = .ok (.enter f args) w := by
  have h1 : fn.name ≠ "runtime.NumGoroutine" := by simpa using hname
  obtain ⟨c, hc⟩ := Option.isSome_iff_exists.1 hb
  simp [callFunc, hf, h1, hc]
def Fnc (P : Program) (f : FuncId) : Prop := ∃ fn, P.funcs[f]? = some fn ∧ (fn.name == "runtime.NumGoroutine") = false ∧ fn.body.isSome = true
theorem run_call {f : FuncId} (hf : Fnc P f) {as : Array Operand} {ts : Array TypeId} (hop : o.op = .call { callee := .value (.func f), args := as, argTypes := ts }) {args : Array Value} (hargs : as.map (opd ρ n) = args) (w : World) :
    (execOp (opd ρ n) o).run P w = .ok (.enter f args) w := by
  obtain ⟨fn, hf, hname, hb⟩ := hf
  have he := run_enters hf hname hb args w
  unfold execOp
  simp [hop, resolve, Deferred.ofValue, invoke, hargs, he, opd]
theorem lc {f : FuncId} (hf : Fnc P f) {as : List Operand} {ts : Array TypeId} (hw : wnt ops ρ n o = true) (hop : o.op = .call { callee := .value (.func f), args := as.toArray, argTypes := ts })
    (hd : o.dst = some d) (h : Calls P f (as.map (opd ρ n)).toArray w fun e w' => ∃ v, e = .returned v ∧ wpList P ops Q rest (E (upd ρ d v) n) w') : wpList P ops Q (o :: rest) (E ρ n) w := by
  unfold wpList
  rw [if_pos (by rw [wnt_eq]; exact hw)]
  refine .inl ?_
  unfold Oper.wp
  rw [E_eval, run_call hf hop (args := (as.map (opd ρ n)).toArray) (by simp) w, Oper.upon_enter, hd]
  refine h.mono fun e w'' hh => ?_
  obtain ⟨v, rfl, hk⟩ := hh
  simp only [E_put]
  exact hk

/-! ### Control -/
theorem wend (h : Q .normal (E ρ n) w) : wpList P ops Q [] (E ρ n) w := h
theorem wreg {id : Nat} {l : List Oper} (h : wpList P l.toArray Q l (E ρ n) w) : (Code.region id l.toArray false).wp P Q (E ρ n) w := wp_region_list (by simpa using h)
theorem wcT {c : Operand} {x y : Code} (hc : opd ρ n c = .bool true) (h : x.wp P Q (E ρ n) w) : (Code.cond c x y).wp P Q (E ρ n) w := wp_cond_true (by rw [E_eval]; exact hc) h
theorem wcF {c : Operand} {x y : Code} (hc : opd ρ n c = .bool false) (h : y.wp P Q (E ρ n) w) : (Code.cond c x y).wp P Q (E ρ n) w := wp_cond_false (by rw [E_eval]; exact hc) h
/-- A sequence, what follows under a name. -/
theorem wseq {x y : Code} {a : Act} (h : x.wp P (Exit.then (y.wp P Q) Q) a w) : (Code.seq x y).wp P Q a w := wp_seq h
theorem thE {next : Act → World → Prop} {a : Act} {id : Nat} (h : Q (.exit id) a w) : Exit.then next Q (.exit id) a w := h
theorem thR {next : Act → World → Prop} {a : Act} (h : Q .ret a w) : Exit.then next Q .ret a w := h
theorem inN {a : Act} {id : Nat} (h : Q .normal a w) : Exit.inBlock id Q .normal a w := h
theorem inR {a : Act} {id : Nat} (h : Q .ret a w) : Exit.inBlock id Q .ret a w := h
theorem inX {a : Act} {id : Nat} (h : Q .normal a w) : Exit.inBlock id Q (.exit id) a w := by simpa [Exit.inBlock] using h
theorem wthen {next : Act → World → Prop} {a : Act} (h : next a w) : Exit.then next Q .normal a w := h

theorem enter {f : FuncId} {fn : Func} {c : Code} {args : List Value} {R : Ending → World → Prop} {n : Nat} (hf : P.funcs[f]? = some fn) (hb : fn.body = some c) (hn : fn.ntmps = n) (hl : args.length ≤ n)
    (h : c.wp P (bodyPost P fn R) (E (fun i => args.getD i undef) n) w) : Calls P f args.toArray w R := by
  refine calls_of_wp hf hb ?_
  have : (⟨args.toArray ++ Array.replicate (fn.ntmps - args.toArray.size) undef, []⟩ : Act) = E (fun i => args.getD i undef) n := by
    unfold E
    congr 1
    subst hn
    apply Array.ext_getElem?
    intro i
    by_cases h1 : i < args.length
    · have : i < fn.ntmps := by omega
      simp [h1, this, Array.getElem?_append]
    · by_cases h2 : i < fn.ntmps
      · have e1 : args[i]? = none := by simp; omega
        have e2 : i - args.length < fn.ntmps - args.length := by omega
        simp [h1, h2, e2, Array.getElem?_append]
      · have e1 : args[i]? = none := by simp; omega
        have e2 : ¬ i - args.length < fn.ntmps - args.length := by omega
        simp [h1, h2, e2, Array.getElem?_append]
  rw [this]
  exact h

end
end Go.Proofs.YtdebnncpclodcaaDoor.X
