/-
  Loops, jumps, results, literals of structs. No condition beyond those that the lemmas name.
-/
import Derived.Test.YtdebnncpclodcaaDoorXDraw
namespace Go.Proofs.YtdebnncpclodcaaDoor.X
open Go.RowKit Go.Proofs.YtdebnncpclodcaaDoorW.PrintLast

section
variable {P : Program} {ops : Array Oper} {rest : List Oper} {o : Oper} {Q : Exit → Act → World → Prop} {ρ : Nat → Value} {n : Nat} {w w1 : World} {v : Value} {d : Nat}

/-- A loop: s the state that its relation speaks of. -/
theorem wloop {σ : Type} {c : Code} (I : σ → (Nat → Value) → World → Prop) (μ : σ → Nat) (s0 : σ) (h0 : I s0 ρ w)
    (round : ∀ s ρ w, I s ρ w → c.wp P (Exit.then (fun a' w' => ∃ s' ρ', a' = E ρ' n ∧ I s' ρ' w' ∧ μ s' < μ s) Q) (E ρ n) w) : (Code.loop c).wp P Q (E ρ n) w := by
  have key : ∀ (a : Act) (w : World), (∃ s ρ, a = E ρ n ∧ I s ρ w) → ∃ k, (∃ s ρ, a = E ρ n ∧ I s ρ w ∧ μ s = k) ∧ ∀ s ρ, a = E ρ n → I s ρ w → k ≤ μ s := by
    rintro a w ⟨s, ρ, ha, hI⟩
    generalize hk : μ s = k
    induction k using Nat.strongRecOn generalizing s ρ with
    | _ k ih =>
      by_cases h : ∃ s' ρ', a = E ρ' n ∧ I s' ρ' w ∧ μ s' < k
      · obtain ⟨s', ρ', h1, h2, h3⟩ := h
        exact ih _ h3 s' ρ' h1 h2 rfl
      · exact ⟨k, ⟨s, ρ, ha, hI, hk⟩, fun s' ρ' h1 h2 => Nat.le_of_not_lt (fun h3 => h ⟨s', ρ', h1, h2, h3⟩)⟩
  let m : Act → World → Nat := fun a w => @dite _ (∃ s ρ, a = E ρ n ∧ I s ρ w) (Classical.propDecidable _) (fun h => Classical.choose (key a w h)) (fun _ => 0)
  have hm : ∀ a w (h : ∃ s ρ, a = E ρ n ∧ I s ρ w), (∃ s ρ, a = E ρ n ∧ I s ρ w ∧ μ s = m a w) ∧ ∀ s ρ, a = E ρ n → I s ρ w → m a w ≤ μ s := by
    intro a w h
    have : m a w = Classical.choose (key a w h) := by simp only [m]; rw [dif_pos h]
    rw [this]
    exact Classical.choose_spec (key a w h)
  refine wp_loop (fun a w => ∃ s ρ, a = E ρ n ∧ I s ρ w) m ⟨s0, ρ, rfl, h0⟩ ?_
  rintro a w hk
  obtain ⟨s, ρ, rfl, hI, hmu⟩ := (hm a w hk).1
  refine wp_mono (round s ρ w hI) ?_
  intro e a' w' h
  cases e with
  | normal =>
    obtain ⟨s', ρ', rfl, hI', hlt⟩ := h
    have hk' : ∃ s ρ, E ρ' n = E ρ n ∧ I s ρ w' := ⟨s', ρ', rfl, hI'⟩
    refine ⟨hk', ?_⟩
    have := (hm _ _ hk').2 s' ρ' rfl hI'
    omega
  | exit id => exact h
  | goto l => exact h
  | ret => exact h
  | panic c => exact h
  | outgrown => exact h

/-! ### Pointers against nil -/
theorem eqIn_ptr {T : TypeId} {e : TypeId} (hT : P.underlying T = some (.pointer e)) (k : Nat) (a b : Option Addr) (h : a = none ∨ b = none) : (Op.equalIn (k + 1) T (.pointer a) (.pointer b)).run P w = .ok (a == b) w := by
  rcases h with rfl | rfl
  · cases b <;> simp [Op.equalIn, run_underlying hT]
  · cases a <;> simp [Op.equalIn, run_underlying hT]
theorem eq_ptr {T : TypeId} {e : TypeId} (hT : P.underlying T = some (.pointer e)) (a b : Option Addr) (h : a = none ∨ b = none) : (Op.equal T (.pointer a) (.pointer b)).run P w = .ok (a == b) w :=
  eqIn_ptr hT 9999 a b h
theorem r_pn {T u e : TypeId} {x y : Operand} {a : Addr} (ho : o.op = .binOp .eql T x y u) (hT : P.underlying T = some (.pointer e)) (hx : opd ρ n x = .pointer (some a)) (hy : opd ρ n y = .pointer none) : Rn P ρ n o w (.bool false) w := by
  have := eq_ptr (w := w) hT (some a) none (.inr rfl)
  unfold Rn execOp; simp [ho, hx, hy, eqGuard, binOp, this]
/-! ### Numbers of other kinds -/
theorem r_cvi {S T : TypeId} {k0 k k' : IntKind} {x : Operand} {a : Int} (ho : o.op = .convert S T x) (hS : P.underlying S = some (.int k0)) (hT : P.underlying T = some (.int k')) (hx : opd ρ n x = .int k a) : Rn P ρ n o w (.int k' (k'.wrap a)) w := by
  unfold Rn execOp
  simp [ho, hx, convert, run_underlying hS, run_underlying hT, Conv.intToInt]

/-! ### Literals -/
/-- A struct's fields: where each lies, and how many cells it has. -/
def BldF (P : Program) (T : TypeId) (pl : List (Nat × Nat)) : Prop :=
  (match P.underlying T with | some (.struct fs) => some (fs.toList.map fun (f : Field) => (some f.offset, (P.info? f.type).map (·.size))) | _ => none) = some (pl.map fun x => (some x.1, some x.2))
theorem BldF.run {T : TypeId} {pl : List (Nat × Nat)} (h : BldF P T pl) : ∃ fs, P.underlying T = some (.struct fs) ∧ ∀ w : World, ((fs.mapM fun (f : Field) => (do pure (f.offset, ← sizeOf f.type) : Sem (Nat × Nat))) : Sem (Array (Nat × Nat))).run P w = .ok pl.toArray w := by
  unfold BldF at h
  cases hu : P.underlying T with
  | none => simp [hu] at h
  | some d =>
    cases d <;> simp [hu] at h
    rename_i fs
    refine ⟨fs, rfl, fun w => ?_⟩
    obtain ⟨l, rfl⟩ : ∃ l : List Field, fs = l.toArray := ⟨fs.toList, by simp⟩
    have : ∀ (l : List Field) (pl : List (Nat × Nat)), (l.map fun (f : Field) => (some f.offset, (P.info? f.type).map (·.size))) = (pl.map fun x => (some x.1, some x.2)) →
        ((l.mapM fun (f : Field) => (do pure (f.offset, ← sizeOf f.type) : Sem (Nat × Nat))) : Sem (List (Nat × Nat))).run P w = .ok pl w := by
      intro l
      induction l with
      | nil => intro pl hp; cases pl <;> simp at hp; simp
      | cons f l ih =>
        intro pl hp
        cases pl with
        | nil => simp at hp
        | cons x pl =>
          simp only [List.map_cons, List.cons.injEq, Prod.mk.injEq] at hp
          obtain ⟨⟨h1, h2⟩, h3⟩ := hp
          have h1 := Option.some.inj h1
          cases hi : P.info? f.type with
          | none => simp [hi] at h2
          | some i =>
            have h2 : i.size = x.2 := by simpa [hi] using h2
            have hf : (do pure (f.offset, ← sizeOf f.type) : Sem (Nat × Nat)).run P w = .ok x w := by
              simp [sizeOf, typeInfo, hi, h1, h2]
            rw [List.mapM_cons, Sem.run_bind, hf, Result.andThen_ok, Sem.run_bind, ih pl h3]
            rfl
    have h' := this l pl (by simpa using h)
    rw [List.mapM_toArray]
    show ((_ <$> _ : Sem _)).run P w = _
    rw [map_eq_pure_bind, Sem.run_bind, h']
    rfl
theorem r_bld {T : TypeId} {zs cs : List Value} {pl : List (Nat × Nat)} {parts : List (Nat × Operand)} {vs : List (Nat × Value)} (ho : o.op = .build T parts.toArray) (hz : Zer P T zs) (hF : BldF P T pl) (hv : parts.map (fun x => (x.1, opd ρ n x.2)) = vs)
    (hf : Instr.fill (fun i => pl[i]?) zs.toArray vs = some cs.toArray) : Rn P ρ n o w (.agg cs.toArray) w := by
  obtain ⟨z, hr, hc⟩ := hz.run w
  obtain ⟨fs, hu, hm⟩ := hF.run
  unfold Rn execOp
  subst hv
  have hm' := hm w
  simp only [bind_pure_comp] at hm'
  simp [ho, Instr.build, hr, hc, run_underlying hu, hm', hf]
theorem r_bza {T e sz m : Nat} {zs : List Value} (ho : o.op = .build T #[]) (hz : Zer P T zs) (hT : arrB P T m e sz = true) : Rn P ρ n o w (.agg zs.toArray) w := by
  obtain ⟨z, hr, hc⟩ := hz.run w
  obtain ⟨hu, inf, hq, hs⟩ := arrB_spec hT
  unfold Rn execOp
  simp [ho, Instr.build, hr, hc, run_underlying hu, sizeOf, typeInfo, hq, Instr.fill]
end
end Go.Proofs.YtdebnncpclodcaaDoor.X
