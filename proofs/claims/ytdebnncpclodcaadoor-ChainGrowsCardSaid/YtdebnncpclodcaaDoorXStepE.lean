/-
  Operations, regions, calls and loops over one invariant of memory. No condition beyond those that the lemmas name.
-/
import Derived.Test.YtdebnncpclodcaaDoorXStepD
set_option linter.unusedSimpArgs false
set_option linter.unusedVariables false
namespace Go.Proofs.YtdebnncpclodcaaDoor.X
open Go.RowKit Go.Proofs.YtdebnncpclodcaaDoorW.PrintLast

def resOk (P : Program) (ρ : Nat → Value) (n : Nat) (w : World) : List ResultVar → List Value → Prop
  | [], [] => True
  | .tmp t :: rs, v :: vs => opd ρ n (.tmp t) = v ∧ resOk P ρ n w rs vs
  | .cell t T :: rs, v :: vs => (∃ a, opd ρ n (.tmp t) = .pointer (some a) ∧ (loadVar T a).run P w = .ok v w) ∧ resOk P ρ n w rs vs
  | _, _ => False
def pack : List Value → Value
  | [v] => v
  | vs => .tuple vs.toArray
section
variable {P : Program} {ops : Array Oper} {rest : List Oper} {o : Oper} {Q : Exit → Act → World → Prop} {ρ : Nat → Value} {n : Nat} {w w1 : World} {v : Value} {d : Nat} {B : Base} {H : Hp} {L : List Ent}
theorem run_results {fn : Func} {rs : List ResultVar} {vs : List Value} (hr : fn.results = rs.toArray) (h : resOk P ρ n w rs vs) : (results fn (E ρ n).tmps).run P w = .ok (pack vs) w := by
  have key : ∀ (rs : List ResultVar) (vs : List Value), resOk P ρ n w rs vs →
      ((rs.mapM fun | .tmp t => pure ((E ρ n).tmps.getD t undef) | .cell a t => (do loadVar t (← asAddr ((E ρ n).tmps.getD a undef)) : Sem Value) : Sem (List Value))).run P w = .ok vs w := by
    intro rs
    induction rs with
    | nil => intro vs h; cases vs <;> simp [resOk] at h ⊢
    | cons x rs ih =>
      intro vs h
      cases vs with
      | nil => cases x <;> simp [resOk] at h
      | cons v vs =>
        rw [List.mapM_cons]
        cases x with
        | tmp t =>
          obtain ⟨h1, h2⟩ := h
          have h1' : (E ρ n).tmps.getD t undef = v := by rw [E_get]; exact h1
          simp only [Sem.run_bind, Sem.run_pure, Result.andThen_ok, ih vs h2, h1']
        | cell t T =>
          obtain ⟨⟨a, h1, h3⟩, h2⟩ := h
          have h1' : (E ρ n).tmps.getD t undef = .pointer (some a) := by rw [E_get]; exact h1
          have h4 : (asAddr (.pointer (some a)) : Sem Addr).run P w = .ok a w := by simp [asAddr]
          simp only [Sem.run_bind, h1', h4, Result.andThen_ok, h3, ih vs h2, Sem.run_pure]
  have h1 := key rs vs h
  unfold results
  rw [hr, List.mapM_toArray]
  rw [Sem.run_bind, map_eq_pure_bind, Sem.run_bind]
  erw [h1]
  simp only [Result.andThen_ok, Sem.run_pure]
  congr 1
  unfold pack
  match vs with
  | [] => simp
  | [v] => simp
  | _ :: _ :: _ => simp
theorem finR {fn : Func} {R : Ending → World → Prop} {rs : List ResultVar} {vs : List Value} (hr : fn.results = rs.toArray) (h : resOk P ρ n w rs vs) (k : R (.returned (pack vs)) w) : bodyPost P fn R .ret (E ρ n) w := ⟨rfl, _, run_results hr h, k⟩
theorem finN {fn : Func} {R : Ending → World → Prop} {rs : List ResultVar} {vs : List Value} (hr : fn.results = rs.toArray) (h : resOk P ρ n w rs vs) (k : R (.returned (pack vs)) w) : bodyPost P fn R .normal (E ρ n) w := ⟨rfl, _, run_results hr h, k⟩
theorem ld_agg {T : TypeId} {b : Nat} {cks : List Ck} {sz : Nat} (hC : CA w b 0 cks) (hT : aggB P T sz = true) (hs : Nat.beq (csz cks) sz = true) : (loadVar T ⟨b, 0 + 0, none⟩).run P w = .ok (.agg (flat cks).toArray) w := by
  have hs' := Nat.eq_of_beq_eq_true hs
  unfold aggB at hT
  cases hu : P.underlying T with
  | none => simp [hu] at hT
  | some d =>
    have hagg : (isAgg T).run P w = .ok true w := by
      unfold isAgg
      rw [Sem.run_bind, run_underlying hu w]
      cases d <;> simp_all
    cases hq : P.info? T with
    | none => simp [hq] at hT
    | some inf =>
      have hs : inf.size = (flat cks).length := by rw [flat_length]; simp [hq] at hT; omega
      have hl' : (loadCells ⟨b, 0 + 0, none⟩ (flat cks).length).run P w = .ok (flat cks).toArray w :=
        run_loadCells_list (P := P) w ⟨b, 0 + 0, none⟩ _ (fun k v hv => by rw [add_at]; have := hC k v hv; simpa using this)
      simp only [Nat.zero_add] at hl' ⊢
      simp [loadVar, Sem.run_bind, hagg, sizeOf, typeInfo, hq, hs, hl']

/-! ### Regions that draw their order -/
theorem Ent.Ok.weak {H0 : Hp} {e : Ent} (h : e.Ok w H) (hle : Hle H0 H) : e.Ok w H0 := by
  have hn : ∀ b i, H b i = none → H0 b i = none := fun b i h => by
    cases hv : H0 b i with
    | none => rfl
    | some v => rw [hle b i v hv] at h; cases h
  cases e with
  | cb b cks T => exact ⟨h.1, fun i => hn _ _ (h.2 i)⟩
  | own s e sz g =>
    cases g with
    | none => exact h
    | some g => exact ⟨h.1, h.2.1, h.2.2.1, fun i hi => hn _ _ (h.2.2.2 i hi)⟩
  | ob b o => exact ⟨h.1, fun i => hn _ _ (h.2 i)⟩
theorem Good.weak {H0 : Hp} {L0 : List Ent} (h : Good w H L) (hle : Hle H0 H) (hs : L0.Sublist L) : Good w H0 L0 :=
  ⟨fun b i v hv => h.cell b i v (hle b i v hv), fun e he => (h.ok e (hs.subset he)).weak hle, h.nd.sublist (hs.filterMap _)⟩
def keepL {α : Type} : List Bool → List α → List α
  | true :: m, a :: l => a :: keepL m l
  | false :: m, _ :: l => keepL m l
  | _, _ => []
theorem keepL_sub {α : Type} : ∀ (m : List Bool) (l : List α), (keepL m l).Sublist l
  | true :: m, a :: l => (keepL_sub m l).cons_cons a
  | false :: m, a :: l => (keepL_sub m l).cons a
  | [], l => List.nil_sublist l
  | true :: _, [] => List.nil_sublist _
  | false :: _, [] => List.nil_sublist _
theorem Good.weakm {H0 : Hp} {L0 : List Ent} (m : List Bool) (h : Good w H L) (hle : Hle H0 H) (hm : keepL m L = L0) : Good w H0 L0 := by
  subst hm; exact h.weak hle (keepL_sub m L)
theorem dstG {id : Nat} {N : Nat} {H0 : Hp} {L0 : List Ent} (ds : List Nat) (hm : P.follows .mixedOrders = true) (hn : ops.size = N) (hQ : Pan Q) (hI : Inv B w H L) (hG : Good w H0 L0)
    (h : ∀ w1, Inv B w1 H L → Pan Q → wpAnyLast P .any ops Q (fun w' => Good w' H0 L0) ds N (Array.replicate N false) (E ρ n) w1) : (Code.region id ops true).wp P Q (E ρ n) w := by
  have ha := Ag.drew M0 w
  refine start_ (S := fun w' => Good w' H0 L0) (ds := ds) _ hm hn rfl ?_ (fun _ => h w.drew (hI.ag0 ha) hQ)
  exact hG.move (M := M0) ⟨ha, Hle.refl _, fun _ _ _ _ => rfl⟩ (fun e he => .inl ⟨he, fun _ _ h => h⟩) (fun b i v hv => cell_keep ha (fun h => h) (hG.cell b i v hv)) hG.nd
variable {S : World → Prop} {ds : List Nat} {l : Array Bool} {fuel : Nat}
theorem dfc (i : Nat) {f : FuncId} (Lc Lr : List Ent) {R : Hp → Value → List Ent → Prop} {args : List Value} (hf : Fnc P f) {as : List Operand} {ts : Array TypeId} (hc : readyB .any ops l (l.setIfInBounds i true) i = true) (hi : ops[i]? = some o) (hw : wnt ops ρ n o = true) (hs : ds.contains i = false)
    (hop : o.op = .call { callee := .value (.func f), args := as.toArray, argTypes := ts }) (hd : o.dst = some d)
    (hI : Inv B w H (Lc ++ Lr)) (ha : as.map (opd ρ n) = args) (hF : Fine P f args w H Lc R)
    (h : ∀ v H' L' w', R H' v L' → Hle H H' → Inv B w' H' (L' ++ Lr) → S w' ∧ wpAnyLast P .any ops Q S ds fuel (l.setIfInBounds i true) (E (upd ρ d v) n) w') : wpAnyLast P .any ops Q S ds (fuel + 1) l (E ρ n) w := by
  refine dc i hf hc hi hw hs hop hd ?_
  rw [ha]
  exact hF.mono fun e w' ⟨v, H', L', he, hR, hG, hE, hl⟩ => ⟨v, he, h v H' L' w' hR hE.le (hI.call hG hE hl)⟩
end
end Go.Proofs.YtdebnncpclodcaaDoor.X
