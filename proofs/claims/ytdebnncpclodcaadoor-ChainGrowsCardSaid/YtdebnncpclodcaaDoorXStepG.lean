/-
  Operations, regions, calls and loops over one invariant of memory. No condition beyond those that the lemmas name.
-/
import Derived.Test.YtdebnncpclodcaaDoorXStepF
import Derived.Laws.StructEq
set_option linter.unusedSimpArgs false
set_option linter.unusedVariables false
namespace Go.Proofs.YtdebnncpclodcaaDoor.X
open Go.RowKit Go.Proofs.YtdebnncpclodcaaDoorW.PrintLast

section
variable {P : Program} {ops : Array Oper} {rest : List Oper} {o : Oper} {Q : Exit → Act → World → Prop} {ρ : Nat → Value} {n : Nat} {w w1 : World} {v : Value} {d : Nat} {B : Base} {H : Hp} {L : List Ent} {S : World → Prop} {ds : List Nat} {l : Array Bool} {fuel : Nat}

/-! ### Two effects may come up -/
def Do1 (P : Program) (ops : Array Oper) (Q : Exit → Act → World → Prop) (S : World → Prop) (ds : List Nat) (fuel : Nat) (l : Array Bool) (ρ : Nat → Value) (n : Nat) (w : World) (i : Nat) : Prop :=
  wpOp P ops Q i (fun a' w' => (i ∉ ds → S w → S w') ∧ wpAnyLast P .any ops Q S ds fuel (l.setIfInBounds i true) a' w') (E ρ n) w
theorem dtwo (i j : Nat) (hc : (Region.ready .any ops l == [i, j]) = true) (h1 : Do1 P ops Q S ds fuel l ρ n w i) (h2 : Do1 P ops Q S ds fuel l ρ n w j) : wpAnyLast P .any ops Q S ds (fuel + 1) l (E ρ n) w :=
  wpAnyLast_all (rs := [i, j]) (by simpa using hc) (by simp) (fun k hk => by
    simp at hk
    rcases hk with rfl | rfl
    · exact h1
    · exact h2)
theorem do_e {i : Nat} (hi : ops[i]? = some o) (hw : wnt ops ρ n o = true) {R : Value → World → Prop} (hr : Ef P ρ n o w R) (hd : o.dst = some d)
    (h : ∀ v w1, R v w1 → S w1 ∧ wpAnyLast P .any ops Q S ds fuel (l.setIfInBounds i true) (E (upd ρ d v) n) w1) : Do1 P ops Q S ds fuel l ρ n w i := by
  obtain ⟨v, w1, hR, hr⟩ := hr
  refine wpOp_step hi (fun K hK => ?_)
  have hw' : Region.wanted o (yielded ops (E ρ n).tmps) = true := by rw [wnt_eq]; exact hw
  rw [hd]
  refine value_ (N := some d) hw' hd (v := v) (w1 := w1) (by rw [E_eval]; exact hr) ?_
  rw [E_put]
  exact hK _ _ ⟨fun _ _ => (h v w1 hR).1, (h v w1 hR).2⟩
theorem do_fc {i : Nat} {f : FuncId} (Lc Lr : List Ent) {R : Hp → Value → List Ent → Prop} {args : List Value} (hf : Fnc P f) {as : List Operand} {ts : Array TypeId} (hi : ops[i]? = some o) (hw : wnt ops ρ n o = true)
    (hop : o.op = .call { callee := .value (.func f), args := as.toArray, argTypes := ts }) (hd : o.dst = some d)
    (hI : Inv B w H (Lc ++ Lr)) (ha : as.map (opd ρ n) = args) (hF : Fine P f args w H Lc R)
    (h : ∀ v H' L' w', R H' v L' → Hle H H' → Inv B w' H' (L' ++ Lr) → S w' ∧ wpAnyLast P .any ops Q S ds fuel (l.setIfInBounds i true) (E (upd ρ d v) n) w') : Do1 P ops Q S ds fuel l ρ n w i := by
  refine wpOp_step hi (fun K hK => ?_)
  have hw' : Region.wanted o (yielded ops (E ρ n).tmps) = true := by rw [wnt_eq]; exact hw
  rw [hd]
  refine call_ (N := some d) f args.toArray hw' hd (by rw [E_eval]; exact run_call hf hop (by rw [← ha]; simp) w) (hF.mono fun e w' hh => ?_)
  obtain ⟨v, H', L', he, hR, hG, hE, hl⟩ := hh
  refine ⟨v, he, ?_⟩
  rw [E_put]
  obtain ⟨k1, k2⟩ := h v H' L' w' hR hE.le (hI.call hG hE hl)
  exact hK _ _ ⟨fun _ _ => k1, k2⟩

/-! ### A call of a function value -/
theorem run_callv {f : FuncId} (hf : Fnc P f) {x : Operand} {as : Array Operand} {ts : Array TypeId} (hop : o.op = .call { callee := .value x, args := as, argTypes := ts }) {cap : List Value} (hx : opd ρ n x = .func (.func f) #[] cap.toArray) {args : List Value} (hargs : (as.map (opd ρ n)).toList = args) (w : World) :
    (execOp (opd ρ n) o).run P w = .ok (.enter f (args ++ cap).toArray) w := by
  obtain ⟨fn, hf, hname, hb⟩ := hf
  have he := run_enters hf hname hb (args ++ cap).toArray w
  have ha : as.map (opd ρ n) = args.toArray := by rw [← hargs]
  unfold execOp
  simp only [hop, resolve, hx, Deferred.ofValue, ha]
  simp [invoke, he]
theorem fcv {f : FuncId} (Lc Lr : List Ent) {R : Hp → Value → List Ent → Prop} {args cap : List Value} (hf : Fnc P f) {x : Operand} {as : List Operand} {ts : Array TypeId} (hw : wnt ops ρ n o = true) (hop : o.op = .call { callee := .value x, args := as.toArray, argTypes := ts }) (hd : o.dst = some d)
    (hx : opd ρ n x = .func (.func f) #[] cap.toArray) (hI : Inv B w H (Lc ++ Lr)) (ha : as.map (opd ρ n) = args) (hF : Fine P f (args ++ cap) w H Lc R)
    (h : ∀ v H' L' w', R H' v L' → Hle H H' → Inv B w' H' (L' ++ Lr) → wpList P ops Q rest (E (upd ρ d v) n) w') : wpList P ops Q (o :: rest) (E ρ n) w := by
  unfold wpList
  rw [if_pos (by rw [wnt_eq]; exact hw)]
  refine .inl ?_
  unfold Oper.wp
  rw [E_eval, run_callv hf hop hx (args := args) (by rw [← ha]; simp) w, Oper.upon_enter, hd]
  refine hF.mono fun e w' hh => ?_
  obtain ⟨v, H', L', rfl, hR, hG, hE, hl⟩ := hh
  show wpList P ops Q rest ((E ρ n).put (some d) v) w'
  rw [E_put]
  exact h v H' L' w' hR hE.le (hI.call hG hE hl)
theorem r_mkf {f : Fn} {x : Operand} {u : Value} (ho : o.op = .makeFunc f #[] #[x]) (hx : opd ρ n x = u) : Rn P ρ n o w (.func f #[] #[u]) w := by
  unfold Rn execOp; simp [ho, hx, Instr.makeFunc]

/-! ### Structs against one another -/
theorem part_ck {T off p m sz : Nat} {cks sub : List Ck} (hT : aggB P T sz = true) (hp : atB cks off p m sz = true) (hc : (cks.drop p).take m = sub) : (part T (flat cks).toArray off).run P w = .ok (.agg (flat sub).toArray) w := by
  subst hc
  unfold aggB at hT
  cases hu : P.underlying T with
  | none => simp [hu] at hT
  | some dd =>
    have hagg : (isAgg T).run P w = .ok true w := by
      unfold isAgg
      rw [Sem.run_bind, run_underlying hu w]
      cases dd <;> simp_all
    cases hq : P.info? T with
    | none => simp [hq] at hT
    | some inf =>
      have hs : inf.size = sz := by simp [hq] at hT; omega
      obtain ⟨h1, h2⟩ := atB_spec hp
      have he : List.take sz (List.drop off (flat cks)) = flat ((cks.drop p).take m) := by
        have hsp := flat_split cks p m
        rw [hsp, drop_app (k := 0) (flat_length _) (by rw [h1]; rfl), List.drop_zero, List.take_append_of_le_length (by rw [flat_length, h2]; exact Nat.le_refl _), List.take_of_length_le (by rw [flat_length, h2]; exact Nat.le_refl _)]
      simp [part, Sem.run_bind, hagg, sizeOf, typeInfo, hq, hs, he]
theorem part_c1 {T off p : Nat} {cks : List Ck} {h1 : v.oneCell' = true} (hT : scalB P T = true) (hp : atB cks off p 1 1 = true) (hc : cks[p]? = some (Ck.one v h1)) : (part T (flat cks).toArray off).run P w = .ok v w := by
  have h2 := flat_at hp 0 (by omega)
  have hd : (cks.drop p).take 1 = [Ck.one v h1] := by
    rw [List.getElem?_eq_some_iff] at hc
    obtain ⟨hl, hc⟩ := hc
    rw [List.drop_eq_getElem_cons hl, hc]; rfl
  rw [hd, Nat.add_zero] at h2
  have hv : (flat cks)[off]? = some v := by rw [h2]; rfl
  unfold scalB at hT
  cases hu : P.underlying T with
  | none => simp [hu] at hT
  | some dd =>
    have hagg : (isAgg T).run P w = .ok false w := by
      unfold isAgg
      rw [Sem.run_bind, run_underlying hu w]
      cases dd <;> simp_all
    simp [part, Sem.run_bind, hagg, hv]
/-- Values of type T that a and b have are equal just if a and b are. -/
def EqT {α : Type} [DecidableEq α] (P : Program) (T k : Nat) (f : α → Value) : Prop := ∀ (d : Nat) (a b : α) (w : World), (Op.equalIn (d + k) T (f a) (f b)).run P w = .ok (decide (a = b)) w
theorem EqT.int {T : Nat} (h : P.underlying T = some (.int .i64)) : EqT P T 1 (fun z : Int => .int .i64 z) := by
  intro d a b w
  simp [Op.equalIn, run_underlying h]
  by_cases hab : a = b <;> simp [hab]
theorem EqT.dg {T e m : Nat} (h : barr P T e m = true) : EqT P T 2 (fun z : Vec UInt8 m => .agg (flat [ckV flB z]).toArray) := by
  intro d a b w
  simp only [ckV_b]
  unfold barr at h
  simp only [Bool.and_eq_true] at h
  obtain ⟨⟨⟨h1, h2⟩, h3⟩, _⟩ := h
  cases hu : P.underlying T with
  | none => simp [hu] at h1
  | some dd =>
    cases dd <;> simp [hu] at h1
    obtain ⟨rfl, rfl⟩ := h1
    rename_i m e
    cases he : P.underlying e with
    | none => simp [he] at h2
    | some de =>
      cases de with
      | int k =>
        cases k <;> simp [he] at h2
        obtain ⟨i, hi⟩ : ∃ i, P.info? e = some i := by
          unfold Program.cellsOf at h3
          cases hi : P.info? e with
          | none => simp [hi] at h3
          | some i => exact ⟨i, rfl⟩
        have h3' : P.cellsOf e = 1 := by simpa using h3
        rw [run_equalIn_array (P := P) w (d + 1) (bvs a.l).toArray (bvs b.l).toArray hu hi, h3', run_eqItems_b he a.l b.l d (List.range m) (fun i hi => by rw [a.h, b.h]; have := List.mem_range.1 hi; exact ⟨this, this⟩)]
        congr 1
        have : (∀ i ∈ List.range m, a.l[i]? = b.l[i]?) ↔ a = b := by
          constructor
          · intro h
            refine Vec.ext' (List.ext_getElem? fun i => ?_)
            by_cases him : i < m
            · exact h i (List.mem_range.2 him)
            · rw [List.getElem?_eq_none (by rw [a.h]; omega), List.getElem?_eq_none (by rw [b.h]; omega)]
          · rintro rfl i _; rfl
        simp only [this]
      | _ => simp [he] at h2
/-- Fields: type, place. -/
inductive EqL (P : Program) (w : World) (d : Nat) (xs ys : Array Value) : List (TypeId × Nat) → Bool → Prop
  | nil : EqL P w d xs ys [] true
  | cons {T off : Nat} {a b : Value} {r s : Bool} {l : List (TypeId × Nat)} (ha : (part T xs off).run P w = .ok a w) (hb : (part T ys off).run P w = .ok b w) (he : (Op.equalIn d T a b).run P w = .ok r w) (h : EqL P w d xs ys l s) : EqL P w d xs ys ((T, off) :: l) (r && s)
theorem EqL.run {d : Nat} {xs ys : Array Value} : ∀ {fs : List Field} {l : List (TypeId × Nat)} {r : Bool}, EqL P w d xs ys l r → fs.map (fun f => (f.type, f.offset)) = l → (fs.all fun f => f.name != "_") = true → (Op.eqFields d xs ys fs).run P w = .ok r w
  | [], _, _, .nil, _, _ => by simp [Op.eqFields]
  | [], _, _, .cons _ _ _ _, h, _ => by simp at h
  | f :: fs, _, _, .nil, h, _ => by simp at h
  | f :: fs, _, _, .cons (r := r) (s := s) ha hb he h, hl, hn => by
    simp only [List.map_cons, List.cons.injEq, Prod.mk.injEq] at hl
    obtain ⟨⟨rfl, rfl⟩, hl⟩ := hl
    simp only [List.all_cons, Bool.and_eq_true, bne_iff_ne, ne_eq] at hn
    have ih := EqL.run h hl (by simpa using hn.2)
    simp only [Op.eqFields, hn.1, ne_eq, not_false_eq_true, if_true, Sem.run_bind, ha, hb, he, Result.andThen_ok]
    cases r
    · simp
    · simp [ih]
def structB (P : Program) (T : Nat) (l : List (TypeId × Nat)) : Bool := (match P.underlying T with | some (.struct fs) => (fs.toList.map (fun f => (f.type, f.offset)) == l) && (fs.toList.all fun f => f.name != "_") | _ => false) && (P.stoodInHeld T == false) && (P.eqGuardType P.depth T == false)
theorem EqL.eq {T d : Nat} {xs ys : Array Value} {l : List (TypeId × Nat)} {r : Bool} (h : EqL P w d xs ys l r) (hT : structB P T l = true) : (Op.equalIn (d + 1) T (.agg xs) (.agg ys)).run P w = .ok r w := by
  unfold structB at hT
  simp only [Bool.and_eq_true] at hT
  obtain ⟨⟨h1, h2⟩, h3⟩ := hT
  cases hu : P.underlying T with
  | none => simp [hu] at h1
  | some dd =>
    cases dd <;> simp [hu] at h1
    rename_i fs
    have hfs : P.fieldsOf T = fs := by simp [Program.fieldsOf, hu]
    rw [run_equalIn_struct w d T xs ys (by rw [hfs]; exact hu) (by simpa using h2), hfs]
    exact h.run h1.1 (by simpa using h1.2)
theorem r_neT {α : Type} [DecidableEq α] {T U k : Nat} {f : α → Value} {c : α → List Ck} {x y : Operand} {a b : α} {l : List (TypeId × Nat)} (hE : EqT P T k f) (hk : Nat.ble k 10000 = true) (hT : structB P T l = true) (hf : ∀ a, f a = .agg (flat (c a)).toArray) (ho : o.op = .binOp .neq T x y U) (hx : opd ρ n x = .agg (flat (c a)).toArray) (hy : opd ρ n y = .agg (flat (c b)).toArray) : Rn P ρ n o w (.bool (!decide (a = b))) w := by
  have hr := hE (10000 - k) a b w
  rw [Nat.sub_add_cancel (by simpa [Nat.ble_eq] using hk), hf, hf] at hr
  have hg : P.eqGuardType P.depth T = false := by unfold structB at hT; simp only [Bool.and_eq_true] at hT; simpa using hT.2
  have hr' : (Op.equal T (.agg (flat (c a)).toArray) (.agg (flat (c b)).toArray)).run P w = .ok (decide (a = b)) w := hr
  unfold Rn execOp
  simp [ho, hx, hy, eqGuard, binOp, hr', hg]

/-! ### Arrays that are values -/
theorem r_bldv {α : Type} {f : Fl α} {m T e : Nat} {parts : List (Nat × Operand)} {vs : List Value} {xs : List α} {zs : List Value} {hx : xs.length = m} (ho : o.op = .build T parts.toArray) (hz : Zer P T zs) (hzl : Nat.beq zs.length (m * f.sz) = true) (hA : arrB P T m e f.sz = true)
    (h1 : parts.map (·.1) = List.range' 0 m) (h2 : parts.map (fun p => opd ρ n p.2) = vs) (h3 : vs.map (·.cells.toList) = xs.map (fun x => flat (f.c x))) : Rn P ρ n o w (.agg (flat [ckV f ⟨xs, hx⟩]).toArray) w := by
  obtain ⟨z, hr, hc⟩ := hz.run w
  obtain ⟨hu, inf, hq, hs⟩ := arrB_spec hA
  have hzl' := Nat.eq_of_beq_eq_true hzl
  have hpl : parts.length = m := by have := congrArg List.length h1; simpa using this
  have hfill := fill_list f.sz (xs.map fun x => flat (f.c x)) 0 [] zs (fun c hc => by obtain ⟨x, _, rfl⟩ := List.mem_map.1 hc; rw [flat_length, f.h]) (by simp) (by rw [hzl', List.length_map, hx]) (parts.map fun p => (p.1, opd ρ n p.2)) (by rw [List.length_map, hx, ← h1, List.map_map]; rfl) (by rw [← h3, ← h2, List.map_map, List.map_map]; rfl)
  simp only [List.nil_append] at hfill
  have hfl : (xs.map fun x => flat (f.c x)).flatten = flat [ckV f ⟨xs, hx⟩] := by
    show _ = (xs.flatMap fun a => flat (f.c a)) ++ []
    rw [List.append_nil, List.flatMap_def]
  have hmap : parts.toArray.map (fun x => (x.1, opd ρ n x.2)) = (parts.map fun p => (p.1, opd ρ n p.2)).toArray := by simp
  unfold Rn execOp
  rw [ho]
  simp only []
  rw [show (fun (x : Nat × Operand) => match x with | (i, x) => (i, opd ρ n x)) = fun x => (x.1, opd ρ n x.2) from rfl, hmap]
  simp [Instr.build, hr, hc, run_underlying hu, sizeOf, typeInfo, hq, hs, hfill, hfl]
theorem r_ixv1 {α : Type} {f : Fl α} {m T e : Nat} {vv : Vec α m} {x y : Operand} {i : Nat} {z : Int} {a : α} {h1 : v.oneCell' = true} (ho : o.op = .index T x y) (hA : arrB P T m e f.sz = true) (hS : scalB P e = true) (hx : opd ρ n x = .agg (flat [ckV f vv]).toArray) (hy : opd ρ n y = .int .i64 z) (hz : z = (i : Int)) (hi : vv.l[i]? = some a) (hc : f.c a = [Ck.one v h1]) : Rn P ρ n o w v w := by
  subst hz
  obtain ⟨hu, inf, hq, hs⟩ := arrB_spec hA
  have hsz : f.sz = 1 := by have := f.h a; rw [hc] at this; exact this.symm
  have hlt := Vec.lt hi
  have hv : (flat [ckV f vv])[i * f.sz]? = some v := by
    have := flatMap_flat_at f vv.l i a hi 0 (by omega)
    rw [Nat.add_zero] at this
    show ((vv.l.flatMap fun a => flat (f.c a)) ++ [])[i * f.sz]? = some v
    rw [List.append_nil, this, hc]; rfl
  have hpart : (part e (flat [ckV f vv]).toArray (i * f.sz)).run P w = .ok v w := by
    unfold scalB at hS
    cases hu : P.underlying e with
    | none => simp [hu] at hS
    | some dd =>
      have hagg : (isAgg e).run P w = .ok false w := by
        unfold isAgg
        rw [Sem.run_bind, run_underlying hu w]
        cases dd <;> simp_all
      simp [part, Sem.run_bind, hagg, hv]
  unfold Rn execOp
  simp [ho, hx, hy, Instr.index, asIntOf, run_underlying hu, hlt, sizeOf, typeInfo, hq, hs, hpart]
end
end Go.Proofs.YtdebnncpclodcaaDoor.X
