/-
  Operations, regions, calls and loops over one invariant of memory. No condition beyond those that the lemmas name.
-/
import Derived.Test.YtdebnncpclodcaaDoorXStepC
import Derived.Laws.BytesString
import Derived.Laws.Strings
set_option linter.unusedSimpArgs false
set_option linter.unusedVariables false
namespace Go.Proofs.YtdebnncpclodcaaDoor.X
open Go.RowKit

def Sv.cut (s : Sv) (lo hi sz : Nat) : Sv := ⟨if s.c = lo then s.a else s.a.map (·.add (lo * sz)), hi - lo, s.c - lo⟩
theorem Sl.cutI {α : Type} {t : Ty α} {H : Hp} {s s' : Sv} {xs ys : List α} {lo hi : Int} (h : Sl t H s xs) (hc : Go.Proofs.YtdebnncpclodcaaDoor.X.cutI xs lo hi = some ys) (he : s' = s.cut lo.toNat hi.toNat t.sz) : Sl t H s' ys := by
  obtain ⟨h1, h2, h3, rfl⟩ := cutI_some hc
  subst he
  exact h.cut (by omega) (by omega) _ rfl
section
variable {P : Program} {ops : Array Oper} {rest : List Oper} {o : Oper} {Q : Exit → Act → World → Prop} {ρ : Nat → Value} {n : Nat} {w w1 : World} {v : Value} {d : Nat} {B : Base} {H : Hp} {L : List Ent}
theorem sliceB_elem {T e sz : Nat} (h : sliceB P T e sz = true) : P.underlying T = some (.slice (P.elem T)) ∧ P.elem T = e ∧ ∀ w, (sizeOf e).run P w = .ok sz w := by
  obtain ⟨hu, inf, hq, hs⟩ := sliceB_spec h
  have he : P.elem T = e := by simp [Program.elem, hu]
  exact ⟨by rw [he]; exact hu, he, fun w => by simp [sizeOf, typeInfo, hq, hs]⟩
theorem s_sll {α : Type} {t : Ty α} {T e : Nat} {x y : Operand} {s s' : Sv} {xs ys : List α} {lo : Int} (ho : o.op = .slice T x (some y) none none) (hT : sliceB P T e t.sz = true) (hx : opd ρ n x = s.v) (hy : opd ρ n y = .int .i64 lo) (hs : Sl t H s xs) (hc : Go.Proofs.YtdebnncpclodcaaDoor.X.cutI xs lo xs.length = some ys) (he : s' = s.cut lo.toNat s.n t.sz) : Rn P ρ n o w s'.v w := by
  obtain ⟨h1, h2, _, _⟩ := cutI_some hc
  obtain ⟨hu, _, hz⟩ := sliceB_elem hT
  obtain ⟨hu', _⟩ := sliceB_spec hT
  have hn := hs.n
  subst he
  unfold Rn execOp
  simp [ho, hx, hy, Sv.v, Sv.cut, Instr.sliceAt, run_underlying hu', Instr.slice, Instr.sliceBounds, run_sliceBound, h1, hz, (show lo ≤ (s.n : Int) by omega)]
/-- xs[:0:0]: nothing, and no room. -/
def Sv.zz (s : Sv) : Sv := ⟨if 0 = 0 then s.a else s.a, 0, 0⟩
theorem Sl.zz {α : Type} {t : Ty α} {s : Sv} : Sl t H ⟨s.a, 0, 0⟩ [] := ⟨rfl, Nat.le_refl _, Nat.zero_le _, fun i x hx => by simp at hx⟩
theorem s_slzz {T e sz : Nat} {x y z : Operand} {s : Sv} (ho : o.op = .slice T x none (some y) (some z)) (hT : sliceB P T e sz = true) (hx : opd ρ n x = s.v) (hy : opd ρ n y = .int .i64 0) (hz : opd ρ n z = .int .i64 0) : Rn P ρ n o w (Sv.mk s.a 0 0).v w := by
  obtain ⟨hu, _, hsz⟩ := sliceB_elem hT
  obtain ⟨hu', _⟩ := sliceB_spec hT
  unfold Rn execOp
  simp [ho, hx, hy, hz, Sv.v, Instr.sliceAt, run_underlying hu', Instr.slice, Instr.sliceBounds, run_sliceBound, hsz]
/-- A slice that is full may be appended to as if it were one's own. -/
theorem Inv.full (hI : Inv B w H L) {s : Sv} {e sz : Nat} (h : s.n = s.c) : Inv B w H (L ++ [.own s e sz none]) :=
  hI.new _ (Ag.refl _ _) h (fun b hb => by cases hb)
/-! ### Digests against one another -/
def barr (P : Program) (T e n : Nat) : Bool := (match P.underlying T with | some (.array m e') => m == n && e' == e | _ => false) && (match P.underlying e with | some (.int .u8) => true | _ => false) && (P.cellsOf e == 1) && (!P.eqGuardType P.depth T)
theorem run_eqItems_b {e : TypeId} (he : P.underlying e = some (.int .u8)) (xs ys : List UInt8) (d : Nat) : ∀ (is : List Nat), (∀ i ∈ is, i < xs.length ∧ i < ys.length) → (Op.eqItems (d + 1) e 1 (bvs xs).toArray (bvs ys).toArray is).run P w = .ok (decide (∀ i ∈ is, xs[i]? = ys[i]?)) w
  | [], _ => by simp [Op.eqItems]
  | i :: is, h => by
    obtain ⟨h1, h2⟩ := h i (by simp)
    have ih := run_eqItems_b he xs ys d is (fun j hj => h j (by simp [hj]))
    have hp : ∀ (zs : List UInt8) (hz : i < zs.length), (part e (bvs zs).toArray (i * 1)).run P w = .ok (bv zs[i]) w := by
      intro zs hz
      have hagg : (isAgg e).run P w = .ok false w := by
        unfold isAgg
        rw [Sem.run_bind, run_underlying he w]; simp
      simp [part, hagg, bvs, hz]
    have hq : (Op.equalIn (d + 1) e (bv xs[i]) (bv ys[i])).run P w = .ok (decide (xs[i] = ys[i])) w := by
      simp only [Op.equalIn, bv, Sem.run_bind, run_underlying he, Result.andThen_ok]
      by_cases hxy : xs[i] = ys[i]
      · simp [hxy]
      · have : xs[i].toNat ≠ ys[i].toNat := fun h => hxy (UInt8.toNat_inj.1 h)
        have h4 : ¬ ((xs[i].toNat : Int) = (ys[i].toNat : Int)) := by omega
        simp [hxy, h4]
    simp only [Op.eqItems, Sem.run_bind, hp xs h1, hp ys h2, hq, Result.andThen_ok]
    by_cases hxy : xs[i] = ys[i]
    · simp only [hxy, decide_true, Bool.not_true, Bool.false_eq_true, if_false, ih]
      congr 1
      simp [h1, h2, hxy]
    · simp only [hxy, decide_false, Bool.not_false, if_true]
      simp [h1, h2, hxy]
theorem run_eqb {T e m : Nat} (h : barr P T e m = true) (xs ys : Vec UInt8 m) : (Op.equal T (.agg (bvs xs.l).toArray) (.agg (bvs ys.l).toArray)).run P w = .ok (decide (xs = ys)) w := by
  unfold barr at h
  simp only [Bool.and_eq_true] at h
  obtain ⟨⟨⟨h1, h2⟩, h3⟩, _⟩ := h
  cases hu : P.underlying T with
  | none => simp [hu] at h1
  | some dd =>
    cases dd <;> simp [hu] at h1
    obtain ⟨rfl, rfl⟩ := h1
    rename_i m e
    cases he : P.underlying e with
    | none => simp [he] at h2
    | some de =>
      cases de with
      | int k =>
        cases k <;> simp [he] at h2
        obtain ⟨i, hi⟩ : ∃ i, P.info? e = some i := by
          unfold Program.cellsOf at h3
          cases hi : P.info? e with
          | none => simp [hi] at h3
          | some i => exact ⟨i, rfl⟩
        have h3' : P.cellsOf e = 1 := by simpa using h3
        have hr := run_equalIn_array (P := P) w 9999 (bvs xs.l).toArray (bvs ys.l).toArray hu hi
        show (Op.equalIn 10000 T _ _).run P w = _
        rw [hr, h3', run_eqItems_b he xs.l ys.l 9998 (List.range m) (fun i hi => by rw [xs.h, ys.h]; have := List.mem_range.1 hi; exact ⟨this, this⟩)]
        congr 1
        have : (∀ i ∈ List.range m, xs.l[i]? = ys.l[i]?) ↔ xs = ys := by
          constructor
          · intro h
            refine Vec.ext' (List.ext_getElem? fun i => ?_)
            by_cases him : i < m
            · exact h i (List.mem_range.2 him)
            · rw [List.getElem?_eq_none (by rw [xs.h]; omega), List.getElem?_eq_none (by rw [ys.h]; omega)]
          · rintro rfl i _; rfl
        simp only [this]
      | _ => simp [he] at h2
theorem ckV_b {m : Nat} (x : Vec UInt8 m) : flat [ckV flB x] = bvs x.l := by
  show (x.l.flatMap fun a => [bv a]) ++ [] = _
  rw [List.append_nil, bvs]
  induction x.l with
  | nil => rfl
  | cons a l ih => simp [ih]
theorem r_eqb {T e m U : Nat} {x y : Operand} {a b : Vec UInt8 m} (ho : o.op = .binOp .eql T x y U) (h : barr P T e m = true) (hx : opd ρ n x = .agg (flat [ckV flB a]).toArray) (hy : opd ρ n y = .agg (flat [ckV flB b]).toArray) : Rn P ρ n o w (.bool (decide (a = b))) w := by
  have hr := run_eqb (w := w) h a b
  have hg : P.eqGuardType P.depth T = false := by unfold barr at h; simp only [Bool.and_eq_true] at h; simpa using h.2
  rw [ckV_b] at hx hy
  unfold Rn execOp
  simp [ho, hx, hy, eqGuard, binOp, hr, hg]
theorem r_neb {T e m U : Nat} {x y : Operand} {a b : Vec UInt8 m} (ho : o.op = .binOp .neq T x y U) (h : barr P T e m = true) (hx : opd ρ n x = .agg (flat [ckV flB a]).toArray) (hy : opd ρ n y = .agg (flat [ckV flB b]).toArray) : Rn P ρ n o w (.bool (!decide (a = b))) w := by
  have hr := run_eqb (w := w) h a b
  have hg : P.eqGuardType P.depth T = false := by unfold barr at h; simp only [Bool.and_eq_true] at h; simpa using h.2
  rw [ckV_b] at hx hy
  unfold Rn execOp
  simp [ho, hx, hy, eqGuard, binOp, hr, hg]

/-! ### A struct is built -/
/-- The fields' places and sizes. -/
def plOf : Nat → List (List Ck) → List (Nat × Nat)
  | _, [] => []
  | off, f :: fs => (off, csz f) :: plOf (off + csz f) fs
def setAll (z : List (List Ck)) : List (Nat × List Ck) → List (List Ck)
  | [] => z
  | (i, c) :: r => setAll (z.set i c) r
def fitB (z : List (List Ck)) : List (Nat × List Ck) → Bool
  | [] => true
  | (i, c) :: r => (match z[i]? with | some f => Nat.beq (csz f) (csz c) | none => false) && fitB z r
theorem plOf_get : ∀ (z : List (List Ck)) (off i : Nat) (f : List Ck), z[i]? = some f → (plOf off z)[i]? = some (off + csz (z.take i).flatten, csz f)
  | [], _, i, f, h => by simp at h
  | g :: z, off, 0, f, h => by simp at h; subst h; simp [plOf, csz]
  | g :: z, off, i + 1, f, h => by
    simp at h
    have := plOf_get z (off + csz g) i f h
    simp only [plOf, List.getElem?_cons_succ, this, List.take_succ_cons, List.flatten_cons, csz_append]
    congr 2; omega
theorem foldl_zip (off : Nat) : ∀ (c : List Value) (k : Nat) (A : List Value), off + k + c.length ≤ A.length → (c.zipIdx k).foldl (fun (cs : Array Value) (x : Value × Nat) => cs.setIfInBounds (off + x.2) x.1) A.toArray = (A.take (off + k) ++ c ++ A.drop (off + k + c.length)).toArray
  | [], k, A, _ => by simp
  | x :: c, k, A, hA => by
    simp only [List.length_cons] at hA
    simp only [List.zipIdx_cons, List.foldl_cons]
    rw [List.setIfInBounds_toArray, foldl_zip off c (k + 1) _ (by rw [List.length_set]; omega)]
    congr 1
    have hlt : off + k < A.length := by omega
    rw [← Nat.add_assoc, List.take_set, List.drop_set]
    have e1 : (A.take (off + k + 1)).set (off + k) x = A.take (off + k) ++ [x] := by
      rw [List.take_succ_eq_append_getElem hlt, List.set_append, List.length_take, Nat.min_eq_left (Nat.le_of_lt hlt), if_neg (by omega), Nat.sub_self]
      rfl
    rw [e1, if_pos (by omega), List.length_cons]
    rw [show off + k + 1 + c.length = off + k + (c.length + 1) from by omega]
    simp
theorem flatten_set : ∀ (z : List (List Ck)) (i : Nat) (f c : List Ck), z[i]? = some f → flat (z.set i c).flatten = flat (z.take i).flatten ++ flat c ++ flat (z.drop (i + 1)).flatten
  | [], i, f, c, h => by simp at h
  | g :: z, 0, f, c, h => by simp [flat_append, flat]
  | g :: z, i + 1, f, c, h => by
    simp at h
    simp only [List.set_cons_succ, List.flatten_cons, flat_append, List.take_succ_cons, List.drop_succ_cons, flatten_set z i f c h, List.append_assoc]
theorem flatten_get : ∀ (z : List (List Ck)) (i : Nat) (f : List Ck), z[i]? = some f → flat z.flatten = flat (z.take i).flatten ++ flat f ++ flat (z.drop (i + 1)).flatten
  | [], i, f, h => by simp at h
  | g :: z, 0, f, h => by simp at h; subst h; simp [flat_append, flat]
  | g :: z, i + 1, f, h => by
    simp at h
    simp only [List.flatten_cons, flat_append, List.take_succ_cons, List.drop_succ_cons, flatten_get z i f h, List.append_assoc]
theorem plOf_set : ∀ (z : List (List Ck)) (off i : Nat) (f c : List Ck), z[i]? = some f → csz f = csz c → plOf off (z.set i c) = plOf off z
  | [], _, i, f, c, h, _ => by simp at h
  | g :: z, off, 0, f, c, h, hc => by simp at h; subst h; simp [plOf, hc]
  | g :: z, off, i + 1, f, c, h, hc => by simp at h; simp [plOf, plOf_set z _ i f c h hc]
theorem fit_set {z : List (List Ck)} {i : Nat} {f c : List Ck} (h : z[i]? = some f) (hc : csz f = csz c) : ∀ (r : List (Nat × List Ck)), fitB z r = true → fitB (z.set i c) r = true
  | [], _ => rfl
  | (j, d) :: r, hr => by
    simp only [fitB, Bool.and_eq_true] at hr ⊢
    refine ⟨?_, fit_set h hc r hr.2⟩
    rw [List.getElem?_set]
    by_cases hij : i = j
    · subst hij
      have hl := (List.getElem?_eq_some_iff.1 h).1
      simp only [if_true, hl]
      rw [h] at hr
      simp only at hr
      have := Nat.eq_of_beq_eq_true hr.1
      simp [← hc, this]
    · simp only [hij, if_false]; exact hr.1
theorem fill_set : ∀ (parts : List (Nat × List Ck)) (vs : List (Nat × Value)) (z : List (List Ck)), fitB z parts = true → vs.map (·.1) = parts.map (·.1) → vs.map (·.2.cells) = parts.map (fun x => (flat x.2).toArray) →
    Instr.fill (fun i => (plOf 0 z)[i]?) (flat z.flatten).toArray vs = some (flat (setAll z parts).flatten).toArray
  | [], vs, z, _, h1, _ => by
    have : vs = [] := by cases vs <;> simp_all
    subst this; rfl
  | (i, c) :: parts, vs, z, hf, h1, h2 => by
    cases vs with
    | nil => simp at h1
    | cons p vs =>
      obtain ⟨j, v⟩ := p
      simp only [List.map_cons, List.cons.injEq] at h1 h2
      obtain ⟨rfl, h1⟩ := h1
      obtain ⟨hv, h2⟩ := h2
      simp only [fitB, Bool.and_eq_true] at hf
      obtain ⟨hf1, hf2⟩ := hf
      cases hz : z[j]? with
      | none => simp [hz] at hf1
      | some f =>
        simp only [hz] at hf1
        have hc := Nat.eq_of_beq_eq_true hf1
        have hpl := plOf_get z 0 j f hz
        have hget := flatten_get z j f hz
        have hlen : (flat z.flatten).length = csz (z.take j).flatten + csz f + (flat (z.drop (j + 1)).flatten).length := by
          rw [hget, List.length_append, List.length_append, flat_length, flat_length]
        unfold Instr.fill
        simp only [hpl, Nat.zero_add, hv]
        rw [if_neg (by simp only [List.size_toArray, flat_length, hc]; rw [← flat_length z.flatten, hlen]; simp [hc])]
        have hzz : (flat c).toArray.zipIdx.foldl (fun (cs : Array Value) (x : Value × Nat) => cs.setIfInBounds (csz (z.take j).flatten + x.2) x.1) (flat z.flatten).toArray = (flat (z.set j c).flatten).toArray := by
          rw [← Array.foldl_toList, Array.toList_zipIdx, foldl_zip _ (flat c) 0 _ (by rw [hlen, flat_length, ← hc]; omega)]
          congr 1
          rw [flatten_set z j f c hz, hget, Nat.add_zero]
          have h3 : (flat (z.take j).flatten).length = csz (z.take j).flatten := flat_length _
          congr 1
          · congr 1
            rw [List.append_assoc, ← h3, List.take_left']
            rfl
          · rw [List.drop_left']
            rw [List.length_append, h3, flat_length, flat_length, hc]
        have := fill_set parts vs (z.set j c) (fit_set hz hc parts hf2) h1 h2
        rw [plOf_set z 0 j f c hz hc] at this
        rw [show (fun (cs : Array Value) (x : Value × Nat) => cs.setIfInBounds (csz (List.take j z).flatten + x.snd) x.fst) = (fun cs x => match x with | (c, j_1) => cs.setIfInBounds (csz (List.take j z).flatten + j_1) c) from rfl] at hzz
        rw [hzz, this]
        rfl
theorem r_bldk {T : TypeId} {z : List (List Ck)} {parts : List (Nat × Operand)} {pc : List (Nat × List Ck)} {cks : List Ck} (ho : o.op = .build T parts.toArray) (hz : Zer P T (flat z.flatten)) (hF : BldF P T (plOf 0 z)) (h1 : parts.map (·.1) = pc.map (·.1)) (h2 : parts.map (fun x => (opd ρ n x.2).cells) = pc.map (fun x => (flat x.2).toArray))
    (hf : fitB z pc = true) (hc : (setAll z pc).flatten = cks) : Rn P ρ n o w (.agg (flat cks).toArray) w := by
  subst hc
  refine r_bld (vs := parts.map fun x => (x.1, opd ρ n x.2)) ho hz hF rfl ?_
  exact fill_set pc _ z hf (by simpa [Function.comp_def] using h1) (by simpa [Function.comp_def] using h2)
end
end Go.Proofs.YtdebnncpclodcaaDoor.X
