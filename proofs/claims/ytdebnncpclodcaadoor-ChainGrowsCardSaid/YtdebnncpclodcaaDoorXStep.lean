/-
  Operations, regions, calls and loops over one invariant of memory. No condition beyond those that the lemmas name.
-/
import Derived.Test.YtdebnncpclodcaaDoorXInv
import Derived.Great.BuildSlice
import Derived.Laws.AppendOwn
import Derived.ChangeKeysEq
set_option linter.unusedSimpArgs false
set_option linter.unusedVariables false
namespace Go.Proofs.YtdebnncpclodcaaDoor.X
open Go.RowKit

/-! ### Data -/
structure Ty (α : Type) where
  sz : Nat
  enc : Hp → List Value → α → Prop
  len : ∀ {H cs a}, enc H cs a → cs.length = sz
  one : ∀ {H cs a}, enc H cs a → Ones cs
  mono : ∀ {H H' cs a}, Hle H H' → enc H cs a → enc H' cs a
/-- Data without slices: the cells are a function of it. -/
structure Fl (α : Type) where
  sz : Nat
  c : α → List Ck
  h : ∀ a, csz (c a) = sz
def Fl.ty {α : Type} (f : Fl α) : Ty α where
  sz := f.sz
  enc := fun _ cs a => cs = flat (f.c a)
  len := fun {_ _ a} h => by subst h; rw [flat_length, f.h]
  one := fun h => by subst h; exact flat_ones _
  mono := fun _ h => h
structure Sl {α : Type} (t : Ty α) (H : Hp) (s : Sv) (xs : List α) : Prop where
  n : s.n = xs.length
  cap : s.n ≤ s.c
  bd : s.n ≤ 140737488355328
  el : ∀ i x, xs[i]? = some x → ∃ b off cs, s.a = some ⟨b, off, none⟩ ∧ t.enc H cs x ∧ ∀ k v, cs[k]? = some v → H b (off + i * t.sz + k) = some v
theorem Sl.mono {α : Type} {t : Ty α} {H H' : Hp} {s : Sv} {xs : List α} (h : Sl t H s xs) (hl : Hle H H') : Sl t H' s xs :=
  ⟨h.n, h.cap, h.bd, fun i x hx => by
    obtain ⟨b, off, cs, h1, h2, h3⟩ := h.el i x hx
    exact ⟨b, off, cs, h1, t.mono hl h2, fun k v hk => hl _ _ _ (h3 k v hk)⟩⟩
theorem Sl.nil {α : Type} (t : Ty α) (H : Hp) : Sl t H Sv.nil [] := ⟨rfl, Nat.le_refl _, Nat.zero_le _, fun i x hx => by simp at hx⟩
def Ty.sl {α : Type} (t : Ty α) : Ty (List α) where
  sz := 1
  enc := fun H cs xs => ∃ s : Sv, cs = [s.v] ∧ Sl t H s xs
  len := fun ⟨s, h, _⟩ => by subst h; rfl
  one := fun ⟨s, h, _⟩ => by subst h; exact Ones_cons rfl Ones_nil
  mono := fun hl ⟨s, h, k⟩ => ⟨s, h, k.mono hl⟩
structure Vec (α : Type) (n : Nat) where
  l : List α
  h : l.length = n
theorem Vec.ext' {α : Type} {n : Nat} {a b : Vec α n} (h : a.l = b.l) : a = b := by cases a; cases b; cases h; rfl
instance {α : Type} {n : Nat} [DecidableEq α] : DecidableEq (Vec α n) := fun a b => if h : a.l = b.l then isTrue (Vec.ext' h) else isFalse (fun e => h (by rw [e]))
def Vec.rep {α : Type} (n : Nat) (a : α) : Vec α n := ⟨List.replicate n a, by simp⟩
def Vec.set {α : Type} {n : Nat} (v : Vec α n) (i : Nat) (a : α) : Vec α n := ⟨v.l.set i a, by simp [v.h]⟩
abbrev Dg := Vec UInt8 32
def u32v (x : UInt32) : Value := .int .u32 x.toNat
def u64v (x : UInt64) : Value := .int .u64 x.toNat
def strv (s : List UInt8) : Value := .string ⟨s.toArray⟩
def ckI (z : Int) : Ck := .one (.int .i64 z) rfl
def ckB (b : UInt8) : Ck := .one (bv b) rfl
def ckW (b : UInt32) : Ck := .one (u32v b) rfl
def ckT (b : Bool) : Ck := .one (.bool b) rfl
def ckS (s : List UInt8) : Ck := .one (strv s) rfl
def ckL (s : Sv) : Ck := .one s.v rfl
theorem cat_length {α : Type} (f : Fl α) : ∀ l : List α, (l.flatMap fun a => flat (f.c a)).length = l.length * f.sz
  | [] => by simp
  | a :: l => by simp only [List.flatMap_cons, List.length_append, flat_length, f.h, List.length_cons, cat_length f l, Nat.add_mul]; omega
theorem cat_ones {α : Type} (f : Fl α) : ∀ l : List α, Ones (l.flatMap fun a => flat (f.c a))
  | [] => Ones_nil
  | a :: l => by simp only [List.flatMap_cons]; exact Ones_app (flat_ones _) (cat_ones f l)
def ckV {α : Type} {n : Nat} (f : Fl α) (v : Vec α n) : Ck := ⟨n * f.sz, v.l.flatMap fun a => flat (f.c a), by rw [cat_length, v.h], cat_ones f _⟩
def flI : Fl Int := ⟨1, fun z => [ckI z], fun _ => rfl⟩
def flB : Fl UInt8 := ⟨1, fun z => [ckB z], fun _ => rfl⟩
def flW : Fl UInt32 := ⟨1, fun z => [ckW z], fun _ => rfl⟩
def flT : Fl Bool := ⟨1, fun z => [ckT z], fun _ => rfl⟩
def flS : Fl (List UInt8) := ⟨1, fun z => [ckS z], fun _ => rfl⟩
def flV {α : Type} (f : Fl α) (n : Nat) : Fl (Vec α n) := ⟨n * f.sz, fun v => [ckV f v], fun v => by simp [csz, ckV]⟩
/-! ### Where cells are -/
def CA (w : World) (b j : Nat) (cks : List Ck) : Prop := ∀ k v, (flat cks)[k]? = some v → w.cell? ⟨b, j + k, none⟩ = some v
theorem At.ca {w : World} {H : Hp} {L : List Ent} {b j : Nat} {cks : List Ck} (h : At H b j cks) (hG : Good w H L) : CA w b j cks := fun k v hk => hG.cell _ _ _ (h k v hk)
theorem Good.ca {w : World} {H : Hp} {L : List Ent} (h : Good w H L) (i : Nat) {b : Nat} {cks : List Ck} {T : TypeId} (hL : L[i]? = some (.cb b cks T)) : CA w b 0 cks := fun k v hk => by
  have := (h.ok _ (List.mem_of_getElem? hL)).1
  simp [World.cell?, this, hk]
def IxAt (s : Sv) (sz i b j : Nat) : Prop := ∃ off, s.a = some ⟨b, off, none⟩ ∧ off + i * sz = j
theorem Sl.ix {α : Type} {t : Ty α} {H : Hp} {s : Sv} {xs : List α} (h : Sl t H s xs) {i : Nat} {x : α} (hi : xs[i]? = some x) :
    ∃ b j cs, IxAt s t.sz i b j ∧ i < s.n ∧ t.enc H cs x ∧ ∀ k v, cs[k]? = some v → H b (j + k) = some v := by
  obtain ⟨b, off, cs, h1, h2, h3⟩ := h.el i x hi
  exact ⟨b, off + i * t.sz, cs, ⟨off, h1, rfl⟩, by rw [h.n]; exact (List.getElem?_eq_some_iff.1 hi).1, h2, h3⟩
/-- An element without slices. -/
theorem Sl.ixf {α : Type} {f : Fl α} {H : Hp} {s : Sv} {xs : List α} (h : Sl f.ty H s xs) {i : Nat} {x : α} (hi : xs[i]? = some x) :
    ∃ b j, IxAt s f.sz i b j ∧ i < s.n ∧ At H b j (f.c x) := by
  obtain ⟨b, j, cs, h1, h2, h3, h4⟩ := h.ix hi
  cases h3
  exact ⟨b, j, h1, h2, h4⟩

section
variable {P : Program} {ops : Array Oper} {rest : List Oper} {o : Oper} {Q : Exit → Act → World → Prop} {ρ : Nat → Value} {n : Nat} {w w1 : World} {v : Value} {d : Nat} {B : Base} {H : Hp} {L : List Ent}

theorem r_ixt {j : Nat} {T e sz : Nat} {x y : Operand} {s : Sv} {b i : Nat} {z : Int} (ho : o.op = .indexAddr T x y) (hT : sliceB P T e sz = true) (hx : opd ρ n x = s.v) (hy : opd ρ n y = .int .i64 z) (hz : z = (i : Int)) (hI : IxAt s sz i b j) (hl : i < s.n) :
    Rn P ρ n o w (.pointer (some ⟨b, j, none⟩)) w := by
  obtain ⟨off, ha, hj⟩ := hI
  subst hz
  exact r_ixv ho hT hx ha hy (by omega) (by omega) (by simpa using hj)
/-- Cells at (b, j) that are known are loaded. -/
theorem r_cl1 {T : TypeId} {x : Operand} {b j off p : Nat} {cks : List Ck} {h1 : v.oneCell' = true} (hC : CA w b j cks) (ho : o.op = .load T x) (hT : scalB P T = true) (hx : opd ρ n x = .pointer (some ⟨b, j + off, none⟩)) (hp : atB cks off p 1 1 = true) (hc : cks[p]? = some (Ck.one v h1)) : Rn P ρ n o w v w := by
  have hv : w.cell? ⟨b, j + off, none⟩ = some v := by
    refine hC off v ?_
    have h2 := flat_at hp 0 (by omega)
    have hd : (cks.drop p).take 1 = [Ck.one v h1] := by
      rw [List.getElem?_eq_some_iff] at hc
      obtain ⟨hl, hc⟩ := hc
      rw [List.drop_eq_getElem_cons hl, hc]; rfl
    rw [hd] at h2
    simpa [flat, Ck.one] using h2
  unfold scalB at hT
  unfold Rn execOp
  have hr : (loadVar T ⟨b, j + off, none⟩).run P w = .ok v w := by
    cases hu : P.underlying T with
    | none => simp [hu] at hT
    | some d =>
      have hagg : (isAgg T).run P w = .ok false w := by
        unfold isAgg
        rw [Sem.run_bind, run_underlying hu w]
        cases d <;> simp_all
      simp [loadVar, Sem.run_bind, hagg, hv]
  simp [ho, hx, Instr.loadAt, Instr.sureAddr, hr]
theorem r_cla {T : TypeId} {x : Operand} {b j off p m sz : Nat} {cks sub : List Ck} (hC : CA w b j cks) (ho : o.op = .load T x) (hT : aggB P T sz = true) (hx : opd ρ n x = .pointer (some ⟨b, j + off, none⟩)) (hp : atB cks off p m sz = true) (hc : (cks.drop p).take m = sub) : Rn P ρ n o w (.agg (flat sub).toArray) w := by
  subst hc
  have hl : (flat ((cks.drop p).take m)).length = sz := by rw [flat_length]; exact (atB_spec hp).2
  have hcell : ∀ k v, (flat ((cks.drop p).take m))[k]? = some v → w.cell? ⟨b, j + off + k, none⟩ = some v := by
    intro k v hk
    have hk' : k < sz := by have := (List.getElem?_eq_some_iff.1 hk).1; omega
    rw [Nat.add_assoc]
    exact hC _ _ ((flat_at hp k hk').trans hk)
  unfold aggB at hT
  cases hu : P.underlying T with
  | none => simp [hu] at hT
  | some d =>
    have hagg : (isAgg T).run P w = .ok true w := by
      unfold isAgg
      rw [Sem.run_bind, run_underlying hu w]
      cases d <;> simp_all
    cases hq : P.info? T with
    | none => simp [hq] at hT
    | some inf =>
      have hs : inf.size = (flat ((cks.drop p).take m)).length := by simp [hq] at hT; omega
      have hl' : (loadCells ⟨b, j + off, none⟩ (flat ((cks.drop p).take m)).length).run P w = .ok (flat ((cks.drop p).take m)).toArray w :=
        run_loadCells_list (P := P) w ⟨b, j + off, none⟩ _ (fun k v hv => by rw [add_at]; exact hcell k v hv)
      unfold Rn execOp
      simp [ho, hx, Instr.loadAt, Instr.sureAddr, loadVar, Sem.run_bind, hagg, sizeOf, typeInfo, hq, hs, hl']
/-- A store into a block of one's own. -/
theorem l_st {T : TypeId} {x y : Operand} {g off p m sz : Nat} {cks new cks' : List Ck} {T' : TypeId} (hI : Inv B w H L) (i : Nat) (hL : L[i]? = some (.cb g cks T')) (ho : o.op = .store T x y) (hs : ((P.info? T).map (·.size) == some sz) = true)
    (hx : opd ρ n x = .pointer (some ⟨g, 0 + off, none⟩)) (hy : opd ρ n y = v) (hv : v.cells = (flat new).toArray) (hp : atB cks off p m sz = true) (hn : Nat.beq (csz new) sz = true) (hc : cks.take p ++ new ++ cks.drop (p + m) = cks') :
    Es P ρ n o w (fun w1 => Inv B w1 H (L.set i (.cb g cks' T'))) := by
  subst hc
  have hok := hI.good.ok _ (List.mem_of_getElem? hL)
  have hB : Blk w g (flat cks) T' := hok.1
  have hn' : csz new = sz := Nat.eq_of_beq_eq_true hn
  obtain ⟨hp1, hp2⟩ := atB_spec hp
  have hsp := flat_split cks p m
  have hlen : (flat cks).length = off + (sz + (flat (cks.drop (p + m))).length) := by
    rw [hsp, List.length_append, List.length_append, flat_length, hp1, flat_length, hp2]
  have hr := run_stv (P := P) (T := T) (g := g) (i := off) (vs := flat new) (by rw [flat_length, hn']; exact hs) hv hB (by rw [flat_length, hn']; omega) (flat_ones _)
  have he : (flat cks).take off ++ flat new ++ (flat cks).drop (off + (flat new).length) = flat (cks.take p ++ new ++ cks.drop (p + m)) := by
    rw [flat_append, flat_append]
    have h1 : (flat (cks.take p)).length = off := by rw [flat_length, hp1]
    congr 1
    · congr 1
      rw [hsp, ← h1, List.take_left']
      rfl
    · rw [flat_length, hn', hsp, ← List.append_assoc, List.drop_left']
      rw [List.length_append, h1, flat_length, hp2]
  rw [he] at hr
  have hS := setRow_blk hB (flat (cks.take p ++ new ++ cks.drop (p + m)))
  refine ⟨_, hI.put i hL rfl rfl hok.2 hS.ag ⟨hS.blk, hok.2⟩, ?_⟩
  unfold Rs execOp
  rw [Nat.zero_add] at hx
  simp [ho, hx, hy, Instr.storeAt, Instr.sureAddr, hr]
theorem l_box {T : TypeId} {x : Operand} {cks : List Ck} (hI : Inv B w H L) (ho : o.op = .box T x) (hx : opd ρ n x = v) (hc : v.cells = (flat cks).toArray) : Ef P ρ n o w (fun u w1 => ∃ g, u = .pointer (some ⟨g, 0, none⟩) ∧ Inv B w1 H (L ++ [.cb g cks T])) := by
  obtain ⟨u, w1, ⟨g, h1, h2⟩, hr⟩ := e_box (P := P) (w := w) ho hx hc
  exact ⟨u, w1, ⟨g, h1, hI.new _ h2.ag ⟨h2.blk, hI.good.new h2.new⟩ (fun b hb => by cases hb; exact h2.new)⟩, hr⟩
theorem l_al {T : TypeId} {cks : List Ck} (hI : Inv B w H L) (ho : o.op = .alloc T) (hz : Zer P T (flat cks)) : Ef P ρ n o w (fun u w1 => ∃ g, u = .pointer (some ⟨g, 0, none⟩) ∧ Inv B w1 H (L ++ [.cb g cks T])) := by
  obtain ⟨u, w1, ⟨g, h1, h2⟩, hr⟩ := e_al (ρ := ρ) (n := n) (P := P) (w := w) ho hz
  exact ⟨u, w1, ⟨g, h1, hI.new _ h2.ag ⟨h2.blk, hI.good.new h2.new⟩ (fun b hb => by cases hb; exact h2.new)⟩, hr⟩
theorem l_fa {k : Nat} {S f off : Nat} {x : Operand} {b j i : Nat} (ho : o.op = .fieldAddr S x f) (hS : fldB P S f off = true) (hx : opd ρ n x = .pointer (some ⟨b, j + i, none⟩)) (hk : Nat.beq (i + off) k = true) : Rn P ρ n o w (.pointer (some ⟨b, j + k, none⟩)) w :=
  r_fa ho hS hx (by rw [Nat.add_assoc, Nat.eq_of_beq_eq_true hk])

/-! ### Slices are made -/
theorem fill_list (sz : Nat) : ∀ (vs : List (List Value)) (j : Nat) (pre suf : List Value), (∀ c ∈ vs, c.length = sz) → pre.length = j * sz → suf.length = vs.length * sz → ∀ ps : List (Nat × Value), ps.map (·.1) = (List.range' j vs.length) → ps.map (·.2.cells.toList) = vs →
    Instr.fill (fun i => some (i * sz, sz)) (pre ++ suf).toArray ps = some (pre ++ vs.flatten).toArray
  | [], j, pre, suf, _, _, hs, ps, h1, h2 => by
    have : ps = [] := by cases ps <;> simp_all
    subst this
    have : suf = [] := List.eq_nil_of_length_eq_zero (by simpa using hs)
    subst this
    simp [Instr.fill]
  | c :: vs, j, pre, suf, hv, hp, hs, ps, h1, h2 => by
    cases ps with
    | nil => simp at h2
    | cons p ps =>
      obtain ⟨i, v⟩ := p
      simp only [List.length_cons, List.range'_succ, List.map_cons, List.cons.injEq] at h1 h2
      obtain ⟨rfl, h1⟩ := h1
      obtain ⟨hc, h2⟩ := h2
      have hcl := hv c (by simp)
      have hs' : suf.length = vs.length * sz + sz := by rw [hs, List.length_cons, Nat.add_mul, Nat.one_mul]
      have hvs : v.cells.size = sz := by rw [← Array.length_toList, hc, hcl]
      obtain ⟨cs, hcs⟩ : ∃ cs, v.cells = cs := ⟨_, rfl⟩
      have hfold : ∀ (c : List Value) (k : Nat) (A : List Value), i * sz + k + c.length ≤ A.length → (c.zipIdx k).foldl (fun (cs : Array Value) (x : Value × Nat) => cs.setIfInBounds (i * sz + x.2) x.1) A.toArray = (A.take (i * sz + k) ++ c ++ A.drop (i * sz + k + c.length)).toArray := by
        intro c
        induction c with
        | nil => intro k A _; simp
        | cons x c ih =>
          intro k A hA
          simp only [List.length_cons] at hA
          simp only [List.zipIdx_cons, List.foldl_cons]
          rw [List.setIfInBounds_toArray, ih (k + 1) _ (by rw [List.length_set]; omega)]
          congr 1
          have hlt : i * sz + k < A.length := by omega
          rw [← Nat.add_assoc, List.take_set, List.drop_set]
          have e1 : (A.take (i * sz + k + 1)).set (i * sz + k) x = A.take (i * sz + k) ++ [x] := by
            rw [List.take_succ_eq_append_getElem hlt, List.set_append, List.length_take, Nat.min_eq_left (Nat.le_of_lt hlt), if_neg (by omega), Nat.sub_self]
            rfl
          rw [e1, if_pos (by omega), List.length_cons]
          rw [show i * sz + k + 1 + c.length = i * sz + k + (c.length + 1) from by omega]
          simp
      unfold Instr.fill
      simp only []
      rw [if_neg (by simp [hvs, hp, hs'])]
      have hz : v.cells.zipIdx.foldl (fun (cs : Array Value) (x : Value × Nat) => cs.setIfInBounds (i * sz + x.2) x.1) (pre ++ suf).toArray = ((pre ++ c) ++ suf.drop sz).toArray := by
        rw [← Array.foldl_toList, Array.toList_zipIdx, hc, hfold c 0 (pre ++ suf) (by simp [hp, hs', hcl])]
        congr 1
        simp only [Nat.add_zero]
        rw [← hp, List.take_left', List.drop_append, hcl, List.drop_eq_nil_of_le (by omega)]
        · simp
        · rfl
      rw [hz]
      have := fill_list sz vs (i + 1) (pre ++ c) (suf.drop sz) (fun c' h => hv c' (by simp [h])) (by simp [hp, hcl, Nat.add_mul]) (by simp [hs']) ps h1 h2
      rw [this]
      simp

/-- Elements, one a value. -/
inductive Els {α : Type} (t : Ty α) (H : Hp) : List Value → List α → Prop where
  | nil : Els t H [] []
  | cons {v : Value} {x : α} {cs : List Value} {vs : List Value} {xs : List α} (hc : v.cells = cs.toArray) (he : t.enc H cs x) (h : Els t H vs xs) : Els t H (v :: vs) (x :: xs)
theorem Els.ex {α : Type} {t : Ty α} {H : Hp} {vs : List Value} {xs : List α} (h : Els t H vs xs) : vs.length = xs.length ∧ ∃ css : List (List Value), vs.map (·.cells.toList) = css ∧ (∀ c ∈ css, c.length = t.sz) ∧ Ones css.flatten ∧ ∀ (i : Nat) (x : α), xs[i]? = some x → ∃ cs, css[i]? = some cs ∧ t.enc H cs x := by
  induction h with
  | nil => exact ⟨rfl, [], rfl, by simp, Ones_nil, by simp⟩
  | cons hc he h ih =>
    obtain ⟨h0, css, h1, h2, h3, h4⟩ := ih
    rename_i v x cs vs xs
    refine ⟨by simp [h0], cs :: css, by simp [hc, h1], ?_, Ones_app (t.one he) h3, ?_⟩
    · intro c hcm
      rcases List.mem_cons.1 hcm with rfl | hcm
      · exact t.len he
      · exact h2 c hcm
    · intro i y hi
      cases i with
      | zero => simp at hi; subst hi; exact ⟨cs, rfl, he⟩
      | succ i => simp at hi; simpa using h4 i y hi
theorem flat_get {sz : Nat} : ∀ {css : List (List Value)}, (∀ cs ∈ css, cs.length = sz) → ∀ {i : Nat} {cs : List Value}, css[i]? = some cs → ∀ {k : Nat} {v : Value}, cs[k]? = some v → css.flatten[i * sz + k]? = some v
  | [], _, i, cs, hi, k, v, hk => by simp at hi
  | c :: l, hs, i, cs, hi, k, v, hk => by
    have hc := hs c (by simp)
    have hkl := (List.getElem?_eq_some_iff.1 hk).1
    cases i with
    | zero =>
      simp at hi; subst hi
      rw [Nat.zero_mul, Nat.zero_add, List.flatten_cons, List.getElem?_append_left hkl, hk]
    | succ i =>
      simp at hi
      have := flat_get (css := l) (fun c hc => hs c (by simp [hc])) hi hk
      rw [← this]
      simp only [List.flatten_cons, List.getElem?_append, hc]
      rw [if_neg (by rw [Nat.add_mul]; omega)]
      congr 1
      rw [Nat.add_mul]; omega
theorem l_bs {α : Type} {t : Ty α} {T e len bytes : Nat} {parts : List (Nat × Operand)} {vs : List Value} {xs : List α} (hI : Inv B w H L) (ho : o.op = .buildSlice T len parts.toArray) (hT : sliceB P T e t.sz = true) (hz : infB P e t.sz bytes = true) (h0 : Nat.blt 0 t.sz = true)
    (h1 : parts.map (·.1) = List.range' 0 len) (h2 : parts.map (fun p => opd ρ n p.2) = vs) (hE : Els t H vs xs) (hm : Nat.ble (len * t.sz) 16777216 = true) :
    Ef P ρ n o w (fun u w1 => ∃ s H1, u = s.v ∧ Inv B w1 H1 L ∧ Hle H H1 ∧ Sl t H1 s xs ∧ s.n = s.c ∧ ∃ g, s.a = some ⟨g, 0, none⟩ ∧ (B.M g ∨ B.w.heap.size ≤ g) ∧ (∀ x ∈ L, x.blk ≠ some g) ∧ ∃ cs, w1.heap[g]? = some (.cells cs e (0, 0)) ∧ cs.size = s.n * t.sz) := by
  obtain ⟨hu, _⟩ := sliceB_spec hT
  obtain ⟨inf, z, hq, hz, hs, _, hzs⟩ := infB_spec hz
  have h0' : 0 < t.sz := by simpa [Nat.blt_eq] using h0
  obtain ⟨hl, css, e1, e2, e3, e4⟩ := hE.ex
  have hlen : len = vs.length := by
    have := congrArg List.length h1
    have h3 := congrArg List.length h2
    simp at this h3; omega
  have hm' : len * t.sz ≤ 16777216 := by simpa [Nat.ble_eq] using hm
  have hcl : css.length = len := by rw [← e1, List.length_map, hlen]
  have hfl : css.flatten.length = len * t.sz := by
    rw [← hcl]
    clear e1 e3 e4 hcl
    induction css with
    | nil => simp
    | cons c l ih => simp [ih (fun cs hc => e2 cs (by simp [hc])), e2 c (by simp), Nat.add_mul, Nat.add_comm]
  have hag : Ag M0 w (w.alloc (.cells css.flatten.toArray e (0, 0))) := ⟨rfl, rfl, rfl, by simp, fun k hk _ => Below.heap_alloc _ _ _ hk⟩
  have hI1 : Inv B (w.alloc (.cells css.flatten.toArray e (0, 0))) H (L ++ [.cb w.heap.size [⟨css.flatten.length, css.flatten, rfl, e3⟩] e]) :=
    hI.new _ hag ⟨by have := heap_alloc_new w (.cells css.flatten.toArray e (0, 0)); simpa [flat] using this, hI.good.new (Nat.le_refl _)⟩ (fun b hb => by cases hb; exact Nat.le_refl _)
  have hloc := hI1.loc _ (List.mem_append_right _ (List.mem_singleton_self _)) w.heap.size rfl
  obtain ⟨H1, hI2, hle, hA⟩ := hI1.freeze' L.length (by rw [List.getElem?_append_right (Nat.le_refl _), Nat.sub_self]; rfl)
  have hI3 : Inv B (w.alloc (.cells css.flatten.toArray e (0, 0))) H1 L := by
    have : (L ++ [Ent.cb w.heap.size [⟨css.flatten.length, css.flatten, rfl, e3⟩] e]).eraseIdx L.length = L := by
      rw [List.eraseIdx_append_of_length_le (Nat.le_refl _)]; simp
    rwa [this] at hI2
  have hsl : Sl t H1 ⟨some ⟨w.heap.size, 0, none⟩, len, len⟩ xs := by
    refine ⟨by simp only []; omega, Nat.le_refl _, ?_, ?_⟩
    · simp only []
      have := Nat.le_mul_of_pos_right len h0'
      omega
    · intro i x hi
      obtain ⟨cs, h5, h6⟩ := e4 i x hi
      refine ⟨_, _, cs, rfl, t.mono hle h6, fun k v hk => ?_⟩
      have := hA (i * t.sz + k) v (by simp only [flat, List.append_nil]; exact flat_get e2 h5 hk)
      rw [Nat.zero_add] at this
      rw [Nat.zero_add]; exact this
  refine ⟨.slice (some ⟨w.heap.size, 0, none⟩) len len, w.alloc (.cells css.flatten.toArray e (0, 0)), ⟨⟨some ⟨w.heap.size, 0, none⟩, len, len⟩, H1, rfl, hI3, hle, hsl, rfl, ⟨w.heap.size, rfl, hloc, fun x hx hb => Nat.lt_irrefl _ ((hI.good.ok x hx).lt hb), css.flatten.toArray, heap_alloc_new _ _, by simpa using hfl⟩⟩, ?_⟩
  have hrun : (Instr.buildSlice T len (parts.map fun p => (p.1, opd ρ n p.2)).toArray).run P w = .ok (.slice (some ⟨w.heap.size, 0, none⟩) len len) (w.alloc (.cells css.flatten.toArray e)) := by
    by_cases h00 : len = 0
    · subst h00
      have hcf : css.flatten = [] := List.eq_nil_of_length_eq_zero (by omega)
      have hp0 : parts = [] := by
        have := congrArg List.length h1
        simpa using this
      subst hp0
      rw [hcf]
      simp [Instr.buildSlice, run_underlying hu, sizeOf, typeInfo, hq, newRow, Instr.fill]
      rw [show Array.range 0 = #[] from by simp [Array.range]]; simp
    · have hpos : 0 < len * t.sz := Nat.mul_pos (by omega) h0'
      have hfill := fill_list t.sz css 0 [] ((((Array.range (len * t.sz)).map fun i => z.cells[i % z.cells.size]!)).toList) e2 (by simp) (by simp [hcl]) (parts.map fun p => (p.1, opd ρ n p.2)) (by rw [hcl, ← h1, List.map_map]; rfl) (by rw [← e1, ← h2, List.map_map, List.map_map]; rfl)
      simp only [List.nil_append, Array.toArray_toList] at hfill
      exact run_buildSlice w T e len _ css.flatten.toArray inf z hu hq hz (by rw [hs]; omega) (by rw [hs]; omega) (by rw [hs]; exact hfill)
  have hmap : parts.toArray.map (fun x => (x.1, opd ρ n x.2)) = (parts.map fun p => (p.1, opd ρ n p.2)).toArray := by simp
  unfold Rn execOp
  rw [ho]
  simp only []
  rw [show (fun (x : Nat × Operand) => match x with | (i, x) => (i, opd ρ n x)) = fun x => (x.1, opd ρ n x.2) from rfl, hmap, Sem.run_bind, hrun]
  rfl
end
end Go.Proofs.YtdebnncpclodcaaDoor.X
