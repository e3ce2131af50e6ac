/-
  Slicing, appends to copies, and readers. No condition beyond those that the lemmas name.
-/
import Derived.Test.YtdebnncpclodcaaDoorXCodeB
import Derived.Lib.AppendStr
namespace Go.Proofs.YtdebnncpclodcaaDoor.X
open Go.RowKit Go.Proofs.YtdebnncpclodcaaDoorW.PrintLast

theorem shr_byte0 (x : Int) (k : Nat) : IntKind.u8.wrap (x.fdiv (2 ^ k)) = ((byteAt x k).toNat : Int) := by
  rw [byteAt_nat, Int.fdiv_eq_ediv_of_nonneg _ (Int.pow_nonneg (by omega))]
  simp [IntKind.wrap, IntKind.signed, IntKind.bits]
theorem u8_byte0 (x : Int) : IntKind.u8.wrap x = ((byteAt x 0).toNat : Int) := by
  rw [byteAt_nat]
  simp [IntKind.wrap, IntKind.signed, IntKind.bits]
/-- A length in four bytes; a text. -/
def len4 (n : Nat) : List UInt8 := [byteAt n 24, byteAt n 16, byteAt n 8, byteAt n 0]
theorem len4_len (n : Nat) : (len4 n).length = 4 := rfl
theorem strlen (s : ByteArray) : s.data.toList.length = s.size := by rw [Array.length_toList]; rfl
def encT (s : ByteArray) : List UInt8 := len4 s.size ++ s.data.toList
def encTs (xs : List ByteArray) : List UInt8 := (xs.map encT).flatten
theorem encTs_snoc (xs : List ByteArray) (s : ByteArray) : encTs (xs ++ [s]) = encTs xs ++ encT s := by simp [encTs]
theorem encTs_append (xs ys : List ByteArray) : encTs (xs ++ ys) = encTs xs ++ encTs ys := by simp [encTs]
theorem encT_len (s : ByteArray) : (encT s).length = 4 + s.size := by simp [encT, len4]; omega
def encD (ds : List Dig) : List UInt8 := (ds.map (·.l)).flatten
theorem encD_snoc (ds : List Dig) (d : Dig) : encD (ds ++ [d]) = encD ds ++ d.l := by simp [encD]
theorem encD_len (ds : List Dig) : (encD ds).length = 32 * ds.length := by
  induction ds with
  | nil => rfl
  | cons d ds ih => simp only [encD, List.map_cons, List.flatten_cons, List.length_append, List.length_cons, d.h] at ih ⊢; omega
theorem encTs_le {xs : List ByteArray} {i : Nat} {s : ByteArray} (h : xs[i]? = some s) : (encTs (xs.take i)).length + (encT s).length ≤ (encTs xs).length := by
  have e : xs = xs.take (i + 1) ++ xs.drop (i + 1) := (List.take_append_drop _ _).symm
  have e2 : (encTs xs).length = (encTs (xs.take (i + 1))).length + (encTs (xs.drop (i + 1))).length := by
    conv => lhs; rw [e]
    rw [encTs_append, List.length_append]
  rw [take_snoc_of h, encTs_snoc, List.length_append] at e2
  omega

section
variable {P : Program} {ops : Array Oper} {rest : List Oper} {o : Oper} {Q : Exit → Act → World → Prop} {ρ : Nat → Value} {n : Nat} {w w1 : World} {v : Value} {d : Nat}

/-- append(v, s...) of a string. -/
theorem e_apps {T U e N : Nat} {x y : Operand} {xs : List Value} {s : ByteArray} (ho : o.op = .call { callee := .builtin .append, args := #[x, y], argTypes := #[T, U] }) (hT : sliceB P T e 1 = true) (hU : P.underlying U = some .string) (hI : infB P e 1 1 = true)
    (hx : opd ρ n x = v) (hy : opd ρ n y = .string s) (hO : Own w e 1 v N xs) (hb : N + s.size ≤ 140737488355328) :
    Ef P ρ n o w (fun v1 w1 => Own w1 e 1 v1 (N + s.size) (xs ++ bvs s.data.toList) ∧ Ag (rowM v) w w1 ∧ (v1.ownBlock = v.ownBlock ∨ ∃ k, v1.ownBlock = some k ∧ w.heap.size ≤ k)) := by
  obtain ⟨hu, _⟩ := sliceB_spec hT
  obtain ⟨i, z, hi, hz0, hs1, hs2, hs3⟩ := infB_spec hI
  have hxl : xs.length = N := by have := hO.1; simpa using this
  have hsc : Go.Lib.strCells s = bvs s.data.toList := rfl
  have hlen : (xs ++ bvs s.data.toList).length = (N + s.size) * 1 := by
    rw [List.length_append, bvs_length, hxl, Nat.mul_one, Array.length_toList]; rfl
  have run : ∀ {u w'}, (Builtin.append_ #[T, U] o.type #[v, .string s]).run P w = .ok u w' → Rn P ρ n o w u w' := by
    intro u w' h
    unfold Rn execOp
    simp [ho, hx, hy, resolve, invoke, builtin, h]
  have grown : ∀ old, old < N + s.size → ∀ w2 : World, w2 = w.drew.alloc (.cells (xs.toArray ++ (bvs s.data.toList).toArray ++ Builtin.zeroCells z.cells (grownCap w (N + s.size) old e - (N + s.size))) e) →
      Own w2 e 1 (.slice (some ⟨w.heap.size, 0, none⟩) (N + s.size) (grownCap w (N + s.size) old e)) (N + s.size) (xs ++ bvs s.data.toList) ∧ Ag (rowM v) w w2 := by
    rintro old ho w2 rfl
    have hge := grownCap_ge w (N + s.size) old e
    have hcm : grownCap w (N + s.size) old e ≤ maxLen := grownCap_le_maxLen w (N + s.size) old e (by simp only [maxLen]; omega)
    refine ⟨⟨hlen, .inr ⟨w.heap.size, _, _, rfl, Nat.zero_le _, heap_alloc_new w.drew _, hge, hcm, ?_, ?_⟩⟩, ⟨rfl, rfl, rfl, by simp, fun k hk _ => Below.heap_alloc w.drew _ k hk⟩⟩
    · rw [List.length_append] at hlen
      simp only [Array.size_append, List.size_toArray, size_zeroCells, hs3, hlen, Nat.mul_one]
      omega
    · simp only [Array.toList_append, List.append_assoc]
      rw [← List.append_assoc, ← hlen]
      exact List.take_left
  rcases hO.2 with ⟨rfl, h0⟩ | ⟨g, cap, cur, rfl, _, hg, hnc, hcm, hcs, htake⟩
  · subst h0
    have hx0 : xs = [] := List.eq_nil_of_length_eq_zero hxl
    subst hx0
    by_cases hm : s.size = 0
    · have hb0 : bvs s.data.toList = [] := List.eq_nil_of_length_eq_zero (by rw [bvs_length, Array.length_toList]; exact hm)
      refine ⟨.slice none 0 0, w, ⟨by rw [hm, hb0]; exact Own.nil _ _ _, Ag.refl _ _, .inl rfl⟩, run ?_⟩
      simp [Builtin.append_, run_underlying hu, run_underlying hU, sizeOf, typeInfo, hi, Builtin.lenOf, hm, Builtin.firstCells]
    · have hr := run_append_nil_string (P := P) w T U o.type e i z hu hU hi hz0 s (by omega) (by omega) (by rw [hs2]; omega)
      have hgr := grown 0 (by omega) _ rfl
      refine ⟨_, _, ⟨hgr.1, hgr.2, .inr ⟨_, rfl, Nat.le_refl _⟩⟩, run ?_⟩
      rw [hr]
      simp only [Nat.zero_add]
      congr 3
      apply Array.ext'
      simp [bvs, bv]
  · by_cases hroom : N + s.size ≤ cap
    · have hr := Lib.run_append_room_string (P := P) w T U o.type e i hu hU hi hs1 g N cap cur hg s hroom (by rw [hcs]; omega)
      refine ⟨_, _, ⟨⟨hlen, .inr ⟨g, cap, _, rfl, Nat.zero_le _, setRow_heap w g cur _ e _ hg, hroom, hcm, ?_, ?_⟩⟩, ⟨rfl, rfl, rfl, by simp, fun k _ hk => setRow_other w g k _ (fun e => hk (by simp [rowM, Value.ownBlock, e]))⟩, .inl rfl⟩, run hr⟩
      · have := List.length_append (as := xs) (bs := bvs s.data.toList)
        simp only [List.size_toArray, List.length_append, List.length_take, List.length_drop, Array.length_toList, hsc]
        rw [hlen, hxl] at this
        omega
      · have ht : cur.toList.take N = xs := by simpa using htake
        rw [hsc, ht, ← hlen]
        exact List.take_left
    · have holds : ∀ j u, xs[j]? = some u → w.cell? ((⟨g, 0, none⟩ : Addr).add j) = some u := hO.cells (g := g) rfl
      have hr := Lib.run_append_grow_string (P := P) w T U o.type e i z hu hU hi hz0 ⟨g, 0, none⟩ N cap xs (by rw [hs1]; simpa using hxl) holds s (by omega) (by omega) (growslice_fits (by omega) (by rw [hs2]; omega))
      have hgr := grown cap (by omega) _ rfl
      exact ⟨_, _, ⟨hgr.1, hgr.2, .inr ⟨_, rfl, Nat.le_refl _⟩⟩, run hr⟩
/-- a[:] of an array that lies in memory. -/
theorem r_sla {T m e sz b : Nat} {x : Operand} (ho : o.op = .slice T x none none none) (hT : arrB P T m e sz = true) (hx : opd ρ n x = .pointer (some ⟨b, 0, none⟩)) : Rn P ρ n o w (.slice (some ⟨b, 0, none⟩) m m) w := by
  obtain ⟨hu, inf, hq, rfl⟩ := arrB_spec hT
  unfold Rn execOp
  simp [ho, hx, Instr.sliceAt, run_underlying hu, Instr.sureAddr, Instr.sliceBounds, sizeOf, typeInfo, hq, add_at]
/-- x[:i] of a slice. -/
theorem r_slh {T e sz len cap : Nat} {x y : Operand} {A : Option Addr} {k : IntKind} {i : Int} (ho : o.op = .slice T x none (some y) none) (hT : sliceB P T e sz = true) (hx : opd ρ n x = .slice A len cap) (hy : opd ρ n y = .int k i) (h0 : 0 ≤ i) (h1 : i ≤ cap) :
    Rn P ρ n o w (.slice A i.toNat cap) w := by
  obtain ⟨hu, inf, hq, rfl⟩ := sliceB_spec hT
  have hA : (if cap = 0 then A else Option.map (fun x => x.add 0) A) = A := by
    split
    · rfl
    · cases A <;> simp [Addr.add]
  unfold Rn execOp
  simp [ho, hx, hy, Instr.sliceAt, Instr.slice, run_underlying hu, Instr.sliceBounds, Instr.sliceBound, asIntOf, sizeOf, typeInfo, hq, h0, h1, hA]
/-- x[i:] of a slice. -/
theorem r_sll {T e sz len cap : Nat} {x y : Operand} {A : Option Addr} {k : IntKind} {i : Int} (ho : o.op = .slice T x (some y) none none) (hT : sliceB P T e sz = true) (hx : opd ρ n x = .slice A len cap) (hy : opd ρ n y = .int k i) (h0 : 0 ≤ i) (h1 : i ≤ len) :
    Rn P ρ n o w (.slice (if cap = i.toNat then A else Option.map (fun x => x.add (i.toNat * sz)) A) (len - i.toNat) (cap - i.toNat)) w := by
  obtain ⟨hu, inf, hq, rfl⟩ := sliceB_spec hT
  unfold Rn execOp
  simp [ho, hx, hy, Instr.sliceAt, Instr.slice, run_underlying hu, Instr.sliceBounds, Instr.sliceBound, asIntOf, sizeOf, typeInfo, hq, h0, h1]
end
section
variable {P : Program} {ops : Array Oper} {rest : List Oper} {o : Oper} {Q : Exit → Act → World → Prop} {ρ : Nat → Value} {n : Nat} {w w1 : World} {v : Value} {d : Nat}
/-- x[:0:0] -/
theorem r_sl00 {T e sz len cap : Nat} {x y z : Operand} {A : Option Addr} (ho : o.op = .slice T x none (some y) (some z)) (hT : sliceB P T e sz = true) (hx : opd ρ n x = .slice A len cap) (hy : opd ρ n y = .int .i64 0) (hz : opd ρ n z = .int .i64 0) :
    Rn P ρ n o w (.slice A 0 0) w := by
  obtain ⟨hu, inf, hq, rfl⟩ := sliceB_spec hT
  unfold Rn execOp
  simp [ho, hx, hy, hz, Instr.sliceAt, Instr.slice, run_underlying hu, Instr.sliceBounds, Instr.sliceBound, asIntOf, sizeOf, typeInfo, hq]
theorem flat1 {α : Type} (f : α → Value) (l : List α) : (l.map fun x => [f x]).flatten = l.map f := by
  induction l with
  | nil => rfl
  | cons a l ih => simp [ih]
/-- append(x[:0:0], y...): what is appended, in new memory. -/
theorem e_app0 {T e bytes m : Nat} {x y : Operand} {news : List Value} {u : Value} {A : Option Addr} (ho : o.op = .call { callee := .builtin .append, args := #[x, y], argTypes := #[T, T] }) (hT : sliceB P T e 1 = true) (hI : infB P e 1 bytes = true)
    (hx : opd ρ n x = .slice A 0 0) (hy : opd ρ n y = u) (hS : Src w u m news) (hl : news.length = m) (hb : m * bytes ≤ 140737488355328) (hb1 : Nat.blt 0 bytes = true) :
    Ef P ρ n o w (fun v1 w1 => ∃ s : Sv, v1 = s.v ∧ Row (fun k => w.heap.size ≤ k) w1 s 1 (news.map fun z => [z]) ∧ Ag M0 w w1) := by
  obtain ⟨hu, _⟩ := sliceB_spec hT
  obtain ⟨i, z, hi, hz0, hs1, hs2, hs3⟩ := infB_spec hI
  obtain ⟨⟨A', c, rfl, hA0, hA1⟩, hone⟩ := hS
  have hb1' : 0 < bytes := by simpa [Nat.blt_eq] using hb1
  have hm47 : m ≤ 140737488355328 := Nat.le_trans (Nat.le_mul_of_pos_right _ hb1') hb
  have run : ∀ {u w'}, (Builtin.append_ #[T, T] o.type #[.slice A 0 0, .slice A' m c]).run P w = .ok u w' → Rn P ρ n o w u w' := by
    intro u w' h
    unfold Rn execOp
    simp [ho, hx, hy, resolve, invoke, builtin, h]
  by_cases h0 : m = 0
  · subst h0
    have hn : news = [] := List.eq_nil_of_length_eq_zero hl
    subst hn
    refine ⟨.slice A 0 0, w, ⟨⟨A, 0, 0⟩, rfl, ⟨rfl, Nat.le_refl _, Nat.zero_le _, .inl rfl⟩, Ag.refl _ _⟩, run ?_⟩
    cases A <;> cases A' <;> simp [Builtin.append_, run_underlying hu, sizeOf, typeInfo, hi, Builtin.lenOf, Builtin.firstCells, storeCells, loadCells, loadCellsFrom]
  · cases A' with
    | none => exact absurd (hA0 rfl).1 h0
    | some a =>
      have fin : ∀ (k : Nat) (w2 : World), w2 = w.drew.alloc (.cells (news.toArray ++ Builtin.zeroCells z.cells (k - m)) e) → m ≤ k → k ≤ maxLen →
          ∃ s : Sv, Value.slice (some ⟨w.heap.size, 0, none⟩) m k = s.v ∧ Row (fun k => w.heap.size ≤ k) w2 s 1 (news.map fun z => [z]) ∧ Ag M0 w w2 := by
        rintro k w2 rfl h1 h2
        have hO : Own (w.drew.alloc (.cells (news.toArray ++ Builtin.zeroCells z.cells (k - m)) e)) e 1 (.slice (some ⟨w.heap.size, 0, none⟩) m k) m (news.map fun z => [z]).flatten := by
          rw [show (news.map fun z => [z]).flatten = news from by rw [flat1 (fun z => z)]; simp]
          refine ⟨by omega, .inr ⟨w.heap.size, _, _, rfl, Nat.zero_le _, heap_alloc_new w.drew _, h1, h2, ?_, ?_⟩⟩
          · simp only [Array.size_append, List.size_toArray, size_zeroCells, hs3, hl]; omega
          · simp only [Array.toList_append]
            rw [Nat.mul_one, ← hl]
            exact List.take_left
        obtain ⟨s, h3, h4⟩ := hO.row (D := fun k => w.heap.size ≤ k) (fun cs hc => by obtain ⟨x, _, rfl⟩ := List.mem_map.1 hc; rfl) (by omega) (fun k hk => by simp [Value.ownBlock] at hk; omega) hm47
        exact ⟨s, h3, h4, ⟨rfl, rfl, rfl, by simp, fun k hk _ => Below.heap_alloc w.drew _ k hk⟩⟩
      cases A with
      | none =>
        have hr := run_append_nil (P := P) w T o.type e i z hu hi hz0 a m c news (by rw [hs1]; omega) (hA1 a rfl) (by omega) (by omega) (by rw [hs2]; omega)
        exact ⟨_, _, fin _ _ (by simp) (grownCap_ge w m 0 e) (grownCap_le_maxLen w m 0 e (by simp only [maxLen]; omega)), run hr⟩
      | some b =>
        have hr := run_append_grow (P := P) w T o.type e i z hu hi hz0 b 0 0 [] (by simp) (fun j u h => by simp at h) a m c news (by rw [hs1]; omega) (hA1 a rfl) (by omega) (by omega) (growslice_fits (by omega) (by rw [hs2, Nat.zero_add]; omega))
        simp only [Nat.zero_add] at hr
        exact ⟨_, _, fin _ _ (by simp) (grownCap_ge w m 0 e) (grownCap_le_maxLen w m 0 e (by simp only [maxLen]; omega)), run hr⟩
end
def Sv.take (s : Sv) (k : Nat) : Sv := ⟨s.a, k, s.c⟩
def Sv.drop (s : Sv) (k sz : Nat) : Sv := ⟨if s.c = k then s.a else s.a.map (fun x => x.add (k * sz)), s.n - k, s.c - k⟩
theorem Row.take {D : Nat → Prop} {w : World} {s : Sv} {sz : Nat} {css : List (List Value)} (h : Row D w s sz css) {k : Nat} (hk : k ≤ s.n) : Row D w (s.take k) sz (css.take k) := by
  have hl := h.len
  refine ⟨by simp [Sv.take]; omega, Nat.le_trans hk h.cap, Nat.le_trans hk h.bd, ?_⟩
  rcases h.el with h0 | ⟨b, off, cells, h1, h2, h3, h4⟩
  · exact .inl (by simp [Sv.take]; omega)
  · refine .inr ⟨b, off, cells, h1, h2, h3, fun i cs hi => ?_⟩
    rw [List.getElem?_take] at hi
    split at hi
    · exact h4 i cs hi
    · cases hi
theorem Row.drop {D : Nat → Prop} {w : World} {s : Sv} {sz : Nat} {css : List (List Value)} (h : Row D w s sz css) {k : Nat} (hk : k ≤ s.n) : Row D w (s.drop k sz) sz (css.drop k) := by
  have hl := h.len
  have hc := h.cap
  have hb := h.bd
  refine ⟨by simp [Sv.drop]; omega, by simp [Sv.drop]; omega, by simp [Sv.drop]; omega, ?_⟩
  rcases h.el with h0 | ⟨b, off, cells, h1, h2, h3, h4⟩
  · exact .inl (by simp [Sv.drop]; omega)
  · by_cases hz : s.n = k
    · exact .inl (by simp [Sv.drop]; omega)
    · refine .inr ⟨b, off + k * sz, cells, ?_, h2, h3, fun i cs hi => ?_⟩
      · have : ¬ s.c = k := by omega
        simp [Sv.drop, this, h1, add_at]
      · rw [List.getElem?_drop] at hi
        obtain ⟨q1, q2⟩ := h4 (k + i) cs hi
        refine ⟨q1, fun j hj => ?_⟩
        rw [← q2 j hj, Nat.add_mul]
        congr 1
        omega

/-! ### code.Reader -/
def brow (bs : List UInt8) : List (List Value) := bs.map fun b => [bv b]
theorem bvs_map (bs : List UInt8) : (bvs bs).map (fun z => [z]) = brow bs := by simp [bvs, brow]
theorem brow_length (bs : List UInt8) : (brow bs).length = bs.length := by simp [brow]
theorem brow_take (bs : List UInt8) (k : Nat) : (brow bs).take k = brow (bs.take k) := by simp [brow, List.map_take]
theorem brow_drop (bs : List UInt8) (k : Nat) : (brow bs).drop k = brow (bs.drop k) := by simp [brow, List.map_drop]
theorem brow_flat (bs : List UInt8) : (brow bs).flatten = bvs bs := by
  induction bs with
  | nil => rfl
  | cons b bs ih => simp [brow, bvs] at ih ⊢; exact ih
def rbD (rb : Nat) (D : Nat → Prop) : Nat → Prop := fun k => k ≠ rb ∧ D k
def rbM (rb : Nat) : Nat → Prop := fun k => k = rb
def Rd (T : TypeId) (D : Nat → Prop) (w : World) (rb : Nat) (st : List UInt8 × Bool) : Prop := ∃ s : Sv, Blk w rb [s.v, .bool st.2] T ∧ Row (rbD rb D) w s 1 (brow st.1)
theorem Rd.keep {M D : Nat → Prop} {T : TypeId} {w w1 : World} {rb : Nat} {st : List UInt8 × Bool} (h : Rd T D w rb st) (ha : Ag M w w1) (hr : ¬ M rb) (hn : ∀ k, k < w.heap.size → D k → ¬ M k) : Rd T D w1 rb st := by
  obtain ⟨s, h1, h2⟩ := h
  exact ⟨s, h1.keep ha hr, h2.keep ha (fun k hk hd => hn k hk hd.2)⟩
theorem Rd.keep0 {T : TypeId} {D : Nat → Prop} {w w1 : World} {rb : Nat} {st : List UInt8 × Bool} (h : Rd T D w rb st) (ha : Ag M0 w w1) : Rd T D w1 rb st := h.keep ha (fun h => h) (fun _ _ _ h => h)
theorem Rd.lt {T : TypeId} {D : Nat → Prop} {w : World} {rb : Nat} {st : List UInt8 × Bool} (h : Rd T D w rb st) : rb < w.heap.size := by
  obtain ⟨s, h1, h2⟩ := h
  exact h1.lt
theorem Rd.mono {T : TypeId} {D D' : Nat → Prop} {w : World} {rb : Nat} {st : List UInt8 × Bool} (h : Rd T D w rb st) (hd : ∀ k, k < w.heap.size → D k → D' k) : Rd T D' w rb st := by
  obtain ⟨s, h1, h2⟩ := h
  exact ⟨s, h1, h2.mono (fun k hk hD => ⟨hD.1, hd k hk hD.2⟩)⟩
def rtake (k : Int) (st : (List UInt8 × Bool)) : List UInt8 × (List UInt8 × Bool) := if st.2 = true ∨ k < 0 ∨ (st.1.length : Int) < k then ([], ([], true)) else (st.1.take k.toNat, (st.1.drop k.toNat, false))
theorem rtake_bad {k : Int} {st : (List UInt8 × Bool)} (h : st.2 = true ∨ k < 0 ∨ (st.1.length : Int) < k) : rtake k st = ([], ([], true)) := by unfold rtake; rw [if_pos h]
theorem rtake_ok {k : Int} {st : (List UInt8 × Bool)} (h1 : st.2 = false) (h2 : ¬ k < 0) (h3 : ¬ (st.1.length : Int) < k) : rtake k st = (st.1.take k.toNat, (st.1.drop k.toNat, false)) := by
  unfold rtake; rw [if_neg (by simp only [h1]; rintro (h | h | h) <;> simp_all)]
def beNat (l : List UInt8) : Nat := l.foldl (fun a b => a * 256 + b.toNat) 0
def decI (l : List UInt8) : Int := IntKind.i64.wrap (beNat l)
def rnum (st : (List UInt8 × Bool)) : Int × (List UInt8 × Bool) := (decI (rtake 8 st).1, (rtake 8 st).2)
def rin (lo hi : Int) (st : (List UInt8 × Bool)) : Int × (List UInt8 × Bool) := if lo ≤ (rnum st).1 ∧ (rnum st).1 ≤ hi ∧ (rnum st).2.2 = false then rnum st else (0, ([], true))
def rtext (most : Int) (st : (List UInt8 × Bool)) : ByteArray × (List UInt8 × Bool) :=
  let k : Int := beNat (rtake 4 st).1
  let r := rtake (if most < k then -1 else k) (rtake 4 st).2
  (⟨r.1.toArray⟩, r.2)
def rdig (st : (List UInt8 × Bool)) : Dig × (List UInt8 × Bool) := (if h : (rtake 32 st).1.length = 32 then ⟨(rtake 32 st).1, h⟩ else Dig.zero, (rtake 32 st).2)
def rgood (st : (List UInt8 × Bool)) : Bool := !st.2
def rend (st : (List UInt8 × Bool)) : Bool := !st.2 && st.1.isEmpty
end Go.Proofs.YtdebnncpclodcaaDoor.X
