/-
  What single operations do, and which memory they leave alone. No condition beyond those that the lemmas name.
-/
import Derived.Test.YtdebnncpclodcaaDoorXEng
namespace Go.Proofs.YtdebnncpclodcaaDoor.X
open Go.RowKit

/-! ### Worlds -/
/-- What was there is as it was, but for the blocks of M. -/
structure Ag (M : Nat → Prop) (w w1 : World) : Prop where
  os : w1.os = w.os
  tape : w1.tape = w.tape
  output : w1.output = w.output
  size : w.heap.size ≤ w1.heap.size
  keep : ∀ k, k < w.heap.size → ¬ M k → w1.heap[k]? = w.heap[k]?
def M0 : Nat → Prop := fun _ => False
theorem Ag.refl (M : Nat → Prop) (w : World) : Ag M w w := ⟨rfl, rfl, rfl, Nat.le_refl _, fun _ _ _ => rfl⟩
theorem Ag.step {M M' : Nat → Prop} {w w1 w2 : World} (h : Ag M w w1) (k : Ag M' w1 w2) (hm : ∀ i, i < w.heap.size → M' i → M i) : Ag M w w2 :=
  ⟨k.os.trans h.os, k.tape.trans h.tape, k.output.trans h.output, Nat.le_trans h.size k.size,
   fun i hi hn => (k.keep i (Nat.lt_of_lt_of_le hi h.size) (fun hm' => hn (hm i hi hm'))).trans (h.keep i hi hn)⟩
theorem Ag.mono {M M' : Nat → Prop} {w w1 : World} (h : Ag M w w1) (hm : ∀ i, i < w.heap.size → M i → M' i) : Ag M' w w1 :=
  ⟨h.os, h.tape, h.output, h.size, fun i hi hn => h.keep i hi (fun hm' => hn (hm i hi hm'))⟩
theorem Ag.below {w w1 : World} (h : Ag M0 w w1) : Below w.heap.size w w1 := ⟨h.os, h.tape, h.output, h.size, fun i hi => h.keep i hi (fun h => h)⟩
/-- A block of cells that may be written. -/
def Blk (w : World) (b : Nat) (cs : List Value) (T : TypeId) : Prop := w.heap[b]? = some (.cells cs.toArray T (0, 0))
theorem Blk.lt {w : World} {b : Nat} {cs : List Value} {T : TypeId} (h : Blk w b cs T) : b < w.heap.size := (Array.getElem?_eq_some_iff.1 h).1
theorem Blk.keep {M : Nat → Prop} {w w1 : World} {b : Nat} {cs : List Value} {T : TypeId} (h : Blk w b cs T) (ha : Ag M w w1) (hn : ¬ M b) : Blk w1 b cs T := (ha.keep b h.lt hn).trans h
theorem Blk.ne {w : World} {b b' : Nat} {cs cs' : List Value} {T T' : TypeId} (h : Blk w b cs T) (h' : Blk w b' cs' T') (ht : Nat.beq T T' = false) : b ≠ b' := by
  intro e; subst e
  unfold Blk at h h'
  rw [h] at h'
  injection h' with h'
  injection h' with _ h'
  subst h'
  simp at ht
theorem Blk.cell {w : World} {b : Nat} {cs : List Value} {T : TypeId} (h : Blk w b cs T) (i : Nat) : w.cell? ⟨b, i, none⟩ = cs[i]? := by
  unfold Blk at h
  simp [World.cell?, h]
/-- A new block. -/
structure Nw (w w1 : World) (g : Nat) (cs : List Value) (T : TypeId) : Prop where
  eq : w1 = w.alloc (.cells cs.toArray T (0, 0))
  at_ : g = w.heap.size
theorem Nw.ag {w w1 : World} {g : Nat} {cs : List Value} {T : TypeId} (h : Nw w w1 g cs T) : Ag M0 w w1 := by
  obtain ⟨rfl, rfl⟩ := h
  exact ⟨rfl, rfl, rfl, by simp, fun k hk _ => Below.heap_alloc _ _ _ hk⟩
theorem Nw.blk {w w1 : World} {g : Nat} {cs : List Value} {T : TypeId} (h : Nw w w1 g cs T) : Blk w1 g cs T := by
  obtain ⟨rfl, rfl⟩ := h
  exact heap_alloc_new _ _
theorem Nw.new {w w1 : World} {g : Nat} {cs : List Value} {T : TypeId} (h : Nw w w1 g cs T) : w.heap.size ≤ g := by
  rw [h.at_]; exact Nat.le_refl _
theorem Nw.ne {w w1 : World} {g b : Nat} {cs cs' : List Value} {T T' : TypeId} (h : Nw w w1 g cs T) (hb : Blk w b cs' T') : b ≠ g := by
  have := hb.lt
  have := h.new
  omega
/-- A block is written. -/
structure St (w w1 : World) (g : Nat) (cs : List Value) (T : TypeId) : Prop where
  blk : Blk w1 g cs T
  ag : Ag (fun k => k = g) w w1

section
variable {P : Program} {ops : Array Oper} {rest : List Oper} {o : Oper} {Q : Exit → Act → World → Prop} {ρ : Nat → Value} {n : Nat} {w w1 : World} {v : Value} {d : Nat}

def Ef (P : Program) (ρ : Nat → Value) (n : Nat) (o : Oper) (w : World) (R : Value → World → Prop) : Prop := ∃ v w1, R v w1 ∧ Rn P ρ n o w v w1
def Es (P : Program) (ρ : Nat → Value) (n : Nat) (o : Oper) (w : World) (R : World → Prop) : Prop := ∃ w1, R w1 ∧ Rs P ρ n o w w1
theorem le {R : Value → World → Prop} (hw : wnt ops ρ n o = true) (hr : Ef P ρ n o w R) (hd : o.dst = some d) (h : ∀ v w1, R v w1 → wpList P ops Q rest (E (upd ρ d v) n) w1) : wpList P ops Q (o :: rest) (E ρ n) w := by
  obtain ⟨v, w1, hR, hr⟩ := hr
  exact lv hw hr hd (h v w1 hR)
theorem lst {R : World → Prop} (hw : wnt ops ρ n o = true) (hr : Es P ρ n o w R) (hd : o.dst = none) (h : ∀ w1, R w1 → wpList P ops Q rest (E ρ n) w1) : wpList P ops Q (o :: rest) (E ρ n) w := by
  obtain ⟨w1, hR, hr⟩ := hr
  exact ls hw hr hd (h w1 hR)

/-! ### Moves, numbers, bools -/
theorem r_mv {x : Operand} (ho : o.op = .move x) (hx : opd ρ n x = v) : Rn P ρ n o w v w := by unfold Rn execOp; simp [ho, hx]
theorem r_as {x : Operand} (ho : o.op = .assign x) (hx : opd ρ n x = v) : Rn P ρ n o w v w := by unfold Rn execOp; simp [ho, hx]
theorem r_pkT {c x y : Operand} (ho : o.op = .pick c x y) (hc : opd ρ n c = .bool true) (hx : opd ρ n x = v) : Rn P ρ n o w v w := by unfold Rn execOp; simp [ho, hx, hc, asBool]
theorem r_pkF {c x y : Operand} (ho : o.op = .pick c x y) (hc : opd ρ n c = .bool false) (hx : opd ρ n y = v) : Rn P ρ n o w v w := by unfold Rn execOp; simp [ho, hx, hc, asBool]
theorem r_not {t : TypeId} {x : Operand} {b : Bool} (ho : o.op = .unOp .not t x) (hx : opd ρ n x = .bool b) : Rn P ρ n o w (.bool !b) w := by unfold Rn execOp; simp [ho, hx, Op.unary]
theorem r_ext {x : Operand} {vs : Array Value} {i : Nat} (ho : o.op = .extract x i) (hx : opd ρ n x = .tuple vs) (hi : vs[i]? = some v) : Rn P ρ n o w v w := by unfold Rn execOp; simp [ho, hx, Instr.extract, hi]
theorem r_nilc {x : Operand} {a : Addr} (ho : o.op = .nilCheck x) (hx : opd ρ n x = .pointer (some a)) : Rn P ρ n o w (.pointer (some a)) w := by unfold Rn execOp; simp [ho, hx]

theorem i64_in {x : Int} (h : -9223372036854775808 ≤ x ∧ x ≤ 9223372036854775807) : IntKind.i64.wrap x = x := IntWalk.i64_in x h
theorem r_add {x y : Operand} {t u : TypeId} {a b : Int} (ho : o.op = .binOp .add t x y u) (hx : opd ρ n x = .int .i64 a) (hy : opd ρ n y = .int .i64 b) (hb : -9223372036854775808 ≤ a + b ∧ a + b ≤ 9223372036854775807) : Rn P ρ n o w (.int .i64 (a + b)) w := by
  unfold Rn execOp; simp [ho, hx, hy, eqGuard, binOp, Op.intArith, i64_in hb]
theorem r_lss {x y : Operand} {t u : TypeId} {k : IntKind} {a b : Int} {c : Bool} (ho : o.op = .binOp .lss t x y u) (hx : opd ρ n x = .int k a) (hy : opd ρ n y = .int k b) (hc : decide (a < b) = c) : Rn P ρ n o w (.bool c) w := by
  subst hc; unfold Rn execOp; simp [ho, hx, hy, eqGuard, binOp, Op.intCmp]
theorem r_leq {x y : Operand} {t u : TypeId} {k : IntKind} {a b : Int} {c : Bool} (ho : o.op = .binOp .leq t x y u) (hx : opd ρ n x = .int k a) (hy : opd ρ n y = .int k b) (hc : decide (a ≤ b) = c) : Rn P ρ n o w (.bool c) w := by
  subst hc; unfold Rn execOp; simp [ho, hx, hy, eqGuard, binOp, Op.intCmp]
theorem r_gtr {x y : Operand} {t u : TypeId} {k : IntKind} {a b : Int} {c : Bool} (ho : o.op = .binOp .gtr t x y u) (hx : opd ρ n x = .int k a) (hy : opd ρ n y = .int k b) (hc : decide (b < a) = c) : Rn P ρ n o w (.bool c) w := by
  subst hc; unfold Rn execOp; simp [ho, hx, hy, eqGuard, binOp, Op.intCmp]
theorem r_geq {x y : Operand} {t u : TypeId} {k : IntKind} {a b : Int} {c : Bool} (ho : o.op = .binOp .geq t x y u) (hx : opd ρ n x = .int k a) (hy : opd ρ n y = .int k b) (hc : decide (b ≤ a) = c) : Rn P ρ n o w (.bool c) w := by
  subst hc; unfold Rn execOp; simp [ho, hx, hy, eqGuard, binOp, Op.intCmp]
theorem r_eql {x y : Operand} {t u : TypeId} {k : IntKind} {a b : Int} {c : Bool} (ho : o.op = .binOp .eql t x y u) (hx : opd ρ n x = .int k a) (hy : opd ρ n y = .int k b) (hc : decide (a = b) = c) : Rn P ρ n o w (.bool c) w := by
  subst hc; unfold Rn execOp; simp [ho, hx, hy, eqGuard, binOp, Op.intCmp]; rfl
theorem r_neq {x y : Operand} {t u : TypeId} {k : IntKind} {a b : Int} {c : Bool} (ho : o.op = .binOp .neq t x y u) (hx : opd ρ n x = .int k a) (hy : opd ρ n y = .int k b) (hc : decide (a ≠ b) = c) : Rn P ρ n o w (.bool c) w := by
  subst hc; unfold Rn execOp; simp [ho, hx, hy, eqGuard, binOp, Op.intCmp]; rfl

/-! ### Closed facts on types -/
def scalB (P : Program) (T : TypeId) : Bool :=
  (match P.underlying T with | some (.struct _) => false | some (.array _ _) => false | none => false | some _ => true) && ((P.info? T).map (·.size) == some 1)
def aggB (P : Program) (T : TypeId) (sz : Nat) : Bool :=
  (match P.underlying T with | some (.struct _) => true | some (.array _ _) => true | _ => false) && ((P.info? T).map (·.size) == some sz)
def fldB (P : Program) (S : TypeId) (f off : Nat) : Bool :=
  match P.underlying S with
  | some (.struct fs) => (match fs[f]? with
    | some x => x.offset == off && (match P.info? x.type with | some i => i.size != 0 | none => false)
    | none => false)
  | _ => false
def sliceB (P : Program) (T e : TypeId) (sz : Nat) : Bool :=
  (match P.underlying T with | some (.slice e') => e' == e | _ => false) && ((P.info? e).map (·.size) == some sz)
def arrB (P : Program) (T : TypeId) (n : Nat) (e : TypeId) (sz : Nat) : Bool :=
  (match P.underlying T with | some (.array n' e') => n' == n && e' == e | _ => false) && ((P.info? e).map (·.size) == some sz)

/-! ### Loads and stores -/
/-- A block of cells that is read. -/
def Cel (w : World) (b : Nat) (cs : List Value) : Prop := ∃ T fr, w.heap[b]? = some (.cells cs.toArray T fr)
theorem Cel.lt {w : World} {b : Nat} {cs : List Value} (h : Cel w b cs) : b < w.heap.size := by
  obtain ⟨T, fr, h⟩ := h
  exact (Array.getElem?_eq_some_iff.1 h).1
theorem Cel.keep {M : Nat → Prop} {w w1 : World} {b : Nat} {cs : List Value} (h : Cel w b cs) (ha : Ag M w w1) (hn : ¬ M b) : Cel w1 b cs := by
  have hl := h.lt
  obtain ⟨T, fr, h⟩ := h
  exact ⟨T, fr, (ha.keep b hl hn).trans h⟩
theorem Cel.cell {w : World} {b : Nat} {cs : List Value} (h : Cel w b cs) (i : Nat) : w.cell? ⟨b, i, none⟩ = cs[i]? := by
  obtain ⟨T, fr, h⟩ := h
  simp [World.cell?, h]
def Ones (cs : List Value) : Prop := ∀ v ∈ cs, v.oneCell' = true
theorem setRow_blk {g : Nat} {cs : List Value} {T : TypeId} (hB : Blk w g cs T) (cs' : List Value) : St w (w.setRow g cs'.toArray) g cs' T := by
  refine ⟨setRow_heap w g cs.toArray cs'.toArray T (0, 0) hB, ⟨rfl, rfl, rfl, by simp, fun k hk hn => setRow_other w g k _ hn⟩⟩
theorem run_stv {T : TypeId} {g i : Nat} {cs vs : List Value} {T' : TypeId} (hs : ((P.info? T).map (·.size) == some vs.length) = true) (hv : v.cells = vs.toArray) (hB : Blk w g cs T') (hl : i + vs.length ≤ cs.length) (h1 : Ones vs) :
    (storeVar T ⟨g, i, none⟩ v).run P w = .ok () (w.setRow g (cs.take i ++ vs ++ cs.drop (i + vs.length)).toArray) := by
  cases hq : P.info? T with
  | none => simp [hq] at hs
  | some inf =>
    have hz : inf.size = vs.length := by simpa [hq] using hs
    have := run_storeCells_at P g i T' vs 0 cs.toArray w hB (by simpa using hl) h1
    simp only [Nat.add_zero] at this
    simp [storeVar, sizeOf, typeInfo, hq, hv, hz, this]
/-! ### New blocks -/
theorem e_box {T : TypeId} {x : Operand} {cs : List Value} (ho : o.op = .box T x) (hx : opd ρ n x = v) (hc : v.cells = cs.toArray) : Ef P ρ n o w (fun u w1 => ∃ g, u = .pointer (some ⟨g, 0, none⟩) ∧ Nw w w1 g cs T) := by
  refine ⟨_, _, ⟨_, rfl, rfl, rfl⟩, ?_⟩
  unfold Rn execOp
  simp [ho, hx, Instr.box, newVar, newRow, hc]
/-- The zero value's cells. -/
def Zer (P : Program) (T : TypeId) (zs : List Value) : Prop := (P.info? T).map (fun i => i.zero.map (·.cells.toList)) = some (some zs)
theorem Zer.run {T : TypeId} {zs : List Value} (h : Zer P T zs) (w : World) : ∃ z, (zeroValue T).run P w = .ok z w ∧ z.cells = zs.toArray := by
  unfold Zer at h
  cases hi : P.info? T with
  | none => simp [hi] at h
  | some i =>
    cases hz : i.zero with
    | none => simp [hi, hz] at h
    | some z =>
      refine ⟨z, by simp [zeroValue, typeInfo, hi, hz], ?_⟩
      simp [hi, hz] at h
      rw [← h]
theorem e_al {T : TypeId} {zs : List Value} (ho : o.op = .alloc T) (hz : Zer P T zs) : Ef P ρ n o w (fun u w1 => ∃ g, u = .pointer (some ⟨g, 0, none⟩) ∧ Nw w w1 g zs T) := by
  obtain ⟨z, hr, hc⟩ := hz.run w
  refine ⟨_, _, ⟨_, rfl, rfl, rfl⟩, ?_⟩
  unfold Rn execOp
  simp [ho, Instr.alloc, newVar, newRow, hr, hc]

/-! ### Addresses -/
theorem add_at (b i j : Nat) : (⟨b, i, none⟩ : Addr).add j = ⟨b, i + j, none⟩ := by unfold Addr.add; split <;> simp_all
theorem r_fa {k : Nat} {S f off : Nat} {x : Operand} {b i : Nat} (ho : o.op = .fieldAddr S x f) (hS : fldB P S f off = true) (hx : opd ρ n x = .pointer (some ⟨b, i, none⟩)) (hk : i + off = k) : Rn P ρ n o w (.pointer (some ⟨b, k, none⟩)) w := by
  subst hk
  unfold fldB at hS
  cases hu : P.underlying S with
  | none => simp [hu] at hS
  | some d =>
    cases d <;> simp [hu] at hS
    rename_i fs
    cases hf : fs[f]? with
    | none => simp [hf] at hS
    | some x' =>
      simp [hf] at hS
      obtain ⟨h1, h2⟩ := hS
      cases hq : P.info? x'.type with
      | none => simp [hq] at h2
      | some inf =>
        simp [hq] at h2
        unfold Rn execOp
        simp [ho, hx, Instr.fieldAt, run_underlying hu, hf, Instr.sureAddr, fieldPlace, sizeOf, typeInfo, hq, h2, add_at, h1]
theorem sliceB_spec {T e sz : Nat} (h : sliceB P T e sz = true) : P.underlying T = some (.slice e) ∧ ∃ i, P.info? e = some i ∧ i.size = sz := by
  unfold sliceB at h
  cases hu : P.underlying T with
  | none => simp [hu] at h
  | some d =>
    cases d <;> simp [hu] at h
    obtain ⟨h0, h⟩ := h
    exact ⟨by rw [h0], h⟩
theorem arrB_spec {T m e sz : Nat} (h : arrB P T m e sz = true) : P.underlying T = some (.array m e) ∧ ∃ i, P.info? e = some i ∧ i.size = sz := by
  unfold arrB at h
  cases hu : P.underlying T with
  | none => simp [hu] at h
  | some d =>
    cases d <;> simp [hu] at h
    rename_i e'
    obtain ⟨⟨h0, h0'⟩, h⟩ := h
    exact ⟨by rw [h0, h0'], h⟩
/-- xs[i] of a slice. -/
theorem r_ixs {j : Nat} {T e sz : Nat} {x y : Operand} {b off len cap : Nat} {k : IntKind} {i : Int} (ho : o.op = .indexAddr T x y) (hT : sliceB P T e sz = true) (hx : opd ρ n x = .slice (some ⟨b, off, none⟩) len cap) (hy : opd ρ n y = .int k i)
    (h0 : 0 ≤ i) (h1 : i < len) (hj : off + i.toNat * sz = j) : Rn P ρ n o w (.pointer (some ⟨b, j, none⟩)) w := by
  subst hj
  obtain ⟨hu, inf, hq, rfl⟩ := sliceB_spec hT
  unfold Rn execOp
  simp [ho, hx, hy, Instr.indexAt, asIntOf, run_underlying hu, h0, h1, sizeOf, typeInfo, hq, add_at]
/-- a[i] of an array that lies in memory. -/
theorem r_ixa {j : Nat} {T e sz m : Nat} {x y : Operand} {b off : Nat} {k : IntKind} {i : Int} (ho : o.op = .indexAddr T x y) (hT : arrB P T m e sz = true) (hx : opd ρ n x = .pointer (some ⟨b, off, none⟩)) (hy : opd ρ n y = .int k i)
    (h0 : 0 ≤ i) (h1 : i < m) (hj : off + i.toNat * sz = j) : Rn P ρ n o w (.pointer (some ⟨b, j, none⟩)) w := by
  subst hj
  obtain ⟨hu, inf, hq, rfl⟩ := arrB_spec hT
  unfold Rn execOp
  simp [ho, hx, hy, Instr.indexAt, asIntOf, run_underlying hu, h0, h1, sizeOf, typeInfo, hq, add_at, Instr.sureAddr]
/-- len of a slice, of a string. -/
theorem r_len {T e sz : Nat} {x : Operand} {A : Option Addr} {len cap : Nat} (ho : o.op = .call { callee := .builtin .len, args := #[x], argTypes := #[T] }) (hT : sliceB P T e sz = true) (hx : opd ρ n x = .slice A len cap) : Rn P ρ n o w (.int .i64 len) w := by
  obtain ⟨hu, _⟩ := sliceB_spec hT
  unfold Rn execOp
  simp [ho, hx, resolve, invoke, builtin, Builtin.len_, run_underlying hu, goInt]
theorem r_lens {T : TypeId} {x : Operand} {s : ByteArray} (ho : o.op = .call { callee := .builtin .len, args := #[x], argTypes := #[T] }) (hT : P.underlying T = some .string) (hx : opd ρ n x = .string s) : Rn P ρ n o w (.int .i64 s.size) w := by
  unfold Rn execOp
  simp [ho, hx, resolve, invoke, builtin, Builtin.len_, run_underlying hT, goInt]
end
end Go.Proofs.YtdebnncpclodcaaDoor.X
