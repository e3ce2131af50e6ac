/-
  Operations, regions, calls and loops over one invariant of memory. No condition beyond those that the lemmas name.
-/
import Derived.Test.YtdebnncpclodcaaDoorXTabB
import Derived.Test.YtdebnncpclodcaaDoorXBits
set_option linter.unusedSimpArgs false
set_option linter.unusedVariables false
namespace Go.Proofs.YtdebnncpclodcaaDoor.X
open Go.RowKit Go.Proofs.YtdebnncpclodcaaDoorW.PrintLast

def wI (x : Int) : Int := IntKind.i64.wrap x
def shlI (a b : Int) : Int := IntKind.i64.wrap (a * 2 ^ (min b.toNat 64))
theorem wI_eq {x : Int} (h : -9223372036854775808 ≤ x ∧ x ≤ 9223372036854775807) : wI x = x := i64_in h
theorem Inv.keep {B : Base} {w : World} {H : Hp} {L : List Ent} (h : Inv B w H L) (m : List Bool) : Inv B w H (keepL m L) := h.sub (keepL_sub m L)
section
variable {P : Program} {ops : Array Oper} {rest : List Oper} {o : Oper} {Q : Exit → Act → World → Prop} {ρ : Nat → Value} {n : Nat} {w w1 : World} {v : Value} {d : Nat} {B : Base} {H : Hp} {L : List Ent}
theorem r_addn {x y : Operand} {t u : TypeId} {i : Nat} (ho : o.op = .binOp .add t x y u) (hx : opd ρ n x = .int .i64 (i : Int)) (hy : opd ρ n y = .int .i64 1) (h : (i : Int) + 1 ≤ 9223372036854775807) : Rn P ρ n o w (.int .i64 ((i + 1 : Nat) : Int)) w :=
  r_add ho hx hy (by omega)
theorem r_quo {x y : Operand} {t u : TypeId} {a b : Int} (ho : o.op = .binOp .quo t x y u) (hx : opd ρ n x = .int .i64 a) (hy : opd ρ n y = .int .i64 b) (hb : b ≠ 0) : Rn P ρ n o w (.int .i64 (wI (Int.tdiv a b))) w := by
  unfold Rn execOp; simp [ho, hx, hy, eqGuard, binOp, Op.intDiv, hb, wI]
theorem r_rem {x y : Operand} {t u : TypeId} {a b : Int} (ho : o.op = .binOp .rem t x y u) (hx : opd ρ n x = .int .i64 a) (hy : opd ρ n y = .int .i64 b) (hb : b ≠ 0) : Rn P ρ n o w (.int .i64 (Int.tmod a b)) w := by
  unfold Rn execOp; simp [ho, hx, hy, eqGuard, binOp, Op.intDiv, hb]
theorem r_shlI {x y : Operand} {t u : TypeId} {a b : Int} (ho : o.op = .binOp .shl t x y u) (hx : opd ρ n x = .int .i64 a) (hy : opd ρ n y = .int .i64 b) (hb : 0 ≤ b) : Rn P ρ n o w (.int .i64 (shlI a b)) w := r_shl ho hx hy hb
theorem r_lenS {α : Type} {t : Ty α} {T e sz : Nat} {x : Operand} {s : Sv} {xs : List α} (ho : o.op = .call { callee := .builtin .len, args := #[x], argTypes := #[T] }) (hT : sliceB P T e sz = true) (hx : opd ρ n x = s.v) (hs : Sl t H s xs) : Rn P ρ n o w (.int .i64 (xs.length : Int)) w := by
  rw [← hs.n]; exact r_len ho hT hx
theorem r_lenT {x : Operand} {T : TypeId} {l : List UInt8} (ho : o.op = .call { callee := .builtin .len, args := #[x], argTypes := #[T] }) (hT : P.underlying T = some .string) (hx : opd ρ n x = strv l) : Rn P ρ n o w (.int .i64 (l.length : Int)) w :=
  r_lens ho hT hx
theorem l_cvc {α : Type} {t : Ty α} {T e : TypeId} {x : Operand} {s : Sv} {xs : List α} (hI : Inv B w H L) (ho : o.op = .convert T T x) (hT : P.underlying T = some (.slice e)) (he : P.underlying e = some (.int .u8)) (hx : opd ρ n x = s.v) (hs : Sl t H s xs)
    (hl : ∃ g, s.a = some ⟨g, 0, none⟩ ∧ (B.M g ∨ B.w.heap.size ≤ g) ∧ (∀ x ∈ L, x.blk ≠ some g) ∧ ∃ cs, w.heap[g]? = some (.cells cs e (0, 0)) ∧ cs.size = s.n * t.sz) : Ef P ρ n o w (fun u w1 => u = s.v ∧ Inv B w1 H L) := by
  obtain ⟨g, hg, hloc, hG, cs, hc, hcs⟩ := hl
  have hsh : w.shape? g = some (e, cs.size) := by simp [World.shape?, hc]
  refine ⟨s.v, w.freeze ⟨g, cs.size, none⟩ 1, ⟨rfl, ?_⟩, ?_⟩
  · have ha : Ag (fun k => k = g) w (w.freeze ⟨g, cs.size, none⟩ 1) := by
      unfold World.freeze
      rw [if_neg (by decide)]
      exact ⟨rfl, rfl, rfl, by simp, fun k hk hn => by simp [Array.getElem?_modify, Ne.symm hn]⟩
    have hE : Ext (fun k => k = g) w H (w.freeze ⟨g, cs.size, none⟩ 1) H := ⟨ha, Hle.refl _, fun _ _ _ _ => rfl⟩
    refine ⟨hI.good.move hE (fun e' he' => .inl ⟨he', fun b hb hbg => hG e' he' (by rw [hb, hbg])⟩) ?_ hI.good.nd, hI.ext.step hE ?_, hI.loc⟩
    · intro b i v hv
      by_cases hb : b = g
      · subst hb
        have h1 := hI.good.cell b i v hv
        unfold World.cell? at h1 ⊢
        rw [hc] at h1
        have h2 : (w.freeze ⟨b, cs.size, none⟩ 1).heap[b]? = some (.cells cs e (cs.size, cs.size + 1)) := by
          unfold World.freeze
          rw [if_neg (by decide)]
          simp [Array.getElem?_modify, hc]
        simp only [h2]
        simpa using h1
      · exact cell_keep ha hb (hI.good.cell b i v hv)
    · rintro k hk rfl
      rcases hloc with h1 | h1
      · exact h1
      · omega
  · unfold Rn execOp
    have hv : s.v = .slice (some ⟨g, 0, none⟩) s.n s.c := by unfold Sv.v; rw [hg]
    simp [ho, hx, hv, convert, run_underlying hT, run_underlying he, markStringish, hsh]
end

/-! ### Numbers of other kinds -/
def u8I (x : Int) : UInt8 := UInt8.ofNat (IntKind.u8.wrap x).toNat
def u64I (x : Int) : UInt64 := UInt64.ofNat (IntKind.u64.wrap x).toNat
def u32I (x : Int) : UInt32 := UInt32.ofNat (IntKind.u32.wrap x).toNat
def shrQ (x : UInt64) (i : Int) : UInt64 := UInt64.ofNat (x.toNat / 2 ^ (min i.toNat 64))
def shlQ (x : UInt64) (i : Int) : UInt64 := u64I ((x.toNat : Int) * 2 ^ (min i.toNat 64))
def shrB (x : UInt8) (i : Int) : UInt8 := UInt8.ofNat (x.toNat / 2 ^ (min i.toNat 8))
def shrW (x : UInt32) (i : Int) : UInt32 := UInt32.ofNat (x.toNat / 2 ^ (min i.toNat 32))
def shlW (x : UInt32) (i : Int) : UInt32 := u32I ((x.toNat : Int) * 2 ^ (min i.toNat 32))
def shrI (a b : Int) : Int := Int.fdiv a (2 ^ (min b.toNat 64))
theorem u8I_v (x : Int) : (.int .u8 (IntKind.u8.wrap x) : Value) = bv (u8I x) := by
  unfold bv u8I
  have h : 0 ≤ IntKind.u8.wrap x ∧ IntKind.u8.wrap x < 256 := by rw [IntKind.wrap_u8]; omega
  rw [UInt8.toNat_ofNat']
  congr 1; omega
theorem u64I_v (x : Int) : (.int .u64 (IntKind.u64.wrap x) : Value) = u64v (u64I x) := by
  unfold u64v u64I
  have h : 0 ≤ IntKind.u64.wrap x ∧ IntKind.u64.wrap x < 18446744073709551616 := by rw [IntKind.wrap_u64]; omega
  rw [UInt64.toNat_ofNat']
  congr 1; omega
theorem u32I_v (x : Int) : (.int .u32 (IntKind.u32.wrap x) : Value) = u32v (u32I x) := by
  unfold u32v u32I
  have h : 0 ≤ IntKind.u32.wrap x ∧ IntKind.u32.wrap x < 4294967296 := by rw [IntKind.wrap_u32]; omega
  rw [UInt32.toNat_ofNat']
  congr 1; omega
section
variable {P : Program} {ops : Array Oper} {rest : List Oper} {o : Oper} {Q : Exit → Act → World → Prop} {ρ : Nat → Value} {n : Nat} {w w1 : World} {v : Value} {d : Nat} {B : Base} {H : Hp} {L : List Ent}
theorem c_i8 {S T : TypeId} {k0 k : IntKind} {x : Operand} {a : Int} (ho : o.op = .convert S T x) (hS : P.underlying S = some (.int k0)) (hT : P.underlying T = some (.int .u8)) (hx : opd ρ n x = .int k a) : Rn P ρ n o w (bv (u8I a)) w := by
  rw [← u8I_v]; exact r_cvi ho hS hT hx
theorem c_u64 {S T : TypeId} {k0 k : IntKind} {x : Operand} {a : Int} (ho : o.op = .convert S T x) (hS : P.underlying S = some (.int k0)) (hT : P.underlying T = some (.int .u64)) (hx : opd ρ n x = .int k a) : Rn P ρ n o w (u64v (u64I a)) w := by
  rw [← u64I_v]; exact r_cvi ho hS hT hx
theorem c_u32 {S T : TypeId} {k0 k : IntKind} {x : Operand} {a : Int} (ho : o.op = .convert S T x) (hS : P.underlying S = some (.int k0)) (hT : P.underlying T = some (.int .u32)) (hx : opd ρ n x = .int k a) : Rn P ρ n o w (u32v (u32I a)) w := by
  rw [← u32I_v]; exact r_cvi ho hS hT hx
theorem c_b8 {S T : TypeId} {k0 : IntKind} {x : Operand} {a : UInt8} (ho : o.op = .convert S T x) (hS : P.underlying S = some (.int k0)) (hT : P.underlying T = some (.int .i64)) (hx : opd ρ n x = bv a) : Rn P ρ n o w (.int .i64 (a.toNat : Int)) w := by
  have h := r_cvi (w := w) ho hS hT hx
  have ha := a.toNat_lt
  have : IntKind.i64.wrap (a.toNat : Int) = (a.toNat : Int) := i64_in (by omega)
  rw [this] at h; exact h
theorem r_shrQ {x y : Operand} {t u : TypeId} {a : UInt64} {b : Int} {k : IntKind} (ho : o.op = .binOp .shr t x y u) (hx : opd ρ n x = u64v a) (hy : opd ρ n y = .int k b) (hb : 0 ≤ b) : Rn P ρ n o w (u64v (shrQ a b)) w := by
  have h := r_shr (w := w) (P := P) (b := b) ho hx hy hb
  have : (.int .u64 ((a.toNat : Int).fdiv (2 ^ (min b.toNat 64))) : Value) = u64v (shrQ a b) := by
    unfold u64v shrQ
    have ha := a.toNat_lt
    rw [UInt64.toNat_ofNat']
    have h1 : (a.toNat : Int).fdiv (2 ^ (min b.toNat 64)) = ((a.toNat / 2 ^ (min b.toNat 64) : Nat) : Int) := by
      rw [Int.fdiv_eq_ediv_of_nonneg _ (by exact Int.le_of_lt (Int.pow_pos (by decide)))]
      simp
    rw [h1]
    have h2 : a.toNat / 2 ^ (min b.toNat 64) ≤ a.toNat := Nat.div_le_self _ _
    rw [Nat.mod_eq_of_lt (by omega)]
  rw [← this]; exact h
theorem r_shrI {x y : Operand} {t u : TypeId} {a b : Int} {k : IntKind} (ho : o.op = .binOp .shr t x y u) (hx : opd ρ n x = .int .i64 a) (hy : opd ρ n y = .int k b) (hb : 0 ≤ b) : Rn P ρ n o w (.int .i64 (shrI a b)) w := r_shr (b := b) ho hx hy hb
theorem r_shrB {x y : Operand} {t u : TypeId} {a : UInt8} {b : Int} {k : IntKind} (ho : o.op = .binOp .shr t x y u) (hx : opd ρ n x = bv a) (hy : opd ρ n y = .int k b) (hb : 0 ≤ b) : Rn P ρ n o w (bv (shrB a b)) w := by
  have h := r_shr (w := w) (P := P) (b := b) ho hx hy hb
  have : (.int .u8 ((a.toNat : Int).fdiv (2 ^ (min b.toNat 8))) : Value) = bv (shrB a b) := by
    unfold bv shrB
    have ha := a.toNat_lt
    rw [UInt8.toNat_ofNat']
    have h1 : (a.toNat : Int).fdiv (2 ^ (min b.toNat 8)) = ((a.toNat / 2 ^ (min b.toNat 8) : Nat) : Int) := by
      rw [Int.fdiv_eq_ediv_of_nonneg _ (by exact Int.le_of_lt (Int.pow_pos (by decide)))]
      simp
    rw [h1]
    have h2 : a.toNat / 2 ^ (min b.toNat 8) ≤ a.toNat := Nat.div_le_self _ _
    rw [Nat.mod_eq_of_lt (by omega)]
  rw [← this]; exact h

/-! ### Arrays in memory -/
theorem flatMap_flat_at {α : Type} (f : Fl α) : ∀ (l : List α) (i : Nat) (x : α), l[i]? = some x → ∀ k, k < f.sz → (l.flatMap fun a => flat (f.c a))[i * f.sz + k]? = (flat (f.c x))[k]?
  | [], i, x, h, k, hk => by simp at h
  | a :: l, 0, x, h, k, hk => by
    simp at h; subst h
    rw [Nat.zero_mul, Nat.zero_add, List.flatMap_cons, List.getElem?_append_left (by rw [flat_length, f.h]; exact hk)]
  | a :: l, i + 1, x, h, k, hk => by
    simp at h
    rw [List.flatMap_cons, List.getElem?_append_right (by rw [flat_length, f.h, Nat.add_mul]; omega), flat_length, f.h]
    have := flatMap_flat_at f l i x h k hk
    rw [← this]
    congr 1
    rw [Nat.add_mul]; omega
theorem CA.el {α : Type} {m : Nat} {f : Fl α} {vv : Vec α m} {b j off p : Nat} {cks : List Ck} (h : CA w b j cks) (hp : atB cks off p 1 (m * f.sz) = true) (hc : cks[p]? = some (ckV f vv)) {i : Nat} {x : α} (hi : vv.l[i]? = some x) {q : Nat} (hq : q = j + off + i * f.sz) : CA w b q (f.c x) := by
  subst hq
  intro k v hk
  have hk' : k < f.sz := by have := (List.getElem?_eq_some_iff.1 hk).1; rwa [flat_length, f.h] at this
  have hi' : i < m := by have := (List.getElem?_eq_some_iff.1 hi).1; rwa [vv.h] at this
  have hlt : i * f.sz + k < m * f.sz := by
    have : (i + 1) * f.sz ≤ m * f.sz := Nat.mul_le_mul_right _ hi'
    rw [Nat.add_mul] at this; omega
  have h1 := flat_at hp (i * f.sz + k) hlt
  have hd : (cks.drop p).take 1 = [ckV f vv] := by
    rw [List.getElem?_eq_some_iff] at hc
    obtain ⟨hl, hc⟩ := hc
    rw [List.drop_eq_getElem_cons hl, hc]; rfl
  rw [hd] at h1
  have h2 : (flat [ckV f vv])[i * f.sz + k]? = some v := by
    show ((vv.l.flatMap fun a => flat (f.c a)) ++ [])[i * f.sz + k]? = some v
    rw [List.append_nil, flatMap_flat_at f vv.l i x hi k hk', hk]
  have := h (off + (i * f.sz + k)) v (h1.trans h2)
  rwa [← Nat.add_assoc, ← Nat.add_assoc] at this
theorem At.el {α : Type} {m : Nat} {f : Fl α} {vv : Vec α m} {b j off p : Nat} {cks : List Ck} (h : At H b j cks) (hp : atB cks off p 1 (m * f.sz) = true) (hc : cks[p]? = some (ckV f vv)) : ∀ (i : Nat) (x : α), vv.l[i]? = some x → ∀ k v, (flat (f.c x))[k]? = some v → H b (j + off + i * f.sz + k) = some v := by
  intro i x hi k v hk
  have hk' : k < f.sz := by have := (List.getElem?_eq_some_iff.1 hk).1; rwa [flat_length, f.h] at this
  have hi' : i < m := by have := (List.getElem?_eq_some_iff.1 hi).1; rwa [vv.h] at this
  have hlt : i * f.sz + k < m * f.sz := by
    have : (i + 1) * f.sz ≤ m * f.sz := Nat.mul_le_mul_right _ hi'
    rw [Nat.add_mul] at this; omega
  have h1 := flat_at hp (i * f.sz + k) hlt
  have hd : (cks.drop p).take 1 = [ckV f vv] := by
    rw [List.getElem?_eq_some_iff] at hc
    obtain ⟨hl, hc⟩ := hc
    rw [List.drop_eq_getElem_cons hl, hc]; rfl
  rw [hd] at h1
  have h2 : (flat [ckV f vv])[i * f.sz + k]? = some v := by
    show ((vv.l.flatMap fun a => flat (f.c a)) ++ [])[i * f.sz + k]? = some v
    rw [List.append_nil, flatMap_flat_at f vv.l i x hi k hk', hk]
  have := h (off + (i * f.sz + k)) v (h1.trans h2)
  rwa [← Nat.add_assoc, ← Nat.add_assoc] at this
/-- An array that is known, as a slice. -/
theorem At.sl {α : Type} {m : Nat} {f : Fl α} {vv : Vec α m} {b j off p : Nat} {cks : List Ck} (h : At H b j cks) (hp : atB cks off p 1 (m * f.sz) = true) (hc : cks[p]? = some (ckV f vv)) (hm : Nat.ble m 140737488355328 = true) : Sl f.ty H ⟨some ⟨b, j + off, none⟩, m, m⟩ vv.l :=
  ⟨vv.h.symm, Nat.le_refl _, by simpa [Nat.ble_eq] using hm, fun i x hi => ⟨b, j + off, _, rfl, rfl, fun k v hk => h.el hp hc i x hi k v hk⟩⟩
theorem r_sla' {T e m sz : Nat} {x : Operand} {b q : Nat} (ho : o.op = .slice T x none none none) (hA : arrB P T m e sz = true) (hx : opd ρ n x = .pointer (some ⟨b, q, none⟩)) : Rn P ρ n o w (Sv.mk (some ⟨b, q, none⟩) m m).v w := by
  obtain ⟨hu, inf, hq, rfl⟩ := arrB_spec hA
  unfold Rn execOp
  simp [ho, hx, Instr.sliceAt, run_underlying hu, Instr.sureAddr, Instr.sliceBounds, sizeOf, typeInfo, hq, add_at, Sv.v]
theorem r_ixq {T e sz m i q off b : Nat} {x y : Operand} {z : Int} (ho : o.op = .indexAddr T x y) (hT : arrB P T m e sz = true) (hx : opd ρ n x = .pointer (some ⟨b, off, none⟩)) (hy : opd ρ n y = .int .i64 z) (hz : z = (i : Int)) (hl : i < m) (hq : q = off + i * sz) : Rn P ρ n o w (.pointer (some ⟨b, q + 0, none⟩)) w := by
  subst hz
  exact r_ixa ho hT hx hy (by omega) (by omega) (by rw [hq]; simp)
theorem Vec.lt {α : Type} {m : Nat} {vv : Vec α m} {i : Nat} {x : α} (h : vv.l[i]? = some x) : i < m := by
  have := (List.getElem?_eq_some_iff.1 h).1; rwa [vv.h] at this
theorem take_app {β : Type} {A C : List β} {n k m : Nat} (h : A.length = n) (hm : m = n + k) : (A ++ C).take m = A ++ C.take k := by
  subst hm; subst h
  rw [List.take_append, List.take_of_length_le (by omega), Nat.add_sub_cancel_left]
theorem drop_app {β : Type} {A C : List β} {n k m : Nat} (h : A.length = n) (hm : m = n + k) : (A ++ C).drop m = C.drop k := by
  subst hm; subst h
  rw [List.drop_append, List.drop_eq_nil_of_le (by omega), List.nil_append, Nat.add_sub_cancel_left]
theorem flatMap_set {α : Type} (f : Fl α) (x : α) : ∀ (l : List α) (i : Nat), i < l.length → ((l.set i x).flatMap fun a => flat (f.c a)) = (l.flatMap fun a => flat (f.c a)).take (i * f.sz) ++ flat (f.c x) ++ (l.flatMap fun a => flat (f.c a)).drop (i * f.sz + f.sz)
  | [], i, h => by simp at h
  | a :: l, 0, h => by
    rw [List.set_cons_zero, List.flatMap_cons, List.flatMap_cons, Nat.zero_mul, List.take_zero, List.nil_append, Nat.zero_add, List.drop_left' (by rw [flat_length, f.h])]
  | a :: l, i + 1, h => by
    simp at h
    rw [List.set_cons_succ, List.flatMap_cons, List.flatMap_cons, flatMap_set f x l i h]
    have h1 : (flat (f.c a)).length = f.sz := by rw [flat_length, f.h]
    have e1 : (i + 1) * f.sz = f.sz + i * f.sz := by rw [Nat.add_mul]; omega
    rw [take_app h1 e1, drop_app h1 (show (i + 1) * f.sz + f.sz = f.sz + (i * f.sz + f.sz) by omega)]
    simp only [List.append_assoc]
/-- A store into an element of an array of one's own. -/
theorem l_sta {α : Type} {m : Nat} {f : Fl α} {vv : Vec α m} {x0 x1 : α} {T : TypeId} {x y : Operand} {g q off p k : Nat} {cks cks' : List Ck} {T' : TypeId} (hI : Inv B w H L) (i : Nat) (hL : L[i]? = some (.cb g cks T')) (ho : o.op = .store T x y) (hs : ((P.info? T).map (·.size) == some f.sz) = true)
    (hx : opd ρ n x = .pointer (some ⟨g, q + 0, none⟩)) (hq : q = 0 + off + k * f.sz) (hy : opd ρ n y = v) (hv : v.cells = (flat (f.c x1)).toArray) (hp : atB cks off p 1 (m * f.sz) = true) (hc : cks[p]? = some (ckV f vv)) (hk : vv.l[k]? = some x0) (hc' : cks.set p (ckV f (vv.set k x1)) = cks') :
    Es P ρ n o w (fun w1 => Inv B w1 H (L.set i (.cb g cks' T'))) := by
  subst hc'
  have hok := hI.good.ok _ (List.mem_of_getElem? hL)
  have hB : Blk w g (flat cks) T' := hok.1
  have hkm := Vec.lt hk
  obtain ⟨hp1, hp2⟩ := atB_spec hp
  have hsp := flat_split cks p 1
  have hpl := (List.getElem?_eq_some_iff.1 hc).1
  have hd : (cks.drop p).take 1 = [ckV f vv] := by
    obtain ⟨hl, hc⟩ := List.getElem?_eq_some_iff.1 hc
    rw [List.drop_eq_getElem_cons hl, hc]; rfl
  have hfv : flat [ckV f vv] = vv.l.flatMap fun a => flat (f.c a) := by
    show ((vv.l.flatMap fun a => flat (f.c a)) ++ []) = _
    rw [List.append_nil]
  have hfl : (vv.l.flatMap fun a => flat (f.c a)).length = m * f.sz := by rw [cat_length, vv.h]
  have hkm' : k * f.sz + f.sz ≤ m * f.sz := by have := Nat.mul_le_mul_right f.sz (show k + 1 ≤ m from hkm); rwa [Nat.add_mul, Nat.one_mul] at this
  rw [hd, hfv] at hsp
  have hxl : (flat (f.c x1)).length = f.sz := by rw [flat_length, f.h]
  have h1 : (flat (cks.take p)).length = off := by rw [flat_length, hp1]
  have hlen : (flat cks).length = off + (m * f.sz + (flat (cks.drop (p + 1))).length) := by
    rw [hsp, List.length_append, List.length_append, h1, hfl]
  have hr := run_stv (P := P) (T := T) (g := g) (i := off + k * f.sz) (vs := flat (f.c x1)) (by rw [hxl]; exact hs) hv hB (by rw [hxl, hlen]; omega) (flat_ones _)
  have he : (flat cks).take (off + k * f.sz) ++ flat (f.c x1) ++ (flat cks).drop (off + k * f.sz + (flat (f.c x1)).length) = flat (cks.set p (ckV f (vv.set k x1))) := by
    have hset : flat (cks.set p (ckV f (vv.set k x1))) = flat (cks.take p) ++ (((vv.l.set k x1).flatMap fun a => flat (f.c a)) ++ flat (cks.drop (p + 1))) := by
      rw [List.set_eq_take_append_cons_drop, if_pos hpl, flat_append]
      rfl
    rw [hset, flatMap_set f x1 vv.l k (by rw [vv.h]; exact hkm), hxl, hsp]
    rw [take_app h1 (rfl : off + k * f.sz = off + k * f.sz), drop_app h1 (show off + k * f.sz + f.sz = off + (k * f.sz + f.sz) by omega)]
    rw [List.take_append_of_le_length (by rw [hfl]; omega), List.drop_append_of_le_length (by rw [hfl]; omega)]
    simp only [List.append_assoc]
  rw [he] at hr
  have hS := setRow_blk hB (flat (cks.set p (ckV f (vv.set k x1))))
  refine ⟨_, hI.put i hL rfl rfl hok.2 hS.ag ⟨hS.blk, hok.2⟩, ?_⟩
  unfold Rs execOp
  rw [Nat.add_zero, hq, Nat.zero_add] at hx
  simp [ho, hx, hy, Instr.storeAt, Instr.sureAddr, hr]

/-! ### Strings -/
end
end Go.Proofs.YtdebnncpclodcaaDoor.X
