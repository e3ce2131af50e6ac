/-
  Bytes of numbers, shifts, literals of slices. No condition beyond those that the lemmas name.
-/
import Derived.Test.YtdebnncpclodcaaDoorXMore
namespace Go.Proofs.YtdebnncpclodcaaDoor.X
open Go.RowKit Go.Proofs.YtdebnncpclodcaaDoorW.PrintLast

/-- What is long enough for all that is written here, and short enough for Go. -/
def LIM : Nat := 1000000000000
theorem LIM_le {n : Nat} (h : n ≤ LIM) : n ≤ 1000000000000 := h

/-! ### A number's eight bytes, a length's four -/
def byteAt (x : Int) (k : Nat) : UInt8 := UInt8.ofNat ((x / 2 ^ k) % 256).toNat
def enc (x : Int) : List UInt8 := (List.range 8).map fun k => byteAt x (56 - 8 * k)
theorem enc_len (x : Int) : (enc x).length = 8 := by simp [enc]
theorem enc_take8 (x : Int) : (enc x).take 8 = enc x := List.take_of_length_le (by rw [enc_len]; omega)
theorem enc_take (x : Int) (k : Nat) (h : k < 8) : (enc x).take (k + 1) = (enc x).take k ++ [byteAt x (56 - 8 * k)] := by
  rw [List.take_succ_eq_append_getElem (by rw [enc_len]; exact h)]
  simp [enc]
def encs (xs : List Int) : List UInt8 := (xs.map enc).flatten
theorem encs_nil : encs [] = [] := rfl
theorem encs_cons (x : Int) (xs : List Int) : encs (x :: xs) = enc x ++ encs xs := by simp [encs]
theorem encs_append (xs ys : List Int) : encs (xs ++ ys) = encs xs ++ encs ys := by simp [encs]
theorem encs_len (xs : List Int) : (encs xs).length = 8 * xs.length := by
  induction xs with
  | nil => rfl
  | cons x xs ih => rw [encs_cons, List.length_append, enc_len, ih, List.length_cons]; omega
theorem take_snoc_of {α : Type} {xs : List α} {i : Nat} {x : α} (h : xs[i]? = some x) : xs.take (i + 1) = xs.take i ++ [x] := by
  obtain ⟨hi, rfl⟩ := List.getElem?_eq_some_iff.1 h
  exact List.take_succ_eq_append_getElem hi
theorem byteAt_nat (x : Int) (k : Nat) : ((byteAt x k).toNat : Int) = (x / 2 ^ k) % 256 := by
  unfold byteAt
  have h0 : 0 ≤ (x / 2 ^ k) % 256 := Int.emod_nonneg _ (by omega)
  have h1 : (x / 2 ^ k) % 256 < 256 := Int.emod_lt_of_pos _ (by omega)
  rw [UInt8.toNat_ofNat']
  omega
theorem emod_ediv_pow (x : Int) (a b : Nat) (h : b ≤ a) : (x % 2 ^ a) / 2 ^ b = (x / 2 ^ b) % 2 ^ (a - b) := by
  have e : (2 : Int) ^ a = 2 ^ b * 2 ^ (a - b) := by rw [← Int.pow_add]; congr 1; omega
  have hb : (0 : Int) < 2 ^ b := Int.pow_pos (by omega)
  rw [e]
  have h1 : x % (2 ^ b * 2 ^ (a - b)) = x - 2 ^ b * 2 ^ (a - b) * (x / (2 ^ b * 2 ^ (a - b))) := Int.emod_def _ _
  rw [h1, Int.emod_def (x / 2 ^ b), Int.mul_assoc, Int.sub_mul_ediv_left _ _ (by omega), ← Int.ediv_ediv_of_nonneg (by omega)]
theorem shr_byte (x : Int) (k : Nat) (h : k ≤ 56) : IntKind.u8.wrap ((IntKind.u64.wrap x).fdiv (2 ^ k)) = ((byteAt x k).toNat : Int) := by
  rw [byteAt_nat]
  have h64 : IntKind.u64.wrap x = x % 2 ^ 64 := by simp [IntKind.wrap, IntKind.signed, IntKind.bits]
  rw [h64, Int.fdiv_eq_ediv_of_nonneg _ (Int.pow_nonneg (by omega)), emod_ediv_pow x 64 k (by omega)]
  have h8 : ∀ y : Int, IntKind.u8.wrap y = y % 256 := fun y => by simp [IntKind.wrap, IntKind.signed, IntKind.bits]
  rw [h8]
  rw [Int.emod_emod_of_dvd _ (show (256 : Int) ∣ 2 ^ (64 - k) from by
    have : (2 : Int) ^ (64 - k) = 2 ^ 8 * 2 ^ (56 - k) := by rw [← Int.pow_add]; congr 1; omega
    rw [this]; exact ⟨_, rfl⟩)]

section
variable {P : Program} {ops : Array Oper} {rest : List Oper} {o : Oper} {Q : Exit → Act → World → Prop} {ρ : Nat → Value} {n : Nat} {w w1 : World} {v : Value} {d : Nat}

theorem r_shr {x y : Operand} {t u : TypeId} {k k' : IntKind} {a b : Int} (ho : o.op = .binOp .shr t x y u) (hx : opd ρ n x = .int k a) (hy : opd ρ n y = .int k' b) (h0 : 0 ≤ b) : Rn P ρ n o w (.int k (a.fdiv (2 ^ (min b.toNat k.bits)))) w := by
  have : ¬ b < 0 := by omega
  unfold Rn execOp
  simp [ho, hx, hy, eqGuard, binOp, Op.shift, this]
theorem r_shl {x y : Operand} {t u : TypeId} {k k' : IntKind} {a b : Int} (ho : o.op = .binOp .shl t x y u) (hx : opd ρ n x = .int k a) (hy : opd ρ n y = .int k' b) (h0 : 0 ≤ b) : Rn P ρ n o w (.int k (k.wrap (a * 2 ^ (min b.toNat k.bits)))) w := by
  have : ¬ b < 0 := by omega
  unfold Rn execOp
  simp [ho, hx, hy, eqGuard, binOp, Op.shift, this]
/-- The same value, spelled otherwise. -/
theorem Rn.as {v v' : Value} (h : Rn P ρ n o w v w1) (e : v = v') : Rn P ρ n o w v' w1 := e ▸ h

/-! ### What is appended -/
theorem Src.blk {b T m c : Nat} {cs : List Value} (hB : Blk w b cs T) (h1 : Ones cs) : Src w (.slice (some ⟨b, 0, none⟩) m c) m cs :=
  ⟨⟨_, _, rfl, ⟨fun h => (by cases h), fun a ha j u hj => (by cases ha; rw [add_at, hB.cell, Nat.zero_add]; exact hj)⟩⟩, h1⟩
theorem Src.nil : Src w (.slice none 0 0) 0 [] := ⟨⟨_, _, rfl, ⟨fun _ => ⟨rfl, rfl⟩, fun _ h => (by cases h)⟩⟩, Ones_nil⟩
theorem Row.src {D : Nat → Prop} {s : Sv} {css : List (List Value)} (h : Row D w s 1 css) (h1 : Ones css.flatten) : Src w s.v s.n css.flatten := by
  refine ⟨⟨s.a, s.c, rfl, ⟨fun hn => ?_, fun a ha j u hj => ?_⟩⟩, h1⟩
  · rcases h.el with h0 | ⟨b, off, cells, ha, _⟩
    · refine ⟨h0, ?_⟩
      have : css = [] := List.eq_nil_of_length_eq_zero (by rw [← h.len, h0])
      rw [this]; rfl
    · rw [hn] at ha; cases ha
  · rcases h.el with h0 | ⟨b, off, cells, ha', _, hC, hE⟩
    · have : css = [] := List.eq_nil_of_length_eq_zero (by rw [← h.len, h0])
      subst this; simp at hj
    · rw [ha] at ha'; cases ha'
      rw [add_at, hC.cell]
      have hsz : ∀ cs ∈ css, cs.length = 1 := fun cs hc => by
        obtain ⟨i, hi⟩ := List.getElem?_of_mem hc
        exact (hE i cs hi).1
      have key : ∀ (css : List (List Value)), (∀ cs ∈ css, cs.length = 1) → ∀ (j : Nat) (u : Value), css.flatten[j]? = some u → ∃ cs : List Value, css[j]? = some cs ∧ cs[0]? = some u := by
        intro css
        induction css with
        | nil => intro _ j u hj; simp at hj
        | cons c l ih =>
          intro hs j u hj
          have hc := hs c (by simp)
          cases j with
          | zero =>
            refine ⟨c, rfl, ?_⟩
            rw [← hj, List.flatten_cons, List.getElem?_append, if_pos (by omega)]
          | succ j =>
            obtain ⟨cs, h1, h2⟩ := ih (fun cs hc => hs cs (by simp [hc])) j u (by
              rw [← hj, List.flatten_cons, List.getElem?_append, if_neg (by omega)]
              congr 1; omega)
            exact ⟨cs, h1, h2⟩
      obtain ⟨cs, h1, h2⟩ := key css hsz j u hj
      have := (hE j cs h1).2 0 (by omega)
      rw [Nat.mul_one, Nat.add_zero] at this
      rw [this, h2]

theorem Own.src {e m : Nat} {xs : List Value} (h : Own w e 1 v m xs) (h1 : Ones xs) : Src w v m xs := by
  have hl : xs.length = m := by have := h.1; simpa using this
  rcases h.2 with ⟨rfl, rfl⟩ | ⟨g, cap, cur, rfl, _⟩
  · rw [List.eq_nil_of_length_eq_zero hl]; exact Src.nil
  · exact ⟨⟨_, _, rfl, ⟨fun h => (by cases h), fun a ha j u hj => (by cases ha; exact World.ownsRow.cells h (g := g) rfl j u hj)⟩⟩, h1⟩

/-! ### Literals of slices -/
theorem foldl_put (off : Nat) : ∀ (vs : List Value) (k : Nat) (cells : List Value), off + k + vs.length ≤ cells.length →
    (vs.zipIdx k).foldl (fun cs (x : Value × Nat) => cs.setIfInBounds (off + x.2) x.1) cells.toArray = (cells.take (off + k) ++ vs ++ cells.drop (off + k + vs.length)).toArray
  | [], k, cells, _ => by simp
  | v :: vs, k, cells, h => by
    simp only [List.length_cons] at h
    rw [List.zipIdx_cons, List.foldl_cons]
    have e : cells.toArray.setIfInBounds (off + k) v = (cells.set (off + k) v).toArray := by simp
    rw [show (cells.toArray.setIfInBounds (off + (v, k).2) (v, k).1) = _ from e]
    rw [foldl_put off vs (k + 1) (cells.set (off + k) v) (by simp; omega)]
    congr 1
    rw [show off + (k + 1) = off + k + 1 by omega, List.take_succ_eq_append_getElem (by simp; omega)]
    simp only [List.getElem_set_self, List.append_assoc, List.cons_append, List.nil_append, List.length_cons]
    rw [List.take_set_of_le (by omega), List.drop_set_of_lt (by omega)]
    congr 3
    congr 1
    omega
theorem fill_step (pl : Nat → Option (Nat × Nat)) {i off sz : Nat} {v : Value} {vs cells : List Value} (r : List (Nat × Value)) (hp : pl i = some (off, sz)) (hv : v.cells = vs.toArray) (hl : vs.length = sz) (hc : off + sz ≤ cells.length) :
    Instr.fill pl cells.toArray ((i, v) :: r) = Instr.fill pl (cells.take off ++ vs ++ cells.drop (off + sz)).toArray r := by
  have h := foldl_put off vs 0 cells (by omega)
  simp only [Nat.add_zero, hl] at h
  have h1 : ¬ (¬ v.cells.size = sz ∨ cells.toArray.size < off + v.cells.size) := by rw [hv]; simp; omega
  simp only [Instr.fill, hp]
  rw [if_neg (by simpa using h1)]
  congr 1
  rw [← h, hv, ← Array.foldl_toList]
  simp
theorem fill_row (sz : Nat) : ∀ (ps : List (Value × List Value)) (k : Nat) (cells : List Value), (∀ p ∈ ps, p.1.cells = p.2.toArray ∧ p.2.length = sz) → cells.length = (k + ps.length) * sz →
    Instr.fill (fun i => some (i * sz, sz)) cells.toArray ((ps.zipIdx k).map fun x => (x.2, x.1.1)) = some (cells.take (k * sz) ++ (ps.map (·.2)).flatten).toArray
  | [], k, cells, _, hc => by
    have : cells.take (k * sz) = cells := List.take_of_length_le (by simp at hc; omega)
    simp [Instr.fill, this]
  | p :: ps, k, cells, hp, hc => by
    obtain ⟨h1, h2⟩ := hp p (by simp)
    simp only [List.length_cons] at hc
    have hle : k * sz + sz ≤ cells.length := by
      rw [hc, ← Nat.succ_mul]; exact Nat.mul_le_mul_right _ (by omega)
    rw [List.zipIdx_cons, List.map_cons, fill_step _ _ rfl h1 h2 hle, fill_row sz ps (k + 1) _ (fun q hq => hp q (by simp [hq])) (by
      simp only [List.length_append, List.length_take, List.length_drop, h2]
      rw [Nat.min_eq_left (by omega)]
      have : cells.length = (k + 1 + ps.length) * sz := by rw [hc]; congr 1; omega
      omega)]
    congr 2
    rw [List.map_cons, List.flatten_cons, ← List.append_assoc]
    congr 1
    rw [List.take_append, List.take_of_length_le (by simp [h2, Nat.succ_mul]; omega)]
    simp only [List.length_append, List.length_take, h2]
    rw [Nat.min_eq_left (by omega), show (k + 1) * sz - (k * sz + sz) = 0 by rw [Nat.succ_mul]; omega]
    simp
theorem e_bs {T e sz N : Nat} {zs : List Value} {parts : List (Nat × Operand)} {ps : List (Value × List Value)} (ho : o.op = .buildSlice T N parts.toArray) (hT : sliceB P T e sz = true) (hz : Zer P e zs) (hp : parts.map (fun x => (x.1, opd ρ n x.2)) = (ps.zipIdx 0).map fun x => (x.2, x.1.1))
    (hN : ps.length = N) (hc : ∀ p ∈ ps, p.1.cells = p.2.toArray ∧ p.2.length = sz) (hs : Nat.ble (N * sz) 16777216 = true) (hs0 : Nat.blt 0 (N * sz) = true) :
    Ef P ρ n o w (fun u w1 => ∃ g, u = .slice (some ⟨g, 0, none⟩) N N ∧ Nw w w1 g (ps.map (·.2)).flatten e) := by
  obtain ⟨hu, inf, hi, hsz⟩ := sliceB_spec hT
  obtain ⟨z, hr, hzc⟩ := hz.run w
  have hs' : N * sz ≤ 16777216 := Nat.le_of_ble_eq_true hs
  have hs0' : 0 < N * sz := by simpa [Nat.blt_eq] using hs0
  have hs0' : ¬ N * sz = 0 := by omega
  have hf := fill_row sz ps 0 ((Array.range (N * sz)).map fun x => z.cells[x % z.cells.size]!).toList hc (by simp [hN])
  simp only [Nat.zero_mul, List.take_zero, List.nil_append, Array.toArray_toList] at hf
  refine ⟨_, _, ⟨_, rfl, rfl, rfl⟩, ?_⟩
  unfold Rn execOp
  have h1 : ¬ 16777216 < N * sz := by omega
  simp [ho, Instr.buildSlice, run_underlying hu, sizeOf, typeInfo, hi, hsz, h1, hs0', hr, hp, newRow]
  rw [hf]
  simp
theorem e_bs0 {T e sz : Nat} (ho : o.op = .buildSlice T 0 #[]) (hT : sliceB P T e sz = true) :
    Ef P ρ n o w (fun u w1 => ∃ g, u = .slice (some ⟨g, 0, none⟩) 0 0 ∧ Nw w w1 g [] e) := by
  obtain ⟨hu, inf, hi, hsz⟩ := sliceB_spec hT
  refine ⟨_, _, ⟨_, rfl, rfl, rfl⟩, ?_⟩
  unfold Rn execOp
  simp [ho, Instr.buildSlice, run_underlying hu, sizeOf, typeInfo, hi, Instr.fill, newRow]
  rw [show Array.range 0 = #[] from by simp]
  simp

/-! ### A writer that is written -/
theorem loc_le {v v1 : Value} {m k : Nat} (h : v1.ownBlock = v.ownBlock ∨ ∃ i, v1.ownBlock = some i ∧ m ≤ i) (hle : k ≤ m) : v1.ownBlock = v.ownBlock ∨ ∃ i, v1.ownBlock = some i ∧ k ≤ i :=
  h.imp id (fun ⟨i, h1, h2⟩ => ⟨i, h1, Nat.le_trans hle h2⟩)
theorem Wr.app {T e : TypeId} {wb : Nat} {bs news : List UInt8} {v v1 : Value} {w0 w1 w2 : World} (hO : Own w1 e 1 v1 (bs.length + news.length) (bvs bs ++ bvs news)) (hB : Blk w0 wb [v] T) (hne : ¬ rowM v wb) (hR : Ag (rowM v) w0 w1) (hlt : wb < w0.heap.size)
    (hloc : v1.ownBlock = v.ownBlock ∨ ∃ k, v1.ownBlock = some k ∧ w0.heap.size ≤ k) (hT : St w1 w2 wb [v1] T) : Wr T e w2 wb (bs ++ news) ∧ Fr (fpW wb) w0 w2 := by
  have hne1 : ¬ rowM v1 wb := by
    intro h
    rcases hloc with h1 | ⟨k, h1, h2⟩
    · exact hne (by unfold rowM at h ⊢; rw [← h1]; exact h)
    · unfold rowM at h; rw [h1] at h; cases h; omega
  have hf0 : ∀ k, fpW wb w0 k ↔ k = wb ∨ rowM v k := fun k => by unfold fpW rowM; rw [rowOf_blk hB]
  have hf2 : ∀ k, fpW wb w2 k ↔ k = wb ∨ rowM v1 k := fun k => by unfold fpW rowM; rw [rowOf_blk hT.blk]
  refine ⟨⟨v1, hT.blk, ?_, hne1⟩, ⟨?_, fun k hk hf => ?_⟩⟩
  · have := hO.keep hT.ag (fun k hk e => hne1 (by subst e; exact hk))
    simpa [bvs_append] using this
  · exact (hR.mono (fun i _ hi => (hf0 i).2 (.inr hi))).step hT.ag (fun i _ hi => (hf0 i).2 (.inl hi))
  · rcases (hf2 k).1 hf with h | h
    · exact (hf0 k).2 (.inl h)
    · refine (hf0 k).2 (.inr ?_)
      rcases hloc with h1 | ⟨j, h1, h2⟩
      · unfold rowM at h ⊢; rw [← h1]; exact h
      · unfold rowM at h; rw [h1] at h; cases h; omega
end
end Go.Proofs.YtdebnncpclodcaaDoor.X
