/-
  Operations that laws use: min, max, equal strings, conversions, make. No condition beyond those that the lemmas name.
-/
import Derived.Test.YtdebnncpclodcaaDoorXDisk
import Derived.Laws.OwnMore
import Derived.Laws.BytesString
import Derived.Laws.Strings
import Derived.Lib.SlBytesConst
import Derived.Lib.SlicesS
set_option linter.unusedSimpArgs false
set_option linter.unusedVariables false
namespace Go.Proofs.YtdebnncpclodcaaDoor.X
open Go.RowKit

section
variable {P : Program} {o : Oper} {ρ : Nat → Value} {n : Nat} {w w1 : World} {v : Value} {d : Nat}
theorem r_max {x y : Operand} {k k' : IntKind} {a b c : Int} {ts : Array TypeId} (ho : o.op = .call { callee := .builtin .max, args := #[x, y], argTypes := ts }) (hx : opd ρ n x = .int k a) (hy : opd ρ n y = .int k' b) (hc : (if b > a then b else a) = c) : Rn P ρ n o w (.int k c) w := by
  unfold Rn execOp
  simp only [ho]
  simp [resolve, invoke, builtin, hx, hy, run_max_int2, ← hc]
theorem r_min {x y : Operand} {k k' : IntKind} {a b c : Int} {ts : Array TypeId} (ho : o.op = .call { callee := .builtin .min, args := #[x, y], argTypes := ts }) (hx : opd ρ n x = .int k a) (hy : opd ρ n y = .int k' b) (hc : (if b < a then b else a) = c) : Rn P ρ n o w (.int k c) w := by
  unfold Rn execOp
  simp only [ho]
  simp [resolve, invoke, builtin, hx, hy, run_min_int2, ← hc]
theorem r_seq {x y : Operand} {t u : TypeId} {a b : ByteArray} {c : Bool} (ho : o.op = .binOp .eql t x y u) (hx : opd ρ n x = .string a) (hy : opd ρ n y = .string b) (hc : decide (a = b) = c) : Rn P ρ n o w (.bool c) w := by
  have h : (a.toList == b.toList) = c := by
    rw [← hc]
    by_cases h : a = b
    · rw [(Lib.bytes_beq_iff _ _).2 h]; simp [h]
    · rw [(Lib.bytes_beq_false_iff _ _).2 h]; simp [h]
  unfold Rn execOp; simp [ho, hx, hy, eqGuard_at_string, binOp_string_eql, h]
theorem push_bytes (bs : List UInt8) : ∀ s : ByteArray, (bs.map fun b => (b.toNat : Int)).foldl (fun (r : ByteArray) (n : Int) => r.push (UInt8.ofNat n.toNat)) s = ⟨s.data ++ bs.toArray⟩ := by
  induction bs with
  | nil => intro s; simp
  | cons b bs ih =>
    intro s
    simp only [List.map_cons, List.foldl_cons, ih]
    simp [ByteArray.push]
theorem r_b2s {D : Nat → Prop} {S T e : TypeId} {x : Operand} {s : Sv} {bs : List UInt8} (ho : o.op = .convert S T x) (hS : P.underlying S = some (.slice e)) (he : P.underlying e = some (.int .u8)) (hT : P.underlying T = some .string)
    (hx : opd ρ n x = s.v) (hR : Row D w s 1 (brow bs)) : Rn P ρ n o w (.string ⟨bs.toArray⟩) w := by
  have hsrc := hR.src (by rw [brow_flat]; exact Ones_bvs _)
  rw [brow_flat] at hsrc
  have hlen := hR.len
  rw [brow_length] at hlen
  obtain ⟨A, c, hv, h0, h1⟩ := hsrc.at_
  have hrun : (convert S T s.v).run P w = .ok (.string ⟨bs.toArray⟩) w := by
    rw [hv]
    rw [run_convert_bytes_string w S T e A s.n c hS he hT]
    cases A with
    | none =>
      obtain ⟨h2, h3⟩ := h0 rfl
      have : bs = [] := by simpa [bvs] using h3
      subst this
      simp [Conv.bytesToString]
      rfl
    | some a =>
      have hl : (loadCells a s.n).run P w = .ok ((bs.map fun b => (b.toNat : Int)).map (Value.int .u8)).toArray w := by
        have := run_loadCells_list (P := P) w a (bvs bs) (fun j u hj => h1 a rfl j u hj)
        rw [bvs_length, ← hlen] at this
        rw [this]
        simp [bvs, bv, Function.comp_def]
      rw [run_bytesToString w a s.n c _ hl, push_bytes]
      congr 2
      simp [ByteArray.empty, ByteArray.emptyWithCapacity]
      rfl
  unfold Rn execOp
  simp [ho, hx, hrun]
theorem e_cvc {T e : TypeId} {x : Operand} {b : Nat} {bs : List UInt8} (ho : o.op = .convert T T x) (hT : P.underlying T = some (.slice e)) (he : P.underlying e = some (.int .u8)) (hx : opd ρ n x = .slice (some ⟨b, 0, none⟩) bs.length bs.length) (hB : Blk w b (bvs bs) e) (hl : bs.length ≤ LIM) :
    Ef P ρ n o w (fun u w1 => ∃ s : Sv, u = s.v ∧ Row (fun k => k = b) w1 s 1 (brow bs) ∧ Ag (fun k => k = b) w w1) := by
  have hlim := LIM_le hl
  have hsh : w.shape? b = some (e, bs.length) := by
    unfold Blk at hB
    unfold World.shape?
    rw [hB]; simp [bvs_length]
  refine ⟨_, w.freeze ⟨b, bs.length, none⟩ 1, ⟨⟨some ⟨b, 0, none⟩, bs.length, bs.length⟩, rfl, ?_, ?_⟩, ?_⟩
  · refine ⟨by simp [brow_length], Nat.le_refl _, by simp only []; omega, .inr ⟨b, 0, bvs bs, rfl, rfl, ?_, ?_⟩⟩
    · unfold World.freeze
      rw [if_neg (by decide)]
      unfold Blk at hB
      have hlt := (Array.getElem?_eq_some_iff.1 hB).1
      refine ⟨e, (bs.length, bs.length + 1), ?_⟩
      simp only [Array.getElem?_modify, hB]
      simp
    · intro i cs hi
      rw [brow, List.getElem?_map] at hi
      cases hb : bs[i]? with
      | none => simp [hb] at hi
      | some z =>
        simp [hb] at hi; subst hi
        refine ⟨rfl, fun j hj => ?_⟩
        have : j = 0 := by omega
        subst this
        simp [bvs, hb]
  · unfold World.freeze
    rw [if_neg (by decide)]
    exact ⟨rfl, rfl, rfl, by simp, fun k hk hn => by simp [Array.getElem?_modify, Ne.symm hn]⟩
  · unfold Rn execOp
    simp [ho, hx, convert, run_underlying hT, run_underlying he, markStringish, hsh]
    rfl
theorem e_ms {T e : TypeId} {x y : Operand} {k k' : IntKind} {m : Nat} (ho : o.op = .makeSlice T x y) (hT : sliceB P T e 1 = true) (hI : infB P e 1 1 = true) (hz : zvB P e (.int .u8 0)) (hx : opd ρ n x = .int k (m : Int)) (hy : opd ρ n y = .int k' (m : Int)) (hm : m ≤ 16777216) :
    Ef P ρ n o w (fun u w1 => ∃ s : Sv, u = s.v ∧ Row (fun k => w.heap.size ≤ k) w1 s 1 (brow (List.replicate m 0)) ∧ Ag M0 w w1) := by
  obtain ⟨hu, _⟩ := sliceB_spec hT
  obtain ⟨i, z, hi, hz0, hs1, hs2, hs3⟩ := infB_spec hI
  have hzz : z = .int .u8 0 := by
    unfold zvB at hz
    simp [hi, hz0] at hz
    exact hz
  subst hzz
  obtain ⟨w', hr, h2, h3⟩ := run_makeSlice_full (P := P) w w.heap.size T e i _ 1 hu hi hz0 hs1 k k' m (by omega) (by rw [hs2]; omega) (by simp only [maxLen]; omega) (Nat.le_refl _)
  have hxs : (madeCells (Value.int .u8 0).cells (m * 1)).toList = (brow (List.replicate m 0)).flatten := by
    rw [brow_flat]
    apply List.ext_getElem?
    intro j
    by_cases h : j < m
    · simp [madeCells, Value.cells, bvs, bv, h, Nat.mod_one]
    · simp [madeCells, bvs, h]
  rw [hxs] at h2
  obtain ⟨s, e1, e2⟩ := Own.row (D := fun k => w.heap.size ≤ k) (show Own w' e 1 _ m _ from ⟨h2.1, h2.2.imp id (fun ⟨g, cap, cur, h⟩ => ⟨g, cap, cur, h.1, Nat.zero_le _, h.2.2⟩)⟩) (fun cs hc => by obtain ⟨x, _, rfl⟩ := List.mem_map.1 hc; rfl) (by decide) (fun k hk => by cases hk; exact Nat.le_refl _) (by omega)
  refine ⟨_, _, ⟨s, e1, e2, (Ag.of_grown h3).mono (fun k _ h => by cases h)⟩, ?_⟩
  unfold Rn execOp
  simp [ho, hx, hy, hr, Result.andThen]
end
theorem LIM_ge {n : Nat} (h : n ≤ 1000000000000) : n ≤ LIM := by unfold LIM; exact h
theorem one_abs {fs : List F} {x : ByteArray × List UInt8 × List UInt8} (h : fs.map F.abs = [x]) : ∃ f, fs = [f] ∧ f.abs = x := by
  cases fs with
  | nil => simp at h
  | cons f l =>
    simp at h
    exact ⟨f, by rw [h.2], h.1⟩
end Go.Proofs.YtdebnncpclodcaaDoor.X
