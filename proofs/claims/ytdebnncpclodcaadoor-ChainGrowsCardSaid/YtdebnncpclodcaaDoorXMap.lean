/-
  Maps with string keys from which nothing is deleted. No condition beyond those that the lemmas name.
-/
import Derived.Test.YtdebnncpclodcaaDoorXCodeC
import Derived.Maps.RangeRun
import Derived.WideMake
set_option linter.unusedSimpArgs false
namespace Go.Proofs.YtdebnncpclodcaaDoor.X
open Go.RowKit
open Go.ChangeMaps (setBlock)

/-! ### Maps with string keys, from which nothing is deleted -/
def ent1 (p : (ByteArray × Value) × Nat) : MapEntry := { key := .string p.1.1, val := p.1.2, born := p.2 }
def ent (l : (List (ByteArray × Value))) : List MapEntry := l.zipIdx.map ent1
def Mp (w : World) (m : Nat) (l : (List (ByteArray × Value))) : Prop := w.heap[m]? = some (.map (ent l).toArray l.length)
theorem Mp.lt {w : World} {m : Nat} {l : (List (ByteArray × Value))} (h : Mp w m l) : m < w.heap.size := (Array.getElem?_eq_some_iff.1 h).1
theorem Mp.keep {M : Nat → Prop} {w w1 : World} {m : Nat} {l : (List (ByteArray × Value))} (h : Mp w m l) (ha : Ag M w w1) (hn : ¬ M m) : Mp w1 m l := (ha.keep m h.lt hn).trans h
theorem Mp.ne {w : World} {m b : Nat} {l : (List (ByteArray × Value))} {cs : List Value} {T : TypeId} (h : Mp w m l) (h' : Blk w b cs T) : m ≠ b := by
  intro e; subst e
  unfold Mp at h; unfold Blk at h'
  rw [h] at h'; cases h'

section
variable {P : Program} {o : Oper} {ρ : Nat → Value} {n : Nat} {w w1 : World} {v : Value} {d : Nat}
def zvB (P : Program) (T : TypeId) (v : Value) : Prop := (P.info? T).map (·.zero) = some (some v)
theorem zvB.run {T : TypeId} {v : Value} (h : zvB P T v) (w : World) : (zeroValue T).run P w = .ok v w := by
  unfold zvB at h
  cases hi : P.info? T with
  | none => simp [hi] at h
  | some i =>
    simp [hi] at h
    simp [zeroValue, typeInfo, Sem.run, hi, h, Result.andThen]
/-! ### A round over a map -/
/-- The iterator r over the map m: the entries at L are left. -/
def It (w : World) (r m : Nat) (l : (List (ByteArray × Value))) (L : List Nat) : Prop := ∃ (seen : Array Nat) (c : Nat), w.heap[r]? = some (.mapIter (some m) l.length seen c) ∧ l.length ≤ c ∧ (leftOf (ent l).toArray seen).toList.map (·.born) = L
def ItAt (w : World) (r m : Nat) (l : (List (ByteArray × Value))) (i : Nat) : Prop := ∃ seen : Array Nat, w.heap[r]? = some (.mapIter (some m) l.length (seen.push i) l.length)
theorem It.lt {r m : Nat} {l : (List (ByteArray × Value))} {L : List Nat} (h : It w r m l L) : r < w.heap.size := by
  obtain ⟨seen, c, h1, _⟩ := h
  exact (Array.getElem?_eq_some_iff.1 h1).1
theorem It.keep {M : Nat → Prop} {r m : Nat} {l : (List (ByteArray × Value))} {L : List Nat} (h : It w r m l L) (ha : Ag M w w1) (hn : ¬ M r) : It w1 r m l L := by
  have hl := h.lt
  obtain ⟨seen, c, h1, h2⟩ := h
  exact ⟨seen, c, (ha.keep r hl hn).trans h1, h2⟩
theorem It.ne {r m b : Nat} {l : (List (ByteArray × Value))} {L : List Nat} {cs : List Value} {T : TypeId} (h : It w r m l L) (h' : Blk w b cs T) : r ≠ b := by
  obtain ⟨seen, c, h1, _⟩ := h
  intro e; subst e
  unfold Blk at h'
  rw [h1] at h'; cases h'
theorem ItAt.keep {M : Nat → Prop} {r m : Nat} {l : (List (ByteArray × Value))} {i : Nat} (h : ItAt w r m l i) (ha : Ag M w w1) (hn : ¬ M r) : ItAt w1 r m l i := by
  obtain ⟨seen, h1⟩ := h
  exact ⟨seen, (ha.keep r (Array.getElem?_eq_some_iff.1 h1).1 hn).trans h1⟩
end
end Go.Proofs.YtdebnncpclodcaaDoor.X
