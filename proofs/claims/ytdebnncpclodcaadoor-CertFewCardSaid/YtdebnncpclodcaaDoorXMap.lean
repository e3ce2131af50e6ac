/-
  Maps with string keys from which nothing is deleted. No condition beyond those that the lemmas name.
-/
import Derived.Test.YtdebnncpclodcaaDoorXCodeC
import Derived.Maps.RangeRun
import Derived.WideMake
set_option linter.unusedSimpArgs false
namespace Go.Proofs.YtdebnncpclodcaaDoor.X
open Go.RowKit
open Go.ChangeMaps (setBlock)

/-! ### Maps with string keys, from which nothing is deleted -/
def ent1 (p : (ByteArray × Value) × Nat) : MapEntry := { key := .string p.1.1, val := p.1.2, born := p.2 }
def ent (l : (List (ByteArray × Value))) : List MapEntry := l.zipIdx.map ent1
theorem ent_get (l : (List (ByteArray × Value))) (i : Nat) : (ent l)[i]? = (l[i]?).map fun p => ent1 (p, i) := by
  simp [ent, List.getElem?_map, List.getElem?_zipIdx, Function.comp_def]
theorem ent_length (l : (List (ByteArray × Value))) : (ent l).length = l.length := by simp [ent]
theorem ent_born (l : (List (ByteArray × Value))) : (ent l).map (·.born) = List.range l.length := by
  apply List.ext_getElem?
  intro i
  rw [List.getElem?_map, ent_get]
  by_cases h : i < l.length
  · simp [h, ent1]
  · simp [h]
theorem ent_mem {l : (List (ByteArray × Value))} {e : MapEntry} (h : e ∈ ent l) : ∃ p, l[e.born]? = some p ∧ e = ent1 (p, e.born) := by
  obtain ⟨i, hi⟩ := List.getElem?_of_mem h
  rw [ent_get] at hi
  cases hl : l[i]? with
  | none => simp [hl] at hi
  | some p => simp [hl] at hi; subst hi; exact ⟨p, hl, rfl⟩
def Mp (w : World) (m : Nat) (l : (List (ByteArray × Value))) : Prop := w.heap[m]? = some (.map (ent l).toArray l.length)
theorem Mp.lt {w : World} {m : Nat} {l : (List (ByteArray × Value))} (h : Mp w m l) : m < w.heap.size := (Array.getElem?_eq_some_iff.1 h).1
theorem Mp.keep {M : Nat → Prop} {w w1 : World} {m : Nat} {l : (List (ByteArray × Value))} (h : Mp w m l) (ha : Ag M w w1) (hn : ¬ M m) : Mp w1 m l := (ha.keep m h.lt hn).trans h
theorem Mp.keep0 {w w1 : World} {m : Nat} {l : (List (ByteArray × Value))} (h : Mp w m l) (ha : Ag M0 w w1) : Mp w1 m l := h.keep ha (fun h => h)
theorem Mp.ne {w : World} {m b : Nat} {l : (List (ByteArray × Value))} {cs : List Value} {T : TypeId} (h : Mp w m l) (h' : Blk w b cs T) : m ≠ b := by
  intro e; subst e
  unfold Mp at h; unfold Blk at h'
  rw [h] at h'; cases h'

theorem bytes_ne {a b : ByteArray} (h : a ≠ b) : (a == b) = false := by
  cases hq : a == b
  · rfl
  · exact absurd ((MapKept.bytes_beq _ _).1 hq) h
theorem bytes_self (a : ByteArray) : (a == a) = true := (MapKept.bytes_beq _ _).2 rfl
theorem find_none (k : ByteArray) : ∀ (l : (List (ByteArray × Value))) (s j : Nat), (∀ p ∈ l, p.1 ≠ k) → Instr.findNow .string (.string k) ((l.zipIdx s).map ent1) j = some none
  | [], _, _, _ => rfl
  | p :: l, s, j, h => by
    have h1 : (k == p.1) = false := bytes_ne (fun e => h p (by simp) e.symm)
    simp only [List.zipIdx_cons, List.map_cons, Instr.findNow, ent1, Instr.sameNow, h1]
    exact find_none k l (s + 1) (j + 1) (fun q hq => h q (by simp [hq]))
theorem find_some (k : ByteArray) (v : Value) (l2 : (List (ByteArray × Value))) : ∀ (l1 : (List (ByteArray × Value))) (s j : Nat), (∀ p ∈ l1, p.1 ≠ k) → Instr.findNow .string (.string k) (((l1 ++ (k, v) :: l2).zipIdx s).map ent1) j = some (some (j + l1.length, v))
  | [], s, j, _ => by simp [Instr.findNow, ent1, Instr.sameNow, bytes_self]
  | p :: l, s, j, h => by
    have h1 : (k == p.1) = false := bytes_ne (fun e => h p (by simp) e.symm)
    simp only [List.cons_append, List.zipIdx_cons, List.map_cons, Instr.findNow, ent1, Instr.sameNow, h1]
    rw [find_some k v l2 l (s + 1) (j + 1) (fun q hq => h q (by simp [hq]))]
    simp; omega

section
variable {P : Program} {o : Oper} {ρ : Nat → Value} {n : Nat} {w w1 : World} {v : Value} {d : Nat}
theorem e_mm {T : TypeId} (ho : o.op = .makeMap T none) : Ef P ρ n o w (fun u w1 => ∃ m, u = .map (some m) ∧ Mp w1 m [] ∧ w.heap.size ≤ m ∧ Ag M0 w w1) := by
  refine ⟨_, w.alloc (.map #[] 0), ⟨w.heap.size, rfl, heap_alloc_new _ _, Nat.le_refl _, ⟨rfl, rfl, rfl, by simp, fun k hk _ => Below.heap_alloc _ _ _ hk⟩⟩, ?_⟩
  unfold Rn execOp
  simp [ho, Instr.makeMap]
def zvB (P : Program) (T : TypeId) (v : Value) : Prop := (P.info? T).map (·.zero) = some (some v)
theorem zvB.run {T : TypeId} {v : Value} (h : zvB P T v) (w : World) : (zeroValue T).run P w = .ok v w := by
  unfold zvB at h
  cases hi : P.info? T with
  | none => simp [hi] at h
  | some i =>
    simp [hi] at h
    simp [zeroValue, typeInfo, Sem.run, hi, h, Result.andThen]
theorem r_lk0 {T K Z : TypeId} {x y : Operand} {m : Nat} {l : (List (ByteArray × Value))} {k : ByteArray} {z : Value} (ho : o.op = .lookup T x y false) (hT : P.underlying T = some (.map K Z)) (hK : P.underlying K = some .string) (hz : zvB P Z z)
    (hx : opd ρ n x = .map (some m)) (hy : opd ρ n y = .string k) (hM : Mp w m l) (hk : ∀ p ∈ l, p.1 ≠ k) : Rn P ρ n o w z w := by
  unfold Rn execOp
  have hc : ∀ b, (Instr.checkKey b 10000 K (.string k)).run P w = .ok () w := fun b => MapKept.run_checkKey (k := .string k) hK (by simp [MapKept.IsKey]) b 9999
  have hf : Instr.findNow .string (.string k) (ent l) 0 = some none := find_none k l 0 0 hk
  simp [ho, hx, hy, Instr.lookup, run_underlying hT, MapKept.run_getObj_map hM, hc, MapKept.run_findKey hK hf, hz.run, Result.andThen]
theorem r_lk1 {T K Z : TypeId} {x y : Operand} {m : Nat} {l l1 l2 : (List (ByteArray × Value))} {k : ByteArray} {z : Value} (ho : o.op = .lookup T x y false) (hT : P.underlying T = some (.map K Z)) (hK : P.underlying K = some .string)
    (hx : opd ρ n x = .map (some m)) (hy : opd ρ n y = .string k) (hM : Mp w m l) (hl : l = l1 ++ (k, z) :: l2) (hk : ∀ p ∈ l1, p.1 ≠ k) : Rn P ρ n o w z w := by
  subst hl
  unfold Rn execOp
  have hc : ∀ b, (Instr.checkKey b 10000 K (.string k)).run P w = .ok () w := fun b => MapKept.run_checkKey (k := .string k) hK (by simp [MapKept.IsKey]) b 9999
  have hf : Instr.findNow .string (.string k) (ent (l1 ++ (k, z) :: l2)) 0 = some (some (0 + l1.length, z)) := find_some k z l2 l1 0 0 hk
  simp [ho, hx, hy, Instr.lookup, run_underlying hT, MapKept.run_getObj_map hM, hc, MapKept.run_findKey hK hf, Result.andThen]
theorem setBlock_ag {m : Nat} {ob : Obj} : Ag (fun k => k = m) w (setBlock w m ob) :=
  ⟨rfl, rfl, rfl, by simp [setBlock], fun k _ hn => by simp [setBlock, Ne.symm hn]⟩
theorem e_mu0 {T K Z : TypeId} {x y z : Operand} {m : Nat} {l : (List (ByteArray × Value))} {k : ByteArray} (ho : o.op = .mapUpdate T x y z) (hT : P.underlying T = some (.map K Z)) (hK : P.underlying K = some .string)
    (hx : opd ρ n x = .map (some m)) (hy : opd ρ n y = .string k) (hz : opd ρ n z = v) (hM : Mp w m l) (hk : ∀ p ∈ l, p.1 ≠ k) : Es P ρ n o w (fun w1 => Mp w1 m (l ++ [(k, v)]) ∧ Ag (fun i => i = m) w w1) := by
  have hc : ∀ b, (Instr.checkKey b 10000 K (.string k)).run P w = .ok () w := fun b => MapKept.run_checkKey (k := .string k) hK (by simp [MapKept.IsKey]) b 9999
  have hf : Instr.findNow .string (.string k) (ent l) 0 = some none := find_none k l 0 0 hk
  have he : (ent l).toArray.push { key := .string k, val := v, born := l.length } = (ent (l ++ [(k, v)])).toArray := by
    simp [ent, List.zipIdx_append, ent1]
  refine ⟨setBlock w m (.map (ent (l ++ [(k, v)])).toArray (l.length + 1)), ⟨?_, setBlock_ag⟩, ?_⟩
  · unfold Mp setBlock
    have := hM.lt
    simp [this]
  · unfold Rs execOp
    simp only [ho, hx, hy, hz, Instr.mapUpdate, Sem.run_bind, run_underlying hT, MapKept.run_getObj_map hM, hc, MapKept.run_findKey hK hf, MapKept.run_setObj_map _ hM, Result.andThen, he, setBlock]
    rfl
theorem e_mu1 {T K Z : TypeId} {x y z : Operand} {m : Nat} {l l1 l2 : (List (ByteArray × Value))} {k : ByteArray} {v0 : Value} (ho : o.op = .mapUpdate T x y z) (hT : P.underlying T = some (.map K Z)) (hK : P.underlying K = some .string)
    (hx : opd ρ n x = .map (some m)) (hy : opd ρ n y = .string k) (hz : opd ρ n z = v) (hM : Mp w m l) (hl : l = l1 ++ (k, v0) :: l2) (hk : ∀ p ∈ l1, p.1 ≠ k) : Es P ρ n o w (fun w1 => Mp w1 m (l1 ++ (k, v) :: l2) ∧ Ag (fun i => i = m) w w1) := by
  subst hl
  have hc : ∀ b, (Instr.checkKey b 10000 K (.string k)).run P w = .ok () w := fun b => MapKept.run_checkKey (k := .string k) hK (by simp [MapKept.IsKey]) b 9999
  have hf : Instr.findNow .string (.string k) (ent (l1 ++ (k, v0) :: l2)) 0 = some (some (0 + l1.length, v0)) := find_some k v0 l2 l1 0 0 hk
  have hst := MapKept.run_keyThatStays (P := P) (w := w) (d := .string) (k := .string k) (by simp [MapKept.IsKey])
  have he : (ent (l1 ++ (k, v0) :: l2)).toArray.modify l1.length (fun e => { e with key := .string k, val := v }) = (ent (l1 ++ (k, v) :: l2)).toArray := by
    apply Array.ext_getElem?
    intro i
    rw [Array.getElem?_modify]
    simp only [List.getElem?_toArray, ent_get]
    by_cases h : l1.length = i
    · subst h; simp [ent1]
    · simp only [h, if_false]
      rcases Nat.lt_or_ge i l1.length with h1 | h1
      · simp [List.getElem?_append_left h1]
      · rw [List.getElem?_append_right h1, List.getElem?_append_right h1]
        obtain ⟨j, hj⟩ : ∃ j, i - l1.length = j + 1 := ⟨i - l1.length - 1, by omega⟩
        simp [hj]
  have hkey : (((ent (l1 ++ (k, v0) :: l2)).toArray[l1.length]?).map (·.key)).getD (.string k) = .string k := by
    rw [List.getElem?_toArray, ent_get]; simp [ent1]
  refine ⟨setBlock w m (.map (ent (l1 ++ (k, v) :: l2)).toArray (l1 ++ (k, v0) :: l2).length), ⟨?_, setBlock_ag⟩, ?_⟩
  · unfold Mp setBlock
    have := hM.lt
    simp [this]
  · unfold Rs execOp
    simp only [ho, hx, hy, hz, Instr.mapUpdate, Sem.run_bind, run_underlying hT, MapKept.run_getObj_map hM, hc, MapKept.run_findKey hK hf, Result.andThen, Nat.zero_add, hkey, hst, MapKept.run_setObj_map _ hM, he, setBlock]
    rfl

/-! ### A round over a map -/
/-- The iterator r over the map m: the entries at L are left. -/
def It (w : World) (r m : Nat) (l : (List (ByteArray × Value))) (L : List Nat) : Prop := ∃ (seen : Array Nat) (c : Nat), w.heap[r]? = some (.mapIter (some m) l.length seen c) ∧ l.length ≤ c ∧ (leftOf (ent l).toArray seen).toList.map (·.born) = L
def ItAt (w : World) (r m : Nat) (l : (List (ByteArray × Value))) (i : Nat) : Prop := ∃ seen : Array Nat, w.heap[r]? = some (.mapIter (some m) l.length (seen.push i) l.length)
theorem It.lt {r m : Nat} {l : (List (ByteArray × Value))} {L : List Nat} (h : It w r m l L) : r < w.heap.size := by
  obtain ⟨seen, c, h1, _⟩ := h
  exact (Array.getElem?_eq_some_iff.1 h1).1
theorem It.keep {M : Nat → Prop} {r m : Nat} {l : (List (ByteArray × Value))} {L : List Nat} (h : It w r m l L) (ha : Ag M w w1) (hn : ¬ M r) : It w1 r m l L := by
  have hl := h.lt
  obtain ⟨seen, c, h1, h2⟩ := h
  exact ⟨seen, c, (ha.keep r hl hn).trans h1, h2⟩
theorem It.ne {r m b : Nat} {l : (List (ByteArray × Value))} {L : List Nat} {cs : List Value} {T : TypeId} (h : It w r m l L) (h' : Blk w b cs T) : r ≠ b := by
  obtain ⟨seen, c, h1, _⟩ := h
  intro e; subst e
  unfold Blk at h'
  rw [h1] at h'; cases h'
theorem It.ne' {r m b : Nat} {l l' : (List (ByteArray × Value))} {L : List Nat} (h : It w r m l L) (h' : Mp w b l') : r ≠ b := by
  obtain ⟨seen, c, h1, _⟩ := h
  intro e; subst e
  unfold Mp at h'
  rw [h1] at h'; cases h'
theorem ItAt.keep {M : Nat → Prop} {r m : Nat} {l : (List (ByteArray × Value))} {i : Nat} (h : ItAt w r m l i) (ha : Ag M w w1) (hn : ¬ M r) : ItAt w1 r m l i := by
  obtain ⟨seen, h1⟩ := h
  exact ⟨seen, (ha.keep r (Array.getElem?_eq_some_iff.1 h1).1 hn).trans h1⟩
theorem e_rg {T K Z : TypeId} {x : Operand} {m : Nat} {l : (List (ByteArray × Value))} (ho : o.op = .range T x) (hT : P.underlying T = some (.map K Z)) (hx : opd ρ n x = .map (some m)) (hM : Mp w m l) :
    Ef P ρ n o w (fun u w1 => ∃ r, u = .pointer (some ⟨r, 0, none⟩) ∧ It w1 r m l (List.range l.length) ∧ w.heap.size ≤ r ∧ Ag M0 w w1) := by
  refine ⟨_, w.alloc (.mapIter (some m) l.length #[] l.length), ⟨w.heap.size, rfl, ⟨#[], _, heap_alloc_new _ _, Nat.le_refl _, ?_⟩, Nat.le_refl _, ⟨rfl, rfl, rfl, by simp, fun k hk _ => Below.heap_alloc _ _ _ hk⟩⟩, ?_⟩
  · have : leftOf (ent l).toArray #[] = (ent l).toArray := by simp [leftOf]
    rw [this]; exact ent_born l
  · unfold Rn execOp
    have := run_range_map w T K Z m _ _ hT hM
    simp only [ho, hx]
    simp [this, Result.andThen]
theorem left_push (es : Array MapEntry) (seen : Array Nat) (i : Nat) : (leftOf es (seen.push i)).toList.map (·.born) = ((leftOf es seen).toList.map (·.born)).filter (· != i) := by
  simp only [leftOf, Array.toList_filter, List.filter_map, List.filter_filter]
  congr 1
  apply List.filter_congr
  intro e _
  by_cases h : e.born = i <;> simp [Array.contains_push, bne, h]
theorem e_nx {x : Operand} {r m : Nat} {l : (List (ByteArray × Value))} {L : List Nat} (ho : o.op = .next x false) (hx : opd ρ n x = .pointer (some ⟨r, 0, none⟩)) (hM : Mp w m l) (hI : It w r m l L) :
    Ef P ρ n o w (fun u w1 => (L = [] ∧ u = .tuple #[.bool false] ∧ w1 = w) ∨ ∃ i p, i ∈ L ∧ l[i]? = some p ∧ u = .tuple #[.bool true, .string p.1, p.2] ∧ It w1 r m l (L.filter (· != i)) ∧ ItAt w1 r m l i ∧ Ag (fun k => k = r) w w1) := by
  have hne := hI.ne' hM
  obtain ⟨seen, c, h1, h2, rfl⟩ := hI
  have hold : ∀ z ∈ (ent l).toArray.toList, z.born < l.length := by
    intro z hz
    obtain ⟨p, hp, _⟩ := ent_mem (by simpa using hz)
    exact (List.getElem?_eq_some_iff.1 hp).1
  rcases run_next_at (P := P) w o.type r m l.length c seen _ _ h1 hM hold h2 with ⟨h3, h4⟩ | ⟨e, h3, w2, h4, h5⟩
  · refine ⟨_, _, .inl ⟨?_, rfl, rfl⟩, ?_⟩
    · have : leftOf (ent l).toArray seen = #[] := Array.eq_empty_of_size_eq_zero h3
      simp [this]
    · unfold Rn execOp
      simp [ho, hx, h4, Result.andThen]
  · have hm : e ∈ ent l := by
      have := h3
      simp [leftOf] at this
      exact this.1
    obtain ⟨p, hp, he⟩ := ent_mem hm
    have hr2 : r < w2.heap.size := by
      have := (Array.getElem?_eq_some_iff.1 h1).1
      rcases h4 with rfl | rfl <;> exact this
    have hA : Ag (fun k => k = r) w (setBlock w2 r (.mapIter (some m) l.length (seen.push e.born) l.length)) := by
      rcases h4 with rfl | rfl
      · exact setBlock_ag
      · exact (show Ag (fun k => k = r) w w.drew from ⟨rfl, rfl, rfl, Nat.le_refl _, fun _ _ _ => rfl⟩).step setBlock_ag (fun _ _ h => h)
    refine ⟨_, _, .inr ⟨e.born, p, List.mem_map.2 ⟨e, h3, rfl⟩, hp, rfl, ⟨seen.push e.born, l.length, by simp [setBlock, hr2], Nat.le_refl _, left_push _ _ _⟩, ⟨seen, by simp [setBlock, hr2]⟩, hA⟩, ?_⟩
    unfold Rn execOp
    simp only [ho, hx]
    have e1 : e.key = .string p.1 := by rw [he]; rfl
    have e2 : e.val = p.2 := by rw [he]; rfl
    rw [e1, e2] at h5
    simp [h5, Result.andThen]
theorem r_en {x : Operand} {r m i : Nat} {l : (List (ByteArray × Value))} {p : ByteArray × Value} (ho : o.op = .entry x) (hx : opd ρ n x = .pointer (some ⟨r, 0, none⟩)) (hM : Mp w m l) (hI : ItAt w r m l i) (hp : l[i]? = some p) : Rn P ρ n o w (.tuple #[.string p.1, p.2]) w := by
  obtain ⟨seen, h1⟩ := hI
  have hm : ent1 (p, i) ∈ (ent l).toArray.toList := by
    simp only []
    exact List.mem_of_getElem? (i := i) (by rw [ent_get, hp]; rfl)
  have hn : ((ent l).toArray.toList.map (·.born)).Nodup := by
    simp only [ent_born]; exact List.nodup_range
  have := run_entry_at (P := P) w r m l.length seen _ _ (ent1 (p, i)) h1 hM hm hn
  unfold Rn execOp
  simp only [ho, hx]
  simp [this, Result.andThen, ent1]
theorem r_ex {T : Nat} {x : Operand} {vs : List Value} (ho : o.op = .extract x T) (hx : opd ρ n x = .tuple vs.toArray) (hv : vs[T]? = some v) : Rn P ρ n o w v w := by
  unfold Rn execOp
  simp [ho, hx, Instr.extract, hv]
end
end Go.Proofs.YtdebnncpclodcaaDoor.X
