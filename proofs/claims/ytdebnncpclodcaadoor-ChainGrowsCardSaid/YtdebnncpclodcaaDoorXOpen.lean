/-
  What comes in, opened: slices, structs, arrays. No condition beyond those that the lemmas name.
-/
import Derived.Test.YtdebnncpclodcaaDoorXStepI
import Derived.Test.YtdebnncpclodcaaDoorXRow
import Derived.OpenShut
import Derived.LaidMore
import Derived.SizedLaws
set_option linter.unusedSimpArgs false
set_option linter.unusedVariables false
namespace Go.Proofs.YtdebnncpclodcaaDoor.X
open Go.ChangeShapes Go.WideShapes Go.ChangeAt Go.RowKit

/-! ### What comes in, opened: every cell of the heap at the start is a fact -/
def HW (W : World) : Hp := fun b i => W.cell? ⟨b, i, none⟩
theorem HW.good (W : World) : Good W (HW W) [] := ⟨fun _ _ _ h => h, fun e he => by simp at he, by simp⟩
def OpT (P : Program) (W : World) (t : TypeId) (cs : List Value) : Prop :=
  ∃ (H : Type) (enc : TypeId × Value → H) (fuel : Nat) (x : DataW H × List MemPlace), DataW.trod enc P W 0 (fun _ => true) true fuel t cs = some x ∧ ∀ n ∈ x.1.weights P t, n ≤ reachBytes
def OpL (P : Program) (W : World) : List TypeId → List Value → Prop
  | [], cs => cs = []
  | t :: ts, cs => ∃ a b, cs = a ++ b ∧ OpT P W t a ∧ OpL P W ts b
def Opn (P : Program) (t : TypeId) {α : Type} (T : Ty α) : Prop := ∀ {W : World} {cs : List Value}, OpT P W t cs → ∃ a : α, T.enc (HW W) cs a

theorem opn_int {P : Program} {t : TypeId} (ht : P.underlying t = some (.int .i64)) : Opn P t (Fl.ty flI) := fun ⟨_, _, _, x, h, _⟩ => by
  obtain ⟨n, rfl, _, _⟩ := DataW.trod_int ht h
  exact ⟨n, rfl⟩
theorem opn_str {P : Program} {t : TypeId} (ht : P.underlying t = some .string) : Opn P t (Fl.ty flS) := fun ⟨_, _, _, x, h, _⟩ => by
  obtain ⟨s, rfl, _, _⟩ := DataW.trod_string ht h
  exact ⟨s.data.toList, rfl⟩
theorem opn_byte {P : Program} {t : TypeId} (ht : P.underlying t = some (.int .u8)) : Opn P t (Fl.ty flB) := fun ⟨_, _, _, x, h, _⟩ => by
  obtain ⟨n, rfl, _, hw⟩ := DataW.trod_int ht h
  have h1' : IntKind.u8.min = 0 := rfl
  have h2' : IntKind.u8.max = 255 := rfl
  simp only [Lit.wf, Bool.and_eq_true, decide_eq_true_eq] at hw
  have e : ((UInt8.ofNat n.toNat).toNat : Int) = n := by
    rw [UInt8.toNat_ofNat']; omega
  refine ⟨UInt8.ofNat n.toNat, ?_⟩
  show _ = [bv _]
  unfold bv; rw [e]
theorem wts_all {H : Type} {P : Program} {e : TypeId} : ∀ {l : List (DataW H)} {d : DataW H}, d ∈ l → ∀ n ∈ d.weights P e, n ∈ DataW.weightsAll P e l
  | x :: l, d, hd, n, hn => by
    rw [DataW.weightsAll]
    rcases List.mem_cons.1 hd with rfl | hd
    · exact List.mem_append_left _ hn
    · exact List.mem_append_right _ (wts_all hd n hn)
theorem pick_list {α : Type} {n : Nat} {Q : Nat → α → Prop} (h : ∀ i, i < n → ∃ a, Q i a) : ∃ l : List α, l.length = n ∧ ∀ i a, l[i]? = some a → Q i a := by
  induction n with
  | zero => exact ⟨[], rfl, fun i a h => by simp at h⟩
  | succ n ih =>
    obtain ⟨l, hl, hq⟩ := ih (fun i hi => h i (by omega))
    obtain ⟨a, ha⟩ := h n (by omega)
    refine ⟨l ++ [a], by simp [hl], fun i b hb => ?_⟩
    by_cases hi : i < l.length
    · rw [List.getElem?_append_left hi] at hb
      exact hq i b hb
    · rw [List.getElem?_append_right (by omega)] at hb
      have : i = l.length := by
        have := (List.getElem?_eq_some_iff.1 hb).1
        simp at this; omega
      subst this
      simp at hb; subst hb
      rw [hl]; exact ha
theorem mapM_get {α β : Type} {f : α → Option β} : ∀ {l : List α} {ys : List β}, l.mapM f = some ys → ys.length = l.length ∧ ∀ (i : Nat) (a : α), l[i]? = some a → f a = ys[i]?
  | [], ys, h => by simp at h; subst h; simp
  | x :: l, ys, h => by
    simp only [List.mapM_cons, Option.bind_eq_bind, Option.bind_eq_some_iff, Option.pure_def, Option.some.injEq] at h
    obtain ⟨y, hy, ys', hys, rfl⟩ := h
    obtain ⟨h1, h2⟩ := mapM_get hys
    refine ⟨by simp [h1], fun i a ha => ?_⟩
    cases i with
    | zero => simp at ha; subst ha; simpa using hy
    | succ i => simpa using h2 i a (by simpa using ha)
theorem cells_at {W : World} {b off : Nat} {n : Nat} {cs : List Value} (h : W.cells? 0 ⟨b, off, none⟩ n = some cs) : cs.length = n ∧ ∀ k v, cs[k]? = some v → HW W b (off + k) = some v := by
  unfold World.cells? at h
  simp only [Nat.zero_le, if_true] at h
  obtain ⟨h1, h2⟩ := mapM_get h
  refine ⟨by simpa using h1, fun k v hv => ?_⟩
  have hk : k < n := by
    have := (List.getElem?_eq_some_iff.1 hv).1
    simp at h1; omega
  have h3 : W.cell? (Addr.add ⟨b, off, none⟩ k) = cs[k]? := h2 k k (by simp [hk])
  rw [hv] at h3
  unfold HW
  rw [← h3]
  unfold Addr.add
  split
  · next h => subst h; rfl
  · rfl
theorem opn_sl {P : Program} {t e : TypeId} {α : Type} {T : Ty α} (ht : P.underlying t = some (.slice e)) (hc : P.cellsOf e = T.sz) (hp : 0 < T.sz) (hb : decide (0 < P.bytesOf e) = true) (hE : Opn P e T) : Opn P t (Ty.sl T) := fun {W cs} ⟨H, enc, fuel, x, h, hw⟩ => by
  have hb := of_decide_eq_true hb
  rcases DataW.trod_slice ht h with ⟨rfl, _⟩ | ⟨a, len, cap, elems, rest, n, rfl, rfl, rfl, _, hl, _, hlen, hel, _, _⟩
  · exact ⟨[], Sv.nil, rfl, Sl.nil _ _⟩
  · have hr : len ≤ 140737488355328 := by
      have := hw ((elems.length + rest.length) * P.bytesOf e) (by simp [DataW.weights, ht])
      have h3 : reachBytes = 140737488351232 := rfl
      have h4 : elems.length + rest.length ≤ (elems.length + rest.length) * P.bytesOf e := Nat.le_mul_of_pos_right _ hb
      omega
    have key : ∀ i, i < len → ∃ z : α, ∃ b off cs, (some a : Option Addr) = some ⟨b, off, none⟩ ∧ T.enc (HW W) cs z ∧ ∀ k v, cs[k]? = some v → HW W b (off + i * T.sz + k) = some v := by
      intro i hi
      have h1 := hel i hi
      obtain ⟨y, hy⟩ : ∃ y, elems[i]? = some y := ⟨_, List.getElem?_eq_getElem (by omega)⟩
      rw [hy] at h1
      obtain ⟨cs, hcs, htr⟩ := Option.bind_eq_some_iff.1 h1
      obtain ⟨b, off, sp⟩ := a
      have hsp : sp = none := by
        have g1 := hel 0 (by omega)
        obtain ⟨y0, hy0⟩ : ∃ y, elems[0]? = some y := ⟨_, List.getElem?_eq_getElem (by omega)⟩
        rw [hy0] at g1
        obtain ⟨cs0, hcs0, _⟩ := Option.bind_eq_some_iff.1 g1
        rw [Nat.zero_mul] at hcs0
        unfold World.cells? at hcs0
        have hz : ∀ a : Addr, a.add 0 = a := fun a => by unfold Addr.add; simp
        rw [hz] at hcs0
        simp only [Nat.zero_le, if_true] at hcs0
        obtain ⟨h5, h6⟩ := mapM_get hcs0
        have h7 := h6 0 0 (by rw [hc]; simp [hp])
        have : 0 < cs0.length := by rw [h5, hc]; simpa using hp
        rw [List.getElem?_eq_getElem this, hz] at h7
        obtain ⟨_, _, _, e8, _⟩ := spotless h7
        cases e8; rfl
      subst hsp
      have hadd : Addr.add ⟨b, off, none⟩ (i * P.cellsOf e) = ⟨b, off + i * P.cellsOf e, none⟩ := by
        unfold Addr.add
        split
        · next h => rw [h]; rfl
        · rfl
      rw [hadd] at hcs
      have hcs' : W.cells? 0 ⟨b, off + i * P.cellsOf e, none⟩ (P.cellsOf e) = some cs := hcs
      obtain ⟨h5, h6⟩ := cells_at hcs'
      obtain ⟨z, hz⟩ := hE ⟨H, enc, n, y, htr, fun m hm => hw m (by
        simp only [DataW.weights, ht, List.mem_cons, List.mem_append]
        exact .inr (.inl (wts_all (d := y.1) (List.mem_map.2 ⟨y, List.mem_of_getElem? hy, rfl⟩) m hm)))⟩
      exact ⟨z, b, off, cs, rfl, hz, by rw [← hc]; exact h6⟩
    obtain ⟨l, hl1, hl2⟩ := pick_list key
    exact ⟨l, ⟨some a, len, cap⟩, rfl, hl1.symm, hl, hr, hl2⟩
def arrOB (P : Program) (t e n : Nat) : Bool := match P.underlying t with
  | some (.array m e') => decide (m = n) && decide (e' = e) && decide (P.cellsOf t = n * P.cellsOf e)
  | _ => false
theorem opn_arr {P : Program} {t e n : Nat} {α : Type} {f : Fl α} (ht : arrOB P t e n = true) (hc : P.cellsOf e = f.sz) (hE : Opn P e (Fl.ty f)) : Opn P t (Fl.ty (flV f n)) := fun {W cs} ⟨H, enc, fuel, x, h, hw⟩ => by
  unfold arrOB at ht
  split at ht
  · next m e' hu =>
    simp only [Bool.and_eq_true, decide_eq_true_eq] at ht
    obtain ⟨⟨rfl, rfl⟩, hs⟩ := ht
    obtain ⟨xs, k, rfl, rfl, hlen, hn, hel⟩ := DataW.trod_array hu h
    have key : ∀ i, i < m → ∃ z : α, (cs.drop (i * f.sz)).take f.sz = flat (f.c z) := by
      intro i hi
      have h1 := hel i hi
      obtain ⟨y, hy⟩ : ∃ y, xs[i]? = some y := ⟨_, List.getElem?_eq_getElem (by omega)⟩
      rw [hy, hc] at h1
      exact hE ⟨H, enc, k, y, h1, fun q hq => hw q (by
        simp only [DataW.weights, hu]
        exact wts_all (d := y.1) (List.mem_map.2 ⟨y, List.mem_of_getElem? hy, rfl⟩) q hq)⟩
    obtain ⟨l, hl1, hl2⟩ := pick_list key
    have hcl : cs.length = l.length * f.sz := by rw [hlen, hs, hc, hl1]
    have all : ∀ (l : List α) (cs : List Value), cs.length = l.length * f.sz → (∀ i z, l[i]? = some z → (cs.drop (i * f.sz)).take f.sz = flat (f.c z)) → cs = l.flatMap fun a => flat (f.c a) := by
      intro l
      induction l with
      | nil => intro cs h _; simpa using h
      | cons a l ih =>
        intro cs h1 h2
        have h3 := h2 0 a rfl
        simp only [Nat.zero_mul, List.drop_zero] at h3
        have h4 := ih (cs.drop f.sz) (by simp [h1, Nat.add_mul]) (fun i z hz => by
          have := h2 (i + 1) z (by simpa using hz)
          rw [Nat.add_mul, Nat.one_mul, Nat.add_comm] at this
          rw [List.drop_drop]
          exact this)
        rw [List.flatMap_cons, ← h3, ← h4, List.take_append_drop]
    refine ⟨⟨l, hl1⟩, ?_⟩
    show cs = (l.flatMap fun a => flat (f.c a)) ++ []
    rw [List.append_nil]
    exact all l cs hcl hl2
  · simp at ht
def offsB (P : Program) : List Field → Nat → Nat → Bool
  | [], o, tot => decide (o = tot)
  | f :: r, o, tot => decide (f.offset = o) && offsB P r (o + P.cellsOf f.type) tot
def structOB (P : Program) (t : TypeId) (ts : List TypeId) : Bool := match P.underlying t with
  | some (.struct fs) => decide (fs.toList.map (·.type) = ts) && offsB P fs.toList 0 (P.cellsOf t)
  | _ => false
theorem open_struct {P : Program} {W : World} {t : TypeId} {ts : List TypeId} {cs : List Value} (ht : structOB P t ts = true) (h : OpT P W t cs) : OpL P W ts cs := by
  obtain ⟨H, enc, fuel, x, h, hw⟩ := h
  unfold structOB at ht
  split at ht
  · next fs hu =>
    simp only [Bool.and_eq_true, decide_eq_true_eq] at ht
    obtain ⟨rfl, ho⟩ := ht
    obtain ⟨xs, k, rfl, rfl, hlen, hn, hel⟩ := DataW.trod_struct hu h
    simp only [DataW.weights, hu] at hw
    rw [← hlen] at ho
    have all : ∀ (fl : List Field) (xs : List (DataW H × List MemPlace)) (o : Nat), o ≤ cs.length → offsB P fl o cs.length = true → xs.length = fl.length → (∀ (i : Nat) (f : Field), fl[i]? = some f → DataW.trod enc P W 0 (fun _ => true) true k f.type ((cs.drop f.offset).take (P.cellsOf f.type)) = xs[i]?) →
        (∀ n ∈ DataW.weightsEach P (fl.map (·.type)) (xs.map (·.1)), n ≤ reachBytes) → OpL P W (fl.map (·.type)) (cs.drop o) := by
      intro fl
      induction fl with
      | nil =>
        intro xs o _ h1 _ _ _
        simp only [offsB, decide_eq_true_eq] at h1
        subst h1
        simp [OpL]
      | cons f fl ih =>
        intro xs o hle h1 h2 h3 h4
        simp only [offsB, Bool.and_eq_true, decide_eq_true_eq] at h1
        obtain ⟨rfl, h1⟩ := h1
        match xs, h2 with
        | y :: xs, h2 =>
          have h5 := h3 0 f rfl
          simp only [List.map_cons, DataW.weightsEach, List.mem_append] at h4
          have hle2 : f.offset + P.cellsOf f.type ≤ cs.length := by
            have : ∀ (fl : List Field) (o : Nat), offsB P fl o cs.length = true → o ≤ cs.length := by
              intro fl
              induction fl with
              | nil => intro o h; simp only [offsB, decide_eq_true_eq] at h; omega
              | cons g fl ih =>
                intro o h
                simp only [offsB, Bool.and_eq_true, decide_eq_true_eq] at h
                have := ih _ h.2; omega
            exact this _ _ h1
          refine ⟨_, cs.drop (f.offset + P.cellsOf f.type), ?_, ⟨H, enc, k, y, by simpa using h5, fun n hn => h4 n (.inl hn)⟩, ih xs _ hle2 h1 (by simpa using h2) (fun i g hg => by simpa using h3 (i + 1) g (by simpa using hg)) (fun n hn => h4 n (.inr hn))⟩
          rw [← List.drop_drop, List.take_append_drop]
    have := all fs.toList xs 0 (by omega) ho (by simpa using hn) (fun i f hf => hel i f (by simpa using hf)) hw
    simpa using this
  · simp at ht
/-- An argument. -/
theorem opt_arg {H : Type} {enc : TypeId × Value → H} {P : Program} {W : World} {t : TypeId} {v : Value} {d : DataW H} {p : List MemPlace} {ts : List TypeId} {ds : List (DataW H)} (j : Nat)
    (h : DataW.Trod enc P W 0 (fun _ => true) true t v d p) (hsz : (DataW.weightsEach P ts ds).all (· ≤ reachBytes) = true) (hj : ts[j]? = some t) (hd : ds[j]? = some d) : OpT P W t v.cells.toList := by
  obtain ⟨fuel, h⟩ := h
  exact ⟨H, enc, fuel, (d, p), h, fun n hn => by simpa using List.all_eq_true.1 hsz n (DataW.weights_mem_each hj hd n hn)⟩
end Go.Proofs.YtdebnncpclodcaaDoor.X
