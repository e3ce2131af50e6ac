/-
  The state of a disk: its files behind a map. No condition beyond those that the lemmas name.
-/
import Derived.Test.YtdebnncpclodcaaDoorXMap
set_option linter.unusedSimpArgs false
set_option linter.unusedVariables false
namespace Go.Proofs.YtdebnncpclodcaaDoor.X
open Go.RowKit

/-! ### disk: the files behind a map -/
structure F where
  nm : ByteArray
  b : Nat
  s1 : Sv
  s2 : Sv
  s : List UInt8
  a : List UInt8
def F.kv (f : F) : ByteArray × Value := (f.nm, .pointer (some ⟨f.b, 0, none⟩))
def F.rows (f : F) : List Value := [f.s1.v, f.s2.v]
def F.abs (f : F) : ByteArray × List UInt8 × List UInt8 := (f.nm, f.s, f.a)
def apart (u v : Value) : Prop := ∀ k, u.ownBlock = some k → v.ownBlock ≠ some k
structure F.Ok (TF e : TypeId) (w : World) (f : F) : Prop where
  blk : Blk w f.b [f.s1.v, f.s2.v] TF
  own1 : Own w e 1 f.s1.v f.s.length (bvs f.s)
  own2 : Own w e 1 f.s2.v f.a.length (bvs f.a)
structure Dk (TD TF e : TypeId) (w : World) (d m : Nat) (S : Nat → Prop) (fs : List F) (down : Bool) (acts : Int) : Prop where
  blk : Blk w d [.map (some m), .bool down, .int .i64 acts, .int .i64 0, .int .i64 0] TD
  map : Mp w m (fs.map F.kv)
  ok : ∀ f ∈ fs, f.Ok TF e w
  nms : (fs.map F.nm).Nodup
  bs : (fs.map F.b).Nodup
  rows : (fs.flatMap F.rows).Pairwise apart
  inS : S d ∧ S m ∧ ∀ f ∈ fs, S f.b ∧ ∀ v ∈ f.rows, ∀ k, v.ownBlock = some k → S k

theorem Own.neM {w : World} {e sz n m : Nat} {v : Value} {xs : List Value} {l : (List (ByteArray × Value))} (h : Own w e sz v n xs) (hM : Mp w m l) : ¬ rowM v m := by
  intro hk
  rcases h.2 with ⟨rfl, _⟩ | ⟨g, cap, cur, rfl, _, hg, _⟩
  · cases hk
  · have hk' : g = m := by simpa [rowM, Value.ownBlock] using hk
    subst hk'
    unfold Mp at hM
    rw [hg] at hM
    cases hM
theorem apart.symm {u v : Value} (h : apart u v) : apart v u := fun k h1 h2 => h k h2 h1
theorem F.Ok.own {TF e : TypeId} {w : World} {f : F} (h : f.Ok TF e w) {v : Value} (hv : v ∈ f.rows) : ∃ n xs, Own w e 1 v n xs := by
  simp [F.rows] at hv
  rcases hv with rfl | rfl
  · exact ⟨_, _, h.own1⟩
  · exact ⟨_, _, h.own2⟩
theorem F.Ok.keep {TF e : TypeId} {M : Nat → Prop} {w w1 : World} {f : F} (h : f.Ok TF e w) (ha : Ag M w w1) (hb : ¬ M f.b) (hr : ∀ v ∈ f.rows, ∀ k, v.ownBlock = some k → ¬ M k) : f.Ok TF e w1 :=
  ⟨h.blk.keep ha hb, h.own1.keep ha (hr _ (by simp [F.rows])), h.own2.keep ha (hr _ (by simp [F.rows]))⟩
theorem pair_mid {α : Type} {R : α → α → Prop} (hs : ∀ a b, R a b → R b a) {l1 m l2 m' : List α} (h : (l1 ++ m ++ l2).Pairwise R) (hm : m'.Pairwise R) (hx : ∀ x ∈ m', ∀ y, y ∈ l1 ∨ y ∈ l2 → R x y) : (l1 ++ m' ++ l2).Pairwise R := by
  simp only [List.pairwise_append, List.mem_append] at h ⊢
  obtain ⟨⟨h1, h2, h3⟩, h4, h5⟩ := h
  exact ⟨⟨h1, hm, fun a ha b hb => hs _ _ (hx b hb a (.inl ha))⟩, h4, fun a ha b hb => by
    rcases ha with ha | ha
    · exact h5 a (.inl ha) b hb
    · exact hx a ha b (.inr hb)⟩
theorem pair_get {α : Type} {R : α → α → Prop} (hs : ∀ a b, R a b → R b a) {l1 m l2 : List α} (h : (l1 ++ m ++ l2).Pairwise R) {x y : α} (hx : x ∈ m) (hy : y ∈ l1 ∨ y ∈ l2) : R x y := by
  simp only [List.pairwise_append, List.mem_append] at h
  obtain ⟨⟨h1, h2, h3⟩, h4, h5⟩ := h
  rcases hy with hy | hy
  · exact hs _ _ (h3 y hy x hx)
  · exact h5 x (.inr hx) y hy
theorem Dk.swap {TD TF e : TypeId} {w w1 : World} {d m : Nat} {S S' M : Nat → Prop} {l1 mid l2 mid' : List F} {down down' : Bool} {acts acts' : Int} (h : Dk TD TF e w d m S (l1 ++ mid ++ l2) down acts)
    (t1 : Nat.beq TF e = false) (t2 : Nat.beq TD e = false) (t3 : Nat.beq TF TD = false)
    (hA : Ag M w w1) (hM : ∀ k, k < w.heap.size → M k → k = d ∨ k = m ∨ ∃ f ∈ mid, k = f.b ∨ ∃ v ∈ f.rows, v.ownBlock = some k)
    (hd : Blk w1 d [.map (some m), .bool down', .int .i64 acts', .int .i64 0, .int .i64 0] TD) (hm : Mp w1 m ((l1 ++ mid' ++ l2).map F.kv))
    (hok : ∀ f ∈ mid', f.Ok TF e w1) (hn : ((l1 ++ mid' ++ l2).map F.nm).Nodup)
    (hb : (mid'.map F.b).Nodup) (hb' : ∀ f ∈ mid', w.heap.size ≤ f.b ∨ ∃ g ∈ mid, f.b = g.b)
    (hr : (mid'.flatMap F.rows).Pairwise apart) (hr' : ∀ f ∈ mid', ∀ v ∈ f.rows, ∀ k, v.ownBlock = some k → w.heap.size ≤ k ∨ ∃ g ∈ mid, ∃ u ∈ g.rows, u.ownBlock = some k)
    (hS : ∀ k, S k → S' k) (hN : ∀ k, w.heap.size ≤ k → S' k) : Dk TD TF e w1 d m S' (l1 ++ mid' ++ l2) down' acts' := by
  have hbs := h.bs
  have hrs := h.rows
  simp only [List.map_append, List.flatMap_append] at hbs hrs
  have oth : ∀ f, f ∈ l1 ∨ f ∈ l2 → f ∈ l1 ++ mid ++ l2 := by intro f hf; simp; rcases hf with h | h <;> simp [h]
  have inm : ∀ f, f ∈ mid → f ∈ l1 ++ mid ++ l2 := by intro f hf; simp [hf]
  have hbne : ∀ g ∈ mid, ∀ f, f ∈ l1 ∨ f ∈ l2 → g.b ≠ f.b := fun g hg f hf =>
    pair_get (R := (· ≠ ·)) (fun _ _ h => h.symm) hbs (List.mem_map_of_mem hg) (hf.imp (List.mem_map_of_mem ·) (List.mem_map_of_mem ·))
  have hrne : ∀ g ∈ mid, ∀ u ∈ g.rows, ∀ f, f ∈ l1 ∨ f ∈ l2 → ∀ v ∈ f.rows, apart u v := fun g hg u hu f hf v hv =>
    pair_get (fun _ _ h => h.symm) hrs (List.mem_flatMap.2 ⟨g, hg, hu⟩) (hf.imp (fun h => List.mem_flatMap.2 ⟨f, h, hv⟩) (fun h => List.mem_flatMap.2 ⟨f, h, hv⟩))
  have keep : ∀ f, f ∈ l1 ∨ f ∈ l2 → f.Ok TF e w1 := by
    intro f hf
    have hfo := h.ok f (oth f hf)
    refine hfo.keep hA ?_ ?_
    · intro hk
      rcases hM _ hfo.blk.lt hk with h1 | h1 | ⟨g, hg, h1 | ⟨v, hv, h1⟩⟩
      · exact (hfo.blk.ne h.blk t3) h1
      · exact (h.map.ne hfo.blk) h1.symm
      · exact hbne g hg f hf h1.symm
      · obtain ⟨n, xs, ho⟩ := (h.ok g (inm g hg)).own hv
        exact ho.ne hfo.blk t1 h1
    · intro v hv k hk hMk
      obtain ⟨n, xs, ho⟩ := hfo.own hv
      rcases hM _ (ho.lt hk) hMk with h1 | h1 | ⟨g, hg, h1 | ⟨u, hu, h1⟩⟩
      · subst h1; exact ho.ne h.blk t2 hk
      · subst h1; exact ho.neM h.map hk
      · subst h1; exact ho.ne (h.ok g (inm g hg)).blk t1 hk
      · exact hrne g hg u hu f hf v hv k h1 hk
  refine ⟨hd, hm, ?_, hn, ?_, ?_, hS _ h.inS.1, hS _ h.inS.2.1, ?_⟩
  · intro f hf
    simp only [List.mem_append] at hf
    rcases hf with (hf | hf) | hf
    · exact keep f (.inl hf)
    · exact hok f hf
    · exact keep f (.inr hf)
  · simp only [List.map_append]
    refine pair_mid (R := (· ≠ ·)) (fun _ _ h => h.symm) hbs hb ?_
    intro x hx y hy
    obtain ⟨f, hf, rfl⟩ := List.mem_map.1 hx
    obtain ⟨g, hg, rfl⟩ : ∃ g, (g ∈ l1 ∨ g ∈ l2) ∧ g.b = y := by
      rcases hy with hy | hy
      · obtain ⟨g, hg, h⟩ := List.mem_map.1 hy; exact ⟨g, .inl hg, h⟩
      · obtain ⟨g, hg, h⟩ := List.mem_map.1 hy; exact ⟨g, .inr hg, h⟩
    rcases hb' f hf with h1 | ⟨f0, h1, h2⟩
    · have := (h.ok g (oth g hg)).blk.lt; omega
    · rw [h2]; exact hbne f0 h1 g hg
  · simp only [List.flatMap_append]
    refine pair_mid (fun _ _ h => h.symm) hrs hr ?_
    intro x hx y hy
    obtain ⟨f, hf, hx⟩ := List.mem_flatMap.1 hx
    obtain ⟨g, hg, hy⟩ : ∃ g, (g ∈ l1 ∨ g ∈ l2) ∧ y ∈ g.rows := by
      rcases hy with hy | hy
      · obtain ⟨g, hg, h⟩ := List.mem_flatMap.1 hy; exact ⟨g, .inl hg, h⟩
      · obtain ⟨g, hg, h⟩ := List.mem_flatMap.1 hy; exact ⟨g, .inr hg, h⟩
    intro k hk hk2
    rcases hr' f hf x hx k hk with h1 | ⟨f0, h1, u, hu, h2⟩
    · obtain ⟨n, xs, ho⟩ := (h.ok g (oth g hg)).own hy
      have := ho.lt hk2; omega
    · exact hrne f0 h1 u hu g hg y hy k h2 hk2
  · intro f hf
    simp only [List.mem_append] at hf
    have o2 : f ∈ l1 ∨ f ∈ l2 → S' f.b ∧ ∀ v ∈ f.rows, ∀ k, v.ownBlock = some k → S' k := fun hf =>
      ⟨hS _ (h.inS.2.2 f (oth f hf)).1, fun v hv k hk => hS _ ((h.inS.2.2 f (oth f hf)).2 v hv k hk)⟩
    rcases hf with (hf | hf) | hf
    · exact o2 (.inl hf)
    · refine ⟨?_, fun v hv k hk => ?_⟩
      · rcases hb' f hf with h1 | ⟨g, h1, h2⟩
        · exact hN _ h1
        · rw [h2]; exact hS _ (h.inS.2.2 g (inm g h1)).1
      · rcases hr' f hf v hv k hk with h1 | ⟨g, h1, u, hu, h2⟩
        · exact hN _ h1
        · exact hS _ ((h.inS.2.2 g (inm g h1)).2 u hu k h2)
    · exact o2 (.inr hf)
/-- Other memory is written. -/
theorem Dk.keep {TD TF e : TypeId} {w w1 : World} {d m : Nat} {S M : Nat → Prop} {fs : List F} {down : Bool} {acts : Int} (h : Dk TD TF e w d m S fs down acts) (ha : Ag M w w1) (hn : ∀ k, k < w.heap.size → S k → ¬ M k) : Dk TD TF e w1 d m S fs down acts :=
  ⟨h.blk.keep ha (hn _ h.blk.lt h.inS.1), h.map.keep ha (hn _ h.map.lt h.inS.2.1), fun f hf => (h.ok f hf).keep ha (hn _ (h.ok f hf).blk.lt (h.inS.2.2 f hf).1)
    (fun v hv k hk => by obtain ⟨n, xs, ho⟩ := (h.ok f hf).own hv; exact hn _ (ho.lt hk) ((h.inS.2.2 f hf).2 v hv k hk)), h.nms, h.bs, h.rows, h.inS⟩
theorem Dk.mono {TD TF e : TypeId} {w : World} {d m : Nat} {S S' : Nat → Prop} {fs : List F} {down : Bool} {acts : Int} (h : Dk TD TF e w d m S fs down acts) (hS : ∀ k, k < w.heap.size → S k → S' k) : Dk TD TF e w d m S' fs down acts :=
  ⟨h.blk, h.map, h.ok, h.nms, h.bs, h.rows, hS _ h.blk.lt h.inS.1, hS _ h.map.lt h.inS.2.1, fun f hf => ⟨hS _ (h.ok f hf).blk.lt (h.inS.2.2 f hf).1, fun v hv k hk => by
    obtain ⟨n, xs, ho⟩ := (h.ok f hf).own hv; exact hS _ (ho.lt hk) ((h.inS.2.2 f hf).2 v hv k hk)⟩⟩
/-- The disk's own cells are written. -/
theorem Dk.flags {TD TF e : TypeId} {w w1 : World} {d m : Nat} {S : Nat → Prop} {fs : List F} {down down' : Bool} {acts acts' : Int} (h : Dk TD TF e w d m S fs down acts)
    (t1 : Nat.beq TF e = false) (t2 : Nat.beq TD e = false) (t3 : Nat.beq TF TD = false) (hA : Ag (fun k => k = d) w w1) (hd : Blk w1 d [.map (some m), .bool down', .int .i64 acts', .int .i64 0, .int .i64 0] TD) :
    Dk TD TF e w1 d m S fs down' acts' := by
  have h0 : Dk TD TF e w d m S (fs ++ [] ++ []) down acts := by simpa using h
  have h2 := h0.swap (S' := fun k => S k ∨ w.heap.size ≤ k) (mid' := []) t1 t2 t3 hA (fun k _ hk => .inl hk) hd (by simpa using h.map.keep hA (h.map.ne h.blk)) (by simp) (by simpa using h.nms) (by simp) (by simp) (by simp) (by simp) (fun _ h => .inl h) (fun _ h => .inr h)
  simp only [List.append_nil] at h2
  refine ⟨h2.blk, h2.map, h2.ok, h2.nms, h2.bs, h2.rows, h.inS⟩
theorem Own.n {w : World} {e sz n : Nat} {s : Sv} {xs : List Value} (h : Own w e sz s.v n xs) : s.n = n := by
  obtain ⟨A, c, h⟩ := h.form
  simp [Sv.v] at h
  exact h.2.1
theorem F.Ok.n1 {TF e : TypeId} {w : World} {f : F} (h : f.Ok TF e w) : f.s1.n = f.s.length := h.own1.n
theorem F.Ok.n2 {TF e : TypeId} {w : World} {f : F} (h : f.Ok TF e w) : f.s2.n = f.a.length := h.own2.n
theorem kv_get {fs : List F} {i : Nat} {p : ByteArray × Value} (h : (fs.map F.kv)[i]? = some p) : ∃ f, fs[i]? = some f ∧ p = f.kv := by
  rw [List.getElem?_map] at h
  cases hf : fs[i]? with
  | none => simp [hf] at h
  | some f => simp [hf] at h; exact ⟨f, rfl, h.symm⟩
def isz (fs : List F) (i : Nat) : Nat := ((fs[i]?).map fun f => f.s.length + f.a.length).getD 0
def lsz (fs : List F) (L : List Nat) : Nat := (L.map (isz fs)).sum
theorem lsz_filter (fs : List F) (i : Nat) : ∀ {L : List Nat}, L.Nodup → i ∈ L → lsz fs L = isz fs i + lsz fs (L.filter (· != i))
  | a :: L, hn, hi => by
    rw [List.nodup_cons] at hn
    by_cases h : a = i
    · subst h
      have : L.filter (· != a) = L := List.filter_eq_self.2 (fun b hb => by simp; intro e; subst e; exact hn.1 hb)
      simp [lsz, this]
    · have hi' : i ∈ L := by simp at hi; rcases hi with rfl | hi; · exact absurd rfl h
                             exact hi
      have := lsz_filter fs i hn.2 hi'
      simp only [lsz, List.map_cons, List.sum_cons, List.filter_cons] at this ⊢
      simp [h, this]; omega
theorem lsz_take {fs : List F} {i : Nat} {f : F} {L : List Nat} (hn : L.Nodup) (hi : i ∈ L) (hf : fs[i]? = some f) : lsz fs L = (f.s.length + f.a.length) + lsz fs (L.filter (· != i)) := by
  rw [lsz_filter fs i hn hi]; simp [isz, hf]
theorem filter_lt {i : Nat} {L : List Nat} (hi : i ∈ L) : (L.filter (· != i)).length < L.length := by
  have h1 := List.length_filter_le (· != i) L
  rcases Nat.lt_or_ge (L.filter (· != i)).length L.length with h | h
  · exact h
  · have := List.length_filter_eq_length_iff.1 (Nat.le_antisymm h1 h)
    have := this i hi
    simp at this
def fsz (fs : List F) : Nat := (fs.map fun f => f.s.length + f.a.length).sum
theorem lsz_range (fs : List F) : lsz fs (List.range fs.length) = fsz fs := by
  unfold lsz fsz
  congr 1
  apply List.ext_getElem?
  intro i
  rw [List.getElem?_map, List.getElem?_map]
  by_cases h : i < fs.length
  · simp [h, isz]
  · simp [h]

/-! ### What an act makes of the files -/
def upA (nm : ByteArray) (u : List UInt8 × List UInt8 → List UInt8 × List UInt8) : (List (ByteArray × List UInt8 × List UInt8)) → (List (ByteArray × List UInt8 × List UInt8))
  | [] => [(nm, u ([], []))]
  | x :: r => if x.1 = nm then (nm, u x.2) :: r else x :: upA nm u r
def asz (A : (List (ByteArray × List UInt8 × List UInt8))) : Nat := (A.map fun x => x.2.1.length + x.2.2.length).sum
theorem fsz_abs (fs : List F) : fsz fs = asz (fs.map F.abs) := by
  unfold fsz asz
  rw [List.map_map]
  rfl
/-- A file of the name: it was there, or it is new. -/
def Ens (nm : ByteArray) (fs l1 : List F) (f : F) (l2 : List F) : Prop :=
  f.nm = nm ∧ (fs = l1 ++ f :: l2 ∨ (l1 = fs ∧ l2 = [] ∧ f.s = [] ∧ f.a = [] ∧ ∀ g ∈ fs, g.nm ≠ nm))
theorem upA_at {nm : ByteArray} {u : List UInt8 × List UInt8 → List UInt8 × List UInt8} {x : ByteArray × List UInt8 × List UInt8} {r : (List (ByteArray × List UInt8 × List UInt8))} (h : x.1 = nm) : ∀ {l : (List (ByteArray × List UInt8 × List UInt8))}, (∀ y ∈ l, y.1 ≠ nm) → upA nm u (l ++ x :: r) = l ++ (nm, u x.2) :: r
  | [], _ => by simp [upA, h]
  | y :: l, hl => by
    have ih := upA_at (u := u) (r := r) h (l := l) (fun z hz => hl z (List.mem_cons_of_mem _ hz))
    simp only [List.cons_append, upA, if_neg (hl y (by simp)), ih]
theorem upA_none {nm : ByteArray} {u : List UInt8 × List UInt8 → List UInt8 × List UInt8} : ∀ {l : (List (ByteArray × List UInt8 × List UInt8))}, (∀ y ∈ l, y.1 ≠ nm) → upA nm u l = l ++ [(nm, u ([], []))]
  | [], _ => rfl
  | y :: l, hl => by
    have ih := upA_none (u := u) (l := l) (fun z hz => hl z (List.mem_cons_of_mem _ hz))
    simp only [List.cons_append, upA, if_neg (hl y (by simp)), ih]
theorem nodup_front {l1 l2 : List F} {f : F} (h : ((l1 ++ f :: l2).map F.nm).Nodup) : ∀ g ∈ l1, g.nm ≠ f.nm := by
  intro g hg
  simp only [List.map_append, List.map_cons, List.nodup_append] at h
  exact h.2.2 _ (List.mem_map_of_mem hg) _ (by simp)
theorem Ens.abs {nm : ByteArray} {fs l1 l2 : List F} {f f' : F} {u : List UInt8 × List UInt8 → List UInt8 × List UInt8} (h : Ens nm fs l1 f l2) (hn : (fs.map F.nm).Nodup) (hf : f'.abs = (nm, u (f.s, f.a))) :
    (l1 ++ f' :: l2).map F.abs = upA nm u (fs.map F.abs) := by
  obtain ⟨rfl, rfl | ⟨rfl, rfl, h1, h2, h3⟩⟩ := h
  · have hfr := nodup_front hn
    simp only [List.map_append, List.map_cons]
    have hh := upA_at (nm := f.nm) (u := u) (x := f.abs) (r := l2.map F.abs) rfl (l := l1.map F.abs) (by intro y hy; obtain ⟨g, hg, rfl⟩ := List.mem_map.1 hy; exact hfr g hg)
    rw [hh, hf]
    rfl
  · rw [upA_none (by intro y hy; obtain ⟨g, hg, rfl⟩ := List.mem_map.1 hy; exact h3 g hg)]
    simp only [List.map_append, List.map_cons, List.map_nil, hf, h1, h2]
theorem Dk.add {TD TF e : TypeId} {w w1 : World} {d m : Nat} {S : Nat → Prop} {fs : List F} {down : Bool} {acts : Int} (h : Dk TD TF e w d m S fs down acts)
    (t1 : Nat.beq TF e = false) (t2 : Nat.beq TD e = false) (t3 : Nat.beq TF TD = false) (f : F)
    (hA : Ag (fun k => k = m) w w1) (hM : Mp w1 m (fs.map F.kv ++ [f.kv])) (hok : f.Ok TF e w1) (hb : w.heap.size ≤ f.b)
    (hr : ∀ v ∈ f.rows, ∀ k, v.ownBlock = some k → w.heap.size ≤ k) (hap : apart f.s1.v f.s2.v) (hno : ∀ g ∈ fs, g.nm ≠ f.nm) :
    Dk TD TF e w1 d m (fun k => S k ∨ w.heap.size ≤ k) (fs ++ f :: []) down acts := by
  have h0 : Dk TD TF e w d m S (fs ++ [] ++ []) down acts := by simpa using h
  have h2 := h0.swap (S' := fun k => S k ∨ w.heap.size ≤ k) (mid' := [f]) t1 t2 t3 hA (fun k _ hk => .inr (.inl hk)) (h.blk.keep hA (fun e => h.map.ne h.blk e.symm)) (by simpa using hM)
    (by intro g hg; simp at hg; subst hg; exact hok)
    (by
      simp only [List.append_nil, List.map_append, List.map_cons, List.map_nil, List.nodup_append]
      refine ⟨h.nms, by simp, ?_⟩
      intro a ha b hb
      obtain ⟨g, hg, rfl⟩ := List.mem_map.1 ha
      simp at hb; subst hb; exact hno g hg)
    (by simp) (by intro g hg; simp at hg; subst hg; exact .inl hb)
    (by simp only [List.flatMap_cons, List.flatMap_nil, List.append_nil, F.rows]; simpa using hap)
    (by intro g hg; simp at hg; subst hg; exact fun v hv k hk => .inl (hr v hv k hk)) (fun _ h => .inl h) (fun _ h => .inr h)
  simpa using h2
theorem Dk.upd {TD TF e : TypeId} {w w1 : World} {d m : Nat} {S M : Nat → Prop} {l1 l2 : List F} {f : F} {down : Bool} {acts : Int} (h : Dk TD TF e w d m S (l1 ++ f :: l2) down acts)
    (t1 : Nat.beq TF e = false) (t2 : Nat.beq TD e = false) (t3 : Nat.beq TF TD = false) (f' : F)
    (hA : Ag M w w1) (hMM : ∀ k, k < w.heap.size → M k → k = f.b ∨ rowM f.s1.v k ∨ rowM f.s2.v k) (hb : f'.b = f.b) (hn : f'.nm = f.nm) (hok : f'.Ok TF e w1)
    (hr : ∀ v ∈ f'.rows, ∀ k, v.ownBlock = some k → w.heap.size ≤ k ∨ rowM f.s1.v k ∨ rowM f.s2.v k) (hap : apart f'.s1.v f'.s2.v) :
    Dk TD TF e w1 d m (fun k => S k ∨ w.heap.size ≤ k) (l1 ++ f' :: l2) down acts := by
  have hf := h.ok f (by simp)
  have h0 : Dk TD TF e w d m S (l1 ++ [f] ++ l2) down acts := by simpa using h
  have hnd : ¬ M d := fun hk => by
    rcases hMM _ h.blk.lt hk with h1 | h1 | h1
    · exact (hf.blk.ne h.blk t3) h1.symm
    · exact hf.own1.ne h.blk t2 h1
    · exact hf.own2.ne h.blk t2 h1
  have hnm : ¬ M m := fun hk => by
    rcases hMM _ h.map.lt hk with h1 | h1 | h1
    · exact (h.map.ne hf.blk) h1
    · exact hf.own1.neM h.map h1
    · exact hf.own2.neM h.map h1
  have hkv : (l1 ++ f' :: l2).map F.kv = (l1 ++ f :: l2).map F.kv := by simp [F.kv, hb, hn]
  have hnn : (l1 ++ f' :: l2).map F.nm = (l1 ++ f :: l2).map F.nm := by simp [hn]
  have h2 := h0.swap (S' := fun k => S k ∨ w.heap.size ≤ k) (mid' := [f']) t1 t2 t3 hA
    (fun k hk hMk => by
      rcases hMM k hk hMk with h1 | h1 | h1
      · exact .inr (.inr ⟨f, by simp, .inl h1⟩)
      · exact .inr (.inr ⟨f, by simp, .inr ⟨_, by simp [F.rows], h1⟩⟩)
      · exact .inr (.inr ⟨f, by simp, .inr ⟨f.s2.v, by simp [F.rows], h1⟩⟩))
    (h.blk.keep hA hnd) (by have := h.map.keep hA hnm; rw [← hkv] at this; simpa using this)
    (by intro g hg; simp at hg; subst hg; exact hok) (by have := h.nms; rw [← hnn] at this; simpa using this)
    (by simp) (by intro g hg; simp at hg; subst hg; exact .inr ⟨f, by simp, hb⟩)
    (by simp only [List.flatMap_cons, List.flatMap_nil, List.append_nil, F.rows]; simpa using hap)
    (by
      intro g hg; simp at hg; subst hg
      intro v hv k hk
      rcases hr v hv k hk with h1 | h1 | h1
      · exact .inl h1
      · exact .inr ⟨f, by simp, _, by simp [F.rows], h1⟩
      · exact .inr ⟨f, by simp, f.s2.v, by simp [F.rows], h1⟩) (fun _ h => .inl h) (fun _ h => .inr h)
  simpa using h2
theorem Dk.repl {TD TF e : TypeId} {w w1 : World} {d m : Nat} {S : Nat → Prop} {l1 l2 : List F} {f : F} {down : Bool} {acts : Int} (h : Dk TD TF e w d m S (l1 ++ f :: l2) down acts)
    (t1 : Nat.beq TF e = false) (t2 : Nat.beq TD e = false) (t3 : Nat.beq TF TD = false) (f' : F)
    (hA : Ag (fun k => k = m) w w1) (hM : Mp w1 m (l1.map F.kv ++ f'.kv :: l2.map F.kv)) (hn : f'.nm = f.nm) (hok : f'.Ok TF e w1) (hb : w.heap.size ≤ f'.b)
    (hr : ∀ v ∈ f'.rows, ∀ k, v.ownBlock = some k → w.heap.size ≤ k) (hap : apart f'.s1.v f'.s2.v) :
    Dk TD TF e w1 d m (fun k => S k ∨ w.heap.size ≤ k) (l1 ++ f' :: l2) down acts := by
  have h0 : Dk TD TF e w d m S (l1 ++ [f] ++ l2) down acts := by simpa using h
  have hnn : (l1 ++ f' :: l2).map F.nm = (l1 ++ f :: l2).map F.nm := by simp [hn]
  have h2 := h0.swap (S' := fun k => S k ∨ w.heap.size ≤ k) (mid' := [f']) t1 t2 t3 hA (fun k _ hk => .inr (.inl hk)) (h.blk.keep hA (fun e => h.map.ne h.blk e.symm)) (by simpa using hM)
    (by intro g hg; simp at hg; subst hg; exact hok) (by have := h.nms; rw [← hnn] at this; simpa using this)
    (by simp) (by intro g hg; simp at hg; subst hg; exact .inl hb)
    (by simp only [List.flatMap_cons, List.flatMap_nil, List.append_nil, F.rows]; simpa using hap)
    (by intro g hg; simp at hg; subst hg; exact fun v hv k hk => .inl (hr v hv k hk)) (fun _ h => .inl h) (fun _ h => .inr h)
  simpa using h2
theorem Own.mt {w : World} {b e : Nat} (h : Blk w b [] e) : Own w e 1 (.slice (some ⟨b, 0, none⟩) 0 0) 0 [] :=
  ⟨rfl, .inr ⟨b, 0, #[], rfl, Nat.zero_le _, h, Nat.le_refl _, Nat.zero_le _, rfl, rfl⟩⟩
theorem fs_cases (fs : List F) (nm : ByteArray) : (∃ l1 f l2, fs = l1 ++ f :: l2 ∧ f.nm = nm ∧ ∀ p ∈ l1.map F.kv, p.1 ≠ nm) ∨ ∀ p ∈ fs.map F.kv, p.1 ≠ nm := by
  induction fs with
  | nil => exact .inr (by simp)
  | cons g fs ih =>
    by_cases h : g.nm = nm
    · exact .inl ⟨[], g, fs, rfl, h, by simp⟩
    · rcases ih with ⟨l1, f, l2, h1, h2, h3⟩ | h1
      · refine .inl ⟨g :: l1, f, l2, by rw [h1]; rfl, h2, ?_⟩
        intro p hp
        simp only [List.map_cons, List.mem_cons] at hp
        rcases hp with rfl | hp
        · exact h
        · exact h3 p hp
      · refine .inr ?_
        intro p hp
        simp only [List.map_cons, List.mem_cons] at hp
        rcases hp with rfl | hp
        · exact h
        · exact h1 p hp
theorem kv_ne {fs : List F} {nm : ByteArray} (h : ∀ p ∈ fs.map F.kv, p.1 ≠ nm) : ∀ g ∈ fs, g.nm ≠ nm := fun g hg => h g.kv (List.mem_map_of_mem hg)
theorem apart_nil (v : Value) : apart v Sv.nil.v := fun k _ h => by cases h
theorem fsz_mem {fs : List F} {f : F} (h : f ∈ fs) : f.s.length + f.a.length ≤ fsz fs := by
  unfold fsz
  induction fs with
  | nil => cases h
  | cons g fs ih =>
    simp only [List.map_cons, List.sum_cons]
    rcases List.mem_cons.1 h with rfl | h
    · omega
    · have := ih h; omega
theorem Ens.sz {nm : ByteArray} {fs l1 l2 : List F} {f : F} (h : Ens nm fs l1 f l2) : f.s.length + f.a.length ≤ fsz fs := by
  obtain ⟨_, rfl | ⟨_, _, h1, h2, _⟩⟩ := h
  · exact fsz_mem (by simp)
  · simp [h1, h2]
theorem Dk.ap {TD TF e : TypeId} {w : World} {d m : Nat} {S : Nat → Prop} {fs : List F} {down : Bool} {acts : Int} (h : Dk TD TF e w d m S fs down acts) {f : F} (hf : f ∈ fs) : apart f.s1.v f.s2.v := by
  have hr := h.rows
  clear h
  induction fs with
  | nil => cases hf
  | cons g fs ih =>
    simp only [List.flatMap_cons, List.pairwise_append] at hr
    rcases List.mem_cons.1 hf with rfl | hf
    · simpa [F.rows] using hr.1
    · exact ih hf hr.2.1
theorem loc_or {v v1 : Value} {m k : Nat} (h : v1.ownBlock = v.ownBlock ∨ ∃ i, v1.ownBlock = some i ∧ m ≤ i) (hk : v1.ownBlock = some k) : m ≤ k ∨ rowM v k := by
  rcases h with h | ⟨i, h1, h2⟩
  · exact .inr (by unfold rowM; rw [← h]; exact hk)
  · rw [h1] at hk; cases hk; exact .inl h2
theorem rows2 {f : F} {Q : Nat → Prop} (h1 : ∀ k, rowM f.s1.v k → Q k) (h2 : ∀ k, rowM f.s2.v k → Q k) : ∀ v ∈ f.rows, ∀ k, v.ownBlock = some k → Q k := by
  intro v hv k hk
  simp [F.rows] at hv
  rcases hv with rfl | rfl
  · exact h1 k hk
  · exact h2 k hk
theorem Dk.inF {TD TF e : TypeId} {w : World} {d m : Nat} {S : Nat → Prop} {fs : List F} {down : Bool} {acts : Int} (h : Dk TD TF e w d m S fs down acts) {f : F} (hf : f ∈ fs) {k : Nat} (hk : k = f.b ∨ rowM f.s1.v k ∨ rowM f.s2.v k) : S k := by
  obtain ⟨h1, h2⟩ := h.inS.2.2 f hf
  rcases hk with rfl | hk | hk
  · exact h1
  · exact h2 _ (by simp [F.rows]) k hk
  · exact h2 f.s2.v (by simp [F.rows]) k hk
theorem abs_mem {fs : List F} {nm : ByteArray} {sb ab : List UInt8} (hn : (fs.map F.nm).Nodup) (h : (nm, sb, ab) ∈ fs.map F.abs) :
    ∃ l1 f l2, fs = l1 ++ f :: l2 ∧ f.nm = nm ∧ (∀ p ∈ l1.map F.kv, p.1 ≠ nm) ∧ f.s = sb ∧ f.a = ab := by
  obtain ⟨f, hf, he⟩ := List.mem_map.1 h
  simp only [F.abs, Prod.mk.injEq] at he
  obtain ⟨h1, h2, h3⟩ := he
  obtain ⟨l1, l2, rfl⟩ := List.append_of_mem hf
  have hfr := nodup_front hn
  refine ⟨l1, f, l2, rfl, h1, ?_, h2, h3⟩
  intro p hp
  obtain ⟨g, hg, rfl⟩ := List.mem_map.1 hp
  rw [← h1]; exact hfr g hg
theorem abs_no {fs : List F} {nm : ByteArray} (h : ∀ y ∈ fs.map F.abs, y.1 ≠ nm) : ∀ p ∈ fs.map F.kv, p.1 ≠ nm := by
  intro p hp
  obtain ⟨g, hg, rfl⟩ := List.mem_map.1 hp
  exact h g.abs (List.mem_map_of_mem hg)
theorem Own.neI {w : World} {e sz n r m : Nat} {v : Value} {xs : List Value} {l : (List (ByteArray × Value))} {L : List Nat} (h : Own w e sz v n xs) (hI : It w r m l L) : ¬ rowM v r := by
  intro hk
  obtain ⟨seen, c, h1, _⟩ := hI
  rcases h.2 with ⟨rfl, _⟩ | ⟨g, cap, cur, rfl, _, hg, _⟩
  · cases hk
  · have hk' : g = r := by simpa [rowM, Value.ownBlock] using hk
    subst hk'
    rw [hg] at h1
    cases h1
theorem Dk.keepI {TD TF e : TypeId} {w w1 : World} {d m r m' : Nat} {S : Nat → Prop} {fs : List F} {down : Bool} {acts : Int} {l : (List (ByteArray × Value))} {L : List Nat} (h : Dk TD TF e w d m S fs down acts) (hI : It w r m' l L) (ha : Ag (fun k => k = r) w w1) : Dk TD TF e w1 d m S fs down acts :=
  ⟨h.blk.keep ha (fun e => hI.ne h.blk e.symm), h.map.keep ha (fun e => hI.ne' h.map e.symm), fun f hf => (h.ok f hf).keep ha (fun e => hI.ne (h.ok f hf).blk e.symm)
    (fun v hv k hk e => by obtain ⟨n, xs, ho⟩ := (h.ok f hf).own hv; exact ho.neI hI (e ▸ hk)), h.nms, h.bs, h.rows, h.inS⟩
theorem Src.z {w : World} {s : Sv} {k : Nat} (h : k = 0) : Src w (s.take k).v 0 [] := by
  subst h
  exact ⟨⟨s.a, s.c, rfl, fun _ => ⟨rfl, rfl⟩, fun a _ j u h => by simp at h⟩, Ones_nil⟩
theorem Dk.lt {TD TF e : TypeId} {w : World} {d m : Nat} {S : Nat → Prop} {fs : List F} {down : Bool} {acts : Int} (h : Dk TD TF e w d m S fs down acts) : Dk TD TF e w d m (fun k => S k ∧ k < w.heap.size) fs down acts :=
  h.mono (fun _ hk hs => ⟨hs, hk⟩)
end Go.Proofs.YtdebnncpclodcaaDoor.X
