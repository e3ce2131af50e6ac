/-
  The state of a disk: its files behind a map. No condition beyond those that the lemmas name.
-/
import Derived.Test.YtdebnncpclodcaaDoorXMap
set_option linter.unusedSimpArgs false
set_option linter.unusedVariables false
namespace Go.Proofs.YtdebnncpclodcaaDoor.X
open Go.RowKit

/-! ### disk: the files behind a map -/
structure F where
  nm : ByteArray
  b : Nat
  s1 : Sv
  s2 : Sv
  s : List UInt8
  a : List UInt8
def F.kv (f : F) : ByteArray × Value := (f.nm, .pointer (some ⟨f.b, 0, none⟩))
def F.rows (f : F) : List Value := [f.s1.v, f.s2.v]
def apart (u v : Value) : Prop := ∀ k, u.ownBlock = some k → v.ownBlock ≠ some k
structure F.Ok (TF e : TypeId) (w : World) (f : F) : Prop where
  blk : Blk w f.b [f.s1.v, f.s2.v] TF
  own1 : Own w e 1 f.s1.v f.s.length (bvs f.s)
  own2 : Own w e 1 f.s2.v f.a.length (bvs f.a)
structure Dk (TD TF e : TypeId) (w : World) (d m : Nat) (S : Nat → Prop) (fs : List F) (down : Bool) (acts : Int) : Prop where
  blk : Blk w d [.map (some m), .bool down, .int .i64 acts, .int .i64 0, .int .i64 0] TD
  map : Mp w m (fs.map F.kv)
  ok : ∀ f ∈ fs, f.Ok TF e w
  nms : (fs.map F.nm).Nodup
  bs : (fs.map F.b).Nodup
  rows : (fs.flatMap F.rows).Pairwise apart
  inS : S d ∧ S m ∧ ∀ f ∈ fs, S f.b ∧ ∀ v ∈ f.rows, ∀ k, v.ownBlock = some k → S k

theorem Own.neM {w : World} {e sz n m : Nat} {v : Value} {xs : List Value} {l : (List (ByteArray × Value))} (h : Own w e sz v n xs) (hM : Mp w m l) : ¬ rowM v m := by
  intro hk
  rcases h.2 with ⟨rfl, _⟩ | ⟨g, cap, cur, rfl, _, hg, _⟩
  · cases hk
  · have hk' : g = m := by simpa [rowM, Value.ownBlock] using hk
    subst hk'
    unfold Mp at hM
    rw [hg] at hM
    cases hM
theorem apart.symm {u v : Value} (h : apart u v) : apart v u := fun k h1 h2 => h k h2 h1
theorem F.Ok.own {TF e : TypeId} {w : World} {f : F} (h : f.Ok TF e w) {v : Value} (hv : v ∈ f.rows) : ∃ n xs, Own w e 1 v n xs := by
  simp [F.rows] at hv
  rcases hv with rfl | rfl
  · exact ⟨_, _, h.own1⟩
  · exact ⟨_, _, h.own2⟩
theorem F.Ok.keep {TF e : TypeId} {M : Nat → Prop} {w w1 : World} {f : F} (h : f.Ok TF e w) (ha : Ag M w w1) (hb : ¬ M f.b) (hr : ∀ v ∈ f.rows, ∀ k, v.ownBlock = some k → ¬ M k) : f.Ok TF e w1 :=
  ⟨h.blk.keep ha hb, h.own1.keep ha (hr _ (by simp [F.rows])), h.own2.keep ha (hr _ (by simp [F.rows]))⟩
theorem pair_mid {α : Type} {R : α → α → Prop} (hs : ∀ a b, R a b → R b a) {l1 m l2 m' : List α} (h : (l1 ++ m ++ l2).Pairwise R) (hm : m'.Pairwise R) (hx : ∀ x ∈ m', ∀ y, y ∈ l1 ∨ y ∈ l2 → R x y) : (l1 ++ m' ++ l2).Pairwise R := by
  simp only [List.pairwise_append, List.mem_append] at h ⊢
  obtain ⟨⟨h1, h2, h3⟩, h4, h5⟩ := h
  exact ⟨⟨h1, hm, fun a ha b hb => hs _ _ (hx b hb a (.inl ha))⟩, h4, fun a ha b hb => by
    rcases ha with ha | ha
    · exact h5 a (.inl ha) b hb
    · exact hx a ha b (.inr hb)⟩
theorem pair_get {α : Type} {R : α → α → Prop} (hs : ∀ a b, R a b → R b a) {l1 m l2 : List α} (h : (l1 ++ m ++ l2).Pairwise R) {x y : α} (hx : x ∈ m) (hy : y ∈ l1 ∨ y ∈ l2) : R x y := by
  simp only [List.pairwise_append, List.mem_append] at h
  obtain ⟨⟨h1, h2, h3⟩, h4, h5⟩ := h
  rcases hy with hy | hy
  · exact hs _ _ (h3 y hy x hx)
  · exact h5 x (.inr hx) y hy
theorem Dk.swap {TD TF e : TypeId} {w w1 : World} {d m : Nat} {S S' M : Nat → Prop} {l1 mid l2 mid' : List F} {down down' : Bool} {acts acts' : Int} (h : Dk TD TF e w d m S (l1 ++ mid ++ l2) down acts)
    (t1 : Nat.beq TF e = false) (t2 : Nat.beq TD e = false) (t3 : Nat.beq TF TD = false)
    (hA : Ag M w w1) (hM : ∀ k, k < w.heap.size → M k → k = d ∨ k = m ∨ ∃ f ∈ mid, k = f.b ∨ ∃ v ∈ f.rows, v.ownBlock = some k)
    (hd : Blk w1 d [.map (some m), .bool down', .int .i64 acts', .int .i64 0, .int .i64 0] TD) (hm : Mp w1 m ((l1 ++ mid' ++ l2).map F.kv))
    (hok : ∀ f ∈ mid', f.Ok TF e w1) (hn : ((l1 ++ mid' ++ l2).map F.nm).Nodup)
    (hb : (mid'.map F.b).Nodup) (hb' : ∀ f ∈ mid', w.heap.size ≤ f.b ∨ ∃ g ∈ mid, f.b = g.b)
    (hr : (mid'.flatMap F.rows).Pairwise apart) (hr' : ∀ f ∈ mid', ∀ v ∈ f.rows, ∀ k, v.ownBlock = some k → w.heap.size ≤ k ∨ ∃ g ∈ mid, ∃ u ∈ g.rows, u.ownBlock = some k)
    (hS : ∀ k, S k → S' k) (hN : ∀ k, w.heap.size ≤ k → S' k) : Dk TD TF e w1 d m S' (l1 ++ mid' ++ l2) down' acts' := by
  have hbs := h.bs
  have hrs := h.rows
  simp only [List.map_append, List.flatMap_append] at hbs hrs
  have oth : ∀ f, f ∈ l1 ∨ f ∈ l2 → f ∈ l1 ++ mid ++ l2 := by intro f hf; simp; rcases hf with h | h <;> simp [h]
  have inm : ∀ f, f ∈ mid → f ∈ l1 ++ mid ++ l2 := by intro f hf; simp [hf]
  have hbne : ∀ g ∈ mid, ∀ f, f ∈ l1 ∨ f ∈ l2 → g.b ≠ f.b := fun g hg f hf =>
    pair_get (R := (· ≠ ·)) (fun _ _ h => h.symm) hbs (List.mem_map_of_mem hg) (hf.imp (List.mem_map_of_mem ·) (List.mem_map_of_mem ·))
  have hrne : ∀ g ∈ mid, ∀ u ∈ g.rows, ∀ f, f ∈ l1 ∨ f ∈ l2 → ∀ v ∈ f.rows, apart u v := fun g hg u hu f hf v hv =>
    pair_get (fun _ _ h => h.symm) hrs (List.mem_flatMap.2 ⟨g, hg, hu⟩) (hf.imp (fun h => List.mem_flatMap.2 ⟨f, h, hv⟩) (fun h => List.mem_flatMap.2 ⟨f, h, hv⟩))
  have keep : ∀ f, f ∈ l1 ∨ f ∈ l2 → f.Ok TF e w1 := by
    intro f hf
    have hfo := h.ok f (oth f hf)
    refine hfo.keep hA ?_ ?_
    · intro hk
      rcases hM _ hfo.blk.lt hk with h1 | h1 | ⟨g, hg, h1 | ⟨v, hv, h1⟩⟩
      · exact (hfo.blk.ne h.blk t3) h1
      · exact (h.map.ne hfo.blk) h1.symm
      · exact hbne g hg f hf h1.symm
      · obtain ⟨n, xs, ho⟩ := (h.ok g (inm g hg)).own hv
        exact ho.ne hfo.blk t1 h1
    · intro v hv k hk hMk
      obtain ⟨n, xs, ho⟩ := hfo.own hv
      rcases hM _ (ho.lt hk) hMk with h1 | h1 | ⟨g, hg, h1 | ⟨u, hu, h1⟩⟩
      · subst h1; exact ho.ne h.blk t2 hk
      · subst h1; exact ho.neM h.map hk
      · subst h1; exact ho.ne (h.ok g (inm g hg)).blk t1 hk
      · exact hrne g hg u hu f hf v hv k h1 hk
  refine ⟨hd, hm, ?_, hn, ?_, ?_, hS _ h.inS.1, hS _ h.inS.2.1, ?_⟩
  · intro f hf
    simp only [List.mem_append] at hf
    rcases hf with (hf | hf) | hf
    · exact keep f (.inl hf)
    · exact hok f hf
    · exact keep f (.inr hf)
  · simp only [List.map_append]
    refine pair_mid (R := (· ≠ ·)) (fun _ _ h => h.symm) hbs hb ?_
    intro x hx y hy
    obtain ⟨f, hf, rfl⟩ := List.mem_map.1 hx
    obtain ⟨g, hg, rfl⟩ : ∃ g, (g ∈ l1 ∨ g ∈ l2) ∧ g.b = y := by
      rcases hy with hy | hy
      · obtain ⟨g, hg, h⟩ := List.mem_map.1 hy; exact ⟨g, .inl hg, h⟩
      · obtain ⟨g, hg, h⟩ := List.mem_map.1 hy; exact ⟨g, .inr hg, h⟩
    rcases hb' f hf with h1 | ⟨f0, h1, h2⟩
    · have := (h.ok g (oth g hg)).blk.lt; omega
    · rw [h2]; exact hbne f0 h1 g hg
  · simp only [List.flatMap_append]
    refine pair_mid (fun _ _ h => h.symm) hrs hr ?_
    intro x hx y hy
    obtain ⟨f, hf, hx⟩ := List.mem_flatMap.1 hx
    obtain ⟨g, hg, hy⟩ : ∃ g, (g ∈ l1 ∨ g ∈ l2) ∧ y ∈ g.rows := by
      rcases hy with hy | hy
      · obtain ⟨g, hg, h⟩ := List.mem_flatMap.1 hy; exact ⟨g, .inl hg, h⟩
      · obtain ⟨g, hg, h⟩ := List.mem_flatMap.1 hy; exact ⟨g, .inr hg, h⟩
    intro k hk hk2
    rcases hr' f hf x hx k hk with h1 | ⟨f0, h1, u, hu, h2⟩
    · obtain ⟨n, xs, ho⟩ := (h.ok g (oth g hg)).own hy
      have := ho.lt hk2; omega
    · exact hrne f0 h1 u hu g hg y hy k h2 hk2
  · intro f hf
    simp only [List.mem_append] at hf
    have o2 : f ∈ l1 ∨ f ∈ l2 → S' f.b ∧ ∀ v ∈ f.rows, ∀ k, v.ownBlock = some k → S' k := fun hf =>
      ⟨hS _ (h.inS.2.2 f (oth f hf)).1, fun v hv k hk => hS _ ((h.inS.2.2 f (oth f hf)).2 v hv k hk)⟩
    rcases hf with (hf | hf) | hf
    · exact o2 (.inl hf)
    · refine ⟨?_, fun v hv k hk => ?_⟩
      · rcases hb' f hf with h1 | ⟨g, h1, h2⟩
        · exact hN _ h1
        · rw [h2]; exact hS _ (h.inS.2.2 g (inm g h1)).1
      · rcases hr' f hf v hv k hk with h1 | ⟨g, h1, u, hu, h2⟩
        · exact hN _ h1
        · exact hS _ ((h.inS.2.2 g (inm g h1)).2 u hu k h2)
    · exact o2 (.inr hf)
/-- Other memory is written. -/
theorem Dk.keep {TD TF e : TypeId} {w w1 : World} {d m : Nat} {S M : Nat → Prop} {fs : List F} {down : Bool} {acts : Int} (h : Dk TD TF e w d m S fs down acts) (ha : Ag M w w1) (hn : ∀ k, k < w.heap.size → S k → ¬ M k) : Dk TD TF e w1 d m S fs down acts :=
  ⟨h.blk.keep ha (hn _ h.blk.lt h.inS.1), h.map.keep ha (hn _ h.map.lt h.inS.2.1), fun f hf => (h.ok f hf).keep ha (hn _ (h.ok f hf).blk.lt (h.inS.2.2 f hf).1)
    (fun v hv k hk => by obtain ⟨n, xs, ho⟩ := (h.ok f hf).own hv; exact hn _ (ho.lt hk) ((h.inS.2.2 f hf).2 v hv k hk)), h.nms, h.bs, h.rows, h.inS⟩
theorem Dk.mono {TD TF e : TypeId} {w : World} {d m : Nat} {S S' : Nat → Prop} {fs : List F} {down : Bool} {acts : Int} (h : Dk TD TF e w d m S fs down acts) (hS : ∀ k, k < w.heap.size → S k → S' k) : Dk TD TF e w d m S' fs down acts :=
  ⟨h.blk, h.map, h.ok, h.nms, h.bs, h.rows, hS _ h.blk.lt h.inS.1, hS _ h.map.lt h.inS.2.1, fun f hf => ⟨hS _ (h.ok f hf).blk.lt (h.inS.2.2 f hf).1, fun v hv k hk => by
    obtain ⟨n, xs, ho⟩ := (h.ok f hf).own hv; exact hS _ (ho.lt hk) ((h.inS.2.2 f hf).2 v hv k hk)⟩⟩
theorem Own.n {w : World} {e sz n : Nat} {s : Sv} {xs : List Value} (h : Own w e sz s.v n xs) : s.n = n := by
  obtain ⟨A, c, h⟩ := h.form
  simp [Sv.v] at h
  exact h.2.1
def fsz (fs : List F) : Nat := (fs.map fun f => f.s.length + f.a.length).sum
/-! ### What an act makes of the files -/
/-- A file of the name: it was there, or it is new. -/
def Ens (nm : ByteArray) (fs l1 : List F) (f : F) (l2 : List F) : Prop :=
  f.nm = nm ∧ (fs = l1 ++ f :: l2 ∨ (l1 = fs ∧ l2 = [] ∧ f.s = [] ∧ f.a = [] ∧ ∀ g ∈ fs, g.nm ≠ nm))
theorem Dk.add {TD TF e : TypeId} {w w1 : World} {d m : Nat} {S : Nat → Prop} {fs : List F} {down : Bool} {acts : Int} (h : Dk TD TF e w d m S fs down acts)
    (t1 : Nat.beq TF e = false) (t2 : Nat.beq TD e = false) (t3 : Nat.beq TF TD = false) (f : F)
    (hA : Ag (fun k => k = m) w w1) (hM : Mp w1 m (fs.map F.kv ++ [f.kv])) (hok : f.Ok TF e w1) (hb : w.heap.size ≤ f.b)
    (hr : ∀ v ∈ f.rows, ∀ k, v.ownBlock = some k → w.heap.size ≤ k) (hap : apart f.s1.v f.s2.v) (hno : ∀ g ∈ fs, g.nm ≠ f.nm) :
    Dk TD TF e w1 d m (fun k => S k ∨ w.heap.size ≤ k) (fs ++ f :: []) down acts := by
  have h0 : Dk TD TF e w d m S (fs ++ [] ++ []) down acts := by simpa using h
  have h2 := h0.swap (S' := fun k => S k ∨ w.heap.size ≤ k) (mid' := [f]) t1 t2 t3 hA (fun k _ hk => .inr (.inl hk)) (h.blk.keep hA (fun e => h.map.ne h.blk e.symm)) (by simpa using hM)
    (by intro g hg; simp at hg; subst hg; exact hok)
    (by
      simp only [List.append_nil, List.map_append, List.map_cons, List.map_nil, List.nodup_append]
      refine ⟨h.nms, by simp, ?_⟩
      intro a ha b hb
      obtain ⟨g, hg, rfl⟩ := List.mem_map.1 ha
      simp at hb; subst hb; exact hno g hg)
    (by simp) (by intro g hg; simp at hg; subst hg; exact .inl hb)
    (by simp only [List.flatMap_cons, List.flatMap_nil, List.append_nil, F.rows]; simpa using hap)
    (by intro g hg; simp at hg; subst hg; exact fun v hv k hk => .inl (hr v hv k hk)) (fun _ h => .inl h) (fun _ h => .inr h)
  simpa using h2
theorem Dk.upd {TD TF e : TypeId} {w w1 : World} {d m : Nat} {S M : Nat → Prop} {l1 l2 : List F} {f : F} {down : Bool} {acts : Int} (h : Dk TD TF e w d m S (l1 ++ f :: l2) down acts)
    (t1 : Nat.beq TF e = false) (t2 : Nat.beq TD e = false) (t3 : Nat.beq TF TD = false) (f' : F)
    (hA : Ag M w w1) (hMM : ∀ k, k < w.heap.size → M k → k = f.b ∨ rowM f.s1.v k ∨ rowM f.s2.v k) (hb : f'.b = f.b) (hn : f'.nm = f.nm) (hok : f'.Ok TF e w1)
    (hr : ∀ v ∈ f'.rows, ∀ k, v.ownBlock = some k → w.heap.size ≤ k ∨ rowM f.s1.v k ∨ rowM f.s2.v k) (hap : apart f'.s1.v f'.s2.v) :
    Dk TD TF e w1 d m (fun k => S k ∨ w.heap.size ≤ k) (l1 ++ f' :: l2) down acts := by
  have hf := h.ok f (by simp)
  have h0 : Dk TD TF e w d m S (l1 ++ [f] ++ l2) down acts := by simpa using h
  have hnd : ¬ M d := fun hk => by
    rcases hMM _ h.blk.lt hk with h1 | h1 | h1
    · exact (hf.blk.ne h.blk t3) h1.symm
    · exact hf.own1.ne h.blk t2 h1
    · exact hf.own2.ne h.blk t2 h1
  have hnm : ¬ M m := fun hk => by
    rcases hMM _ h.map.lt hk with h1 | h1 | h1
    · exact (h.map.ne hf.blk) h1
    · exact hf.own1.neM h.map h1
    · exact hf.own2.neM h.map h1
  have hkv : (l1 ++ f' :: l2).map F.kv = (l1 ++ f :: l2).map F.kv := by simp [F.kv, hb, hn]
  have hnn : (l1 ++ f' :: l2).map F.nm = (l1 ++ f :: l2).map F.nm := by simp [hn]
  have h2 := h0.swap (S' := fun k => S k ∨ w.heap.size ≤ k) (mid' := [f']) t1 t2 t3 hA
    (fun k hk hMk => by
      rcases hMM k hk hMk with h1 | h1 | h1
      · exact .inr (.inr ⟨f, by simp, .inl h1⟩)
      · exact .inr (.inr ⟨f, by simp, .inr ⟨_, by simp [F.rows], h1⟩⟩)
      · exact .inr (.inr ⟨f, by simp, .inr ⟨f.s2.v, by simp [F.rows], h1⟩⟩))
    (h.blk.keep hA hnd) (by have := h.map.keep hA hnm; rw [← hkv] at this; simpa using this)
    (by intro g hg; simp at hg; subst hg; exact hok) (by have := h.nms; rw [← hnn] at this; simpa using this)
    (by simp) (by intro g hg; simp at hg; subst hg; exact .inr ⟨f, by simp, hb⟩)
    (by simp only [List.flatMap_cons, List.flatMap_nil, List.append_nil, F.rows]; simpa using hap)
    (by
      intro g hg; simp at hg; subst hg
      intro v hv k hk
      rcases hr v hv k hk with h1 | h1 | h1
      · exact .inl h1
      · exact .inr ⟨f, by simp, _, by simp [F.rows], h1⟩
      · exact .inr ⟨f, by simp, f.s2.v, by simp [F.rows], h1⟩) (fun _ h => .inl h) (fun _ h => .inr h)
  simpa using h2
theorem fsz_mem {fs : List F} {f : F} (h : f ∈ fs) : f.s.length + f.a.length ≤ fsz fs := by
  unfold fsz
  induction fs with
  | nil => cases h
  | cons g fs ih =>
    simp only [List.map_cons, List.sum_cons]
    rcases List.mem_cons.1 h with rfl | h
    · omega
    · have := ih h; omega
theorem Ens.sz {nm : ByteArray} {fs l1 l2 : List F} {f : F} (h : Ens nm fs l1 f l2) : f.s.length + f.a.length ≤ fsz fs := by
  obtain ⟨_, rfl | ⟨_, _, h1, h2, _⟩⟩ := h
  · exact fsz_mem (by simp)
  · simp [h1, h2]
theorem Src.z {w : World} {s : Sv} {k : Nat} (h : k = 0) : Src w (s.take k).v 0 [] := by
  subst h
  exact ⟨⟨s.a, s.c, rfl, fun _ => ⟨rfl, rfl⟩, fun a _ j u h => by simp at h⟩, Ones_nil⟩
theorem Dk.lt {TD TF e : TypeId} {w : World} {d m : Nat} {S : Nat → Prop} {fs : List F} {down : Bool} {acts : Int} (h : Dk TD TF e w d m S fs down acts) : Dk TD TF e w d m (fun k => S k ∧ k < w.heap.size) fs down acts :=
  h.mono (fun _ hk hs => ⟨hs, hk⟩)
end Go.Proofs.YtdebnncpclodcaaDoor.X
