/-
  Operations, regions, calls and loops over one invariant of memory. No condition beyond those that the lemmas name.
-/
import Derived.Test.YtdebnncpclodcaaDoorXMore
set_option linter.unusedSimpArgs false
set_option linter.unusedVariables false
namespace Go.Proofs.YtdebnncpclodcaaDoor.X
open Go.RowKit

/-! ### What never changes any more: cells that are known -/
abbrev Hp := Nat → Nat → Option Value
def Hle (H H' : Hp) : Prop := ∀ b i v, H b i = some v → H' b i = some v
theorem Hle.refl (H : Hp) : Hle H H := fun _ _ _ h => h
theorem Hle.trans {H H' H'' : Hp} (h : Hle H H') (k : Hle H' H'') : Hle H H'' := fun b i v e => k b i v (h b i v e)

/-! ### Cells in chunks -/
structure Ck where
  n : Nat
  l : List Value
  h : l.length = n
  o : Ones l
def Ck.one (v : Value) (h : v.oneCell' = true) : Ck := ⟨1, [v], rfl, Ones_cons h Ones_nil⟩
def flat : List Ck → List Value
  | [] => []
  | c :: r => c.l ++ flat r
def csz : List Ck → Nat
  | [] => 0
  | c :: r => c.n + csz r
theorem flat_length : ∀ l : List Ck, (flat l).length = csz l
  | [] => rfl
  | c :: r => by simp [flat, csz, flat_length r, c.h]
theorem flat_append : ∀ l m : List Ck, flat (l ++ m) = flat l ++ flat m
  | [], m => rfl
  | c :: r, m => by simp [flat, flat_append r m]
theorem csz_append : ∀ l m : List Ck, csz (l ++ m) = csz l + csz m
  | [], m => by simp [csz]
  | c :: r, m => by simp [csz, csz_append r m]; omega
theorem flat_ones : ∀ l : List Ck, Ones (flat l)
  | [] => Ones_nil
  | c :: r => Ones_app c.o (flat_ones r)
/-- Chunks p, p+1, .. (m of them) begin at cell off. -/
def atB (cks : List Ck) (off p m sz : Nat) : Bool := Nat.beq (csz (cks.take p)) off && Nat.beq (csz ((cks.drop p).take m)) sz
theorem atB_spec {cks : List Ck} {off p m sz : Nat} (h : atB cks off p m sz = true) : csz (cks.take p) = off ∧ csz ((cks.drop p).take m) = sz := by
  unfold atB at h
  simp only [Bool.and_eq_true] at h
  exact ⟨Nat.eq_of_beq_eq_true h.1, Nat.eq_of_beq_eq_true h.2⟩
theorem flat_split (cks : List Ck) (p m : Nat) : flat cks = flat (cks.take p) ++ (flat ((cks.drop p).take m) ++ flat (cks.drop (p + m))) := by
  rw [← flat_append, ← flat_append]
  congr 1
  rw [← List.drop_drop, List.take_append_drop, List.take_append_drop]
theorem flat_at {cks : List Ck} {off p m sz : Nat} (h : atB cks off p m sz = true) : ∀ j, j < sz → (flat cks)[off + j]? = (flat ((cks.drop p).take m))[j]? := by
  obtain ⟨h1, h2⟩ := atB_spec h
  intro j hj
  rw [flat_split cks p m, List.getElem?_append_right (by rw [flat_length]; omega), flat_length, h1, Nat.add_sub_cancel_left, List.getElem?_append_left (by rw [flat_length]; omega)]

/-! ### What is known of the heap -/
inductive Ent where
  | cb (b : Nat) (cks : List Ck) (T : TypeId)
  | own (s : Sv) (e sz : Nat) (g : Option Nat)
  | ob (b : Nat) (o : Obj)
def Ent.blk : Ent → Option Nat
  | .cb b _ _ => some b
  | .own _ _ _ g => g
  | .ob b _ => some b
def Ent.Ok (w : World) (H : Hp) : Ent → Prop
  | .cb b cks T => w.heap[b]? = some (.cells (flat cks).toArray T (0, 0)) ∧ ∀ i, H b i = none
  | .own s _ _ none => s.n = s.c
  | .own s e sz (some g) => s.a = some ⟨g, 0, none⟩ ∧ s.n ≤ s.c ∧ (∃ cur, w.heap[g]? = some (.cells cur e (0, 0)) ∧ cur.size = s.c * sz) ∧ ∀ i, s.n * sz ≤ i → H g i = none
  | .ob b o => w.heap[b]? = some o ∧ ∀ i, H b i = none
theorem Ent.Ok.lt {w : World} {H : Hp} {e : Ent} (h : e.Ok w H) {b : Nat} (hb : e.blk = some b) : b < w.heap.size := by
  cases e with
  | cb b' cks T => cases hb; exact (Array.getElem?_eq_some_iff.1 h.1).1
  | own s e sz g =>
    simp only [Ent.blk] at hb
    subst hb
    obtain ⟨_, _, ⟨cur, h1, _⟩, _⟩ := h
    exact (Array.getElem?_eq_some_iff.1 h1).1
  | ob b' o => cases hb; exact (Array.getElem?_eq_some_iff.1 h.1).1
theorem Ent.Ok.keep {w w1 : World} {H H1 : Hp} {e : Ent} (h : e.Ok w H) (k : ∀ b, e.blk = some b → w1.heap[b]? = w.heap[b]? ∧ ∀ i, H1 b i = H b i) : e.Ok w1 H1 := by
  cases e with
  | cb b cks T => obtain ⟨k1, k2⟩ := k b rfl; exact ⟨k1.trans h.1, fun i => (k2 i).trans (h.2 i)⟩
  | own s e sz g =>
    cases g with
    | none => exact h
    | some g =>
      obtain ⟨k1, k2⟩ := k g rfl
      obtain ⟨h1, h2, ⟨cur, h3, h4⟩, h5⟩ := h
      exact ⟨h1, h2, ⟨cur, k1.trans h3, h4⟩, fun i hi => (k2 i).trans (h5 i hi)⟩
  | ob b o => obtain ⟨k1, k2⟩ := k b rfl; exact ⟨k1.trans h.1, fun i => (k2 i).trans (h.2 i)⟩

structure Good (w : World) (H : Hp) (L : List Ent) : Prop where
  cell : ∀ b i v, H b i = some v → w.cell? ⟨b, i, none⟩ = some v
  ok : ∀ e ∈ L, e.Ok w H
  nd : (L.filterMap Ent.blk).Nodup
theorem cell_lt {w : World} {b i : Nat} {v : Value} (h : w.cell? ⟨b, i, none⟩ = some v) : b < w.heap.size := by
  unfold World.cell? at h
  cases hb : w.heap[b]? with
  | none => simp [hb] at h
  | some o => exact (Array.getElem?_eq_some_iff.1 hb).1
theorem Good.lt {w : World} {H : Hp} {L : List Ent} (h : Good w H L) {b i : Nat} {v : Value} (hv : H b i = some v) : b < w.heap.size := cell_lt (h.cell b i v hv)
theorem Good.new {w : World} {H : Hp} {L : List Ent} (h : Good w H L) {b : Nat} (hb : w.heap.size ≤ b) (i : Nat) : H b i = none := by
  cases hv : H b i with
  | none => rfl
  | some v => have := h.lt hv; omega
structure Ext (M : Nat → Prop) (w : World) (H : Hp) (w' : World) (H' : Hp) : Prop where
  ag : Ag M w w'
  le : Hle H H'
  new : ∀ b i, b < w.heap.size → ¬ M b → H' b i = H b i
theorem Ext.refl (M : Nat → Prop) (w : World) (H : Hp) : Ext M w H w H := ⟨Ag.refl _ _, Hle.refl _, fun _ _ _ _ => rfl⟩
theorem Ext.step {M M' : Nat → Prop} {w w1 w2 : World} {H H1 H2 : Hp} (h : Ext M w H w1 H1) (k : Ext M' w1 H1 w2 H2) (hm : ∀ i, i < w.heap.size → M' i → M i) : Ext M w H w2 H2 :=
  ⟨h.ag.step k.ag hm, h.le.trans k.le, fun b i hb hn => (k.new b i (Nat.lt_of_lt_of_le hb h.ag.size) (fun hm' => hn (hm b hb hm'))).trans (h.new b i hb hn)⟩
structure Base where
  w : World
  H : Hp
  M : Nat → Prop
structure Inv (B : Base) (w : World) (H : Hp) (L : List Ent) : Prop where
  good : Good w H L
  ext : Ext B.M B.w B.H w H
  loc : ∀ e ∈ L, ∀ b, e.blk = some b → B.M b ∨ B.w.heap.size ≤ b
def blks (L : List Ent) : Nat → Prop := fun b => ∃ e ∈ L, e.blk = some b
theorem Inv.start {w : World} {H : Hp} {L : List Ent} (h : Good w H L) : Inv ⟨w, H, blks L⟩ w H L :=
  ⟨h, Ext.refl _ _ _, fun e he b hb => .inl ⟨e, he, hb⟩⟩

theorem Good.sub {w : World} {H : Hp} {L L' : List Ent} (h : Good w H L) (hs : L'.Sublist L) : Good w H L' :=
  ⟨h.cell, fun e he => h.ok e (hs.subset he), h.nd.sublist (hs.filterMap _)⟩
theorem Inv.sub {B : Base} {w : World} {H : Hp} {L L' : List Ent} (h : Inv B w H L) (hs : L'.Sublist L) : Inv B w H L' :=
  ⟨h.good.sub hs, h.ext, fun e he => h.loc e (hs.subset he)⟩
theorem Inv.perm {B : Base} {w : World} {H : Hp} {L L' : List Ent} (h : Inv B w H L) (hs : L'.Perm L) : Inv B w H L' :=
  ⟨⟨h.good.cell, fun e he => h.good.ok e (hs.mem_iff.1 he), ((hs.filterMap _).nodup_iff).2 h.good.nd⟩, h.ext, fun e he => h.loc e (hs.mem_iff.1 he)⟩
theorem Inv.erase {B : Base} {w : World} {H : Hp} {L : List Ent} (h : Inv B w H L) (i : Nat) : Inv B w H (L.eraseIdx i) := h.sub (List.eraseIdx_sublist _ _)
theorem Inv.take {B : Base} {w : World} {H : Hp} {L : List Ent} (h : Inv B w H L) (i : Nat) : Inv B w H (L.take i) := h.sub (List.take_sublist _ _)
theorem perm_bring {α : Type} : ∀ (L : List α) (i : Nat) (x : α), L[i]? = some x → (x :: L.eraseIdx i).Perm L
  | [], i, x, h => by simp at h
  | y :: L, 0, x, h => by simp at h; subst h; exact List.Perm.refl _
  | y :: L, i + 1, x, h => by
    simp at h
    exact (List.Perm.swap y x _).trans ((perm_bring L i x h).cons y)
theorem Inv.bring {B : Base} {w : World} {H : Hp} {L : List Ent} (h : Inv B w H L) (i : Nat) {x : Ent} (hx : L[i]? = some x) : Inv B w H (x :: L.eraseIdx i) := h.perm (perm_bring L i x hx)

/-- Of the blocks only those of M changed, and none of them is known but in L1. -/
theorem Good.move {M : Nat → Prop} {w w1 : World} {H H1 : Hp} {L L1 : List Ent} (h : Good w H L) (hE : Ext M w H w1 H1) (hL : ∀ e ∈ L1, (e ∈ L ∧ ∀ b, e.blk = some b → ¬ M b) ∨ e.Ok w1 H1) (hc : ∀ b i v, H1 b i = some v → w1.cell? ⟨b, i, none⟩ = some v) (hn : (L1.filterMap Ent.blk).Nodup) : Good w1 H1 L1 :=
  ⟨hc, fun e he => by
    rcases hL e he with ⟨h1, h2⟩ | h1
    · exact (h.ok e h1).keep (fun b hb => ⟨hE.ag.keep b ((h.ok e h1).lt hb) (h2 b hb), fun i => hE.new b i ((h.ok e h1).lt hb) (h2 b hb)⟩)
    · exact h1, hn⟩
theorem cell_keep {M : Nat → Prop} {w w1 : World} {b i : Nat} {v : Value} (ha : Ag M w w1) (hn : ¬ M b) (h : w.cell? ⟨b, i, none⟩ = some v) : w1.cell? ⟨b, i, none⟩ = some v := by
  have hl := cell_lt h
  have := ha.keep b hl hn
  unfold World.cell? at h ⊢
  simp only at h ⊢
  rw [this]; exact h

/-- New memory. -/
theorem Inv.new {B : Base} {w w1 : World} {H : Hp} {L : List Ent} (h : Inv B w H L) (x : Ent) (ha : Ag M0 w w1) (hx : x.Ok w1 H) (hb : ∀ b, x.blk = some b → w.heap.size ≤ b) : Inv B w1 H (L ++ [x]) := by
  have hE : Ext M0 w H w1 H := ⟨ha, Hle.refl _, fun _ _ _ _ => rfl⟩
  refine ⟨h.good.move hE ?_ (fun b i v hv => cell_keep ha (fun h => h) (h.good.cell b i v hv)) ?_, h.ext.step hE (fun _ _ h => h.elim), ?_⟩
  · intro e he
    rcases List.mem_append.1 he with he | he
    · exact .inl ⟨he, fun _ _ h => h⟩
    · simp at he; subst he; exact .inr hx
  · rw [List.filterMap_append, List.nodup_append]
    refine ⟨h.good.nd, ?_, ?_⟩
    · cases hq : x.blk with
      | none => simp [hq]
      | some b => simp [hq]
    · intro a ha' b hb'
      obtain ⟨e, he, hea⟩ := List.mem_filterMap.1 ha'
      obtain ⟨e', he', heb⟩ := List.mem_filterMap.1 hb'
      simp at he'; subst he'
      have h1 := (h.good.ok e he).lt hea
      have h2 := hb b heb
      omega
  · intro e he b hb'
    rcases List.mem_append.1 he with he | he
    · exact h.loc e he b hb'
    · simp at he; subst he
      have := hb b hb'
      exact .inr (Nat.le_trans h.ext.ag.size this)
theorem Inv.ag0 {B : Base} {w w1 : World} {H : Hp} {L : List Ent} (h : Inv B w H L) (ha : Ag M0 w w1) : Inv B w1 H L := by
  have hE : Ext M0 w H w1 H := ⟨ha, Hle.refl _, fun _ _ _ _ => rfl⟩
  exact ⟨h.good.move hE (fun e he => .inl ⟨he, fun _ _ h => h⟩) (fun b i v hv => cell_keep ha (fun h => h) (h.good.cell b i v hv)) h.good.nd, h.ext.step hE (fun _ _ h => h.elim), h.loc⟩
theorem nodup_set {L : List Ent} {i : Nat} {x y : Ent} (hx : L[i]? = some x) (hb : y.blk = x.blk) : (L.set i y).filterMap Ent.blk = L.filterMap Ent.blk := by
  induction L generalizing i with
  | nil => simp
  | cons e L ih =>
    cases i with
    | zero => simp at hx; subst hx; simp [List.filterMap_cons, hb]
    | succ i => simp at hx; simp [List.filterMap_cons, ih hx]
theorem set_mem {L : List Ent} {i : Nat} {x y e : Ent} (hn : (L.filterMap Ent.blk).Nodup) (hx : L[i]? = some x) (he : e ∈ L.set i y) : e = y ∨ (e ∈ L ∧ ∀ b, e.blk = some b → x.blk ≠ some b) := by
  induction L generalizing i with
  | nil => simp at he
  | cons z L ih =>
    cases i with
    | zero =>
      simp at hx; subst hx
      simp at he
      rcases he with rfl | he
      · exact .inl rfl
      · refine .inr ⟨List.mem_cons_of_mem _ he, fun b hb hzb => ?_⟩
        simp [List.filterMap_cons, hzb] at hn
        exact hn.1 e he hb
    | succ i =>
      simp at hx
      simp at he
      rcases he with rfl | he
      · refine .inr ⟨List.mem_cons_self, fun b hb hxb => ?_⟩
        simp [List.filterMap_cons, hb] at hn
        exact hn.1 x (List.mem_of_getElem? hx) hxb
      · have hn' : (L.filterMap Ent.blk).Nodup := hn.sublist ((List.sublist_cons_self z L).filterMap _)
        rcases ih hn' hx he with h | ⟨h1, h2⟩
        · exact .inl h
        · exact .inr ⟨List.mem_cons_of_mem _ h1, h2⟩
/-- One entry's block is written; its cells are none of the known ones. -/
theorem Inv.put {B : Base} {w w1 : World} {H : Hp} {L : List Ent} (h : Inv B w H L) (i : Nat) {x y : Ent} {g : Nat} (hx : L[i]? = some x) (hg : x.blk = some g) (hy : y.blk = some g) (hH : ∀ i, H g i = none) (ha : Ag (fun k => k = g) w w1) (hok : y.Ok w1 H) : Inv B w1 H (L.set i y) := by
  have hE : Ext (fun k => k = g) w H w1 H := ⟨ha, Hle.refl _, fun _ _ _ _ => rfl⟩
  have hm : x ∈ L := List.mem_of_getElem? hx
  refine ⟨h.good.move hE ?_ ?_ ?_, ?_, ?_⟩
  · intro e he
    rcases set_mem h.good.nd hx he with rfl | ⟨h1, h2⟩
    · exact .inr hok
    · exact .inl ⟨h1, fun b hb hbg => h2 b hb (by rw [hg, hbg])⟩
  · intro b j v hv
    refine cell_keep ha (fun hbg => ?_) (h.good.cell b j v hv)
    subst hbg
    rw [hH j] at hv; cases hv
  · rw [nodup_set hx (hy.trans hg.symm)]; exact h.good.nd
  · refine ⟨h.ext.ag.step ha ?_, h.ext.le, h.ext.new⟩
    intro k hk hkg
    subst hkg
    rcases h.loc x hm _ hg with h1 | h1
    · exact h1
    · omega
  · intro e he b hb
    rcases set_mem h.good.nd hx he with rfl | ⟨h1, _⟩
    · rw [hy] at hb; cases hb
      exact h.loc x hm g hg
    · exact h.loc e h1 b hb

/-- A block's cells are known from now on. -/
def Hadd (H : Hp) (g : Nat) (cs : List Value) : Hp := fun b i => if b = g then (match H b i with | some v => some v | none => cs[i]?) else H b i
theorem Hadd_le (H : Hp) (g : Nat) (cs : List Value) : Hle H (Hadd H g cs) := by
  intro b i v h
  unfold Hadd
  split
  · simp [h]
  · exact h
theorem Hadd_at {H : Hp} {g : Nat} {cs : List Value} (hn : ∀ i, H g i = none) (i : Nat) : Hadd H g cs g i = cs[i]? := by simp [Hadd, hn]
theorem Hadd_ne {H : Hp} {g : Nat} {cs : List Value} {b : Nat} (h : b ≠ g) (i : Nat) : Hadd H g cs b i = H b i := by simp [Hadd, h]
/-- The cells at (b, j), in chunks. -/
def At (H : Hp) (b j : Nat) (cks : List Ck) : Prop := ∀ k v, (flat cks)[k]? = some v → H b (j + k) = some v
theorem At.mono {H H' : Hp} {b j : Nat} {cks : List Ck} (h : At H b j cks) (hl : Hle H H') : At H' b j cks := fun k v hk => hl _ _ _ (h k v hk)
theorem Inv.freeze {B : Base} {w : World} {H : Hp} {L : List Ent} (h : Inv B w H L) (i : Nat) {g : Nat} {cks : List Ck} {T : TypeId} (hx : L[i]? = some (.cb g cks T)) (hold : B.w.heap.size ≤ g ∨ B.M g) :
    ∃ H1, Inv B w H1 (L.eraseIdx i) ∧ Hle H H1 ∧ At H1 g 0 cks := by
  have hm : Ent.cb g cks T ∈ L := List.mem_of_getElem? hx
  have hok := h.good.ok _ hm
  have hb := (h.bring i hx)
  refine ⟨Hadd H g (flat cks), ⟨⟨?_, ?_, (h.erase i).good.nd⟩, ⟨h.ext.ag, h.ext.le.trans (Hadd_le _ _ _), ?_⟩, (h.erase i).loc⟩, Hadd_le _ _ _, ?_⟩
  · intro b j v hv
    by_cases hbg : b = g
    · subst hbg
      rw [Hadd_at hok.2] at hv
      have h1 := hok.1
      simp [World.cell?, h1, hv]
    · rw [Hadd_ne hbg] at hv
      exact h.good.cell b j v hv
  · intro e he
    refine ((h.erase i).good.ok e he).keep (fun b hb' => ⟨rfl, fun j => Hadd_ne ?_ j⟩)
    intro hbg; subst hbg
    have hn := hb.good.nd
    simp only [List.filterMap_cons, Ent.blk] at hn
    rw [List.nodup_cons] at hn
    exact hn.1 (List.mem_filterMap.2 ⟨e, he, hb'⟩)
  · intro b j hbl hnm
    rw [Hadd_ne, h.ext.new b j hbl hnm]
    rintro rfl
    rcases hold with h1 | h1
    · omega
    · exact hnm h1
  · intro k v hk
    rw [Nat.zero_add, Hadd_at hok.2]; exact hk
theorem Inv.freeze' {B : Base} {w : World} {H : Hp} {L : List Ent} (h : Inv B w H L) (i : Nat) {g : Nat} {cks : List Ck} {T : TypeId} (hx : L[i]? = some (.cb g cks T)) :
    ∃ H1, Inv B w H1 (L.eraseIdx i) ∧ Hle H H1 ∧ At H1 g 0 cks := h.freeze i hx ((h.loc _ (List.mem_of_getElem? hx) g rfl).symm)

/-! ### What a call leaves -/
theorem Inv.call {B : Base} {w w1 : World} {H H1 : Hp} {Lc L' Lr : List Ent} (h : Inv B w H (Lc ++ Lr)) (hG : Good w1 H1 L') (hE : Ext (blks Lc) w H w1 H1) (hl : ∀ e ∈ L', ∀ b, e.blk = some b → blks Lc b ∨ w.heap.size ≤ b) : Inv B w1 H1 (L' ++ Lr) := by
  have hnd := h.good.nd
  rw [List.filterMap_append, List.nodup_append] at hnd
  have hr : ∀ e ∈ Lr, ∀ b, e.blk = some b → ¬ blks Lc b := fun e he b hb ⟨e', he', hb'⟩ => hnd.2.2 b (List.mem_filterMap.2 ⟨e', he', hb'⟩) b (List.mem_filterMap.2 ⟨e, he, hb⟩) rfl
  refine ⟨h.good.move hE ?_ hG.cell ?_, h.ext.step hE ?_, ?_⟩
  · intro e he
    rcases List.mem_append.1 he with he | he
    · exact .inr (hG.ok e he)
    · exact .inl ⟨List.mem_append_right _ he, hr e he⟩
  · rw [List.filterMap_append, List.nodup_append]
    refine ⟨hG.nd, hnd.2.1, ?_⟩
    intro a ha b hb hab
    subst hab
    obtain ⟨e, he, hea⟩ := List.mem_filterMap.1 ha
    obtain ⟨e', he', heb⟩ := List.mem_filterMap.1 hb
    rcases hl e he a hea with h1 | h1
    · exact hr e' he' a heb h1
    · have := (h.good.ok e' (List.mem_append_right _ he')).lt heb
      omega
  · rintro i hi ⟨e, he, hb⟩
    rcases h.loc e (List.mem_append_left _ he) i hb with h1 | h1
    · exact h1
    · omega
  · intro e he b hb
    rcases List.mem_append.1 he with he | he
    · rcases hl e he b hb with ⟨e', he', hb'⟩ | h1
      · exact h.loc e' (List.mem_append_left _ he') b hb'
      · exact .inr (Nat.le_trans h.ext.ag.size h1)
    · exact h.loc e (List.mem_append_right _ he) b hb
theorem Inv.part {B : Base} {w : World} {H : Hp} {L : List Ent} (h : Inv B w H L) (k : Nat) : Good w H (L.take k) := h.good.sub (List.take_sublist _ _)
end Go.Proofs.YtdebnncpclodcaaDoor.X
