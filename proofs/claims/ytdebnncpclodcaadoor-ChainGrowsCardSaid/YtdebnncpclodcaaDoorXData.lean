/-
  Rows of memory that are read or owned, and digests. No condition beyond those that the lemmas name.
-/
import Derived.Test.YtdebnncpclodcaaDoorXOps
namespace Go.Proofs.YtdebnncpclodcaaDoor.X
open Go.RowKit

/-! ### Bytes, digests -/
def bv (x : UInt8) : Value := .int .u8 x.toNat
def bvs (l : List UInt8) : List Value := l.map bv
theorem bvs_length (l : List UInt8) : (bvs l).length = l.length := by simp [bvs]
theorem bvs_append (l m : List UInt8) : bvs (l ++ m) = bvs l ++ bvs m := by simp [bvs]
theorem Ones_nil : Ones [] := fun _ h => by cases h
theorem Ones_cons {v : Value} {cs : List Value} (h : v.oneCell' = true) (k : Ones cs) : Ones (v :: cs) := fun u hu => by
  rcases List.mem_cons.1 hu with rfl | hu
  · exact h
  · exact k u hu
theorem Ones_app {cs ds : List Value} (h : Ones cs) (k : Ones ds) : Ones (cs ++ ds) := fun u hu => by
  rcases List.mem_append.1 hu with hu | hu
  · exact h u hu
  · exact k u hu
theorem Ones_bvs (l : List UInt8) : Ones (bvs l) := fun u hu => by
  obtain ⟨x, _, rfl⟩ := List.mem_map.1 hu
  rfl
/-- A digest: 32 bytes. -/
structure Dig where
  l : List UInt8
  h : l.length = 32
theorem Dig.ext' {a b : Dig} (h : a.l = b.l) : a = b := by cases a; cases b; cases h; rfl
instance : DecidableEq Dig := fun a b => if h : a.l = b.l then isTrue (Dig.ext' h) else isFalse (fun e => h (by rw [e]))
def Dig.c (d : Dig) : List Value := bvs d.l
theorem Dig.len (d : Dig) : d.c.length = 32 := by simp [Dig.c, bvs_length, d.h]
theorem Dig.ones (d : Dig) : Ones d.c := Ones_bvs _
def Dig.zero : Dig := ⟨List.replicate 32 0, by simp⟩

/-! ### A slice that is read -/
structure Sv where
  a : Option Addr
  n : Nat
  c : Nat
def Sv.v (s : Sv) : Value := .slice s.a s.n s.c
theorem Sv.one (s : Sv) : s.v.oneCell' = true := rfl
def Sv.nil : Sv := ⟨none, 0, 0⟩
/-- Slice s reads as elements of sz cells each, in a block that D holds. -/
structure Row (D : Nat → Prop) (w : World) (s : Sv) (sz : Nat) (css : List (List Value)) : Prop where
  len : s.n = css.length
  cap : s.n ≤ s.c
  bd : s.n ≤ 140737488355328
  el : s.n = 0 ∨ ∃ b off cells, s.a = some ⟨b, off, none⟩ ∧ D b ∧ Cel w b cells ∧ ∀ i cs, css[i]? = some cs → cs.length = sz ∧ ∀ j, j < sz → cells[off + i * sz + j]? = cs[j]?
theorem Row.keep {D : Nat → Prop} {M : Nat → Prop} {w w1 : World} {s : Sv} {sz : Nat} {css : List (List Value)} (h : Row D w s sz css) (ha : Ag M w w1) (hn : ∀ k, k < w.heap.size → D k → ¬ M k) : Row D w1 s sz css :=
  ⟨h.len, h.cap, h.bd, h.el.imp id (fun ⟨b, off, cells, h1, h2, h3, h4⟩ => ⟨b, off, cells, h1, h2, h3.keep ha (hn b h3.lt h2), h4⟩)⟩
theorem Row.mono {D D' : Nat → Prop} {w : World} {s : Sv} {sz : Nat} {css : List (List Value)} (h : Row D w s sz css) (hd : ∀ k, k < w.heap.size → D k → D' k) : Row D' w s sz css :=
  ⟨h.len, h.cap, h.bd, h.el.imp id (fun ⟨b, off, cells, h1, h2, h3, h4⟩ => ⟨b, off, cells, h1, hd b h3.lt h2, h3, h4⟩)⟩
theorem Row.nil (D : Nat → Prop) (w : World) (sz : Nat) : Row D w Sv.nil sz [] := ⟨rfl, Nat.le_refl _, by simp [Sv.nil], .inl rfl⟩
/-- Where there is an element. -/
theorem Row.pos {D : Nat → Prop} {w : World} {s : Sv} {sz : Nat} {css : List (List Value)} (h : Row D w s sz css) (hp : 0 < s.n) :
    ∃ b off cells, s.a = some ⟨b, off, none⟩ ∧ D b ∧ Cel w b cells ∧ ∀ i cs, css[i]? = some cs → cs.length = sz ∧ ∀ j, j < sz → cells[off + i * sz + j]? = cs[j]? := by
  rcases h.el with h0 | h1
  · omega
  · exact h1

theorem r_ixv {j : Nat} {P : Program} {o : Oper} {ρ : Nat → Value} {n : Nat} {w : World} {T e sz : Nat} {x y : Operand} {s : Sv} {b off : Nat} {k : IntKind} {i : Int} (ho : o.op = .indexAddr T x y) (hT : sliceB P T e sz = true) (hx : opd ρ n x = s.v) (ha : s.a = some ⟨b, off, none⟩) (hy : opd ρ n y = .int k i)
    (h0 : 0 ≤ i) (h1 : i < s.n) (hj : off + i.toNat * sz = j) : Rn P ρ n o w (.pointer (some ⟨b, j, none⟩)) w :=
  r_ixs ho hT (show opd ρ n x = .slice (some ⟨b, off, none⟩) s.n s.c by rw [hx, ← ha]; rfl) hy h0 h1 hj

/-! ### A row of the call's own -/
def Own (w : World) (e sz : Nat) (v : Value) (n : Nat) (xs : List Value) : Prop := w.ownsRow 0 e sz v n xs
theorem Own.nil (w : World) (e sz : Nat) : Own w e sz (.slice none 0 0) 0 [] := World.ownsRow_nil _ _ _ _
theorem Own.form {w : World} {e sz n : Nat} {v : Value} {xs : List Value} (h : Own w e sz v n xs) : ∃ A c, v = .slice A n c := by
  rcases h.2 with ⟨rfl, rfl⟩ | ⟨g, cap, cur, rfl, _⟩
  · exact ⟨none, 0, rfl⟩
  · exact ⟨_, cap, rfl⟩
theorem Own.one {w : World} {e sz n : Nat} {v : Value} {xs : List Value} (h : Own w e sz v n xs) : v.oneCell' = true := by
  obtain ⟨A, c, rfl⟩ := h.form
  rfl
def rowM (v : Value) : Nat → Prop := fun k => v.ownBlock = some k
theorem Own.lt {w : World} {e sz n : Nat} {v : Value} {xs : List Value} (h : Own w e sz v n xs) {k : Nat} (hk : v.ownBlock = some k) : k < w.heap.size := (World.ownsRow.lt h k hk).2
theorem Own.keep {M : Nat → Prop} {w w1 : World} {e sz n : Nat} {v : Value} {xs : List Value} (h : Own w e sz v n xs) (ha : Ag M w w1) (hn : ∀ k, v.ownBlock = some k → ¬ M k) : Own w1 e sz v n xs := by
  refine ⟨h.1, ?_⟩
  rcases h.2 with h2 | ⟨g, cap, cur, rfl, hb, hg, r⟩
  · exact .inl h2
  · refine .inr ⟨g, cap, cur, rfl, hb, (ha.keep g (Array.getElem?_eq_some_iff.1 hg).1 (hn g rfl)).trans hg, r⟩
/-- The row's block has cells of type e. -/
theorem Own.ne {w : World} {e sz n b : Nat} {v : Value} {xs cs : List Value} {T : TypeId} (h : Own w e sz v n xs) (hB : Blk w b cs T) (ht : Nat.beq T e = false) : ¬ rowM v b := by
  intro hk
  rcases h.2 with ⟨rfl, _⟩ | ⟨g, cap, cur, rfl, _, hg, _⟩
  · cases hk
  · have hk' : g = b := by simpa [rowM, Value.ownBlock] using hk
    subst hk'
    unfold Blk at hB
    rw [hg] at hB
    injection hB with hB
    injection hB with _ hB
    subst hB
    simp at ht
/-- What it reads as: any D that holds its block. -/
theorem Own.row {D : Nat → Prop} {w : World} {e sz n : Nat} {v : Value} {css : List (List Value)} (h : Own w e sz v n css.flatten) (hsz : ∀ cs ∈ css, cs.length = sz) (hz : 0 < sz) (hD : ∀ k, v.ownBlock = some k → D k) (hb : n ≤ 140737488355328) :
    ∃ s : Sv, v = s.v ∧ Row D w s sz css := by
  have hl : css.flatten.length = css.length * sz := by
    clear h hb
    induction css with
    | nil => simp
    | cons c l ih => simp [ih (fun cs hc => hsz cs (by simp [hc])), hsz c (by simp), Nat.add_mul, Nat.add_comm]
  have hn : n = css.length := by
    have := h.1
    rw [hl] at this
    exact Nat.eq_of_mul_eq_mul_right hz this.symm
  have hat : ∀ (css : List (List Value)), (∀ cs ∈ css, cs.length = sz) → ∀ i cs, css[i]? = some cs → ∀ j, j < sz → css.flatten[i * sz + j]? = cs[j]? := by
    intro css
    induction css with
    | nil => intro _ i cs hi; simp at hi
    | cons c l ih =>
      intro hs i cs hi j hj
      have hc := hs c (by simp)
      cases i with
      | zero =>
        simp at hi; subst hi
        simp [List.getElem?_append, hc, hj]
      | succ i =>
        simp at hi
        have := ih (fun cs hc => hs cs (by simp [hc])) i cs hi j hj
        rw [← this]
        simp only [List.flatten_cons, List.getElem?_append, hc]
        rw [if_neg (by rw [Nat.add_mul]; omega)]
        congr 1
        rw [Nat.add_mul]; omega
  rcases h.2 with ⟨rfl, h0⟩ | ⟨g, cap, cur, rfl, _, hg, hc, hm, hcs, ht⟩
  · exact ⟨Sv.nil, rfl, ⟨by rw [← hn, h0]; rfl, Nat.le_refl _, by simp [Sv.nil], .inl rfl⟩⟩
  · refine ⟨⟨some ⟨g, 0, none⟩, n, cap⟩, rfl, ⟨hn, hc, hb, .inr ⟨g, 0, cur.toList, rfl, hD g rfl, ⟨e, (0, 0), by simpa using hg⟩, ?_⟩⟩⟩
    intro i cs hi
    have hm' : cs ∈ css := List.mem_of_getElem? hi
    refine ⟨hsz cs hm', fun j hj => ?_⟩
    rw [← hat css hsz i cs hi j hj, ← ht, List.getElem?_take, Nat.zero_add, if_pos]
    have hi' : i < css.length := (List.getElem?_eq_some_iff.1 hi).1
    have := Nat.mul_le_mul_right sz (show i + 1 ≤ n by omega)
    rw [Nat.add_mul] at this
    omega

section
variable {P : Program} {ops : Array Oper} {rest : List Oper} {o : Oper} {Q : Exit → Act → World → Prop} {ρ : Nat → Value} {n : Nat} {w w1 : World} {v : Value} {d : Nat}

/-- What is appended: news, read off x. -/
structure Src (w : World) (x : Value) (m : Nat) (news : List Value) : Prop where
  at_ : (∃ A c, x = .slice A m c ∧ (A = none → m = 0 ∧ news = []) ∧ ∀ a, A = some a → ∀ j u, news[j]? = some u → w.cell? (a.add j) = some u)
  one : Ones news
def infB (P : Program) (e sz bytes : Nat) : Bool := match P.info? e with
  | some i => i.size == sz && i.bytes == bytes && (match i.zero with | some z => z.cells.size == sz | none => false)
  | none => false
theorem infB_spec {e sz bytes : Nat} (h : infB P e sz bytes = true) : ∃ i z, P.info? e = some i ∧ i.zero = some z ∧ i.size = sz ∧ i.bytes = bytes ∧ z.cells.size = sz := by
  unfold infB at h
  cases hi : P.info? e with
  | none => simp [hi] at h
  | some i =>
    simp [hi] at h
    obtain ⟨⟨h1, h2⟩, h3⟩ := h
    cases hz : i.zero with
    | none => simp [hz] at h3
    | some z => exact ⟨i, z, rfl, hz, h1, h2, by simpa [hz] using h3⟩
end

/-! ### code.Writer -/
def rowOf (w : World) (b : Nat) : Option Nat := match w.heap[b]? with | some (.cells cs _ _) => (cs.getD 0 undef).ownBlock | _ => none
def fpW (wb : Nat) : World → Nat → Prop := fun w k => k = wb ∨ rowOf w wb = some k
/-- The writer at wb has written bs. -/
def Wr (T e : TypeId) (w : World) (wb : Nat) (bs : List UInt8) : Prop := ∃ v, Blk w wb [v] T ∧ Own w e 1 v bs.length (bvs bs) ∧ ¬ rowM v wb
/-- From w to w1 the objects of fp alone were written, and they took no old block. -/
structure Fr (fp : World → Nat → Prop) (w w1 : World) : Prop where
  ag : Ag (fp w) w w1
  foot : ∀ k, k < w.heap.size → fp w1 k → fp w k
theorem Fr.refl (fp : World → Nat → Prop) (w : World) : Fr fp w w := ⟨Ag.refl _ _, fun _ _ h => h⟩
theorem Fr.trans {fp : World → Nat → Prop} {w w1 w2 : World} (h : Fr fp w w1) (k : Fr fp w1 w2) : Fr fp w w2 :=
  ⟨h.ag.step k.ag (fun i hi hm => h.foot i hi hm), fun i hi hm => h.foot i hi (k.foot i (Nat.lt_of_lt_of_le hi h.ag.size) hm)⟩
theorem rowOf_blk {w : World} {b : Nat} {v : Value} {T : TypeId} (h : Blk w b [v] T) : rowOf w b = v.ownBlock := by
  unfold Blk at h
  simp [rowOf, h]
theorem Wr.fp {T e : TypeId} {w : World} {wb : Nat} {bs : List UInt8} (h : Wr T e w wb bs) : ∃ v, Blk w wb [v] T ∧ Own w e 1 v bs.length (bvs bs) ∧ ¬ rowM v wb ∧ ∀ k, fpW wb w k ↔ k = wb ∨ rowM v k := by
  obtain ⟨v, h1, h2, h3⟩ := h
  exact ⟨v, h1, h2, h3, fun k => by unfold fpW rowM; rw [rowOf_blk h1]⟩
theorem Wr.lt {T e : TypeId} {w : World} {wb : Nat} {bs : List UInt8} (h : Wr T e w wb bs) {k : Nat} (hk : fpW wb w k) : k < w.heap.size := by
  obtain ⟨v, h1, h2, h3, h4⟩ := h.fp
  rcases (h4 k).1 hk with rfl | hk
  · exact h1.lt
  · exact h2.lt hk
theorem Wr.keep {T e : TypeId} {M : Nat → Prop} {w w1 : World} {wb : Nat} {bs : List UInt8} (h : Wr T e w wb bs) (ha : Ag M w w1) (hn : ∀ k, M k → ¬ fpW wb w k) : Wr T e w1 wb bs ∧ ∀ k, fpW wb w1 k ↔ fpW wb w k := by
  obtain ⟨v, h1, h2, h3, h4⟩ := h.fp
  have b1 := h1.keep ha (fun hm => hn _ hm ((h4 _).2 (.inl rfl)))
  have hi : ∀ k, fpW wb w1 k ↔ fpW wb w k := fun k => by unfold fpW; rw [rowOf_blk h1, rowOf_blk b1]
  exact ⟨⟨v, b1, h2.keep ha (fun k hk hm => hn k hm ((h4 k).2 (.inr hk))), h3⟩, hi⟩
end Go.Proofs.YtdebnncpclodcaaDoor.X
