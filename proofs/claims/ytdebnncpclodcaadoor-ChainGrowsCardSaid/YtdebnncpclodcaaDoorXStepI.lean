/-
  Operations, regions, calls and loops over one invariant of memory. No condition beyond those that the lemmas name.
-/
import Derived.Test.YtdebnncpclodcaaDoorXStepH
set_option linter.unusedSimpArgs false
set_option linter.unusedVariables false
namespace Go.Proofs.YtdebnncpclodcaaDoor.X
open Go.RowKit Go.Proofs.YtdebnncpclodcaaDoorW.PrintLast

/-! ### Parts of an array of bytes of one's own -/
def Vec.paste {α : Type} {m : Nat} (v : Vec α m) (off : Nat) (ys : List α) : Vec α m :=
  if h : off + ys.length ≤ m then ⟨v.l.take off ++ ys ++ v.l.drop (off + ys.length), by
    have := v.h
    simp only [List.length_append, List.length_take, List.length_drop]; omega⟩ else v
theorem ckV_B {m : Nat} (v : Vec UInt8 m) : flat [ckV flB v] = bvs v.l := ckV_b v
section
variable {P : Program} {ops : Array Oper} {rest : List Oper} {o : Oper} {Q : Exit → Act → World → Prop} {ρ : Nat → Value} {n : Nat} {w w1 : World} {v : Value} {d : Nat} {B : Base} {H : Hp} {L : List Ent}
/-- buf[lo:] of an array in memory. -/
theorem r_slp {T e m q lo : Nat} {x y : Operand} {b : Nat} {z : Int} (ho : o.op = .slice T x (some y) none none) (hA : arrB P T m e 1 = true) (hx : opd ρ n x = .pointer (some ⟨b, 0 + 0, none⟩)) (hy : opd ρ n y = .int .i64 z) (hz : z = (lo : Int)) (hl : lo ≤ m) (hq : q = if m = lo then 0 else lo) : Rn P ρ n o w (.slice (some ⟨b, q, none⟩) (m - lo) (m - lo)) w := by
  obtain ⟨hu, inf, hqq, hs⟩ := arrB_spec hA
  subst hz
  subst hq
  unfold Rn execOp
  have h1 : (Instr.sliceBound (.int .i64 (lo : Int)) m .sliceB).run P w = .ok lo w := by
    rw [run_sliceBound w .i64 (lo : Int) m .sliceB (by omega) (by omega)]; simp
  by_cases hm : m = lo
  · subst hm
    simp [ho, hx, hy, Instr.sliceAt, run_underlying hu, Instr.sureAddr, Instr.sliceBounds, sizeOf, typeInfo, hqq, hs, h1]
  · simp [ho, hx, hy, Instr.sliceAt, run_underlying hu, Instr.sureAddr, Instr.sliceBounds, sizeOf, typeInfo, hqq, hs, h1, hm, add_at]
theorem paste_cells {m lo q : Nat} {vv : Vec UInt8 m} {ys : List UInt8} (hl : lo + ys.length ≤ m) (hq : q = if m = lo then 0 else lo) : (bvs vv.l).take q ++ bvs ys ++ (bvs vv.l).drop (q + ys.length) = bvs (vv.paste lo ys).l := by
  unfold Vec.paste
  rw [dif_pos hl]
  simp only [bvs_append]
  by_cases hm : m = lo
  · subst hm
    rw [if_pos rfl] at hq
    subst hq
    have : ys = [] := List.eq_nil_of_length_eq_zero (by omega)
    subst this
    simp [bvs, ← vv.h]
  · rw [if_neg hm] at hq
    subst hq
    simp [bvs, List.map_take, List.map_drop]
theorem l_cp {T e q lo m i g : Nat} {x y : Operand} {u : Sv} {ys : List UInt8} {vv : Vec UInt8 m} {T' : TypeId} (hI : Inv B w H L) (hL : L[i]? = some (.cb g [ckV flB vv] T')) (ho : o.op = .call { callee := .builtin .copy, args := #[x, y], argTypes := #[T, T] }) (hT : sliceB P T e 1 = true)
    (hx : opd ρ n x = .slice (some ⟨g, q, none⟩) (m - lo) (m - lo)) (hy : opd ρ n y = u.v) (hu : Sl flB.ty H u ys) (hl : lo ≤ m) (hq : q = if m = lo then 0 else lo) :
    Ef P ρ n o w (fun v1 w1 => v1 = .int .i64 ((min ys.length (m - lo) : Nat) : Int) ∧ Inv B w1 H (L.set i (.cb g [ckV flB (vv.paste lo (ys.take (m - lo)))] T'))) := by
  have hok := hI.good.ok _ (List.mem_of_getElem? hL)
  have hB : Blk w g (bvs vv.l) T' := by have := hok.1; rw [ckV_B] at this; exact this
  obtain ⟨css, h1, h2, h3, h4, h5, h6, h7, h8⟩ := hu.src (by decide) hI.good
  have hcs : css.flatten = bvs ys := by
    have : css = ys.map fun b => [bv b] := by
      apply List.ext_getElem?
      intro j
      by_cases hj : j < ys.length
      · obtain ⟨cs, k1, k2⟩ := h3 j ys[j] (List.getElem?_eq_getElem hj)
        rw [k1, List.getElem?_map, List.getElem?_eq_getElem hj]
        exact congrArg some k2
      · rw [List.getElem?_eq_none (by omega), List.getElem?_eq_none (by simp; omega)]
    rw [this]; exact flat_bv ys
  have hS : Src w u.v u.n (bvs ys) := ⟨⟨u.a, u.c, rfl, fun h => ⟨by have := h6 h; rw [this] at h2; have := hu.n; simp at h2; omega, by rw [← hcs, h6 h]; rfl⟩, fun a ha j v hj => h7 a ha j v (by rw [hcs]; exact hj)⟩, Ones_bvs _⟩
  have hlen : (bvs vv.l).length = m := by rw [bvs_length, vv.h]
  have hqm : q + (m - lo) ≤ m := by subst hq; split <;> omega
  obtain ⟨v1, w1, ⟨e1, e2⟩, hr⟩ := e_cp (P := P) ho hT hx hy hB hS (by rw [bvs_length, hu.n]) (by rw [hlen]; exact hqm)
  have hn := hu.n
  refine ⟨v1, w1, ⟨by rw [e1, hn], ?_⟩, hr⟩
  have htk : (ys.take (m - lo)).length = min u.n (m - lo) := by rw [List.length_take, hn]; omega
  have hc := paste_cells (vv := vv) (ys := ys.take (m - lo)) (by rw [htk]; omega) hq
  have hc' : (bvs vv.l).take q ++ (bvs ys).take (min u.n (m - lo)) ++ (bvs vv.l).drop (q + min u.n (m - lo)) = bvs (vv.paste lo (ys.take (m - lo))).l := by
    rw [← hc, htk]
    congr 2
    rw [← htk]
    simp only [bvs, List.map_take, List.length_take]
    rw [List.take_eq_take_iff]; simp
  rw [hc'] at e2
  exact hI.put i hL rfl rfl hok.2 e2.ag ⟨by have := e2.blk; unfold Blk at this; rw [ckV_B]; exact this, hok.2⟩
theorem l_clr {T e q lo m i g : Nat} {x : Operand} {vv : Vec UInt8 m} {T' : TypeId} (hI : Inv B w H L) (hL : L[i]? = some (.cb g [ckV flB vv] T')) (ho : o.op = .call { callee := .builtin .clear, args := #[x], argTypes := #[T] }) (hT : sliceB P T e 1 = true) (hz : zvB P e (bv 0))
    (hx : opd ρ n x = .slice (some ⟨g, q, none⟩) (m - lo) (m - lo)) (hl : lo ≤ m) (hq : q = if m = lo then 0 else lo) :
    Ef P ρ n o w (fun v1 w1 => v1 = .tuple #[] ∧ Inv B w1 H (L.set i (.cb g [ckV flB (vv.paste lo (List.replicate (m - lo) 0))] T'))) := by
  have hok := hI.good.ok _ (List.mem_of_getElem? hL)
  have hB : Blk w g (bvs vv.l) T' := by have := hok.1; rw [ckV_B] at this; exact this
  have hlen : (bvs vv.l).length = m := by rw [bvs_length, vv.h]
  have hqm : q + (m - lo) ≤ m := by subst hq; split <;> omega
  obtain ⟨v1, w1, ⟨e1, e2⟩, hr⟩ := e_clr (P := P) ho hT hz rfl rfl hx hB (by rw [hlen]; exact hqm)
  refine ⟨v1, w1, ⟨e1, ?_⟩, hr⟩
  have hc := paste_cells (vv := vv) (ys := List.replicate (m - lo) 0) (by rw [List.length_replicate]; omega) hq
  have hrep : List.replicate (m - lo) (bv 0) = bvs (List.replicate (m - lo) 0) := by simp [bvs]
  rw [hrep] at e2
  rw [List.length_replicate] at hc
  rw [hc] at e2
  exact hI.put i hL rfl rfl hok.2 e2.ag ⟨by have := e2.blk; unfold Blk at this; rw [ckV_B]; exact this, hok.2⟩
/-- A call that is lent a block of one's own to read: the block is there as it was, behind it. -/
theorem fcl {f : FuncId} (Lc Lr : List Ent) {g : Nat} {cks : List Ck} {T : TypeId} {R : Value → List Ent → Prop} {args : List Value} (hf : Fnc P f) {as : List Operand} {ts : Array TypeId} (hw : wnt ops ρ n o = true) (hop : o.op = .call { callee := .value (.func f), args := as.toArray, argTypes := ts }) (hd : o.dst = some d)
    (hI : Inv B w H (Lc ++ .cb g cks T :: Lr)) (ha : as.map (opd ρ n) = args) (hF : ∀ H1, Hle H H1 → At H1 g 0 cks → Good w H1 Lc → Fine P f args w H1 Lc (fun _ v L' => R v L'))
    (hN : ∀ v L', R v L' → ∀ e ∈ L', ∃ b c T, e = .cb b c T)
    (h : ∀ v H' L' w', R v L' → Hle H H' → Inv B w' H' (L' ++ .cb g cks T :: Lr) → wpList P ops Q rest (E (upd ρ d v) n) w') : wpList P ops Q (o :: rest) (E ρ n) w := by
  have hLg : (Lc ++ Ent.cb g cks T :: Lr)[Lc.length]? = some (.cb g cks T) := by simp
  obtain ⟨H1, hI1, hle1, hA⟩ := hI.freeze' Lc.length hLg
  have hLe : (Lc ++ Ent.cb g cks T :: Lr).eraseIdx Lc.length = Lc ++ Lr := by
    rw [List.eraseIdx_append_of_length_le (Nat.le_refl _)]; simp
  rw [hLe] at hI1
  have hok := hI.good.ok _ (List.mem_of_getElem? hLg)
  have hnd := hI.good.nd
  have hgL : ∀ e ∈ Lc ++ Lr, e.blk ≠ some g := by
    intro e he hb
    have hp := ((perm_bring _ _ _ hLg).filterMap Ent.blk).nodup_iff.2 hnd
    rw [hLe] at hp
    simp only [List.filterMap_cons, Ent.blk] at hp
    rw [List.nodup_cons] at hp
    exact hp.1 (List.mem_filterMap.2 ⟨e, he, hb⟩)
  have hspec := hF H1 hle1 hA (hI1.good.sub (List.sublist_append_left _ _))
  refine lc hf hw hop hd ?_
  rw [ha]
  refine hspec.mono fun e w' ⟨v, H', L', he, hR, hG, hE, hl⟩ => ⟨v, he, ?_⟩
  have hglt : g < w.heap.size := hok.lt rfl
  have hgn : ¬ blks Lc g := fun ⟨e', he', hb'⟩ => hgL e' (List.mem_append_left _ he') hb'
  have hI2 := hI1.call hG hE hl
  let H2 : Hp := fun b i => if b = g then none else H' b i
  have hle2 : Hle H H2 := by
    intro b i v hv
    have hb : b ≠ g := by rintro rfl; have := hok.2 i; rw [hv] at this; cases this
    simp only [H2, if_neg hb]
    exact hE.le _ _ _ (hle1 _ _ _ hv)
  have hgL' : ∀ e ∈ L' ++ Lr, e.blk ≠ some g := by
    intro e he hb
    rcases List.mem_append.1 he with he | he
    · rcases hl e he g hb with h1 | h1
      · exact hgn h1
      · omega
    · exact hgL e (List.mem_append_right _ he) hb
  have hweak : ∀ e : Ent, e.Ok w' H' → e.Ok w' H2 := fun e he => he.weak (fun b i v hv => by
    simp only [H2] at hv
    split at hv
    · cases hv
    · exact hv)
  have hgood : Good w' H2 (L' ++ .cb g cks T :: Lr) := by
    refine ⟨fun b i v hv => ?_, fun e he => ?_, ?_⟩
    · simp only [H2] at hv
      split at hv
      · cases hv
      · exact hI2.good.cell b i v hv
    · rcases List.mem_append.1 he with he | he
      · exact hweak e (hI2.good.ok e (List.mem_append_left _ he))
      · rcases List.mem_cons.1 he with rfl | he
        · refine ⟨?_, fun i => by simp [H2]⟩
          rw [hE.ag.keep g hglt hgn]; exact hok.1
        · exact hweak e (hI2.good.ok e (List.mem_append_right _ he))
    · have hp : (Ent.cb g cks T :: (L' ++ Lr)).Perm (L' ++ .cb g cks T :: Lr) := List.perm_middle.symm
      refine ((hp.filterMap Ent.blk).nodup_iff).1 ?_
      simp only [List.filterMap_cons, Ent.blk]
      rw [List.nodup_cons]
      exact ⟨fun hm => by obtain ⟨e, he, hb⟩ := List.mem_filterMap.1 hm; exact hgL' e he hb, hI2.good.nd⟩
  refine h v H2 L' w' hR hle2 ⟨hgood, ⟨hI2.ext.ag, hI.ext.le.trans hle2, ?_⟩, ?_⟩
  · intro b i hb hn
    simp only [H2]
    split
    · rename_i hbg
      subst hbg
      have h1 := hI.ext.new b i hb hn
      rw [← h1]; exact (hok.2 i).symm
    · exact hI2.ext.new b i hb hn
  · intro e he b hb
    rcases List.mem_append.1 he with he | he
    · exact hI2.loc e (List.mem_append_left _ he) b hb
    · rcases List.mem_cons.1 he with rfl | he
      · exact hI.loc _ (List.mem_of_getElem? hLg) b hb
      · exact hI2.loc e (List.mem_append_right _ he) b hb
end
end Go.Proofs.YtdebnncpclodcaaDoor.X
