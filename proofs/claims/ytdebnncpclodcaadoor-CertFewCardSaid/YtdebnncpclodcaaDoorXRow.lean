/-
  How a law that writes nothing that came in meets its row. No condition beyond those that the lemmas name.
-/
import Derived.Test.YtdebnncpclodcaaDoorXLaw
import Derived.ProofKit
import Derived.SizedLaws
set_option linter.unusedSimpArgs false
set_option linter.unusedVariables false
namespace Go.Proofs.YtdebnncpclodcaaDoor.X
open Go.ChangeShapes Go.WideShapes Go.ChangeAt Go.RowKit

/-! ### The row of a law that writes nothing that came in -/
theorem below_all {H : Type} {enc : TypeId × Value → H} {P : Program} (hl : laidOutB P = true) {W W' : World} (hb : Below W.heap.size W W') :
    ∀ {ts : List TypeId} {vs : List Value} {ds : List (DataW H)} {ps : List MemPlace}, ts.all (fun t => P.readableRec t && decide (t < P.types.size)) = true → DataW.TrodAll enc P W 0 (fun _ => true) true ts vs ds ps → (∀ x ∈ ps, x.block < W.heap.size) →
      DataW.TrodAll enc P W' 0 (fun b => decide (b < W.heap.size)) true ts vs ds ps
  | [], vs, ds, ps, _, h, _ => by
    obtain ⟨rfl, rfl, rfl⟩ := trodAll_nil h
    rfl
  | t :: ts, vs, ds, ps, ht, h, hlt => by
    obtain ⟨v, vs', d, ds', p, q, rfl, rfl, rfl, h1, h2⟩ := trodAll_cons h
    simp only [List.all_cons, Bool.and_eq_true, decide_eq_true_eq] at ht
    exact ⟨p, q, Below.trod hl ht.1.1 ht.1.2 h1 hb (fun x hx => hlt x (by simp [hx])), below_all hl hb ht.2 h2 (fun x hx => hlt x (by simp [hx])), rfl⟩
theorem post_law {H : Type} {enc : TypeId × Value → H} {P : Program} {f : Func} {s : ChangeSpec} {W W' : World} {args : Array Value} {ds : List (DataW H)} {before : List MemPlace} {tb : TypeId}
    (hl : laidOutB P = true) (hts : f.params.toList.all (fun t => P.readableRec t && decide (t < P.types.size)) = true) (hrt : f.resultTypes = #[tb]) (hub : P.underlying tb = some .bool) (hv : s.vars = [])
    (hW : DataW.Whole enc P f.params.toList s.vars false W args.toList ds [] before) (hA : Ag M0 W W') (hres : s.fn H (ds ++ []) = { results := [.lit (.bool true)], args := ds }) :
    s.post enc P f false true false false W args (.bool true) W' := by
  have hlt : ∀ x ∈ before, x.block < W.heap.size := fun x hx => by simpa using hW.lt x hx
  have hb := hA.below
  obtain ⟨p, q, h1, h2, rfl, h3, h4⟩ := hW
  rw [hv] at h2
  obtain ⟨_, rfl⟩ := trodVars_none h2
  have hW2 : DataW.Whole enc P f.params.toList s.vars false W args.toList ds [] (p ++ []) := ⟨p, [], h1, by rw [hv]; exact h2, rfl, h3, h4⟩
  refine ⟨ds, [], p ++ [], [], p, [], hW2, ?_, ?_, ?_, hb.frame _, fun h => by cases h⟩
  · rw [hres, hrt]
    exact trodAll_mk1 ⟨1, by simp [DataW.trod, Value.cells, hub]⟩
  · rw [hres]
    exact below_all hl hb hts h1 (fun x hx => hlt x (by simp [hx]))
  · rw [hres, hv]; rfl

/-! ### Arguments -/
theorem spotless {w : World} {a : Addr} {v : Value} (h : w.cell? a = some v) : ∃ b off cells, a = ⟨b, off, none⟩ ∧ Cel w b cells ∧ cells[off]? = some v := by
  obtain ⟨b, off, sp⟩ := a
  unfold World.cell? at h
  simp only at h
  cases hb : w.heap[b]? with
  | none => simp [hb] at h
  | some ob =>
    cases ob with
    | cells c T fr =>
      simp [hb] at h
      cases sp with
      | some x => simp at h
      | none => exact ⟨b, off, c.toList, rfl, ⟨T, fr, by simpa using hb⟩, by simpa using h⟩
    | _ => simp [hb] at h
theorem bytes_back {zs : List Int} (h : ∀ x ∈ zs, (Lit.int .u8 x).wf = true) : ∃ bs : List UInt8, zs.map (Value.int .u8) = bvs bs ∧ zs = bs.map fun b => (b.toNat : Int) := by
  induction zs with
  | nil => exact ⟨[], rfl, rfl⟩
  | cons x zs ih =>
    obtain ⟨bs, h1, h2⟩ := ih (fun y hy => h y (by simp [hy]))
    have hx := h x (by simp)
    have h1' : IntKind.u8.min = 0 := rfl
    have h2' : IntKind.u8.max = 255 := rfl
    simp only [Lit.wf, Bool.and_eq_true, decide_eq_true_eq] at hx
    have e : ((UInt8.ofNat x.toNat).toNat : Int) = x := by
      rw [UInt8.toNat_ofNat']; omega
    exact ⟨UInt8.ofNat x.toNat :: bs, by rw [List.map_cons, h1]; show _ = bv _ :: bvs bs; unfold bv; rw [e], by rw [List.map_cons, e, ← h2]⟩
/-- An argument of type []byte. -/
theorem open_bytes {H : Type} {enc : TypeId × Value → H} {P : Program} {t e : TypeId} (ht : P.underlying t = some (.slice e)) (he : P.underlying e = some (.int .u8)) (hc : P.cellsOf e = 1) (hbt : P.bytesOf e = 1) {W : World} {base : Nat} {v : Value} {d : DataW H} {p : List MemPlace} {ts : List TypeId} {ds : List (DataW H)} (j : Nat)
    (hval : Value.okWide P W .any base t v) (h : DataW.Trod enc P W 0 (fun _ => true) true t v d p) (hsz : (DataW.weightsEach P ts ds).all (· ≤ reachBytes) = true) (hj : ts[j]? = some t) (hd : ds[j]? = some d) :
    ∃ (s : Sv) (bs : List UInt8), v = s.v ∧ Row (fun k => k < W.heap.size) W s 1 (brow bs) := by
  obtain ⟨a0, len, cap, rfl⟩ := okWide_slice ht hval
  obtain ⟨fuel, hf⟩ := h
  rcases open_ints ht he hc hf with ⟨hcs, hx⟩ | ⟨a, len', cap', zs, hcs, _, hl, hm, hz, hx, hcell, hwz⟩
  · simp [Value.cells] at hcs
    obtain ⟨rfl, rfl, rfl⟩ := hcs
    exact ⟨Sv.nil, [], rfl, Row.nil _ _ _⟩
  · simp [Value.cells] at hcs
    obtain ⟨rfl, rfl, rfl⟩ := hcs
    simp only [Prod.mk.injEq] at hx
    obtain ⟨rfl, rfl⟩ := hx
    simp only [if_true] at hz
    have hw := sized_slice hsz hj hd ht
    rw [hbt] at hw
    simp [lits] at hw
    have hw2 : zs.length ≤ reachBytes := by omega
    have h47 := reachBytes_lt
    obtain ⟨bs, h1, h2⟩ := bytes_back (zs := zs.take len) (fun x hx => hwz x (List.mem_of_mem_take hx))
    have hbl : bs.length = len := by
      have := congrArg List.length h2
      simp at this; omega
    refine ⟨⟨some a, len, cap⟩, bs, rfl, by simp [brow_length, hbl], hl, by simp only []; omega, ?_⟩
    by_cases h0 : len = 0
    · exact .inl h0
    · obtain ⟨b, off, cells, rfl, hC, hc0⟩ := spotless (by have := hcell 0 (by omega); rwa [show a.add 0 = a from by unfold Addr.add; cases a with | mk b o s => cases s <;> rfl] at this)
      refine .inr ⟨b, off, cells, rfl, hC.lt, hC, fun i cs hi => ?_⟩
      rw [brow, List.getElem?_map] at hi
      cases hb : bs[i]? with
      | none => simp [hb] at hi
      | some z =>
        simp [hb] at hi; subst hi
        have hil : i < len := by
          have := (List.getElem?_eq_some_iff.1 hb).1; omega
        have hci := hcell i (by omega)
        rw [add_at, hC.cell] at hci
        have hzi : zs.getD i 0 = (z.toNat : Int) := by
          have h3 : (zs.take len)[i]? = some (z.toNat : Int) := by rw [h2]; simp [hb]
          rw [List.getElem?_take] at h3
          simp [hil] at h3
          simp [List.getD, h3]
        refine ⟨rfl, fun j hj => ?_⟩
        have : j = 0 := by omega
        subst this
        rw [show off + i * 1 + 0 = off + i from by omega, hci, hzi]; rfl
end Go.Proofs.YtdebnncpclodcaaDoor.X
