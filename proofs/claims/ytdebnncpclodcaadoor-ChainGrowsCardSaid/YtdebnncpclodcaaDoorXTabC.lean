/-
  The table of SHA-256, as the row lays it. No condition beyond those that the lemmas name.
-/
import Derived.Test.YtdebnncpclodcaaDoorProg
import Derived.Test.YtdebnncpclodcaaDoorRows
import Derived.Test.YtdebnncpclodcaaDoorXOpen
set_option linter.unusedSimpArgs false
set_option linter.unusedVariables false
namespace Go.Proofs.YtdebnncpclodcaaDoor.X
open Go.ChangeShapes Go.WideShapes Go.RowKit Go.Proofs.YtdebnncpclodcaaDoor
set_option maxRecDepth 100000
def laidT : List (String × DataW Unit) := [("wapentake/sha.table", Rows.laid_wapentake_sha_table)]
theorem gTab : Tryd.prog.globalNamed "wapentake/sha.table" = some 0 := by kernel_rfl
theorem tTab : (Tryd.prog.globals[0]?).map (·.type) = some 237 := by kernel_rfl
/-- Numbers of a datum that is a row of them. -/
def numsOf : DataW Unit → List Int
  | .agg l => l.map fun d => match d with | .lit (.int _ n) => n | _ => 0
  | _ => []
def tab64 : List Int := numsOf Rows.laid_wapentake_sha_table
theorem of_laid {W : World} (h : laidMetH Tryd.prog laidT W) : ∀ i, i < 64 → W.cell? ⟨0, i, none⟩ = some (.int .u32 (tab64.getD i 0)) := by
  rw [MakeChecks.laidMetH_plain _ _ _ (by kernel_rfl)] at h
  obtain ⟨ps, ⟨g0, t0, cs0, f0, p0, q0, hg0, ht0, hv0, hd0, _, _⟩, _, _⟩ := h
  obtain rfl := Option.some.inj (gTab.symm.trans hg0)
  obtain rfl := Option.some.inj (tTab.symm.trans ht0)
  have c1 : Tryd.prog.cellsOf 229 = 1 := by kernel_rfl
  have hu : Tryd.prog.underlying 237 = some (.array 64 229) := by kernel_rfl
  have hi : Tryd.prog.underlying 229 = some (.int .u32) := by kernel_rfl
  obtain ⟨xs, m1, rfl, hx1, hlen, hn, hel⟩ := DataW.trod_array hu hd0
  simp only [Prod.mk.injEq] at hx1
  intro i hi64
  have h0 := hel i hi64
  rw [c1] at h0
  obtain ⟨x, hx⟩ : ∃ x, xs[i]? = some x := ⟨_, List.getElem?_eq_getElem (by omega)⟩
  rw [hx] at h0
  obtain ⟨k, e1, e2, _⟩ := DataW.trod_int hi h0
  have hcell := World.var?_cell hg0 hv0 i
  have ht : tab64 = xs.map fun x => (match x.1 with | .lit (.int _ n) => n | _ => 0) := by
    unfold tab64
    rw [hx1.1]
    simp only [numsOf, List.map_map]
    rfl
  have hk : tab64.getD i 0 = k := by
    rw [ht, List.getD_eq_getElem?_getD, List.getElem?_map, hx, e2]; rfl
  have hc : cs0.toList[i]? = some (.int .u32 k) := by
    have := congrArg (fun l => l[0]?) e1
    simp only [List.getElem?_take, List.getElem?_drop, Nat.mul_one, Nat.add_zero] at this
    simpa using this
  rw [hcell, hk]
  simpa using hc
theorem tab_nums : shaNums.map (fun n => (n.toNat : Int)) = tab64 := by kernel_rfl
theorem tab_of {W : World} (h : laidMetH Tryd.prog laidT W) : Tab (HW W) := by
  intro k v hk
  have e : flat [ckV flW shaVec] = tab64.map (Value.int .u32) := by
    rw [← tab_nums]
    kernel_rfl
  rw [e, List.getElem?_map] at hk
  obtain ⟨n, hn, rfl⟩ := Option.map_eq_some_iff.1 hk
  have hlt : k < 64 := by
    have := (List.getElem?_eq_some_iff.1 hn).1
    rw [← tab_nums] at this
    simpa [shaNums] using this
  have := of_laid h k hlt
  rw [List.getD_eq_getElem?_getD, hn] at this
  unfold HW
  rw [Nat.zero_add]
  exact this
theorem ownT : ownKnob Tryd.prog.godebug = none := by kernel_rfl
theorem laidOutT : laidOutB Tryd.prog = true := by kernel_rfl
end Go.Proofs.YtdebnncpclodcaaDoor.X
