/-
  Plain: what the functions compute always answers, and how. No condition beyond those that the lemmas name.
-/
import Derived.Test.YtdebnncpclodcaaDoorXTTree
import Derived.Test.YtdebnncpclodcaaDoorXH11a
set_option linter.unusedSimpArgs false
set_option linter.unusedVariables false
set_option maxRecDepth 10000
namespace Go.Proofs.YtdebnncpclodcaaDoor.X
noncomputable def secret (s : Dg) (l b i : Int) : Dg := (M_once_secret s l b i).getD (Vec.rep 32 0)
theorem secret_eq (s : Dg) (l b i : Int) : M_once_secret s l b i = some (secret s l b i) := by
  have : Tot (M_once_secret s l b i) fun _ => True := by
    unfold M_once_secret
    refine Tot.fold (fun _ _ => True) trivial (fun _ => rfl) (fun j v hj _ => ?_) (fun v _ => by show Tot (Option.bind _ _) _; rw [sha_eq]; exact Tot.yes trivial)
    rw [show wI ((8 : Int) * (j : Int)) = 8 * (j : Int) from wI_of (by omega) (by omega), show wI ((56 : Int) - 8 * (j : Int)) = 56 - 8 * (j : Int) from wI_of (by omega) (by omega), show wI ((8 : Int) + (j : Int)) = 8 + (j : Int) from wI_of (by omega) (by omega)]
    refine Tot.pos (by omega) ?_
    refine Tot.pos (by omega) ?_
    refine Tot.bind (Tot.get (Q := fun _ => True) (by rw [v.h]; omega) fun _ _ => trivial) fun _ _ => ?_
    refine Tot.bind (Tot.ix (Q := fun _ => True) (by omega) (by rw [Vec.set_len]; omega) fun _ _ => trivial) fun _ _ => ?_
    exact Tot.yes trivial
  obtain ⟨x, e, _⟩ := this
  unfold secret; rw [e]; rfl
/-- The digests of a key's secrets. -/
noncomputable def halves (s : Dg) (l : Int) (i : Nat) : List Dg := [sha [(secret s l i 0).l], sha [(secret s l i 1).l]]
noncomputable def pub (s : Dg) (l : Int) : Dg := whole ((List.range 32).flatMap (halves s l))
theorem flat2_len {f : Nat → List Dg} (h : ∀ i, (f i).length = 2) : ∀ n, ((List.range n).flatMap f).length = 2 * n
  | 0 => rfl
  | n + 1 => by rw [List.range_succ, List.flatMap_append, List.length_append, flat2_len h n]; simp [h]; omega
theorem flat2_succ {f : Nat → List Dg} (n : Nat) : (List.range (n + 1)).flatMap f = (List.range n).flatMap f ++ f n := by rw [List.range_succ, List.flatMap_append]; simp
theorem public_eq (s : Dg) (l : Int) : M_once_Public s l = some (pub s l) := by
  have : Tot (M_once_Public s l) fun r => r = pub s l := by
    unfold M_once_Public
    refine Tot.fold (fun j v => v = (List.range j).flatMap (halves s l)) rfl (fun _ => rfl) (fun j v hj hv => ?_) (fun v hv => ?_)
    · rw [secret_eq, secret_eq]
      simp only [Option.bind_some]
      rw [shut_eq, shut_eq]
      simp only [Option.bind_some]
      subst hv
      refine Tot.bind (Q := fun y => y = (List.range (j + 1)).flatMap (halves s l)) (Tot.app (by rw [flat2_len (fun _ => rfl)]; simp; omega) (by rw [flat2_succ]; rfl)) fun y hy => Tot.yes hy
    · subst hv
      show Tot (Option.bind _ _) _
      rw [whole_eq (by rw [flat2_len (fun _ => rfl)]; omega)]
      exact Tot.yes rfl
  obtain ⟨x, e, q⟩ := this
  rw [e, q]
/-- A signature by a seed's key. -/
noncomputable def sopen (s : Dg) (l : Int) (d : Dg) (i : Nat) : Dg := secret s l i (bit d i)
noncomputable def sshut (s : Dg) (l : Int) (d : Dg) (i : Nat) : Dg := sha [(secret s l i (1 - bit d i)).l]
noncomputable def osign (s : Dg) (l : Int) (d : Dg) : Once := ⟨(List.range 32).map (sopen s l d), (List.range 32).map (sshut s l d)⟩
theorem map_succ {f : Nat → Dg} (n : Nat) : (List.range (n + 1)).map f = (List.range n).map f ++ [f n] := by rw [List.range_succ, List.map_append]; simp
theorem osign_eq (s : Dg) (l : Int) (d : Dg) : M_once_Sign s l d = some (osign s l d) := by
  have : Tot (M_once_Sign s l d) fun r => r = osign s l d := by
    unfold M_once_Sign
    refine Tot.fold (fun j v => v = ((List.range j).map (sopen s l d), (List.range j).map (sshut s l d))) rfl (fun _ => rfl) (fun j v hj hv => ?_) (fun v hv => ?_)
    · obtain ⟨e, hb⟩ := bit_eq (d := d) (i := j) (by omega)
      rw [e]
      simp only [Option.bind_some]
      rw [secret_eq, show wI (1 - bit d j) = 1 - bit d j from wI_of (by omega) (by omega), secret_eq]
      simp only [Option.bind_some]
      rw [shut_eq]
      simp only [Option.bind_some]
      subst hv
      refine Tot.bind (Q := fun y => y = (List.range (j + 1)).map (sopen s l d)) (Tot.app (by simp; omega) (by rw [map_succ]; rfl)) fun y hy => ?_
      refine Tot.bind (Q := fun y => y = (List.range (j + 1)).map (sshut s l d)) (Tot.app (by simp; omega) (by rw [map_succ]; rfl)) fun z hz => ?_
      exact Tot.yes (by rw [SumP, hy, hz])
    · subst hv
      exact Tot.yes rfl
  obtain ⟨x, e, q⟩ := this
  rw [e, q]
/-- What is signed is right, whatever the hash. -/
theorem oof_osign (s : Dg) (l : Int) (d : Dg) : M_once_Of d (osign s l d) = some (pub s l, true) := by
  have : Tot (M_once_Of d (osign s l d)) fun r => r = (pub s l, true) := by
    unfold M_once_Of
    refine Tot.neg (by simp [osign]) ?_
    refine Tot.neg (by simp [osign]) ?_
    refine Tot.fold (fun j v => v = (List.range j).flatMap (halves s l)) rfl (fun _ => rfl) (fun j v hj hv => ?_) (fun v hv => ?_)
    · obtain ⟨e, hb⟩ := bit_eq (d := d) (i := j) (by omega)
      have o1 : (osign s l d).Open[j]? = some (sopen s l d j) := by simp [osign, hj]
      have o2 : (osign s l d).Shut[j]? = some (sshut s l d j) := by simp [osign, hj]
      rw [o1, o2]
      simp only [Option.bind_some]
      rw [shut_eq]
      simp only [Option.bind_some]
      rw [e]
      simp only [Option.bind_some]
      rw [show wI (1 - bit d j) = 1 - bit d j from wI_of (by omega) (by omega)]
      subst hv
      refine Tot.bind (Q := fun x => x = sha [(secret s l j 0).l]) ?_ fun x hx => ?_
      · rcases hb with hb | hb
        · refine Tot.ix (by omega) (by simp; omega) fun x hx => ?_
          simp [hb] at hx; rw [← hx]; simp [sopen, hb]
        · refine Tot.ix (by omega) (by simp; omega) fun x hx => ?_
          simp [hb] at hx; rw [← hx]; simp [sshut, hb]
      · refine Tot.bind (Q := fun x => x = sha [(secret s l j 1).l]) ?_ fun y hy => ?_
        · rcases hb with hb | hb
          · refine Tot.ix (by omega) (by simp; omega) fun x hx => ?_
            simp [hb] at hx; rw [← hx]; simp [sshut, hb]
          · refine Tot.ix (by omega) (by simp; omega) fun x hx => ?_
            simp [hb] at hx; rw [← hx]; simp [sopen, hb]
        · rw [hx, hy]
          refine Tot.bind (Q := fun y => y = (List.range (j + 1)).flatMap (halves s l)) (Tot.app (by rw [flat2_len (fun _ => rfl)]; simp; omega) (by rw [flat2_succ]; rfl)) fun y hy => Tot.yes hy
    · subst hv
      show Tot (Option.bind _ _) _
      rw [whole_eq (by rw [flat2_len (fun _ => rfl)]; omega)]
      exact Tot.yes rfl
  obtain ⟨x, e, q⟩ := this
  rw [e, q]
theorem root_one (d : Dg) : M_tree_Root [d] = some d := by
  unfold M_tree_Root
  rw [if_neg (by simp)]
  have : appI 32 ([] : List (Vec UInt8 32)) [d] = some [d] := rfl
  rw [this]
  simp only [Option.bind_some]
  rw [runL_eq]
  simp
theorem path_one (d : Dg) : M_tree_Path 0 [d] = some ([], true) := by
  unfold M_tree_Path
  rw [if_neg (by simp), if_neg (by simp)]
  have : appI 32 ([] : List (Vec UInt8 32)) [d] = some [d] := rfl
  rw [this]
  simp only [Option.bind_some]
  rw [runL_eq]
  simp
theorem tcheck_one (d e : Dg) : M_tree_Check d e 0 1 [] = some (decide (e = d)) := by
  unfold M_tree_Check
  rw [if_neg (by simp), if_neg (by simp)]
  rw [runL_eq]
  simp
end Go.Proofs.YtdebnncpclodcaaDoor.X
