/-
  Plain: what the functions compute always answers, and how. No condition beyond those that the lemmas name.
-/
import Derived.Test.YtdebnncpclodcaaDoorXTSha2
import Derived.Test.YtdebnncpclodcaaDoorXGb
import Derived.Test.YtdebnncpclodcaaDoorXGa
set_option linter.unusedSimpArgs false
set_option linter.unusedVariables false
set_option maxRecDepth 10000
namespace Go.Proofs.YtdebnncpclodcaaDoor.X
/-- The program's hash: what its own mirror says. -/
noncomputable def sha (a : List (List UInt8)) : Dg := (M_sha_Of a).getD (Vec.rep 32 0)
theorem sha_eq (a : List (List UInt8)) : M_sha_Of a = some (sha a) := by
  obtain ⟨x, e, _⟩ := t_Of a
  unfold sha; rw [e]; rfl
theorem leaf_eq (a : List UInt8) : M_tree_Leaf a = some (sha [[0], a]) := by
  unfold M_tree_Leaf; rw [sha_eq]; rfl
theorem kleaf_eq (a : Dg) : M_keys_leaf a = some (sha [[0], a.l]) := by
  unfold M_keys_leaf; rw [leaf_eq]; rfl
theorem shut_eq (a : Dg) : M_once_shut a = some (sha [a.l]) := by
  unfold M_once_shut; rw [sha_eq]; rfl
theorem pair_eq (m : UInt8) (a b : Dg) : M_sha_Pair m a b = some (sha [[m], a.l, b.l]) := by
  unfold M_sha_Pair; rw [sha_eq]; rfl
theorem t_bytes {w : Code_Writer} (h : w.b_.length ≤ 140737488355328) : Tot (M_code_Writer_Bytes w) (fun r => r = (w.b_, w)) := by
  unfold M_code_Writer_Bytes
  refine Tot.bind (Q := fun l => l = w.b_) (Tot.app (by simpa using h) (by simp)) fun l hl => ?_
  subst hl
  exact Tot.yes rfl
theorem t_wdig {w : Code_Writer} {l : List Dg} (h : w.b_.length + 32 * l.length ≤ 140737488355328) : Tot (M_code_Writer_Digest w l) (fun r => r.b_.length = w.b_.length + 32 * l.length) := by
  unfold M_code_Writer_Digest
  refine Tot.fold (fun j s => s.length = w.b_.length + 32 * j) (by simp) (fun _ => rfl) (fun j s hj hs => ?_) (fun s hs => Tot.yes hs)
  refine Tot.bind (Tot.get (Q := fun _ => True) hj fun _ _ => trivial) fun x _ => ?_
  refine Tot.bind (Q := fun y => y = s ++ x.l) (Tot.app (by rw [x.h]; omega) rfl) fun y hy => ?_
  refine Tot.yes ?_
  show y.length = _
  rw [hy, List.length_append, x.h]; omega
/-- The digest of a key's digests. -/
noncomputable def whole (l : List Dg) : Dg := (M_once_whole l).getD (Vec.rep 32 0)
theorem whole_eq {l : List Dg} (h : l.length ≤ 1000000) : M_once_whole l = some (whole l) := by
  have : Tot (M_once_whole l) fun _ => True := by
    unfold M_once_whole
    refine Tot.bind (t_wdig (by simp; omega)) fun w hw => ?_
    refine Tot.bind (t_bytes (by rw [hw]; simp; omega)) fun y _ => ?_
    rw [sha_eq]
    exact Tot.yes trivial
  obtain ⟨x, e, _⟩ := this
  unfold whole; rw [e]; rfl
theorem and_one {n : Nat} (h : n < 256) : bits .and .i64 (n : Int) 1 = ((n % 2 : Nat) : Int) := by
  have : ∀ n : Fin 256, bits .and .i64 ((n : Nat) : Int) 1 = ((n.1 % 2 : Nat) : Int) := by decide +kernel
  exact this ⟨n, h⟩
theorem t_bit {d : Dg} {i : Nat} (h : i < 256) : Tot (M_once_bit d (i : Int)) (fun b => b = 0 ∨ b = 1) := by
  unfold M_once_bit
  have e1 : Int.tdiv (i : Int) 8 = ((i / 8 : Nat) : Int) := rfl
  have e2 : Int.tmod (i : Int) 8 = ((i % 8 : Nat) : Int) := rfl
  rw [e1, e2, show wI ((i / 8 : Nat) : Int) = ((i / 8 : Nat) : Int) from wI_of (by omega) (by omega), show wI ((7 : Int) - ((i % 8 : Nat) : Int)) = 7 - ((i % 8 : Nat) : Int) from wI_of (by omega) (by omega)]
  refine Tot.bind (Tot.ix (Q := fun _ => True) (by omega) (by rw [d.h]; omega) fun _ _ => trivial) fun x _ => ?_
  refine Tot.pos (by omega) ?_
  refine Tot.yes ?_
  rw [and_one (UInt8.toNat_lt _)]
  omega
noncomputable def bit (d : Dg) (i : Nat) : Int := (M_once_bit d (i : Int)).getD 0
theorem bit_eq {d : Dg} {i : Nat} (h : i < 256) : M_once_bit d (i : Int) = some (bit d i) ∧ (bit d i = 0 ∨ bit d i = 1) := by
  obtain ⟨x, e, q⟩ := t_bit (d := d) h
  unfold bit; rw [e]; exact ⟨rfl, q⟩
theorem t_oof (d : Dg) (o : Once) : Tot (M_once_Of d o) fun _ => True := by
  unfold M_once_Of
  refine Tot.ite (fun _ => Tot.yes trivial) fun h1 => ?_
  refine Tot.ite (fun _ => Tot.yes trivial) fun h2 => ?_
  refine Tot.fold (fun j v => v.length = 2 * j) rfl (fun _ => rfl) (fun j v hj hv => ?_) (fun v hv => ?_)
  · refine Tot.bind (Q := fun _ => True) (Tot.bind (Tot.get (Q := fun _ => True) (by omega) fun _ _ => trivial) fun x _ => Tot.bind (Tot.get (Q := fun _ => True) (by omega) fun _ _ => trivial) fun y _ => by rw [shut_eq]; exact Tot.yes trivial) fun v2 _ => ?_
    obtain ⟨e, hb⟩ := bit_eq (d := d) (i := j) (by omega)
    rw [e]
    simp only [Option.bind_some]
    rw [show wI (1 - bit d j) = 1 - bit d j from wI_of (by omega) (by omega)]
    refine Tot.bind (Tot.ix (Q := fun _ => True) (by omega) (by rw [v2.h]; omega) fun _ _ => trivial) fun x _ => ?_
    refine Tot.bind (Tot.ix (Q := fun _ => True) (by omega) (by rw [v2.h]; omega) fun _ _ => trivial) fun y _ => ?_
    refine Tot.bind (Q := fun z => z = v ++ [x, y]) (Tot.app (by simp; omega) rfl) fun z hz => ?_
    refine Tot.yes ?_
    show z.length = _
    rw [hz]; simp; omega
  · show Tot (Option.bind _ _) _
    rw [whole_eq (by omega)]
    exact Tot.yes trivial
theorem t_tcheck {root leaf : Dg} {at' count : Int} {path : List Dg} (hc : count ≤ 1000000) : Tot (M_tree_Check root leaf at' count path) fun _ => True := by
  unfold M_tree_Check
  refine Tot.ite (fun _ => Tot.yes trivial) fun h1 => ?_
  refine Tot.ite (fun _ => Tot.yes trivial) fun h2 => ?_
  refine Tot.while (fun s : Int × Int × (List (Vec UInt8 32)) × (Vec UInt8 32) => 0 ≤ s.1 ∧ s.1 < s.2.1 ∧ s.2.1 ≤ 1000000) (fun s => s.2.1.toNat) ⟨by simp only []; omega, by simp only []; omega, hc⟩ fun s ⟨g1, g2, g3⟩ => ?_
  have E1 : Int.tdiv s.1 2 = s.1 / 2 := Int.tdiv_eq_ediv_of_nonneg g1
  have W1 : wI (Int.tdiv s.1 2) = s.1 / 2 := by rw [E1]; exact wI_of (by omega) (by omega)
  have W2 : wI (s.2.1 - 1) = s.2.1 - 1 := wI_of (by omega) (by omega)
  have E3 : Int.tdiv (s.2.1 - 1) 2 = (s.2.1 - 1) / 2 := Int.tdiv_eq_ediv_of_nonneg (by omega)
  have W3 : wI (Int.tdiv (s.2.1 - 1) 2) = (s.2.1 - 1) / 2 := by rw [E3]; exact wI_of (by omega) (by omega)
  have W4 : wI ((s.2.1 - 1) / 2 + 1) = (s.2.1 - 1) / 2 + 1 := wI_of (by omega) (by omega)
  rw [W1, W2, W3, W4]
  refine Tot.ite (fun hc1 => ?_) fun _ => Tot.map (Tot.ite (fun _ => Tot.yes trivial) fun _ => Tot.yes trivial)
  refine Tot.bind (Q := SumP (fun _ => True) (SumP (fun _ => False) (fun _ => True))) ?_ fun y hy => ?_
  · refine Tot.ite (fun _ => Tot.yes trivial) fun _ => ?_
    refine Tot.ite (fun _ => Tot.map (Tot.map (Tot.yes trivial))) fun hl => ?_
    refine Tot.ite (fun _ => ?_) fun _ => ?_
    · refine Tot.bind (Tot.get (Q := fun _ => True) (by omega) fun _ _ => trivial) fun x _ => ?_
      rw [pair_eq]
      simp only [Option.bind_some]
      refine Tot.bind (Q := fun _ => True) (Tot.cut (by omega) (by omega) (by omega) trivial) fun x _ => Tot.yes trivial
    · refine Tot.bind (Tot.get (Q := fun _ => True) (by omega) fun _ _ => trivial) fun x _ => ?_
      rw [pair_eq]
      simp only [Option.bind_some]
      refine Tot.bind (Q := fun _ => True) (Tot.cut (by omega) (by omega) (by omega) trivial) fun x _ => Tot.yes trivial
  · rcases y with y | y | y
    · exact Tot.yes ⟨⟨by simp only []; omega, by simp only []; omega, by simp only []; omega⟩, by simp only []; omega⟩
    · exact hy.elim
    · exact Tot.yes trivial
theorem t_kcheck (k : Key) (d : Dg) (s : Sig) : Tot (M_keys_Check k d s) fun _ => True := by
  unfold M_keys_Check
  refine Tot.bind (t_oof d s.Once) fun x _ => ?_
  refine Tot.ite (fun _ => ?_) fun _ => Tot.yes trivial
  refine Tot.ite (fun h0 => ?_) fun _ => Tot.yes trivial
  refine Tot.ite (fun h6 => ?_) fun _ => Tot.yes trivial
  refine Tot.pos h0 ?_
  rw [kleaf_eq]
  simp only [Option.bind_some]
  refine Tot.bind (t_tcheck ?_) fun x _ => Tot.yes trivial
  have : k.Height = 0 ∨ k.Height = 1 ∨ k.Height = 2 ∨ k.Height = 3 ∨ k.Height = 4 ∨ k.Height = 5 ∨ k.Height = 6 := by omega
  rcases this with h | h | h | h | h | h | h <;> rw [h] <;> decide +kernel
end Go.Proofs.YtdebnncpclodcaaDoor.X
