/-
  Plain: what the functions compute always answers, and how. No condition beyond those that the lemmas name.
-/
import Derived.Test.YtdebnncpclodcaaDoorXTSha
import Derived.Test.YtdebnncpclodcaaDoorXGa
set_option linter.unusedSimpArgs false
set_option linter.unusedVariables false
set_option maxRecDepth 10000
namespace Go.Proofs.YtdebnncpclodcaaDoor.X
theorem t_final {g : Vec UInt32 8} : Tot ((forK (fun (i969 : Nat) (σ969 : (Vec UInt8 32)) => (((ixI g.l (wI (Int.tdiv (i969 : Int) 4))).bind fun x1041 => (if (0 : Int) ≤ (wI ((24 : Int) - (wI ((8 : Int) * (Int.tmod (i969 : Int) 4))))) then ((σ969.l[i969]?).bind fun x1044 => some (.inl (Vec.set σ969 i969 (u8I ((shrW x1041 (wI ((24 : Int) - (wI ((8 : Int) * (Int.tmod (i969 : Int) 4)))))).toNat : Int))))) else none)) : Option ((Vec UInt8 32) ⊕ (Vec UInt8 32)))) 32 0 (Vec.rep 32 0)).bind fun y => match y with | .inl σ969 => some σ969 | .inr r => some r) fun _ => True := by
  refine Tot.fold (fun _ _ => True) trivial (fun _ => rfl) (fun j s hj _ => ?_) (fun s _ => Tot.yes trivial)
  have e1 : Int.tdiv (j : Int) 4 = ((j / 4 : Nat) : Int) := rfl
  have e2 : Int.tmod (j : Int) 4 = ((j % 4 : Nat) : Int) := rfl
  rw [e1, e2, show wI ((j / 4 : Nat) : Int) = ((j / 4 : Nat) : Int) from wI_of (by omega) (by omega), show wI ((8 : Int) * ((j % 4 : Nat) : Int)) = ((8 * (j % 4) : Nat) : Int) from wI_of (by omega) (by omega), show wI ((24 : Int) - ((8 * (j % 4) : Nat) : Int)) = 24 - ((8 * (j % 4) : Nat) : Int) from wI_of (by omega) (by omega)]
  refine Tot.bind (Tot.ix (Q := fun _ => True) (by omega) (by rw [g.h]; omega) fun _ _ => trivial) fun _ _ => ?_
  refine Tot.pos (by omega) ?_
  refine Tot.bind (Tot.get (Q := fun _ => True) (by rw [s.h]; omega) fun _ _ => trivial) fun _ _ => ?_
  exact Tot.yes trivial
theorem t_len {t : Int} {v : Vec UInt8 64} {β : Type} {g : Vec UInt8 64 ⊕ β → Option β} {R : β → Prop} (hg : ∀ s, Tot (g (.inl s)) R) : Tot ((forK (fun (i859 : Nat) (σ859 : (Vec UInt8 64)) => ((if (0 : Int) ≤ (wI ((56 : Int) - (wI ((8 : Int) * (i859 : Int))))) then ((ixI σ859.l (wI ((56 : Int) + (i859 : Int)))).bind fun x937 => some (.inl (Vec.set σ859 ((wI ((56 : Int) + (i859 : Int)) : Int).toNat) (u8I ((shrQ (shlQ (u64I t) 3) (wI ((56 : Int) - (wI ((8 : Int) * (i859 : Int)))))).toNat : Int))))) else none) : Option ((Vec UInt8 64) ⊕ β))) 8 0 v).bind g) R := by
  refine Tot.fold' (fun _ _ => True) (fun _ => False) trivial (fun j s hj _ => ?_) (fun s _ => hg s) (fun _ h => h.elim)
  rw [show wI ((8 : Int) * (j : Int)) = 8 * (j : Int) from wI_of (by omega) (by omega), show wI ((56 : Int) - 8 * (j : Int)) = 56 - 8 * (j : Int) from wI_of (by omega) (by omega), show wI ((56 : Int) + (j : Int)) = 56 + (j : Int) from wI_of (by omega) (by omega)]
  refine Tot.pos (by omega) ?_
  refine Tot.bind (Tot.ix (Q := fun _ => True) (by omega) (by rw [s.h]; omega) fun _ _ => trivial) fun _ _ => ?_
  exact Tot.yes trivial
theorem t_Of (a : List (List UInt8)) : Tot (M_sha_Of a) fun _ => True := by
  unfold M_sha_Of
  refine Tot.fold (fun _ (s : Int × Int × (Vec UInt32 8) × (Vec UInt8 64)) => 0 ≤ s.2.1 ∧ s.2.1 < 64) ⟨by simp, by simp⟩ (fun _ => rfl) (fun j s hj hI => ?_) (fun s hI => ?_)
  · refine Tot.bind (Tot.get (Q := fun _ => True) (by omega) fun _ _ => trivial) fun x _ => ?_
    refine Tot.while (fun s : Int × (List UInt8) × (Vec UInt32 8) × (Vec UInt8 64) => 0 ≤ s.1 ∧ s.1 < 64) (fun s => s.2.1.length) hI fun s ⟨h1, h2⟩ => ?_
    refine Tot.ite (fun hc => ?_) (fun hc => ?_)
    · refine Tot.pos (by omega) ?_
      refine Tot.bind (Q := fun l => l.length < s.2.1.length) (Tot.cut (by omega) (by omega) (by omega) (by simp; omega)) fun l hl => ?_
      have e : wI (s.1 + ((min s.2.1.length (64 - (s.1 : Int).toNat) : Nat) : Int)) = s.1 + ((min s.2.1.length (64 - (s.1 : Int).toNat) : Nat) : Int) := wI_of (by omega) (by omega)
      rw [e]
      refine Tot.ite (fun h64 => ?_) (fun h64 => ?_)
      · refine Tot.bind (t_block (Vec.h _)) fun _ _ => ?_
        exact Tot.yes ⟨⟨by simp, by simp⟩, hl⟩
      · exact Tot.yes ⟨⟨by simp only []; omega, by simp only []; omega⟩, hl⟩
    · exact Tot.map (Tot.yes ⟨h1, h2⟩)
  · obtain ⟨h1, h2⟩ := hI
    refine Tot.bind (Tot.ix (Q := fun _ => True) (by omega) (by rw [s.2.2.2.h]; omega) fun _ _ => trivial) fun _ _ => ?_
    rw [show wI (s.2.1 + 1) = s.2.1 + 1 from wI_of (by omega) (by omega)]
    refine Tot.pos (by omega) ?_
    refine Tot.ite (fun hc => ?_) (fun hc => ?_)
    · refine Tot.bind (t_block (Vec.h _)) fun _ _ => ?_
      refine t_len fun s => ?_
      refine Tot.bind (t_block (Vec.h _)) fun _ _ => ?_
      exact t_final
    · refine t_len fun s => ?_
      refine Tot.bind (t_block (Vec.h _)) fun _ _ => ?_
      exact t_final
end Go.Proofs.YtdebnncpclodcaaDoor.X
