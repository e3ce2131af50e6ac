/-
  Plain: what the functions compute always answers, and how. No condition beyond those that the lemmas name.
-/
import Derived.Test.YtdebnncpclodcaaDoorXTVote
import Derived.Test.YtdebnncpclodcaaDoorXGc
import Derived.Test.YtdebnncpclodcaaDoorXGd
set_option linter.unusedSimpArgs false
set_option linter.unusedVariables false
set_option maxRecDepth 10000
namespace Go.Proofs.YtdebnncpclodcaaDoor.X
/-- A loop over a list's elements. -/
def foldL {α σ τ : Type} (g : σ → α → Option (σ ⊕ τ)) : σ → List α → Option (σ ⊕ τ)
  | s, [] => some (.inl s)
  | s, a :: r => match g s a with
    | none => none
    | some (.inl s') => foldL g s' r
    | some (.inr t) => some (.inr t)
theorem forK_drop {α σ τ : Type} {g : σ → α → Option (σ ⊕ τ)} {l : List α} : ∀ (k i : Nat) (s : σ), i + k = l.length → forK (fun i s => (l[i]?).bind (g s)) k i s = foldL g s (l.drop i)
  | 0, i, s, h => by
    rw [List.drop_eq_nil_of_le (by omega)]; rfl
  | k + 1, i, s, h => by
    have hi : i < l.length := by omega
    rw [List.drop_eq_getElem_cons hi]
    unfold forK foldL
    simp only [List.getElem?_eq_getElem hi, Option.bind_some]
    cases g s l[i] with
    | none => rfl
    | some y =>
      cases y with
      | inl s' => exact forK_drop k (i + 1) s' (by omega)
      | inr t => rfl
theorem forK_list {α σ τ : Type} (g : σ → α → Option (σ ⊕ τ)) (l : List α) (s : σ) : forK (fun i s => (l[i]?).bind (g s)) l.length 0 s = foldL g s l := by
  have := forK_drop (g := g) (l := l) l.length 0 s (by omega)
  simpa using this
/-- One vote of a word that is looked at. -/
noncomputable def voteB (c : Config) (b : Block) (round : Int) (d : Dg) (last : Int) (x346 : Vote) : Option (Int ⊕ Bool) :=
  (if x346.From ≤ last then ((some false).map Sum.inr) else (if x346.Kind ≠ 2 then ((some false).map Sum.inr) else (if x346.Height ≠ b.Height then ((some false).map Sum.inr) else (if x346.Round ≠ round then ((some false).map Sum.inr) else (if x346.Digest = d then ((M_vote_Right c x346).bind fun x425 => (if x425 = true then some (.inl x346.From) else ((some false).map Sum.inr))) else ((some false).map Sum.inr))))))
def VoteR (c : Config) (b : Block) (round : Int) (d : Dg) (last : Int) (v : Vote) : Prop :=
  last < v.From ∧ v.Kind = 2 ∧ v.Height = b.Height ∧ v.Round = round ∧ v.Digest = d ∧ M_vote_Right c v = some true
theorem t_voteB (c : Config) (b : Block) (round : Int) (d : Dg) (last : Int) (v : Vote) : Tot (voteB c b round d last v) (SumP (fun s => s = v.From ∧ VoteR c b round d last v) (fun r => r = false ∧ ¬ VoteR c b round d last v)) := by
  unfold voteB VoteR
  refine Tot.ite (fun h => Tot.map (Tot.yes ⟨rfl, fun k => by omega⟩)) fun h1 => ?_
  refine Tot.ite (fun h => Tot.map (Tot.yes ⟨rfl, fun k => h k.2.1⟩)) fun h2 => ?_
  refine Tot.ite (fun h => Tot.map (Tot.yes ⟨rfl, fun k => h k.2.2.1⟩)) fun h3 => ?_
  refine Tot.ite (fun h => Tot.map (Tot.yes ⟨rfl, fun k => h k.2.2.2.1⟩)) fun h4 => ?_
  refine Tot.ite (fun h5 => ?_) fun h => Tot.map (Tot.yes ⟨rfl, fun k => h k.2.2.2.2.1⟩)
  obtain ⟨r, e, _⟩ := t_right c v
  rw [e]
  simp only [Option.bind_some]
  refine Tot.ite (fun h => Tot.yes ⟨rfl, ?_⟩) fun h => Tot.map (Tot.yes ⟨rfl, fun k => ?_⟩)
  · exact ⟨by omega, by simpa using h2, by simpa using h3, by simpa using h4, h5, by rw [h]⟩
  · have := k.2.2.2.2.2
    cases this
    exact h rfl
def RunV (c : Config) (b : Block) (round : Int) (d : Dg) : Int → List Vote → Prop
  | _, [] => True
  | last, v :: r => VoteR c b round d last v ∧ RunV c b round d v.From r
theorem t_runV (c : Config) (b : Block) (round : Int) (d : Dg) : ∀ (l : List Vote) (last : Int), Tot (foldL (voteB c b round d) last l) (SumP (fun _ => RunV c b round d last l) (fun r => r = false ∧ ¬ RunV c b round d last l))
  | [], last => Tot.yes trivial
  | v :: l, last => by
    obtain ⟨y, e, q⟩ := t_voteB c b round d last v
    unfold foldL
    rw [e]
    cases y with
    | inl s =>
      obtain ⟨rfl, q⟩ := q
      exact (t_runV c b round d l v.From).mono fun y hy => by
        cases y with
        | inl s => exact ⟨q, hy⟩
        | inr r => exact ⟨hy.1, fun h => hy.2 h.2⟩
    | inr r => exact Tot.yes ⟨q.1, fun h => q.2 h.1⟩
theorem RunV.take {c : Config} {b : Block} {round : Int} {d : Dg} : ∀ {l : List Vote} {last : Int} (n : Nat), RunV c b round d last l → RunV c b round d last (l.take n)
  | _, _, 0, _ => trivial
  | [], _, n + 1, _ => trivial
  | v :: l, last, n + 1, h => ⟨h.1, h.2.take n⟩
/-- A word that is right. -/
def CertR (c : Config) (b : Block) (x : Cert) : Prop :=
  M_config_Good c = some true ∧ M_block_Good b = some true ∧ b.Epoch = c.Epoch ∧ qn c.Members.length ≤ x.Votes.length ∧ ∃ d, M_block_Digest b = some d ∧ RunV c b x.Round d 0 x.Votes
theorem t_ccheck (c : Config) (b : Block) (x : Cert) : Tot (M_cert_Check c b x) fun r => (r = true ↔ CertR c b x) := by
  unfold M_cert_Check CertR
  obtain ⟨g, eg, qg⟩ := t_cgood c
  obtain ⟨k, ek, qk⟩ := t_bgood b
  rw [eg, ek]
  simp only [Option.bind_some]
  refine Tot.ite (fun h1 => ?_) fun h => Tot.yes (by simp [h])
  refine Tot.ite (fun h2 => ?_) fun h => Tot.yes (by simp [h])
  refine Tot.ite (fun h => Tot.yes (by simp [h])) fun h3 => ?_
  have h3' : b.Epoch = c.Epoch := Decidable.byContradiction h3
  rw [quorum_eq c (by have := qg h1; omega)]
  simp only [Option.bind_some]
  refine Tot.ite (fun h => Tot.yes ⟨fun k => (by cases k), fun k => absurd k.2.2.2.1 (by omega)⟩) fun h4 => ?_
  obtain ⟨d, ed, _⟩ := t_bdig (qk h2)
  rw [ed]
  simp only [Option.bind_some]
  obtain ⟨y, ey, qy⟩ := t_runV c b x.Round d x.Votes 0
  have e := forK_list (voteB c b x.Round d) x.Votes 0
  rw [ey] at e
  cases y with
  | inl s =>
    refine ⟨true, (congrArg (fun z => Option.bind z _) e).trans rfl, ?_⟩
    exact ⟨fun _ => ⟨by rw [h1], by rw [h2], h3', by omega, d, rfl, qy⟩, fun _ => rfl⟩
  | inr r =>
    refine ⟨r, (congrArg (fun z => Option.bind z _) e).trans rfl, ?_⟩
    refine ⟨fun h => ?_, fun ⟨_, _, _, _, d', hd, hr⟩ => ?_⟩
    · have h' : r = true := h
      rw [qy.1] at h'; cases h'
    · cases hd; exact absurd hr qy.2
theorem t_great12 (b : Block) (n : Int) : Tot (M_wapentakeref12_Great b n) fun _ => True := by
  unfold M_wapentakeref12_Great
  refine Tot.ite (fun _ => Tot.yes trivial) fun _ => ?_
  refine Tot.fold (fun _ _ => True) trivial (fun _ => rfl) (fun j s hj _ => ?_) (fun s _ => Tot.yes trivial)
  refine Tot.bind (Tot.get (Q := fun _ => True) hj fun _ _ => trivial) fun x _ => ?_
  refine Tot.fold' (fun _ _ => True) (SumP (fun _ => True) (fun _ => True)) trivial (fun i t hi _ => ?_) (fun s _ => Tot.yes trivial) (fun r hr => Tot.yes (by cases r <;> trivial))
  refine Tot.bind (Tot.get (Q := fun _ => True) hi fun _ _ => trivial) fun y _ => ?_
  exact Tot.ite (fun _ => Tot.map (Tot.map (Tot.yes trivial))) fun _ => Tot.yes trivial
end Go.Proofs.YtdebnncpclodcaaDoor.X
