/-
  Plain: what the functions compute always answers, and how. No condition beyond those that the lemmas name.
-/
import Derived.Test.YtdebnncpclodcaaDoorXTVote
import Derived.Test.YtdebnncpclodcaaDoorXFc
import Derived.Test.YtdebnncpclodcaaDoorXFd
import Derived.Test.YtdebnncpclodcaaDoorXFe
set_option linter.unusedSimpArgs false
set_option linter.unusedVariables false
set_option maxRecDepth 10000
namespace Go.Proofs.YtdebnncpclodcaaDoor.X
/-- A loop over a list's elements. -/
def foldL {α σ τ : Type} (g : σ → α → Option (σ ⊕ τ)) : σ → List α → Option (σ ⊕ τ)
  | s, [] => some (.inl s)
  | s, a :: r => match g s a with
    | none => none
    | some (.inl s') => foldL g s' r
    | some (.inr t) => some (.inr t)
theorem forK_drop {α σ τ : Type} {g : σ → α → Option (σ ⊕ τ)} {l : List α} : ∀ (k i : Nat) (s : σ), i + k = l.length → forK (fun i s => (l[i]?).bind (g s)) k i s = foldL g s (l.drop i)
  | 0, i, s, h => by
    rw [List.drop_eq_nil_of_le (by omega)]; rfl
  | k + 1, i, s, h => by
    have hi : i < l.length := by omega
    rw [List.drop_eq_getElem_cons hi]
    unfold forK foldL
    simp only [List.getElem?_eq_getElem hi, Option.bind_some]
    cases g s l[i] with
    | none => rfl
    | some y =>
      cases y with
      | inl s' => exact forK_drop k (i + 1) s' (by omega)
      | inr t => rfl
theorem forK_list {α σ τ : Type} (g : σ → α → Option (σ ⊕ τ)) (l : List α) (s : σ) : forK (fun i s => (l[i]?).bind (g s)) l.length 0 s = foldL g s l := by
  have := forK_drop (g := g) (l := l) l.length 0 s (by omega)
  simpa using this
/-- One vote of a word that is looked at. -/
noncomputable def voteB (c : Config) (b : Block) (round : Int) (d : Dg) (last : Int) (x346 : Vote) : Option (Int ⊕ Bool) :=
  (if x346.From ≤ last then ((some false).map Sum.inr) else (if x346.Kind ≠ 2 then ((some false).map Sum.inr) else (if x346.Height ≠ b.Height then ((some false).map Sum.inr) else (if x346.Round ≠ round then ((some false).map Sum.inr) else (if x346.Digest = d then ((M_vote_Right c x346).bind fun x425 => (if x425 = true then some (.inl x346.From) else ((some false).map Sum.inr))) else ((some false).map Sum.inr))))))
def VoteR (c : Config) (b : Block) (round : Int) (d : Dg) (last : Int) (v : Vote) : Prop :=
  last < v.From ∧ v.Kind = 2 ∧ v.Height = b.Height ∧ v.Round = round ∧ v.Digest = d ∧ M_vote_Right c v = some true
theorem t_voteB (c : Config) (b : Block) (round : Int) (d : Dg) (last : Int) (v : Vote) : Tot (voteB c b round d last v) (SumP (fun s => s = v.From ∧ VoteR c b round d last v) (fun r => r = false ∧ ¬ VoteR c b round d last v)) := by
  unfold voteB VoteR
  refine Tot.ite (fun h => Tot.map (Tot.yes ⟨rfl, fun k => by omega⟩)) fun h1 => ?_
  refine Tot.ite (fun h => Tot.map (Tot.yes ⟨rfl, fun k => h k.2.1⟩)) fun h2 => ?_
  refine Tot.ite (fun h => Tot.map (Tot.yes ⟨rfl, fun k => h k.2.2.1⟩)) fun h3 => ?_
  refine Tot.ite (fun h => Tot.map (Tot.yes ⟨rfl, fun k => h k.2.2.2.1⟩)) fun h4 => ?_
  refine Tot.ite (fun h5 => ?_) fun h => Tot.map (Tot.yes ⟨rfl, fun k => h k.2.2.2.2.1⟩)
  obtain ⟨r, e, _⟩ := t_right c v
  rw [e]
  simp only [Option.bind_some]
  refine Tot.ite (fun h => Tot.yes ⟨rfl, ?_⟩) fun h => Tot.map (Tot.yes ⟨rfl, fun k => ?_⟩)
  · exact ⟨by omega, by simpa using h2, by simpa using h3, by simpa using h4, h5, by rw [h]⟩
  · have := k.2.2.2.2.2
    cases this
    exact h rfl
def RunV (c : Config) (b : Block) (round : Int) (d : Dg) : Int → List Vote → Prop
  | _, [] => True
  | last, v :: r => VoteR c b round d last v ∧ RunV c b round d v.From r
theorem t_runV (c : Config) (b : Block) (round : Int) (d : Dg) : ∀ (l : List Vote) (last : Int), Tot (foldL (voteB c b round d) last l) (SumP (fun _ => RunV c b round d last l) (fun r => r = false ∧ ¬ RunV c b round d last l))
  | [], last => Tot.yes trivial
  | v :: l, last => by
    obtain ⟨y, e, q⟩ := t_voteB c b round d last v
    unfold foldL
    rw [e]
    cases y with
    | inl s =>
      obtain ⟨rfl, q⟩ := q
      exact (t_runV c b round d l v.From).mono fun y hy => by
        cases y with
        | inl s => exact ⟨q, hy⟩
        | inr r => exact ⟨hy.1, fun h => hy.2 h.2⟩
    | inr r => exact Tot.yes ⟨q.1, fun h => q.2 h.1⟩
theorem RunV.take {c : Config} {b : Block} {round : Int} {d : Dg} : ∀ {l : List Vote} {last : Int} (n : Nat), RunV c b round d last l → RunV c b round d last (l.take n)
  | _, _, 0, _ => trivial
  | [], _, n + 1, _ => trivial
  | v :: l, last, n + 1, h => ⟨h.1, h.2.take n⟩
/-- A word that is right. -/
def CertR (c : Config) (b : Block) (x : Cert) : Prop :=
  M_config_Good c = some true ∧ M_block_Good b = some true ∧ b.Epoch = c.Epoch ∧ qn c.Members.length ≤ x.Votes.length ∧ ∃ d, M_block_Digest b = some d ∧ RunV c b x.Round d 0 x.Votes
theorem t_ccheck (c : Config) (b : Block) (x : Cert) : Tot (M_cert_Check c b x) fun r => (r = true ↔ CertR c b x) := by
  unfold M_cert_Check CertR
  obtain ⟨g, eg, qg⟩ := t_cgood c
  obtain ⟨k, ek, qk⟩ := t_bgood b
  rw [eg, ek]
  simp only [Option.bind_some]
  refine Tot.ite (fun h1 => ?_) fun h => Tot.yes (by simp [h])
  refine Tot.ite (fun h2 => ?_) fun h => Tot.yes (by simp [h])
  refine Tot.ite (fun h => Tot.yes (by simp [h])) fun h3 => ?_
  have h3' : b.Epoch = c.Epoch := Decidable.byContradiction h3
  rw [quorum_eq c (by have := qg h1; omega)]
  simp only [Option.bind_some]
  refine Tot.ite (fun h => Tot.yes ⟨fun k => (by cases k), fun k => absurd k.2.2.2.1 (by omega)⟩) fun h4 => ?_
  obtain ⟨d, ed, _⟩ := t_bdig (qk h2)
  rw [ed]
  simp only [Option.bind_some]
  obtain ⟨y, ey, qy⟩ := t_runV c b x.Round d x.Votes 0
  have e := forK_list (voteB c b x.Round d) x.Votes 0
  rw [ey] at e
  cases y with
  | inl s =>
    refine ⟨true, (congrArg (fun z => Option.bind z _) e).trans rfl, ?_⟩
    exact ⟨fun _ => ⟨by rw [h1], by rw [h2], h3', by omega, d, rfl, qy⟩, fun _ => rfl⟩
  | inr r =>
    refine ⟨r, (congrArg (fun z => Option.bind z _) e).trans rfl, ?_⟩
    refine ⟨fun h => ?_, fun ⟨_, _, _, _, d', hd, hr⟩ => ?_⟩
    · have h' : r = true := h
      rw [qy.1] at h'; cases h'
    · cases hd; exact absurd hr qy.2
theorem ccheck_yes {c : Config} {b : Block} {x : Cert} (h : CertR c b x) : M_cert_Check c b x = some true := by
  obtain ⟨r, e, q⟩ := t_ccheck c b x
  rw [e, q.2 h]
theorem qn_pos (n : Nat) : 1 ≤ qn n := by unfold qn; omega
theorem make_few {c : Config} {l : List Vote} (hc : c.Members.length ≤ 1000000) (h : l.length < qn c.Members.length) : M_cert_Make c l = some (⟨0, []⟩, false) := by
  unfold M_cert_Make
  rw [quorum_eq c hc]
  simp only [Option.bind_some]
  rw [if_pos (by omega)]
theorem make_yes {c : Config} {l : List Vote} {v : Vote} (hc : c.Members.length ≤ 1000000) (h : qn c.Members.length ≤ l.length) (hv : l[0]? = some v) : M_cert_Make c l = some (⟨v.Round, l.take (qn c.Members.length)⟩, true) := by
  have hq : qn c.Members.length ≤ 2000000 := by unfold qn; omega
  have h1 : cutI l 0 (qn c.Members.length : Int) = some (l.take (qn c.Members.length)) := by
    unfold cutI
    rw [if_pos ⟨by omega, by omega, by omega⟩]
    simp
  have h2 : appI 152 ([] : List Vote) (l.take (qn c.Members.length)) = some (l.take (qn c.Members.length)) := by
    unfold appI
    rw [if_pos (by simp; omega)]
    rfl
  unfold M_cert_Make
  rw [quorum_eq c hc]
  simp only [Option.bind_some]
  rw [if_neg (by omega), hv]
  simp only [Option.bind_some]
  rw [h1]
  simp only [Option.bind_some]
  rw [h2]
  rfl
theorem same03 (a : List Dg) : M_wapentakeref03_Same a a = some true := by
  have : Tot (M_wapentakeref03_Same a a) fun r => r = true := by
    unfold M_wapentakeref03_Same
    refine Tot.neg (by simp) ?_
    refine Tot.fold (fun _ _ => True) trivial (fun _ => rfl) (fun j s hj _ => ?_) (fun s _ => Tot.yes rfl)
    rw [List.getElem?_eq_getElem hj]
    simp only [Option.bind_some]
    exact Tot.pos trivial (Tot.yes trivial)
  obtain ⟨r, e, rfl⟩ := this
  exact e
theorem same05 (a : Sig) : M_wapentakeref05_Same a a = some true := by
  simp [M_wapentakeref05_Same, M_wapentakeref04_Same, same03]
theorem same13 (a : Vote) : M_wapentakeref13_Same a a = some true := by
  simp [M_wapentakeref13_Same, same05]
theorem same14 (a : Cert) : M_wapentakeref14_Same a a = some true := by
  have : Tot (M_wapentakeref14_Same a a) fun r => r = true := by
    unfold M_wapentakeref14_Same
    refine Tot.neg (by simp) ?_
    refine Tot.neg (by simp) ?_
    refine Tot.fold (fun _ _ => True) trivial (fun _ => rfl) (fun j s hj _ => ?_) (fun s _ => Tot.yes rfl)
    rw [List.getElem?_eq_getElem hj]
    simp only [Option.bind_some]
    rw [same13]
    exact Tot.yes trivial
  obtain ⟨r, e, rfl⟩ := this
  exact e
theorem t_great12 (b : Block) (n : Int) : Tot (M_wapentakeref12_Great b n) fun _ => True := by
  unfold M_wapentakeref12_Great
  refine Tot.ite (fun _ => Tot.yes trivial) fun _ => ?_
  refine Tot.fold (fun _ _ => True) trivial (fun _ => rfl) (fun j s hj _ => ?_) (fun s _ => Tot.yes trivial)
  refine Tot.bind (Tot.get (Q := fun _ => True) hj fun _ _ => trivial) fun x _ => ?_
  refine Tot.fold' (fun _ _ => True) (SumP (fun _ => True) (fun _ => True)) trivial (fun i t hi _ => ?_) (fun s _ => Tot.yes trivial) (fun r hr => Tot.yes (by cases r <;> trivial))
  refine Tot.bind (Tot.get (Q := fun _ => True) hi fun _ _ => trivial) fun y _ => ?_
  exact Tot.ite (fun _ => Tot.map (Tot.map (Tot.yes trivial))) fun _ => Tot.yes trivial
theorem t_great14 (c : Config) (b : Block) (x : Cert) : Tot (M_wapentakelaw14_great c b x) fun r => r = false → c.Members.length ≤ 20 ∧ x.Votes.length ≤ 12 := by
  unfold M_wapentakelaw14_great
  refine Tot.ite (fun _ => Tot.yes (by simp)) fun h1 => ?_
  refine Tot.bind (t_great12 b _) fun g _ => ?_
  refine Tot.ite (fun _ => Tot.yes (by simp)) fun _ => ?_
  refine Tot.ite (fun _ => Tot.yes (by simp)) fun h2 => ?_
  refine Tot.mono (Q := fun _ => True) ?_ fun _ _ _ => ⟨by omega, by omega⟩
  refine Tot.fold (fun _ _ => True) trivial (fun _ => rfl) (fun j s hj _ => ?_) (fun s _ => Tot.yes trivial)
  refine Tot.bind (Tot.get (Q := fun _ => True) hj fun _ _ => trivial) fun x _ => ?_
  refine Tot.ite (fun _ => Tot.map (Tot.yes trivial)) fun _ => ?_
  refine Tot.ite (fun _ => Tot.map (Tot.yes trivial)) fun _ => ?_
  exact Tot.ite (fun _ => Tot.map (Tot.yes trivial)) fun _ => Tot.yes trivial
theorem new_one (s : Dg) : M_keys_New s 0 = some (some ⟨s, 0, [sha [[0], (pub s 0).l]]⟩, 0) := by
  unfold M_keys_New
  rw [if_neg (by simp), if_neg (by simp), if_pos (by simp)]
  have e : (shlI (1 : Int) 0 : Int).toNat = 1 := by decide +kernel
  rw [e]
  simp only [forK]
  have h0 : M_once_Public s ((0 : Nat) : Int) = some (pub s 0) := public_eq s 0
  rw [h0]
  simp only [Option.bind_some]
  rw [kleaf_eq]
  rfl
/-- One member's vote that the member signed is right. -/
theorem right_one {root : Dg} {seed sg : Dg} {v : Vote} (hr : root = sha [[0], (pub seed 0).l]) (hf : v.From = 1) (hg : M_vote_Good v = some true) (he : v.Epoch = 0) (hs : M_vote_Signs v = some sg) (hsig : v.Sig = ⟨0, osign seed 0 sg, []⟩) :
    M_vote_Right ⟨0, [⟨1, ⟨root, 0⟩⟩]⟩ v = some true := by
  have h1 : M_config_Find ⟨0, [⟨1, ⟨root, 0⟩⟩]⟩ v.From = some (⟨1, ⟨root, 0⟩⟩, 0, true) := by
    rw [hf]; rfl
  have h2 : M_keys_Check ⟨root, 0⟩ sg v.Sig = some true := by
    rw [hsig]
    unfold M_keys_Check
    rw [oof_osign]
    simp only [Option.bind_some]
    rw [if_pos trivial, if_pos (by simp), if_pos (by simp), if_pos (by simp), kleaf_eq]
    simp only [Option.bind_some]
    have e : shlI (1 : Int) 0 = 1 := by decide +kernel
    rw [e, tcheck_one, hr]
    simp
  unfold M_vote_Right
  rw [h1]
  simp only [Option.bind_some]
  rw [if_pos trivial, hg]
  simp only [Option.bind_some]
  rw [if_pos trivial, if_pos he, hs]
  simp only [Option.bind_some]
  rw [h2]
  rfl
theorem alive14 : M_wapentakelaw14_alive = some true := by
  unfold M_wapentakelaw14_alive
  rw [new_one]
  simp only [Option.bind_some]
  generalize (Vec.set (Vec.rep 32 0) 0 1 : Dg) = seed
  rw [if_neg (by simp)]
  have hk : M_keys_Tree_Key ⟨seed, 0, [sha [[0], (pub seed 0).l]]⟩ = some ⟨sha [[0], (pub seed 0).l], 0⟩ := by
    unfold M_keys_Tree_Key
    rw [root_one]
    rfl
  rw [hk]
  simp only [Option.bind_some]
  have hbg : M_block_Good ⟨0, 1, Vec.rep 32 0, Vec.rep 32 0, Vec.rep 32 0, []⟩ = some true := rfl
  obtain ⟨d, ed, _⟩ := t_bdig (b := ⟨0, 1, Vec.rep 32 0, Vec.rep 32 0, Vec.rep 32 0, []⟩) ⟨Nat.zero_le _, fun q hq => by cases hq⟩
  rw [ed]
  simp only [Option.bind_some]
  obtain ⟨sg, es, _⟩ := t_signs ⟨2, 0, 1, 0, d, 1, ⟨0, ⟨[], []⟩, []⟩⟩
  rw [es]
  simp only [Option.bind_some]
  have hs : M_keys_Tree_Sign ⟨seed, 0, [sha [[0], (pub seed 0).l]]⟩ 0 sg = some (⟨0, osign seed 0 sg, []⟩, 0) := by
    unfold M_keys_Tree_Sign
    rw [path_one]
    simp only [Option.bind_some]
    rw [if_pos trivial, osign_eq]
    rfl
  rw [hs]
  simp only [Option.bind_some]
  rw [make_yes (v := ⟨2, 0, 1, 0, d, 1, ⟨0, osign seed 0 sg, []⟩⟩) (by simp) (by simp [qn]) rfl]
  simp only [Option.bind_some]
  rw [if_pos trivial]
  have hy : M_cert_Check ⟨0, [⟨1, ⟨sha [[0], (pub seed 0).l], 0⟩⟩]⟩ ⟨0, 1, Vec.rep 32 0, Vec.rep 32 0, Vec.rep 32 0, []⟩ ⟨0, [⟨2, 0, 1, 0, d, 1, ⟨0, osign seed 0 sg, []⟩⟩]⟩ = some true := by
    refine ccheck_yes ⟨rfl, hbg, rfl, by simp [qn], d, ed, ⟨by simp, rfl, rfl, rfl, rfl, ?_⟩, trivial⟩
    exact right_one (sg := sg) rfl rfl rfl rfl es rfl
  have h1 : qn 1 = 1 := by simp [qn]
  show (M_cert_Check _ _ ⟨0, List.take (qn 1) _⟩).bind _ = _
  rw [h1]
  exact congrArg (fun z => Option.bind z fun x => some x) hy
/-- ████ CertMakes, of the mirrors. -/
theorem law_10 (c : Config) (b : Block) (x : Cert) : M_wapentakelaw14_CertMakes c b x = some true := by
  unfold M_wapentakelaw14_CertMakes
  rw [alive14]
  simp only [Option.bind_some]
  rw [if_pos trivial]
  obtain ⟨g, eg, qg⟩ := t_great14 c b x
  rw [eg]
  simp only [Option.bind_some]
  by_cases hg : g = true
  · rw [if_pos hg]
  · rw [if_neg hg]
    obtain ⟨hm, hv⟩ := qg (by simpa using hg)
    rw [rquorum_eq (by omega)]
    simp only [Option.bind_some]
    by_cases hq : x.Votes.length < qn c.Members.length
    · rw [make_few (by omega) hq]
      simp only [Option.bind_some]
      rw [if_pos (by omega), if_neg (by simp), same14]
      simp only [Option.bind_some]
      rw [if_pos trivial]
      obtain ⟨r, e, q⟩ := t_ccheck c b x
      have hr : r = false := by
        cases r with
        | false => rfl
        | true => exact absurd (q.1 rfl).2.2.2.1 (by omega)
      rw [e, hr]
      rfl
    · have hp := qn_pos c.Members.length
      obtain ⟨v, hv0⟩ : ∃ v, x.Votes[0]? = some v := ⟨_, List.getElem?_eq_getElem (by omega)⟩
      rw [make_yes (by omega) (by omega) hv0]
      simp only [Option.bind_some]
      rw [if_neg (by omega), hv0]
      simp only [Option.bind_some]
      have h1 : cutI x.Votes 0 (qn c.Members.length : Int) = some (x.Votes.take (qn c.Members.length)) := by
        unfold cutI
        rw [if_pos ⟨by omega, by omega, by omega⟩]
        simp
      rw [h1]
      simp only [Option.bind_some]
      rw [if_pos trivial, same14]
      simp only [Option.bind_some]
      rw [if_pos trivial]
      obtain ⟨r, e, q⟩ := t_ccheck c b x
      rw [e]
      simp only [Option.bind_some]
      by_cases hr : r = true
      · rw [if_pos hr]
        obtain ⟨g1, g2, g3, g4, d, g5, g6⟩ := q.1 hr
        have hround : v.Round = x.Round := by
          cases hl : x.Votes with
          | nil => rw [hl] at hv0; cases hv0
          | cons w l =>
            rw [hl] at hv0 g6
            cases hv0
            exact g6.1.2.2.2.1
        have : M_cert_Check c b ⟨v.Round, x.Votes.take (qn c.Members.length)⟩ = some true := by
          rw [hround]
          exact ccheck_yes ⟨g1, g2, g3, by simp; omega, d, g5, g6.take _⟩
        rw [this]
        rfl
      · rw [if_neg hr]
end Go.Proofs.YtdebnncpclodcaaDoor.X
