/-
  Plain: what the functions compute always answers, and how. No condition beyond those that the lemmas name.
-/
import Derived.Test.YtdebnncpclodcaaDoorXTCert
import Derived.Test.YtdebnncpclodcaaDoorXGc
import Derived.Test.YtdebnncpclodcaaDoorXGd
import Derived.Test.YtdebnncpclodcaaDoorXGf
set_option linter.unusedSimpArgs false
set_option linter.unusedVariables false
set_option maxRecDepth 10000
namespace Go.Proofs.YtdebnncpclodcaaDoor.X
theorem t_cfwrite {w : Code_Writer} {c : Config} (hc : c.Members.length ≤ 1000) (h : w.b_.length ≤ 1000) : Tot (M_config_Write w c) fun r => r.b_.length ≤ 1000000 := by
  unfold M_config_Write
  refine Tot.bind (t_num (by simp; omega)) fun x hx => ?_
  simp at hx
  refine Tot.fold (fun j s => s.length ≤ 2000 + 48 * j) (by omega) (fun _ => rfl) (fun j s hj hs => ?_) (fun s hs => Tot.yes ?_)
  · refine Tot.bind (Tot.get (Q := fun _ => True) hj fun _ _ => trivial) fun q _ => ?_
    have hs' : s.length ≤ 2000 + 48 * j := hs
    refine Tot.bind (t_num (by simp; omega)) fun u hu => ?_
    simp at hu
    refine Tot.bind (t_wdig (by simp; omega)) fun z hz => ?_
    simp at hz
    refine Tot.yes ?_
    show z.b_.length ≤ _
    omega
  · have hs' : s.length ≤ 2000 + 48 * c.Members.length := hs
    show s.length ≤ _
    omega
theorem t_cfdig {c : Config} (hc : c.Members.length ≤ 1000) : Tot (M_config_Digest c) fun _ => True := by
  unfold M_config_Digest
  have h1 := t_cfwrite (w := ⟨[]⟩) hc (Nat.zero_le _)
  refine Tot.bind h1 fun x hx => ?_
  refine Tot.bind (t_bytes (by omega)) fun y _ => ?_
  rw [sha_eq]
  exact Tot.yes trivial
/-- A step of a chain that is right. -/
def StepR (c : Config) (h : Int) (l : Link) : Prop :=
  h < l.Block.Height ∧ M_config_Good l.Config = some true ∧ c.Epoch < l.Config.Epoch ∧ CertR c l.Block l.Cert ∧ M_config_Digest l.Config = some l.Block.Next
theorem t_step (c : Config) (h : Int) (l : Link) : Tot (M_chain_Step c h l) fun e => (e = 0 ↔ StepR c h l) := by
  unfold M_chain_Step StepR
  obtain ⟨g, eg, qg⟩ := t_cgood l.Config
  rw [eg]
  simp only [Option.bind_some]
  refine Tot.bind (Q := fun b => b = true ↔ ¬ (h < l.Block.Height ∧ g = true ∧ c.Epoch < l.Config.Epoch)) ?_ fun b hb => ?_
  · refine Tot.ite (fun h1 => Tot.yes ⟨fun _ k => by omega, fun _ => rfl⟩) fun h1 => ?_
    refine Tot.ite (fun h2 => Tot.yes ?_) fun h2 => Tot.yes ⟨fun _ k => h2 k.2.1, fun _ => rfl⟩
    rw [decide_eq_true_eq]
    constructor
    · intro h3 k; omega
    · intro k
      refine Decidable.byContradiction fun h3 => k ⟨by omega, h2, by omega⟩
  · refine Tot.ite (fun h1 => Tot.yes ⟨fun k => by omega, fun k => ?_⟩) fun h1 => ?_
    · exact absurd ⟨k.1, by simpa using k.2.1, k.2.2.1⟩ (hb.1 h1)
    · have hh : h < l.Block.Height ∧ g = true ∧ c.Epoch < l.Config.Epoch := Decidable.byContradiction fun k => h1 (hb.2 k)
      obtain ⟨r, er, qr⟩ := t_ccheck c l.Block l.Cert
      rw [er]
      simp only [Option.bind_some]
      refine Tot.ite (fun h2 => ?_) fun h2 => Tot.yes ⟨fun k => by omega, fun k => absurd (qr.2 k.2.2.2.1) h2⟩
      obtain ⟨d, ed, _⟩ := t_cfdig (c := l.Config) (by have := qg hh.2.1; omega)
      rw [ed]
      simp only [Option.bind_some]
      refine Tot.ite (fun h3 => Tot.yes ⟨fun _ => ⟨hh.1, by rw [hh.2.1], hh.2.2, qr.1 h2, by rw [h3]⟩, fun _ => rfl⟩) fun h3 => Tot.yes ⟨fun k => by omega, fun k => ?_⟩
      have := k.2.2.2.2
      cases this
      exact absurd rfl h3
noncomputable def stepE (c : Config) (h : Int) (l : Link) : Int := (M_chain_Step c h l).getD 0
theorem stepE_eq (c : Config) (h : Int) (l : Link) : M_chain_Step c h l = some (stepE c h l) ∧ (stepE c h l = 0 ↔ StepR c h l) := by
  obtain ⟨x, e, q⟩ := t_step c h l
  unfold stepE; rw [e]; exact ⟨rfl, q⟩
/-- Where a chain leads, or at which link it fails, and how. -/
noncomputable def chainF : Nat → Config → Int → List Link → Config ⊕ (Nat × Int)
  | _, c, _, [] => .inl c
  | i, c, h, l :: r => if stepE c h l = 0 then chainF (i + 1) l.Config l.Block.Height r else .inr (i, stepE c h l)
theorem chainF_err : ∀ {list : List Link} {i : Nat} {c : Config} {h : Int} {n : Nat} {e : Int}, chainF i c h list = .inr (n, e) → e ≠ 0 ∧ i ≤ n ∧ n < i + list.length ∧ ∀ m, (i + m ≤ n → ∃ c', chainF i c h (list.take m) = .inl c') ∧ (n < i + m → chainF i c h (list.take m) = .inr (n, e))
  | [], i, c, h, n, e, k => by cases k
  | l :: r, i, c, h, n, e, k => by
    unfold chainF at k
    by_cases hs : stepE c h l = 0
    · rw [if_pos hs] at k
      obtain ⟨h1, h2, h3, h4⟩ := chainF_err k
      refine ⟨h1, by omega, by simp only [List.length_cons]; omega, fun m => ?_⟩
      cases m with
      | zero => exact ⟨fun _ => ⟨c, rfl⟩, fun hm => by omega⟩
      | succ m =>
        have := h4 m
        rw [List.take_succ_cons]
        unfold chainF
        rw [if_pos hs]
        exact ⟨fun hm => this.1 (by omega), fun hm => this.2 (by omega)⟩
    · rw [if_neg hs] at k
      cases k
      refine ⟨hs, Nat.le_refl _, by simp, fun m => ?_⟩
      cases m with
      | zero => exact ⟨fun _ => ⟨c, rfl⟩, fun hm => by omega⟩
      | succ m =>
        rw [List.take_succ_cons]
        unfold chainF
        rw [if_neg hs]
        exact ⟨fun hm => by omega, fun _ => rfl⟩
theorem chainF_ok : ∀ {list : List Link} {i : Nat} {c c' : Config} {h : Int}, chainF i c h list = .inl c' → M_config_Good c = some true → M_config_Good c' = some true
  | [], i, c, c', h, k, hg => by cases k; exact hg
  | l :: r, i, c, c', h, k, hg => by
    unfold chainF at k
    by_cases hs : stepE c h l = 0
    · rw [if_pos hs] at k
      exact chainF_ok k ((stepE_eq c h l).2.1 hs).2.1
    · rw [if_neg hs] at k
      cases k
/-- A loop over a list's elements and their numbers. -/
def foldI {α σ τ : Type} (g : Nat → σ → α → Option (σ ⊕ τ)) : Nat → σ → List α → Option (σ ⊕ τ)
  | _, s, [] => some (.inl s)
  | i, s, a :: r => match g i s a with
    | none => none
    | some (.inl s') => foldI g (i + 1) s' r
    | some (.inr t) => some (.inr t)
theorem forK_dropI {α σ τ : Type} {g : Nat → σ → α → Option (σ ⊕ τ)} {l : List α} : ∀ (k i : Nat) (s : σ), i + k = l.length → forK (fun i s => (l[i]?).bind (g i s)) k i s = foldI g i s (l.drop i)
  | 0, i, s, h => by
    rw [List.drop_eq_nil_of_le (by omega)]; rfl
  | k + 1, i, s, h => by
    have hi : i < l.length := by omega
    rw [List.drop_eq_getElem_cons hi]
    unfold forK foldI
    simp only [List.getElem?_eq_getElem hi, Option.bind_some]
    cases g i s l[i] with
    | none => rfl
    | some y =>
      cases y with
      | inl s' => exact forK_dropI k (i + 1) s' (by omega)
      | inr t => rfl
theorem forK_listI {α σ τ : Type} (g : Nat → σ → α → Option (σ ⊕ τ)) (l : List α) (s : σ) : forK (fun i s => (l[i]?).bind (g i s)) l.length 0 s = foldI g 0 s l := by
  have := forK_dropI (g := g) (l := l) l.length 0 s (by omega)
  simpa using this
noncomputable def chainB (i48 : Nat) (σ48 : Int × Int × (List Member)) (x220 : Link) : Option ((Int × Int × (List Member)) ⊕ (Config × Int × Int)) :=
  ((M_chain_Step (⟨σ48.2.1, σ48.2.2⟩ : Config) σ48.1 x220).bind fun x242 => (if x242 ≠ 0 then ((some ((⟨0, []⟩ : Config), (i48 : Int), x242)).map Sum.inr) else some (.inl (x220.Block.Height, x220.Config.Epoch, x220.Config.Members))))
theorem chainB_run : ∀ (list : List Link) (i : Nat) (c : Config) (h : Int), ∃ y, foldI chainB i (h, c.Epoch, c.Members) list = some y ∧
    match chainF i c h list with
    | .inl c' => ∃ h', y = .inl (h', c'.Epoch, c'.Members)
    | .inr (n, e) => y = .inr (⟨0, []⟩, (n : Int), e)
  | [], i, c, h => ⟨_, rfl, h, rfl⟩
  | l :: r, i, c, h => by
    obtain ⟨es, _⟩ := stepE_eq c h l
    have e1 : chainB i (h, c.Epoch, c.Members) l = if stepE c h l ≠ 0 then some (.inr (⟨0, []⟩, (i : Int), stepE c h l)) else some (.inl (l.Block.Height, l.Config.Epoch, l.Config.Members)) := by
      unfold chainB
      have : M_chain_Step ⟨c.Epoch, c.Members⟩ h l = some (stepE c h l) := es
      rw [this]
      rfl
    unfold foldI chainF
    rw [e1]
    by_cases hs : stepE c h l = 0
    · rw [if_neg (by simpa using hs), if_pos hs]
      exact chainB_run r (i + 1) l.Config l.Block.Height
    · rw [if_pos hs, if_neg hs]
      exact ⟨_, rfl, rfl⟩
theorem check_good {c : Config} {list : List Link} (hg : M_config_Good c = some true) (hl : list.length ≤ 1024) : M_chain_Check c list = some (match chainF 0 c 0 list with | .inl c' => (c', (list.length : Int), 0) | .inr (n, e) => (⟨0, []⟩, (n : Int), e)) := by
  unfold M_chain_Check
  rw [hg]
  simp only [Option.bind_some]
  rw [if_pos trivial, if_neg (by omega)]
  obtain ⟨y, ey, qy⟩ := chainB_run list 0 c 0
  have e := forK_listI chainB list (0, c.Epoch, c.Members)
  rw [ey] at e
  refine (congrArg (fun z => Option.bind z _) e).trans ?_
  cases hf : chainF 0 c 0 list with
  | inl c' =>
    rw [hf] at qy
    obtain ⟨h', rfl⟩ := qy
    have hg' := chainF_ok hf hg
    obtain ⟨g, eg, qg⟩ := t_cgood c'
    rw [eg] at hg'
    cases hg'
    have hm := qg rfl
    have ha : appI 48 ([] : List Member) c'.Members = some c'.Members := by
      unfold appI
      rw [if_pos (by simp; omega)]
      rfl
    show Option.bind (appI 48 ([] : List Member) c'.Members) _ = _
    rw [ha]
    rfl
  | inr r =>
    rw [hf] at qy
    obtain ⟨n, e'⟩ := r
    have qy' : y = .inr (⟨0, []⟩, (n : Int), e') := qy
    subst qy'
    rfl
theorem check_bad {c : Config} {list : List Link} (hg : M_config_Good c = some false) : M_chain_Check c list = some (⟨0, []⟩, 0, 1) := by
  unfold M_chain_Check
  rw [hg]
  rfl
theorem same08 (c : Config) : M_wapentakeref08_Same c c = some true := by
  have : Tot (M_wapentakeref08_Same c c) fun r => r = true := by
    unfold M_wapentakeref08_Same
    refine Tot.neg (by simp) ?_
    refine Tot.neg (by simp) ?_
    refine Tot.fold (fun _ _ => True) trivial (fun _ => rfl) (fun j s hj _ => ?_) (fun s _ => Tot.yes rfl)
    rw [List.getElem?_eq_getElem hj]
    simp only [Option.bind_some]
    exact Tot.pos trivial (Tot.yes trivial)
  obtain ⟨r, e, rfl⟩ := this
  exact e
theorem alive15 : M_wapentakelaw15_alive = some true := by
  unfold M_wapentakelaw15_alive
  have hg : M_config_Good ⟨0, [⟨1, ⟨Vec.rep 32 0, 0⟩⟩]⟩ = some true := rfl
  rw [check_good hg (by simp)]
  simp only [Option.bind_some, chainF]
  have hs : M_chain_Step ⟨0, [⟨1, ⟨Vec.rep 32 0, 0⟩⟩]⟩ 0 ⟨⟨0, 0, Vec.rep 32 0, Vec.rep 32 0, Vec.rep 32 0, []⟩, ⟨0, []⟩, ⟨0, []⟩⟩ = some 12 := rfl
  rw [hs]
  rfl
theorem t_great15 (c : Config) (list : List Link) : Tot (M_wapentakelaw15_great c list) fun r => r = false → list.length ≤ 6 := by
  unfold M_wapentakelaw15_great
  refine Tot.ite (fun _ => Tot.yes (by simp)) fun _ => ?_
  refine Tot.ite (fun _ => Tot.yes (by simp)) fun h6 => ?_
  refine Tot.mono (Q := fun _ => True) ?_ fun _ _ _ => by omega
  refine Tot.fold (fun _ _ => True) trivial (fun _ => rfl) (fun j s hj _ => ?_) (fun s _ => Tot.yes trivial)
  refine Tot.bind (Tot.get (Q := fun _ => True) hj fun _ _ => trivial) fun x _ => ?_
  refine Tot.ite (fun _ => Tot.map (Tot.yes trivial)) fun _ => ?_
  refine Tot.ite (fun _ => Tot.map (Tot.yes trivial)) fun _ => ?_
  refine Tot.bind (t_great12 _ _) fun g _ => ?_
  refine Tot.ite (fun _ => Tot.map (Tot.yes trivial)) fun _ => ?_
  refine Tot.fold' (fun _ _ => True) (SumP (fun _ => True) (fun _ => True)) trivial (fun i t hi _ => ?_) (fun s _ => Tot.yes trivial) (fun r hr => Tot.yes (by cases r <;> trivial))
  refine Tot.bind (Tot.get (Q := fun _ => True) hi fun _ _ => trivial) fun y _ => ?_
  refine Tot.ite (fun _ => Tot.map (Tot.map (Tot.yes trivial))) fun _ => ?_
  refine Tot.ite (fun _ => Tot.map (Tot.map (Tot.yes trivial))) fun _ => ?_
  exact Tot.ite (fun _ => Tot.map (Tot.map (Tot.yes trivial))) fun _ => Tot.yes trivial
end Go.Proofs.YtdebnncpclodcaaDoor.X
