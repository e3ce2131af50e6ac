/-
  Plain: what the functions compute always answers, and how. No condition beyond those that the lemmas name.
-/
import Derived.Test.YtdebnncpclodcaaDoorXTCert
import Derived.Test.YtdebnncpclodcaaDoorXTSign
import Derived.Test.YtdebnncpclodcaaDoorXH11a
set_option linter.unusedSimpArgs false
set_option linter.unusedVariables false
set_option maxRecDepth 10000
namespace Go.Proofs.YtdebnncpclodcaaDoor.X
theorem qn_pos (n : Nat) : 1 ≤ qn n := by unfold qn; omega
theorem make_few {c : Config} {l : List Vote} (hc : c.Members.length ≤ 1000000) (h : l.length < qn c.Members.length) : M_cert_Make c l = some (⟨0, []⟩, false) := by
  unfold M_cert_Make
  rw [quorum_eq c hc]
  simp only [Option.bind_some]
  rw [if_pos (by omega)]
theorem make_yes {c : Config} {l : List Vote} {v : Vote} (hc : c.Members.length ≤ 1000000) (h : qn c.Members.length ≤ l.length) (hv : l[0]? = some v) : M_cert_Make c l = some (⟨v.Round, l.take (qn c.Members.length)⟩, true) := by
  have hq : qn c.Members.length ≤ 2000000 := by unfold qn; omega
  have h1 : cutI l 0 (qn c.Members.length : Int) = some (l.take (qn c.Members.length)) := by
    unfold cutI
    rw [if_pos ⟨by omega, by omega, by omega⟩]
    simp
  have h2 : appI 152 ([] : List Vote) (l.take (qn c.Members.length)) = some (l.take (qn c.Members.length)) := by
    unfold appI
    rw [if_pos (by simp; omega)]
    rfl
  unfold M_cert_Make
  rw [quorum_eq c hc]
  simp only [Option.bind_some]
  rw [if_neg (by omega), hv]
  simp only [Option.bind_some]
  rw [h1]
  simp only [Option.bind_some]
  rw [h2]
  rfl
theorem t_great14 (c : Config) (b : Block) (x : Cert) : Tot (M_wapentakelaw14_great c b x) fun r => r = false → c.Members.length ≤ 20 ∧ x.Votes.length ≤ 12 := by
  unfold M_wapentakelaw14_great
  refine Tot.ite (fun _ => Tot.yes (by simp)) fun h1 => ?_
  refine Tot.bind (t_great12 b _) fun g _ => ?_
  refine Tot.ite (fun _ => Tot.yes (by simp)) fun _ => ?_
  refine Tot.ite (fun _ => Tot.yes (by simp)) fun h2 => ?_
  refine Tot.mono (Q := fun _ => True) ?_ fun _ _ _ => ⟨by omega, by omega⟩
  refine Tot.fold (fun _ _ => True) trivial (fun _ => rfl) (fun j s hj _ => ?_) (fun s _ => Tot.yes trivial)
  refine Tot.bind (Tot.get (Q := fun _ => True) hj fun _ _ => trivial) fun x _ => ?_
  refine Tot.ite (fun _ => Tot.map (Tot.yes trivial)) fun _ => ?_
  refine Tot.ite (fun _ => Tot.map (Tot.yes trivial)) fun _ => ?_
  exact Tot.ite (fun _ => Tot.map (Tot.yes trivial)) fun _ => Tot.yes trivial
theorem new_one (s : Dg) : M_keys_New s 0 = some (some ⟨s, 0, [sha [[0], (pub s 0).l]]⟩, 0) := by
  unfold M_keys_New
  rw [if_neg (by simp), if_neg (by simp), if_pos (by simp)]
  have e : (shlI (1 : Int) 0 : Int).toNat = 1 := by decide +kernel
  rw [e]
  simp only [forK]
  have h0 : M_once_Public s ((0 : Nat) : Int) = some (pub s 0) := public_eq s 0
  rw [h0]
  simp only [Option.bind_some]
  rw [kleaf_eq]
  rfl
/-- One member's vote that the member signed is right. -/
theorem right_one {root : Dg} {seed sg : Dg} {v : Vote} (hr : root = sha [[0], (pub seed 0).l]) (hf : v.From = 1) (hg : M_vote_Good v = some true) (he : v.Epoch = 0) (hs : M_vote_Signs v = some sg) (hsig : v.Sig = ⟨0, osign seed 0 sg, []⟩) :
    M_vote_Right ⟨0, [⟨1, ⟨root, 0⟩⟩]⟩ v = some true := by
  have h1 : M_config_Find ⟨0, [⟨1, ⟨root, 0⟩⟩]⟩ v.From = some (⟨1, ⟨root, 0⟩⟩, 0, true) := by
    rw [hf]; rfl
  have h2 : M_keys_Check ⟨root, 0⟩ sg v.Sig = some true := by
    rw [hsig]
    unfold M_keys_Check
    rw [oof_osign]
    simp only [Option.bind_some]
    rw [if_pos trivial, if_pos (by simp), if_pos (by simp), if_pos (by simp), kleaf_eq]
    simp only [Option.bind_some]
    have e : shlI (1 : Int) 0 = 1 := by decide +kernel
    rw [e, tcheck_one, hr]
    simp
  unfold M_vote_Right
  rw [h1]
  simp only [Option.bind_some]
  rw [if_pos trivial, hg]
  simp only [Option.bind_some]
  rw [if_pos trivial, if_pos he, hs]
  simp only [Option.bind_some]
  rw [h2]
  rfl
theorem alive14 : M_wapentakelaw14_alive = some true := by
  unfold M_wapentakelaw14_alive
  rw [new_one]
  simp only [Option.bind_some]
  generalize (Vec.set (Vec.rep 32 0) 0 1 : Dg) = seed
  rw [if_neg (by simp)]
  have hk : M_keys_Tree_Key ⟨seed, 0, [sha [[0], (pub seed 0).l]]⟩ = some ⟨sha [[0], (pub seed 0).l], 0⟩ := by
    unfold M_keys_Tree_Key
    rw [root_one]
    rfl
  rw [hk]
  simp only [Option.bind_some]
  have hbg : M_block_Good ⟨0, 1, Vec.rep 32 0, Vec.rep 32 0, Vec.rep 32 0, []⟩ = some true := rfl
  obtain ⟨d, ed, _⟩ := t_bdig (b := ⟨0, 1, Vec.rep 32 0, Vec.rep 32 0, Vec.rep 32 0, []⟩) ⟨Nat.zero_le _, fun q hq => by cases hq⟩
  rw [ed]
  simp only [Option.bind_some]
  obtain ⟨sg, es, _⟩ := t_signs ⟨2, 0, 1, 0, d, 1, ⟨0, ⟨[], []⟩, []⟩⟩
  rw [es]
  simp only [Option.bind_some]
  have hs : M_keys_Tree_Sign ⟨seed, 0, [sha [[0], (pub seed 0).l]]⟩ 0 sg = some (⟨0, osign seed 0 sg, []⟩, 0) := by
    unfold M_keys_Tree_Sign
    rw [path_one]
    simp only [Option.bind_some]
    rw [if_pos trivial, osign_eq]
    rfl
  rw [hs]
  simp only [Option.bind_some]
  rw [make_yes (v := ⟨2, 0, 1, 0, d, 1, ⟨0, osign seed 0 sg, []⟩⟩) (by simp) (by simp [qn]) rfl]
  simp only [Option.bind_some]
  rw [if_pos trivial]
  have hy : M_cert_Check ⟨0, [⟨1, ⟨sha [[0], (pub seed 0).l], 0⟩⟩]⟩ ⟨0, 1, Vec.rep 32 0, Vec.rep 32 0, Vec.rep 32 0, []⟩ ⟨0, [⟨2, 0, 1, 0, d, 1, ⟨0, osign seed 0 sg, []⟩⟩]⟩ = some true := by
    refine ccheck_yes ⟨rfl, hbg, rfl, by simp [qn], d, ed, ⟨by simp, rfl, rfl, rfl, rfl, ?_⟩, trivial⟩
    exact right_one (sg := sg) rfl rfl rfl rfl es rfl
  have h1 : qn 1 = 1 := by simp [qn]
  show (M_cert_Check _ _ ⟨0, List.take (qn 1) _⟩).bind _ = _
  rw [h1]
  exact congrArg (fun z => Option.bind z fun x => some x) hy
end Go.Proofs.YtdebnncpclodcaaDoor.X
