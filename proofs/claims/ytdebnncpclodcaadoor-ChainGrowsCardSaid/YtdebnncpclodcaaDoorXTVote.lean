/-
  Plain: what the functions compute always answers, and how. No condition beyond those that the lemmas name.
-/
import Derived.Test.YtdebnncpclodcaaDoorXTTree
import Derived.Test.YtdebnncpclodcaaDoorXGb
import Derived.Test.YtdebnncpclodcaaDoorXGa
import Derived.Test.YtdebnncpclodcaaDoorXGc
set_option linter.unusedSimpArgs false
set_option linter.unusedVariables false
set_option maxRecDepth 10000
namespace Go.Proofs.YtdebnncpclodcaaDoor.X
theorem t_num {w : Code_Writer} {l : List Int} (h : w.b_.length + 8 * l.length ≤ 140737488355328) : Tot (M_code_Writer_Num w l) (fun r => r.b_.length = w.b_.length + 8 * l.length) := by
  unfold M_code_Writer_Num
  refine Tot.fold (fun j s => s.length = w.b_.length + 8 * j) (by simp) (fun _ => rfl) (fun j s hj hs => ?_) (fun s hs => Tot.yes hs)
  refine Tot.bind (Tot.get (Q := fun _ => True) hj fun _ _ => trivial) fun x _ => ?_
  refine Tot.while (fun t : Int × List UInt8 => ∃ k : Nat, k ≤ 8 ∧ t.1 = 56 - 8 * k ∧ t.2.length = s.length + k) (fun t => (t.1 + 8).toNat) ⟨0, by omega, rfl, rfl⟩ fun t ⟨k, hk, h1, h2⟩ => ?_
  rw [show wI (t.1 - 8) = t.1 - 8 from wI_of (by omega) (by omega)]
  refine Tot.ite (fun hc => ?_) (fun hc => ?_)
  · refine Tot.pos hc ?_
    refine Tot.bind (Q := fun y => y.length = t.2.length + 1) (Tot.app (by simp; omega) (by simp)) fun y hy => ?_
    exact Tot.yes ⟨⟨k + 1, by omega, by simp only []; omega, by simp only []; omega⟩, by simp only []; omega⟩
  · refine Tot.map (Tot.yes ?_)
    show t.2.length = _
    omega
theorem t_text {w : Code_Writer} {l : List (List UInt8)} (hl : ∀ s ∈ l, s.length ≤ 4096) (h : w.b_.length + 4100 * l.length ≤ 140737488355328) : Tot (M_code_Writer_Text w l) (fun r => r.b_.length ≤ w.b_.length + 4100 * l.length) := by
  unfold M_code_Writer_Text
  refine Tot.fold (fun j s => s.length ≤ w.b_.length + 4100 * j) (by simp) (fun _ => rfl) (fun j s hj hs => ?_) (fun s hs => Tot.yes hs)
  refine Tot.bind (Tot.get (Q := fun x => x.length ≤ 4096) hj fun x hx => hl x (List.mem_of_getElem? hx)) fun x hx => ?_
  refine Tot.bind (Q := fun y => y.length = s.length + 4) (Tot.app (by simp; omega) (by simp)) fun y hy => ?_
  refine Tot.bind (Q := fun z => z.length = y.length + x.length) (Tot.app (by omega) (by simp)) fun z hz => ?_
  refine Tot.yes ?_
  show z.length ≤ _
  omega
theorem t_head {w : Code_Writer} {v : Vote} (h : w.b_.length ≤ 1000000) : Tot (M_vote_head w v) (fun r => r.b_.length ≤ 2000000) := by
  unfold M_vote_head
  refine Tot.bind (t_num (by simp; omega)) fun x hx => ?_
  simp at hx
  refine Tot.bind (t_wdig (by simp; omega)) fun y hy => Tot.yes ?_
  simp at hy; omega
theorem t_signs (v : Vote) : Tot (M_vote_Signs v) fun _ => True := by
  unfold M_vote_Signs
  refine Tot.bind (t_head (by simp)) fun x hx => ?_
  refine Tot.bind (t_bytes (by omega)) fun y _ => ?_
  rw [sha_eq]
  exact Tot.yes trivial
theorem t_find (c : Config) (n : Int) : Tot (M_config_Find c n) fun _ => True := by
  unfold M_config_Find
  refine Tot.bind (Q := fun i : Int => i = -1 ∨ (0 ≤ i ∧ i < c.Members.length)) ?_ fun i hi => ?_
  · unfold M_slices_IndexFunc___api_Member_api_Member__147
    refine Tot.fold (fun _ _ => True) trivial (fun _ => rfl) (fun j s hj _ => ?_) (fun s _ => Tot.yes (.inl rfl))
    refine Tot.bind (Tot.get (Q := fun _ => True) hj fun _ _ => trivial) fun x _ => ?_
    refine Tot.bind (Q := fun _ => True) (Tot.yes trivial) fun y _ => ?_
    refine Tot.ite (fun _ => Tot.map (Tot.yes (.inr ⟨by omega, by omega⟩))) fun _ => Tot.yes trivial
  · refine Tot.ite (fun _ => Tot.yes trivial) fun h => ?_
    refine Tot.bind (Tot.ix (Q := fun _ => True) (by omega) (by omega) fun _ _ => trivial) fun _ _ => Tot.yes trivial
theorem t_vgood (v : Vote) : Tot (M_vote_Good v) fun _ => True := by
  unfold M_vote_Good
  repeat (first | exact Tot.yes trivial | refine Tot.ite (fun _ => ?_) fun _ => Tot.yes trivial)
theorem t_right (c : Config) (v : Vote) : Tot (M_vote_Right c v) fun _ => True := by
  unfold M_vote_Right
  refine Tot.bind (t_find c _) fun x _ => ?_
  refine Tot.ite (fun _ => ?_) fun _ => Tot.yes trivial
  refine Tot.bind (t_vgood v) fun y _ => ?_
  refine Tot.ite (fun _ => ?_) fun _ => Tot.yes trivial
  refine Tot.ite (fun _ => ?_) fun _ => Tot.yes trivial
  refine Tot.bind (t_signs v) fun z _ => ?_
  exact Tot.bind (t_kcheck _ _ _) fun _ _ => Tot.yes trivial
theorem t_cright (m : Member) : Tot (M_config_right m) fun _ => True := by
  unfold M_config_right
  repeat (first | exact Tot.yes trivial | refine Tot.ite (fun _ => ?_) fun _ => Tot.yes trivial)
theorem t_cgood (c : Config) : Tot (M_config_Good c) fun r => r = true → 1 ≤ c.Members.length ∧ c.Members.length ≤ 10 := by
  unfold M_config_Good
  refine Tot.ite (fun _ => Tot.yes (by simp)) fun _ => ?_
  refine Tot.ite (fun _ => Tot.yes (by simp)) fun _ => ?_
  refine Tot.ite (fun _ => Tot.yes (by simp)) fun h1 => ?_
  refine Tot.ite (fun _ => Tot.yes (by simp)) fun h2 => ?_
  refine Tot.mono (Q := fun _ => True) ?_ fun _ _ _ => ⟨by omega, by omega⟩
  refine Tot.fold (fun _ _ => True) trivial (fun _ => rfl) (fun j s hj _ => ?_) (fun s _ => Tot.yes trivial)
  refine Tot.bind (Tot.get (Q := fun _ => True) hj fun _ _ => trivial) fun x _ => ?_
  refine Tot.bind (t_cright x) fun y _ => ?_
  refine Tot.ite (fun _ => ?_) fun _ => Tot.map (Tot.yes trivial)
  refine Tot.ite (fun h0 => ?_) fun _ => Tot.yes trivial
  rw [show wI ((j : Int) - 1) = (j : Int) - 1 from wI_of (by omega) (by omega)]
  refine Tot.bind (Tot.ix (Q := fun _ => True) (by omega) (by omega) fun _ _ => trivial) fun z _ => ?_
  exact Tot.ite (fun _ => Tot.map (Tot.yes trivial)) fun _ => Tot.yes trivial
/-- A request whose texts are short. -/
def Short (q : Request) : Prop := q.Op.Key.length ≤ 4096 ∧ q.Op.Val.length ≤ 4096 ∧ q.Op.Old.length ≤ 4096
theorem t_short (l : List (List UInt8)) : Tot (M_request_short l) fun r => r = true → ∀ s ∈ l, s.length ≤ 4096 := by
  unfold M_request_short
  refine Tot.fold (fun j _ => ∀ i s, i < j → l[i]? = some s → s.length ≤ 4096) (fun i s h => by omega) (fun _ => rfl) (fun j s hj hs => ?_) (fun s hs => Tot.yes fun _ s hm => ?_)
  · refine Tot.bind (Tot.get (Q := fun x => l[j]? = some x) hj fun _ h => h) fun x hx => ?_
    refine Tot.ite (fun _ => Tot.map (Tot.yes (fun h => by cases h))) fun h1 => Tot.yes ?_
    intro i s hi he
    by_cases hij : i = j
    · subst hij; rw [hx] at he; cases he; omega
    · exact hs i s (by omega) he
  · obtain ⟨i, hi, rfl⟩ := List.mem_iff_getElem.1 hm
    exact hs i _ hi (by simp)
theorem t_rgood (q : Request) : Tot (M_request_Good q) fun r => r = true → Short q := by
  unfold M_request_Good
  refine Tot.ite (fun _ => ?_) fun _ => Tot.yes (by simp)
  refine Tot.ite (fun _ => ?_) fun _ => Tot.yes (by simp)
  refine Tot.ite (fun _ => ?_) fun _ => Tot.yes (by simp)
  refine Tot.ite (fun _ => ?_) fun _ => Tot.yes (by simp)
  refine Tot.ite (fun _ => ?_) fun _ => Tot.yes (by simp)
  refine Tot.ite (fun _ => ?_) fun _ => Tot.yes (by simp)
  refine Tot.bind (t_short _) fun x hx => Tot.yes fun h => ?_
  have := hx h
  exact ⟨this _ (by simp), this _ (by simp), this _ (by simp)⟩
/-- A block whose requests are few and short. -/
def Few (b : Block) : Prop := b.Requests.length ≤ 40 ∧ ∀ q ∈ b.Requests, Short q
theorem t_bgood (b : Block) : Tot (M_block_Good b) fun r => r = true → Few b := by
  unfold M_block_Good
  refine Tot.ite (fun _ => Tot.yes (by simp)) fun _ => ?_
  refine Tot.ite (fun _ => Tot.yes (by simp)) fun _ => ?_
  refine Tot.ite (fun _ => Tot.yes (by simp)) fun _ => ?_
  refine Tot.ite (fun _ => Tot.yes (by simp)) fun _ => ?_
  refine Tot.ite (fun _ => Tot.yes (by simp)) fun h8 => ?_
  refine Tot.fold (fun j _ => ∀ i q, i < j → b.Requests[i]? = some q → Short q) (fun i s h => by omega) (fun _ => rfl) (fun j s hj hs => ?_) (fun s hs => Tot.yes fun _ => ⟨by omega, fun q hm => ?_⟩)
  · refine Tot.bind (Tot.get (Q := fun x => b.Requests[j]? = some x) hj fun _ h => h) fun x hx => ?_
    refine Tot.bind (t_rgood x) fun y hy => ?_
    refine Tot.ite (fun h1 => Tot.yes ?_) fun h1 => Tot.map (Tot.yes (fun h => by cases h))
    intro i s hi he
    by_cases hij : i = j
    · subst hij; rw [hx] at he; cases he; exact hy h1
    · exact hs i s (by omega) he
  · obtain ⟨i, hi, rfl⟩ := List.mem_iff_getElem.1 hm
    exact hs i _ hi (by simp)
theorem t_rwrite {w : Code_Writer} {q : Request} (hq : Short q) (h : w.b_.length ≤ 10000000) : Tot (M_request_Write w q) fun r => r.b_.length ≤ w.b_.length + 20000 := by
  unfold M_request_Write
  refine Tot.bind (t_num (by simp; omega)) fun x hx => ?_
  simp at hx
  refine Tot.bind (t_text (by
    intro s hs
    simp at hs
    obtain ⟨h1, h2, h3⟩ := hq
    rcases hs with rfl | rfl | rfl <;> assumption) (by simp; omega)) fun y hy => ?_
  simp at hy
  refine Tot.bind (t_num (by simp; omega)) fun z hz => ?_
  simp at hz
  refine Tot.bind (t_wdig (by simp; omega)) fun u hu => ?_
  simp at hu
  exact Tot.yes (by omega)
theorem t_bwrite {w : Code_Writer} {b : Block} (hb : Few b) (h : w.b_.length ≤ 1000000) : Tot (M_block_Write w b) fun r => r.b_.length ≤ 10000000 := by
  unfold M_block_Write
  refine Tot.bind (t_num (by simp; omega)) fun x hx => ?_
  simp at hx
  refine Tot.bind (t_wdig (by simp; omega)) fun y hy => ?_
  simp at hy
  refine Tot.bind (t_num (by simp; omega)) fun z hz => ?_
  simp at hz
  have h40 := hb.1
  refine Tot.fold (fun j s => s.length ≤ z.b_.length + 20000 * j) (by simp) (fun _ => rfl) (fun j s hj hs => ?_) (fun s hs => Tot.yes (by simp only []; omega))
  refine Tot.bind (Tot.get (Q := fun q => Short q) hj fun q hq => hb.2 q (List.mem_of_getElem? hq)) fun q hq => ?_
  refine Tot.bind (t_rwrite hq (by simp only []; omega)) fun u hu => ?_
  refine Tot.yes ?_
  have hu' : u.b_.length ≤ s.length + 20000 := hu
  have hs' : s.length ≤ z.b_.length + 20000 * j := hs
  show u.b_.length ≤ z.b_.length + 20000 * (j + 1)
  calc u.b_.length ≤ s.length + 20000 := hu'
    _ ≤ z.b_.length + 20000 * j + 20000 := Nat.add_le_add_right hs' _
    _ = z.b_.length + 20000 * (j + 1) := by rw [Nat.mul_add, Nat.mul_one, Nat.add_assoc]
theorem t_bdig {b : Block} (hb : Few b) : Tot (M_block_Digest b) fun _ => True := by
  unfold M_block_Digest
  have h1 := t_bwrite (w := ⟨[]⟩) hb (Nat.zero_le _)
  refine Tot.bind h1 fun x hx => ?_
  refine Tot.bind (t_bytes (by omega)) fun y _ => ?_
  rw [sha_eq]
  exact Tot.yes trivial
/-- The document's numbers. -/
def qn (n : Nat) : Nat := (n + (n - 1) / 3) / 2 + 1
theorem faults_eq (c : Config) (h : c.Members.length ≤ 1000000) : M_config_Faults c = some (((c.Members.length - 1) / 3 : Nat) : Int) := by
  unfold M_config_Faults
  generalize c.Members.length = n at h
  rw [show wI ((n : Int) - 1) = (n : Int) - 1 from wI_of (by omega) (by omega)]
  have : (if (0 : Int) > (n : Int) - 1 then 0 else (n : Int) - 1) = ((n - 1 : Nat) : Int) := by
    split <;> omega
  rw [this]
  have e : Int.tdiv ((n - 1 : Nat) : Int) 3 = (((n - 1) / 3 : Nat) : Int) := rfl
  rw [e, wI_of (by omega) (by omega)]
theorem quorum_eq (c : Config) (h : c.Members.length ≤ 1000000) : M_config_Quorum c = some ((qn c.Members.length : Nat) : Int) := by
  unfold M_config_Quorum
  rw [faults_eq c h]
  simp only [Option.bind_some]
  unfold qn
  generalize c.Members.length = n at h
  rw [show wI ((n : Int) + (((n - 1) / 3 : Nat) : Int)) = ((n + (n - 1) / 3 : Nat) : Int) from by rw [wI_of (by omega) (by omega)]; omega]
  have e : Int.tdiv ((n + (n - 1) / 3 : Nat) : Int) 2 = (((n + (n - 1) / 3) / 2 : Nat) : Int) := rfl
  rw [e, show wI (((n + (n - 1) / 3) / 2 : Nat) : Int) = (((n + (n - 1) / 3) / 2 : Nat) : Int) from wI_of (by omega) (by omega), wI_of (by omega) (by omega)]
  rfl
end Go.Proofs.YtdebnncpclodcaaDoor.X
