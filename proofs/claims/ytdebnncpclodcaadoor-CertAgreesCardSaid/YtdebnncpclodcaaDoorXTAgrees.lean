/-
  Plain: what the functions compute always answers, and how. No condition beyond those that the lemmas name.
-/
import Derived.Test.YtdebnncpclodcaaDoorXTAlive
import Derived.Test.YtdebnncpclodcaaDoorXH12a
import Derived.Test.YtdebnncpclodcaaDoorXH12b
set_option linter.unusedSimpArgs false
set_option linter.unusedVariables false
set_option maxRecDepth 10000
namespace Go.Proofs.YtdebnncpclodcaaDoor.X
theorem t_find_mem (c : Config) (n : Int) : Tot (M_config_Find c n) fun r => r.2.2 = true → n ∈ c.Members.map (·.Id) := by
  unfold M_config_Find
  refine Tot.bind (Q := fun i : Int => i = -1 ∨ (0 ≤ i ∧ i < c.Members.length ∧ n ∈ c.Members.map (·.Id))) ?_ fun i hi => ?_
  · unfold M_slices_IndexFunc___api_Member_api_Member__147
    refine Tot.fold (fun _ _ => True) trivial (fun _ => rfl) (fun j s hj _ => ?_) (fun s _ => Tot.yes (.inl rfl))
    refine Tot.bind (Tot.get (Q := fun m => m ∈ c.Members) hj fun m hm => List.mem_of_getElem? hm) fun m hm => ?_
    refine Tot.bind (Q := fun b => b = true → m.Id = n) (Tot.yes (by simp)) fun y hy => ?_
    exact Tot.ite (fun h => Tot.map (Tot.yes (.inr ⟨by omega, by omega, List.mem_map.2 ⟨m, hm, hy h⟩⟩))) fun _ => Tot.yes trivial
  · refine Tot.ite (fun _ => Tot.yes (by simp)) fun h => ?_
    rcases hi with h1 | ⟨h1, h2, h3⟩
    · omega
    · exact Tot.bind (Tot.ix (Q := fun _ => True) (by omega) (by omega) fun _ _ => trivial) fun _ _ => Tot.yes fun _ => h3
theorem right_mem {c : Config} {v : Vote} (h : M_vote_Right c v = some true) : v.From ∈ c.Members.map (·.Id) := by
  unfold M_vote_Right at h
  obtain ⟨x, e, q⟩ := t_find_mem c v.From
  rw [e] at h
  simp only [Option.bind_some] at h
  by_cases hx : x.2.2 = true
  · exact q hx
  · rw [if_neg hx] at h
    cases h
theorem RunV.up {c : Config} {b : Block} {round : Int} {d : Dg} : ∀ {l : List Vote} {last : Int}, RunV c b round d last l → (∀ a ∈ l.map (·.From), last < a ∧ a ∈ c.Members.map (·.Id)) ∧ (l.map (·.From)).Nodup
  | [], _, _ => ⟨fun a h => by simp at h, by simp⟩
  | v :: l, last, h => by
    obtain ⟨h1, h2⟩ := RunV.up h.2
    have hv := h.1.1
    refine ⟨fun a ha => ?_, ?_⟩
    · simp only [List.map_cons, List.mem_cons] at ha
      rcases ha with rfl | ha
      · exact ⟨hv, right_mem h.1.2.2.2.2.2⟩
      · exact ⟨by have := (h1 a ha).1; omega, (h1 a ha).2⟩
    · rw [List.map_cons, List.nodup_cons]
      exact ⟨fun hm => by have := (h1 _ hm).1; omega, h2⟩
theorem nodup_len : ∀ {l m : List Int}, l.Nodup → (∀ a ∈ l, a ∈ m) → l.length ≤ m.length
  | [], _, _, _ => by simp
  | a :: l, m, h, k => by
    rw [List.nodup_cons] at h
    have hm := k a (by simp)
    have := nodup_len (l := l) (m := m.erase a) h.2 (fun b hb => (List.mem_erase_of_ne (fun e => by subst e; exact h.1 hb)).2 (k b (by simp [hb])))
    rw [List.length_erase_of_mem hm] at this
    have hp : 0 < m.length := List.length_pos_of_mem hm
    simp only [List.length_cons]
    omega
/-- How many votes of a list are of a member. -/
def cntF (f : Int) : List Vote → Nat
  | [] => 0
  | u :: l => (if u.From = f then 1 else 0) + cntF f l
theorem cntF_app (f : Int) : ∀ l m, cntF f (l ++ m) = cntF f l + cntF f m
  | [], m => by simp [cntF]
  | u :: l, m => by simp only [List.cons_append, cntF, cntF_app f l m]; omega
theorem cntF_le (f : Int) : ∀ l, cntF f l ≤ l.length
  | [] => by simp [cntF]
  | u :: l => by have := cntF_le f l; simp only [cntF, List.length_cons]; split <;> omega
theorem cntF_mem {f : Int} : ∀ {l : List Vote}, f ∈ l.map (·.From) → 1 ≤ cntF f l
  | u :: l, h => by
    simp only [List.map_cons, List.mem_cons] at h
    simp only [cntF]
    rcases h with rfl | h
    · simp
    · have := cntF_mem h; omega
def sumF (y : List Vote) : List Vote → Nat
  | [] => 0
  | v :: l => cntF v.From y + sumF y l
theorem sumF_app (y : List Vote) : ∀ l m, sumF y (l ++ m) = sumF y l + sumF y m
  | [], m => by simp [sumF]
  | u :: l, m => by simp only [List.cons_append, sumF, sumF_app y l m]; omega
theorem sumF_le (y : List Vote) : ∀ l, sumF y l ≤ l.length * y.length
  | [] => by simp [sumF]
  | u :: l => by have := sumF_le y l; have := cntF_le u.From y; simp only [sumF, List.length_cons, Nat.add_mul]; omega
/-- Those of one list that are not in the other. -/
def outF (B : List Int) : List Int → List Int
  | [] => []
  | a :: l => if a ∈ B then outF B l else a :: outF B l
theorem outF_mem {B : List Int} : ∀ {l : List Int} {a : Int}, a ∈ outF B l → a ∈ l ∧ a ∉ B
  | b :: l, a, h => by
    unfold outF at h
    split at h
    · have := outF_mem h; exact ⟨by simp [this.1], this.2⟩
    · rename_i hb
      simp only [List.mem_cons] at h
      rcases h with rfl | h
      · exact ⟨by simp, hb⟩
      · have := outF_mem h; exact ⟨by simp [this.1], this.2⟩
theorem outF_nodup {B : List Int} : ∀ {l : List Int}, l.Nodup → (outF B l).Nodup
  | [], h => by simp [outF]
  | b :: l, h => by
    rw [List.nodup_cons] at h
    unfold outF
    split
    · exact outF_nodup h.2
    · exact List.nodup_cons.2 ⟨fun hm => h.1 (outF_mem hm).1, outF_nodup h.2⟩
theorem sumF_out (y : List Vote) : ∀ l : List Vote, l.length ≤ sumF y l + (outF (y.map (·.From)) (l.map (·.From))).length
  | [] => by simp
  | v :: l => by
    have := sumF_out y l
    simp only [List.map_cons, List.length_cons, sumF]
    unfold outF
    split
    · rename_i h
      have := cntF_mem h
      omega
    · simp only [List.length_cons]; omega
theorem both_ge {c : Config} {ids A B : List Int} {x y : List Vote} (hA : (x.map (·.From)).Nodup) (hB : (y.map (·.From)).Nodup) (iA : ∀ a ∈ x.map (·.From), a ∈ ids) (iB : ∀ a ∈ y.map (·.From), a ∈ ids) : x.length + y.length ≤ sumF y x + ids.length := by
  have h1 := sumF_out y x
  have h2 : (outF (y.map (·.From)) (x.map (·.From)) ++ y.map (·.From)).Nodup := by
    rw [List.nodup_append]
    exact ⟨outF_nodup hA, hB, fun a ha b hb e => (outF_mem ha).2 (e ▸ hb)⟩
  have h3 := nodup_len (m := ids) h2 (fun a ha => by
    rw [List.mem_append] at ha
    rcases ha with ha | ha
    · exact iA a (outF_mem ha).1
    · exact iB a ha)
  rw [List.length_append, List.length_map] at h3
  omega
theorem weak_eq (c : Config) (h : c.Members.length ≤ 1000000) : M_config_Weak c = some (((c.Members.length - 1) / 3 + 1 : Nat) : Int) := by
  unfold M_config_Weak
  rw [faults_eq c h]
  simp only [Option.bind_some]
  rw [wI_of (by omega) (by omega)]
  rfl
theorem take_succ_app {α : Type} {l : List α} {j : Nat} {x : α} (h : l[j]? = some x) : l.take (j + 1) = l.take j ++ [x] := by
  rw [List.take_add_one, h]; rfl
/-- ████ CertAgrees, of the mirrors. -/
theorem law_12 (c : Config) (a : Block) (x : Cert) (b : Block) (y : Cert) : M_wapentakelaw14_CertAgrees c a x b y = some true := by
  have : Tot (M_wapentakelaw14_CertAgrees c a x b y) fun r => r = true := by
    unfold M_wapentakelaw14_CertAgrees
    rw [alive14]
    simp only [Option.bind_some]
    refine Tot.pos trivial ?_
    refine Tot.bind (t_great14 c a x) fun g1 hg1 => ?_
    refine Tot.ite (fun _ => Tot.yes rfl) fun hg1' => ?_
    refine Tot.bind (t_great14 c b y) fun g2 hg2 => ?_
    refine Tot.ite (fun _ => Tot.yes rfl) fun hg2' => ?_
    obtain ⟨hm, hx⟩ := hg1 (by simpa using hg1')
    obtain ⟨_, hy⟩ := hg2 (by simpa using hg2')
    refine Tot.ite (fun _ => Tot.yes rfl) fun _ => ?_
    refine Tot.ite (fun _ => Tot.yes rfl) fun _ => ?_
    refine Tot.bind (t_ccheck c a x) fun r1 hr1 => ?_
    refine Tot.ite (fun h1 => ?_) fun _ => Tot.yes rfl
    refine Tot.bind (t_ccheck c b y) fun r2 hr2 => ?_
    refine Tot.ite (fun h2 => ?_) fun _ => Tot.yes rfl
    obtain ⟨_, _, _, qx, d1, _, rx⟩ := hr1.1 h1
    obtain ⟨_, _, _, qy, d2, _, ry⟩ := hr2.1 h2
    obtain ⟨ux, nx⟩ := rx.up
    obtain ⟨uy, ny⟩ := ry.up
    have hb := both_ge (c := c) (A := []) (B := []) nx ny (fun a ha => (ux a ha).2) (fun a ha => (uy a ha).2)
    rw [List.length_map] at hb
    refine Tot.fold (fun j s => s = ((sumF y.Votes (x.Votes.take j) : Nat) : Int)) (by simp [sumF]) (fun _ => rfl) (fun j s hj hs => ?_) (fun s hs => ?_)
    · refine Tot.bind (Tot.get (Q := fun v => x.Votes[j]? = some v) hj fun _ h => h) fun v hv => ?_
      have hle : sumF y.Votes (x.Votes.take j) ≤ 12 * 12 := by
        have h1 := sumF_le y.Votes (x.Votes.take j)
        have h2 : (x.Votes.take j).length * y.Votes.length ≤ 12 * 12 := Nat.mul_le_mul (by simp; omega) hy
        omega
      refine Tot.fold' (fun i t => t = s + ((cntF v.From (y.Votes.take i) : Nat) : Int)) (fun _ => False) (by simp [cntF]) (fun i t hi ht => ?_) (fun t ht => ?_) (fun _ h => h.elim)
      · refine Tot.bind (Tot.get (Q := fun v => y.Votes[i]? = some v) hi fun _ h => h) fun u hu => ?_
        have hc := cntF_le v.From (y.Votes.take i)
        have hc2 : (y.Votes.take i).length ≤ 12 := by simp; omega
        have e := take_succ_app hu
        refine Tot.ite (fun h => Tot.yes ?_) fun h => Tot.yes ?_
        · show wI (t + 1) = _
          rw [wI_of (by omega) (by omega), e, cntF_app, ht]
          simp only [cntF, if_pos h]
          omega
        · show t = _
          rw [e, cntF_app, ht]
          simp only [cntF, if_neg h]
          omega
      · refine Tot.yes ?_
        show t = _
        have ht' : t = s + ((cntF v.From (y.Votes.take y.Votes.length) : Nat) : Int) := ht
        rw [List.take_length] at ht'
        rw [take_succ_app hv, sumF_app, ht', hs]
        simp only [sumF]
        omega
    · have hs' : s = ((sumF y.Votes (x.Votes.take x.Votes.length) : Nat) : Int) := hs
      rw [List.take_length] at hs'
      show Tot (Option.bind _ _) _
      rw [weak_eq c (by omega)]
      refine Tot.yes ?_
      rw [decide_eq_true_eq, hs']
      have : qn c.Members.length = (c.Members.length + (c.Members.length - 1) / 3) / 2 + 1 := rfl
      omega
  obtain ⟨r, e, rfl⟩ := this
  exact e
end Go.Proofs.YtdebnncpclodcaaDoor.X
