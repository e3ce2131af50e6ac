/-
  Plain: what the functions compute always answers, and how. No condition beyond those that the lemmas name.
-/
import Derived.Test.YtdebnncpclodcaaDoorXTAlive
import Derived.Test.YtdebnncpclodcaaDoorXH11a
import Derived.Test.YtdebnncpclodcaaDoorXH11b
set_option linter.unusedSimpArgs false
set_option linter.unusedVariables false
set_option maxRecDepth 10000
namespace Go.Proofs.YtdebnncpclodcaaDoor.X
theorem rfaults_few {n : Nat} (h : n ≤ 1000000) : M_wapentakeref08_Faults (n : Int) = some (((n - 1) / 3 : Nat) : Int) := by
  have : Tot (M_wapentakeref08_Faults (n : Int)) fun r => r = (((n - 1) / 3 : Nat) : Int) := by
    unfold M_wapentakeref08_Faults
    refine Tot.while (fun s : Int => 0 ≤ s ∧ s ≤ (((n - 1) / 3 : Nat) : Int)) (fun s => ((((n - 1) / 3 : Nat) : Int) - s).toNat) ⟨by simp, by omega⟩ fun s ⟨h1, h2⟩ => ?_
    rw [show wI (s + 1) = s + 1 from wI_of (by omega) (by omega), show wI ((3 : Int) * (s + 1)) = 3 * (s + 1) from wI_of (by omega) (by omega), show wI (3 * (s + 1) + 1) = 3 * (s + 1) + 1 from wI_of (by omega) (by omega)]
    refine Tot.ite (fun hc => Tot.yes ⟨⟨by omega, by omega⟩, by omega⟩) fun hc => Tot.map (Tot.yes ?_)
    show s = _
    omega
  obtain ⟨x, e, q⟩ := this
  rw [e, q]
theorem rquorum_few {n : Nat} (h : n ≤ 1000000) : M_wapentakeref08_Quorum (n : Int) = some ((qn n : Nat) : Int) := by
  have : Tot (M_wapentakeref08_Quorum (n : Int)) fun r => r = ((qn n : Nat) : Int) := by
    unfold M_wapentakeref08_Quorum qn
    refine Tot.while (fun s : Int => 0 ≤ s ∧ s ≤ (((n + (n - 1) / 3) / 2 + 1 : Nat) : Int)) (fun s => ((((n + (n - 1) / 3) / 2 + 1 : Nat) : Int) - s).toNat) ⟨by simp, by omega⟩ fun s ⟨h1, h2⟩ => ?_
    rw [rfaults_few h]
    simp only [Option.bind_some]
    rw [show wI ((n : Int) + (((n - 1) / 3 : Nat) : Int)) = ((n + (n - 1) / 3 : Nat) : Int) from by rw [wI_of (by omega) (by omega)]; omega, show wI ((2 : Int) * s) = 2 * s from wI_of (by omega) (by omega), show wI (s + 1) = s + 1 from wI_of (by omega) (by omega)]
    refine Tot.ite (fun hc => Tot.yes ⟨⟨by omega, by omega⟩, by omega⟩) fun hc => Tot.map (Tot.yes ?_)
    show s = _
    omega
  obtain ⟨x, e, q⟩ := this
  rw [e, q]
theorem u64_small {n : Nat} (h : n < 9223372036854775808) : (u64I (n : Int)).toNat = n := by
  unfold u64I
  rw [IntKind.wrap_u64, UInt64.toNat_ofNat']
  omega
theorem RunV.asc {c : Config} {b : Block} {round : Int} {d : Dg} : ∀ {l : List Vote} {last : Int}, RunV c b round d last l → (∀ v ∈ l, last < v.From) ∧ l.Pairwise (fun u v => u.From < v.From)
  | [], _, _ => ⟨fun a h => by simp at h, List.Pairwise.nil⟩
  | v :: l, last, h => by
    obtain ⟨h1, h2⟩ := RunV.asc h.2
    have hv := h.1.1
    refine ⟨fun a ha => ?_, List.pairwise_cons.2 ⟨h1, h2⟩⟩
    rcases List.mem_cons.1 ha with rfl | ha
    · exact hv
    · have := h1 a ha; omega
/-- A word that isn't right is found out. -/
theorem ccheck_no {c : Config} {b : Block} {x : Cert} (h : ¬ CertR c b x) : M_cert_Check c b x = some false := by
  obtain ⟨r, e, q⟩ := t_ccheck c b x
  cases r with
  | false => exact e
  | true => exact absurd (q.1 rfl) h
/-- ████ CertFew, of the mirrors. -/
theorem law_11 (c : Config) (b : Block) (x : Cert) (i : Int) : M_wapentakelaw14_CertFew c b x i = some true := by
  have : Tot (M_wapentakelaw14_CertFew c b x i) fun r => r = true := by
    unfold M_wapentakelaw14_CertFew
    rw [alive14]
    simp only [Option.bind_some]
    refine Tot.pos trivial ?_
    refine Tot.bind (t_great14 c b x) fun g1 hg1 => ?_
    refine Tot.ite (fun _ => Tot.yes rfl) fun hg1' => ?_
    obtain ⟨hm, hx⟩ := hg1 (by simpa using hg1')
    refine Tot.bind (t_ccheck c b x) fun r1 hr1 => ?_
    refine Tot.ite (fun h1 => ?_) fun _ => Tot.yes rfl
    obtain ⟨_, _, _, qx, d, _, rx⟩ := hr1.1 h1
    have hp := qn_pos c.Members.length
    obtain ⟨asc1, asc2⟩ := rx.asc
    rw [rquorum_few (by omega)]
    simp only [Option.bind_some]
    rw [show wI (((qn c.Members.length : Nat) : Int) - 1) = ((qn c.Members.length - 1 : Nat) : Int) from by rw [wI_of (by omega) (by omega)]; omega]
    refine Tot.bind (Q := fun l => l = x.Votes.take (qn c.Members.length - 1)) (Tot.cut (by omega) (by omega) (by omega) (by simp)) fun few hfew => ?_
    have hl := u64_small (n := x.Votes.length) (by omega)
    refine Tot.pos (fun h => by rw [h] at hl; simp at hl; omega) ?_
    have hmod : ((u64I i % u64I (x.Votes.length : Int)).toNat : Int) < x.Votes.length := by
      rw [UInt64.toNat_mod, hl]
      exact Int.ofNat_lt.2 (Nat.mod_lt _ (by omega))
    rw [show wI ((u64I i % u64I (x.Votes.length : Int)).toNat : Int) = ((u64I i % u64I (x.Votes.length : Int)).toNat : Int) from wI_of (by omega) (by omega)]
    refine Tot.bind (Q := fun l => ∃ v ∈ x.Votes, l = x.Votes ++ [v]) ?_ fun twice htw => ?_
    · refine Tot.bind (Tot.ix (Q := fun v => v ∈ x.Votes) (by omega) hmod fun v hv => List.mem_of_getElem? hv) fun v hv => ?_
      refine Tot.bind (Q := fun l => l = x.Votes) (Tot.app (by simp; omega) (by simp)) fun l1 hl1 => ?_
      refine Tot.bind (Q := fun l => l = x.Votes ++ [v]) (Tot.app (by rw [hl1]; simp; omega) (by rw [hl1])) fun l2 hl2 => ?_
      exact Tot.yes ⟨v, hv, hl2⟩
    · refine Tot.while (fun s : Int × List Vote => ∃ j : Nat, j ≤ x.Votes.length ∧ s.1 = (j : Int) - 1 ∧ s.2 = (x.Votes.drop j).reverse) (fun s => (s.1 + 1).toNat) ⟨x.Votes.length, Nat.le_refl _, wI_of (by omega) (by omega), by simp⟩ fun s ⟨j, hj, e1, e2⟩ => ?_
      refine Tot.ite (fun hc => ?_) (fun hc => ?_)
      · refine Tot.bind (Tot.ix (Q := fun v => x.Votes[j - 1]? = some v) hc (by omega) fun v hv => by rw [← hv]; congr 1; omega) fun v hv => ?_
        refine Tot.bind (Q := fun l => l = s.2 ++ [v]) (Tot.app (by rw [e2]; simp; omega) rfl) fun l hl => ?_
        rw [show wI (s.1 - 1) = s.1 - 1 from wI_of (by omega) (by omega)]
        refine Tot.yes ⟨⟨j - 1, by omega, by simp only []; omega, ?_⟩, by simp only []; omega⟩
        show l = _
        have hj1 : j - 1 < x.Votes.length := by omega
        rw [List.getElem?_eq_getElem hj1] at hv
        cases hv
        rw [List.drop_eq_getElem_cons hj1, List.reverse_cons, hl, e2, show j - 1 + 1 = j from by omega]
      · have hj0 : j = 0 := by omega
        subst hj0
        rw [List.drop_zero] at e2
        refine Tot.map ?_
        rw [ccheck_no (x := ⟨x.Round, few⟩) (fun h => by
          have := h.2.2.2.1
          simp only [hfew, List.length_take] at this
          omega)]
        simp only [Option.bind_some]
        refine Tot.neg (by simp) ?_
        rw [ccheck_no (x := ⟨x.Round, twice⟩) (fun h => by
          obtain ⟨v, hv, rfl⟩ := htw
          obtain ⟨d', _, hr⟩ := h.2.2.2.2
          have h2 := (RunV.asc hr).2
          have h3 := (List.pairwise_append.1 h2).2.2 v hv v (by simp)
          omega)]
        simp only [Option.bind_some]
        refine Tot.neg (by simp) ?_
        refine Tot.ite (fun _ => Tot.yes rfl) fun h1 => ?_
        rw [ccheck_no (x := ⟨x.Round, s.2⟩) (fun h => by
          obtain ⟨d', _, hr⟩ := h.2.2.2.2
          have h2 := (RunV.asc hr).2
          simp only [e2] at h2
          rw [List.pairwise_reverse] at h2
          match hv : x.Votes with
          | [] => rw [hv] at qx; simp at qx; omega
          | [v] => rw [hv] at h1; simp at h1
          | u :: v :: l =>
            rw [hv] at h2 asc2
            have g1 := (List.pairwise_cons.1 h2).1 v (by simp)
            have g2 := (List.pairwise_cons.1 asc2).1 v (by simp)
            omega)]
        exact Tot.yes rfl
  obtain ⟨r, e, rfl⟩ := this
  exact e
end Go.Proofs.YtdebnncpclodcaaDoor.X
