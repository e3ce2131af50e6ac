/-
  Plain: what the functions compute always answers, and how. No condition beyond those that the lemmas name.
-/
import Derived.Test.YtdebnncpclodcaaDoorXTChain
import Derived.Test.YtdebnncpclodcaaDoorXGe
set_option linter.unusedSimpArgs false
set_option linter.unusedVariables false
set_option maxRecDepth 10000
namespace Go.Proofs.YtdebnncpclodcaaDoor.X
def lastH : Int → List Link → Int
  | h, [] => h
  | _, a :: r => lastH a.Block.Height r
theorem lastH_get : ∀ {list : List Link} {h : Int} {x : Link}, list[list.length - 1]? = some x → lastH h list = x.Block.Height
  | [], h, x, k => by cases k
  | [a], h, x, k => by cases k; rfl
  | a :: b :: r, h, x, k => by
    have : (b :: r)[(b :: r).length - 1]? = some x := by simpa using k
    exact lastH_get (h := a.Block.Height) this
theorem chainF_app (l : Link) : ∀ {list : List Link} {i : Nat} {c c' : Config} {h : Int}, chainF i c h list = .inl c' → chainF i c h (list ++ [l]) = if stepE c' (lastH h list) l = 0 then .inl l.Config else .inr (i + list.length, stepE c' (lastH h list) l)
  | [], i, c, c', h, k => by
    cases k
    rfl
  | a :: r, i, c, c', h, k => by
    rw [List.cons_append]
    unfold chainF at k ⊢
    by_cases hs : stepE c h a = 0
    · rw [if_pos hs] at k ⊢
      rw [chainF_app l k, List.length_cons, show i + 1 + r.length = i + (r.length + 1) from by omega]
      rfl
    · rw [if_neg hs] at k; cases k
/-- What the law asks of a chain with one more link. -/
theorem grows_end {c c' : Config} {list : List Link} {l : Link} {height : Int} (hl : list.length ≤ 5) (egd : M_config_Good c = some true) (hf : chainF 0 c 0 list = .inl c') (hh : height = lastH 0 list) {n : Int} (hn : n = (list.length : Int)) :
    Tot ((((appI 200 ([] : List Link) list).bind fun x137 => ((appI 200 x137 [l]).bind fun x145 => ((M_chain_Check c x145).bind fun x150 => some (x150.2.1, x150.2.2, x150.1.Epoch, x150.1.Members))))).bind fun (x118 : Int × Int × Int × (List Member)) => ((M_chain_Step c' height l).bind fun x454 => (if x118.2.1 = x454 then (if x454 ≠ 0 then (if x118.1 = n then some true else (if x454 = 0 then (if x118.1 = (wI (n + 1)) then ((M_wapentakeref08_Same (⟨x118.2.2.1, x118.2.2.2⟩ : Config) l.Config).bind fun x472 => some x472) else some false) else some false)) else (if x454 = 0 then (if x118.1 = (wI (n + 1)) then ((M_wapentakeref08_Same (⟨x118.2.2.1, x118.2.2.2⟩ : Config) l.Config).bind fun x484 => some x484) else some false) else some false)) else some false))) fun r => r = true := by
  have a1 : appI 200 ([] : List Link) list = some list := by
    unfold appI
    rw [if_pos (by simp; omega)]
    rfl
  have a2 : appI 200 list [l] = some (list ++ [l]) := by
    unfold appI
    rw [if_pos (by simp; omega)]
  rw [a1]
  simp only [Option.bind_some]
  rw [a2]
  simp only [Option.bind_some]
  rw [check_good egd (by simp; omega)]
  simp only [Option.bind_some]
  rw [(stepE_eq c' height l).1]
  simp only [Option.bind_some]
  rw [chainF_app l hf, ← hh]
  have hw : wI (n + 1) = n + 1 := wI_of (by omega) (by omega)
  rw [hw]
  by_cases hs : stepE c' height l = 0
  · rw [if_pos hs]
    refine Tot.pos hs.symm ?_
    refine Tot.neg (by simpa using hs) ?_
    refine Tot.pos hs ?_
    refine Tot.pos (by simp; omega) ?_
    have := same08 l.Config
    exact ⟨true, congrArg (fun z => Option.bind z fun x => some x) this, rfl⟩
  · rw [if_neg hs]
    refine Tot.pos rfl ?_
    refine Tot.pos hs ?_
    exact Tot.pos (by simp; omega) (Tot.yes rfl)
/-- ████ ChainGrows, of the mirrors. -/
theorem law_7 (c : Config) (list : List Link) (l : Link) : M_wapentakelaw15_ChainGrows c list l = some true := by
  have : Tot (M_wapentakelaw15_ChainGrows c list l) fun r => r = true := by
    unfold M_wapentakelaw15_ChainGrows
    rw [alive15]
    simp only [Option.bind_some]
    refine Tot.pos trivial ?_
    refine Tot.bind (t_great15 c list) fun g _ => ?_
    refine Tot.ite (fun _ => Tot.yes rfl) fun _ => ?_
    refine Tot.bind (t_great15 c [l]) fun g _ => ?_
    refine Tot.ite (fun _ => Tot.yes rfl) fun _ => ?_
    refine Tot.ite (fun _ => Tot.yes rfl) fun h5 => ?_
    obtain ⟨gd, egd, _⟩ := t_cgood c
    cases gd with
    | false =>
      rw [check_bad egd]
      simp only [Option.bind_some]
      exact Tot.pos (by simp) (Tot.yes rfl)
    | true =>
      rw [check_good egd (by omega)]
      simp only [Option.bind_some]
      cases hf : chainF 0 c 0 list with
      | inr r =>
        obtain ⟨n, e⟩ := r
        exact Tot.pos (chainF_err hf).1 (Tot.yes rfl)
      | inl c' =>
        refine Tot.neg (by simp) ?_
        refine Tot.ite (fun h0 => ?_) fun h0 => ?_
        · have h0' : (0 : Int) < (list.length : Int) := h0
          have hw : wI ((list.length : Int) - 1) = (list.length : Int) - 1 := wI_of (by omega) (by omega)
          refine Tot.bind (Q := fun x => list[list.length - 1]? = some x) ?_ fun x hx => ?_
          · show Tot (ixI list (wI ((list.length : Int) - 1))) _
            rw [hw]
            exact Tot.ix (by omega) (by omega) fun x hx => by rw [← hx]; congr 1; omega
          · exact grows_end (by omega) egd hf (lastH_get hx).symm rfl
        · have h0' : ¬ (0 : Int) < (list.length : Int) := h0
          have : list = [] := List.eq_nil_of_length_eq_zero (by omega)
          subst this
          exact grows_end (by omega) egd hf rfl rfl
  obtain ⟨r, e, rfl⟩ := this
  exact e
end Go.Proofs.YtdebnncpclodcaaDoor.X
