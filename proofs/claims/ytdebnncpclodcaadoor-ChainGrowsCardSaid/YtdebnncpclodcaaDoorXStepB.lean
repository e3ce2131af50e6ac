/-
  Operations, regions, calls and loops over one invariant of memory. No condition beyond those that the lemmas name.
-/
import Derived.Test.YtdebnncpclodcaaDoorXStep
set_option linter.unusedSimpArgs false
set_option linter.unusedVariables false
namespace Go.Proofs.YtdebnncpclodcaaDoor.X
open Go.RowKit

theorem Sl.flat {α : Type} {t : Ty α} {H : Hp} {s : Sv} {xs : List α} (h : Sl t H s xs) : ∃ css : List (List Value), css.length = xs.length ∧ (∀ c ∈ css, c.length = t.sz) ∧ Ones css.flatten ∧ (∀ (i : Nat) (x : α), xs[i]? = some x → ∃ cs, css[i]? = some cs ∧ t.enc H cs x) ∧
    ∀ a, s.a = some a → (xs = [] ∨ a.spot = none) ∧ ∀ i cs k v, css[i]? = some cs → cs[k]? = some v → H a.block (a.off + (i * t.sz + k)) = some v := by
  have key : ∀ i (hi : i < xs.length), ∃ cs, t.enc H cs xs[i] ∧ ∀ a, s.a = some a → a.spot = none ∧ ∀ k v, cs[k]? = some v → H a.block (a.off + (i * t.sz + k)) = some v := by
    intro i hi
    obtain ⟨b, off, cs, h1, h2, h3⟩ := h.el i xs[i] (List.getElem?_eq_getElem hi)
    refine ⟨cs, h2, fun a ha => ?_⟩
    rw [h1] at ha; cases ha
    exact ⟨rfl, fun k v hk => by have := h3 k v hk; rwa [Nat.add_assoc] at this⟩
  let css := (List.finRange xs.length).map fun i => Classical.choose (key i.1 i.2)
  have hg : ∀ i (hi : i < xs.length), css[i]? = some (Classical.choose (key i hi)) := by
    intro i hi
    simp [css, hi]
  refine ⟨css, by simp [css], ?_, ?_, ?_, ?_⟩
  · intro c hc
    obtain ⟨i, _, rfl⟩ := List.mem_map.1 hc
    exact t.len (Classical.choose_spec (key i.1 i.2)).1
  · intro v hv
    obtain ⟨c, hc, hv⟩ := List.mem_flatten.1 hv
    obtain ⟨i, _, rfl⟩ := List.mem_map.1 hc
    exact t.one (Classical.choose_spec (key i.1 i.2)).1 v hv
  · intro i x hi
    obtain ⟨hl, rfl⟩ := List.getElem?_eq_some_iff.1 hi
    exact ⟨_, hg i hl, (Classical.choose_spec (key i hl)).1⟩
  · intro a ha
    refine ⟨?_, ?_⟩
    · cases hx : xs with
      | nil => exact .inl rfl
      | cons x l =>
        have hl : 0 < xs.length := by rw [hx]; simp
        exact .inr ((Classical.choose_spec (key 0 hl)).2 a ha).1
    · intro i cs k v hc hk
      have hl : i < xs.length := by
        have := (List.getElem?_eq_some_iff.1 hc).1
        simpa [css] using this
      rw [hg i hl] at hc; cases hc
      exact ((Classical.choose_spec (key i hl)).2 a ha).2 k v hk
theorem flatten_len {sz : Nat} : ∀ {css : List (List Value)}, (∀ cs ∈ css, cs.length = sz) → css.flatten.length = css.length * sz
  | [], _ => by simp
  | c :: l, h => by simp only [List.flatten_cons, List.length_append, h c (by simp), List.length_cons, flatten_len (css := l) (fun cs hc => h cs (by simp [hc])), Nat.add_mul]; omega
/-- Where a cell of the whole lies. -/
theorem flatten_at {sz : Nat} (hz : 0 < sz) : ∀ {css : List (List Value)}, (∀ cs ∈ css, cs.length = sz) → ∀ {j : Nat} {v : Value}, css.flatten[j]? = some v → ∃ cs, css[j / sz]? = some cs ∧ cs[j % sz]? = some v
  | [], _, j, v, h => by simp at h
  | c :: l, hs, j, v, h => by
    have hc := hs c (by simp)
    rw [List.flatten_cons, List.getElem?_append] at h
    by_cases hj : j < sz
    · rw [if_pos (by omega)] at h
      refine ⟨c, by rw [Nat.div_eq_of_lt hj]; rfl, by rw [Nat.mod_eq_of_lt hj]; exact h⟩
    · rw [if_neg (by omega), hc] at h
      obtain ⟨cs, h1, h2⟩ := flatten_at hz (css := l) (fun cs hc => hs cs (by simp [hc])) h
      have e1 : j / sz = (j - sz) / sz + 1 := by rw [Nat.div_eq_sub_div hz (by omega)]
      have e2 : j % sz = (j - sz) % sz := by rw [Nat.mod_eq_sub_mod (by omega)]
      exact ⟨cs, by rw [e1]; simpa using h1, by rw [e2]; exact h2⟩

section
variable {P : Program} {ops : Array Oper} {rest : List Oper} {o : Oper} {Q : Exit → Act → World → Prop} {ρ : Nat → Value} {n : Nat} {w w1 : World} {v : Value} {d : Nat} {B : Base} {H : Hp} {L : List Ent}

/-- What a slice that is known reads as, for an append, a copy. -/
theorem Sl.src {α : Type} {t : Ty α} {s : Sv} {xs : List α} (h : Sl t H s xs) (hz : 0 < t.sz) (hG : Good w H L) : ∃ css : List (List Value), (∀ c ∈ css, c.length = t.sz) ∧ css.length = xs.length ∧ (∀ (i : Nat) (x : α), xs[i]? = some x → ∃ cs, css[i]? = some cs ∧ t.enc H cs x) ∧ Ones css.flatten ∧
    css.flatten.length = s.n * t.sz ∧ (s.a = none → css = []) ∧ (∀ a, s.a = some a → ∀ j u, css.flatten[j]? = some u → w.cell? (a.add j) = some u) ∧ ∀ a, s.a = some a → ∀ j u, css.flatten[j]? = some u → H a.block (a.off + j) = some u := by
  obtain ⟨css, h1, h2, h3, h4, h5⟩ := h.flat
  refine ⟨css, h2, h1, h4, h3, by rw [flatten_len h2, h1, h.n], ?_, ?_, ?_⟩
  · intro hn
    cases hx : xs with
    | nil => rw [hx] at h1; exact List.eq_nil_of_length_eq_zero (by simpa using h1)
    | cons x l =>
      obtain ⟨b, off, cs, h6, _⟩ := h.el 0 x (by rw [hx]; rfl)
      rw [h6] at hn; cases hn
  · intro a ha j u hj
    obtain ⟨h6, h7⟩ := h5 a ha
    obtain ⟨cs, h8, h9⟩ := flatten_at hz h2 hj
    have h10 := h7 _ _ _ _ h8 h9
    have hsp : a.spot = none := by
      rcases h6 with h6 | h6
      · rw [h6] at h1
        have : css = [] := List.eq_nil_of_length_eq_zero (by simpa using h1)
        rw [this] at hj; simp at hj
      · exact h6
    have hd : j / t.sz * t.sz + j % t.sz = j := by rw [Nat.mul_comm]; exact Nat.div_add_mod j t.sz
    rw [hd] at h10
    obtain ⟨b, off, sp⟩ := a
    simp only at hsp; subst hsp
    rw [add_at]
    exact hG.cell _ _ _ h10
  · intro a ha j u hj
    obtain ⟨h6, h7⟩ := h5 a ha
    obtain ⟨cs, h8, h9⟩ := flatten_at hz h2 hj
    have h10 := h7 _ _ _ _ h8 h9
    have hd : j / t.sz * t.sz + j % t.sz = j := by rw [Nat.mul_comm]; exact Nat.div_add_mod j t.sz
    rwa [hd] at h10
/-- append, whatever its source. -/
theorem app_core {α : Type} {t : Ty α} {e m : Nat} {s : Sv} {xs ys : List α} {g : Option Nat} {rf : Sem Value} {inf : TypeInfo} {z : Value} {cxs cys : List (List Value)} (hI : Inv B w H L) (i : Nat) (hL : L[i]? = some (.own s e t.sz g))
    (hsz : inf.size = t.sz) (hzs : z.cells.size = t.sz) (h0' : 0 < t.sz) (hs : Sl t H s xs) (hym : 0 < m) (hun : m = ys.length) (hn47 : xs.length + ys.length ≤ 140737488355328)
    (y1 : ∀ c ∈ cys, c.length = t.sz) (y2 : cys.length = ys.length) (y3 : ∀ (i : Nat) (x : α), ys[i]? = some x → ∃ cs, cys[i]? = some cs ∧ t.enc H cs x) (y4 : Ones cys.flatten) (y5 : cys.flatten.length = m * t.sz)
    (x1 : ∀ c ∈ cxs, c.length = t.sz) (x2 : cxs.length = xs.length) (x3 : ∀ (i : Nat) (x : α), xs[i]? = some x → ∃ cs, cxs[i]? = some cs ∧ t.enc H cs x) (x5 : cxs.flatten.length = s.n * t.sz) (x6 : s.a = none → cxs = [])
    (x8 : ∀ a, s.a = some a → ∀ j u, cxs.flatten[j]? = some u → H a.block (a.off + j) = some u)
    (hgrow : s.c < s.n + m → rf.run P w = .ok (.slice (some ⟨w.heap.size, 0, none⟩) (s.n + m) (grownCap w (s.n + m) s.c e)) (w.drew.alloc (.cells (cxs.flatten.toArray ++ cys.flatten.toArray ++ Builtin.zeroCells z.cells (grownCap w (s.n + m) s.c e - (s.n + m))) e (0, 0))))
    (hroomr : ∀ (g' : Nat) (cur : Array Value), g = some g' → s.a = some ⟨g', 0, none⟩ → w.heap[g']? = some (.cells cur e (0, 0)) → s.n + m ≤ s.c → s.n * t.sz + cys.flatten.length ≤ cur.size → rf.run P w = .ok (.slice (some ⟨g', 0, none⟩) (s.n + m) s.c) (w.setRow g' (cur.toList.take (s.n * t.sz) ++ cys.flatten ++ cur.toList.drop (s.n * t.sz + cys.flatten.length)).toArray)) :
    ∃ v w1, (∃ s1 H1 g1, v = s1.v ∧ Inv B w1 H1 (L.set i (.own s1 e t.sz g1)) ∧ Hle H H1 ∧ Sl t H1 s1 (xs ++ ys)) ∧ rf.run P w = .ok v w1 := by
    have hok := hI.good.ok _ (List.mem_of_getElem? hL)
    have hsn := hs.n
    have hfl : (cxs ++ cys).flatten.length = (s.n + m) * t.sz := by rw [List.flatten_append, List.length_append, x5, y5, Nat.add_mul]
    have hall : ∀ c ∈ cxs ++ cys, c.length = t.sz := fun c hc => (List.mem_append.1 hc).elim (x1 c) (y1 c)
    have hsl : ∀ (H1 : Hp) (b c : Nat), Hle H H1 → s.n + m ≤ c → (∀ j v, (cxs ++ cys).flatten[j]? = some v → H1 b j = some v) → Sl t H1 ⟨some ⟨b, 0, none⟩, s.n + m, c⟩ (xs ++ ys) := by
      intro H1 b c hle hc hH
      refine ⟨by simp [hsn, hun], hc, by simp only []; omega, fun j x hj => ?_⟩
      have : ∃ cs, (cxs ++ cys)[j]? = some cs ∧ t.enc H cs x := by
        rw [List.getElem?_append] at hj ⊢
        rw [x2]
        split at hj
        · rename_i h; rw [if_pos h]; exact x3 j x hj
        · rename_i h; rw [if_neg h]; exact y3 _ x hj
      obtain ⟨cs, h1, h2⟩ := this
      refine ⟨b, 0, cs, rfl, t.mono hle h2, fun k v hk => ?_⟩
      rw [Nat.zero_add]
      exact hH _ _ (flat_get hall h1 hk)
    have grown : s.c < s.n + m → ∃ v w1, (∃ s1 H1 g1, v = s1.v ∧ Inv B w1 H1 (L.set i (.own s1 e t.sz g1)) ∧ Hle H H1 ∧ Sl t H1 s1 (xs ++ ys)) ∧ rf.run P w = .ok v w1 := by
      intro hlt
      let cap := grownCap w (s.n + m) s.c e
      let ob : Obj := .cells (cxs.flatten.toArray ++ cys.flatten.toArray ++ Builtin.zeroCells z.cells (cap - (s.n + m))) e (0, 0)
      let w1 := w.drew.alloc ob
      have hge : s.n + m ≤ cap := grownCap_ge w (s.n + m) s.c e
      have hrun : rf.run P w = .ok (.slice (some ⟨w.heap.size, 0, none⟩) (s.n + m) cap) w1 := by
        exact hgrow hlt
      have hag : Ag M0 w w1 := ⟨rfl, rfl, rfl, by simp [w1], fun k hk _ => heap_alloc_old w.drew _ hk⟩
      have hnone : ∀ i, H w.heap.size i = none := hI.good.new (Nat.le_refl _)
      have hob : w1.heap[w.heap.size]? = some ob := heap_alloc_new w.drew ob
      have hH1 : ∀ j v, (cxs ++ cys).flatten[j]? = some v → Hadd H w.heap.size (cxs ++ cys).flatten w.heap.size j = some v := fun j v hj => by rw [Hadd_at hnone]; exact hj
      have hcell : ∀ b j v, Hadd H w.heap.size (cxs ++ cys).flatten b j = some v → w1.cell? ⟨b, j, none⟩ = some v := by
        intro b j v hv
        by_cases hb : b = w.heap.size
        · subst hb
          rw [Hadd_at hnone] at hv
          have hjl := (List.getElem?_eq_some_iff.1 hv).1
          unfold World.cell?
          simp only [hob, ob]
          have e1 : (cxs.flatten.toArray ++ cys.flatten.toArray ++ Builtin.zeroCells z.cells (cap - (s.n + m))) = ((cxs ++ cys).flatten ++ (Builtin.zeroCells z.cells (cap - (s.n + m))).toList).toArray := by
            apply Array.ext'
            rw [List.flatten_append]
            simp only [Array.toList_append, List.toList_toArray]
          rw [e1]
          simp only [Option.isSome_none, Bool.false_eq_true, if_false, List.getElem?_toArray]
          rw [List.getElem?_append_left hjl]; exact hv
        · rw [Hadd_ne hb] at hv
          exact cell_keep hag (fun h => h) (hI.good.cell b j v hv)
      have hokx : Ent.Ok w1 (Hadd H w.heap.size (cxs ++ cys).flatten) (.own ⟨some ⟨w.heap.size, 0, none⟩, s.n + m, cap⟩ e t.sz (some w.heap.size)) := by
        refine ⟨rfl, hge, ⟨_, hob, ?_⟩, fun j hj => ?_⟩
        · simp only [Array.size_append, List.size_toArray, x5, y5, size_zeroCells, hzs]
          rw [← Nat.add_mul, ← Nat.add_mul]
          congr 1; omega
        · rw [Hadd_at hnone]
          exact List.getElem?_eq_none (by rw [hfl]; exact hj)
      refine ⟨_, w1, ⟨⟨some ⟨w.heap.size, 0, none⟩, s.n + m, cap⟩, Hadd H w.heap.size (cxs ++ cys).flatten, some w.heap.size, rfl, ⟨⟨hcell, ?_, ?_⟩, ?_, ?_⟩, Hadd_le _ _ _, hsl _ _ _ (Hadd_le _ _ _) hge hH1⟩, hrun⟩
      · intro e' he'
        rcases set_mem hI.good.nd hL he' with rfl | ⟨h1, _⟩
        · exact hokx
        · refine (hI.good.ok e' h1).keep (fun b hb' => ⟨hag.keep b ((hI.good.ok e' h1).lt hb') (fun h => h), fun j => Hadd_ne ?_ j⟩)
          have := (hI.good.ok e' h1).lt hb'
          omega
      · have hp := perm_bring (L.set i (.own ⟨some ⟨w.heap.size, 0, none⟩, s.n + m, cap⟩ e t.sz (some w.heap.size))) i (.own ⟨some ⟨w.heap.size, 0, none⟩, s.n + m, cap⟩ e t.sz (some w.heap.size)) (by have := (List.getElem?_eq_some_iff.1 hL).1; simp [this])
        refine ((hp.filterMap Ent.blk).nodup_iff).1 ?_
        rw [List.eraseIdx_set_eq]
        simp only [List.filterMap_cons, Ent.blk]
        rw [List.nodup_cons]
        refine ⟨fun hmem => ?_, (hI.erase i).good.nd⟩
        obtain ⟨e', he', hb'⟩ := List.mem_filterMap.1 hmem
        have := ((hI.erase i).good.ok e' he').lt hb'
        omega
      · exact hI.ext.step (M' := M0) ⟨hag, Hadd_le _ _ _, fun b j hb _ => Hadd_ne (by omega) j⟩ (fun _ _ h => h.elim)
      · intro e' he' b hb'
        rcases set_mem hI.good.nd hL he' with rfl | ⟨h1, _⟩
        · cases hb'
          exact .inr hI.ext.ag.size
        · exact hI.loc e' h1 b hb'
    by_cases hroom : s.n + m ≤ s.c
    · cases g with
      | none => have := hok; simp only [Ent.Ok] at this; omega
      | some g =>
        obtain ⟨o1, o2, ⟨cur, o3, o4⟩, o5⟩ := hok
        have hfit : s.n * inf.size + cys.flatten.length ≤ cur.size := by rw [hsz, y5, ← Nat.add_mul, o4]; exact Nat.mul_le_mul_right _ hroom
        have hr' : rf.run P w = .ok (.slice (some ⟨g, 0, none⟩) (s.n + m) s.c) (w.setRow g (cur.toList.take (s.n * t.sz) ++ cys.flatten ++ cur.toList.drop (s.n * t.sz + cys.flatten.length)).toArray) := by
          exact hroomr g cur rfl o1 o3 hroom (by rw [← hsz]; exact hfit)
        have hsr := setRow_blk (w := w) (g := g) (cs := cur.toList) (T := e) (by unfold Blk; simpa using o3) (cur.toList.take (s.n * t.sz) ++ cys.flatten ++ cur.toList.drop (s.n * t.sz + cys.flatten.length))
        have hcurl : cur.toList.length = s.c * t.sz := by simpa using o4
        have hle1 : s.n * t.sz ≤ s.c * t.sz := Nat.mul_le_mul_right _ o2
        have hle2 : s.n * t.sz + m * t.sz ≤ s.c * t.sz := by rw [← Nat.add_mul]; exact Nat.mul_le_mul_right _ hroom
        have hH1 : ∀ j v, (cxs ++ cys).flatten[j]? = some v → Hadd H g (cxs ++ cys).flatten g j = some v := by
          intro j v hj
          unfold Hadd
          rw [if_pos rfl]
          by_cases hjn : j < s.n * t.sz
          · have h1 : cxs.flatten[j]? = some v := by
              rw [List.flatten_append, List.getElem?_append_left (by omega)] at hj; exact hj
            have h2 := x8 _ o1 j v h1
            simp only [Nat.zero_add] at h2
            rw [h2]
          · rw [o5 j (by omega)]; exact hj
        have hcell : ∀ b j v, Hadd H g (cxs ++ cys).flatten b j = some v → (w.setRow g (cur.toList.take (s.n * t.sz) ++ cys.flatten ++ cur.toList.drop (s.n * t.sz + cys.flatten.length)).toArray).cell? ⟨b, j, none⟩ = some v := by
          intro b j v hv
          by_cases hb : b = g
          · subst hb
            rw [hsr.blk.cell]
            by_cases hjn : j < s.n * t.sz
            · have h3 : cur.toList[j]? = some v := by
                have hx1 : ∃ u, cxs.flatten[j]? = some u := ⟨_, List.getElem?_eq_getElem (by omega)⟩
                obtain ⟨u', hu'⟩ := hx1
                have h2 := x8 _ o1 j u' hu'
                simp only [Nat.zero_add] at h2
                unfold Hadd at hv
                rw [if_pos rfl, h2] at hv
                cases hv
                have := hI.good.cell _ _ _ h2
                simp [World.cell?, o3] at this
                simpa using this
              rw [List.append_assoc, List.getElem?_append_left (by rw [List.length_take]; omega), List.getElem?_take, if_pos hjn]
              exact h3
            · have h3 : (cxs ++ cys).flatten[j]? = some v := by
                unfold Hadd at hv
                rw [if_pos rfl, o5 j (by omega)] at hv
                exact hv
              have hjl := (List.getElem?_eq_some_iff.1 h3).1
              rw [hfl, Nat.add_mul] at hjl
              rw [List.flatten_append, List.getElem?_append_right (by omega)] at h3
              rw [List.append_assoc, List.getElem?_append_right (by rw [List.length_take]; omega), List.length_take, hcurl, Nat.min_eq_left hle1, List.getElem?_append_left (by omega)]
              rw [x5] at h3; exact h3
          · rw [Hadd_ne hb] at hv
            exact cell_keep hsr.ag (fun h => hb h) (hI.good.cell b j v hv)
        have hokx : Ent.Ok (w.setRow g (cur.toList.take (s.n * t.sz) ++ cys.flatten ++ cur.toList.drop (s.n * t.sz + cys.flatten.length)).toArray) (Hadd H g (cxs ++ cys).flatten) (.own ⟨some ⟨g, 0, none⟩, s.n + m, s.c⟩ e t.sz (some g)) := by
          refine ⟨rfl, hroom, ⟨_, hsr.blk, ?_⟩, fun j hj => ?_⟩
          · simp only [List.size_toArray, List.length_append, List.length_take, List.length_drop, hcurl, y5]
            omega
          · simp only [Nat.add_mul] at hj
            unfold Hadd
            rw [if_pos rfl, o5 j (by omega)]
            exact List.getElem?_eq_none (by rw [hfl, Nat.add_mul]; exact hj)
        refine ⟨_, _, ⟨⟨some ⟨g, 0, none⟩, s.n + m, s.c⟩, Hadd H g (cxs ++ cys).flatten, some g, rfl, ⟨⟨hcell, ?_, ?_⟩, ?_, ?_⟩, Hadd_le _ _ _, hsl _ _ _ (Hadd_le _ _ _) hroom hH1⟩, hr'⟩
        · intro e' he'
          rcases set_mem hI.good.nd hL he' with rfl | ⟨h1, h2⟩
          · exact hokx
          · refine (hI.good.ok e' h1).keep (fun b hb' => ?_)
            have hbg : b ≠ g := fun h => h2 b hb' (by rw [h]; rfl)
            exact ⟨hsr.ag.keep b ((hI.good.ok e' h1).lt hb') hbg, fun j => Hadd_ne hbg j⟩
        · rw [nodup_set (y := .own ⟨some ⟨g, 0, none⟩, s.n + m, s.c⟩ e t.sz (some g)) hL rfl]; exact hI.good.nd
        · have hM : B.M g ∨ B.w.heap.size ≤ g := hI.loc _ (List.mem_of_getElem? hL) g rfl
          refine ⟨hI.ext.ag.step hsr.ag ?_, hI.ext.le.trans (Hadd_le _ _ _), ?_⟩
          · intro k hk hkg
            subst hkg
            rcases hM with h1 | h1
            · exact h1
            · omega
          · intro b j hb hn
            rw [Hadd_ne, hI.ext.new b j hb hn]
            rintro rfl
            rcases hM with h1 | h1
            · exact hn h1
            · omega
        · intro e' he' b hb'
          rcases set_mem hI.good.nd hL he' with rfl | ⟨h1, _⟩
          · cases hb'
            exact hI.loc _ (List.mem_of_getElem? hL) g rfl
          · exact hI.loc e' h1 b hb'
    · exact grown (by omega)
/-- append: the slice that is appended to is the call's own, or full. -/
theorem l_app {α : Type} {t : Ty α} {T e bytes : Nat} {x y : Operand} {s u : Sv} {xs ys : List α} {g : Option Nat} (hI : Inv B w H L) (i : Nat) (hL : L[i]? = some (.own s e t.sz g))
    (ho : o.op = .call { callee := .builtin .append, args := #[x, y], argTypes := #[T, T] }) (hT : sliceB P T e t.sz = true) (hz : infB P e t.sz bytes = true) (h0 : Nat.blt 0 t.sz = true) (hb1 : Nat.blt 0 bytes = true)
    (hx : opd ρ n x = s.v) (hy : opd ρ n y = u.v) (hs : Sl t H s xs) (hu : Sl t H u ys) (hb : (xs.length + ys.length) * bytes ≤ 140737488355328) :
    Ef P ρ n o w (fun v w1 => ∃ s1 H1 g1, v = s1.v ∧ Inv B w1 H1 (L.set i (.own s1 e t.sz g1)) ∧ Hle H H1 ∧ Sl t H1 s1 (xs ++ ys)) := by
  obtain ⟨hut, _⟩ := sliceB_spec hT
  obtain ⟨inf, z, hq, hz, hsz, hby, hzs⟩ := infB_spec hz
  have h0' : 0 < t.sz := by simpa [Nat.blt_eq] using h0
  have hb1' : 0 < bytes := by simpa [Nat.blt_eq] using hb1
  have hn47 : xs.length + ys.length ≤ 140737488355328 := Nat.le_trans (Nat.le_mul_of_pos_right _ hb1') hb
  have hok := hI.good.ok _ (List.mem_of_getElem? hL)
  obtain ⟨cys, y1, y2, y3, y4, y5, y6, y7, y8⟩ := hu.src h0' hI.good
  obtain ⟨cxs, x1, x2, x3, x4, x5, x6, x7, x8⟩ := hs.src h0' hI.good
  have hsv : s.v = .slice s.a s.n s.c := rfl
  have huv : u.v = .slice u.a u.n u.c := rfl
  have hgo : ∀ v w1, (Builtin.append_ #[T, T] o.type #[s.v, u.v]).run P w = .ok v w1 → Rn P ρ n o w v w1 := by
    intro v w1 hr
    unfold Rn execOp
    simp [ho, hx, hy, resolve, invoke, builtin, hr]
  by_cases hm : ys = []
  · subst hm
    have hm0 : u.n = 0 := hu.n
    refine ⟨s.v, w, ⟨s, H, g, rfl, ?_, Hle.refl _, by simpa using hs⟩, hgo _ _ ?_⟩
    · have : L.set i (.own s e t.sz g) = L := by
        apply List.ext_getElem?
        intro j
        rw [List.getElem?_set]
        split
        · rename_i hij; subst hij
          rw [hL]
          have := (List.getElem?_eq_some_iff.1 hL).1
          simp [this]
        · rfl
      rw [this]; exact hI
    · rw [hsv, huv, hm0]
      cases ha : s.a with
      | none => cases u.a <;> simp [Builtin.append_, run_underlying hut, sizeOf, typeInfo, hq, Builtin.lenOf, Builtin.firstCells, hs.cap, loadCells, loadCellsFrom]
      | some a => cases u.a <;> simp [Builtin.append_, run_underlying hut, sizeOf, typeInfo, hq, Builtin.lenOf, Builtin.firstCells, hs.cap, loadCells, loadCellsFrom, storeCells]
  · obtain ⟨ua, hua⟩ : ∃ a, u.a = some a := by
      cases ys with
      | nil => exact absurd rfl hm
      | cons y l =>
        obtain ⟨b, off, cs, h6, _⟩ := hu.el 0 y rfl
        exact ⟨_, h6⟩
    have hym : 0 < u.n := by rw [hu.n]; exact List.length_pos_iff.2 hm
    have hsn := hs.n
    have hun := hu.n
    obtain ⟨v, w1, h1, h2⟩ := app_core (P := P) (rf := Builtin.append_ #[T, T] o.type #[s.v, u.v]) hI i hL hsz hzs h0' hs hym hun hn47 y1 y2 y3 y4 y5 x1 x2 x3 x5 x6 x8
      (by
        intro hlt
        rw [hsv, huv, hua]
        cases ha : s.a with
        | none =>
          have hx0 := x6 ha
          have hsn0 : s.n = 0 := by
            rw [hx0] at x2; rw [hsn, ← x2]; rfl
          have hsc : s.c = 0 := by
            cases g with
            | none => have := hok; simp only [Ent.Ok] at this; omega
            | some g => have := hok.1; rw [ha] at this; cases this
          have hr := run_append_nil (P := P) w T o.type e inf z hut hq hz ua u.n u.c cys.flatten (by rw [hsz]; exact y5) (y7 ua hua) hym (by omega) (by rw [hby]; have : u.n * bytes ≤ (xs.length + ys.length) * bytes := Nat.mul_le_mul_right _ (by omega); omega)
          rw [hsn0, hsc, hx0]
          simp only [Nat.zero_add, List.flatten_nil, Array.empty_append] at hr ⊢
          rw [hr]
        | some a =>
          exact run_append_grow (P := P) w T o.type e inf z hut hq hz a s.n s.c cxs.flatten (by rw [hsz]; exact x5) (x7 a ha) ua u.n u.c cys.flatten (by rw [hsz]; exact y5) (y7 ua hua) hlt (by omega) (by rw [hby]; exact growslice_fits hlt (by rw [hsn, hun]; exact hb)))
      (by
        intro g' cur _ o1 o3 hroom hfit
        rw [hsv, huv, hua, o1, ← hsz]
        exact run_append_room (P := P) w T o.type e inf hut hq g' s.n s.c cur o3 ua u.n u.c cys.flatten (by rw [hsz]; exact y5) (y7 ua hua) y4 hroom (by rw [hsz]; exact hfit))
    exact ⟨v, w1, h1, hgo v w1 h2⟩

theorem run_apps_grow (t u ty e : TypeId) (i : TypeInfo) (z : Value) (ht : P.underlying t = some (.slice e)) (hu : P.underlying u = some .string) (hi : P.info? e = some i) (hz : i.zero = some z) (hs1 : i.size = 1)
    (b : Option Addr) (sLen sCap : Nat) (olds : List Value) (hlo : olds.length = sLen * i.size) (hb0 : b = none → olds = []) (holds : ∀ a, b = some a → ∀ j v, olds[j]? = some v → w.cell? (a.add j) = some v)
    (s : List UInt8) (hg : sCap < sLen + s.length) (h63 : ((sLen + s.length : Nat) : Int) ≤ 9223372036854775807) (hfit : Builtin.nextslicecap (sLen + s.length) sCap * i.bytes ≤ 281474976710656) :
    (Builtin.append_ #[t, u] ty #[.slice b sLen sCap, strv s]).run P w =
      .ok (.slice (some ⟨w.heap.size, 0, none⟩) (sLen + s.length) (grownCap w (sLen + s.length) sCap e))
        (w.drew.alloc (.cells (olds.toArray ++ (bvs s).toArray ++ Builtin.zeroCells z.cells (grownCap w (sLen + s.length) sCap e - (sLen + s.length))) e)) := by
  have hsz : (⟨s.toArray⟩ : ByteArray).size = s.length := rfl
  have hn : ¬ (sLen + s.length ≤ sCap) := by omega
  have h63' : ¬ (9223372036854775807 < ((sLen : Int) + (s.length : Int))) := by omega
  have h48' : ¬ (281474976710656 < Builtin.nextslicecap (sLen + s.length) sCap * i.bytes) := by omega
  have hf : (Builtin.firstCells i.size s.length (.string ⟨s.toArray⟩)).run P w.drew = .ok (bvs s).toArray w.drew := by
    simp only [Builtin.firstCells]
    have : (⟨s.toArray⟩ : ByteArray).extract 0 s.length = ⟨s.toArray⟩ := by
      apply ByteArray.ext; simp
    rw [this]
    simp [bvs, bv]
  have hfo : (Builtin.firstCells i.size sLen (.slice b sLen sCap)).run P w.drew = .ok olds.toArray w.drew := by
    cases b with
    | none => rw [hb0 rfl]; exact run_firstCells_none (P := P) w.drew i.size sLen sLen sCap
    | some a => exact run_firstCells_some (P := P) w.drew i.size sLen a sLen sCap olds hlo (by intro j v hj; have := holds a rfl j v hj; simpa using this)
  unfold strv
  simp [Builtin.append_, run_underlying ht, run_underlying hu, sizeOf, typeInfo, zeroValue, hi, hz, Builtin.lenOf, hsz, hn, h63', h48', Question.forced, hf, hfo, newRow, grownCap]
  congr 2
  apply Array.ext'
  simp [List.append_assoc]
theorem run_apps_room (t u ty e : TypeId) (i : TypeInfo) (ht : P.underlying t = some (.slice e)) (hu : P.underlying u = some .string) (hi : P.info? e = some i) (hs1 : i.size = 1)
    (g sLen sCap : Nat) (cur : Array Value) (hg : w.heap[g]? = some (.cells cur e (0, 0))) (s : List UInt8)
    (hroom : sLen + s.length ≤ sCap) (hfit : sLen * i.size + (bvs s).length ≤ cur.size) :
    (Builtin.append_ #[t, u] ty #[.slice (some ⟨g, 0, none⟩) sLen sCap, strv s]).run P w =
      .ok (.slice (some ⟨g, 0, none⟩) (sLen + s.length) sCap) (w.setRow g (cur.toList.take (sLen * i.size) ++ bvs s ++ cur.toList.drop (sLen * i.size + (bvs s).length)).toArray) := by
  have hsz : (⟨s.toArray⟩ : ByteArray).size = s.length := rfl
  have hf : (Builtin.firstCells i.size s.length (.string ⟨s.toArray⟩)).run P w = .ok (bvs s).toArray w := by
    simp only [Builtin.firstCells]
    have : (⟨s.toArray⟩ : ByteArray).extract 0 s.length = ⟨s.toArray⟩ := by
      apply ByteArray.ext; simp
    rw [this]
    simp [bvs, bv]
  have hst := run_storeCells_at P g (sLen * i.size) e (bvs s) 0 cur w hg (by simpa using hfit) (Ones_bvs s)
  simp only [Nat.add_zero] at hst
  unfold strv
  simp [Builtin.append_, run_underlying ht, run_underlying hu, sizeOf, typeInfo, hi, Builtin.lenOf, hsz, hroom, hf, Addr.add_lit, hst]
theorem flat_bv : ∀ l : List UInt8, ((l.map fun b => [bv b])).flatten = bvs l
  | [] => rfl
  | a :: l => by simp [bvs, flat_bv l]
theorem l_apps {T U e : Nat} {x y : Operand} {s : Sv} {xs ys : List UInt8} {g : Option Nat} (hI : Inv B w H L) (i : Nat) (hL : L[i]? = some (.own s e 1 g))
    (ho : o.op = .call { callee := .builtin .append, args := #[x, y], argTypes := #[T, U] }) (hT : sliceB P T e 1 = true) (hU : P.underlying U = some .string) (hz : infB P e 1 1 = true)
    (hx : opd ρ n x = s.v) (hy : opd ρ n y = strv ys) (hs : Sl flB.ty H s xs) (hb : (xs.length + ys.length) * 1 ≤ 140737488355328) :
    Ef P ρ n o w (fun v w1 => ∃ s1 H1 g1, v = s1.v ∧ Inv B w1 H1 (L.set i (.own s1 e 1 g1)) ∧ Hle H H1 ∧ Sl flB.ty H1 s1 (xs ++ ys)) := by
  obtain ⟨hut, _⟩ := sliceB_spec hT
  obtain ⟨inf, z, hq, hz, hsz, hby, hzs⟩ := infB_spec hz
  have hok := hI.good.ok _ (List.mem_of_getElem? hL)
  obtain ⟨cxs, x1, x2, x3, x4, x5, x6, x7, x8⟩ := hs.src (by decide) hI.good
  have hsv : s.v = .slice s.a s.n s.c := rfl
  have hgo : ∀ v w1, (Builtin.append_ #[T, U] o.type #[s.v, strv ys]).run P w = .ok v w1 → Rn P ρ n o w v w1 := by
    intro v w1 hr
    unfold Rn execOp
    simp [ho, hx, hy, resolve, invoke, builtin, hr]
  have hsn := hs.n
  by_cases hm : ys = []
  · subst hm
    refine ⟨s.v, w, ⟨s, H, g, rfl, ?_, Hle.refl _, by simpa using hs⟩, hgo _ _ ?_⟩
    · have : L.set i (.own s e 1 g) = L := by
        apply List.ext_getElem?
        intro j
        rw [List.getElem?_set]
        split
        · rename_i hij; subst hij
          rw [hL]
          have := (List.getElem?_eq_some_iff.1 hL).1
          simp [this]
        · rfl
      rw [this]; exact hI
    · have hsz0 : (⟨([] : List UInt8).toArray⟩ : ByteArray).size = 0 := rfl
      have he0 : (⟨([] : List UInt8).toArray⟩ : ByteArray).extract 0 0 = ⟨#[]⟩ := by apply ByteArray.ext; simp
      rw [hsv]; unfold strv
      cases ha : s.a with
      | none => simp [Builtin.append_, run_underlying hut, run_underlying hU, sizeOf, typeInfo, hq, Builtin.lenOf, Builtin.firstCells, hs.cap, hsz0]
      | some a => simp [Builtin.append_, run_underlying hut, run_underlying hU, sizeOf, typeInfo, hq, Builtin.lenOf, Builtin.firstCells, hs.cap, hsz0, storeCells]
  · have hcy : ((ys.map fun b => [bv b])).flatten = bvs ys := flat_bv ys
    obtain ⟨v, w1, h1, h2⟩ := app_core (P := P) (t := flB.ty) (ys := ys) (cys := ys.map fun b => [bv b]) (rf := Builtin.append_ #[T, U] o.type #[s.v, strv ys]) (inf := inf) (z := z) hI i hL hsz hzs (by decide) hs (List.length_pos_iff.2 hm) rfl (by omega)
      (fun c hc => by obtain ⟨b, _, rfl⟩ := List.mem_map.1 hc; rfl) (by simp) (fun i x hi => ⟨[bv x], by simp [hi], rfl⟩) (by rw [hcy]; exact Ones_bvs _) (by rw [hcy, bvs_length]; exact (Nat.mul_one _).symm) x1 x2 x3 x5 x6 x8
      (by
        intro hlt
        rw [hcy, hsv]
        have hc0 : s.a = none → cxs.flatten = [] := fun h => by rw [x6 h]; rfl
        exact run_apps_grow (P := P) (w := w) T U o.type e inf z hut hU hq hz hsz s.a s.n s.c cxs.flatten (by rw [hsz]; exact x5) hc0 x7 ys hlt (by omega) (by rw [hby]; exact growslice_fits hlt (by rw [hsn]; exact hb)))
      (by
        intro g' cur _ o1 o3 hroom hfit
        rw [hcy] at hfit ⊢
        rw [hsv, o1]
        have := run_apps_room (P := P) (w := w) T U o.type e inf hut hU hq hsz g' s.n s.c cur o3 ys hroom (by rw [hsz]; exact hfit)
        rw [hsz] at this; exact this)
    exact ⟨v, w1, h1, hgo v w1 h2⟩
end
end Go.Proofs.YtdebnncpclodcaaDoor.X
