/-
  The types of the parameters, opened. No condition beyond those that the lemmas name.
-/
import Derived.Test.YtdebnncpclodcaaDoorXPT
import Derived.Test.YtdebnncpclodcaaDoorXOpen
set_option linter.unusedSimpArgs false
set_option linter.unusedVariables false
namespace Go.Proofs.YtdebnncpclodcaaDoor.X
open Go.RowKit
set_option maxRecDepth 100000
theorem opn_3 : Opn Tryd.prog 3 (Fl.ty flI) := opn_int (by kernel_rfl)
theorem opn_5 : Opn Tryd.prog 5 (Fl.ty flB) := opn_byte (by kernel_rfl)
theorem opn_29 : Opn Tryd.prog 29 (Fl.ty (flV flB 32)) := opn_arr (e := 5) (by kernel_rfl) (by kernel_rfl) opn_5
theorem opn_49 : Opn Tryd.prog 49 (Fl.ty fl_Key) := fun {W cs} h => by
  obtain ⟨c0, r0, rfl, h0, c1, r1, rfl, h1, rfl⟩ := open_struct (ts := [29, 3]) (by kernel_rfl) h
  obtain ⟨a0, e0⟩ := opn_29 h0
  replace e0 : c0 = flat ((flV flB 32).c a0) := e0
  obtain ⟨a1, e1⟩ := opn_3 h1
  replace e1 : c1 = flat (flI.c a1) := e1
  subst e0 e1
  refine ⟨⟨a0, a1⟩, ?_⟩
  show _ = flat (fl_Key.c _)
  simp only [fl_Key, flat, ckL, ckI, ckB, ckT, ckS, ckW, Ck.one, flI, flB, flT, flS, flV, List.append_assoc, List.append_nil, List.cons_append, List.nil_append]
theorem opn_114 : Opn Tryd.prog 114 (Fl.ty fl_Member) := fun {W cs} h => by
  obtain ⟨c0, r0, rfl, h0, c1, r1, rfl, h1, rfl⟩ := open_struct (ts := [3, 49]) (by kernel_rfl) h
  obtain ⟨a0, e0⟩ := opn_3 h0
  replace e0 : c0 = flat (flI.c a0) := e0
  obtain ⟨a1, e1⟩ := opn_49 h1
  replace e1 : c1 = flat (fl_Key.c a1) := e1
  subst e0 e1
  refine ⟨⟨a0, a1⟩, ?_⟩
  show _ = flat (fl_Member.c _)
  simp only [fl_Member, flat, ckL, ckI, ckB, ckT, ckS, ckW, Ck.one, flI, flB, flT, flS, flV, List.append_assoc, List.append_nil, List.cons_append, List.nil_append, fl_Key]
theorem opn_62 : Opn Tryd.prog 62 (Ty.sl (Fl.ty fl_Member)) := opn_sl (e := 114) (by kernel_rfl) (by kernel_rfl) (by decide) (by kernel_rfl) opn_114
theorem opn_64 : Opn Tryd.prog 64 ty_Config := fun {W cs} h => by
  obtain ⟨c0, r0, rfl, h0, c1, r1, rfl, h1, rfl⟩ := open_struct (ts := [3, 62]) (by kernel_rfl) h
  obtain ⟨a0, e0⟩ := opn_3 h0
  replace e0 : c0 = flat (flI.c a0) := e0
  obtain ⟨a1, s0, e1, k0⟩ := opn_62 h1
  subst e0 e1
  refine ⟨⟨a0, a1⟩, s0, ?_, k0⟩
  simp only [flat, ckL, ckI, ckB, ckT, ckS, ckW, Ck.one, flI, flB, flT, flS, flV, List.append_assoc, List.append_nil, List.cons_append, List.nil_append]
theorem opn_9 : Opn Tryd.prog 9 (Fl.ty flS) := opn_str (by kernel_rfl)
theorem opn_188 : Opn Tryd.prog 188 (Fl.ty fl_Change) := fun {W cs} h => by
  obtain ⟨c0, r0, rfl, h0, c1, r1, rfl, h1, c2, r2, rfl, h2, c3, r3, rfl, h3, rfl⟩ := open_struct (ts := [3, 3, 3, 49]) (by kernel_rfl) h
  obtain ⟨a0, e0⟩ := opn_3 h0
  replace e0 : c0 = flat (flI.c a0) := e0
  obtain ⟨a1, e1⟩ := opn_3 h1
  replace e1 : c1 = flat (flI.c a1) := e1
  obtain ⟨a2, e2⟩ := opn_3 h2
  replace e2 : c2 = flat (flI.c a2) := e2
  obtain ⟨a3, e3⟩ := opn_49 h3
  replace e3 : c3 = flat (fl_Key.c a3) := e3
  subst e0 e1 e2 e3
  refine ⟨⟨a0, a1, a2, a3⟩, ?_⟩
  show _ = flat (fl_Change.c _)
  simp only [fl_Change, flat, ckL, ckI, ckB, ckT, ckS, ckW, Ck.one, flI, flB, flT, flS, flV, List.append_assoc, List.append_nil, List.cons_append, List.nil_append, fl_Key]
theorem opn_190 : Opn Tryd.prog 190 (Fl.ty fl_Op) := fun {W cs} h => by
  obtain ⟨c0, r0, rfl, h0, c1, r1, rfl, h1, c2, r2, rfl, h2, c3, r3, rfl, h3, c4, r4, rfl, h4, rfl⟩ := open_struct (ts := [3, 9, 9, 9, 188]) (by kernel_rfl) h
  obtain ⟨a0, e0⟩ := opn_3 h0
  replace e0 : c0 = flat (flI.c a0) := e0
  obtain ⟨a1, e1⟩ := opn_9 h1
  replace e1 : c1 = flat (flS.c a1) := e1
  obtain ⟨a2, e2⟩ := opn_9 h2
  replace e2 : c2 = flat (flS.c a2) := e2
  obtain ⟨a3, e3⟩ := opn_9 h3
  replace e3 : c3 = flat (flS.c a3) := e3
  obtain ⟨a4, e4⟩ := opn_188 h4
  replace e4 : c4 = flat (fl_Change.c a4) := e4
  subst e0 e1 e2 e3 e4
  refine ⟨⟨a0, a1, a2, a3, a4⟩, ?_⟩
  show _ = flat (fl_Op.c _)
  simp only [fl_Op, flat, ckL, ckI, ckB, ckT, ckS, ckW, Ck.one, flI, flB, flT, flS, flV, List.append_assoc, List.append_nil, List.cons_append, List.nil_append, fl_Change]
theorem opn_192 : Opn Tryd.prog 192 (Fl.ty fl_Request) := fun {W cs} h => by
  obtain ⟨c0, r0, rfl, h0, c1, r1, rfl, h1, c2, r2, rfl, h2, rfl⟩ := open_struct (ts := [3, 3, 190]) (by kernel_rfl) h
  obtain ⟨a0, e0⟩ := opn_3 h0
  replace e0 : c0 = flat (flI.c a0) := e0
  obtain ⟨a1, e1⟩ := opn_3 h1
  replace e1 : c1 = flat (flI.c a1) := e1
  obtain ⟨a2, e2⟩ := opn_190 h2
  replace e2 : c2 = flat (fl_Op.c a2) := e2
  subst e0 e1 e2
  refine ⟨⟨a0, a1, a2⟩, ?_⟩
  show _ = flat (fl_Request.c _)
  simp only [fl_Request, flat, ckL, ckI, ckB, ckT, ckS, ckW, Ck.one, flI, flB, flT, flS, flV, List.append_assoc, List.append_nil, List.cons_append, List.nil_append, fl_Op]
theorem opn_67 : Opn Tryd.prog 67 (Ty.sl (Fl.ty fl_Request)) := opn_sl (e := 192) (by kernel_rfl) (by kernel_rfl) (by decide) (by kernel_rfl) opn_192
theorem opn_69 : Opn Tryd.prog 69 ty_Block := fun {W cs} h => by
  obtain ⟨c0, r0, rfl, h0, c1, r1, rfl, h1, c2, r2, rfl, h2, c3, r3, rfl, h3, c4, r4, rfl, h4, c5, r5, rfl, h5, rfl⟩ := open_struct (ts := [3, 3, 29, 29, 29, 67]) (by kernel_rfl) h
  obtain ⟨a0, e0⟩ := opn_3 h0
  replace e0 : c0 = flat (flI.c a0) := e0
  obtain ⟨a1, e1⟩ := opn_3 h1
  replace e1 : c1 = flat (flI.c a1) := e1
  obtain ⟨a2, e2⟩ := opn_29 h2
  replace e2 : c2 = flat ((flV flB 32).c a2) := e2
  obtain ⟨a3, e3⟩ := opn_29 h3
  replace e3 : c3 = flat ((flV flB 32).c a3) := e3
  obtain ⟨a4, e4⟩ := opn_29 h4
  replace e4 : c4 = flat ((flV flB 32).c a4) := e4
  obtain ⟨a5, s0, e5, k0⟩ := opn_67 h5
  subst e0 e1 e2 e3 e4 e5
  refine ⟨⟨a0, a1, a2, a3, a4, a5⟩, s0, ?_, k0⟩
  simp only [flat, ckL, ckI, ckB, ckT, ckS, ckW, Ck.one, flI, flB, flT, flS, flV, List.append_assoc, List.append_nil, List.cons_append, List.nil_append]
theorem opn_27 : Opn Tryd.prog 27 (Ty.sl (Fl.ty (flV flB 32))) := opn_sl (e := 29) (by kernel_rfl) (by kernel_rfl) (by decide) (by kernel_rfl) opn_29
theorem opn_31 : Opn Tryd.prog 31 ty_Once := fun {W cs} h => by
  obtain ⟨c0, r0, rfl, h0, c1, r1, rfl, h1, rfl⟩ := open_struct (ts := [27, 27]) (by kernel_rfl) h
  obtain ⟨a0, s0, e0, k0⟩ := opn_27 h0
  obtain ⟨a1, s1, e1, k1⟩ := opn_27 h1
  subst e0 e1
  refine ⟨⟨a0, a1⟩, s0, s1, ?_, k0, k1⟩
  simp only [flat, ckL, ckI, ckB, ckT, ckS, ckW, Ck.one, flI, flB, flT, flS, flV, List.append_assoc, List.append_nil, List.cons_append, List.nil_append]
theorem opn_33 : Opn Tryd.prog 33 ty_Sig := fun {W cs} h => by
  obtain ⟨c0, r0, rfl, h0, c1, r1, rfl, h1, c2, r2, rfl, h2, rfl⟩ := open_struct (ts := [3, 31, 27]) (by kernel_rfl) h
  obtain ⟨a0, e0⟩ := opn_3 h0
  replace e0 : c0 = flat (flI.c a0) := e0
  obtain ⟨a1, s0, s1, e1, k0, k1⟩ := opn_31 h1
  obtain ⟨a2, s2, e2, k2⟩ := opn_27 h2
  subst e0 e1 e2
  refine ⟨⟨a0, a1, a2⟩, s0, s1, s2, ?_, k0, k1, k2⟩
  simp only [flat, ckL, ckI, ckB, ckT, ckS, ckW, Ck.one, flI, flB, flT, flS, flV, List.append_assoc, List.append_nil, List.cons_append, List.nil_append]
theorem opn_35 : Opn Tryd.prog 35 ty_Vote := fun {W cs} h => by
  obtain ⟨c0, r0, rfl, h0, c1, r1, rfl, h1, c2, r2, rfl, h2, c3, r3, rfl, h3, c4, r4, rfl, h4, c5, r5, rfl, h5, c6, r6, rfl, h6, rfl⟩ := open_struct (ts := [3, 3, 3, 3, 29, 3, 33]) (by kernel_rfl) h
  obtain ⟨a0, e0⟩ := opn_3 h0
  replace e0 : c0 = flat (flI.c a0) := e0
  obtain ⟨a1, e1⟩ := opn_3 h1
  replace e1 : c1 = flat (flI.c a1) := e1
  obtain ⟨a2, e2⟩ := opn_3 h2
  replace e2 : c2 = flat (flI.c a2) := e2
  obtain ⟨a3, e3⟩ := opn_3 h3
  replace e3 : c3 = flat (flI.c a3) := e3
  obtain ⟨a4, e4⟩ := opn_29 h4
  replace e4 : c4 = flat ((flV flB 32).c a4) := e4
  obtain ⟨a5, e5⟩ := opn_3 h5
  replace e5 : c5 = flat (flI.c a5) := e5
  obtain ⟨a6, s0, s1, s2, e6, k0, k1, k2⟩ := opn_33 h6
  subst e0 e1 e2 e3 e4 e5 e6
  refine ⟨⟨a0, a1, a2, a3, a4, a5, a6⟩, s0, s1, s2, ?_, k0, k1, k2⟩
  simp only [flat, ckL, ckI, ckB, ckT, ckS, ckW, Ck.one, flI, flB, flT, flS, flV, List.append_assoc, List.append_nil, List.cons_append, List.nil_append]
theorem opn_22 : Opn Tryd.prog 22 (Ty.sl ty_Vote) := opn_sl (e := 35) (by kernel_rfl) (by kernel_rfl) (by decide) (by kernel_rfl) opn_35
theorem opn_71 : Opn Tryd.prog 71 ty_Cert := fun {W cs} h => by
  obtain ⟨c0, r0, rfl, h0, c1, r1, rfl, h1, rfl⟩ := open_struct (ts := [3, 22]) (by kernel_rfl) h
  obtain ⟨a0, e0⟩ := opn_3 h0
  replace e0 : c0 = flat (flI.c a0) := e0
  obtain ⟨a1, s0, e1, k0⟩ := opn_22 h1
  subst e0 e1
  refine ⟨⟨a0, a1⟩, s0, ?_, k0⟩
  simp only [flat, ckL, ckI, ckB, ckT, ckS, ckW, Ck.one, flI, flB, flT, flS, flV, List.append_assoc, List.append_nil, List.cons_append, List.nil_append]
theorem opn_73 : Opn Tryd.prog 73 ty_Link := fun {W cs} h => by
  obtain ⟨c0, r0, rfl, h0, c1, r1, rfl, h1, c2, r2, rfl, h2, rfl⟩ := open_struct (ts := [69, 71, 64]) (by kernel_rfl) h
  obtain ⟨a0, s0, e0, k0⟩ := opn_69 h0
  obtain ⟨a1, s1, e1, k1⟩ := opn_71 h1
  obtain ⟨a2, s2, e2, k2⟩ := opn_64 h2
  subst e0 e1 e2
  refine ⟨⟨a0, a1, a2⟩, s0, s1, s2, ?_, k0, k1, k2⟩
  simp only [flat, ckL, ckI, ckB, ckT, ckS, ckW, Ck.one, flI, flB, flT, flS, flV, List.append_assoc, List.append_nil, List.cons_append, List.nil_append]
theorem opn_65 : Opn Tryd.prog 65 (Ty.sl ty_Link) := opn_sl (e := 73) (by kernel_rfl) (by kernel_rfl) (by decide) (by kernel_rfl) opn_73
def isStr (P : Program) (t : TypeId) : Bool := match P.underlying t with
  | some (.struct _) => true
  | _ => false
theorem wide_str {P : Program} {W : World} {r : Reach} {base : Nat} {t : TypeId} {v : Value} (ht : isStr P t = true) (h : Value.okWide P W r base t v) : ∃ cs, v = .agg cs := by
  unfold isStr at ht
  split at ht
  · next fs hu =>
    obtain ⟨cs, e, _⟩ := Go.WideShapes.okWide_struct hu h
    exact ⟨cs, e⟩
  · cases ht
def isSl (P : Program) (t : TypeId) : Bool := match P.underlying t with
  | some (.slice _) => true
  | _ => false
theorem wide_sl {P : Program} {W : World} {r : Reach} {base : Nat} {t : TypeId} {v : Value} (ht : isSl P t = true) (h : Value.okWide P W r base t v) : ∃ a l c, v = .slice a l c := by
  unfold isSl at ht
  split at ht
  · next fs hu => exact Go.WideShapes.okWide_slice hu h
  · cases ht
theorem agg_of {c : Array Value} {l : List Value} (h : (Value.agg c).cells.toList = l) : c = l.toArray := by subst h; rfl
theorem agM0 {w w1 : World} (h : Ag (blks []) w w1) : Ag M0 w w1 := h.mono (fun _ _ ⟨e, he, _⟩ => by cases he)
end Go.Proofs.YtdebnncpclodcaaDoor.X
