/-
  The types of the program as plain ones, and closed facts of the program. No condition beyond those that the lemmas name.
-/
import Derived.Test.YtdebnncpclodcaaDoorProg
import Derived.Test.YtdebnncpclodcaaDoorXStepI
set_option linter.unusedSimpArgs false
set_option linter.unusedVariables false
set_option maxRecDepth 10000
namespace Go.Proofs.YtdebnncpclodcaaDoor.X
open Go.RowKit Go.Proofs.YtdebnncpclodcaaDoorW.PrintLast
structure Code_Writer where
  b_ : List UInt8
  deriving DecidableEq
structure Once where
  Open : List (Vec UInt8 32)
  Shut : List (Vec UInt8 32)
  deriving DecidableEq
def ty_Once : Ty Once where
  sz := 2
  enc := fun H cs x => ∃ s0 s1 : Sv, cs = flat [ckL s0, ckL s1] ∧ Sl (Fl.ty (flV flB 32)) H s0 x.Open ∧ Sl (Fl.ty (flV flB 32)) H s1 x.Shut
  len := fun ⟨_, _, h, _⟩ => by subst h; rw [flat_length]; rfl
  one := fun ⟨_, _, h, _⟩ => by subst h; exact flat_ones _
  mono := fun hl ⟨s0, s1, h, h0, h1⟩ => ⟨s0, s1, h, h0.mono hl, h1.mono hl⟩

structure Sig where
  Leaf : Int
  Once : Once
  Path : List (Vec UInt8 32)
  deriving DecidableEq
def ty_Sig : Ty Sig where
  sz := 4
  enc := fun H cs x => ∃ s0 s1 s2 : Sv, cs = flat [ckI x.Leaf, ckL s0, ckL s1, ckL s2] ∧ Sl (Fl.ty (flV flB 32)) H s0 x.Once.Open ∧ Sl (Fl.ty (flV flB 32)) H s1 x.Once.Shut ∧ Sl (Fl.ty (flV flB 32)) H s2 x.Path
  len := fun ⟨_, _, _, h, _⟩ => by subst h; rw [flat_length]; rfl
  one := fun ⟨_, _, _, h, _⟩ => by subst h; exact flat_ones _
  mono := fun hl ⟨s0, s1, s2, h, h0, h1, h2⟩ => ⟨s0, s1, s2, h, h0.mono hl, h1.mono hl, h2.mono hl⟩

structure Vote where
  Kind : Int
  Epoch : Int
  Height : Int
  Round : Int
  Digest : Vec UInt8 32
  From : Int
  Sig : Sig
  deriving DecidableEq
def ty_Vote : Ty Vote where
  sz := 41
  enc := fun H cs x => ∃ s0 s1 s2 : Sv, cs = flat [ckI x.Kind, ckI x.Epoch, ckI x.Height, ckI x.Round, ckV flB x.Digest, ckI x.From, ckI x.Sig.Leaf, ckL s0, ckL s1, ckL s2] ∧ Sl (Fl.ty (flV flB 32)) H s0 x.Sig.Once.Open ∧ Sl (Fl.ty (flV flB 32)) H s1 x.Sig.Once.Shut ∧ Sl (Fl.ty (flV flB 32)) H s2 x.Sig.Path
  len := fun ⟨_, _, _, h, _⟩ => by subst h; rw [flat_length]; rfl
  one := fun ⟨_, _, _, h, _⟩ => by subst h; exact flat_ones _
  mono := fun hl ⟨s0, s1, s2, h, h0, h1, h2⟩ => ⟨s0, s1, s2, h, h0.mono hl, h1.mono hl, h2.mono hl⟩

structure Key where
  Root : Vec UInt8 32
  Height : Int
  deriving DecidableEq
def fl_Key : Fl Key := ⟨33, fun x => [ckV flB x.Root, ckI x.Height], fun _ => rfl⟩

structure Member where
  Id : Int
  Key : Key
  deriving DecidableEq
def fl_Member : Fl Member := ⟨34, fun x => [ckI x.Id, ckV flB x.Key.Root, ckI x.Key.Height], fun _ => rfl⟩

structure Config where
  Epoch : Int
  Members : List Member
  deriving DecidableEq
def ty_Config : Ty Config where
  sz := 2
  enc := fun H cs x => ∃ s0 : Sv, cs = flat [ckI x.Epoch, ckL s0] ∧ Sl (Fl.ty fl_Member) H s0 x.Members
  len := fun ⟨_, h, _⟩ => by subst h; rw [flat_length]; rfl
  one := fun ⟨_, h, _⟩ => by subst h; exact flat_ones _
  mono := fun hl ⟨s0, h, h0⟩ => ⟨s0, h, h0.mono hl⟩

structure Change where
  Kind : Int
  Id : Int
  New : Int
  Key : Key
  deriving DecidableEq
def fl_Change : Fl Change := ⟨36, fun x => [ckI x.Kind, ckI x.Id, ckI x.New, ckV flB x.Key.Root, ckI x.Key.Height], fun _ => rfl⟩

structure Op where
  Kind : Int
  Key : List UInt8
  Val : List UInt8
  Old : List UInt8
  Change : Change
  deriving DecidableEq
def fl_Op : Fl Op := ⟨40, fun x => [ckI x.Kind, ckS x.Key, ckS x.Val, ckS x.Old, ckI x.Change.Kind, ckI x.Change.Id, ckI x.Change.New, ckV flB x.Change.Key.Root, ckI x.Change.Key.Height], fun _ => rfl⟩

structure Request where
  Client : Int
  Num : Int
  Op : Op
  deriving DecidableEq
def fl_Request : Fl Request := ⟨42, fun x => [ckI x.Client, ckI x.Num, ckI x.Op.Kind, ckS x.Op.Key, ckS x.Op.Val, ckS x.Op.Old, ckI x.Op.Change.Kind, ckI x.Op.Change.Id, ckI x.Op.Change.New, ckV flB x.Op.Change.Key.Root, ckI x.Op.Change.Key.Height], fun _ => rfl⟩

structure Block where
  Epoch : Int
  Height : Int
  Prev : Vec UInt8 32
  State : Vec UInt8 32
  Next : Vec UInt8 32
  Requests : List Request
  deriving DecidableEq
def ty_Block : Ty Block where
  sz := 99
  enc := fun H cs x => ∃ s0 : Sv, cs = flat [ckI x.Epoch, ckI x.Height, ckV flB x.Prev, ckV flB x.State, ckV flB x.Next, ckL s0] ∧ Sl (Fl.ty fl_Request) H s0 x.Requests
  len := fun ⟨_, h, _⟩ => by subst h; rw [flat_length]; rfl
  one := fun ⟨_, h, _⟩ => by subst h; exact flat_ones _
  mono := fun hl ⟨s0, h, h0⟩ => ⟨s0, h, h0.mono hl⟩

structure Cert where
  Round : Int
  Votes : List Vote
  deriving DecidableEq
def ty_Cert : Ty Cert where
  sz := 2
  enc := fun H cs x => ∃ s0 : Sv, cs = flat [ckI x.Round, ckL s0] ∧ Sl ty_Vote H s0 x.Votes
  len := fun ⟨_, h, _⟩ => by subst h; rw [flat_length]; rfl
  one := fun ⟨_, h, _⟩ => by subst h; exact flat_ones _
  mono := fun hl ⟨s0, h, h0⟩ => ⟨s0, h, h0.mono hl⟩

structure Link where
  Block : Block
  Cert : Cert
  Config : Config
  deriving DecidableEq
def ty_Link : Ty Link where
  sz := 103
  enc := fun H cs x => ∃ s0 s1 s2 : Sv, cs = flat [ckI x.Block.Epoch, ckI x.Block.Height, ckV flB x.Block.Prev, ckV flB x.Block.State, ckV flB x.Block.Next, ckL s0, ckI x.Cert.Round, ckL s1, ckI x.Config.Epoch, ckL s2] ∧ Sl (Fl.ty fl_Request) H s0 x.Block.Requests ∧ Sl ty_Vote H s1 x.Cert.Votes ∧ Sl (Fl.ty fl_Member) H s2 x.Config.Members
  len := fun ⟨_, _, _, h, _⟩ => by subst h; rw [flat_length]; rfl
  one := fun ⟨_, _, _, h, _⟩ => by subst h; exact flat_ones _
  mono := fun hl ⟨s0, s1, s2, h, h0, h1, h2⟩ => ⟨s0, s1, s2, h, h0.mono hl, h1.mono hl, h2.mono hl⟩

theorem mixed : Tryd.prog.follows .mixedOrders = true := by kernel_rfl
theorem sl158 : sliceB Tryd.prog 158 5 1 = true := by kernel_rfl
theorem sc5 : scalB Tryd.prog 5 = true := by kernel_rfl
theorem un5 : Tryd.prog.underlying 5 = some (.int .u8) := by kernel_rfl
theorem un229 : Tryd.prog.underlying 229 = some (.int .u32) := by kernel_rfl
theorem un3 : Tryd.prog.underlying 3 = some (.int .i64) := by kernel_rfl
theorem un102 : Tryd.prog.underlying 102 = some (.int .u64) := by kernel_rfl
theorem ze237 : Zer Tryd.prog 237 (flat [ckV flW (Vec.rep 64 0)]) := by unfold Zer; kernel_rfl
theorem fc168 : Fnc Tryd.prog 168 := ⟨_, Tryd.func168, by kernel_rfl, by kernel_rfl⟩
theorem ar237 : arrB Tryd.prog 237 64 229 1 = true := by kernel_rfl
theorem sz229 : ((Tryd.prog.info? 229).map (·.size) == some 1) = true := by kernel_rfl
theorem sc229 : scalB Tryd.prog 229 = true := by kernel_rfl
theorem fc169 : Fnc Tryd.prog 169 := ⟨_, Tryd.func169, by kernel_rfl, by kernel_rfl⟩
theorem ar231 : arrB Tryd.prog 231 8 229 1 = true := by kernel_rfl
theorem ag237 : aggB Tryd.prog 237 64 = true := by kernel_rfl
theorem ze230 : Zer Tryd.prog 230 (flat [ckV flW (Vec.rep 8 0)]) := by unfold Zer; kernel_rfl
theorem ar230 : arrB Tryd.prog 230 8 229 1 = true := by kernel_rfl
theorem ze29 : Zer Tryd.prog 29 (flat [ckV flB (Vec.rep 32 0)]) := by unfold Zer; kernel_rfl
theorem ze231 : Zer Tryd.prog 231 (flat [ckV flW (Vec.rep 8 0)]) := by unfold Zer; kernel_rfl
theorem sz231 : ((Tryd.prog.info? 231).map (·.size) == some 8) = true := by kernel_rfl
theorem ze232 : Zer Tryd.prog 232 (flat [ckV flB (Vec.rep 64 0)]) := by unfold Zer; kernel_rfl
theorem sl228 : sliceB Tryd.prog 228 158 1 = true := by kernel_rfl
theorem sc158 : scalB Tryd.prog 158 = true := by kernel_rfl
theorem ar232 : arrB Tryd.prog 232 64 5 1 = true := by kernel_rfl
theorem fc145 : Fnc Tryd.prog 145 := ⟨_, Tryd.func145, by kernel_rfl, by kernel_rfl⟩
theorem sz5 : ((Tryd.prog.info? 5).map (·.size) == some 1) = true := by kernel_rfl
theorem zv5 : zvB Tryd.prog 5 (bv 0) := by unfold zvB; kernel_rfl
theorem un234 : Tryd.prog.underlying 234 = some (.int .u64) := by kernel_rfl
theorem ar29 : arrB Tryd.prog 29 32 5 1 = true := by kernel_rfl
theorem ag29 : aggB Tryd.prog 29 32 = true := by kernel_rfl
theorem sz29 : ((Tryd.prog.info? 29).map (·.size) == some 32) = true := by kernel_rfl
theorem inf5 : infB Tryd.prog 5 1 1 = true := by kernel_rfl
theorem inf158 : infB Tryd.prog 158 1 24 = true := by kernel_rfl
theorem fc99 : Fnc Tryd.prog 99 := ⟨_, Tryd.func99, by kernel_rfl, by kernel_rfl⟩
theorem fc108 : Fnc Tryd.prog 108 := ⟨_, Tryd.func108, by kernel_rfl, by kernel_rfl⟩
theorem un173 : Tryd.prog.underlying 173 = some (.pointer 175) := by kernel_rfl
theorem fl175_0 : fldB Tryd.prog 175 0 0 = true := by kernel_rfl
theorem sl27 : sliceB Tryd.prog 27 29 32 = true := by kernel_rfl
theorem sz158 : ((Tryd.prog.info? 158).map (·.size) == some 1) = true := by kernel_rfl
theorem zg175 : Zer Tryd.prog 175 (flat (List.flatten [[ckL Sv.nil]])) := by unfold Zer; kernel_rfl
theorem bf175 : BldF Tryd.prog 175 (plOf 0 [[ckL Sv.nil]]) := by unfold BldF; kernel_rfl
theorem fc125 : Fnc Tryd.prog 125 := ⟨_, Tryd.func125, by kernel_rfl, by kernel_rfl⟩
theorem fc100 : Fnc Tryd.prog 100 := ⟨_, Tryd.func100, by kernel_rfl, by kernel_rfl⟩
theorem fc104 : Fnc Tryd.prog 104 := ⟨_, Tryd.func104, by kernel_rfl, by kernel_rfl⟩
theorem inf29 : infB Tryd.prog 29 32 32 = true := by kernel_rfl
theorem fc106 : Fnc Tryd.prog 106 := ⟨_, Tryd.func106, by kernel_rfl, by kernel_rfl⟩
theorem sc27 : scalB Tryd.prog 27 = true := by kernel_rfl
theorem fc61 : Fnc Tryd.prog 61 := ⟨_, Tryd.func61, by kernel_rfl, by kernel_rfl⟩
theorem fc107 : Fnc Tryd.prog 107 := ⟨_, Tryd.func107, by kernel_rfl, by kernel_rfl⟩
theorem fc105 : Fnc Tryd.prog 105 := ⟨_, Tryd.func105, by kernel_rfl, by kernel_rfl⟩
theorem fl31_0 : fldB Tryd.prog 31 0 0 = true := by kernel_rfl
theorem fl31_1 : fldB Tryd.prog 31 1 1 = true := by kernel_rfl
theorem ag31 : aggB Tryd.prog 31 2 = true := by kernel_rfl
theorem ag33 : aggB Tryd.prog 33 4 = true := by kernel_rfl
theorem sl59 : sliceB Tryd.prog 59 3 1 = true := by kernel_rfl
theorem sc3 : scalB Tryd.prog 3 = true := by kernel_rfl
theorem fl35_0 : fldB Tryd.prog 35 0 0 = true := by kernel_rfl
theorem fl35_1 : fldB Tryd.prog 35 1 1 = true := by kernel_rfl
theorem fl35_2 : fldB Tryd.prog 35 2 2 = true := by kernel_rfl
theorem fl35_3 : fldB Tryd.prog 35 3 3 = true := by kernel_rfl
theorem fl35_5 : fldB Tryd.prog 35 5 36 = true := by kernel_rfl
theorem inf3 : infB Tryd.prog 3 1 8 = true := by kernel_rfl
theorem fc124 : Fnc Tryd.prog 124 := ⟨_, Tryd.func124, by kernel_rfl, by kernel_rfl⟩
theorem fl35_4 : fldB Tryd.prog 35 4 4 = true := by kernel_rfl
theorem ag35 : aggB Tryd.prog 35 41 = true := by kernel_rfl
theorem fc98 : Fnc Tryd.prog 98 := ⟨_, Tryd.func98, by kernel_rfl, by kernel_rfl⟩
theorem un158 : Tryd.prog.underlying 158 = some (.slice 5) := by kernel_rfl
theorem ze182 : Zer Tryd.prog 182 (flat [ckV (flV flB 32) (Vec.rep 2 (Vec.rep 32 0))]) := by unfold Zer; kernel_rfl
theorem ar182 : arrB Tryd.prog 182 2 29 32 = true := by kernel_rfl
theorem sz182 : ((Tryd.prog.info? 182).map (·.size) == some 64) = true := by kernel_rfl
theorem ba29 : barr Tryd.prog 29 5 32 = true := by kernel_rfl
theorem fl33_1 : fldB Tryd.prog 33 1 1 = true := by kernel_rfl
theorem fc59 : Fnc Tryd.prog 59 := ⟨_, Tryd.func59, by kernel_rfl, by kernel_rfl⟩
theorem fl49_1 : fldB Tryd.prog 49 1 32 = true := by kernel_rfl
theorem fl49_0 : fldB Tryd.prog 49 0 0 = true := by kernel_rfl
theorem fl33_0 : fldB Tryd.prog 33 0 0 = true := by kernel_rfl
theorem fl33_2 : fldB Tryd.prog 33 2 3 = true := by kernel_rfl
theorem fc60 : Fnc Tryd.prog 60 := ⟨_, Tryd.func60, by kernel_rfl, by kernel_rfl⟩
theorem fl114_0 : fldB Tryd.prog 114 0 0 = true := by kernel_rfl
theorem ze114 : Zer Tryd.prog 114 (flat [ckI 0, ckV flB (Vec.rep 32 0), ckI 0]) := by unfold Zer; kernel_rfl
theorem fl64_1 : fldB Tryd.prog 64 1 1 = true := by kernel_rfl
theorem sc62 : scalB Tryd.prog 62 = true := by kernel_rfl
theorem sl62 : sliceB Tryd.prog 62 114 34 = true := by kernel_rfl
theorem ag114 : aggB Tryd.prog 114 34 = true := by kernel_rfl
theorem fc147 : Fnc Tryd.prog 147 := ⟨_, Tryd.func147, by kernel_rfl, by kernel_rfl⟩
theorem fc146 : Fnc Tryd.prog 146 := ⟨_, Tryd.func146, by kernel_rfl, by kernel_rfl⟩
theorem zg114 : Zer Tryd.prog 114 (flat (List.flatten [[ckI 0], [ckV flB (Vec.rep 32 0), ckI 0]])) := by unfold Zer; kernel_rfl
theorem bf114 : BldF Tryd.prog 114 (plOf 0 [[ckI 0], [ckV flB (Vec.rep 32 0), ckI 0]]) := by unfold BldF; kernel_rfl
theorem sz114 : ((Tryd.prog.info? 114).map (·.size) == some 34) = true := by kernel_rfl
theorem ag64 : aggB Tryd.prog 64 2 = true := by kernel_rfl
theorem fc101 : Fnc Tryd.prog 101 := ⟨_, Tryd.func101, by kernel_rfl, by kernel_rfl⟩
theorem fc102 : Fnc Tryd.prog 102 := ⟨_, Tryd.func102, by kernel_rfl, by kernel_rfl⟩
theorem fl64_0 : fldB Tryd.prog 64 0 0 = true := by kernel_rfl
theorem fl114_1 : fldB Tryd.prog 114 1 1 = true := by kernel_rfl
theorem fl35_6 : fldB Tryd.prog 35 6 37 = true := by kernel_rfl
theorem ag49 : aggB Tryd.prog 49 33 = true := by kernel_rfl
theorem fc54 : Fnc Tryd.prog 54 := ⟨_, Tryd.func54, by kernel_rfl, by kernel_rfl⟩
theorem fc26 : Fnc Tryd.prog 26 := ⟨_, Tryd.func26, by kernel_rfl, by kernel_rfl⟩
theorem fc109 : Fnc Tryd.prog 109 := ⟨_, Tryd.func109, by kernel_rfl, by kernel_rfl⟩
theorem sl199 : sliceB Tryd.prog 199 9 1 = true := by kernel_rfl
theorem sc9 : scalB Tryd.prog 9 = true := by kernel_rfl
theorem un9 : Tryd.prog.underlying 9 = some .string := by kernel_rfl
theorem fl192_2 : fldB Tryd.prog 192 2 2 = true := by kernel_rfl
theorem fl190_4 : fldB Tryd.prog 190 4 4 = true := by kernel_rfl
theorem ag188 : aggB Tryd.prog 188 36 = true := by kernel_rfl
theorem ze188 : Zer Tryd.prog 188 (flat [ckI 0, ckI 0, ckI 0, ckV flB (Vec.rep 32 0), ckI 0]) := by unfold Zer; kernel_rfl
theorem sz188 : ((Tryd.prog.info? 188).map (·.size) == some 36) = true := by kernel_rfl
theorem fl192_0 : fldB Tryd.prog 192 0 0 = true := by kernel_rfl
theorem fl192_1 : fldB Tryd.prog 192 1 1 = true := by kernel_rfl
theorem fl190_0 : fldB Tryd.prog 190 0 0 = true := by kernel_rfl
theorem fl190_1 : fldB Tryd.prog 190 1 1 = true := by kernel_rfl
theorem fl190_2 : fldB Tryd.prog 190 2 2 = true := by kernel_rfl
theorem fl190_3 : fldB Tryd.prog 190 3 3 = true := by kernel_rfl
theorem inf9 : infB Tryd.prog 9 1 16 = true := by kernel_rfl
theorem fc126 : Fnc Tryd.prog 126 := ⟨_, Tryd.func126, by kernel_rfl, by kernel_rfl⟩
theorem fl188_0 : fldB Tryd.prog 188 0 0 = true := by kernel_rfl
theorem fl188_1 : fldB Tryd.prog 188 1 1 = true := by kernel_rfl
theorem fl188_2 : fldB Tryd.prog 188 2 2 = true := by kernel_rfl
theorem fl188_3 : fldB Tryd.prog 188 3 3 = true := by kernel_rfl
theorem fl69_0 : fldB Tryd.prog 69 0 0 = true := by kernel_rfl
theorem fl69_1 : fldB Tryd.prog 69 1 1 = true := by kernel_rfl
theorem fl69_2 : fldB Tryd.prog 69 2 2 = true := by kernel_rfl
theorem fl69_3 : fldB Tryd.prog 69 3 34 = true := by kernel_rfl
theorem fl69_4 : fldB Tryd.prog 69 4 66 = true := by kernel_rfl
theorem fl69_5 : fldB Tryd.prog 69 5 98 = true := by kernel_rfl
theorem sc67 : scalB Tryd.prog 67 = true := by kernel_rfl
theorem sl67 : sliceB Tryd.prog 67 192 42 = true := by kernel_rfl
theorem ag192 : aggB Tryd.prog 192 42 = true := by kernel_rfl
theorem ze192 : Zer Tryd.prog 192 (flat [ckI 0, ckI 0, ckI 0, ckS [], ckS [], ckS [], ckI 0, ckI 0, ckI 0, ckV flB (Vec.rep 32 0), ckI 0]) := by unfold Zer; kernel_rfl
theorem sz192 : ((Tryd.prog.info? 192).map (·.size) == some 42) = true := by kernel_rfl
theorem fc159 : Fnc Tryd.prog 159 := ⟨_, Tryd.func159, by kernel_rfl, by kernel_rfl⟩
theorem ag69 : aggB Tryd.prog 69 99 = true := by kernel_rfl
theorem fc135 : Fnc Tryd.prog 135 := ⟨_, Tryd.func135, by kernel_rfl, by kernel_rfl⟩
theorem ag190 : aggB Tryd.prog 190 40 = true := by kernel_rfl
theorem ze190 : Zer Tryd.prog 190 (flat [ckI 0, ckS [], ckS [], ckS [], ckI 0, ckI 0, ckI 0, ckV flB (Vec.rep 32 0), ckI 0]) := by unfold Zer; kernel_rfl
theorem sz190 : ((Tryd.prog.info? 190).map (·.size) == some 40) = true := by kernel_rfl
theorem fc160 : Fnc Tryd.prog 160 := ⟨_, Tryd.func160, by kernel_rfl, by kernel_rfl⟩
theorem fc136 : Fnc Tryd.prog 136 := ⟨_, Tryd.func136, by kernel_rfl, by kernel_rfl⟩
theorem fc94 : Fnc Tryd.prog 94 := ⟨_, Tryd.func94, by kernel_rfl, by kernel_rfl⟩
theorem fc65 : Fnc Tryd.prog 65 := ⟨_, Tryd.func65, by kernel_rfl, by kernel_rfl⟩
theorem fc87 : Fnc Tryd.prog 87 := ⟨_, Tryd.func87, by kernel_rfl, by kernel_rfl⟩
theorem fl71_1 : fldB Tryd.prog 71 1 1 = true := by kernel_rfl
theorem sc22 : scalB Tryd.prog 22 = true := by kernel_rfl
theorem sl22 : sliceB Tryd.prog 22 35 41 = true := by kernel_rfl
theorem fc88 : Fnc Tryd.prog 88 := ⟨_, Tryd.func88, by kernel_rfl, by kernel_rfl⟩
theorem fc86 : Fnc Tryd.prog 86 := ⟨_, Tryd.func86, by kernel_rfl, by kernel_rfl⟩
theorem ze35 : Zer Tryd.prog 35 (flat [ckI 0, ckI 0, ckI 0, ckI 0, ckV flB (Vec.rep 32 0), ckI 0, ckI 0, ckL Sv.nil, ckL Sv.nil, ckL Sv.nil]) := by unfold Zer; kernel_rfl
theorem sz35 : ((Tryd.prog.info? 35).map (·.size) == some 41) = true := by kernel_rfl
theorem fl71_0 : fldB Tryd.prog 71 0 0 = true := by kernel_rfl
theorem fc55 : Fnc Tryd.prog 55 := ⟨_, Tryd.func55, by kernel_rfl, by kernel_rfl⟩
theorem fc110 : Fnc Tryd.prog 110 := ⟨_, Tryd.func110, by kernel_rfl, by kernel_rfl⟩
theorem fl73_0 : fldB Tryd.prog 73 0 0 = true := by kernel_rfl
theorem fl73_2 : fldB Tryd.prog 73 2 101 = true := by kernel_rfl
theorem fl73_1 : fldB Tryd.prog 73 1 99 = true := by kernel_rfl
theorem ag71 : aggB Tryd.prog 71 2 = true := by kernel_rfl
theorem fc46 : Fnc Tryd.prog 46 := ⟨_, Tryd.func46, by kernel_rfl, by kernel_rfl⟩
theorem fc66 : Fnc Tryd.prog 66 := ⟨_, Tryd.func66, by kernel_rfl, by kernel_rfl⟩
theorem ze64 : Zer Tryd.prog 64 (flat [ckI 0, ckL Sv.nil]) := by unfold Zer; kernel_rfl
theorem sl65 : sliceB Tryd.prog 65 73 103 = true := by kernel_rfl
theorem zg64 : Zer Tryd.prog 64 (flat (List.flatten [[ckI 0], [ckL Sv.nil]])) := by unfold Zer; kernel_rfl
theorem bf64 : BldF Tryd.prog 64 (plOf 0 [[ckI 0], [ckL Sv.nil]]) := by unfold BldF; kernel_rfl
theorem sz64 : ((Tryd.prog.info? 64).map (·.size) == some 2) = true := by kernel_rfl
theorem ag73 : aggB Tryd.prog 73 103 = true := by kernel_rfl
theorem ze73 : Zer Tryd.prog 73 (flat [ckI 0, ckI 0, ckV flB (Vec.rep 32 0), ckV flB (Vec.rep 32 0), ckV flB (Vec.rep 32 0), ckL Sv.nil, ckI 0, ckL Sv.nil, ckI 0, ckL Sv.nil]) := by unfold Zer; kernel_rfl
theorem sz73 : ((Tryd.prog.info? 73).map (·.size) == some 103) = true := by kernel_rfl
theorem fc31 : Fnc Tryd.prog 31 := ⟨_, Tryd.func31, by kernel_rfl, by kernel_rfl⟩
theorem inf114 : infB Tryd.prog 114 34 48 = true := by kernel_rfl
theorem fc33 : Fnc Tryd.prog 33 := ⟨_, Tryd.func33, by kernel_rfl, by kernel_rfl⟩
theorem zg73 : Zer Tryd.prog 73 (flat (List.flatten [[ckI 0, ckI 0, ckV flB (Vec.rep 32 0), ckV flB (Vec.rep 32 0), ckV flB (Vec.rep 32 0), ckL Sv.nil], [ckI 0, ckL Sv.nil], [ckI 0, ckL Sv.nil]])) := by unfold Zer; kernel_rfl
theorem bf73 : BldF Tryd.prog 73 (plOf 0 [[ckI 0, ckI 0, ckV flB (Vec.rep 32 0), ckV flB (Vec.rep 32 0), ckV flB (Vec.rep 32 0), ckL Sv.nil], [ckI 0, ckL Sv.nil], [ckI 0, ckL Sv.nil]]) := by unfold BldF; kernel_rfl
theorem ze193 : Zer Tryd.prog 193 (flat [ckV flS (Vec.rep 3 [])]) := by unfold Zer; kernel_rfl
theorem ar193 : arrB Tryd.prog 193 3 9 1 = true := by kernel_rfl
theorem fc64 : Fnc Tryd.prog 64 := ⟨_, Tryd.func64, by kernel_rfl, by kernel_rfl⟩
theorem sb49 : structB Tryd.prog 49 [(29, 0), (3, 32)] = true := by kernel_rfl
theorem eqt49 : EqT Tryd.prog 49 3 (fun x : Key => .agg (flat [ckV flB x.Root, ckI x.Height]).toArray) := fun d a b w => by
  have h := EqL.eq (P := Tryd.prog) (w := w) (d := d + 2) (T := 49) (xs := (flat (fl_Key.c a)).toArray) (ys := (flat (fl_Key.c b)).toArray) (.cons (part_ck (p := 0) (m := 1) ag29 rfl rfl) (part_ck (p := 0) (m := 1) ag29 rfl rfl) ((EqT.dg (P := Tryd.prog) ba29) (d + 0) _ _ w) (.cons (part_c1 (p := 1) sc3 rfl rfl) (part_c1 (p := 1) sc3 rfl rfl) ((EqT.int (P := Tryd.prog) un3) (d + 1) _ _ w) .nil)) sb49
  refine Eq.trans h ?_
  congr 1
  cases a; cases b
  simp [Bool.and_assoc]
theorem sb114 : structB Tryd.prog 114 [(3, 0), (49, 1)] = true := by kernel_rfl
theorem eqt114 : EqT Tryd.prog 114 4 (fun x : Member => .agg (flat [ckI x.Id, ckV flB x.Key.Root, ckI x.Key.Height]).toArray) := fun d a b w => by
  have h := EqL.eq (P := Tryd.prog) (w := w) (d := d + 3) (T := 114) (xs := (flat (fl_Member.c a)).toArray) (ys := (flat (fl_Member.c b)).toArray) (.cons (part_c1 (p := 0) sc3 rfl rfl) (part_c1 (p := 0) sc3 rfl rfl) ((EqT.int (P := Tryd.prog) un3) (d + 2) _ _ w) (.cons (part_ck (p := 1) (m := 2) ag49 rfl rfl) (part_ck (p := 1) (m := 2) ag49 rfl rfl) (eqt49 (d + 0) _ _ w) .nil)) sb114
  refine Eq.trans h ?_
  congr 1
  cases a; cases b
  simp [Bool.and_assoc]
theorem fc29 : Fnc Tryd.prog 29 := ⟨_, Tryd.func29, by kernel_rfl, by kernel_rfl⟩
theorem fc30 : Fnc Tryd.prog 30 := ⟨_, Tryd.func30, by kernel_rfl, by kernel_rfl⟩
theorem inf73 : infB Tryd.prog 73 103 200 = true := by kernel_rfl
theorem fc35 : Fnc Tryd.prog 35 := ⟨_, Tryd.func35, by kernel_rfl, by kernel_rfl⟩
end Go.Proofs.YtdebnncpclodcaaDoor.X
