/-
  DERIVED: THE SHELF's CONTRACTS AT THIS DUMP, IN PLAIN WORDS (tools/lay-plain.mjs out of 'YtofemaaikmhnlabShelfz.lean', which tools/lay-shelf.mjs wrote): THE SAME DECLARATIONS UNDER THE SAME NAMES: 'import', 'namespace', 'open', 'def', 'theorem' AND NOTHING ELSE: no command of the shelf's: FOR A HAND-IN. Each laying: the table of numbers ('.._ren') and one theorem, a field a fact of the dump's own or the kernel's comparison; each contract: ONE APPLICATION.
-/
import Derived.Shelf.SlIter.Nil
import Derived.Shelf.SortM.Plain
import Derived.Shelf.SortM.SortNone
import Derived.Ground.GgzProg
import Derived.Ground.SlgmProg
import Derived.Shelf.SlGeneric
import Derived.Test.YtofemaaikmhnlabProg
namespace Go.Proofs
open Go.Shelf
def Try.keys47_ren : Go.Shelf.Ren := ⟨fun | 7 => 47 | 10 => 66 | n => n, fun | 23 => 104 | 26 => 9 | 3 => 109 | 28 => 115 | 0 => 0 | 27 => 114 | 33 => 137 | 4 => 4 | n => n, fun | n => n⟩
theorem Try.keys47 : Go.Proofs.SlLaysZ.n7 Try.prog Try.keys47_ren := {
  mixed := by kernel_rfl
  f7 := ⟨Try.f47.name, by decide, Try.func47.trans (congrArg some (by kernel_rfl))⟩
  f10 := ⟨Try.f66.name, by decide, Try.func66.trans (congrArg some (by kernel_rfl))⟩
  t0 := Try.underlying0
  a0 := Try.isAgg0
  z0 := Try.sizeOf0
  v0 := Try.zeroValue0
  t4 := Try.underlying4
  a4 := Try.isAgg4
  z4 := Try.sizeOf4
  v4 := Try.zeroValue4
  t23 := Try.underlying104
  a23 := Try.isAgg104
  z23 := Try.sizeOf104
  v23 := Try.zeroValue104
  t26 := Try.underlying9
  a26 := Try.isAgg9
  z26 := Try.sizeOf9
  v26 := Try.zeroValue9
  t27 := Try.underlying114
  a27 := Try.isAgg114
  z27 := Try.sizeOf114
  v27 := Try.zeroValue114
  t28 := Try.underlying115
  a28 := Try.isAgg115
  z28 := Try.sizeOf115
  v28 := Try.zeroValue115
  t33 := Try.underlying137
  a33 := Try.isAgg137
  z33 := Try.sizeOf137
  v33 := Try.zeroValue137 }
def Try.sorted46_ren : Go.Shelf.Ren := ⟨fun | 6 => 46 | 8 => 64 | 9 => 65 | 11 => 75 | 13 => 77 | 12 => 76 | 23 => 88 | 24 => 89 | 14 => 79 | 15 => 80 | 16 => 81 | 17 => 82 | 18 => 83 | 19 => 84 | 20 => 85 | 21 => 86 | 22 => 87 | 25 => 90 | 26 => 91 | 27 => 92 | 28 => 93 | 29 => 94 | 30 => 95 | 31 => 96 | n => n, fun | 26 => 9 | 28 => 115 | 24 => 45 | 0 => 0 | 3 => 3 | 37 => 145 | 48 => 163 | 50 => 119 | 4 => 4 | 40 => 155 | 39 => 154 | 45 => 160 | 5 => 5 | 9 => 9 | 51 => 165 | 55 => 169 | 57 => 171 | 58 => 172 | 33 => 137 | n => n, fun | n => n⟩
theorem Try.sorted46 : Go.Proofs.SlLaysZ.n6 Try.prog Try.sorted46_ren := {
  mixed := by kernel_rfl
  f6 := ⟨Try.f46.name, by decide, Try.func46.trans (congrArg some (by kernel_rfl))⟩
  f8 := ⟨Try.f64.name, by decide, Try.func64.trans (congrArg some (by kernel_rfl))⟩
  f11 := ⟨Try.f75.name, by decide, Try.func75.trans (congrArg some (by kernel_rfl))⟩
  t0 := Try.underlying0
  a0 := Try.isAgg0
  z0 := Try.sizeOf0
  v0 := Try.zeroValue0
  t24 := Try.underlying45
  a24 := Try.isAgg45
  z24 := Try.sizeOf45
  v24 := Try.zeroValue45
  t26 := Try.underlying9
  a26 := Try.isAgg9
  z26 := Try.sizeOf9
  v26 := Try.zeroValue9
  t28 := Try.underlying115
  a28 := Try.isAgg115
  z28 := Try.sizeOf115
  v28 := Try.zeroValue115
  i26 := by kernel_rfl }
def Try.sort65_ren : Go.Shelf.Ren := ⟨fun | 6 => 65 | 8 => 77 | 9 => 76 | 19 => 88 | 20 => 89 | 21 => 79 | 22 => 80 | 23 => 81 | 24 => 82 | 25 => 83 | 26 => 84 | 27 => 85 | 28 => 86 | 29 => 87 | 36 => 90 | 31 => 91 | 32 => 92 | 37 => 93 | 38 => 94 | 39 => 95 | 41 => 96 | n => n, fun | 27 => 45 | 29 => 9 | 3 => 3 | 32 => 145 | 26 => 45 | 0 => 0 | 44 => 163 | 46 => 119 | 4 => 4 | 36 => 155 | 35 => 154 | 41 => 160 | 5 => 5 | 9 => 9 | 53 => 165 | 57 => 169 | 63 => 171 | 64 => 172 | n => n, fun | n => n⟩
theorem Try.sort65 : Go.Proofs.SlLaysM.n6 Try.prog Try.sort65_ren := {
  mixed := by kernel_rfl
  f6 := ⟨Try.f65.name, by decide, Try.func65.trans (congrArg some (by kernel_rfl))⟩
  f8 := Try.func77.trans (congrArg some (by kernel_rfl))
  f9 := ⟨Try.f76.name, by decide, Try.func76.trans (congrArg some (by kernel_rfl))⟩
  f19 := Try.func88.trans (congrArg some (by kernel_rfl))
  f20 := Try.func89.trans (congrArg some (by kernel_rfl))
  f21 := ⟨Try.f79.name, by decide, Try.func79.trans (congrArg some (by kernel_rfl))⟩
  f22 := ⟨Try.f80.name, by decide, Try.func80.trans (congrArg some (by kernel_rfl))⟩
  f23 := ⟨Try.f81.name, by decide, Try.func81.trans (congrArg some (by kernel_rfl))⟩
  f24 := ⟨Try.f82.name, by decide, Try.func82.trans (congrArg some (by kernel_rfl))⟩
  f25 := ⟨Try.f83.name, by decide, Try.func83.trans (congrArg some (by kernel_rfl))⟩
  f26 := ⟨Try.f84.name, by decide, Try.func84.trans (congrArg some (by kernel_rfl))⟩
  f27 := ⟨Try.f85.name, by decide, Try.func85.trans (congrArg some (by kernel_rfl))⟩
  f28 := ⟨Try.f86.name, by decide, Try.func86.trans (congrArg some (by kernel_rfl))⟩
  f29 := ⟨Try.f87.name, by decide, Try.func87.trans (congrArg some (by kernel_rfl))⟩
  f31 := Try.func91.trans (congrArg some (by kernel_rfl))
  f32 := Try.func92.trans (congrArg some (by kernel_rfl))
  f36 := ⟨Try.f90.name, by decide, Try.func90.trans (congrArg some (by kernel_rfl))⟩
  f37 := ⟨Try.f93.name, by decide, Try.func93.trans (congrArg some (by kernel_rfl))⟩
  f38 := ⟨Try.f94.name, by decide, Try.func94.trans (congrArg some (by kernel_rfl))⟩
  f39 := ⟨Try.f95.name, by decide, Try.func95.trans (congrArg some (by kernel_rfl))⟩
  f41 := ⟨Try.f96.name, by decide, Try.func96.trans (congrArg some (by kernel_rfl))⟩
  t0 := Try.underlying0
  a0 := Try.isAgg0
  z0 := Try.sizeOf0
  v0 := Try.zeroValue0
  t3 := Try.underlying3
  a3 := Try.isAgg3
  z3 := Try.sizeOf3
  v3 := Try.zeroValue3
  t4 := Try.underlying4
  a4 := Try.isAgg4
  z4 := Try.sizeOf4
  v4 := Try.zeroValue4
  t5 := Try.underlying5
  a5 := Try.isAgg5
  z5 := Try.sizeOf5
  v5 := Try.zeroValue5
  t9 := Try.underlying9
  a9 := Try.isAgg9
  z9 := Try.sizeOf9
  v9 := Try.zeroValue9
  t26 := Try.underlying45
  a26 := Try.isAgg45
  z26 := Try.sizeOf45
  v26 := Try.zeroValue45
  t27 := Try.underlying45
  a27 := Try.isAgg45
  z27 := Try.sizeOf45
  v27 := Try.zeroValue45
  t29 := Try.underlying9
  a29 := Try.isAgg9
  z29 := Try.sizeOf9
  v29 := Try.zeroValue9
  t32 := Try.underlying145
  a32 := Try.isAgg145
  z32 := Try.sizeOf145
  v32 := Try.zeroValue145
  t35 := Try.underlying154
  a35 := Try.isAgg154
  z35 := Try.sizeOf154
  v35 := Try.zeroValue154
  t36 := Try.underlying155
  a36 := Try.isAgg155
  z36 := Try.sizeOf155
  v36 := Try.zeroValue155
  t41 := Try.underlying160
  a41 := Try.isAgg160
  z41 := Try.sizeOf160
  v41 := Try.zeroValue160
  t44 := Try.underlying163
  a44 := Try.isAgg163
  z44 := Try.sizeOf163
  v44 := Try.zeroValue163
  t46 := Try.underlying119
  a46 := Try.isAgg119
  z46 := Try.sizeOf119
  v46 := Try.zeroValue119
  t53 := Try.underlying165
  a53 := Try.isAgg165
  z53 := Try.sizeOf165
  v53 := Try.zeroValue165
  t57 := Try.underlying169
  a57 := Try.isAgg169
  z57 := Try.sizeOf169
  v57 := Try.zeroValue169
  t63 := Try.underlying171
  a63 := Try.isAgg171
  z63 := Try.sizeOf171
  v63 := Try.zeroValue171
  t64 := Try.underlying172
  a64 := Try.isAgg172
  z64 := Try.sizeOf172
  v64 := Try.zeroValue172 }
end Go.Proofs
