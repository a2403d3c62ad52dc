/-
  Which functions of this program are the library functions of which the kit has contracts: each body is compared. Written by the kit's lay-plain.mjs. Conditions: none.
-/
import Derived.Shelf.SlIter.Nil
import Derived.Shelf.SortM.Plain
import Derived.Shelf.SortM.SortNone
import Derived.Ground.GgzProg
import Derived.Ground.SlgmProg
import Derived.Shelf.SlGeneric
import Derived.Test.YtnapfiheholhiaaProg
set_option linter.unusedVariables false
set_option linter.unusedSimpArgs false
namespace Go.Proofs
open Go.Shelf
def Try.keys38_ren : Go.Shelf.Ren := ⟨fun | 7 => 38 | 10 => 54 | n => n, fun | 23 => 58 | 26 => 9 | 3 => 26 | 28 => 75 | 0 => 0 | 27 => 74 | 33 => 42 | 4 => 4 | n => n, fun | n => n⟩
theorem Try.keys38 : Go.Proofs.SlLaysZ.n7 Try.prog Try.keys38_ren := {
  mixed := by kernel_rfl
  f7 := ⟨Try.f38.name, by decide, Try.func38.trans (congrArg some (by kernel_rfl))⟩
  f10 := ⟨Try.f54.name, by decide, Try.func54.trans (congrArg some (by kernel_rfl))⟩
  t0 := Try.underlying0
  a0 := Try.isAgg0
  z0 := Try.sizeOf0
  v0 := Try.zeroValue0
  t4 := Try.underlying4
  a4 := Try.isAgg4
  z4 := Try.sizeOf4
  v4 := Try.zeroValue4
  t23 := Try.underlying58
  a23 := Try.isAgg58
  z23 := Try.sizeOf58
  v23 := Try.zeroValue58
  t26 := Try.underlying9
  a26 := Try.isAgg9
  z26 := Try.sizeOf9
  v26 := Try.zeroValue9
  t27 := Try.underlying74
  a27 := Try.isAgg74
  z27 := Try.sizeOf74
  v27 := Try.zeroValue74
  t28 := Try.underlying75
  a28 := Try.isAgg75
  z28 := Try.sizeOf75
  v28 := Try.zeroValue75
  t33 := Try.underlying42
  a33 := Try.isAgg42
  z33 := Try.sizeOf42
  v33 := Try.zeroValue42 }
def Try.sorted37_ren : Go.Shelf.Ren := ⟨fun | 6 => 37 | 8 => 52 | 9 => 53 | 11 => 60 | 13 => 62 | 12 => 61 | 23 => 78 | 24 => 79 | 14 => 69 | 15 => 70 | 16 => 71 | 17 => 72 | 18 => 73 | 19 => 74 | 20 => 75 | 21 => 76 | 22 => 77 | 25 => 81 | 26 => 82 | 27 => 83 | 28 => 84 | 29 => 85 | 30 => 86 | 31 => 87 | n => n, fun | 26 => 9 | 28 => 75 | 24 => 49 | 0 => 0 | 3 => 3 | 37 => 97 | 48 => 109 | 50 => 111 | 4 => 4 | 40 => 102 | 39 => 101 | 45 => 106 | 5 => 5 | 9 => 9 | 51 => 112 | 55 => 116 | 57 => 118 | 58 => 119 | 33 => 42 | n => n, fun | n => n⟩
theorem Try.sorted37 : Go.Proofs.SlLaysZ.n6 Try.prog Try.sorted37_ren := {
  mixed := by kernel_rfl
  f6 := ⟨Try.f37.name, by decide, Try.func37.trans (congrArg some (by kernel_rfl))⟩
  f8 := ⟨Try.f52.name, by decide, Try.func52.trans (congrArg some (by kernel_rfl))⟩
  f11 := ⟨Try.f60.name, by decide, Try.func60.trans (congrArg some (by kernel_rfl))⟩
  t0 := Try.underlying0
  a0 := Try.isAgg0
  z0 := Try.sizeOf0
  v0 := Try.zeroValue0
  t24 := Try.underlying49
  a24 := Try.isAgg49
  z24 := Try.sizeOf49
  v24 := Try.zeroValue49
  t26 := Try.underlying9
  a26 := Try.isAgg9
  z26 := Try.sizeOf9
  v26 := Try.zeroValue9
  t28 := Try.underlying75
  a28 := Try.isAgg75
  z28 := Try.sizeOf75
  v28 := Try.zeroValue75
  i26 := by kernel_rfl }
def Try.sort53_ren : Go.Shelf.Ren := ⟨fun | 6 => 53 | 8 => 62 | 9 => 61 | 19 => 78 | 20 => 79 | 21 => 69 | 22 => 70 | 23 => 71 | 24 => 72 | 25 => 73 | 26 => 74 | 27 => 75 | 28 => 76 | 29 => 77 | 36 => 81 | 31 => 82 | 32 => 83 | 37 => 84 | 38 => 85 | 39 => 86 | 41 => 87 | n => n, fun | 27 => 49 | 29 => 9 | 3 => 3 | 32 => 97 | 26 => 49 | 0 => 0 | 44 => 109 | 46 => 111 | 4 => 4 | 36 => 102 | 35 => 101 | 41 => 106 | 5 => 5 | 9 => 9 | 53 => 112 | 57 => 116 | 63 => 118 | 64 => 119 | n => n, fun | n => n⟩
theorem Try.sort53 : Go.Proofs.SlLaysM.n6 Try.prog Try.sort53_ren := {
  mixed := by kernel_rfl
  f6 := ⟨Try.f53.name, by decide, Try.func53.trans (congrArg some (by kernel_rfl))⟩
  f8 := Try.func62.trans (congrArg some (by kernel_rfl))
  f9 := ⟨Try.f61.name, by decide, Try.func61.trans (congrArg some (by kernel_rfl))⟩
  f19 := Try.func78.trans (congrArg some (by kernel_rfl))
  f20 := Try.func79.trans (congrArg some (by kernel_rfl))
  f21 := ⟨Try.f69.name, by decide, Try.func69.trans (congrArg some (by kernel_rfl))⟩
  f22 := ⟨Try.f70.name, by decide, Try.func70.trans (congrArg some (by kernel_rfl))⟩
  f23 := ⟨Try.f71.name, by decide, Try.func71.trans (congrArg some (by kernel_rfl))⟩
  f24 := ⟨Try.f72.name, by decide, Try.func72.trans (congrArg some (by kernel_rfl))⟩
  f25 := ⟨Try.f73.name, by decide, Try.func73.trans (congrArg some (by kernel_rfl))⟩
  f26 := ⟨Try.f74.name, by decide, Try.func74.trans (congrArg some (by kernel_rfl))⟩
  f27 := ⟨Try.f75.name, by decide, Try.func75.trans (congrArg some (by kernel_rfl))⟩
  f28 := ⟨Try.f76.name, by decide, Try.func76.trans (congrArg some (by kernel_rfl))⟩
  f29 := ⟨Try.f77.name, by decide, Try.func77.trans (congrArg some (by kernel_rfl))⟩
  f31 := Try.func82.trans (congrArg some (by kernel_rfl))
  f32 := Try.func83.trans (congrArg some (by kernel_rfl))
  f36 := ⟨Try.f81.name, by decide, Try.func81.trans (congrArg some (by kernel_rfl))⟩
  f37 := ⟨Try.f84.name, by decide, Try.func84.trans (congrArg some (by kernel_rfl))⟩
  f38 := ⟨Try.f85.name, by decide, Try.func85.trans (congrArg some (by kernel_rfl))⟩
  f39 := ⟨Try.f86.name, by decide, Try.func86.trans (congrArg some (by kernel_rfl))⟩
  f41 := ⟨Try.f87.name, by decide, Try.func87.trans (congrArg some (by kernel_rfl))⟩
  t0 := Try.underlying0
  a0 := Try.isAgg0
  z0 := Try.sizeOf0
  v0 := Try.zeroValue0
  t3 := Try.underlying3
  a3 := Try.isAgg3
  z3 := Try.sizeOf3
  v3 := Try.zeroValue3
  t4 := Try.underlying4
  a4 := Try.isAgg4
  z4 := Try.sizeOf4
  v4 := Try.zeroValue4
  t5 := Try.underlying5
  a5 := Try.isAgg5
  z5 := Try.sizeOf5
  v5 := Try.zeroValue5
  t9 := Try.underlying9
  a9 := Try.isAgg9
  z9 := Try.sizeOf9
  v9 := Try.zeroValue9
  t26 := Try.underlying49
  a26 := Try.isAgg49
  z26 := Try.sizeOf49
  v26 := Try.zeroValue49
  t27 := Try.underlying49
  a27 := Try.isAgg49
  z27 := Try.sizeOf49
  v27 := Try.zeroValue49
  t29 := Try.underlying9
  a29 := Try.isAgg9
  z29 := Try.sizeOf9
  v29 := Try.zeroValue9
  t32 := Try.underlying97
  a32 := Try.isAgg97
  z32 := Try.sizeOf97
  v32 := Try.zeroValue97
  t35 := Try.underlying101
  a35 := Try.isAgg101
  z35 := Try.sizeOf101
  v35 := Try.zeroValue101
  t36 := Try.underlying102
  a36 := Try.isAgg102
  z36 := Try.sizeOf102
  v36 := Try.zeroValue102
  t41 := Try.underlying106
  a41 := Try.isAgg106
  z41 := Try.sizeOf106
  v41 := Try.zeroValue106
  t44 := Try.underlying109
  a44 := Try.isAgg109
  z44 := Try.sizeOf109
  v44 := Try.zeroValue109
  t46 := Try.underlying111
  a46 := Try.isAgg111
  z46 := Try.sizeOf111
  v46 := Try.zeroValue111
  t53 := Try.underlying112
  a53 := Try.isAgg112
  z53 := Try.sizeOf112
  v53 := Try.zeroValue112
  t57 := Try.underlying116
  a57 := Try.isAgg116
  z57 := Try.sizeOf116
  v57 := Try.zeroValue116
  t63 := Try.underlying118
  a63 := Try.isAgg118
  z63 := Try.sizeOf118
  v63 := Try.zeroValue118
  t64 := Try.underlying119
  a64 := Try.isAgg119
  z64 := Try.sizeOf119
  v64 := Try.zeroValue119 }
end Go.Proofs
