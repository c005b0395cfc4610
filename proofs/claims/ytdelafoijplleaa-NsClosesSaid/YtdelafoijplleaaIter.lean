/-
  DERIVED: THE SHELF's CONTRACTS AT THIS DUMP, IN PLAIN WORDS (tools/lay-plain.mjs out of 'TryIter.lean', which tools/lay-shelf.mjs wrote): THE SAME DECLARATIONS UNDER THE SAME NAMES: 'import', 'namespace', 'open', 'def', 'theorem' AND NOTHING ELSE: no command of the shelf's: FOR A HAND-IN. Each laying: the table of numbers ('.._ren') and one theorem, a field a fact of the dump's own or the kernel's comparison; each contract: ONE APPLICATION.
-/
import Derived.Shelf.SlGeneric
import Derived.Shelf.SlIter.Nil
import Derived.Shelf.SortM.Plain
import Derived.Shelf.SortM.SortNone
import Derived.Shelf.SlMaps.Copy
import Derived.Ground.GgzProg
import Derived.Ground.SlgmProg
import Derived.Ground.SlmpProg
import Derived.Test.YtdelafoijplleaaProg
namespace Go.Proofs
open Go.Shelf
def Try.keys21_ren : Go.Shelf.Ren := ⟨fun | 7 => 21 | 10 => 29 | n => n, fun | 23 => 61 | 26 => 9 | 3 => 9 | 28 => 67 | 0 => 0 | 27 => 66 | 33 => 73 | 4 => 4 | n => n, fun | n => n⟩
theorem Try.keys21 : Go.Proofs.SlLaysZ.n7 Try.prog Try.keys21_ren := {
  mixed := by kernel_rfl
  f7 := ⟨Try.f21.name, by decide, Try.func21.trans (congrArg some (by kernel_rfl))⟩
  f10 := ⟨Try.f29.name, by decide, Try.func29.trans (congrArg some (by kernel_rfl))⟩
  t0 := Try.underlying0
  a0 := Try.isAgg0
  z0 := Try.sizeOf0
  v0 := Try.zeroValue0
  t4 := Try.underlying4
  a4 := Try.isAgg4
  z4 := Try.sizeOf4
  v4 := Try.zeroValue4
  t23 := Try.underlying61
  a23 := Try.isAgg61
  z23 := Try.sizeOf61
  v23 := Try.zeroValue61
  t26 := Try.underlying9
  a26 := Try.isAgg9
  z26 := Try.sizeOf9
  v26 := Try.zeroValue9
  t27 := Try.underlying66
  a27 := Try.isAgg66
  z27 := Try.sizeOf66
  v27 := Try.zeroValue66
  t28 := Try.underlying67
  a28 := Try.isAgg67
  z28 := Try.sizeOf67
  v28 := Try.zeroValue67
  t33 := Try.underlying73
  a33 := Try.isAgg73
  z33 := Try.sizeOf73
  v33 := Try.zeroValue73 }
def Try.sorted20_ren : Go.Shelf.Ren := ⟨fun | 6 => 20 | 8 => 27 | 9 => 28 | 11 => 36 | 13 => 38 | 12 => 37 | 23 => 53 | 24 => 54 | 14 => 44 | 15 => 45 | 16 => 46 | 17 => 47 | 18 => 48 | 19 => 49 | 20 => 50 | 21 => 51 | 22 => 52 | 25 => 59 | 26 => 60 | 27 => 61 | 28 => 62 | 29 => 63 | 30 => 64 | 31 => 70 | n => n, fun | 26 => 9 | 28 => 67 | 24 => 54 | 0 => 0 | 3 => 3 | 37 => 85 | 48 => 97 | 50 => 99 | 4 => 4 | 40 => 90 | 39 => 89 | 45 => 94 | 5 => 5 | 9 => 9 | 51 => 103 | 55 => 107 | 57 => 112 | 58 => 113 | 33 => 73 | n => n, fun | n => n⟩
theorem Try.sorted20 : Go.Proofs.SlLaysZ.n6 Try.prog Try.sorted20_ren := {
  mixed := by kernel_rfl
  f6 := ⟨Try.f20.name, by decide, Try.func20.trans (congrArg some (by kernel_rfl))⟩
  f8 := ⟨Try.f27.name, by decide, Try.func27.trans (congrArg some (by kernel_rfl))⟩
  f11 := ⟨Try.f36.name, by decide, Try.func36.trans (congrArg some (by kernel_rfl))⟩
  t0 := Try.underlying0
  a0 := Try.isAgg0
  z0 := Try.sizeOf0
  v0 := Try.zeroValue0
  t24 := Try.underlying54
  a24 := Try.isAgg54
  z24 := Try.sizeOf54
  v24 := Try.zeroValue54
  t26 := Try.underlying9
  a26 := Try.isAgg9
  z26 := Try.sizeOf9
  v26 := Try.zeroValue9
  t28 := Try.underlying67
  a28 := Try.isAgg67
  z28 := Try.sizeOf67
  v28 := Try.zeroValue67
  i26 := by kernel_rfl }
def Try.sort28_ren : Go.Shelf.Ren := ⟨fun | 6 => 28 | 8 => 38 | 9 => 37 | 19 => 53 | 20 => 54 | 21 => 44 | 22 => 45 | 23 => 46 | 24 => 47 | 25 => 48 | 26 => 49 | 27 => 50 | 28 => 51 | 29 => 52 | 36 => 59 | 31 => 60 | 32 => 61 | 37 => 62 | 38 => 63 | 39 => 64 | 41 => 70 | n => n, fun | 27 => 54 | 29 => 9 | 3 => 3 | 32 => 85 | 26 => 54 | 0 => 0 | 44 => 97 | 46 => 99 | 4 => 4 | 36 => 90 | 35 => 89 | 41 => 94 | 5 => 5 | 9 => 9 | 53 => 103 | 57 => 107 | 63 => 112 | 64 => 113 | n => n, fun | n => n⟩
theorem Try.sort28 : Go.Proofs.SlLaysM.n6 Try.prog Try.sort28_ren := {
  mixed := by kernel_rfl
  f6 := ⟨Try.f28.name, by decide, Try.func28.trans (congrArg some (by kernel_rfl))⟩
  f8 := Try.func38.trans (congrArg some (by kernel_rfl))
  f9 := ⟨Try.f37.name, by decide, Try.func37.trans (congrArg some (by kernel_rfl))⟩
  f19 := Try.func53.trans (congrArg some (by kernel_rfl))
  f20 := Try.func54.trans (congrArg some (by kernel_rfl))
  f21 := ⟨Try.f44.name, by decide, Try.func44.trans (congrArg some (by kernel_rfl))⟩
  f22 := ⟨Try.f45.name, by decide, Try.func45.trans (congrArg some (by kernel_rfl))⟩
  f23 := ⟨Try.f46.name, by decide, Try.func46.trans (congrArg some (by kernel_rfl))⟩
  f24 := ⟨Try.f47.name, by decide, Try.func47.trans (congrArg some (by kernel_rfl))⟩
  f25 := ⟨Try.f48.name, by decide, Try.func48.trans (congrArg some (by kernel_rfl))⟩
  f26 := ⟨Try.f49.name, by decide, Try.func49.trans (congrArg some (by kernel_rfl))⟩
  f27 := ⟨Try.f50.name, by decide, Try.func50.trans (congrArg some (by kernel_rfl))⟩
  f28 := ⟨Try.f51.name, by decide, Try.func51.trans (congrArg some (by kernel_rfl))⟩
  f29 := ⟨Try.f52.name, by decide, Try.func52.trans (congrArg some (by kernel_rfl))⟩
  f31 := Try.func60.trans (congrArg some (by kernel_rfl))
  f32 := Try.func61.trans (congrArg some (by kernel_rfl))
  f36 := ⟨Try.f59.name, by decide, Try.func59.trans (congrArg some (by kernel_rfl))⟩
  f37 := ⟨Try.f62.name, by decide, Try.func62.trans (congrArg some (by kernel_rfl))⟩
  f38 := ⟨Try.f63.name, by decide, Try.func63.trans (congrArg some (by kernel_rfl))⟩
  f39 := ⟨Try.f64.name, by decide, Try.func64.trans (congrArg some (by kernel_rfl))⟩
  f41 := ⟨Try.f70.name, by decide, Try.func70.trans (congrArg some (by kernel_rfl))⟩
  t0 := Try.underlying0
  a0 := Try.isAgg0
  z0 := Try.sizeOf0
  v0 := Try.zeroValue0
  t3 := Try.underlying3
  a3 := Try.isAgg3
  z3 := Try.sizeOf3
  v3 := Try.zeroValue3
  t4 := Try.underlying4
  a4 := Try.isAgg4
  z4 := Try.sizeOf4
  v4 := Try.zeroValue4
  t5 := Try.underlying5
  a5 := Try.isAgg5
  z5 := Try.sizeOf5
  v5 := Try.zeroValue5
  t9 := Try.underlying9
  a9 := Try.isAgg9
  z9 := Try.sizeOf9
  v9 := Try.zeroValue9
  t26 := Try.underlying54
  a26 := Try.isAgg54
  z26 := Try.sizeOf54
  v26 := Try.zeroValue54
  t27 := Try.underlying54
  a27 := Try.isAgg54
  z27 := Try.sizeOf54
  v27 := Try.zeroValue54
  t29 := Try.underlying9
  a29 := Try.isAgg9
  z29 := Try.sizeOf9
  v29 := Try.zeroValue9
  t32 := Try.underlying85
  a32 := Try.isAgg85
  z32 := Try.sizeOf85
  v32 := Try.zeroValue85
  t35 := Try.underlying89
  a35 := Try.isAgg89
  z35 := Try.sizeOf89
  v35 := Try.zeroValue89
  t36 := Try.underlying90
  a36 := Try.isAgg90
  z36 := Try.sizeOf90
  v36 := Try.zeroValue90
  t41 := Try.underlying94
  a41 := Try.isAgg94
  z41 := Try.sizeOf94
  v41 := Try.zeroValue94
  t44 := Try.underlying97
  a44 := Try.isAgg97
  z44 := Try.sizeOf97
  v44 := Try.zeroValue97
  t46 := Try.underlying99
  a46 := Try.isAgg99
  z46 := Try.sizeOf99
  v46 := Try.zeroValue99
  t53 := Try.underlying103
  a53 := Try.isAgg103
  z53 := Try.sizeOf103
  v53 := Try.zeroValue103
  t57 := Try.underlying107
  a57 := Try.isAgg107
  z57 := Try.sizeOf107
  v57 := Try.zeroValue107
  t63 := Try.underlying112
  a63 := Try.isAgg112
  z63 := Try.sizeOf112
  v63 := Try.zeroValue112
  t64 := Try.underlying113
  a64 := Try.isAgg113
  z64 := Try.sizeOf113
  v64 := Try.zeroValue113 }
def Try.copy19_ren : Go.Shelf.Ren := ⟨fun | 5 => 19 | n => n, fun | 23 => 61 | 24 => 61 | 26 => 9 | 27 => 9 | 0 => 0 | 4 => 4 | n => n, fun | n => n⟩
theorem Try.copy19 : Go.Proofs.SlLaysX.n5 Try.prog Try.copy19_ren := {
  mixed := by kernel_rfl
  f5 := ⟨Try.f19.name, by decide, Try.func19.trans (congrArg some (by kernel_rfl))⟩
  t0 := Try.underlying0
  a0 := Try.isAgg0
  z0 := Try.sizeOf0
  v0 := Try.zeroValue0
  t4 := Try.underlying4
  a4 := Try.isAgg4
  z4 := Try.sizeOf4
  v4 := Try.zeroValue4
  t23 := Try.underlying61
  a23 := Try.isAgg61
  z23 := Try.sizeOf61
  v23 := Try.zeroValue61
  t24 := Try.underlying61
  a24 := Try.isAgg61
  z24 := Try.sizeOf61
  v24 := Try.zeroValue61
  a26 := Try.isAgg9
  z26 := Try.sizeOf9
  a27 := Try.isAgg9
  z27 := Try.sizeOf9 }
end Go.Proofs
