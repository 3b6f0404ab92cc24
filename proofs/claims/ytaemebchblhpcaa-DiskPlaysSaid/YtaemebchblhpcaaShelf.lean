/-
  DERIVED: THE SHELF's CONTRACTS AT THIS DUMP, IN PLAIN WORDS (tools/lay-plain.mjs out of 'YtaemebchblhpcaaShelf.lean', which tools/lay-shelf.mjs wrote): THE SAME DECLARATIONS UNDER THE SAME NAMES: 'import', 'namespace', 'open', 'def', 'theorem' AND NOTHING ELSE: no command of the shelf's: FOR A HAND-IN. Each laying: the table of numbers ('.._ren') and one theorem, a field a fact of the dump's own or the kernel's comparison; each contract: ONE APPLICATION.
-/
import Derived.Shelf.SlIter.Nil
import Derived.Shelf.SortM.Plain
import Derived.Shelf.SortM.SortNone
import Derived.Shelf.SlMaps.Clone
import Derived.Ground.GgzProg
import Derived.Ground.SlgmProg
import Derived.Ground.SlmcProg
import Derived.Test.YtaemebchblhpcaaProg
namespace Go.Proofs
open Go.Shelf
def Try.keysF_ren : Go.Shelf.Ren := ⟨fun | 7 => 48 | 10 => 60 | n => n, fun | 23 => 57 | 26 => 9 | 3 => 66 | 28 => 72 | 0 => 0 | 27 => 71 | 33 => 61 | 4 => 4 | n => n, fun | n => n⟩
theorem Try.keysF : Go.Proofs.SlLaysZ.n7 Try.prog Try.keysF_ren := {
  mixed := by kernel_rfl
  f7 := ⟨Try.f48.name, by decide, Try.func48.trans (congrArg some (by kernel_rfl))⟩
  f10 := ⟨Try.f60.name, by decide, Try.func60.trans (congrArg some (by kernel_rfl))⟩
  t0 := Try.underlying0
  a0 := Try.isAgg0
  z0 := Try.sizeOf0
  v0 := Try.zeroValue0
  t4 := Try.underlying4
  a4 := Try.isAgg4
  z4 := Try.sizeOf4
  v4 := Try.zeroValue4
  t23 := Try.underlying57
  a23 := Try.isAgg57
  z23 := Try.sizeOf57
  v23 := Try.zeroValue57
  t26 := Try.underlying9
  a26 := Try.isAgg9
  z26 := Try.sizeOf9
  v26 := Try.zeroValue9
  t27 := Try.underlying71
  a27 := Try.isAgg71
  z27 := Try.sizeOf71
  v27 := Try.zeroValue71
  t28 := Try.underlying72
  a28 := Try.isAgg72
  z28 := Try.sizeOf72
  v28 := Try.zeroValue72
  t33 := Try.underlying61
  a33 := Try.isAgg61
  z33 := Try.sizeOf61
  v33 := Try.zeroValue61 }
def Try.sortedF_ren : Go.Shelf.Ren := ⟨fun | 6 => 47 | 8 => 58 | 9 => 59 | 11 => 61 | 13 => 63 | 12 => 62 | 23 => 73 | 24 => 74 | 14 => 64 | 15 => 65 | 16 => 66 | 17 => 67 | 18 => 68 | 19 => 69 | 20 => 70 | 21 => 71 | 22 => 72 | 25 => 75 | 26 => 76 | 27 => 77 | 28 => 78 | 29 => 79 | 30 => 80 | 31 => 81 | n => n, fun | 26 => 9 | 28 => 72 | 24 => 22 | 0 => 0 | 3 => 3 | 37 => 86 | 48 => 96 | 50 => 98 | 4 => 4 | 40 => 89 | 39 => 88 | 45 => 78 | 5 => 5 | 9 => 9 | 51 => 99 | 55 => 103 | 57 => 105 | 58 => 106 | 33 => 61 | n => n, fun | n => n⟩
theorem Try.sortedF : Go.Proofs.SlLaysZ.n6 Try.prog Try.sortedF_ren := {
  mixed := by kernel_rfl
  f6 := ⟨Try.f47.name, by decide, Try.func47.trans (congrArg some (by kernel_rfl))⟩
  f8 := ⟨Try.f58.name, by decide, Try.func58.trans (congrArg some (by kernel_rfl))⟩
  f11 := ⟨Try.f61.name, by decide, Try.func61.trans (congrArg some (by kernel_rfl))⟩
  t0 := Try.underlying0
  a0 := Try.isAgg0
  z0 := Try.sizeOf0
  v0 := Try.zeroValue0
  t24 := Try.underlying22
  a24 := Try.isAgg22
  z24 := Try.sizeOf22
  v24 := Try.zeroValue22
  t26 := Try.underlying9
  a26 := Try.isAgg9
  z26 := Try.sizeOf9
  v26 := Try.zeroValue9
  t28 := Try.underlying72
  a28 := Try.isAgg72
  z28 := Try.sizeOf72
  v28 := Try.zeroValue72
  i26 := by kernel_rfl }
def Try.sortF_ren : Go.Shelf.Ren := ⟨fun | 6 => 59 | 8 => 63 | 9 => 62 | 19 => 73 | 20 => 74 | 21 => 64 | 22 => 65 | 23 => 66 | 24 => 67 | 25 => 68 | 26 => 69 | 27 => 70 | 28 => 71 | 29 => 72 | 36 => 75 | 31 => 76 | 32 => 77 | 37 => 78 | 38 => 79 | 39 => 80 | 41 => 81 | n => n, fun | 27 => 22 | 29 => 9 | 3 => 3 | 32 => 86 | 26 => 22 | 0 => 0 | 44 => 96 | 46 => 98 | 4 => 4 | 36 => 89 | 35 => 88 | 41 => 78 | 5 => 5 | 9 => 9 | 53 => 99 | 57 => 103 | 63 => 105 | 64 => 106 | n => n, fun | n => n⟩
theorem Try.sortF : Go.Proofs.SlLaysM.n6 Try.prog Try.sortF_ren := {
  mixed := by kernel_rfl
  f6 := ⟨Try.f59.name, by decide, Try.func59.trans (congrArg some (by kernel_rfl))⟩
  f8 := Try.func63.trans (congrArg some (by kernel_rfl))
  f9 := ⟨Try.f62.name, by decide, Try.func62.trans (congrArg some (by kernel_rfl))⟩
  f19 := Try.func73.trans (congrArg some (by kernel_rfl))
  f20 := Try.func74.trans (congrArg some (by kernel_rfl))
  f21 := ⟨Try.f64.name, by decide, Try.func64.trans (congrArg some (by kernel_rfl))⟩
  f22 := ⟨Try.f65.name, by decide, Try.func65.trans (congrArg some (by kernel_rfl))⟩
  f23 := ⟨Try.f66.name, by decide, Try.func66.trans (congrArg some (by kernel_rfl))⟩
  f24 := ⟨Try.f67.name, by decide, Try.func67.trans (congrArg some (by kernel_rfl))⟩
  f25 := ⟨Try.f68.name, by decide, Try.func68.trans (congrArg some (by kernel_rfl))⟩
  f26 := ⟨Try.f69.name, by decide, Try.func69.trans (congrArg some (by kernel_rfl))⟩
  f27 := ⟨Try.f70.name, by decide, Try.func70.trans (congrArg some (by kernel_rfl))⟩
  f28 := ⟨Try.f71.name, by decide, Try.func71.trans (congrArg some (by kernel_rfl))⟩
  f29 := ⟨Try.f72.name, by decide, Try.func72.trans (congrArg some (by kernel_rfl))⟩
  f31 := Try.func76.trans (congrArg some (by kernel_rfl))
  f32 := Try.func77.trans (congrArg some (by kernel_rfl))
  f36 := ⟨Try.f75.name, by decide, Try.func75.trans (congrArg some (by kernel_rfl))⟩
  f37 := ⟨Try.f78.name, by decide, Try.func78.trans (congrArg some (by kernel_rfl))⟩
  f38 := ⟨Try.f79.name, by decide, Try.func79.trans (congrArg some (by kernel_rfl))⟩
  f39 := ⟨Try.f80.name, by decide, Try.func80.trans (congrArg some (by kernel_rfl))⟩
  f41 := ⟨Try.f81.name, by decide, Try.func81.trans (congrArg some (by kernel_rfl))⟩
  t0 := Try.underlying0
  a0 := Try.isAgg0
  z0 := Try.sizeOf0
  v0 := Try.zeroValue0
  t3 := Try.underlying3
  a3 := Try.isAgg3
  z3 := Try.sizeOf3
  v3 := Try.zeroValue3
  t4 := Try.underlying4
  a4 := Try.isAgg4
  z4 := Try.sizeOf4
  v4 := Try.zeroValue4
  t5 := Try.underlying5
  a5 := Try.isAgg5
  z5 := Try.sizeOf5
  v5 := Try.zeroValue5
  t9 := Try.underlying9
  a9 := Try.isAgg9
  z9 := Try.sizeOf9
  v9 := Try.zeroValue9
  t26 := Try.underlying22
  a26 := Try.isAgg22
  z26 := Try.sizeOf22
  v26 := Try.zeroValue22
  t27 := Try.underlying22
  a27 := Try.isAgg22
  z27 := Try.sizeOf22
  v27 := Try.zeroValue22
  t29 := Try.underlying9
  a29 := Try.isAgg9
  z29 := Try.sizeOf9
  v29 := Try.zeroValue9
  t32 := Try.underlying86
  a32 := Try.isAgg86
  z32 := Try.sizeOf86
  v32 := Try.zeroValue86
  t35 := Try.underlying88
  a35 := Try.isAgg88
  z35 := Try.sizeOf88
  v35 := Try.zeroValue88
  t36 := Try.underlying89
  a36 := Try.isAgg89
  z36 := Try.sizeOf89
  v36 := Try.zeroValue89
  t41 := Try.underlying78
  a41 := Try.isAgg78
  z41 := Try.sizeOf78
  v41 := Try.zeroValue78
  t44 := Try.underlying96
  a44 := Try.isAgg96
  z44 := Try.sizeOf96
  v44 := Try.zeroValue96
  t46 := Try.underlying98
  a46 := Try.isAgg98
  z46 := Try.sizeOf98
  v46 := Try.zeroValue98
  t53 := Try.underlying99
  a53 := Try.isAgg99
  z53 := Try.sizeOf99
  v53 := Try.zeroValue99
  t57 := Try.underlying103
  a57 := Try.isAgg103
  z57 := Try.sizeOf103
  v57 := Try.zeroValue103
  t63 := Try.underlying105
  a63 := Try.isAgg105
  z63 := Try.sizeOf105
  v63 := Try.zeroValue105
  t64 := Try.underlying106
  a64 := Try.isAgg106
  z64 := Try.sizeOf106
  v64 := Try.zeroValue106 }
def Try.cloneF_ren : Go.Shelf.Ren := ⟨fun | 5 => 39 | 7 => 52 | n => n, fun | 23 => 57 | 25 => 9 | 3 => 66 | 4 => 4 | 20 => 20 | n => n, fun | n => n⟩
theorem Try.cloneF : Go.Proofs.SlLaysW.n5 Try.prog Try.cloneF_ren := {
  mixed := by kernel_rfl
  f5 := ⟨Try.f39.name, by decide, Try.func39.trans (congrArg some (by kernel_rfl))⟩
  f7 := Try.func52.trans (congrArg some (by kernel_rfl))
  t4 := Try.underlying4
  a4 := Try.isAgg4
  z4 := Try.sizeOf4
  v4 := Try.zeroValue4
  t20 := Try.underlying20
  a20 := Try.isAgg20
  z20 := Try.sizeOf20
  v20 := Try.zeroValue20
  t23 := Try.underlying57
  a23 := Try.isAgg57
  z23 := Try.sizeOf57
  v23 := Try.zeroValue57 }
end Go.Proofs
