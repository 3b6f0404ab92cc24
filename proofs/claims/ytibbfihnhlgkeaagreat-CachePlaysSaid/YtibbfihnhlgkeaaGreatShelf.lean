/-
  DERIVED: THE SHELF's CONTRACTS AT THIS DUMP, IN PLAIN WORDS (tools/lay-plain.mjs out of 'YtibbfihnhlgkeaaGreatShelf.lean', which tools/lay-shelf.mjs wrote): THE SAME DECLARATIONS UNDER THE SAME NAMES: 'import', 'namespace', 'open', 'def', 'theorem' AND NOTHING ELSE: no command of the shelf's: FOR A HAND-IN. Each laying: the table of numbers ('.._ren') and one theorem, a field a fact of the dump's own or the kernel's comparison; each contract: ONE APPLICATION.
-/
import Derived.Shelf.Slices.ReverseS
import Derived.Ground.Names2Prog
import Derived.Shelf.SlSortCmp.Whole1
import Derived.Ground.SlsfProg
import Derived.Test.YtibbfihnhlgkeaaGreatProg
namespace Go.Proofs
open Go.Shelf
def Tryz.revF_ren : Go.Shelf.Ren := ⟨fun | 17 => 82 | n => n, fun | 24 => 106 | 9 => 9 | 3 => 3 | 4 => 4 | 0 => 0 | n => n, fun | n => n⟩
theorem Tryz.revF : Go.Proofs.Lays2.n17 Tryz.prog Tryz.revF_ren := {
  mixed := by kernel_rfl
  f17 := Tryz.func82.trans (congrArg some (by kernel_rfl))
  t0 := Tryz.underlying0
  a0 := Tryz.isAgg0
  z0 := Tryz.sizeOf0
  v0 := Tryz.zeroValue0
  t3 := Tryz.underlying3
  a3 := Tryz.isAgg3
  z3 := Tryz.sizeOf3
  v3 := Tryz.zeroValue3
  t4 := Tryz.underlying4
  a4 := Tryz.isAgg4
  z4 := Tryz.sizeOf4
  v4 := Tryz.zeroValue4
  t9 := Tryz.underlying9
  a9 := Tryz.isAgg9
  z9 := Tryz.sizeOf9
  v9 := Tryz.zeroValue9
  t24 := Tryz.underlying106
  a24 := Tryz.isAgg106
  z24 := Tryz.sizeOf106
  v24 := Tryz.zeroValue106 }
def Tryz.sortFF_ren : Go.Shelf.Ren := ⟨fun | 6 => 56 | 15 => 76 | 14 => 75 | 28 => 91 | 29 => 92 | 20 => 83 | 21 => 84 | 22 => 85 | 23 => 86 | 24 => 87 | 25 => 88 | 26 => 89 | 27 => 90 | 46 => 98 | 47 => 99 | 48 => 100 | 49 => 101 | 50 => 102 | 57 => 105 | n => n, fun | 22 => 53 | 24 => 66 | 25 => 76 | 3 => 3 | 39 => 87 | 0 => 0 | 53 => 58 | 55 => 131 | 4 => 4 | 46 => 124 | 45 => 123 | 50 => 47 | 5 => 5 | 9 => 9 | 66 => 144 | 70 => 120 | 76 => 151 | 77 => 152 | n => n, fun | n => n⟩
theorem Tryz.sortFF : Go.Proofs.SlLaysF.n6 Tryz.prog Tryz.sortFF_ren := {
  mixed := by kernel_rfl
  f6 := ⟨Tryz.f56.name, by decide, Tryz.func56.trans (congrArg some (by kernel_rfl))⟩
  f14 := ⟨Tryz.f75.name, by decide, Tryz.func75.trans (congrArg some (by kernel_rfl))⟩
  f15 := Tryz.func76.trans (congrArg some (by kernel_rfl))
  f20 := ⟨Tryz.f83.name, by decide, Tryz.func83.trans (congrArg some (by kernel_rfl))⟩
  f21 := ⟨Tryz.f84.name, by decide, Tryz.func84.trans (congrArg some (by kernel_rfl))⟩
  f22 := ⟨Tryz.f85.name, by decide, Tryz.func85.trans (congrArg some (by kernel_rfl))⟩
  f23 := ⟨Tryz.f86.name, by decide, Tryz.func86.trans (congrArg some (by kernel_rfl))⟩
  f24 := ⟨Tryz.f87.name, by decide, Tryz.func87.trans (congrArg some (by kernel_rfl))⟩
  f25 := ⟨Tryz.f88.name, by decide, Tryz.func88.trans (congrArg some (by kernel_rfl))⟩
  f26 := ⟨Tryz.f89.name, by decide, Tryz.func89.trans (congrArg some (by kernel_rfl))⟩
  f27 := ⟨Tryz.f90.name, by decide, Tryz.func90.trans (congrArg some (by kernel_rfl))⟩
  f28 := Tryz.func91.trans (congrArg some (by kernel_rfl))
  f29 := Tryz.func92.trans (congrArg some (by kernel_rfl))
  f46 := ⟨Tryz.f98.name, by decide, Tryz.func98.trans (congrArg some (by kernel_rfl))⟩
  f47 := Tryz.func99.trans (congrArg some (by kernel_rfl))
  f48 := Tryz.func100.trans (congrArg some (by kernel_rfl))
  f49 := ⟨Tryz.f101.name, by decide, Tryz.func101.trans (congrArg some (by kernel_rfl))⟩
  f50 := ⟨Tryz.f102.name, by decide, Tryz.func102.trans (congrArg some (by kernel_rfl))⟩
  f57 := ⟨Tryz.f105.name, by decide, Tryz.func105.trans (congrArg some (by kernel_rfl))⟩
  t0 := Tryz.underlying0
  a0 := Tryz.isAgg0
  z0 := Tryz.sizeOf0
  v0 := Tryz.zeroValue0
  t3 := Tryz.underlying3
  a3 := Tryz.isAgg3
  z3 := Tryz.sizeOf3
  v3 := Tryz.zeroValue3
  t4 := Tryz.underlying4
  a4 := Tryz.isAgg4
  z4 := Tryz.sizeOf4
  v4 := Tryz.zeroValue4
  t5 := Tryz.underlying5
  a5 := Tryz.isAgg5
  z5 := Tryz.sizeOf5
  v5 := Tryz.zeroValue5
  t9 := Tryz.underlying9
  a9 := Tryz.isAgg9
  z9 := Tryz.sizeOf9
  v9 := Tryz.zeroValue9
  t22 := Tryz.underlying53
  a22 := Tryz.isAgg53
  z22 := Tryz.sizeOf53
  v22 := Tryz.zeroValue53
  a24 := Tryz.isAgg66
  z24 := Tryz.sizeOf66
  t25 := Tryz.underlying76
  a25 := Tryz.isAgg76
  z25 := Tryz.sizeOf76
  v25 := Tryz.zeroValue76
  t39 := Tryz.underlying87
  a39 := Tryz.isAgg87
  z39 := Tryz.sizeOf87
  v39 := Tryz.zeroValue87
  t45 := Tryz.underlying123
  a45 := Tryz.isAgg123
  z45 := Tryz.sizeOf123
  v45 := Tryz.zeroValue123
  t46 := Tryz.underlying124
  a46 := Tryz.isAgg124
  z46 := Tryz.sizeOf124
  v46 := Tryz.zeroValue124
  t50 := Tryz.underlying47
  a50 := Tryz.isAgg47
  z50 := Tryz.sizeOf47
  v50 := Tryz.zeroValue47
  t53 := Tryz.underlying58
  a53 := Tryz.isAgg58
  z53 := Tryz.sizeOf58
  v53 := Tryz.zeroValue58
  t55 := Tryz.underlying131
  a55 := Tryz.isAgg131
  z55 := Tryz.sizeOf131
  v55 := Tryz.zeroValue131
  t66 := Tryz.underlying144
  a66 := Tryz.isAgg144
  z66 := Tryz.sizeOf144
  v66 := Tryz.zeroValue144
  t70 := Tryz.underlying120
  a70 := Tryz.isAgg120
  z70 := Tryz.sizeOf120
  v70 := Tryz.zeroValue120
  t76 := Tryz.underlying151
  a76 := Tryz.isAgg151
  z76 := Tryz.sizeOf151
  v76 := Tryz.zeroValue151
  t77 := Tryz.underlying152
  a77 := Tryz.isAgg152
  z77 := Tryz.sizeOf152
  v77 := Tryz.zeroValue152 }
end Go.Proofs
