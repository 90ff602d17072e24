/-
  DERIVED: THE SHELF's CONTRACTS AT THIS DUMP, IN PLAIN WORDS (tools/lay-plain.mjs out of 'TrydShelf.lean', which tools/lay-shelf.mjs wrote): THE SAME DECLARATIONS UNDER THE SAME NAMES: 'import', 'namespace', 'open', 'def', 'theorem' AND NOTHING ELSE: no command of the shelf's: FOR A HAND-IN. Each laying: the table of numbers ('.._ren') and one theorem, a field a fact of the dump's own or the kernel's comparison; each contract: ONE APPLICATION.
-/
import Derived.Shelf.SlGeneric
import Derived.Shelf.SlSortCmp.NoneTotal
import Derived.Shelf.SlicesQ.IndexFunc
import Derived.Shelf.SlicesQ.Equal
import Derived.Ground.SlsfProg
import Derived.Ground.SlgfProg
import Derived.Ground.SlgqProg
import Derived.Test.YtbhcgjahlfpjoaaDoorProg
namespace Go.Proofs
open Go.Shelf
def Tryd.sortEd_ren : Go.Shelf.Ren := ⟨fun | 6 => 73 | 15 => 78 | 14 => 77 | 28 => 88 | 29 => 89 | 20 => 80 | 21 => 81 | 22 => 82 | 23 => 83 | 24 => 84 | 25 => 85 | 26 => 86 | 27 => 87 | 46 => 90 | 47 => 91 | 48 => 92 | 49 => 93 | 50 => 94 | 57 => 95 | n => n, fun | 22 => 144 | 24 => 151 | 25 => 154 | 3 => 3 | 39 => 108 | 0 => 0 | 53 => 129 | 55 => 96 | 4 => 4 | 46 => 160 | 45 => 159 | 50 => 164 | 5 => 5 | 9 => 9 | 66 => 168 | 70 => 172 | 76 => 174 | 77 => 175 | n => n, fun | n => n⟩
theorem Tryd.sortEd : Go.Proofs.SlLaysF0.n6 Tryd.prog Tryd.sortEd_ren := {
  mixed := by kernel_rfl
  f6 := ⟨Tryd.f73.name, by decide, Tryd.func73.trans (congrArg some (by kernel_rfl))⟩
  f14 := ⟨Tryd.f77.name, by decide, Tryd.func77.trans (congrArg some (by kernel_rfl))⟩
  f15 := Tryd.func78.trans (congrArg some (by kernel_rfl))
  f20 := ⟨Tryd.f80.name, by decide, Tryd.func80.trans (congrArg some (by kernel_rfl))⟩
  f21 := ⟨Tryd.f81.name, by decide, Tryd.func81.trans (congrArg some (by kernel_rfl))⟩
  f22 := ⟨Tryd.f82.name, by decide, Tryd.func82.trans (congrArg some (by kernel_rfl))⟩
  f23 := ⟨Tryd.f83.name, by decide, Tryd.func83.trans (congrArg some (by kernel_rfl))⟩
  f24 := ⟨Tryd.f84.name, by decide, Tryd.func84.trans (congrArg some (by kernel_rfl))⟩
  f25 := ⟨Tryd.f85.name, by decide, Tryd.func85.trans (congrArg some (by kernel_rfl))⟩
  f26 := ⟨Tryd.f86.name, by decide, Tryd.func86.trans (congrArg some (by kernel_rfl))⟩
  f27 := ⟨Tryd.f87.name, by decide, Tryd.func87.trans (congrArg some (by kernel_rfl))⟩
  f28 := Tryd.func88.trans (congrArg some (by kernel_rfl))
  f29 := Tryd.func89.trans (congrArg some (by kernel_rfl))
  f46 := ⟨Tryd.f90.name, by decide, Tryd.func90.trans (congrArg some (by kernel_rfl))⟩
  f47 := Tryd.func91.trans (congrArg some (by kernel_rfl))
  f48 := Tryd.func92.trans (congrArg some (by kernel_rfl))
  f49 := ⟨Tryd.f93.name, by decide, Tryd.func93.trans (congrArg some (by kernel_rfl))⟩
  f50 := ⟨Tryd.f94.name, by decide, Tryd.func94.trans (congrArg some (by kernel_rfl))⟩
  f57 := ⟨Tryd.f95.name, by decide, Tryd.func95.trans (congrArg some (by kernel_rfl))⟩
  t0 := Tryd.underlying0
  a0 := Tryd.isAgg0
  z0 := Tryd.sizeOf0
  v0 := Tryd.zeroValue0
  t3 := Tryd.underlying3
  a3 := Tryd.isAgg3
  z3 := Tryd.sizeOf3
  v3 := Tryd.zeroValue3
  t4 := Tryd.underlying4
  a4 := Tryd.isAgg4
  z4 := Tryd.sizeOf4
  v4 := Tryd.zeroValue4
  t5 := Tryd.underlying5
  a5 := Tryd.isAgg5
  z5 := Tryd.sizeOf5
  v5 := Tryd.zeroValue5
  t9 := Tryd.underlying9
  a9 := Tryd.isAgg9
  z9 := Tryd.sizeOf9
  v9 := Tryd.zeroValue9
  t22 := Tryd.underlying144
  a22 := Tryd.isAgg144
  z22 := Tryd.sizeOf144
  v22 := Tryd.zeroValue144
  t25 := Tryd.underlying154
  a25 := Tryd.isAgg154
  z25 := Tryd.sizeOf154
  v25 := Tryd.zeroValue154
  t39 := Tryd.underlying108
  a39 := Tryd.isAgg108
  z39 := Tryd.sizeOf108
  v39 := Tryd.zeroValue108
  t45 := Tryd.underlying159
  a45 := Tryd.isAgg159
  z45 := Tryd.sizeOf159
  v45 := Tryd.zeroValue159
  t46 := Tryd.underlying160
  a46 := Tryd.isAgg160
  z46 := Tryd.sizeOf160
  v46 := Tryd.zeroValue160
  t50 := Tryd.underlying164
  a50 := Tryd.isAgg164
  z50 := Tryd.sizeOf164
  v50 := Tryd.zeroValue164
  t53 := Tryd.underlying129
  a53 := Tryd.isAgg129
  z53 := Tryd.sizeOf129
  v53 := Tryd.zeroValue129
  t55 := Tryd.underlying96
  a55 := Tryd.isAgg96
  z55 := Tryd.sizeOf96
  v55 := Tryd.zeroValue96
  t66 := Tryd.underlying168
  a66 := Tryd.isAgg168
  z66 := Tryd.sizeOf168
  v66 := Tryd.zeroValue168
  t70 := Tryd.underlying172
  a70 := Tryd.isAgg172
  z70 := Tryd.sizeOf172
  v70 := Tryd.zeroValue172
  t76 := Tryd.underlying174
  a76 := Tryd.isAgg174
  z76 := Tryd.sizeOf174
  v76 := Tryd.zeroValue174
  t77 := Tryd.underlying175
  a77 := Tryd.isAgg175
  z77 := Tryd.sizeOf175
  v77 := Tryd.zeroValue175 }
def Tryd.containsRg_ren : Go.Shelf.Ren := ⟨fun | 8 => 48 | 6 => 60 | n => n, fun | 22 => 61 | 23 => 66 | 25 => 114 | 4 => 4 | 3 => 3 | 0 => 0 | n => n, fun | n => n⟩
theorem Tryd.containsRg : Go.Proofs.SlLaysH0.n8 Tryd.prog Tryd.containsRg_ren := {
  mixed := by kernel_rfl
  f6 := ⟨Tryd.f60.name, by decide, Tryd.func60.trans (congrArg some (by kernel_rfl))⟩
  f8 := ⟨Tryd.f48.name, by decide, Tryd.func48.trans (congrArg some (by kernel_rfl))⟩
  t0 := Tryd.underlying0
  a0 := Tryd.isAgg0
  z0 := Tryd.sizeOf0
  v0 := Tryd.zeroValue0
  t3 := Tryd.underlying3
  a3 := Tryd.isAgg3
  z3 := Tryd.sizeOf3
  v3 := Tryd.zeroValue3
  t4 := Tryd.underlying4
  a4 := Tryd.isAgg4
  z4 := Tryd.sizeOf4
  v4 := Tryd.zeroValue4
  t22 := Tryd.underlying61
  a22 := Tryd.isAgg61
  z22 := Tryd.sizeOf61
  v22 := Tryd.zeroValue61
  t25 := Tryd.underlying114
  a25 := Tryd.isAgg114
  z25 := Tryd.sizeOf114
  v25 := Tryd.zeroValue114 }
def Tryd.equalRg_ren : Go.Shelf.Ren := ⟨fun | 8 => 64 | n => n, fun | 22 => 61 | 24 => 66 | 4 => 4 | 3 => 3 | 0 => 0 | n => n, fun | n => n⟩
theorem Tryd.equalRg : Go.Proofs.SlLaysQ.n8 Tryd.prog Tryd.equalRg_ren := {
  mixed := by kernel_rfl
  f8 := ⟨Tryd.f64.name, by decide, Tryd.func64.trans (congrArg some (by kernel_rfl))⟩
  t0 := Tryd.underlying0
  a0 := Tryd.isAgg0
  z0 := Tryd.sizeOf0
  v0 := Tryd.zeroValue0
  t3 := Tryd.underlying3
  a3 := Tryd.isAgg3
  z3 := Tryd.sizeOf3
  v3 := Tryd.zeroValue3
  t4 := Tryd.underlying4
  a4 := Tryd.isAgg4
  z4 := Tryd.sizeOf4
  v4 := Tryd.zeroValue4
  t22 := Tryd.underlying61
  a22 := Tryd.isAgg61
  z22 := Tryd.sizeOf61
  v22 := Tryd.zeroValue61 }
end Go.Proofs
