/-
  DERIVED: THE SHELF's CONTRACTS AT THIS DUMP, IN PLAIN WORDS (tools/lay-plain.mjs out of 'TryShelf.lean', which tools/lay-shelf.mjs wrote): THE SAME DECLARATIONS UNDER THE SAME NAMES: 'import', 'namespace', 'open', 'def', 'theorem' AND NOTHING ELSE: no command of the shelf's: FOR A HAND-IN. Each laying: the table of numbers ('.._ren') and one theorem, a field a fact of the dump's own or the kernel's comparison; each contract: ONE APPLICATION.
-/
import Derived.Shelf.Small.Wraps
import Derived.Ground.NamesProg
import Derived.Test.YtoglnankopdohaaProg
namespace Go.Proofs
open Go.Shelf
def Try.cutPrefix_ren : Go.Shelf.Ren := ⟨fun | 103 => 76 | 210 => 87 | 206 => 102 | n => n, fun | 9 => 9 | 4 => 4 | 24 => 68 | 3 => 3 | n => n, fun | n => n⟩
theorem Try.cutPrefix : Go.Proofs.Lays.n103 Try.prog Try.cutPrefix_ren := {
  mixed := by kernel_rfl
  f103 := Try.func76.trans (congrArg some (by kernel_rfl))
  f206 := Try.func102.trans (congrArg some (by kernel_rfl))
  f210 := Try.func87.trans (congrArg some (by kernel_rfl))
  t3 := Try.underlying3
  a3 := Try.isAgg3
  z3 := Try.sizeOf3
  v3 := Try.zeroValue3
  t4 := Try.underlying4
  a4 := Try.isAgg4
  z4 := Try.sizeOf4
  v4 := Try.zeroValue4
  t9 := Try.underlying9
  a9 := Try.isAgg9
  z9 := Try.sizeOf9
  v9 := Try.zeroValue9
  t24 := Try.underlying68
  a24 := Try.isAgg68
  z24 := Try.sizeOf68
  v24 := Try.zeroValue68 }
end Go.Proofs
