/-
  slices.Sort of strings: the shelf's contract, laid at this program.
-/
import Derived.Shelf.Sort.Plain
import Derived.Shelf.Slices.In.SortNone
import Derived.Test.YtehdhnkkkocffaaProg
namespace Go.Proofs.Ytehdhnkkkocffaa
set_option linter.all false
set_option linter.unusedVariables false
set_option linter.unusedSimpArgs false
set_option linter.unusedSectionVars false
open Go.Shelf
def srtL_ren : Go.Shelf.Ren := ⟨fun | 190 => 40 | 125 => 47 | 258 => 46 | 128 => 57 | 129 => 58 | 302 => 48 | 303 => 49 | 304 => 50 | 305 => 51 | 306 => 52 | 307 => 53 | 308 => 54 | 309 => 55 | 310 => 56 | 333 => 59 | 329 => 60 | 330 => 61 | 334 => 62 | 335 => 63 | 336 => 64 | 344 => 65 | n => n, fun | 31 => 45 | 9 => 9 | 3 => 3 | 46 => 84 | 0 => 0 | 51 => 48 | 53 => 96 | 4 => 4 | 183 => 87 | 182 => 86 | 131 => 92 | 5 => 5 | 218 => 97 | 222 => 101 | 228 => 103 | 229 => 104 | n => n, fun | n => n⟩
theorem srtL : Go.Proofs.Lays.n190 Try.prog srtL_ren := {
  mixed := by kernel_rfl
  f125 := Try.func47.trans (congrArg some (by kernel_rfl))
  f128 := Try.func57.trans (congrArg some (by kernel_rfl))
  f129 := Try.func58.trans (congrArg some (by kernel_rfl))
  f190 := Try.func40.trans (congrArg some (by kernel_rfl))
  f258 := Try.func46.trans (congrArg some (by kernel_rfl))
  f302 := Try.func48.trans (congrArg some (by kernel_rfl))
  f303 := Try.func49.trans (congrArg some (by kernel_rfl))
  f304 := Try.func50.trans (congrArg some (by kernel_rfl))
  f305 := Try.func51.trans (congrArg some (by kernel_rfl))
  f306 := Try.func52.trans (congrArg some (by kernel_rfl))
  f307 := Try.func53.trans (congrArg some (by kernel_rfl))
  f308 := Try.func54.trans (congrArg some (by kernel_rfl))
  f309 := Try.func55.trans (congrArg some (by kernel_rfl))
  f310 := Try.func56.trans (congrArg some (by kernel_rfl))
  f329 := Try.func60.trans (congrArg some (by kernel_rfl))
  f330 := Try.func61.trans (congrArg some (by kernel_rfl))
  f333 := Try.func59.trans (congrArg some (by kernel_rfl))
  f334 := Try.func62.trans (congrArg some (by kernel_rfl))
  f335 := Try.func63.trans (congrArg some (by kernel_rfl))
  f336 := Try.func64.trans (congrArg some (by kernel_rfl))
  f344 := Try.func65.trans (congrArg some (by kernel_rfl))
  t0 := Try.underlying0
  a0 := Try.isAgg0
  z0 := Try.sizeOf0
  v0 := Try.zeroValue0
  t3 := Try.underlying3
  a3 := Try.isAgg3
  z3 := Try.sizeOf3
  v3 := Try.zeroValue3
  t4 := Try.underlying4
  a4 := Try.isAgg4
  z4 := Try.sizeOf4
  v4 := Try.zeroValue4
  t5 := Try.underlying5
  a5 := Try.isAgg5
  z5 := Try.sizeOf5
  v5 := Try.zeroValue5
  t9 := Try.underlying9
  a9 := Try.isAgg9
  z9 := Try.sizeOf9
  v9 := Try.zeroValue9
  t31 := Try.underlying45
  a31 := Try.isAgg45
  z31 := Try.sizeOf45
  v31 := Try.zeroValue45
  t46 := Try.underlying84
  a46 := Try.isAgg84
  z46 := Try.sizeOf84
  v46 := Try.zeroValue84
  t51 := Try.underlying48
  a51 := Try.isAgg48
  z51 := Try.sizeOf48
  v51 := Try.zeroValue48
  t53 := Try.underlying96
  a53 := Try.isAgg96
  z53 := Try.sizeOf96
  v53 := Try.zeroValue96
  t131 := Try.underlying92
  a131 := Try.isAgg92
  z131 := Try.sizeOf92
  v131 := Try.zeroValue92
  t182 := Try.underlying86
  a182 := Try.isAgg86
  z182 := Try.sizeOf86
  v182 := Try.zeroValue86
  t183 := Try.underlying87
  a183 := Try.isAgg87
  z183 := Try.sizeOf87
  v183 := Try.zeroValue87
  t218 := Try.underlying97
  a218 := Try.isAgg97
  z218 := Try.sizeOf97
  v218 := Try.zeroValue97
  t222 := Try.underlying101
  a222 := Try.isAgg101
  z222 := Try.sizeOf101
  v222 := Try.zeroValue101
  t228 := Try.underlying103
  a228 := Try.isAgg103
  z228 := Try.sizeOf103
  v228 := Try.zeroValue103
  t229 := Try.underlying104
  a229 := Try.isAgg104
  z229 := Try.sizeOf104
  v229 := Try.zeroValue104 }
end Go.Proofs.Ytehdhnkkkocffaa
