/-
  slices.Sorted(maps.Keys(m)): the shelf's contracts, laid at this program.
-/
import Derived.Test.YtonegoinplddmaaEng3
import Derived.Shelf.SortM.Plain
import Derived.Shelf.SortM.SortNone
import Derived.Test.YtonegoinplddmaaProg
namespace Go.Proofs.Ytonegoinplddmaa
set_option linter.all false
set_option linter.unusedVariables false
set_option linter.unusedSimpArgs false
set_option linter.unusedSectionVars false
open Go.Shelf Go.Sx
def keysI_ren : Go.Shelf.Ren := ⟨fun | 10 => 36 | n => n, fun | 33 => 68 | 23 => 63 | 0 => 0 | 4 => 4 | 26 => 3 | 3 => 5 | n => n, fun | n => n⟩
theorem ksI : Go.Proofs.SlLaysZI.n10 Try.prog keysI_ren := {
  mixed := by kernel_rfl
  f10 := ⟨Try.f36.name, by decide, Try.func36.trans (congrArg some (by kernel_rfl))⟩
  t0 := Try.underlying0
  a0 := Try.isAgg0
  z0 := Try.sizeOf0
  v0 := Try.zeroValue0
  t4 := Try.underlying4
  a4 := Try.isAgg4
  z4 := Try.sizeOf4
  v4 := Try.zeroValue4
  t23 := Try.underlying63
  a23 := Try.isAgg63
  z23 := Try.sizeOf63
  v23 := Try.zeroValue63
  t26 := Try.underlying3
  a26 := Try.isAgg3
  z26 := Try.sizeOf3
  v26 := Try.zeroValue3
  t33 := Try.underlying68
  a33 := Try.isAgg68
  z33 := Try.sizeOf68
  v33 := Try.zeroValue68 }
def sortedL_ren : Go.Shelf.Ren := ⟨fun | 6 => 31 | 8 => 34 | 9 => 35 | 11 => 37 | 13 => 39 | 12 => 38 | 23 => 49 | 24 => 50 | 14 => 40 | 15 => 41 | 16 => 42 | 17 => 43 | 18 => 44 | 19 => 45 | 20 => 46 | 21 => 47 | 22 => 48 | 25 => 51 | 26 => 52 | 27 => 53 | 28 => 54 | 29 => 55 | 30 => 56 | 31 => 57 | n => n, fun | 26 => 3 | 28 => 73 | 24 => 70 | 0 => 0 | 3 => 3 | 37 => 83 | 48 => 93 | 50 => 95 | 4 => 4 | 40 => 86 | 39 => 85 | 45 => 47 | 5 => 5 | 9 => 9 | 51 => 96 | 55 => 100 | 57 => 102 | 58 => 103 | 33 => 68 | n => n, fun | n => n⟩
theorem sortedL : Go.Proofs.SlLaysZI.n6 Try.prog sortedL_ren := {
  mixed := by kernel_rfl
  f6 := ⟨Try.f31.name, by decide, Try.func31.trans (congrArg some (by kernel_rfl))⟩
  f8 := ⟨Try.f34.name, by decide, Try.func34.trans (congrArg some (by kernel_rfl))⟩
  f11 := ⟨Try.f37.name, by decide, Try.func37.trans (congrArg some (by kernel_rfl))⟩
  t0 := Try.underlying0
  a0 := Try.isAgg0
  z0 := Try.sizeOf0
  v0 := Try.zeroValue0
  t24 := Try.underlying70
  a24 := Try.isAgg70
  z24 := Try.sizeOf70
  v24 := Try.zeroValue70
  t26 := Try.underlying3
  a26 := Try.isAgg3
  z26 := Try.sizeOf3
  v26 := Try.zeroValue3
  t28 := Try.underlying73
  a28 := Try.isAgg73
  z28 := Try.sizeOf73
  v28 := Try.zeroValue73
  i26 := by kernel_rfl }
def sortL_ren : Go.Shelf.Ren := ⟨fun | 5 => 35 | 8 => 39 | 7 => 38 | 19 => 49 | 20 => 50 | 10 => 40 | 11 => 41 | 12 => 42 | 13 => 43 | 14 => 44 | 15 => 45 | 16 => 46 | 17 => 47 | 18 => 48 | 30 => 51 | 31 => 52 | 32 => 53 | 33 => 54 | 34 => 55 | 35 => 56 | 40 => 57 | n => n, fun | 23 => 70 | 25 => 3 | 3 => 3 | 32 => 83 | 22 => 70 | 0 => 0 | 44 => 93 | 46 => 95 | 4 => 4 | 36 => 86 | 35 => 85 | 41 => 47 | 5 => 5 | 9 => 9 | 53 => 96 | 57 => 100 | 63 => 102 | 64 => 103 | n => n, fun | n => n⟩
theorem sortL : Go.Proofs.SlLaysM.n5 Try.prog sortL_ren := {
  mixed := by kernel_rfl
  f5 := ⟨Try.f35.name, by decide, Try.func35.trans (congrArg some (by kernel_rfl))⟩
  f7 := ⟨Try.f38.name, by decide, Try.func38.trans (congrArg some (by kernel_rfl))⟩
  f8 := Try.func39.trans (congrArg some (by kernel_rfl))
  f10 := ⟨Try.f40.name, by decide, Try.func40.trans (congrArg some (by kernel_rfl))⟩
  f11 := ⟨Try.f41.name, by decide, Try.func41.trans (congrArg some (by kernel_rfl))⟩
  f12 := ⟨Try.f42.name, by decide, Try.func42.trans (congrArg some (by kernel_rfl))⟩
  f13 := ⟨Try.f43.name, by decide, Try.func43.trans (congrArg some (by kernel_rfl))⟩
  f14 := ⟨Try.f44.name, by decide, Try.func44.trans (congrArg some (by kernel_rfl))⟩
  f15 := ⟨Try.f45.name, by decide, Try.func45.trans (congrArg some (by kernel_rfl))⟩
  f16 := ⟨Try.f46.name, by decide, Try.func46.trans (congrArg some (by kernel_rfl))⟩
  f17 := ⟨Try.f47.name, by decide, Try.func47.trans (congrArg some (by kernel_rfl))⟩
  f18 := ⟨Try.f48.name, by decide, Try.func48.trans (congrArg some (by kernel_rfl))⟩
  f19 := Try.func49.trans (congrArg some (by kernel_rfl))
  f20 := Try.func50.trans (congrArg some (by kernel_rfl))
  f30 := ⟨Try.f51.name, by decide, Try.func51.trans (congrArg some (by kernel_rfl))⟩
  f31 := Try.func52.trans (congrArg some (by kernel_rfl))
  f32 := Try.func53.trans (congrArg some (by kernel_rfl))
  f33 := ⟨Try.f54.name, by decide, Try.func54.trans (congrArg some (by kernel_rfl))⟩
  f34 := ⟨Try.f55.name, by decide, Try.func55.trans (congrArg some (by kernel_rfl))⟩
  f35 := ⟨Try.f56.name, by decide, Try.func56.trans (congrArg some (by kernel_rfl))⟩
  f40 := ⟨Try.f57.name, by decide, Try.func57.trans (congrArg some (by kernel_rfl))⟩
  t0 := Try.underlying0
  a0 := Try.isAgg0
  z0 := Try.sizeOf0
  v0 := Try.zeroValue0
  t3 := Try.underlying3
  a3 := Try.isAgg3
  z3 := Try.sizeOf3
  v3 := Try.zeroValue3
  t4 := Try.underlying4
  a4 := Try.isAgg4
  z4 := Try.sizeOf4
  v4 := Try.zeroValue4
  t5 := Try.underlying5
  a5 := Try.isAgg5
  z5 := Try.sizeOf5
  v5 := Try.zeroValue5
  t9 := Try.underlying9
  a9 := Try.isAgg9
  z9 := Try.sizeOf9
  v9 := Try.zeroValue9
  t22 := Try.underlying70
  a22 := Try.isAgg70
  z22 := Try.sizeOf70
  v22 := Try.zeroValue70
  t23 := Try.underlying70
  a23 := Try.isAgg70
  z23 := Try.sizeOf70
  v23 := Try.zeroValue70
  t25 := Try.underlying3
  a25 := Try.isAgg3
  z25 := Try.sizeOf3
  v25 := Try.zeroValue3
  t32 := Try.underlying83
  a32 := Try.isAgg83
  z32 := Try.sizeOf83
  v32 := Try.zeroValue83
  t35 := Try.underlying85
  a35 := Try.isAgg85
  z35 := Try.sizeOf85
  v35 := Try.zeroValue85
  t36 := Try.underlying86
  a36 := Try.isAgg86
  z36 := Try.sizeOf86
  v36 := Try.zeroValue86
  t41 := Try.underlying47
  a41 := Try.isAgg47
  z41 := Try.sizeOf47
  v41 := Try.zeroValue47
  t44 := Try.underlying93
  a44 := Try.isAgg93
  z44 := Try.sizeOf93
  v44 := Try.zeroValue93
  t46 := Try.underlying95
  a46 := Try.isAgg95
  z46 := Try.sizeOf95
  v46 := Try.zeroValue95
  t53 := Try.underlying96
  a53 := Try.isAgg96
  z53 := Try.sizeOf96
  v53 := Try.zeroValue96
  t57 := Try.underlying100
  a57 := Try.isAgg100
  z57 := Try.sizeOf100
  v57 := Try.zeroValue100
  t63 := Try.underlying102
  a63 := Try.isAgg102
  z63 := Try.sizeOf102
  v63 := Try.zeroValue102
  t64 := Try.underlying103
  a64 := Try.isAgg103
  z64 := Try.sizeOf103
  v64 := Try.zeroValue103 }

theorem sortsIn : AnyZI.SortsIn Try.prog sortedL_ren Fence.wide 4 :=
  ⟨fun blk off cap ss W hH hblk hsz => callsIn_wide.2 (AnyM.slices_Sort_int sortL blk off cap ss W hH hblk hsz),
   fun p cap W => callsIn_wide.2 (AnyM.slices_Sort_int_none sortL p cap W)⟩
theorem sorted_con {A : Type} {AI : Abs A} (et : TypeId) (i : Nat) : ConSound Try.prog AI 31 (sortedCon 36 et i) :=
  sortedCon_sound ksI sortedL sortsIn rfl rfl Try.call31 Try.call36 Try.call35 et i
end Go.Proofs.Ytonegoinplddmaa
