/-
  slices.Sorted(maps.Keys(m)): the shelf's contracts, laid at this program.
-/
import Derived.Test.YtgdiepbjdpmfbaaEng4
import Derived.Shelf.SortM.Plain
import Derived.Shelf.SortM.SortNone
import Derived.Test.YtgdiepbjdpmfbaaProg
namespace Go.Proofs.Ytgdiepbjdpmfbaa
set_option linter.all false
set_option linter.unusedVariables false
set_option linter.unusedSimpArgs false
set_option linter.unusedSectionVars false
open Go.Shelf Go.Sx
def ksI_ren : Go.Shelf.Ren := ⟨fun | 10 => 59 | n => n, fun | 33 => 44 | 23 => 94 | 0 => 0 | 4 => 4 | 26 => 3 | 3 => 5 | n => n, fun | n => n⟩
theorem ksI : Go.Proofs.SlLaysZI.n10 Try.prog ksI_ren := {
  mixed := by kernel_rfl
  f10 := ⟨Try.f59.name, by decide, Try.func59.trans (congrArg some (by kernel_rfl))⟩
  t0 := Try.underlying0
  a0 := Try.isAgg0
  z0 := Try.sizeOf0
  v0 := Try.zeroValue0
  t4 := Try.underlying4
  a4 := Try.isAgg4
  z4 := Try.sizeOf4
  v4 := Try.zeroValue4
  t23 := Try.underlying94
  a23 := Try.isAgg94
  z23 := Try.sizeOf94
  v23 := Try.zeroValue94
  t26 := Try.underlying3
  a26 := Try.isAgg3
  z26 := Try.sizeOf3
  v26 := Try.zeroValue3
  t33 := Try.underlying44
  a33 := Try.isAgg44
  z33 := Try.sizeOf44
  v33 := Try.zeroValue44 }
def sortedL_ren : Go.Shelf.Ren := ⟨fun | 6 => 55 | 8 => 57 | 9 => 58 | 11 => 60 | 13 => 62 | 12 => 61 | 23 => 72 | 24 => 73 | 14 => 63 | 15 => 64 | 16 => 65 | 17 => 66 | 18 => 67 | 19 => 68 | 20 => 69 | 21 => 70 | 22 => 71 | 25 => 74 | 26 => 75 | 27 => 76 | 28 => 77 | 29 => 78 | 30 => 79 | 31 => 80 | n => n, fun | 26 => 3 | 28 => 110 | 24 => 107 | 0 => 0 | 3 => 3 | 37 => 52 | 48 => 125 | 50 => 127 | 4 => 4 | 40 => 118 | 39 => 117 | 45 => 85 | 5 => 5 | 9 => 9 | 51 => 128 | 55 => 132 | 57 => 134 | 58 => 135 | 33 => 44 | n => n, fun | n => n⟩
theorem sortedL : Go.Proofs.SlLaysZI.n6 Try.prog sortedL_ren := {
  mixed := by kernel_rfl
  f6 := ⟨Try.f55.name, by decide, Try.func55.trans (congrArg some (by kernel_rfl))⟩
  f8 := ⟨Try.f57.name, by decide, Try.func57.trans (congrArg some (by kernel_rfl))⟩
  f11 := ⟨Try.f60.name, by decide, Try.func60.trans (congrArg some (by kernel_rfl))⟩
  t0 := Try.underlying0
  a0 := Try.isAgg0
  z0 := Try.sizeOf0
  v0 := Try.zeroValue0
  t24 := Try.underlying107
  a24 := Try.isAgg107
  z24 := Try.sizeOf107
  v24 := Try.zeroValue107
  t26 := Try.underlying3
  a26 := Try.isAgg3
  z26 := Try.sizeOf3
  v26 := Try.zeroValue3
  t28 := Try.underlying110
  a28 := Try.isAgg110
  z28 := Try.sizeOf110
  v28 := Try.zeroValue110
  i26 := by kernel_rfl }
def sortL_ren : Go.Shelf.Ren := ⟨fun | 5 => 58 | 8 => 62 | 7 => 61 | 19 => 72 | 20 => 73 | 10 => 63 | 11 => 64 | 12 => 65 | 13 => 66 | 14 => 67 | 15 => 68 | 16 => 69 | 17 => 70 | 18 => 71 | 30 => 74 | 31 => 75 | 32 => 76 | 33 => 77 | 34 => 78 | 35 => 79 | 40 => 80 | n => n, fun | 23 => 107 | 25 => 3 | 3 => 3 | 32 => 52 | 22 => 107 | 0 => 0 | 44 => 125 | 46 => 127 | 4 => 4 | 36 => 118 | 35 => 117 | 41 => 85 | 5 => 5 | 9 => 9 | 53 => 128 | 57 => 132 | 63 => 134 | 64 => 135 | n => n, fun | n => n⟩
theorem sortL : Go.Proofs.SlLaysM.n5 Try.prog sortL_ren := {
  mixed := by kernel_rfl
  f5 := ⟨Try.f58.name, by decide, Try.func58.trans (congrArg some (by kernel_rfl))⟩
  f7 := ⟨Try.f61.name, by decide, Try.func61.trans (congrArg some (by kernel_rfl))⟩
  f8 := Try.func62.trans (congrArg some (by kernel_rfl))
  f10 := ⟨Try.f63.name, by decide, Try.func63.trans (congrArg some (by kernel_rfl))⟩
  f11 := ⟨Try.f64.name, by decide, Try.func64.trans (congrArg some (by kernel_rfl))⟩
  f12 := ⟨Try.f65.name, by decide, Try.func65.trans (congrArg some (by kernel_rfl))⟩
  f13 := ⟨Try.f66.name, by decide, Try.func66.trans (congrArg some (by kernel_rfl))⟩
  f14 := ⟨Try.f67.name, by decide, Try.func67.trans (congrArg some (by kernel_rfl))⟩
  f15 := ⟨Try.f68.name, by decide, Try.func68.trans (congrArg some (by kernel_rfl))⟩
  f16 := ⟨Try.f69.name, by decide, Try.func69.trans (congrArg some (by kernel_rfl))⟩
  f17 := ⟨Try.f70.name, by decide, Try.func70.trans (congrArg some (by kernel_rfl))⟩
  f18 := ⟨Try.f71.name, by decide, Try.func71.trans (congrArg some (by kernel_rfl))⟩
  f19 := Try.func72.trans (congrArg some (by kernel_rfl))
  f20 := Try.func73.trans (congrArg some (by kernel_rfl))
  f30 := ⟨Try.f74.name, by decide, Try.func74.trans (congrArg some (by kernel_rfl))⟩
  f31 := Try.func75.trans (congrArg some (by kernel_rfl))
  f32 := Try.func76.trans (congrArg some (by kernel_rfl))
  f33 := ⟨Try.f77.name, by decide, Try.func77.trans (congrArg some (by kernel_rfl))⟩
  f34 := ⟨Try.f78.name, by decide, Try.func78.trans (congrArg some (by kernel_rfl))⟩
  f35 := ⟨Try.f79.name, by decide, Try.func79.trans (congrArg some (by kernel_rfl))⟩
  f40 := ⟨Try.f80.name, by decide, Try.func80.trans (congrArg some (by kernel_rfl))⟩
  t0 := Try.underlying0
  a0 := Try.isAgg0
  z0 := Try.sizeOf0
  v0 := Try.zeroValue0
  t3 := Try.underlying3
  a3 := Try.isAgg3
  z3 := Try.sizeOf3
  v3 := Try.zeroValue3
  t4 := Try.underlying4
  a4 := Try.isAgg4
  z4 := Try.sizeOf4
  v4 := Try.zeroValue4
  t5 := Try.underlying5
  a5 := Try.isAgg5
  z5 := Try.sizeOf5
  v5 := Try.zeroValue5
  t9 := Try.underlying9
  a9 := Try.isAgg9
  z9 := Try.sizeOf9
  v9 := Try.zeroValue9
  t22 := Try.underlying107
  a22 := Try.isAgg107
  z22 := Try.sizeOf107
  v22 := Try.zeroValue107
  t23 := Try.underlying107
  a23 := Try.isAgg107
  z23 := Try.sizeOf107
  v23 := Try.zeroValue107
  t25 := Try.underlying3
  a25 := Try.isAgg3
  z25 := Try.sizeOf3
  v25 := Try.zeroValue3
  t32 := Try.underlying52
  a32 := Try.isAgg52
  z32 := Try.sizeOf52
  v32 := Try.zeroValue52
  t35 := Try.underlying117
  a35 := Try.isAgg117
  z35 := Try.sizeOf117
  v35 := Try.zeroValue117
  t36 := Try.underlying118
  a36 := Try.isAgg118
  z36 := Try.sizeOf118
  v36 := Try.zeroValue118
  t41 := Try.underlying85
  a41 := Try.isAgg85
  z41 := Try.sizeOf85
  v41 := Try.zeroValue85
  t44 := Try.underlying125
  a44 := Try.isAgg125
  z44 := Try.sizeOf125
  v44 := Try.zeroValue125
  t46 := Try.underlying127
  a46 := Try.isAgg127
  z46 := Try.sizeOf127
  v46 := Try.zeroValue127
  t53 := Try.underlying128
  a53 := Try.isAgg128
  z53 := Try.sizeOf128
  v53 := Try.zeroValue128
  t57 := Try.underlying132
  a57 := Try.isAgg132
  z57 := Try.sizeOf132
  v57 := Try.zeroValue132
  t63 := Try.underlying134
  a63 := Try.isAgg134
  z63 := Try.sizeOf134
  v63 := Try.zeroValue134
  t64 := Try.underlying135
  a64 := Try.isAgg135
  z64 := Try.sizeOf135
  v64 := Try.zeroValue135 }

theorem sortsIn : AnyZI.SortsIn Try.prog sortedL_ren Fence.wide 4 :=
  ⟨fun blk off cap ss W hH hblk hsz => callsIn_wide.2 (AnyM.slices_Sort_int sortL blk off cap ss W hH hblk hsz),
   fun p cap W => callsIn_wide.2 (AnyM.slices_Sort_int_none sortL p cap W)⟩
theorem sorted_con {A : Type} {AI : Abs A} (et : TypeId) (i : Nat) : ConSound Try.prog AI 55 (sortedCon 59 et i) :=
  sortedCon_sound ksI sortedL sortsIn rfl rfl Try.call55 Try.call59 Try.call58 et i
end Go.Proofs.Ytgdiepbjdpmfbaa
