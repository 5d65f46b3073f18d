/-
  slices.Sorted(maps.Keys(m)): the shelf's contracts, laid at this program.
-/
import Derived.Test.YtfgfcbncnngniaaDoorEng3
import Derived.Shelf.SortM.Plain
import Derived.Shelf.SortM.SortNone
import Derived.Test.YtfgfcbncnngniaaDoorProg
namespace Go.Proofs.YtfgfcbncnngniaaDoor
set_option linter.all false
set_option linter.unusedVariables false
set_option linter.unusedSimpArgs false
set_option linter.unusedSectionVars false
open Go.Shelf Go.Sx
def ksI_ren : Go.Shelf.Ren := ⟨fun | 10 => 46 | n => n, fun | 33 => 80 | 23 => 57 | 0 => 0 | 4 => 4 | 26 => 3 | 3 => 38 | n => n, fun | n => n⟩
theorem ksI : Go.Proofs.SlLaysZI.n10 Tryd.prog ksI_ren := {
  mixed := by kernel_rfl
  f10 := ⟨Tryd.f46.name, by decide, Tryd.func46.trans (congrArg some (by kernel_rfl))⟩
  t0 := Tryd.underlying0
  a0 := Tryd.isAgg0
  z0 := Tryd.sizeOf0
  v0 := Tryd.zeroValue0
  t4 := Tryd.underlying4
  a4 := Tryd.isAgg4
  z4 := Tryd.sizeOf4
  v4 := Tryd.zeroValue4
  t23 := Tryd.underlying57
  a23 := Tryd.isAgg57
  z23 := Tryd.sizeOf57
  v23 := Tryd.zeroValue57
  t26 := Tryd.underlying3
  a26 := Tryd.isAgg3
  z26 := Tryd.sizeOf3
  v26 := Tryd.zeroValue3
  t33 := Tryd.underlying80
  a33 := Tryd.isAgg80
  z33 := Tryd.sizeOf80
  v33 := Tryd.zeroValue80 }
def sortedL_ren : Go.Shelf.Ren := ⟨fun | 6 => 30 | 8 => 44 | 9 => 45 | 11 => 51 | 13 => 53 | 12 => 52 | 23 => 69 | 24 => 70 | 14 => 60 | 15 => 61 | 16 => 62 | 17 => 63 | 18 => 64 | 19 => 65 | 20 => 66 | 21 => 67 | 22 => 68 | 25 => 77 | 26 => 78 | 27 => 79 | 28 => 80 | 29 => 81 | 30 => 82 | 31 => 87 | n => n, fun | 26 => 3 | 28 => 62 | 24 => 34 | 0 => 0 | 3 => 3 | 37 => 85 | 48 => 99 | 50 => 101 | 4 => 4 | 40 => 92 | 39 => 91 | 45 => 96 | 5 => 5 | 9 => 9 | 51 => 108 | 55 => 112 | 57 => 117 | 58 => 118 | 33 => 80 | n => n, fun | n => n⟩
theorem sortedL : Go.Proofs.SlLaysZI.n6 Tryd.prog sortedL_ren := {
  mixed := by kernel_rfl
  f6 := ⟨Tryd.f30.name, by decide, Tryd.func30.trans (congrArg some (by kernel_rfl))⟩
  f8 := ⟨Tryd.f44.name, by decide, Tryd.func44.trans (congrArg some (by kernel_rfl))⟩
  f11 := ⟨Tryd.f51.name, by decide, Tryd.func51.trans (congrArg some (by kernel_rfl))⟩
  t0 := Tryd.underlying0
  a0 := Tryd.isAgg0
  z0 := Tryd.sizeOf0
  v0 := Tryd.zeroValue0
  t24 := Tryd.underlying34
  a24 := Tryd.isAgg34
  z24 := Tryd.sizeOf34
  v24 := Tryd.zeroValue34
  t26 := Tryd.underlying3
  a26 := Tryd.isAgg3
  z26 := Tryd.sizeOf3
  v26 := Tryd.zeroValue3
  t28 := Tryd.underlying62
  a28 := Tryd.isAgg62
  z28 := Tryd.sizeOf62
  v28 := Tryd.zeroValue62
  i26 := by kernel_rfl }
def sortL_ren : Go.Shelf.Ren := ⟨fun | 5 => 45 | 8 => 53 | 7 => 52 | 19 => 69 | 20 => 70 | 10 => 60 | 11 => 61 | 12 => 62 | 13 => 63 | 14 => 64 | 15 => 65 | 16 => 66 | 17 => 67 | 18 => 68 | 30 => 77 | 31 => 78 | 32 => 79 | 33 => 80 | 34 => 81 | 35 => 82 | 40 => 87 | n => n, fun | 23 => 34 | 25 => 3 | 3 => 3 | 32 => 85 | 22 => 34 | 0 => 0 | 44 => 99 | 46 => 101 | 4 => 4 | 36 => 92 | 35 => 91 | 41 => 96 | 5 => 5 | 9 => 9 | 53 => 108 | 57 => 112 | 63 => 117 | 64 => 118 | n => n, fun | n => n⟩
theorem sortL : Go.Proofs.SlLaysM.n5 Tryd.prog sortL_ren := {
  mixed := by kernel_rfl
  f5 := ⟨Tryd.f45.name, by decide, Tryd.func45.trans (congrArg some (by kernel_rfl))⟩
  f7 := ⟨Tryd.f52.name, by decide, Tryd.func52.trans (congrArg some (by kernel_rfl))⟩
  f8 := Tryd.func53.trans (congrArg some (by kernel_rfl))
  f10 := ⟨Tryd.f60.name, by decide, Tryd.func60.trans (congrArg some (by kernel_rfl))⟩
  f11 := ⟨Tryd.f61.name, by decide, Tryd.func61.trans (congrArg some (by kernel_rfl))⟩
  f12 := ⟨Tryd.f62.name, by decide, Tryd.func62.trans (congrArg some (by kernel_rfl))⟩
  f13 := ⟨Tryd.f63.name, by decide, Tryd.func63.trans (congrArg some (by kernel_rfl))⟩
  f14 := ⟨Tryd.f64.name, by decide, Tryd.func64.trans (congrArg some (by kernel_rfl))⟩
  f15 := ⟨Tryd.f65.name, by decide, Tryd.func65.trans (congrArg some (by kernel_rfl))⟩
  f16 := ⟨Tryd.f66.name, by decide, Tryd.func66.trans (congrArg some (by kernel_rfl))⟩
  f17 := ⟨Tryd.f67.name, by decide, Tryd.func67.trans (congrArg some (by kernel_rfl))⟩
  f18 := ⟨Tryd.f68.name, by decide, Tryd.func68.trans (congrArg some (by kernel_rfl))⟩
  f19 := Tryd.func69.trans (congrArg some (by kernel_rfl))
  f20 := Tryd.func70.trans (congrArg some (by kernel_rfl))
  f30 := ⟨Tryd.f77.name, by decide, Tryd.func77.trans (congrArg some (by kernel_rfl))⟩
  f31 := Tryd.func78.trans (congrArg some (by kernel_rfl))
  f32 := Tryd.func79.trans (congrArg some (by kernel_rfl))
  f33 := ⟨Tryd.f80.name, by decide, Tryd.func80.trans (congrArg some (by kernel_rfl))⟩
  f34 := ⟨Tryd.f81.name, by decide, Tryd.func81.trans (congrArg some (by kernel_rfl))⟩
  f35 := ⟨Tryd.f82.name, by decide, Tryd.func82.trans (congrArg some (by kernel_rfl))⟩
  f40 := ⟨Tryd.f87.name, by decide, Tryd.func87.trans (congrArg some (by kernel_rfl))⟩
  t0 := Tryd.underlying0
  a0 := Tryd.isAgg0
  z0 := Tryd.sizeOf0
  v0 := Tryd.zeroValue0
  t3 := Tryd.underlying3
  a3 := Tryd.isAgg3
  z3 := Tryd.sizeOf3
  v3 := Tryd.zeroValue3
  t4 := Tryd.underlying4
  a4 := Tryd.isAgg4
  z4 := Tryd.sizeOf4
  v4 := Tryd.zeroValue4
  t5 := Tryd.underlying5
  a5 := Tryd.isAgg5
  z5 := Tryd.sizeOf5
  v5 := Tryd.zeroValue5
  t9 := Tryd.underlying9
  a9 := Tryd.isAgg9
  z9 := Tryd.sizeOf9
  v9 := Tryd.zeroValue9
  t22 := Tryd.underlying34
  a22 := Tryd.isAgg34
  z22 := Tryd.sizeOf34
  v22 := Tryd.zeroValue34
  t23 := Tryd.underlying34
  a23 := Tryd.isAgg34
  z23 := Tryd.sizeOf34
  v23 := Tryd.zeroValue34
  t25 := Tryd.underlying3
  a25 := Tryd.isAgg3
  z25 := Tryd.sizeOf3
  v25 := Tryd.zeroValue3
  t32 := Tryd.underlying85
  a32 := Tryd.isAgg85
  z32 := Tryd.sizeOf85
  v32 := Tryd.zeroValue85
  t35 := Tryd.underlying91
  a35 := Tryd.isAgg91
  z35 := Tryd.sizeOf91
  v35 := Tryd.zeroValue91
  t36 := Tryd.underlying92
  a36 := Tryd.isAgg92
  z36 := Tryd.sizeOf92
  v36 := Tryd.zeroValue92
  t41 := Tryd.underlying96
  a41 := Tryd.isAgg96
  z41 := Tryd.sizeOf96
  v41 := Tryd.zeroValue96
  t44 := Tryd.underlying99
  a44 := Tryd.isAgg99
  z44 := Tryd.sizeOf99
  v44 := Tryd.zeroValue99
  t46 := Tryd.underlying101
  a46 := Tryd.isAgg101
  z46 := Tryd.sizeOf101
  v46 := Tryd.zeroValue101
  t53 := Tryd.underlying108
  a53 := Tryd.isAgg108
  z53 := Tryd.sizeOf108
  v53 := Tryd.zeroValue108
  t57 := Tryd.underlying112
  a57 := Tryd.isAgg112
  z57 := Tryd.sizeOf112
  v57 := Tryd.zeroValue112
  t63 := Tryd.underlying117
  a63 := Tryd.isAgg117
  z63 := Tryd.sizeOf117
  v63 := Tryd.zeroValue117
  t64 := Tryd.underlying118
  a64 := Tryd.isAgg118
  z64 := Tryd.sizeOf118
  v64 := Tryd.zeroValue118 }

theorem sortsIn : AnyZI.SortsIn Tryd.prog sortedL_ren Fence.wide 4 :=
  ⟨fun blk off cap ss W hH hblk hsz => callsIn_wide.2 (AnyM.slices_Sort_int sortL blk off cap ss W hH hblk hsz),
   fun p cap W => callsIn_wide.2 (AnyM.slices_Sort_int_none sortL p cap W)⟩
theorem sorted_con {A : Type} {AI : Abs A} (et : TypeId) (i : Nat) : ConSound Tryd.prog AI 30 (sortedCon 46 et i) :=
  sortedCon_sound ksI sortedL sortsIn rfl rfl Tryd.call30 Tryd.call46 Tryd.call45 et i
end Go.Proofs.YtfgfcbncnngniaaDoor
