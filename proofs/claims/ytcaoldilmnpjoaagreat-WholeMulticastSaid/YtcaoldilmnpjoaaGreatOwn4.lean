/-
  Part Own4 of the proof.
-/
import Derived.Shelf.SlSortCmp.NoneTotal
import Derived.Shelf.SlicesG.Cmp
import Derived.Test.YtcaoldilmnpjoaaGreatProg
namespace Go.Proofs.YtcaoldilmnpjoaaGreat
set_option linter.all false
open Go.Shelf
def Ao : Go.Shelf.Ren := ⟨fun | 6 => 48 | 15 => 96 | 14 => 95 | 28 => 126 | 29 => 127 | 20 => 118 | 21 => 119 | 22 => 120 | 23 => 121 | 24 => 122 | 25 => 123 | 26 => 124 | 27 => 125 | 46 => 151 | 47 => 152 | 48 => 153 | 49 => 154 | 50 => 155 | 57 => 162 | n => n, fun | 22 => 29 | 24 => 76 | 25 => 81 | 3 => 3 | 39 => 151 | 0 => 0 | 53 => 181 | 55 => 113 | 4 => 4 | 46 => 175 | 45 => 174 | 50 => 132 | 5 => 5 | 9 => 9 | 66 => 198 | 70 => 202 | 76 => 208 | 77 => 138 | n => n, fun | n => n⟩
theorem srdL : Go.Proofs.SlLaysF0.n6 Tryz.prog Ao := {
 mixed := by kernel_rfl
 f6 := ⟨Tryz.f48.name, by decide, Tryz.func48.trans (congrArg some (by kernel_rfl))⟩
 f14 := ⟨Tryz.f95.name, by decide, Tryz.func95.trans (congrArg some (by kernel_rfl))⟩
 f15 := Tryz.func96.trans (congrArg some (by kernel_rfl))
 f20 := ⟨Tryz.f118.name, by decide, Tryz.func118.trans (congrArg some (by kernel_rfl))⟩
 f21 := ⟨Tryz.f119.name, by decide, Tryz.func119.trans (congrArg some (by kernel_rfl))⟩
 f22 := ⟨Tryz.f120.name, by decide, Tryz.func120.trans (congrArg some (by kernel_rfl))⟩
 f23 := ⟨Tryz.f121.name, by decide, Tryz.func121.trans (congrArg some (by kernel_rfl))⟩
 f24 := ⟨Tryz.f122.name, by decide, Tryz.func122.trans (congrArg some (by kernel_rfl))⟩
 f25 := ⟨Tryz.f123.name, by decide, Tryz.func123.trans (congrArg some (by kernel_rfl))⟩
 f26 := ⟨Tryz.f124.name, by decide, Tryz.func124.trans (congrArg some (by kernel_rfl))⟩
 f27 := ⟨Tryz.f125.name, by decide, Tryz.func125.trans (congrArg some (by kernel_rfl))⟩
 f28 := Tryz.func126.trans (congrArg some (by kernel_rfl))
 f29 := Tryz.func127.trans (congrArg some (by kernel_rfl))
 f46 := ⟨Tryz.f151.name, by decide, Tryz.func151.trans (congrArg some (by kernel_rfl))⟩
 f47 := Tryz.func152.trans (congrArg some (by kernel_rfl))
 f48 := Tryz.func153.trans (congrArg some (by kernel_rfl))
 f49 := ⟨Tryz.f154.name, by decide, Tryz.func154.trans (congrArg some (by kernel_rfl))⟩
 f50 := ⟨Tryz.f155.name, by decide, Tryz.func155.trans (congrArg some (by kernel_rfl))⟩
 f57 := ⟨Tryz.f162.name, by decide, Tryz.func162.trans (congrArg some (by kernel_rfl))⟩
 t0 := Tryz.underlying0
 a0 := Tryz.isAgg0
 z0 := Tryz.sizeOf0
 v0 := Tryz.zeroValue0
 t3 := Tryz.underlying3
 a3 := Tryz.isAgg3
 z3 := Tryz.sizeOf3
 v3 := Tryz.zeroValue3
 t4 := Tryz.underlying4
 a4 := Tryz.isAgg4
 z4 := Tryz.sizeOf4
 v4 := Tryz.zeroValue4
 t5 := Tryz.underlying5
 a5 := Tryz.isAgg5
 z5 := Tryz.sizeOf5
 v5 := Tryz.zeroValue5
 t9 := Tryz.underlying9
 a9 := Tryz.isAgg9
 z9 := Tryz.sizeOf9
 v9 := Tryz.zeroValue9
 t22 := Tryz.underlying29
 a22 := Tryz.isAgg29
 z22 := Tryz.sizeOf29
 v22 := Tryz.zeroValue29
 t25 := Tryz.underlying81
 a25 := Tryz.isAgg81
 z25 := Tryz.sizeOf81
 v25 := Tryz.zeroValue81
 t39 := Tryz.underlying151
 a39 := Tryz.isAgg151
 z39 := Tryz.sizeOf151
 v39 := Tryz.zeroValue151
 t45 := Tryz.underlying174
 a45 := Tryz.isAgg174
 z45 := Tryz.sizeOf174
 v45 := Tryz.zeroValue174
 t46 := Tryz.underlying175
 a46 := Tryz.isAgg175
 z46 := Tryz.sizeOf175
 v46 := Tryz.zeroValue175
 t50 := Tryz.underlying132
 a50 := Tryz.isAgg132
 z50 := Tryz.sizeOf132
 v50 := Tryz.zeroValue132
 t53 := Tryz.underlying181
 a53 := Tryz.isAgg181
 z53 := Tryz.sizeOf181
 v53 := Tryz.zeroValue181
 t55 := Tryz.underlying113
 a55 := Tryz.isAgg113
 z55 := Tryz.sizeOf113
 v55 := Tryz.zeroValue113
 t66 := Tryz.underlying198
 a66 := Tryz.isAgg198
 z66 := Tryz.sizeOf198
 v66 := Tryz.zeroValue198
 t70 := Tryz.underlying202
 a70 := Tryz.isAgg202
 z70 := Tryz.sizeOf202
 v70 := Tryz.zeroValue202
 t76 := Tryz.underlying208
 a76 := Tryz.isAgg208
 z76 := Tryz.sizeOf208
 v76 := Tryz.zeroValue208
 t77 := Tryz.underlying138
 a77 := Tryz.isAgg138
 z77 := Tryz.sizeOf138
 v77 := Tryz.zeroValue138 }
def Bz : Go.Shelf.Ren := ⟨fun | 5 => 51 | 7 => 97 | n => n, fun | 22 => 3 | 3 => 3 | 4 => 4 | n => n, fun | n => n⟩
theorem cmpL : Go.Proofs.SlLaysC2.n5 Tryz.prog Bz := {
 mixed := by kernel_rfl
 f5 := ⟨Tryz.f51.name, by decide, Tryz.func51.trans (congrArg some (by kernel_rfl))⟩
 f7 := ⟨Tryz.f97.name, by decide, Tryz.func97.trans (congrArg some (by kernel_rfl))⟩
 t3 := Tryz.underlying3
 a3 := Tryz.isAgg3
 z3 := Tryz.sizeOf3
 v3 := Tryz.zeroValue3
 t4 := Tryz.underlying4
 a4 := Tryz.isAgg4
 z4 := Tryz.sizeOf4
 v4 := Tryz.zeroValue4
 t22 := Tryz.underlying3
 a22 := Tryz.isAgg3
 z22 := Tryz.sizeOf3
 v22 := Tryz.zeroValue3 }
end Go.Proofs.YtcaoldilmnpjoaaGreat
