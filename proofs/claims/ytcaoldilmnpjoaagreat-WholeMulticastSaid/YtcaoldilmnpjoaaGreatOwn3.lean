/-
  Part Own3 of the proof.
-/
import Derived.Shelf.SlSortCmp.NoneTotal
import Derived.Test.YtcaoldilmnpjoaaGreatProg
namespace Go.Proofs.YtcaoldilmnpjoaaGreat
set_option linter.all false
open Go.Shelf
def An : Go.Shelf.Ren := ⟨fun | 6 => 83 | 15 => 96 | 14 => 116 | 28 => 126 | 29 => 127 | 20 => 143 | 21 => 144 | 22 => 145 | 23 => 146 | 24 => 147 | 25 => 148 | 26 => 149 | 27 => 150 | 46 => 159 | 47 => 152 | 48 => 153 | 49 => 160 | 50 => 161 | 57 => 164 | n => n, fun | 22 => 30 | 24 => 3 | 25 => 96 | 3 => 3 | 39 => 151 | 0 => 0 | 53 => 181 | 55 => 113 | 4 => 4 | 46 => 175 | 45 => 174 | 50 => 132 | 5 => 5 | 9 => 9 | 66 => 198 | 70 => 202 | 76 => 208 | 77 => 138 | n => n, fun | n => n⟩
theorem sriL : Go.Proofs.SlLaysF.n6 Tryz.prog An := {
 mixed := by kernel_rfl
 f6 := ⟨Tryz.f83.name, by decide, Tryz.func83.trans (congrArg some (by kernel_rfl))⟩
 f14 := ⟨Tryz.f116.name, by decide, Tryz.func116.trans (congrArg some (by kernel_rfl))⟩
 f15 := Tryz.func96.trans (congrArg some (by kernel_rfl))
 f20 := ⟨Tryz.f143.name, by decide, Tryz.func143.trans (congrArg some (by kernel_rfl))⟩
 f21 := ⟨Tryz.f144.name, by decide, Tryz.func144.trans (congrArg some (by kernel_rfl))⟩
 f22 := ⟨Tryz.f145.name, by decide, Tryz.func145.trans (congrArg some (by kernel_rfl))⟩
 f23 := ⟨Tryz.f146.name, by decide, Tryz.func146.trans (congrArg some (by kernel_rfl))⟩
 f24 := ⟨Tryz.f147.name, by decide, Tryz.func147.trans (congrArg some (by kernel_rfl))⟩
 f25 := ⟨Tryz.f148.name, by decide, Tryz.func148.trans (congrArg some (by kernel_rfl))⟩
 f26 := ⟨Tryz.f149.name, by decide, Tryz.func149.trans (congrArg some (by kernel_rfl))⟩
 f27 := ⟨Tryz.f150.name, by decide, Tryz.func150.trans (congrArg some (by kernel_rfl))⟩
 f28 := Tryz.func126.trans (congrArg some (by kernel_rfl))
 f29 := Tryz.func127.trans (congrArg some (by kernel_rfl))
 f46 := ⟨Tryz.f159.name, by decide, Tryz.func159.trans (congrArg some (by kernel_rfl))⟩
 f47 := Tryz.func152.trans (congrArg some (by kernel_rfl))
 f48 := Tryz.func153.trans (congrArg some (by kernel_rfl))
 f49 := ⟨Tryz.f160.name, by decide, Tryz.func160.trans (congrArg some (by kernel_rfl))⟩
 f50 := ⟨Tryz.f161.name, by decide, Tryz.func161.trans (congrArg some (by kernel_rfl))⟩
 f57 := ⟨Tryz.f164.name, by decide, Tryz.func164.trans (congrArg some (by kernel_rfl))⟩
 t0 := Tryz.underlying0
 a0 := Tryz.isAgg0
 z0 := Tryz.sizeOf0
 v0 := Tryz.zeroValue0
 t3 := Tryz.underlying3
 a3 := Tryz.isAgg3
 z3 := Tryz.sizeOf3
 v3 := Tryz.zeroValue3
 t4 := Tryz.underlying4
 a4 := Tryz.isAgg4
 z4 := Tryz.sizeOf4
 v4 := Tryz.zeroValue4
 t5 := Tryz.underlying5
 a5 := Tryz.isAgg5
 z5 := Tryz.sizeOf5
 v5 := Tryz.zeroValue5
 t9 := Tryz.underlying9
 a9 := Tryz.isAgg9
 z9 := Tryz.sizeOf9
 v9 := Tryz.zeroValue9
 t22 := Tryz.underlying30
 a22 := Tryz.isAgg30
 z22 := Tryz.sizeOf30
 v22 := Tryz.zeroValue30
 a24 := Tryz.isAgg3
 z24 := Tryz.sizeOf3
 t25 := Tryz.underlying96
 a25 := Tryz.isAgg96
 z25 := Tryz.sizeOf96
 v25 := Tryz.zeroValue96
 t39 := Tryz.underlying151
 a39 := Tryz.isAgg151
 z39 := Tryz.sizeOf151
 v39 := Tryz.zeroValue151
 t45 := Tryz.underlying174
 a45 := Tryz.isAgg174
 z45 := Tryz.sizeOf174
 v45 := Tryz.zeroValue174
 t46 := Tryz.underlying175
 a46 := Tryz.isAgg175
 z46 := Tryz.sizeOf175
 v46 := Tryz.zeroValue175
 t50 := Tryz.underlying132
 a50 := Tryz.isAgg132
 z50 := Tryz.sizeOf132
 v50 := Tryz.zeroValue132
 t53 := Tryz.underlying181
 a53 := Tryz.isAgg181
 z53 := Tryz.sizeOf181
 v53 := Tryz.zeroValue181
 t55 := Tryz.underlying113
 a55 := Tryz.isAgg113
 z55 := Tryz.sizeOf113
 v55 := Tryz.zeroValue113
 t66 := Tryz.underlying198
 a66 := Tryz.isAgg198
 z66 := Tryz.sizeOf198
 v66 := Tryz.zeroValue198
 t70 := Tryz.underlying202
 a70 := Tryz.isAgg202
 z70 := Tryz.sizeOf202
 v70 := Tryz.zeroValue202
 t76 := Tryz.underlying208
 a76 := Tryz.isAgg208
 z76 := Tryz.sizeOf208
 v76 := Tryz.zeroValue208
 t77 := Tryz.underlying138
 a77 := Tryz.isAgg138
 z77 := Tryz.sizeOf138
 v77 := Tryz.zeroValue138 }
end Go.Proofs.YtcaoldilmnpjoaaGreat
