/-
  The top: the types; no objects.
-/
import Derived.Test.YtcaoldilmnpjoaaGreatEng3
import Derived.Test.YtcaoldilmnpjoaaGreatProg
namespace Go.Proofs.YtcaoldilmnpjoaaGreat
set_option linter.all false
open Go.RowKit Go.Sx
def tis : List (Nat × TI) := [
  (3, ⟨.int .i64, 1, 0, [.li .i64 0]⟩),
  (4, ⟨.bool, 1, 0, [.lb false]⟩),
  (5, ⟨.int .u8, 1, 0, [.li .u8 0]⟩),
  (9, ⟨.str, 1, 0, [.str (fun _ => [])]⟩),
  (21, ⟨.int .i32, 1, 0, [.li .i32 0]⟩),
  (22, ⟨.slice 126 (some (.pair .str (.pair .bool (.int .i64)))), 1, 0, [.nilS]⟩),
  (23, ⟨.slice 98 (some (.pair (.int .i64) (.pair (.int .i64) (.pair (.int .i64) (.pair (.int .i64) (.pair (.int .i64) (.int .i64))))))), 1, 0, [.nilS]⟩),
  (25, ⟨.struct [(0, 1), (1, 1)], 2, 0, [.nilS, .nilS]⟩),
  (26, ⟨.slice 4 (some .bool), 1, 0, [.nilS]⟩),
  (29, ⟨.slice 76 (some (.pair (.int .i64) (.pair (.int .i64) (.int .i64)))), 1, 0, [.nilS]⟩),
  (30, ⟨.slice 3 (some (.int .i64)), 1, 0, [.nilS]⟩),
  (32, ⟨.struct [(0, 1)], 1, 0, [.nilS]⟩),
  (35, ⟨.int .i64, 1, 0, [.li .i64 0]⟩),
  (40, ⟨.slice 3 (some (.int .i64)), 1, 0, [.nilS]⟩),
  (45, ⟨.slice 48 (some .bytes), 1, 0, [.nilS]⟩),
  (48, ⟨.slice 5 (some (.int .u8)), 1, 0, [.nilS]⟩),
  (49, ⟨.map 3 4 (some ((.int .i64), .bool)), 1, 0, [.v (.map none)]⟩),
  (50, ⟨.slice 30 (some (.lst (.int .i64))), 1, 0, [.nilS]⟩),
  (52, ⟨.struct [(0, 1), (1, 1), (2, 1)], 3, 0, [.li .i64 0, .nilS, .nilS]⟩),
  (62, ⟨.struct [(0, 1), (1, 1)], 2, 1, [.li .i64 0, .li .i64 0]⟩),
  (68, ⟨.slice 136 (some (.pair (.lst (.int .i64)) (.lst (.int .i64)))), 1, 0, [.nilS]⟩),
  (70, ⟨.struct [(0, 1)], 1, 0, [.nilS]⟩),
  (74, ⟨.map 76 4 (some ((.agg (.pair (.int .i64) (.pair (.int .i64) (.int .i64)))), .bool)), 1, 0, [.v (.map none)]⟩),
  (76, ⟨.struct [(0, 1), (1, 1), (2, 1)], 3, 1, [.li .i64 0, .li .i64 0, .li .i64 0]⟩),
  (82, ⟨.other, 1, 0, [.v .nilFunc]⟩),
  (85, ⟨.map 3 30 (some ((.int .i64), (.lst (.int .i64)))), 1, 0, [.v (.map none)]⟩),
  (86, ⟨.map 3 3 (some ((.int .i64), (.int .i64))), 1, 0, [.v (.map none)]⟩),
  (98, ⟨.struct [(0, 1), (1, 1), (2, 1), (3, 1), (4, 1), (5, 1)], 6, 1, [.li .i64 0, .li .i64 0, .li .i64 0, .li .i64 0, .li .i64 0, .li .i64 0]⟩),
  (102, ⟨.other, 1, 0, [.v .nilFunc]⟩),
  (113, ⟨.int .u64, 1, 0, [.li .u64 0]⟩),
  (117, ⟨.struct [(0, 1), (1, 1), (2, 1)], 3, 0, [.lb false, .li .u64 0, .li .u64 0]⟩),
  (126, ⟨.struct [(0, 1), (1, 1), (2, 1)], 3, 0, [.str (fun _ => []), .lb false, .li .i64 0]⟩),
  (135, ⟨.array 2 3, 2, 1, [.li .i64 0, .li .i64 0]⟩),
  (136, ⟨.array 2 30, 2, 0, [.nilS, .nilS]⟩),
  (151, ⟨.int .u64, 1, 0, [.li .u64 0]⟩),
  (155, ⟨.struct [(0, 1), (1, 1)], 2, 0, [.li .i64 0, .lb false]⟩),
  (162, ⟨.map 9 4 (some (.str, .bool)), 1, 0, [.v (.map none)]⟩),
  (163, ⟨.map 135 4 (some ((.agg (.pair (.int .i64) (.int .i64))), .bool)), 1, 0, [.v (.map none)]⟩),
  (164, ⟨.array 2 135, 4, 0, [.li .i64 0, .li .i64 0, .li .i64 0, .li .i64 0]⟩),
  (165, ⟨.map 155 3 (some ((.agg (.pair (.int .i64) .bool)), (.int .i64))), 1, 0, [.v (.map none)]⟩),
  (186, ⟨.other, 1, 0, [.v .nilFunc]⟩),
  (187, ⟨.array 2 4, 2, 0, [.lb false, .lb false]⟩)]


theorem tisOk : TIok Tryz.prog tis := tiOk_of (by kernel_rfl) (by kernel_rfl)
abbrev Ab := Empty
def lay : Ab → List (Chunk Ab) := fun a => a.elim
abbrev AI : Abs Ab := absOf lay
instance : SubA Ab where
  sub a _ := a.elim
  sound a := a.elim
abbrev E0 : Env Ab := ⟨tis, []⟩
theorem e0Ok : EnvOk Tryz.prog AI E0 := ⟨tisOk, fun f k h => by cases h⟩
theorem mixed : Tryz.prog.follows .mixedOrders = true := by kernel_rfl
end Go.Proofs.YtcaoldilmnpjoaaGreat
