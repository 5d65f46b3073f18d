/-
  Layer 40: the types, the directory, and how it lies in memory.
-/
import Derived.Test.YtehdhnkkkocffaaEng3
import Derived.Test.YtehdhnkkkocffaaProg
namespace Go.Proofs.Ytehdhnkkkocffaa
set_option linter.all false
set_option linter.unusedVariables false
set_option linter.unusedSimpArgs false
set_option linter.unusedSectionVars false
open Go.RowKit Go.Sx
def tis : List (Nat × TI) := [
  (3, ⟨.int .i64, 1, 0, [.li .i64 0]⟩),
  (4, ⟨.bool, 1, 0, [.lb false]⟩),
  (5, ⟨.int .u8, 1, 0, [.li .u8 0]⟩),
  (9, ⟨.str, 1, 0, [.str (fun _ => [])]⟩),
  (21, ⟨.int .i32, 1, 0, [.li .i32 0]⟩),
  (22, ⟨.slice 28 (some (.pair (.int .i64) (.pair .str (.pair (.int .i64) (.pair (.int .i64) (.pair (.int .i64) (.pair (.int .i64) (.int .i64)))))))), 1, 0, [.nilS]⟩),
  (24, ⟨.ptr 71, 1, 0, [.nilP]⟩),
  (26, ⟨.map 9 3 (some (.str, (.int .i64))), 1, 0, [.v (.map none)]⟩),
  (28, ⟨.struct [(0, 1), (1, 1), (2, 1), (3, 1), (4, 1), (5, 1), (6, 1)], 7, 0, [.li .i64 0, .str (fun _ => []), .li .i64 0, .li .i64 0, .li .i64 0, .li .i64 0, .li .i64 0]⟩),
  (30, ⟨.struct [(0, 1), (1, 1), (2, 1)], 3, 1, [.li .i64 0, .li .i64 0, .li .i64 0]⟩),
  (31, ⟨.int .i64, 1, 0, [.li .i64 0]⟩),
  (43, ⟨.int .u16, 1, 0, [.li .u16 0]⟩),
  (45, ⟨.slice 9 (some .str), 1, 0, [.nilS]⟩),
  (48, ⟨.int .u32, 1, 0, [.li .u32 0]⟩),
  (53, ⟨.slice 59 (some (.pair .str (.pair (.int .i64) (.pair .bool (.pair (.int .i64) (.pair (.int .i64) (.pair (.int .i64) (.int .i64)))))))), 1, 0, [.nilS]⟩),
  (59, ⟨.struct [(0, 1), (1, 1), (2, 1), (3, 1), (4, 1), (5, 1), (6, 1)], 7, 0, [.str (fun _ => []), .li .i64 0, .lb false, .li .i64 0, .li .i64 0, .li .i64 0, .li .i64 0]⟩),
  (66, ⟨.slice 30 (some (.pair (.int .i64) (.pair (.int .i64) (.int .i64)))), 1, 0, [.nilS]⟩),
  (69, ⟨.map 9 74 (some (.str, (.pair (.pair (.int .i64) (.pair (.int .i64) (.int .i64))) (.pair .bool (.pair (.int .i64) (.int .i64)))))), 1, 0, [.v (.map none)]⟩),
  (71, ⟨.struct [(0, 1)], 1, 0, [.v (.map none)]⟩),
  (74, ⟨.struct [(0, 3), (3, 1), (4, 1), (5, 1)], 6, 0, [.li .i64 0, .li .i64 0, .li .i64 0, .lb false, .li .i64 0, .li .i64 0]⟩)]


theorem tisOk : TIok Try.prog tis := tiOk_of (by kernel_rfl) (by kernel_rfl)
/-- Node, port, version; bound, lease, end. -/
abbrev PlE : Ty := .pair (.int .i64) (.pair (.int .i64) (.int .i64))
abbrev entE : Ty := .pair PlE (.pair .bool (.pair (.int .i64) (.int .i64)))
abbrev Pl := Int × Int × Int
abbrev Ent := Pl × Bool × Int × Int
abbrev DirL := List (List Int × Ent)
inductive Ab where
  | dir (D : U DirL)
def lay : Ab → List (Chunk Ab)
  | .dir D => [.cells 71 [.mp 1], .map .str entE (fun _ => D ())]
abbrev AI : Abs Ab := absOf lay

instance : SubA Ab where
  sub
    | .dir W, .dir V => some (fun _ => W () = V ())
  sound := by
    intro a b C h hC
    cases a <;> cases b <;> cases h <;> (congr 1; funext u; cases u; exact hC)

theorem layOk (a : Ab) : LayOk (lay a) := by
  cases a with
  | dir D => (refine ⟨by simp [lay], ⟨_, _, rfl⟩, fun j hj => ?_⟩; simp [lay] at hj; obtain rfl | rfl : j = 0 ∨ j = 1 := by omega) <;> rfl

abbrev E0 : Env Ab := ⟨tis, []⟩
theorem e0Ok : EnvOk Try.prog AI E0 := ⟨tisOk, fun f k h => by cases h⟩
theorem mixed : Try.prog.follows .mixedOrders = true := by kernel_rfl
def selD : Ab → Option (U DirL)
  | .dir D => some D
end Go.Proofs.Ytehdhnkkkocffaa
