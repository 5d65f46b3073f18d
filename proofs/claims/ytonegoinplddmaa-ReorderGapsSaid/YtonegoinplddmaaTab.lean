/-
  Layer 43: the types, the abstract object (store), and how it lies in memory.
-/
import Derived.Test.YtonegoinplddmaaEng3
import Derived.Test.YtonegoinplddmaaProg
namespace Go.Proofs.Ytonegoinplddmaa
set_option linter.all false
set_option linter.unusedVariables false
set_option linter.unusedSimpArgs false
set_option linter.unusedSectionVars false
open Go.RowKit Go.Sx
def tis : List (Nat × TI) := [
  (3, ⟨.int .i64, 1, 0, [.li .i64 0]⟩),
  (4, ⟨.bool, 1, 0, [.lb false]⟩),
  (5, ⟨.int .u8, 1, 0, [.li .u8 0]⟩),
  (9, ⟨.str, 1, 0, [.str (fun _ => [])]⟩),
  (22, ⟨.slice 33 (some (.pair (.int .i64) (.pair (.pair (.int .i64) (.pair .bytes .bool)) (.int .i64)))), 1, 0, [.nilS]⟩),
  (25, ⟨.ptr 65, 1, 0, [.nilP]⟩),
  (26, ⟨.int .i64, 1, 0, [.li .i64 0]⟩),
  (29, ⟨.slice 5 (some (.int .u8)), 1, 0, [.nilS]⟩),
  (31, ⟨.struct [(0, 1), (1, 1), (2, 1)], 3, 0, [.li .i64 0, .nilS, .lb false]⟩),
  (33, ⟨.struct [(0, 1), (1, 3), (4, 1)], 5, 0, [.li .i64 0, .li .i64 0, .nilS, .lb false, .li .i64 0]⟩),
  (37, ⟨.slice 40 (some (.pair (.int .i64) (.int .i64))), 1, 0, [.nilS]⟩),
  (40, ⟨.array 2 3, 2, 1, [.li .i64 0, .li .i64 0]⟩),
  (42, ⟨.slice 75 (some (.pair (.int .u8) (.int .u8))), 1, 0, [.nilS]⟩),
  (43, ⟨.slice 31 (some (.pair (.int .i64) (.pair .bytes .bool))), 1, 0, [.nilS]⟩),
  (53, ⟨.slice 77 (some (.pair (.int .i64) (.int .u8))), 1, 0, [.nilS]⟩),
  (55, ⟨.struct [(0, 1), (1, 1), (2, 1), (3, 1)], 4, 0, [.li .i64 0, .li .i64 0, .li .i64 0, .nilS]⟩),
  (63, ⟨.map 3 5 (some ((.int .i64), (.int .u8))), 1, 0, [.v (.map none)]⟩),
  (65, ⟨.struct [(0, 1), (1, 1), (2, 1), (3, 1), (4, 1), (5, 1)], 6, 0, [.li .i64 0, .li .i64 0, .li .i64 0, .v (.map none), .li .i64 0, .lb false]⟩),
  (70, ⟨.slice 3 (some (.int .i64)), 1, 0, [.nilS]⟩),
  (75, ⟨.array 2 5, 2, 1, [.li .u8 0, .li .u8 0]⟩),
  (77, ⟨.struct [(0, 1), (1, 1)], 2, 1, [.li .i64 0, .li .u8 0]⟩)]


theorem tisOk : TIok Try.prog tis := tiOk_of (by kernel_rfl) (by kernel_rfl)

structure Sto where
  win : Int
  off : Int
  next : Int
  kept : List (Int × Int)
  fin : Int
  known : Bool

inductive Ab where
  | sto (S : U Sto)

def lay : Ab → List (Chunk Ab)
  | .sto S => [.cells 65 [.int .i64 (fun _ => (S ()).win), .int .i64 (fun _ => (S ()).off), .int .i64 (fun _ => (S ()).next), .mp 1, .int .i64 (fun _ => (S ()).fin), .sb (fun _ => (S ()).known)],
      .map (.int .i64) (.int .u8) (fun _ => (S ()).kept)]
abbrev AI : Abs Ab := absOf lay

instance : SubA Ab where
  sub
    | .sto W, .sto V => some (fun _ => W () = V ())
  sound := by
    intro a b C h hC
    cases a <;> cases b <;> cases h <;> (congr 1; funext u; cases u; exact hC)

theorem layOk (a : Ab) : LayOk (lay a) := by
  cases a <;> (refine ⟨by simp [lay], ⟨_, _, rfl⟩, fun j hj => ?_⟩; simp [lay] at hj; obtain rfl | rfl : j = 0 ∨ j = 1 := by omega) <;> rfl

abbrev E0 : Env Ab := ⟨tis, []⟩
theorem e0Ok : EnvOk Try.prog AI E0 := ⟨tisOk, fun f k h => by cases h⟩
theorem mixed : Try.prog.follows .mixedOrders = true := by kernel_rfl

def selS : Ab → Option (U Sto)
  | .sto S => some S
end Go.Proofs.Ytonegoinplddmaa
