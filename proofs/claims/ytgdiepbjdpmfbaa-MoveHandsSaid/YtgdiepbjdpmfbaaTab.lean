/-
  Layer 48: the types, the abstract objects (store, moving end), and how they lie in memory.
-/
import Derived.Test.YtgdiepbjdpmfbaaEng3
import Derived.Test.YtgdiepbjdpmfbaaEng4
import Derived.Test.YtgdiepbjdpmfbaaProg
namespace Go.Proofs.Ytgdiepbjdpmfbaa
set_option linter.all false
set_option linter.unusedVariables false
set_option linter.unusedSimpArgs false
set_option linter.unusedSectionVars false
open Go.RowKit Go.Sx
def tis : List (Nat × TI) := [
  (3, ⟨.int .i64, 1, 0, [.li .i64 0]⟩),
  (4, ⟨.bool, 1, 0, [.lb false]⟩),
  (5, ⟨.int .u8, 1, 0, [.li .u8 0]⟩),
  (9, ⟨.str, 1, 0, [.str (fun _ => [])]⟩),
  (22, ⟨.slice 5 (some (.int .u8)), 1, 0, [.nilS]⟩),
  (23, ⟨.slice 29 (some (.int .u16)), 1, 0, [.nilS]⟩),
  (25, ⟨.ptr 82, 1, 0, [.nilP]⟩),
  (26, ⟨.int .i64, 1, 0, [.li .i64 0]⟩),
  (29, ⟨.int .u16, 1, 0, [.li .u16 0]⟩),
  (32, ⟨.struct [(0, 1), (1, 1), (2, 1)], 3, 0, [.li .i64 0, .nilS, .lb false]⟩),
  (37, ⟨.slice 32 (some (.pair (.int .i64) (.pair .bytes .bool))), 1, 0, [.nilS]⟩),
  (47, ⟨.struct [(0, 1), (1, 1), (2, 1), (3, 3)], 6, 0, [.li .i64 0, .li .i64 0, .li .i64 0, .li .i64 0, .nilS, .lb false]⟩),
  (51, ⟨.slice 4 (some .bool), 1, 0, [.nilS]⟩),
  (54, ⟨.slice 47 (some (.pair (.int .i64) (.pair (.int .i64) (.pair (.int .i64) (.pair (.int .i64) (.pair .bytes .bool)))))), 1, 0, [.nilS]⟩),
  (60, ⟨.slice 104 (some (.pair (.int .i64) (.int .u8))), 1, 0, [.nilS]⟩),
  (62, ⟨.struct [(0, 1), (1, 1), (2, 1), (3, 1)], 4, 0, [.li .i64 0, .li .i64 0, .li .i64 0, .nilS]⟩),
  (64, ⟨.struct [(0, 1), (1, 4), (5, 4)], 9, 0, [.li .i64 0, .li .i64 0, .li .i64 0, .li .i64 0, .nilS, .li .i64 0, .li .i64 0, .li .i64 0, .nilS]⟩),
  (77, ⟨.ptr 96, 1, 0, [.nilP]⟩),
  (80, ⟨.array 2 77, 2, 0, [.nilP, .nilP]⟩),
  (82, ⟨.struct [(0, 1), (1, 1), (2, 2)], 4, 0, [.li .i64 0, .li .i64 0, .nilP, .nilP]⟩),
  (94, ⟨.map 3 5 (some ((.int .i64), (.int .u8))), 1, 0, [.v (.map none)]⟩),
  (96, ⟨.struct [(0, 1), (1, 1), (2, 1), (3, 1), (4, 1), (5, 1)], 6, 0, [.li .i64 0, .li .i64 0, .li .i64 0, .v (.map none), .li .i64 0, .lb false]⟩),
  (100, ⟨.slice 102 (some (.pair (.int .i64) (.int .i64))), 1, 0, [.nilS]⟩),
  (102, ⟨.array 2 3, 2, 1, [.li .i64 0, .li .i64 0]⟩),
  (104, ⟨.struct [(0, 1), (1, 1)], 2, 1, [.li .i64 0, .li .u8 0]⟩),
  (107, ⟨.slice 3 (some (.int .i64)), 1, 0, [.nilS]⟩)]


theorem tisOk : TIok Try.prog tis := tiOk_of (by kernel_rfl) (by kernel_rfl)

structure Sto where
  win : Int
  off : Int
  next : Int
  kept : List (Int × Int)
  fin : Int
  known : Bool

inductive Ph where
  | old | drain | moved
  deriving DecidableEq
structure Mov where
  win : Int
  ph : Ph
  a : Sto
  b : Sto

inductive Ab where
  | sto (S : U Sto)
  | mov (M : U Mov)

def layM (M : U Mov) : Ph → List (Chunk Ab)
  | .old => [.cells 82 [.int .i64 (fun _ => (M ()).win), .int .i64 (fun _ => 0), .ptr 1 0, .nilP], .abs (.sto (fun _ => (M ()).a))]
  | .drain => [.cells 82 [.int .i64 (fun _ => (M ()).win), .int .i64 (fun _ => 1), .ptr 1 0, .ptr 2 0], .abs (.sto (fun _ => (M ()).a)), .abs (.sto (fun _ => (M ()).b))]
  | .moved => [.cells 82 [.int .i64 (fun _ => (M ()).win), .int .i64 (fun _ => 2), .nilP, .ptr 1 0], .abs (.sto (fun _ => (M ()).b))]
def lay : Ab → List (Chunk Ab)
  | .sto S => [.cells 96 [.int .i64 (fun _ => (S ()).win), .int .i64 (fun _ => (S ()).off), .int .i64 (fun _ => (S ()).next), .mp 1, .int .i64 (fun _ => (S ()).fin), .sb (fun _ => (S ()).known)],
      .map (.int .i64) (.int .u8) (fun _ => (S ()).kept)]
  | .mov M => layM M (M ()).ph
abbrev AI : Abs Ab := absOf lay

instance : SubA Ab where
  sub
    | .sto W, .sto V => some (fun _ => W () = V ())
    | .mov W, .mov V => some (fun _ => W () = V ())
    | _, _ => none
  sound := by
    intro a b C h hC
    cases a <;> cases b <;> cases h <;> (congr 1; funext u; cases u; exact hC)

theorem layOk (a : Ab) : LayOk (lay a) := by
  cases a with
  | sto S => (refine ⟨by simp [lay], ⟨_, _, rfl⟩, fun j hj => ?_⟩; simp [lay] at hj; obtain rfl | rfl : j = 0 ∨ j = 1 := by omega) <;> rfl
  | mov M =>
    show LayOk (layM M (M ()).ph)
    cases (M ()).ph with
    | old => (refine ⟨by simp [layM], ⟨_, _, rfl⟩, fun j hj => ?_⟩; simp [layM] at hj; obtain rfl | rfl : j = 0 ∨ j = 1 := by omega) <;> rfl
    | drain => (refine ⟨by simp [layM], ⟨_, _, rfl⟩, fun j hj => ?_⟩; simp [layM] at hj; obtain rfl | rfl | rfl : j = 0 ∨ j = 1 ∨ j = 2 := by omega) <;> rfl
    | moved => (refine ⟨by simp [layM], ⟨_, _, rfl⟩, fun j hj => ?_⟩; simp [layM] at hj; obtain rfl | rfl : j = 0 ∨ j = 1 := by omega) <;> rfl

abbrev E0 : Env Ab := ⟨tis, []⟩
theorem e0Ok : EnvOk Try.prog AI E0 := ⟨tisOk, fun f k h => by cases h⟩
theorem mixed : Try.prog.follows .mixedOrders = true := by kernel_rfl

def selS : Ab → Option (U Sto)
  | .sto S => some S
  | _ => none
def selM : Ab → Option (U Mov)
  | .mov M => some M
  | _ => none
end Go.Proofs.Ytgdiepbjdpmfbaa
