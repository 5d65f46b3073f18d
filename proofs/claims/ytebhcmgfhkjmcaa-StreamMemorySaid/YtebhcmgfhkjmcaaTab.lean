/-
  Layer 44: the types, the abstract objects (writer, store, reader), and how they lie in memory.
-/
import Derived.Test.YtebhcmgfhkjmcaaEng3
import Derived.Test.YtebhcmgfhkjmcaaProg
namespace Go.Proofs.Ytebhcmgfhkjmcaa
set_option linter.all false
set_option linter.unusedVariables false
set_option linter.unusedSimpArgs false
set_option linter.unusedSectionVars false
open Go.RowKit Go.Sx
def tis : List (Nat × TI) := [
  (3, ⟨.int .i64, 1, 0, [.li .i64 0]⟩),
  (4, ⟨.bool, 1, 0, [.lb false]⟩),
  (5, ⟨.int .u8, 1, 0, [.li .u8 0]⟩),
  (9, ⟨.str, 1, 0, [.str (fun _ => [])]⟩),
  (22, ⟨.slice 32 (some (.pair (.int .i64) (.pair (.int .i64) (.pair (.int .i64) (.pair .bool .bytes))))), 1, 0, [.nilS]⟩),
  (24, ⟨.ptr 85, 1, 0, [.nilP]⟩),
  (25, ⟨.int .i64, 1, 0, [.li .i64 0]⟩),
  (28, ⟨.slice 5 (some (.int .u8)), 1, 0, [.nilS]⟩),
  (30, ⟨.struct [(0, 1), (1, 1), (2, 1), (3, 1), (4, 1), (5, 1), (6, 1), (7, 1), (8, 1), (9, 1), (10, 1), (11, 1)], 12, 0, [.li .i64 0, .li .i64 0, .li .i64 0, .li .i64 0, .li .i64 0, .li .i64 0, .li .i64 0, .nilS, .lb false, .lb false, .lb false, .lb false]⟩),
  (32, ⟨.struct [(0, 1), (1, 1), (2, 1), (3, 1), (4, 1)], 5, 0, [.li .i64 0, .li .i64 0, .li .i64 0, .lb false, .nilS]⟩),
  (39, ⟨.struct [(0, 1), (1, 1), (2, 1)], 3, 0, [.li .i64 0, .nilS, .lb false]⟩),
  (51, ⟨.ptr 91, 1, 0, [.nilP]⟩),
  (60, ⟨.slice 39 (some (.pair (.int .i64) (.pair .bytes .bool))), 1, 0, [.nilS]⟩),
  (61, ⟨.slice 97 (some (.pair (.int .i64) (.int .u8))), 1, 0, [.nilS]⟩),
  (63, ⟨.struct [(0, 1), (1, 1), (2, 1), (3, 1)], 4, 0, [.li .i64 0, .li .i64 0, .li .i64 0, .nilS]⟩),
  (71, ⟨.slice 74 (some (.int .u16)), 1, 0, [.nilS]⟩),
  (72, ⟨.ptr 78, 1, 0, [.nilP]⟩),
  (74, ⟨.int .u16, 1, 0, [.li .u16 0]⟩),
  (75, ⟨.slice 80 (some (.pair (.int .i64) (.int .i64))), 1, 0, [.nilS]⟩),
  (76, ⟨.slice 4 (some .bool), 1, 0, [.nilS]⟩),
  (78, ⟨.struct [(0, 1), (1, 1), (2, 1), (3, 1), (4, 1), (5, 1), (6, 1), (7, 1)], 8, 0, [.nilP, .nilP, .nilS, .nilS, .nilS, .nilS, .nilS, .lb false]⟩),
  (80, ⟨.array 2 3, 2, 1, [.li .i64 0, .li .i64 0]⟩),
  (85, ⟨.struct [(0, 1), (1, 1), (2, 1), (3, 1), (4, 1), (5, 1), (6, 1), (7, 1), (8, 1), (9, 1), (10, 1), (11, 1), (12, 1)], 13, 0, [.li .i64 0, .li .i64 0, .nilS, .li .i64 0, .li .i64 0, .li .i64 0, .li .i64 0, .li .i64 0, .li .i64 0, .lb false, .lb false, .lb false, .lb false]⟩),
  (87, ⟨.ptr 103, 1, 0, [.nilP]⟩),
  (91, ⟨.struct [(0, 1), (1, 1)], 2, 0, [.nilP, .li .i64 0]⟩),
  (97, ⟨.struct [(0, 1), (1, 1)], 2, 1, [.li .i64 0, .li .u8 0]⟩),
  (101, ⟨.map 3 5 (some ((.int .i64), (.int .u8))), 1, 0, [.v (.map none)]⟩),
  (103, ⟨.struct [(0, 1), (1, 1), (2, 1), (3, 1), (4, 1), (5, 1)], 6, 0, [.li .i64 0, .li .i64 0, .li .i64 0, .v (.map none), .li .i64 0, .lb false]⟩)]


theorem tisOk : TIok Try.prog tis := tiOk_of (by kernel_rfl) (by kernel_rfl)

structure Wri where
  win : Int
  tmo : Int
  data : List Int
  taken : Int
  base : Int
  next : Int
  top : Int
  room : Int
  idle : Int
  closed : Bool
  ended : Bool
  marked : Bool
  fin : Bool

structure Sto where
  win : Int
  off : Int
  next : Int
  kept : List (Int × Int)
  fin : Int
  known : Bool

structure Rdr where
  sto : Sto
  win : Int

inductive Ab where
  | wri (W : U Wri)
  | sto (S : U Sto)
  | rdr (R : U Rdr)

def lay : Ab → List (Chunk Ab)
  | .wri W => [.cells 85 [.int .i64 (fun _ => (W ()).win), .int .i64 (fun _ => (W ()).tmo), .hd 1 0, .int .i64 (fun _ => (W ()).taken), .int .i64 (fun _ => (W ()).base), .int .i64 (fun _ => (W ()).next), .int .i64 (fun _ => (W ()).top), .int .i64 (fun _ => (W ()).room), .int .i64 (fun _ => (W ()).idle), .sb (fun _ => (W ()).closed), .sb (fun _ => (W ()).ended), .sb (fun _ => (W ()).marked), .sb (fun _ => (W ()).fin)],
      .row 5 (.int .u8) 0 (fun _ => (W ()).data)]
  | .sto S => [.cells 103 [.int .i64 (fun _ => (S ()).win), .int .i64 (fun _ => (S ()).off), .int .i64 (fun _ => (S ()).next), .mp 1, .int .i64 (fun _ => (S ()).fin), .sb (fun _ => (S ()).known)],
      .map (.int .i64) (.int .u8) (fun _ => (S ()).kept)]
  | .rdr R => [.cells 91 [.ptr 1 0, .int .i64 (fun _ => (R ()).win)], .abs (.sto (fun _ => (R ()).sto))]
abbrev AI : Abs Ab := absOf lay

instance : SubA Ab where
  sub
    | .wri W, .wri V => some (fun _ => W () = V ())
    | .sto W, .sto V => some (fun _ => W () = V ())
    | .rdr W, .rdr V => some (fun _ => W () = V ())
    | _, _ => none
  sound := by
    intro a b C h hC
    cases a <;> cases b <;> cases h <;> (congr 1; funext u; cases u; exact hC)

theorem layOk (a : Ab) : LayOk (lay a) := by
  cases a <;> (refine ⟨by simp [lay], ⟨_, _, rfl⟩, fun j hj => ?_⟩; simp [lay] at hj; obtain rfl | rfl : j = 0 ∨ j = 1 := by omega) <;> rfl

abbrev E0 : Env Ab := ⟨tis, []⟩
theorem e0Ok : EnvOk Try.prog AI E0 := ⟨tisOk, fun f k h => by cases h⟩
theorem mixed : Try.prog.follows .mixedOrders = true := by kernel_rfl

def selW : Ab → Option (U Wri)
  | .wri W => some W
  | _ => none
def selS : Ab → Option (U Sto)
  | .sto S => some S
  | _ => none
def selR : Ab → Option (U Rdr)
  | .rdr S => some S
  | _ => none
end Go.Proofs.Ytebhcmgfhkjmcaa
