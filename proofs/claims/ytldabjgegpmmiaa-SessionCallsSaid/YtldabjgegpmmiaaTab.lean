/-
  Layer 47: the types, the abstract objects (writer, store, reader, end of a session), and how they lie in memory.
-/
import Derived.Test.YtldabjgegpmmiaaEng3
import Derived.Test.YtldabjgegpmmiaaProg
namespace Go.Proofs.Ytldabjgegpmmiaa
set_option linter.all false
set_option linter.unusedVariables false
set_option linter.unusedSimpArgs false
set_option linter.unusedSectionVars false
open Go.RowKit Go.Sx
def tis : List (Nat × TI) := [
  (3, ⟨.int .i64, 1, 0, [.li .i64 0]⟩),
  (4, ⟨.bool, 1, 0, [.lb false]⟩),
  (5, ⟨.int .u8, 1, 0, [.li .u8 0]⟩),
  (9, ⟨.str, 1, 0, [.str (fun _ => [])]⟩),
  (22, ⟨.slice 5 (some (.int .u8)), 1, 0, [.nilS]⟩),
  (24, ⟨.ptr 37, 1, 0, [.nilP]⟩),
  (28, ⟨.int .u64, 1, 0, [.li .u64 0]⟩),
  (30, ⟨.ptr 90, 1, 0, [.nilP]⟩),
  (31, ⟨.array 2 30, 2, 0, [.nilP, .nilP]⟩),
  (32, ⟨.slice 47 (some (.pair (.int .i64) (.pair (.int .i64) (.pair (.int .i64) (.pair (.pair (.int .i64) (.pair .bytes .bool)) (.pair (.int .i64) (.pair (.int .i64) .bool))))))), 1, 0, [.nilS]⟩),
  (33, ⟨.array 2 32, 2, 0, [.nilS, .nilS]⟩),
  (34, ⟨.array 2 22, 2, 0, [.nilS, .nilS]⟩),
  (35, ⟨.array 2 4, 2, 0, [.lb false, .lb false]⟩),
  (37, ⟨.struct [(0, 2), (2, 2), (4, 2), (6, 2), (8, 2)], 10, 0, [.nilP, .nilP, .nilS, .nilS, .nilS, .nilS, .nilS, .nilS, .lb false, .lb false]⟩),
  (41, ⟨.int .i64, 1, 0, [.li .i64 0]⟩),
  (45, ⟨.struct [(0, 1), (1, 1), (2, 1)], 3, 0, [.li .i64 0, .nilS, .lb false]⟩),
  (47, ⟨.struct [(0, 1), (1, 1), (2, 1), (3, 3), (6, 1), (7, 1), (8, 1)], 9, 0, [.li .i64 0, .li .i64 0, .li .i64 0, .li .i64 0, .nilS, .lb false, .li .i64 0, .li .i64 0, .lb false]⟩),
  (50, ⟨.struct [(0, 1), (1, 1), (2, 1), (3, 3), (6, 1), (7, 1), (8, 1)], 9, 0, [.li .i64 0, .li .i64 0, .li .i64 0, .li .i64 0, .nilS, .lb false, .li .i64 0, .li .i64 0, .lb false]⟩),
  (66, ⟨.slice 68 (some (.pair (.int .i64) (.pair (.int .i64) (.pair .bytes (.pair (.int .i64) (.pair (.int .i64) (.pair (.int .i64) (.pair (.pair (.int .i64) (.pair .bytes .bool)) (.pair (.int .i64) (.pair (.int .i64) .bool)))))))))), 1, 0, [.nilS]⟩),
  (68, ⟨.struct [(0, 1), (1, 1), (2, 1), (3, 9)], 12, 0, [.li .i64 0, .li .i64 0, .nilS, .li .i64 0, .li .i64 0, .li .i64 0, .li .i64 0, .nilS, .lb false, .li .i64 0, .li .i64 0, .lb false]⟩),
  (70, ⟨.struct [(0, 1), (1, 1), (2, 1), (3, 1), (4, 1), (5, 1), (6, 1), (7, 1), (8, 1), (9, 1), (10, 1), (11, 1)], 12, 0, [.li .i64 0, .li .i64 0, .li .i64 0, .li .i64 0, .li .i64 0, .li .i64 0, .li .i64 0, .nilS, .lb false, .lb false, .lb false, .lb false]⟩),
  (71, ⟨.slice 134 (some (.pair (.int .i64) (.int .u8))), 1, 0, [.nilS]⟩),
  (73, ⟨.struct [(0, 1), (1, 1), (2, 1), (3, 1)], 4, 0, [.li .i64 0, .li .i64 0, .li .i64 0, .nilS]⟩),
  (75, ⟨.struct [(0, 1), (1, 1), (2, 1), (3, 1), (4, 12), (16, 4), (20, 1), (21, 1), (22, 1)], 23, 0, [.li .i64 0, .li .i64 0, .li .i64 0, .li .i64 0, .li .i64 0, .li .i64 0, .li .i64 0, .li .i64 0, .li .i64 0, .li .i64 0, .li .i64 0, .nilS, .lb false, .lb false, .lb false, .lb false, .li .i64 0, .li .i64 0, .li .i64 0, .nilS, .lb false, .lb false, .li .i64 0]⟩),
  (81, ⟨.slice 50 (some (.pair (.int .i64) (.pair (.int .i64) (.pair (.int .i64) (.pair (.pair (.int .i64) (.pair .bytes .bool)) (.pair (.int .i64) (.pair (.int .i64) .bool))))))), 1, 0, [.nilS]⟩),
  (87, ⟨.ptr 121, 1, 0, [.nilP]⟩),
  (88, ⟨.ptr 125, 1, 0, [.nilP]⟩),
  (90, ⟨.struct [(0, 1), (1, 1), (2, 1), (3, 1), (4, 1), (5, 1), (6, 1), (7, 1), (8, 1)], 9, 0, [.li .i64 0, .li .i64 0, .li .i64 0, .li .i64 0, .li .i64 0, .nilP, .nilP, .lb false, .lb false]⟩),
  (104, ⟨.ptr 75, 1, 0, [.nilP]⟩),
  (121, ⟨.struct [(0, 1), (1, 1), (2, 1), (3, 1), (4, 1), (5, 1), (6, 1), (7, 1), (8, 1), (9, 1), (10, 1), (11, 1), (12, 1)], 13, 0, [.li .i64 0, .li .i64 0, .nilS, .li .i64 0, .li .i64 0, .li .i64 0, .li .i64 0, .li .i64 0, .li .i64 0, .lb false, .lb false, .lb false, .lb false]⟩),
  (123, ⟨.ptr 139, 1, 0, [.nilP]⟩),
  (125, ⟨.struct [(0, 1), (1, 1)], 2, 0, [.nilP, .li .i64 0]⟩),
  (134, ⟨.struct [(0, 1), (1, 1)], 2, 1, [.li .i64 0, .li .u8 0]⟩),
  (137, ⟨.map 3 5 (some ((.int .i64), (.int .u8))), 1, 0, [.v (.map none)]⟩),
  (139, ⟨.struct [(0, 1), (1, 1), (2, 1), (3, 1), (4, 1), (5, 1)], 6, 0, [.li .i64 0, .li .i64 0, .li .i64 0, .v (.map none), .li .i64 0, .lb false]⟩)]


theorem tisOk : TIok Try.prog tis := tiOk_of (by kernel_rfl) (by kernel_rfl)

structure Wri where
  win : Int
  tmo : Int
  data : List Int
  taken : Int
  base : Int
  next : Int
  top : Int
  room : Int
  idle : Int
  closed : Bool
  ended : Bool
  marked : Bool
  fin : Bool

structure Sto where
  win : Int
  off : Int
  next : Int
  kept : List (Int × Int)
  fin : Int
  known : Bool

structure Rdr where
  sto : Sto
  win : Int

structure Edd where
  inc : Int
  peer : Int
  st : Int
  tmo : Int
  wait : Int
  w : Wri
  r : Rdr
  owed : Bool
  ended : Bool

inductive Ab where
  | wri (W : U Wri)
  | sto (S : U Sto)
  | rdr (R : U Rdr)
  | edd (E : U Edd)

def lay : Ab → List (Chunk Ab)
  | .wri W => [.cells 121 [.int .i64 (fun _ => (W ()).win), .int .i64 (fun _ => (W ()).tmo), .hd 1 0, .int .i64 (fun _ => (W ()).taken), .int .i64 (fun _ => (W ()).base), .int .i64 (fun _ => (W ()).next), .int .i64 (fun _ => (W ()).top), .int .i64 (fun _ => (W ()).room), .int .i64 (fun _ => (W ()).idle), .sb (fun _ => (W ()).closed), .sb (fun _ => (W ()).ended), .sb (fun _ => (W ()).marked), .sb (fun _ => (W ()).fin)],
      .row 5 (.int .u8) 0 (fun _ => (W ()).data)]
  | .sto S => [.cells 139 [.int .i64 (fun _ => (S ()).win), .int .i64 (fun _ => (S ()).off), .int .i64 (fun _ => (S ()).next), .mp 1, .int .i64 (fun _ => (S ()).fin), .sb (fun _ => (S ()).known)],
      .map (.int .i64) (.int .u8) (fun _ => (S ()).kept)]
  | .rdr R => [.cells 125 [.ptr 1 0, .int .i64 (fun _ => (R ()).win)], .abs (.sto (fun _ => (R ()).sto))]
  | .edd E => [.cells 90 [.int .i64 (fun _ => (E ()).inc), .int .i64 (fun _ => (E ()).peer), .int .i64 (fun _ => (E ()).st), .int .i64 (fun _ => (E ()).tmo), .int .i64 (fun _ => (E ()).wait), .ptr 1 0, .ptr 2 0, .sb (fun _ => (E ()).owed), .sb (fun _ => (E ()).ended)], .abs (.wri (fun _ => (E ()).w)), .abs (.rdr (fun _ => (E ()).r))]
abbrev AI : Abs Ab := absOf lay

instance : SubA Ab where
  sub
    | .wri W, .wri V => some (fun _ => W () = V ())
    | .sto W, .sto V => some (fun _ => W () = V ())
    | .rdr W, .rdr V => some (fun _ => W () = V ())
    | .edd W, .edd V => some (fun _ => W () = V ())
    | _, _ => none
  sound := by
    intro a b C h hC
    cases a <;> cases b <;> cases h <;> (congr 1; funext u; cases u; exact hC)

theorem layOk (a : Ab) : LayOk (lay a) := by
  cases a with
  | edd E => (refine ⟨by simp [lay], ⟨_, _, rfl⟩, fun j hj => ?_⟩; simp [lay] at hj; obtain rfl | rfl | rfl : j = 0 ∨ j = 1 ∨ j = 2 := by omega) <;> rfl
  | wri E => (refine ⟨by simp [lay], ⟨_, _, rfl⟩, fun j hj => ?_⟩; simp [lay] at hj; obtain rfl | rfl : j = 0 ∨ j = 1 := by omega) <;> rfl
  | sto E => (refine ⟨by simp [lay], ⟨_, _, rfl⟩, fun j hj => ?_⟩; simp [lay] at hj; obtain rfl | rfl : j = 0 ∨ j = 1 := by omega) <;> rfl
  | rdr E => (refine ⟨by simp [lay], ⟨_, _, rfl⟩, fun j hj => ?_⟩; simp [lay] at hj; obtain rfl | rfl : j = 0 ∨ j = 1 := by omega) <;> rfl

abbrev E0 : Env Ab := ⟨tis, []⟩
theorem e0Ok : EnvOk Try.prog AI E0 := ⟨tisOk, fun f k h => by cases h⟩
theorem mixed : Try.prog.follows .mixedOrders = true := by kernel_rfl

def selW : Ab → Option (U Wri)
  | .wri W => some W
  | _ => none
def selS : Ab → Option (U Sto)
  | .sto S => some S
  | _ => none
def selR : Ab → Option (U Rdr)
  | .rdr S => some S
  | _ => none
def selE : Ab → Option (U Edd)
  | .edd S => some S
  | _ => none
end Go.Proofs.Ytldabjgegpmmiaa
