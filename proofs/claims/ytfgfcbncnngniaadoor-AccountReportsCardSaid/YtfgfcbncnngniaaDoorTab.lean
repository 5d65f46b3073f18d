/-
  Layer 50: the types, the ledger, and how it lies in memory.
-/
import Derived.Test.YtfgfcbncnngniaaDoorEng3
import Derived.Lib.ItoaNum
import Derived.Test.YtfgfcbncnngniaaDoorProg
namespace Go.Proofs.YtfgfcbncnngniaaDoor
set_option linter.all false
set_option linter.unusedVariables false
set_option linter.unusedSimpArgs false
set_option linter.unusedSectionVars false
open Go.RowKit Go.Sx
def tis : List (Nat × TI) := [
  (2, ⟨.int .i64, 1, 0, [.li .i64 0]⟩),
  (3, ⟨.int .i64, 1, 0, [.li .i64 0]⟩),
  (4, ⟨.bool, 1, 0, [.lb false]⟩),
  (5, ⟨.int .u8, 1, 0, [.li .u8 0]⟩),
  (9, ⟨.str, 1, 0, [.str (fun _ => [])]⟩),
  (22, ⟨.slice 28 (some (.pair (.int .i64) (.pair (.int .i64) (.pair (.int .i64) (.pair (.int .i64) (.int .i64)))))), 1, 0, [.nilS]⟩),
  (24, ⟨.ptr 59, 1, 0, [.nilP]⟩),
  (28, ⟨.struct [(0, 1), (1, 1), (2, 1), (3, 1), (4, 1)], 5, 1, [.li .i64 0, .li .i64 0, .li .i64 0, .li .i64 0, .li .i64 0]⟩),
  (31, ⟨.slice 48 (some (.pair (.int .i64) (.pair (.int .i64) (.pair (.int .i64) (.pair (.int .i64) (.int .i64)))))), 1, 0, [.nilS]⟩),
  (34, ⟨.slice 3 (some (.int .i64)), 1, 0, [.nilS]⟩),
  (38, ⟨.array 5 3, 5, 1, [.li .i64 0, .li .i64 0, .li .i64 0, .li .i64 0, .li .i64 0]⟩),
  (39, ⟨.int .i64, 1, 0, [.li .i64 0]⟩),
  (42, ⟨.int .u16, 1, 0, [.li .u16 0]⟩),
  (48, ⟨.struct [(0, 1), (1, 1), (2, 1), (3, 1), (4, 1)], 5, 1, [.li .i64 0, .li .i64 0, .li .i64 0, .li .i64 0, .li .i64 0]⟩),
  (57, ⟨.map 3 38 (some ((.int .i64), (.pair (.int .i64) (.pair (.int .i64) (.pair (.int .i64) (.pair (.int .i64) (.int .i64))))))), 1, 0, [.v (.map none)]⟩),
  (59, ⟨.struct [(0, 1), (1, 1)], 2, 0, [.nilS, .v (.map none)]⟩),
  (67, ⟨.ptr 70, 1, 0, [.nilP]⟩),
  (68, ⟨.slice 5 (some (.int .u8)), 1, 0, [.nilS]⟩),
  (70, ⟨.struct [(0, 1), (1, 1)], 2, 0, [.nilP, .nilS]⟩),
  (81, ⟨.ptr 5, 1, 0, [.nilP]⟩)]


theorem tisOk : TIok Tryd.prog tis := tiOk_of (by kernel_rfl) (by kernel_rfl)
abbrev I64 : Ty := .int .i64
/-- Five numbers: an entry (tick, connection, from, to, bytes), or balances. -/
abbrev fvE : Ty := .pair I64 (.pair I64 (.pair I64 (.pair I64 I64)))
abbrev Fv := Int × Int × Int × Int × Int
structure Led where
  ents : List Fv
  bals : List (Int × Fv)
inductive Ab where
  | led (S : U Led)
def lay : Ab → List (Chunk Ab)
  | .led S => [.cells 59 [.hd 1 0, .mp 2], .row 28 fvE 0 (fun _ => (S ()).ents), .map (.int .i64) fvE (fun _ => (S ()).bals)]
/-- The table of the powers of ten stays as it is. -/
noncomputable def tq : TabQ := tabOf Tryd.prog "internal/strconv.uint64pow10" .u64 Lib.pow10Tab
noncomputable abbrev AI : Abs Ab := absOf lay tq

instance : SubA Ab where
  sub
    | .led W, .led V => some (fun _ => W () = V ())
  sound := by
    intro a b C h hC
    cases a <;> cases b <;> cases h <;> (congr 1; funext u; cases u; exact hC)

theorem layOk (a : Ab) : LayOk (lay a) := by
  cases a with
  | led S => (refine ⟨by simp [lay], ⟨_, _, rfl⟩, fun j hj => ?_⟩; simp [lay] at hj; obtain rfl | rfl | rfl : j = 0 ∨ j = 1 ∨ j = 2 := by omega) <;> rfl

abbrev E0 : Env Ab := ⟨tis, []⟩
theorem e0Ok : EnvOk Tryd.prog AI E0 := ⟨tisOk, fun f k h => by cases h⟩
theorem mixed : Tryd.prog.follows .mixedOrders = true := by kernel_rfl
def selL : Ab → Option (U Led)
  | .led S => some S
end Go.Proofs.YtfgfcbncnngniaaDoor
