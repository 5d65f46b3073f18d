/-
  Symbolic execution (part 1).
-/
import Derived.WalkKit
import Derived.Deep.AppendSrc
import Derived.Maps.OwnOps
import Derived.MapKept
import Derived.Maps.RangeRun
import Derived.WalkLawsBesides
import Derived.OwnWalk
/-
  Symbolic execution, definitions: symbolic values, chunks of memory, one operation, a region, a piece of code.
-/
namespace Go.Sx
set_option linter.all false
open Go.RowKit

/-- Numbers compared: one step where the two are written out. -/
def beqN (a b : Nat) : Bool := a == b
def bleN (a b : Nat) : Bool := decide (a ≤ b)
def bltN (a b : Nat) : Bool := bleN (a + 1) b
@[simp] theorem beqN_iff {a b : Nat} : beqN a b = true ↔ a = b := by unfold beqN; exact beq_iff_eq
@[simp] theorem bltN_iff {a b : Nat} : bltN a b = true ↔ a < b := by unfold bltN bleN; exact decide_eq_true_iff
@[simp] theorem bleN_iff {a b : Nat} : bleN a b = true ↔ a ≤ b := by unfold bleN; exact decide_eq_true_iff
@[simp] theorem beqN_self {a : Nat} : beqN a a = true := beqN_iff.2 rfl
theorem leN {a b : Nat} (h : bleN a b = true) : a ≤ b := bleN_iff.1 h
theorem geN {a b : Nat} (h : a ≤ b) : bleN a b = true := bleN_iff.2 h

/-- A value that is handed on without being looked into. -/
abbrev U (α : Type) := Unit → α

/-- What an element of a slice is, seen as data. -/
inductive Ty where
  | int (k : IntKind)
  | bool
  | bytes
  | str
  | unit
  | pair (a b : Ty)
  | lst (a : Ty)
  deriving DecidableEq

abbrev Ty.T : Ty → Type
  | .int _ => Int
  | .bool => Bool
  | .bytes => List Int
  | .str => List Int
  | .unit => Unit
  | .pair a b => a.T × b.T
  | .lst a => List a.T

def Ty.dflt : (e : Ty) → e.T
  | .int _ => (0 : Int)
  | .bool => false
  | .bytes => ([] : List Int)
  | .str => ([] : List Int)
  | .unit => ()
  | .pair a b => (a.dflt, b.dflt)
  | .lst a => ([] : List a.T)

def Ty.size : Ty → Nat
  | .int _ => 1
  | .bool => 1
  | .bytes => 1
  | .str => 1
  | .unit => 0
  | .pair a b => a.size + b.size
  | .lst _ => 1

/-- Is a value of this form one of several cells? -/
def Ty.agg : Ty → Bool
  | .pair _ _ => true
  | .unit => true
  | _ => false

/-- What a map's key is. -/
inductive KT where
  | int (k : IntKind)
  | str
  | agg (e : Ty)                                   -- several cells: ints and Bools
  deriving DecidableEq
abbrev KT.T : KT → Type
  | .int _ => Int
  | .str => List Int
  | .agg e => e.T
@[instance_reducible] def Ty.dec : (e : Ty) → DecidableEq e.T
  | .int _ => Int.instDecidableEq
  | .bool => instDecidableEqBool
  | .bytes => instDecidableEqList
  | .str => instDecidableEqList
  | .unit => instDecidableEqPUnit
  | .pair a b => @instDecidableEqProd _ _ a.dec b.dec
  | .lst a => @instDecidableEqList _ a.dec
def Ty.keyF : Ty → Bool
  | .int .i64 => true
  | .bool => true
  | .pair a b => a.keyF && b.keyF
  | _ => false
def Ty.keyIn : (e : Ty) → e.T → Prop
  | .int _, n => -9223372036854775808 ≤ n ∧ n ≤ 9223372036854775807
  | .bool, _ => True
  | .pair a b, x => a.keyIn x.1 ∧ b.keyIn x.2
  | _, _ => False
def Ty.keyCs : (e : Ty) → e.T → List Value
  | .int k, n => [.int k n]
  | .bool, b => [.bool b]
  | .pair a b, x => a.keyCs x.1 ++ b.keyCs x.2
  | _, _ => []

/-- A symbolic value of one cell. -/
inductive SV1 where
  | int (k : IntKind) (n : U Int)
  | li (k : IntKind) (n : Int)                     -- an integer that is written out
  | sb (b : U Bool)                                -- a Bool that is not decided
  | lb (b : Bool)                                  -- a Bool that is written out
  | str (l : U (List Int))
  | v (x : Value)                                  -- any other value
  | nilS                                           -- the nil slice
  | nilP                                           -- the nil pointer
  | ptr (i off : Nat)                              -- a pointer into chunk i
  | ro (e : Ty) (L : U (List e.T))                 -- a slice of elements that stay as they are
  | hd (i ver : Nat)                               -- the slice (or the map) that owns chunk i
  | vw (i ver esz : Nat) (lo n : U Int)            -- a part of it (of elements of esz cells)
  | ep (i ver esz : Nat) (k : U Int) (off : Nat)   -- a pointer to an element of it, of esz cells
  | rp (e : Ty) (L : U (List e.T)) (k : U Int) (off : Nat) -- a pointer to an element of elements that stay
  | mp (i : Nat)                                   -- the map that is chunk i
  | nb (neg : Bool) (C : U Prop)                   -- a Bool: where it is not neg, C holds
  | ln (n : U Int)                                 -- some slice of length n
  | fnc (f : FuncId) (ids : List Nat)              -- a function value that has caught these chunks' addresses
  | any

inductive SV2 where
  | one (x : SV1)
  | agg (l : List SV1)
  | fn (f : FuncId) (caps : List SV1)

inductive SV where
  | val (x : SV2)
  | tup (l : List SV2)

def dec : (e : Ty) → U e.T → List SV1
  | .int k, n => [.int k n]
  | .bool, b => [.sb b]
  | .bytes, l => [.ro (.int .u8) l]
  | .str, l => [.str l]
  | .unit, _ => []
  | .pair a b, x => dec a (fun _ => (x ()).1) ++ dec b (fun _ => (x ()).2)
  | .lst a, l => [.ro a l]

/-- The elements of one form in the other form, where the two are one. -/
def castL : (e e' : Ty) → Option (List e.T → List e'.T)
  | .int k, .int k' => (match decide (k = k') with | true => some (fun l => l) | false => none)
  | .bool, .bool => some (fun l => l)
  | .bytes, .bytes => some (fun l => l)
  | .str, .str => some (fun l => l)
  | .unit, .unit => some (fun l => l)
  | .lst a, .lst a' => (match castT a a' with
    | some f => some (fun l => l.map fun x => List.map f x)
    | none => none)
  | .pair a b, .pair a' b' => (match castT a a' with
    | some f => (match castT b b' with
      | some g => some (fun l => l.map fun x => (f x.1, g x.2))
      | none => none)
    | none => none)
  | _, _ => none
where castT : (e e' : Ty) → Option (e.T → e'.T)
  | .int k, .int k' => (match decide (k = k') with | true => some (fun l => l) | false => none)
  | .bool, .bool => some (fun l => l)
  | .bytes, .bytes => some (fun l => l)
  | .str, .str => some (fun l => l)
  | .unit, .unit => some (fun l => l)
  | .lst a, .lst a' => (match castT a a' with
    | some f => some (fun l => List.map f l)
    | none => none)
  | .pair a b, .pair a' b' => (match castT a a' with
    | some f => (match castT b b' with
      | some g => some (fun x => (f x.1, g x.2))
      | none => none)
    | none => none)
  | _, _ => none

/-- A slice as a list of elements. -/
def lstOf (a : Ty) : SV1 → Option (U (List a.T))
  | .ro a' l => (match castL a' a with | some f => some (fun _ => f (l ())) | none => none)
  | .nilS => some (fun _ => [])
  | _ => none
/-- The element that these cells spell, and what is left of them. -/
def enc : (e : Ty) → List SV1 → Option (U e.T × List SV1)
  | .int k, .int k' n :: r => match decide (k = k') with | true => some (n, r) | false => none
  | .int k, .li k' n :: r => match decide (k = k') with | true => some (fun _ => n, r) | false => none
  | .bool, .sb b :: r => some (b, r)
  | .bool, .lb b :: r => some (fun _ => b, r)
  | .bytes, .ro (.int .u8) l :: r => some (l, r)
  | .bytes, .nilS :: r => some (fun _ => [], r)
  | .str, .str l :: r => some (l, r)
  | .unit, r => some (fun _ => (), r)
  | .lst a, x :: r => (match lstOf a x with | some l => some (l, r) | none => none)
  | .pair a b, r => match enc a r with
    | some (x, r) => match enc b r with
      | some (y, r) => some (fun _ => (x (), y ()), r)
      | none => none
    | none => none
  | _, _ => none

/-- Maps as lists: what stands at a key, with a key set, with a key struck out. -/
def getA {K V : Type} [DecidableEq K] : List (K × V) → K → Option V
  | [], _ => none
  | (a, v) :: r, k => if a = k then some v else getA r k
def putA {K V : Type} [DecidableEq K] : List (K × V) → K → V → List (K × V)
  | [], k, v => [(k, v)]
  | (a, x) :: r, k, v => if a = k then (k, v) :: r else (a, x) :: putA r k v
def delA {K V : Type} [DecidableEq K] : List (K × V) → K → List (K × V)
  | [], _ => []
  | (a, x) :: r, k => if a = k then r else (a, x) :: delA r k
def getM : (ks : KT) → {V : Type} → List (ks.T × V) → ks.T → Option V
  | .int _, _, l, k => getA (K := Int) l k
  | .str, _, l, k => getA (K := List Int) l k
  | .agg e, _, l, k => @getA e.T _ e.dec l k
def putM : (ks : KT) → {V : Type} → List (ks.T × V) → ks.T → V → List (ks.T × V)
  | .int _, _, l, k, v => putA (K := Int) l k v
  | .str, _, l, k, v => putA (K := List Int) l k v
  | .agg e, _, l, k, v => @putA e.T _ e.dec l k v
def delM : (ks : KT) → {V : Type} → List (ks.T × V) → ks.T → List (ks.T × V)
  | .int _, _, l, k => delA (K := Int) l k
  | .str, _, l, k => delA (K := List Int) l k
  | .agg e, _, l, k => @delA e.T _ e.dec l k

inductive TK where
  | int (k : IntKind)
  | bool
  | str
  | struct (offs : List (Nat × Nat))               -- of each field: its offset, its cells
  | slice (elem : TypeId) (ty : Option Ty)
  | array (n : Nat) (elem : TypeId)
  | ptr (e : TypeId)
  | map (k e : TypeId) (ty : Option (KT × Ty))
  | other

structure TI where
  kind : TK
  size : Nat
  bytes : Nat
  zero : List SV1

def TI.isAgg (t : TI) : Bool := match t.kind with | .struct _ => true | .array _ _ => true | _ => false

inductive Chunk (A : Type) where
  | emp                                            -- not yet used
  | gone                                           -- let go
  | cells (t : TypeId) (cs : List SV1)
  | row (t : TypeId) (e : Ty) (ver : Nat) (L : U (List e.T))
  | map (ks : KT) (e : Ty) (L : U (List (ks.T × e.T)))
  | rmap (ks : KT) (e : Ty) (L R : U (List (ks.T × e.T))) (c : Option (U (ks.T × e.T))) (j : Nat) -- a map that is ranged over by the iterator j: R is still to come, c is there
  | itp (i : Nat)                                  -- the iterator over the map i
  | nest (t tb : TypeId) (z ver : Nat) (L : U (List (List Int))) (h : Option (U Int × Nat)) -- a list (z slots an element) whose slots own their rows; where h = (q, j), slot q's row is chunk j
  | mnest (tb : TypeId) (L : U (List (Int × List Int))) (h : Option (U Int × Nat)) -- a map whose values own their rows; where h = (k, j), key k's row is chunk j
  | abs (a : A)

structure SS (A : Type) where
  tm : List (Nat × SV)
  H : List (Chunk A)

def look {α : Type} : List (Nat × α) → Nat → Option α
  | [], _ => none
  | (i, x) :: r, n => match beqN i n with
    | true => some x
    | false => look r n

def nth {α : Type} : List α → Nat → Option α
  | [], _ => none
  | x :: _, 0 => some x
  | _ :: r, n + 1 => nth r n

def setNth {α : Type} : List α → Nat → α → List α
  | [], _, _ => []
  | _ :: r, 0, y => y :: r
  | x :: r, n + 1, y => x :: setNth r n y

def takeN {α : Type} : List α → Nat → Option (List α)
  | _, 0 => some []
  | x :: r, n + 1 => match takeN r n with | some l => some (x :: l) | none => none
  | [], _ + 1 => none
def cut {α : Type} : List α → Nat → Nat → Option (List α)
  | l, 0, n => takeN l n
  | _ :: r, o + 1, n => cut r o n
  | [], _ + 1, _ => none

def paste {α : Type} : List α → Nat → List α → Option (List α)
  | l, _, [] => some l
  | x :: r, o + 1, y :: ys => match paste r o (y :: ys) with | some l => some (x :: l) | none => none
  | _ :: r, 0, y :: ys => match paste r 0 ys with | some l => some (y :: l) | none => none
  | [], _, _ :: _ => none

/-- A literal value as a symbolic one. -/
def ofLit1 : Value → SV1
  | .bool b => .lb b
  | .int k n => .li k n
  | .string s => .str (fun _ => s.data.toList.map fun x => (x.toNat : Int))
  | .slice none 0 0 => .nilS
  | .pointer none => .nilP
  | x => .v x
def ofLit : Value → SV
  | .agg cs => .val (.agg (cs.toList.map ofLit1))
  | x => .val (.one (ofLit1 x))

def evalOp (tm : List (Nat × SV)) : Operand → Option SV
  | .tmp t => look tm t
  | .const v => some (ofLit v)
  | .func f => some (.val (.fn f []))
  | .global _ => none

def evalOps (tm : List (Nat × SV)) : List Operand → Option (List SV)
  | [] => some []
  | x :: r => match evalOp tm x with
    | some v => match evalOps tm r with
      | some vs => some (v :: vs)
      | none => none
    | none => none

/-- What an operation does: it fails, it wants a Bool decided, or it is done. -/
inductive Out (A : Type) where
  | fail
  | need (b : U Bool)
  | done (C : U Prop) (v : SV) (cs : List (Chunk A))

/-- The chunks that it looks at (the last nf of them are new), whether it writes to them, and what it does with them (behind the decisions that were made). -/
structure Plan (A : Type) where
  ids : List Nat
  nf : Nat
  w : Bool
  eff : List (Chunk A) → List Bool → Out A

def inI64 (n : Int) : Prop := -9223372036854775808 ≤ n ∧ n ≤ 9223372036854775807

def one (x : SV1) : SV := .val (.one x)

def pureP {A : Type} (C : U Prop) (v : SV) : Option (Plan A) := some ⟨[], 0, false, fun _ _ => .done C v []⟩
def tt : U Prop := fun _ => True

/-- The chunks whose addresses these are. -/
def capIds : List SV1 → Option (List Nat)
  | [] => some []
  | .ptr i 0 :: r => (match capIds r with | some l => some (i :: l) | none => none)
  | _ => none
def cellsOf : SV → Option (List SV1)
  | .val (.one x) => some [x]
  | .val (.agg l) => some l
  | .val (.fn f l) => (match capIds l with | some ids => some [.fnc f ids] | none => none)
  | _ => none

def ival : SV1 → Option (IntKind × U Int)
  | .int k n => some (k, n)
  | .li k n => some (k, fun _ => n)
  | _ => none
def ivalS : SV → Option (IntKind × U Int)
  | .val (.one x) => ival x
  | _ => none
def bval : SV1 → Option (U Bool)
  | .sb b => some b
  | .lb b => some (fun _ => b)
  | _ => none

def fit (k : IntKind) (n : U Int) : U Prop × SV1 := match k with
  | .i64 => (fun _ => inI64 (n ()), .int k n)
  | _ => (tt, .int k (fun _ => k.wrap (n ())))

def andI (a b : Int) : Int := ((a.toNat &&& b.toNat : Nat) : Int)
def arith (op : BinOp) (k : IntKind) (a b : U Int) : Option (U Prop × SV1) :=
  match op with
  | .add => some (fit k (fun _ => a () + b ()))
  | .sub => some (fit k (fun _ => a () - b ()))
  | .mul => some (fit k (fun _ => a () * b ()))
  | .quo => match k with
    | .i64 => some (fun _ => 0 ≤ a () ∧ 0 < b () ∧ inI64 (a ()), .int k (fun _ => a () / b ()))
    | .u8 => some (fun _ => 0 ≤ a () ∧ 0 < b () ∧ a () < 256, .int k (fun _ => a () / b ()))
    | .u16 => some (fun _ => 0 ≤ a () ∧ 0 < b () ∧ a () < 65536, .int k (fun _ => a () / b ()))
    | .u64 => some (fun _ => 0 ≤ a () ∧ 0 < b () ∧ a () < 18446744073709551616, .int k (fun _ => a () / b ()))
    | _ => none
  | .rem => match k with
    | .i64 => some (fun _ => 0 ≤ a () ∧ 0 < b () ∧ inI64 (a ()), .int k (fun _ => a () % b ()))
    | .u8 => some (fun _ => 0 ≤ a () ∧ 0 < b () ∧ a () < 256, .int k (fun _ => a () % b ()))
    | .u16 => some (fun _ => 0 ≤ a () ∧ 0 < b () ∧ a () < 65536, .int k (fun _ => a () % b ()))
    | .u64 => some (fun _ => 0 ≤ a () ∧ 0 < b () ∧ a () < 18446744073709551616, .int k (fun _ => a () % b ()))
    | _ => none
  | .and => match k with
    | .i64 => some (fun _ => 0 ≤ a () ∧ 0 ≤ b () ∧ a () < 9223372036854775808 ∧ b () < 9223372036854775808, .int k (fun _ => andI (a ()) (b ())))
    | .u8 => some (fun _ => 0 ≤ a () ∧ 0 ≤ b () ∧ a () < 256 ∧ b () < 256, .int k (fun _ => andI (a ()) (b ())))
    | .u16 => some (fun _ => 0 ≤ a () ∧ 0 ≤ b () ∧ a () < 65536 ∧ b () < 65536, .int k (fun _ => andI (a ()) (b ())))
    | .u64 => some (fun _ => 0 ≤ a () ∧ 0 ≤ b () ∧ a () < 18446744073709551616 ∧ b () < 18446744073709551616, .int k (fun _ => andI (a ()) (b ())))
    | _ => none
  | .lss => some (tt, .sb (fun _ => decide (a () < b ())))
  | .leq => some (tt, .sb (fun _ => decide (a () ≤ b ())))
  | .gtr => some (tt, .sb (fun _ => decide (b () < a ())))
  | .geq => some (tt, .sb (fun _ => decide (b () ≤ a ())))
  | .eql => some (tt, .sb (fun _ => decide (a () = b ())))
  | .neq => some (tt, .sb (fun _ => !decide (a () = b ())))
  | _ => none

def inBytes (l : List Int) : Prop := ∀ x ∈ l, 0 ≤ x ∧ x < 256

def strBA (l : List Int) : ByteArray := ⟨(l.map fun x => x.toNat.toUInt8).toArray⟩
def binop1 (op : BinOp) (x y : SV1) : Option (U Prop × SV1) :=
  match ival x with
  | some (k, a) => match ival y with
    | some (k', b) => (match op with
      | .shr => (match k with
        | .u8 => some (fun _ => 0 ≤ a () ∧ 0 ≤ b () ∧ b () ≤ 8, .int k (fun _ => a () / 2 ^ (b ()).toNat))
        | .u16 => some (fun _ => 0 ≤ a () ∧ 0 ≤ b () ∧ b () ≤ 8, .int k (fun _ => a () / 2 ^ (b ()).toNat))
        | .u64 => some (fun _ => 0 ≤ a () ∧ 0 ≤ b () ∧ b () ≤ 32, .int k (fun _ => a () / 2 ^ (b ()).toNat))
        | _ => none)
      | _ => match decide (k = k') with | true => arith op k a b | false => none)
    | none => none
  | none => match bval x with
    | some p => (match bval y with
      | some q => (match op with | .eql => some (tt, .sb (fun _ => p () == q ())) | .neq => some (tt, .sb (fun _ => !(p () == q ()))) | _ => none)
      | none => none)
    | none => match x, y with
      | .str a, .str b => (match op with
        | .eql => some (fun _ => inBytes (a ()) ∧ inBytes (b ()), .sb (fun _ => decide (a () = b ())))
        | .neq => some (fun _ => inBytes (a ()) ∧ inBytes (b ()), .sb (fun _ => !decide (a () = b ())))
        | .add => some (fun _ => (a ()).length + (b ()).length ≤ 1099511627776, .str (fun _ => a () ++ b ()))
        | .lss => some (tt, .sb (fun _ => Op.bytesLess (strBA (a ())).toList (strBA (b ())).toList))
        | _ => none)
      | .ptr _ _, .nilP => (match op with | .eql => some (tt, .lb false) | .neq => some (tt, .lb true) | _ => none)
      | .nilP, .ptr _ _ => (match op with | .eql => some (tt, .lb false) | .neq => some (tt, .lb true) | _ => none)
      | .nilP, .nilP => (match op with | .eql => some (tt, .lb true) | .neq => some (tt, .lb false) | _ => none)
      | _, _ => none
def binopP {A : Type} (op : BinOp) (x y : SV) : Option (Plan A) :=
  match x, y with
  | .val (.one x), .val (.one y) => (match binop1 op x y with | some (C, v) => pureP C (one v) | none => none)
  | _, _ => none

def unopP {A : Type} (op : UnOp) (x : SV) : Option (Plan A) :=
  match op, x with
  | .not, .val (.one (.sb b)) => pureP tt (one (.sb (fun _ => !b ())))
  | .not, .val (.one (.lb b)) => pureP tt (one (.lb (!b)))
  | .neg, .val (.one (.int .i64 n)) => pureP (fun _ => inI64 (-n ())) (one (.int .i64 (fun _ => -n ())))
  | _, _ => none

def litNat : SV → Option Nat
  | .val (.one (.li _ (.ofNat n))) => some n
  | _ => none

def convertP {A : Type} (src dst : TI) (x : SV) : Option (Plan A) :=
  match dst.kind, x with
  | .int k', .val (.one (.int _ n)) => (match fit k' n with | (C, v) => pureP C (one v))
  | .int k', .val (.one (.li _ n)) => (match fit k' (fun _ => n) with | (C, v) => pureP C (one v))
  | .str, .val (.one (.int .i32 n)) => pureP (fun _ => 0 ≤ n () ∧ n () < 128) (one (.str (fun _ => [n ()])))
  | .str, .val (.one (.ro (.int .u8) l)) => pureP tt (one (.str l))
  | .str, .val (.one .nilS) => pureP tt (one (.str (fun _ => [])))
  | .str, .val (.one (.str l)) => pureP tt (one (.str l))
  | .str, .val (.one (.hd i ver)) => some ⟨[i], 0, false, fun cs _ => match cs with
      | [.row t (.int .u8) ver' L] => (match beqN ver ver' with | true => .done tt (one (.str L)) [.row t (.int .u8) ver' L] | false => .fail)
      | _ => .fail⟩
  | .str, .val (.one (.vw i ver esz lo n)) => some ⟨[i], 0, false, fun cs _ => match cs with
      | [.row t (.int .u8) ver' L] => (match beqN ver ver' && beqN esz 1 with | true => .done (fun _ => 0 ≤ n ()) (one (.str (fun _ => ((L ()).drop (lo ()).toNat).take (n ()).toNat))) [.row t (.int .u8) ver' L] | false => .fail)
      | _ => .fail⟩
  | _, _ => none

/-- Is a value that a conversion takes of the type that it is said to have? -/
def srcOk (src : TI) (x : SV) : Bool := match src.kind, x with
  | .int _, .val (.one (.int _ _)) => true
  | .int _, .val (.one (.li _ _)) => true
  | .str, .val (.one (.str _)) => true
  | .slice _ (some (.int .u8)), .val (.one (.ro _ _)) => true
  | .slice _ (some (.int .u8)), .val (.one .nilS) => true
  | .slice _ (some (.int .u8)), .val (.one (.hd _ _)) => true
  | .slice _ (some (.int .u8)), .val (.one (.vw _ _ _ _ _)) => true
  | _, _ => false

/-- The cells of a value of type t, as one value. -/
def pack (t : TI) (l : List SV1) : Option SV :=
  match t.isAgg with
  | true => some (.val (.agg l))
  | false => match l with | [x] => some (one x) | _ => none

/-- Part off .. of an element. -/
def partOf (t : TI) (l : List SV1) (off : Nat) : Option SV := match cut l off t.size with
  | some l => pack t l
  | none => none

def loadP {A : Type} (t : TI) (x : SV) : Option (Plan A) :=
  match x with
  | .val (.one (.ptr i off)) => some ⟨[i], 0, false, fun cs _ => match cs with
      | [.cells ct l] => (match partOf t l off with | some v => .done tt v [.cells ct l] | none => .fail)
      | _ => .fail⟩
  | .val (.one (.rp e L k off)) => (match partOf t (dec e (fun _ => (L ()).getD (k ()).toNat e.dflt)) off with
    | some v => pureP (fun _ => 0 ≤ k () ∧ k () < (L ()).length) v
    | none => none)
  | .val (.one (.ep i ver esz k off)) => some ⟨[i], 0, false, fun cs _ => match cs with
      | [.row rt e ver' L] => (match beqN ver ver' && beqN esz e.size with
        | true => (match partOf t (dec e (fun _ => (L ()).getD (k ()).toNat e.dflt)) off with | some v => .done (fun _ => 0 ≤ k () ∧ k () < (L ()).length) v [.row rt e ver' L] | none => .fail)
        | false => .fail)
      | _ => .fail⟩
  | _ => none

def storable : SV1 → Bool
  | .v _ => false
  | .ln _ => false
  | .any => false
  | .nb _ _ => false
  | _ => true

def storeQ {A : Type} (t : TI) (x v : SV) : Option (Plan A) :=
  match cellsOf v with
  | none => none
  | some vs => match beqN vs.length t.size && vs.all storable with
  | false => none
  | true => match x with
    | .val (.one (.ptr i off)) => some ⟨[i], 0, true, fun cs _ => match cs with
        | [.cells ct l] => (match paste l off vs with | some l => .done tt (one .any) [.cells ct l] | none => .fail)
        | _ => .fail⟩
    | .val (.one (.ep i ver esz k off)) => some ⟨[i], 0, true, fun cs _ => match cs with
        | [.row rt e ver' L] => (match beqN ver ver' && beqN esz e.size with
          | true => (match paste (dec e (fun _ => (L ()).getD (k ()).toNat e.dflt)) off vs with
            | some l => (match enc e l with | some (y, []) => .done (fun _ => 0 ≤ k () ∧ k () < (L ()).length) (one .any) [.row rt e ver' (fun _ => (L ()).set (k ()).toNat (y ()))] | _ => .fail)
            | none => .fail)
          | false => .fail)
        | _ => .fail⟩
    | _ => none

/-- A view that is stored into a variable: its row begins anew there. -/
def viewOf : SV → Option (Nat × Nat × Nat × U Int × U Int)
  | .val (.one (.vw j ver esz lo n)) => some (j, ver, esz, lo, n)
  | _ => none
/-- A row that is stored into an element of another row: from then on it stays as it is. -/
def hdOf : SV → Option (Nat × Nat)
  | .val (.one (.hd j ver)) => some (j, ver)
  | _ => none
def epOf : SV → Option Nat
  | .val (.one (.ep i _ _ _ _)) => some i
  | _ => none
def storeF {A : Type} (t : TI) (x : SV) (i j ver : Nat) : Option (Plan A) :=
  match beqN i j with
  | true => none
  | false => some ⟨[i, j], 0, true, fun cs d => match cs with
    | [c, .row _ e ver' L] => (match beqN ver ver' with
      | true => (match storeQ t x (one (.ro e L)) with
        | some q => (match q.eff [c] d with
          | .done C r [c'] => .done C r [c', .gone]
          | .need b => .need b
          | _ => .fail)
        | none => .fail)
      | false => .fail)
    | _ => .fail⟩
def storeP {A : Type} (t : TI) (x v : SV) : Option (Plan A) :=
  match viewOf v with
  | none => (match hdOf v with
    | some (j, ver) => (match epOf x with
      | some i => storeF t x i j ver
      | none => storeQ t x v)
    | none => storeQ t x v)
  | some (j, ver, esz, lo, n) => match x with
    | .val (.one (.ptr i off)) => (match beqN t.size 1 && !beqN i j with
      | true => some ⟨[i, j], 0, true, fun cs _ => match cs with
        | [.cells ct l, .row rt e ver' L] => (match beqN ver ver' && beqN esz e.size with
          | true => (match paste l off [.hd j (ver + 1)] with
            | some l => .done tt (one .any) [.cells ct l, .row rt e (ver + 1) (fun _ => ((L ()).drop (lo ()).toNat).take (n ()).toNat)]
            | none => .fail)
          | false => .fail)
        | _ => .fail⟩
      | false => none)
    | _ => none

def fieldP {A : Type} (t : TI) (x : SV) (f : Nat) : Option (Plan A) :=
  match t.kind with
  | .struct offs => match nth offs f with
    | some (o, _ + 1) => (match x with
      | .val (.one (.ptr i off)) => pureP tt (one (.ptr i (off + o)))
      | .val (.one (.rp e L k off)) => pureP tt (one (.rp e L k (off + o)))
      | .val (.one (.ep i ver esz k off)) => pureP tt (one (.ep i ver esz k (off + o)))
      | _ => none)
    | _ => none
  | _ => none

/-- Part o .. of an array that a pointer points to. -/
def arrAt (x : SV) (o : Nat) : Option SV := match x with
  | .val (.one (.ptr i off)) => some (one (.ptr i (off + o)))
  | .val (.one (.rp e L k off)) => some (one (.rp e L k (off + o)))
  | .val (.one (.ep i ver es k off)) => some (one (.ep i ver es k (off + o)))
  | _ => none
/-- An index that is not written out: it is decided (n are left, from j on). -/
def arrEff {A : Type} (x : SV) (esz : Nat) (k : U Int) : Nat → Nat → List Bool → Out A
  | 0, _, _ => .fail
  | 1, j, _ => (match arrAt x (j * esz) with | some v => .done (fun _ => k () = Int.ofNat j) v [] | none => .fail)
  | n + 2, j, ds => (match ds with
    | [] => .need (fun _ => decide (k () = Int.ofNat j))
    | true :: _ => (match arrAt x (j * esz) with | some v => .done (fun _ => k () = Int.ofNat j) v [] | none => .fail)
    | false :: ds => arrEff x esz k (n + 1) (j + 1) ds)
def indexP {A : Type} (t : TI) (esz : Nat) (x ix : SV) : Option (Plan A) :=
  match t.kind with
  | .array n _ => (match litNat ix with
    | some j => (match bltN j n with
      | true => (match x with
        | .val (.one (.ptr i off)) => pureP tt (one (.ptr i (off + j * esz)))
        | .val (.one (.rp e L k off)) => pureP tt (one (.rp e L k (off + j * esz)))
        | .val (.one (.ep i ver es k off)) => pureP tt (one (.ep i ver es k (off + j * esz)))
        | _ => none)
      | false => none)
    | none => (match ivalS ix with
      | some (_, k) => some ⟨[], 0, false, fun _ ds => arrEff x esz k n 0 ds⟩
      | none => none))
  | .slice _ _ => (match ivalS ix with
    | some (_, k) => (match x with
      | .val (.one (.ro e L)) => (match beqN esz e.size with | true => pureP (fun _ => 0 ≤ k () ∧ k () < (L ()).length) (one (.rp e L k 0)) | false => none)
      | .val (.one (.hd i ver)) => some ⟨[i], 0, false, fun cs _ => match cs with
          | [.row rt e ver' L] => (match beqN ver ver' && beqN esz e.size with | true => .done (fun _ => 0 ≤ k () ∧ k () < (L ()).length) (one (.ep i ver e.size k 0)) [.row rt e ver' L] | false => .fail)
          | _ => .fail⟩
      | _ => none)
    | _ => none)
  | _ => none

def intArg : Option SV → Option (Option (U Int))
  | none => some none
  | some x => match ivalS x with | some (_, k) => some (some k) | none => none

def loOf (lo : Option (U Int)) : U Int := match lo with | some l => l | none => fun _ => 0
def hiOf (hi : Option (U Int)) (n : U Int) : U Int := match hi with | some l => l | none => n

def isSlice : SV → Bool
  | .val (.one (.ro _ _)) => true
  | .val (.one .nilS) => true
  | .val (.one (.hd _ _)) => true
  | .val (.one (.vw _ _ _ _ _)) => true
  | _ => false
def isZero : Option SV → Bool
  | some (.val (.one (.li _ 0))) => true
  | _ => false
def sliceP {A : Type} (t : TI) (esz : Nat) (x : SV) (lo hi mx : Option SV) : Option (Plan A) :=
  match t.kind, mx with
  | .slice _ _, none => (match intArg lo with
    | some lo => (match intArg hi with
      | some hi => (match x with
        | .val (.one (.ro e L)) => (match loOf lo, hiOf hi (fun _ => (L ()).length), beqN esz e.size with
          | _, _, false => none
          | l, h, true => pureP (fun _ => 0 ≤ l () ∧ l () ≤ h () ∧ h () ≤ (L ()).length) (one (.ro e (fun _ => ((L ()).take (h ()).toNat).drop (l ()).toNat))))
        | .val (.one (.hd i ver)) => some ⟨[i], 0, false, fun cs _ => match cs with
            | [.row rt e ver' L] => (match beqN ver ver' && beqN esz e.size with
              | true => (match loOf lo, hiOf hi (fun _ => (L ()).length) with
                | l, h => .done (fun _ => 0 ≤ l () ∧ l () ≤ h () ∧ h () ≤ (L ()).length) (one (.vw i ver e.size l (fun _ => h () - l ()))) [.row rt e ver' L])
              | false => .fail)
            | _ => .fail⟩
        | _ => none)
      | none => none)
    | none => none)
  | _, _ => none

def lenP {A : Type} (x : SV) : Option (Plan A) :=
  match x with
  | .val (.one (.ro _ L)) => pureP tt (one (.int .i64 (fun _ => (L ()).length)))
  | .val (.one .nilS) => pureP tt (one (.li .i64 0))
  | .val (.one (.str l)) => pureP tt (one (.int .i64 (fun _ => (l ()).length)))
  | .val (.one (.vw _ _ _ _ n)) => pureP (fun _ => 0 ≤ n ()) (one (.int .i64 n))
  | .val (.one (.hd i ver)) => some ⟨[i], 0, false, fun cs _ => match cs with
      | [.row rt e ver' L] => (match beqN ver ver' with | true => .done tt (one (.int .i64 (fun _ => (L ()).length))) [.row rt e ver' L] | false => .fail)
      | _ => .fail⟩
  | .val (.one (.mp i)) => some ⟨[i], 0, false, fun cs _ => match cs with
      | [.map ks e L] => .done tt (one (.int .i64 (fun _ => (L ()).length))) [.map ks e L]
      | _ => .fail⟩
  | _ => none

def maxOf (isMax : Bool) (k : IntKind) (a b : U Int) : SV1 := match isMax with
  | true => .int k (fun _ => max (a ()) (b ()))
  | false => .int k (fun _ => min (a ()) (b ()))
def minmaxP {A : Type} (isMax : Bool) : List SV → Option (Plan A)
  | [x, y] => (match ivalS x with
    | some (k, a) => (match ivalS y with
      | some (k', b) => (match decide (k = k') with | true => pureP tt (one (maxOf isMax k a b)) | false => none)
      | none => none)
    | none => none)
  | [x, y, z] => (match ivalS x with
    | some (k, a) => (match ivalS y with
      | some (k', b) => (match ivalS z with
        | some (k'', c) => (match decide (k = k') && decide (k = k'') with
          | true => (match ivalS (one (maxOf isMax k a b)) with
            | some (_, m) => pureP tt (one (maxOf isMax k m c))
            | none => none)
          | false => none)
        | none => none)
      | none => none)
    | none => none)
  | _ => none

def castK : (k k' : KT) → Option (k.T → k'.T)
  | .int k, .int k' => (match decide (k = k') with | true => some (fun x => x) | false => none)
  | .str, .str => some (fun x => x)
  | .agg e, .agg e' => castL.castT e e'
  | _, _ => none
def castM (ks ks' : KT) (e e' : Ty) : Option (List (ks.T × e.T) → List (ks'.T × e'.T)) := match castK ks ks' with
  | some f => (match castL.castT e e' with
    | some g => some (fun l => l.map fun x => (f x.1, g x.2))
    | none => none)
  | none => none

/-- What a source of an append shows: by itself, or as (part of) chunk i. -/
inductive Src where
  | ro (e : Ty) (L : U (List e.T))
  | nil
  | hd (i ver : Nat)
  | vw (i ver esz : Nat) (lo n : U Int)
  | str (L : U (List Int))
  | bad
def srcOf : SV → Src
  | .val (.one .nilS) => .nil
  | .val (.one (.ro e L)) => .ro e L
  | .val (.one (.hd i ver)) => .hd i ver
  | .val (.one (.vw i ver esz lo n)) => .vw i ver esz lo n
  | _ => .bad
def srcOfS : SV → Src
  | .val (.one (.str L)) => .str L
  | v => srcOf v
/-- What is appended is of its type. -/
def appendOk (k : TK) (y : Src) : Bool := match y with
  | .str _ => (match k with | .str => true | _ => false)
  | _ => (match k with | .slice _ _ => true | _ => false)
/-- The byte that a string's letter is. -/
def u8i (x : Int) : Int := Int.ofNat x.toNat.toUInt8.toNat

def Src.ids : Src → List Nat
  | .hd i _ => [i]
  | .vw i _ _ _ _ => [i]
  | _ => []
/-- The elements of form e that the source shows, its chunk being c. -/
def Src.list {A : Type} (e : Ty) : Src → List (Chunk A) → Option (U (List e.T))
  | .nil, [] => some (fun _ => [])
  | .ro e' L, [] => (match castL e' e with | some f => some (fun _ => f (L ())) | none => none)
  | .str L, [] => (match castL (.int .u8) e with | some f => some (fun _ => f ((L ()).map u8i)) | none => none)
  | .hd _ ver, [.row _ e' ver' L] => (match beqN ver ver' with
    | true => (match castL e' e with | some f => some (fun _ => f (L ())) | none => none)
    | false => none)
  | .vw _ ver esz lo n, [.row _ e' ver' L] => (match beqN ver ver' && beqN esz e'.size with
    | true => (match castL e' e with | some f => some (fun _ => f (((L ()).drop (lo ()).toNat).take (n ()).toNat)) | none => none)
    | false => none)
  | _, _ => none

def maxRow : Nat := 1099511627776

def appendQ {A : Type} (t : TI) (x : SV) (src : Src) (fresh : Nat) : Option (Plan A) :=
  match t.kind with
  | .slice et (some e) => (match x with
    | .val (.one (.hd i ver)) => (match src.ids.any (beqN i) with
      | true => none
      | false => some ⟨i :: src.ids, 0, true, fun cs _ => match cs with
        | .row rt e' ver' L :: r => (match beqN ver ver' && beqN rt et && decide (e' = e) with
          | true => (match src.list e' r with
            | some M => .done (fun _ => (L ()).length + (M ()).length ≤ maxRow) (one (.hd i (ver + 1))) (.row rt e' (ver + 1) (fun _ => L () ++ M ()) :: r)
            | none => .fail)
          | false => .fail)
        | _ => .fail⟩)
    | .val (.one .nilS) => (match src.ids.any (beqN fresh) with
      | true => none
      | false => some ⟨fresh :: src.ids, 1, true, fun cs _ => match cs with
        | .emp :: r => (match src.list e r with
            | some M => .done (fun _ => (M ()).length ≤ maxRow) (one (.hd fresh 0)) (.row et e 0 M :: r)
            | none => .fail)
        | _ => .fail⟩)
    | _ => none)
  | _ => none
def appendP {A : Type} (t : TI) (x y : SV) (fresh : Nat) : Option (Plan A) := appendQ t x (srcOfS y) fresh

def allocP {A : Type} (t : TypeId) (cs : List SV1) (fresh : Nat) : Option (Plan A) :=
  some ⟨[fresh], 1, true, fun c _ => match c with | [.emp] => .done tt (one (.ptr fresh 0)) [.cells t cs] | _ => .fail⟩

def buildCells : List (Nat × Nat) → List SV1 → List (Nat × SV) → Option (List SV1)
  | _, z, [] => some z
  | offs, z, (f, v) :: r => match nth offs f with
    | some (o, sz) => (match cellsOf v with
      | some vs => (match beqN vs.length sz && vs.all storable && bleN 1 sz with
        | true => (match paste z o vs with
          | some z => buildCells offs z r
          | none => none)
        | false => none)
      | none => none)
    | none => none

/-- The places of an array's elements. -/
def places (z : Nat) : Nat → Nat → List (Nat × Nat)
  | _, 0 => []
  | i, n + 1 => (i * z, z) :: places z (i + 1) n
def buildP {A : Type} (t : TI) (esz : Option Nat) (parts : List (Nat × SV)) : Option (Plan A) :=
  match t.kind with
  | .struct offs => (match buildCells offs t.zero parts with
    | some l => pureP tt (.val (.agg l))
    | none => none)
  | .array n _ => (match esz with
    | some z => (match buildCells (places z 0 n) t.zero parts with
      | some l => pureP tt (.val (.agg l))
      | none => none)
    | none => none)
  | _ => none

def encAll (e : Ty) : List SV → Option (U (List e.T))
  | [] => some (fun _ => [])
  | v :: r => match cellsOf v with
    | some l => (match l.all storable with
      | true => (match enc e l with
        | some (y, []) => (match encAll e r with
          | some ys => some (fun _ => y () :: ys ())
          | none => none)
        | _ => none)
      | false => none)
    | none => none

/-- The parts of a slice literal that gives every element, in order. -/
def inOrder : Nat → List (Nat × SV) → Option (List SV)
  | _, [] => some []
  | n, (i, v) :: r => match beqN n i with
    | true => (match inOrder (n + 1) r with | some l => some (v :: l) | none => none)
    | false => none

def isLitV : SV → Bool
  | .val (.one (.li .u8 _)) => true
  | _ => false
def buildSliceP {A : Type} (t : TI) (n : Nat) (parts : List (Nat × SV)) (fresh : Nat) : Option (Plan A) :=
  match t.kind with
  | .slice et (some e) => (match inOrder 0 parts with
    | some vs => (match beqN vs.length n with
      | true => (match encAll e vs with
        | some L => (match beqN n 0 || vs.all isLitV || beqN t.bytes 3 with
          | true => some ⟨[fresh], 1, true, fun c _ => match c with | [.emp] => .done (fun _ => n * e.size ≤ 16777216) (one (.hd fresh 0)) [.row et e 0 L] | _ => .fail⟩
          | false => pureP (fun _ => n * e.size ≤ 16777216) (one (.ro e L)))
        | none => none)
      | false => none)
    | none => none)
  | _ => none

def makeSliceP {A : Type} (t : TI) (len cap : SV) (fresh : Nat) : Option (Plan A) :=
  match t.kind with
  | .slice et (some e) => (match ivalS len with
    | some (_, l) => (match ivalS cap with
      | some (_, c) => some ⟨[fresh], 1, true, fun ch _ => match ch with
        | [.emp] => .done (fun _ => 0 ≤ l () ∧ l () ≤ c () ∧ c () ≤ maxRow) (one (.hd fresh 0)) [.row et e 0 (fun _ => List.replicate (l ()).toNat e.dflt)]
        | _ => .fail⟩
      | none => none)
    | none => none)
  | _ => none

def makeMapP {A : Type} (t : TI) (fresh : Nat) : Option (Plan A) :=
  match t.kind with
  | .map _ _ (some (ks, e)) => some ⟨[fresh], 1, true, fun c _ => match c with | [.emp] => .done tt (one (.mp fresh)) [.map ks e (fun _ => [])] | _ => .fail⟩
  | _ => none

/-- A key. -/
def keyV : (ks : KT) → SV → Option (U Prop × U ks.T)
  | .int k, .val (.one (.int k' n)) => (match decide (k = k') with | true => some (tt, n) | false => none)
  | .int k, .val (.one (.li k' n)) => (match decide (k = k') with | true => some (tt, fun _ => n) | false => none)
  | .str, .val (.one (.str l)) => some (fun _ => inBytes (l ()), l)
  | .agg e, .val (.agg l) => (match e.keyF with
    | true => (match enc e l with | some (y, []) => some (fun _ => e.keyIn (y ()), y) | _ => none)
    | false => none)
  | _, _ => none

/-- An element of form e as a value. -/
def elV (e : Ty) (x : U e.T) : Option SV2 := match e.agg with
  | true => some (.agg (dec e x))
  | false => (match dec e x with | [y] => some (.one y) | _ => none)

/-- A value as an element of form e. -/
def velt (e : Ty) (v : SV) : Option (U e.T) := match cellsOf v with
  | some l => (match l.all storable with
    | true => (match enc e l with | some (y, []) => some y | _ => none)
    | false => none)
  | none => none

def aggV : SV → Bool
  | .val (.agg _) => true
  | _ => false

def lookupP {A : Type} (t : TI) (x ix : SV) (ok : Bool) : Option (Plan A) :=
  match t.kind, x with
  | .map _ _ (some (ks0, e0)), .val (.one (.mp i)) => some ⟨[i], 0, false, fun cs _ => match cs with
    | [.map ks e L] => (match decide (ks = ks0) && decide (e = e0) with
      | true => (match keyV ks ix with
        | some (C, k) => (match elV e (fun _ => (getM ks (L ()) (k ())).getD e.dflt) with
          | some v => .done C (match ok with | true => .tup [v, .one (.sb (fun _ => (getM ks (L ()) (k ())).isSome))] | false => .val v) [.map ks e L]
          | none => .fail)
        | none => .fail)
      | false => .fail)
    | _ => .fail⟩
  | _, _ => none

def mapUpdateP {A : Type} (t : TI) (x ix v : SV) : Option (Plan A) :=
  match t.kind, x with
  | .map _ _ (some (ks0, e0)), .val (.one (.mp i)) => some ⟨[i], 0, true, fun cs _ => match cs with
    | [.map ks e L] => (match decide (ks = ks0) && decide (e = e0) && (aggV v == e.agg) with
      | true => (match keyV ks ix with
        | some (C, k) => (match velt e v with
          | some y => .done C (one .any) [.map ks e (fun _ => putM ks (L ()) (k ()) (y ()))]
          | none => .fail)
        | none => .fail)
      | false => .fail)
    | _ => .fail⟩
  | _, _ => none

def deleteP {A : Type} (t : TI) (x ix : SV) : Option (Plan A) :=
  match t.kind, x with
  | .map _ _ (some (ks0, _)), .val (.one (.mp i)) => some ⟨[i], 0, true, fun cs _ => match cs with
    | [.map ks e L] => (match decide (ks = ks0) with
      | true => (match keyV ks ix with
        | some (C, k) => .done C (.tup []) [.map ks e (fun _ => delM ks (L ()) (k ()))]
        | none => .fail)
      | false => .fail)
    | _ => .fail⟩
  | _, _ => none

/-- A contract: the arguments, the number of the first new chunk. -/
abbrev Con (A : Type) := List SV → Nat → Option (Plan A)

structure Env (A : Type) where
  ti : List (Nat × TI)
  con : List (Nat × Con A)

def argParts (tm : List (Nat × SV)) : List (Nat × Operand) → Option (List (Nat × SV))
  | [] => some []
  | (i, x) :: r => match evalOp tm x with
    | some v => (match argParts tm r with | some l => some ((i, v) :: l) | none => none)
    | none => none

def evalOpt (tm : List (Nat × SV)) : Option Operand → Option (Option SV)
  | none => some none
  | some x => match evalOp tm x with | some v => some (some v) | none => none

def szOf (E : List (Nat × TI)) : TK → Option Nat
  | .slice e _ => (match look E e with | some i => some i.size | none => none)
  | .array _ e => (match look E e with | some i => some i.size | none => none)
  | _ => none

def lenOk (i : TI) (x : SV) : Bool := match i.kind, x with
  | .str, .val (.one (.str _)) => true
  | .slice _ _, .val (.one (.ro _ _)) => true
  | .slice _ _, .val (.one .nilS) => true
  | .slice _ _, .val (.one (.hd _ _)) => true
  | .slice _ _, .val (.one (.vw _ _ _ _ _)) => true
  | .map _ _ _, .val (.one (.mp _)) => true
  | _, _ => false
/-- unsafe.SliceData of a row that is not empty, or of nil. -/
def sliceDataP {A : Type} (x : SV) : Option (Plan A) := match x with
  | .val (.one .nilS) => pureP tt (one .nilP)
  | .val (.one (.hd i ver)) => some ⟨[i], 0, false, fun cs _ => match cs with
      | [.row rt e ver' L] => (match beqN ver ver' with
        | true => .done (fun _ => 0 < (L ()).length) (one (.ep i ver e.size (fun _ => 0) 0)) [.row rt e ver' L]
        | false => .fail)
      | _ => .fail⟩
  | _ => none
/-- unsafe.String over a whole row of bytes: the row is gone. -/
def unsafeStrP {A : Type} (ti : List (Nat × TI)) (pt : TI) (x n : SV) : Option (Plan A) := match pt.kind with
  | .ptr e => (match look ti e with
    | some ie => (match beqN ie.size 1, ivalS n with
      | true, some (_, k) => (match x with
        | .val (.one .nilP) => pureP (fun _ => k () = 0) (one (.str (fun _ => [])))
        | .val (.one (.ep i ver 1 q 0)) => some ⟨[i], 0, true, fun cs _ => match cs with
            | [.row rt (.int .u8) ver' L] => (match beqN ver ver' && beqN rt e with
              | true => .done (fun _ => q () = 0 ∧ k () = (L ()).length ∧ 0 < (L ()).length ∧ (L ()).length ≤ maxRow ∧ ∀ y ∈ L (), 0 ≤ y ∧ y < 256) (one (.str L)) [.gone]
              | false => .fail)
            | _ => .fail⟩
        | _ => none)
      | _, _ => none)
    | none => none)
  | _ => none
def unsafeP {A : Type} (ti : List (Nat × TI)) (b : Builtin) (args : List SV) (ts : List TypeId) : Option (Plan A) := match b with
  | .unsafeSliceData => (match args with | [x] => sliceDataP x | _ => none)
  | .unsafeString => (match args with
    | [x, y] => (match ts with
      | [pt, _] => (match look ti pt with | some i => unsafeStrP ti i x y | none => none)
      | _ => none)
    | _ => none)
  | _ => none
def callP {A : Type} (E : Env A) (tm : List (Nat × SV)) (fresh : Nat) (c : Call) : Option (Plan A) :=
  match evalOps tm c.args.toList with
  | some args => (match c.callee with
    | .builtin b => (match b, args, c.argTypes.toList with
      | .len, [x], [t] => (match look E.ti t with
        | some i => (match lenOk i x with | true => lenP x | false => none)
        | none => none)
      | .delete, [x, y], [t, _] => (match look E.ti t with
        | some i => deleteP i x y
        | none => none)
      | .max, xs, _ => minmaxP true xs
      | .min, xs, _ => minmaxP false xs
      | .append, [x, y], [t, t2] => (match look E.ti t with
        | some i => (match look E.ti t2 with
          | some j => (match appendOk j.kind (srcOfS y) with | true => appendP i x y fresh | false => none)
          | none => none)
        | none => none)
      | _, _, _ => unsafeP E.ti b args c.argTypes.toList)
    | .value f => (match evalOp tm f with
      | some (.val (.fn f caps)) => (match look E.con f with
        | some k => k (args ++ caps.map fun x => one x) fresh
        | none => none)
      | some (.val (.one (.fnc f ids))) => (match look E.con f with
        | some k => k (args ++ ids.map fun i => one (.ptr i 0)) fresh
        | none => none)
      | _ => none)
    | _ => none)
  | none => none

inductive PO (A : Type) where
  | fail
  | needS (t : Nat) (b : U Bool)
  | plan (p : Plan A)
def PO.of {A : Type} : Option (Plan A) → PO A
  | some p => .plan p
  | none => .fail

def cellOf : SV → Option SV1
  | .val (.one x) => some x
  | _ => none
def capsOf : List SV → Option (List SV1)
  | [] => some []
  | v :: r => match cellOf v with
    | some x => (match capsOf r with | some l => some (x :: l) | none => none)
    | none => none

def binOk (i : TI) : SV → Bool
  | .val (.one (.int _ _)) => true
  | .val (.one (.li _ _)) => true
  | .val (.one (.str _)) => true
  | .val (.one (.sb _)) => (match i.kind with | .bool => true | _ => false)
  | .val (.one (.lb _)) => (match i.kind with | .bool => true | _ => false)
  | .val (.one (.ptr _ _)) => (match i.kind with | .ptr _ => true | _ => false)
  | .val (.one .nilP) => (match i.kind with | .ptr _ => true | _ => false)
  | _ => false

/-- The bytes of a string. -/
def convNew {A : Type} (dst : TI) (x : SV) : Option (Plan A) :=
  match dst.kind, x with
  | .slice _ (some (.int .u8)), .val (.one (.str l)) => pureP (fun _ => inBytes (l ()) ∧ (l ()).length ≤ 1099511627776) (one (.ro (.int .u8) l))
  | _, _ => none

/-- The bytes of a literal, as a slice of bytes. -/
def convRow {A : Type} (dst : TI) (x : SV) : Option (Plan A) :=
  match dst.kind, x with
  | .slice _ (some (.int .u8)), .val (.one (.hd i ver)) => some ⟨[i], 0, true, fun cs _ => match cs with
    | [.row _ e ver' L] => (match beqN ver ver' with | true => .done (fun _ => 0 < (L ()).length) (one (.ro e L)) [.gone] | false => .fail)
    | _ => .fail⟩
  | _, _ => none

/-- s[:0:0]: empty, and nothing can be appended in place. -/
def sliceZ {A : Type} (t : TI) (x : SV) (lo hi mx : Option SV) (fresh : Nat) : Option (Plan A) :=
  match t.kind with
  | .slice et (some e) => (match isSlice x && isZero hi && isZero mx && lo.isNone with
    | true => some ⟨[fresh], 1, true, fun c _ => match c with | [.emp] => .done tt (one (.hd fresh 0)) [.row et e 0 (fun _ => [])] | _ => .fail⟩
    | false => none)
  | _ => none

/-- A slice compared with nil. -/
def nilOf (neg : Bool) : SV → SV → Option SV1
  | .val (.one .nilS), .val (.one .nilS) => some (.lb (!neg))
  | .val (.one (.ro _ L)), .val (.one .nilS) => some (.nb neg (fun _ => L () = []))
  | .val (.one (.hd _ _)), .val (.one .nilS) => some (.nb neg tt)
  | .val (.one (.vw _ _ _ _ _)), .val (.one .nilS) => some (.nb neg tt)
  | _, _ => none
/-- Cells of integers, compared. -/
def eqCs : List SV1 → List SV1 → Option (U Bool)
  | [], [] => some (fun _ => true)
  | x :: l, y :: m => (match ival x with
    | some (k, a) => (match ival y with
      | some (k', b) => (match decide (k = k') with
        | true => (match eqCs l m with | some r => some (fun _ => decide (a () = b ()) && r ()) | none => none)
        | false => none)
      | none => none)
    | none => none)
  | _, _ => none
def aggCmp (op : BinOp) (i : TI) (v u : SV) : Option SV1 := match beqN i.bytes 1 with
  | true => (match v, u with
    | .val (.agg l), .val (.agg m) => (match beqN l.length i.size with
      | true => (match eqCs l m with
        | some g => (match op with | .eql => some (.sb g) | .neq => some (.sb (fun _ => !g ())) | _ => none)
        | none => none)
      | false => none)
    | _, _ => none)
  | false => none
/-- A map of a chunk compared with nil. -/
def mapNil (neg : Bool) : SV → SV → Option SV1
  | .val (.one (.mp _)), .val (.one (.v (.map none))) => some (.lb neg)
  | _, _ => none
def nilCmp (op : BinOp) (i : TI) (v u : SV) : Option SV1 := match i.kind with
  | .map _ _ _ => (match op with
    | .eql => mapNil false v u
    | .neq => mapNil true v u
    | _ => none)
  | .slice _ _ => (match op with
    | .eql => nilOf false v u
    | .neq => nilOf true v u
    | _ => none)
  | _ => aggCmp op i v u

/-- The first n chunks. -/
def upTo : Nat → Nat → List Nat
  | _, 0 => []
  | i, n + 1 => i :: upTo (i + 1) n
def nthC {A : Type} (H : List (Chunk A)) (i : Nat) : Chunk A := match nth H i with | some c => c | none => .emp
def keyS : (ks : KT) → U ks.T → SV2
  | .int k, n => .one (.int k n)
  | .str, l => .one (.str l)
  | .agg e, x => .agg (dec e x)
def rangeP {A : Type} (t : TI) (x : SV) (fresh : Nat) : Option (Plan A) :=
  match t.kind, x with
  | .map _ _ (some _), .val (.one (.mp i)) => some ⟨[i, fresh], 1, true, fun cs _ => match cs with
    | [.map ks e L, .emp] => .done tt (one (.ptr fresh 0)) [.rmap ks e L L none fresh, .itp i]
    | _ => .fail⟩
  | _, _ => none
def entryP {A : Type} (x : SV) (fresh : Nat) : Option (Plan A) :=
  match x with
  | .val (.one (.ptr j 0)) => some ⟨upTo 0 fresh, 0, false, fun cs _ => (match nthC cs j with
    | .itp i => (match nthC cs i with
      | .rmap ks e _ _ (some p) j' => (match beqN j j' && bltN i fresh && bltN j fresh with
        | true => (match elV e (fun _ => (p ()).2) with
          | some v => .done tt (.tup [keyS ks (fun _ => (p ()).1), v]) cs
          | none => .fail)
        | false => .fail)
      | _ => .fail)
    | _ => .fail)⟩
  | _ => none

/-- Differences of a type that is marked so (bytes = 2): it is decided whether they fit; where not, the result is not known. -/
def softP {A : Type} (i : TI) (op : BinOp) (v u : SV) (p : Option (Plan A)) : Option (Plan A) := match beqN i.bytes 2 with
  | true => (match op with
    | .sub => (match ivalS v with
      | some (.i64, a) => (match ivalS u with
        | some (.i64, b) => some ⟨[], 0, false, fun _ ds => match ds with
          | [] => .need (fun _ => decide (-9223372036854775808 ≤ a () - b () ∧ a () - b () ≤ 9223372036854775807))
          | true :: _ => .done (fun _ => -9223372036854775808 ≤ a () - b () ∧ a () - b () ≤ 9223372036854775807) (one (.int .i64 (fun _ => a () - b ()))) []
          | false :: _ => .done tt (one .any) []⟩
        | _ => p)
      | _ => p)
    | _ => p)
  | false => p

/-- A part of an array that is a value, at an index that is decided. -/
def idxEff {A : Type} (ie : TI) (l : List SV1) (k : U Int) : Nat → Nat → List Bool → Out A
  | 0, _, _ => .fail
  | 1, j, _ => (match partOf ie l (j * ie.size) with | some v => .done (fun _ => k () = Int.ofNat j) v [] | none => .fail)
  | n + 2, j, ds => (match ds with
    | [] => .need (fun _ => decide (k () = Int.ofNat j))
    | true :: _ => (match partOf ie l (j * ie.size) with | some v => .done (fun _ => k () = Int.ofNat j) v [] | none => .fail)
    | false :: ds => idxEff ie l k (n + 1) (j + 1) ds)
def idxValP {A : Type} (ti : List (Nat × TI)) (t : TI) (x ix : SV) : Option (Plan A) := match t.kind with
  | .array n e => (match x with
    | .val (.agg l) => (match look ti e with
      | some ie => (match litNat ix with
        | some j => (match bltN j n with
          | true => (match partOf ie l (j * ie.size) with | some v => pureP tt v | none => none)
          | false => none)
        | none => (match ivalS ix with
          | some (_, k) => some ⟨[], 0, false, fun _ ds => idxEff ie l k n 0 ds⟩
          | none => none))
      | none => none)
    | _ => none)
  | _ => none

/-- One operation's plan. -/
def sop0 {A : Type} (E : Env A) (tm : List (Nat × SV)) (fresh : Nat) (o : Op) : PO A :=
  match o with
  | .move x => (match evalOp tm x with | some v => .of (pureP tt v) | none => .fail)
  | .assign x => (match evalOp tm x with | some v => .of (pureP tt v) | none => .fail)
  | .pick c a b => (match evalOp tm c with
    | some (.val (.one (.lb true))) => (match evalOp tm a with | some v => .of (pureP tt v) | none => .fail)
    | some (.val (.one (.lb false))) => (match evalOp tm b with | some v => .of (pureP tt v) | none => .fail)
    | some (.val (.one (.sb g))) => (match c with | .tmp t => .needS t g | _ => .fail)
    | _ => .fail)
  | .load t a => (match look E.ti t with
    | some i => (match evalOp tm a with | some v => .of (loadP i v) | none => .fail)
    | none => .fail)
  | .store t a x => (match look E.ti t with
    | some i => (match evalOp tm a with
      | some v => (match evalOp tm x with | some u => .of (storeP i v u) | none => .fail)
      | none => .fail)
    | none => .fail)
  | .nilCheck x => (match evalOp tm x with
    | some (.val (.one (.ptr i off))) => .of (pureP tt (one (.ptr i off)))
    | some (.val (.one (.rp e L k off))) => .of (pureP tt (one (.rp e L k off)))
    | some (.val (.one (.ep i ver esz k off))) => .of (pureP tt (one (.ep i ver esz k off)))
    | _ => .fail)
  | .binOp op t x y _ => (match look E.ti t with
    | some i => (match evalOp tm x with
      | some v => (match evalOp tm y with
        | some u => (match nilCmp op i v u with
        | some y => .of (pureP tt (one y))
        | none => (match binOk i v && binOk i u with | true => .of (softP i op v u (binopP op v u)) | false => .fail))
        | none => .fail)
      | none => .fail)
    | none => .fail)
  | .unOp op _ x => (match evalOp tm x with | some v => .of (unopP op v) | none => .fail)
  | .convert s d x => (match look E.ti s with
    | some i => (match look E.ti d with
      | some j => (match evalOp tm x with | some v => (match srcOk i v with | true => (match (match beqN s d with | true => convRow j v | false => none) with | some p => .of (some p) | none => (match convNew j v with | some p => .of (some p) | none => .of (convertP i j v))) | false => .fail) | none => .fail)
      | none => .fail)
    | none => .fail)
  | .slice t x lo hi mx => (match look E.ti t with
    | some i => (match evalOp tm x with
      | some v => (match evalOpt tm lo with
        | some l => (match evalOpt tm hi with
          | some h => (match evalOpt tm mx with
            | some m => (match m with
              | none => (match szOf E.ti i.kind with | some z => .of (sliceP i z v l h none) | none => .fail)
              | some m => .of (sliceZ i v l h (some m) fresh))
            | none => .fail)
          | none => .fail)
        | none => .fail)
      | none => .fail)
    | none => .fail)
  | .fieldAddr t x f => (match look E.ti t with
    | some i => (match evalOp tm x with | some v => .of (fieldP i v f) | none => .fail)
    | none => .fail)
  | .indexAddr t x ix => (match look E.ti t with
    | some i => (match evalOp tm x with
      | some v => (match evalOp tm ix with
        | some u => (match szOf E.ti i.kind with | some z => .of (indexP i z v u) | none => .fail)
        | none => .fail)
      | none => .fail)
    | none => .fail)
  | .index t x ix => (match look E.ti t with
    | some i => (match evalOp tm x with
      | some v => (match evalOp tm ix with | some u => .of (idxValP E.ti i v u) | none => .fail)
      | none => .fail)
    | none => .fail)
  | .extract x n => (match evalOp tm x with
    | some (.tup l) => (match nth l n with | some v => .of (pureP tt (.val v)) | none => .fail)
    | _ => .fail)
  | .alloc t => (match look E.ti t with
    | some i => .of (allocP t i.zero fresh)
    | none => .fail)
  | .box t x => (match evalOp tm x with
    | some v => (match cellsOf v with | some l => (match l.all storable with | true => .of (allocP t l fresh) | false => .fail) | none => .fail)
    | none => .fail)
  | .build t parts => (match look E.ti t with
    | some i => (match argParts tm parts.toList with | some ps => .of (buildP i (szOf E.ti i.kind) ps) | none => .fail)
    | none => .fail)
  | .buildSlice t n parts => (match look E.ti t with
    | some i => (match argParts tm parts.toList with | some ps => .of (buildSliceP i n ps fresh) | none => .fail)
    | none => .fail)
  | .makeSlice t l c => (match look E.ti t with
    | some i => (match evalOp tm l with
      | some v => (match evalOp tm c with | some u => .of (makeSliceP i v u fresh) | none => .fail)
      | none => .fail)
    | none => .fail)
  | .makeMap t none => (match look E.ti t with | some i => .of (makeMapP i fresh) | none => .fail)
  | .lookup t x ix ok => (match look E.ti t with
    | some i => (match evalOp tm x with
      | some v => (match evalOp tm ix with | some u => .of (lookupP i v u ok) | none => .fail)
      | none => .fail)
    | none => .fail)
  | .mapUpdate t x ix y => (match look E.ti t with
    | some i => (match evalOp tm x with
      | some v => (match evalOp tm ix with
        | some u => (match evalOp tm y with | some z => .of (mapUpdateP i v u z) | none => .fail)
        | none => .fail)
      | none => .fail)
    | none => .fail)
  | .makeFunc (.func f) first caps => (match first.toList, evalOps tm caps.toList with
    | [], some vs => (match capsOf vs with | some l => .of (pureP tt (.val (.fn f l))) | none => .fail)
    | _, _ => .fail)
  | .call c => .of (callP E tm fresh c)
  | .range t x => (match look E.ti t with
    | some i => (match evalOp tm x with | some v => .of (rangeP i v fresh) | none => .fail)
    | none => .fail)
  | .entry x => (match evalOp tm x with | some v => .of (entryP v fresh) | none => .fail)
  | _ => .fail

/-! lists and maps whose elements own their rows of ints: in an environment whose first type is marked (bytes = 3) -/
def nestOn : List (Nat × TI) → Bool
  | (_, i) :: _ => beqN i.bytes 3
  | [] => false
def nestTb : List (Nat × TI) → TypeId
  | _ :: (b, _) :: _ => b
  | _ => 0
def isSl : TK → Bool
  | .slice _ _ => true
  | _ => false
def tkElem : TK → Option TypeId
  | .slice e _ => some e
  | _ => none
/-- The slots of an element. -/
def slotsOf : Ty → Nat
  | .lst (.int .i64) => 1
  | .pair (.lst (.int .i64)) (.lst (.int .i64)) => 2
  | _ => 0
def slotI (z off : Nat) (k : U Int) : U Int := match beqN z 1 with
  | true => k
  | false => fun _ => k () * Int.ofNat z + Int.ofNat off
abbrev rowGet (L : U (List (List Int))) (q : U Int) : List Int := (L ()).getD (q ()).toNat []
def inN (z : Nat) (L : U (List (List Int))) (k : U Int) : U Prop := match beqN z 1 with
  | true => fun _ => 0 ≤ k () ∧ k () < (L ()).length
  | false => fun _ => 0 ≤ k () ∧ k () * Int.ofNat z + Int.ofNat z ≤ (L ()).length
abbrev mrowGet (L : U (List (Int × List Int))) (k : U Int) : List Int := (getA (K := Int) (L ()) (k ())).getD []
/-- A load of a slot takes its row out. -/
def takeE {A : Type} (i ver z off fresh : Nat) (k : U Int) : List (Chunk A) → List Bool → Out A := fun cs _ => match cs with
  | [.nest rt tb z' ver' L none, .emp] => (match beqN ver ver' && beqN z z' && bltN off z with
    | true => .done (inN z L k) (one (.hd fresh 0)) [.nest rt tb z' ver' L (some (slotI z off k, fresh)), .row tb (.int .i64) 0 (fun _ => rowGet L (slotI z off k))]
    | false => .fail)
  | _ => .fail
def nestLoad {A : Type} (t : TI) (x : SV) (fresh : Nat) : Option (Plan A) := match x with
  | .val (.one (.ep i ver z k off)) => (match isSl t.kind with
    | true => some ⟨[i, fresh], 1, true, takeE i ver z off fresh k⟩
    | false => none)
  | _ => none
/-- A store into a slot: the row is in it from now on. -/
def putE {A : Type} (ver z off ver2 j : Nat) (k : U Int) : List (Chunk A) → List Bool → Out A := fun cs _ => match cs with
  | [.nest rt tb z' ver' L (some (q, j')), .row tb' (.int .i64) ver2' D] => (match beqN ver ver' && beqN z z' && bltN off z && beqN j j' && beqN ver2 ver2' && beqN tb tb' with
    | true => .done (fun _ => inN z L k () ∧ slotI z off k () = q ()) (one .any) [.nest rt tb z' ver' (fun _ => (L ()).set (q ()).toNat (D ())) none, .gone]
    | false => .fail)
  | _ => .fail
def nestStore {A : Type} (t : TI) (x v : SV) : Option (Plan A) := match x with
  | .val (.one (.ep i ver z k off)) => (match v with
    | .val (.one (.hd j ver2)) => (match isSl t.kind && beqN t.size 1 && !beqN i j with
      | true => some ⟨[i, j], 0, true, putE ver z off ver2 j k⟩
      | false => none)
    | _ => none)
  | _ => none
def nestIdxE {A : Type} (i ver z : Nat) (k : U Int) (eff : List (Chunk A) → List Bool → Out A) : List (Chunk A) → List Bool → Out A := fun cs d => match cs with
  | [.nest rt tb z' ver' L h] => (match beqN ver ver' && beqN z z' && bltN 0 z with
    | true => .done (inN z L k) (one (.ep i ver z k 0)) [.nest rt tb z' ver' L h]
    | false => .fail)
  | cs => eff cs d
def nestIdx {A : Type} (t : TI) (esz : Nat) (x ix : SV) : Option (Plan A) := match x with
  | .val (.one (.hd i ver)) => (match t.kind with
    | .slice _ _ => (match ivalS ix with
        | some (_, k) => (match indexP t esz x ix with
          | some p => some ⟨[i], 0, false, nestIdxE i ver esz k p.eff⟩
          | none => none)
        | none => none)
    | _ => none)
  | _ => none
def nilZ : SV1 → Bool
  | .nilS => true
  | _ => false
def nestMk {A : Type} (tb : TypeId) (t ie : TI) (len cap : SV) (fresh : Nat) : Option (Plan A) := match t.kind with
  | .slice et (some e) => (match bltN 0 (slotsOf e) && beqN ie.size (slotsOf e) && ie.zero.all nilZ with
    | true => (match ivalS len with
      | some (_, l) => (match ivalS cap with
        | some (_, c) => some ⟨[fresh], 1, true, fun ch _ => match ch with
          | [.emp] => .done (fun _ => 0 ≤ l () ∧ l () ≤ c () ∧ c () ≤ maxRow) (one (.hd fresh 0)) [.nest et tb (slotsOf e) 0 (fun _ => List.replicate ((l ()).toNat * slotsOf e) []) none]
          | _ => .fail⟩
        | none => none)
      | none => none)
    | false => none)
  | _ => none
def mtakeE {A : Type} (fresh : Nat) (ix : SV) : List (Chunk A) → List Bool → Out A := fun cs _ => match cs with
  | [.mnest tb L none, .emp] => (match keyV (.int .i64) ix with
    | some (C, k) => .done C (one (.hd fresh 0)) [.mnest tb L (some (k, fresh)), .row tb (.int .i64) 0 (fun _ => mrowGet L k)]
    | none => .fail)
  | _ => .fail
def mputE {A : Type} (ver2 j : Nat) (ix : SV) : List (Chunk A) → List Bool → Out A := fun cs _ => match cs with
  | [.mnest tb L (some (q, j')), .row tb' (.int .i64) ver2' D] => (match beqN j j' && beqN ver2 ver2' && beqN tb tb' with
    | true => (match keyV (.int .i64) ix with
      | some (C, k) => .done (fun _ => C () ∧ k () = q ()) (one .any) [.mnest tb (fun _ => putA (K := Int) (L ()) (q ()) (D ())) none, .gone]
      | none => .fail)
    | false => .fail)
  | _ => .fail
def tkMapI : TK → Option TypeId
  | .map _ e (some (.int .i64, .lst (.int .i64))) => some e
  | _ => none
def isMapI (k : TK) : Bool := match tkMapI k with
  | some _ => true
  | none => false
/-- A part of a row that takes its place: the row is that part from now on (in a type that is marked). -/
def cutP {A : Type} (t : TI) (esz : Nat) (x : SV) (lo hi : Option SV) : Option (Plan A) := match isSl t.kind with
  | true => (match intArg lo with
    | some lo => (match intArg hi with
      | some hi => (match x with
        | .val (.one (.hd i ver)) => some ⟨[i], 0, true, fun cs _ => match cs with
            | [.row rt e ver' L] => (match beqN ver ver' && beqN esz e.size with
              | true => .done (fun _ => 0 ≤ loOf lo () ∧ loOf lo () ≤ hiOf hi (fun _ => (L ()).length) () ∧ hiOf hi (fun _ => (L ()).length) () ≤ (L ()).length) (one (.hd i (ver + 1)))
                  [.row rt e (ver + 1) (fun _ => ((L ()).take (hiOf hi (fun _ => (L ()).length) ()).toNat).drop (loOf lo ()).toNat)]
              | false => .fail)
            | _ => .fail⟩
        | _ => none)
      | none => none)
    | none => none)
  | false => none
def nestP {A : Type} (E : Env A) (tm : List (Nat × SV)) (fresh : Nat) (o : Op) : Option (Plan A) := match o with
  | .load t a => (match look E.ti t with
    | some i => (match evalOp tm a with | some v => nestLoad i v fresh | none => none)
    | none => none)
  | .store t a x => (match look E.ti t with
    | some i => (match evalOp tm a with
      | some v => (match evalOp tm x with
        | some u => nestStore i v u
        | none => none)
      | none => none)
    | none => none)
  | .indexAddr t x ix => (match look E.ti t with
    | some i => (match evalOp tm x with
      | some v => (match evalOp tm ix with
        | some u => (match szOf E.ti i.kind with | some z => nestIdx i z v u | none => none)
        | none => none)
      | none => none)
    | none => none)
  | .makeSlice t l c => (match look E.ti t with
    | some i => (match beqN i.bytes 3 with
      | true => (match tkElem i.kind with
        | some et => (match look E.ti et with
          | some ie => (match evalOp tm l with
            | some v => (match evalOp tm c with | some u => nestMk (nestTb E.ti) i ie v u fresh | none => none)
            | none => none)
          | none => none)
        | none => none)
      | false => none)
    | none => none)
  | .makeMap t none => (match look E.ti t with
    | some i => (match beqN i.bytes 3 && isMapI i.kind with
      | true => some ⟨[fresh], 1, true, fun c _ => match c with | [.emp] => .done tt (one (.mp fresh)) [.mnest (nestTb E.ti) (fun _ => []) none] | _ => .fail⟩
      | false => none)
    | none => none)
  | .lookup t x ix false => (match look E.ti t with
    | some i => (match beqN i.bytes 3 with
      | true => (match tkMapI i.kind with
        | some et => (match look E.ti et with
          | some ie => (match ie.zero.all nilZ && beqN ie.size 1 with
            | true => (match evalOp tm x with
              | some (.val (.one (.mp m))) => (match evalOp tm ix with
                | some u => some ⟨[m, fresh], 1, true, mtakeE fresh u⟩
                | none => none)
              | _ => none)
            | false => none)
          | none => none)
        | none => none)
      | false => none)
    | none => none)
  | .mapUpdate t x ix y => (match look E.ti t with
    | some i => (match beqN i.bytes 3 && isMapI i.kind with
      | true => (match evalOp tm x with
        | some (.val (.one (.mp m))) => (match evalOp tm ix with
          | some u => (match evalOp tm y with
            | some (.val (.one (.hd j ver2))) => (match beqN m j with
              | true => none
              | false => some ⟨[m, j], 0, true, mputE ver2 j u⟩)
            | _ => none)
          | none => none)
        | _ => none)
      | false => none)
    | none => none)
  | .slice t x lo hi none => (match look E.ti t with
    | some i => (match beqN i.bytes 3 with
      | true => (match evalOp tm x with
        | some v => (match evalOpt tm lo with
          | some l => (match evalOpt tm hi with
            | some h => (match szOf E.ti i.kind with | some z => cutP i z v l h | none => none)
            | none => none)
          | none => none)
        | none => none)
      | false => none)
    | none => none)
  | _ => none
/-- One operation's plan. -/
def sop {A : Type} (E : Env A) (tm : List (Nat × SV)) (fresh : Nat) (o : Op) : PO A := match nestOn E.ti with
  | false => sop0 E tm fresh o
  | true => (match nestP E tm fresh o with
    | some p => .plan p
    | none => sop0 E tm fresh o)

def getC {A : Type} (H : List (Chunk A)) (i : Nat) : Chunk A := match nth H i with | some c => c | none => .emp
def getCs {A : Type} (H : List (Chunk A)) : List Nat → List (Chunk A)
  | [] => []
  | i :: r => getC H i :: getCs H r
def putC {A : Type} : List (Chunk A) → Nat → Chunk A → List (Chunk A)
  | _ :: r, 0, c => c :: r
  | x :: r, n + 1, c => x :: putC r n c
  | [], 0, c => [c]
  | [], n + 1, c => .emp :: putC [] n c
def putCs {A : Type} (H : List (Chunk A)) : List Nat → List (Chunk A) → List (Chunk A)
  | i :: r, c :: cs => putCs (putC H i c) r cs
  | _, _ => H

/-- What an operation has done: the slot and its value, the chunks that it wrote, all chunks that it looked at. -/
structure Eff (A : Type) where
  dst : Option Nat
  v : SV
  ids : List Nat
  cs : List (Chunk A)
  looks : List Nat
  soft : Bool                                      -- it looks at a list's header alone
  keep : Bool                                      -- its first chunk keeps its header

def putT (tm : List (Nat × SV)) (dst : Option Nat) (v : SV) : List (Nat × SV) := match dst with
  | some t => (t, v) :: tm
  | none => tm

def applyE {A : Type} (e : Eff A) (s : SS A) : SS A := ⟨putT s.tm e.dst e.v, putCs s.H e.ids e.cs⟩

/-- An append writes to its first chunk alone. -/
def isApp : Op → Bool
  | .call c => (match c.callee with | .builtin b => (match b with | .append => true | _ => false) | _ => false)
  | _ => false
def isAppE {A : Type} (E : Env A) (o : Op) : Bool := match nestOn E.ti with
  | true => false
  | false => isApp o
/-- Operations that may look at a header alone (1), or keep it (2). -/
def opKd : Op → Nat
  | .indexAddr _ _ _ => 1
  | .load _ _ => 2
  | .store _ _ _ => 2
  | _ => 0
def opKE {A : Type} (E : Env A) (tm : List (Nat × SV)) (fresh : Nat) (o : Op) : Nat := match nestOn E.ti with
  | true => (match nestP E tm fresh o with
    | some _ => opKd o
    | none => 0)
  | false => 0
def hdNest {A : Type} : List (Chunk A) → Bool
  | c :: _ => (match c with | .nest _ _ _ _ _ _ => true | _ => false)
  | [] => false
def mkEff {A : Type} (app : Bool) (k : Nat) (dst : Option Nat) (v : SV) (p : Plan A) (cs : List (Chunk A)) : Eff A := match p.w with
  | true => (match app with
    | true => (match p.ids, cs with
      | i :: _, c :: _ => ⟨dst, v, [i], [c], p.ids, false, false⟩
      | _, _ => ⟨dst, v, p.ids, cs, p.ids, false, false⟩)
    | false => ⟨dst, v, p.ids, cs, p.ids, false, beqN k 2 && hdNest cs⟩)
  | false => ⟨dst, v, [], [], p.ids, beqN k 1 && hdNest cs, false⟩
def Eff.hard {A : Type} (e : Eff A) : List Nat := match e.soft with
  | true => []
  | false => e.looks
/-- Whoever writes to a chunk of which another looks at the header alone keeps its header. -/
def keeps {A : Type} (c : Nat) (e : Eff A) : Bool := match e.ids.any (beqN c) with
  | true => (match e.ids with | i :: r => e.keep && beqN c i && !(r.any (beqN c)) | [] => false)
  | false => true
def softOk {A : Type} (effs : List (Eff A)) : Bool := effs.all fun e => !e.soft || e.looks.all fun c => effs.all (keeps c)

structure Dec where
  sl : List (Nat × Bool)
  op : List (Nat × Bool)

def Dec.ofOp : List (Nat × Bool) → Nat → List Bool
  | [], _ => []
  | (i, b) :: r, j => match beqN i j with
    | true => b :: Dec.ofOp r j
    | false => Dec.ofOp r j

/-- Where slot t's Bool has been decided: the value with the Bool written out. -/
def decide1 (sl : List (Nat × Bool)) (t : Nat) (v : SV) : SV × List (U Prop) := match v with
  | .val (.one (.sb g)) => (match look sl t with
    | some b => (one (.lb b), [fun _ => g () = b])
    | none => (v, []))
  | _ => (v, [])

inductive RO (A : Type) where
  | fail (j : Nat)
  | needS (t : Nat) (b : U Bool)
  | needC (j : Nat) (b : U Bool)
  | done (Cs : List (U Prop)) (s : SS A) (effs : List (Eff A))

inductive GO where
  | yes | no | fail
  | need (t : Nat) (b : U Bool)
def isBoolV : Value → Bool
  | .bool _ => true
  | _ => false
def guardOf (ops : List Oper) (tm : List (Nat × SV)) : Option (Nat × Bool) → GO
  | none => .yes
  | some (j, want) => match nth ops j with
    | some oj => (match oj.dst with
      | some t => (match look tm t with
        | some (.val (.one (.lb b))) => (match b == want with | true => .yes | false => .no)
        | some (.val (.one (.sb g))) => .need t g
        | some (.val (.one (.v x))) => (match isBoolV x with | true => .fail | false => .no)
        | _ => .fail)
      | none => .fail)
    | none => .fail

def undefV : SV := one (.v undef)

def decideD (sl : List (Nat × Bool)) (dst : Option Nat) (v : SV) : SV × List (U Prop) := match dst with
  | some t => decide1 sl t v
  | none => (v, [])

def srun {A : Type} (E : Env A) (ops : List Oper) (d : Dec) : List Oper → Nat → SS A → List (U Prop) → List (Eff A) → RO A
  | [], _, s, Cs, es => .done Cs s es.reverse
  | o :: r, j, s, Cs, es => match guardOf ops s.tm o.guard with
    | .fail => .fail j
    | .need t b => .needS t b
    | .no => srun E ops d r (j + 1) (applyE ⟨o.dst, undefV, [], [], [], false, false⟩ s) Cs (⟨o.dst, undefV, [], [], [], false, false⟩ :: es)
    | .yes => (match sop E s.tm s.H.length o.op with
      | .fail => .fail j
      | .needS t b => .needS t b
      | .plan p => (match p.eff (getCs s.H p.ids) (Dec.ofOp d.op j) with
        | .fail => .fail j
        | .need b => .needC j b
        | .done C v cs => (match decideD d.sl o.dst v with
          | (v, C2) => srun E ops d r (j + 1) (applyE (mkEff (isAppE E o.op) (opKE E s.tm s.H.length o.op) o.dst v p cs) s) (C :: (C2 ++ Cs)) (mkEff (isAppE E o.op) (opKE E s.tm s.H.length o.op) o.dst v p cs :: es))))

/-- A decision on slots that were written before. -/
def preSl (sl : List (Nat × Bool)) : List (Nat × Bool) → List (Nat × SV) → List (Nat × SV) × List (U Prop)
  | [], tm => (tm, [])
  | (t, b) :: r, tm => match preSl sl r tm with
    | (tm', Cs) => (match look tm t with
      | some (.val (.one (.sb g))) => ((t, one (.lb b)) :: tm', (fun _ => g () = b) :: Cs)
      | _ => (tm', Cs))

inductive Ck (C : U Prop) (R : Prop) : Prop
  | mk (h : C ()) (r : R)
inductive Failed (why : Nat) : Prop
inductive Alt (neg : Bool) (C p q : U Prop) : Prop
  | mk (h : (neg = false → C ()) → p ()) (k : (neg = true → C ()) → q ())
inductive Both (b : U Bool) (p q : U Prop) : Prop
  | mk (h : b () = true → p ()) (k : b () = false → q ())

/-- The end of a path. -/
inductive End (p : Prop) : Prop
  | mk (h : p)

def conds (R : Prop) : List (U Prop) → Prop
  | [] => R
  | C :: r => conds (Ck C R) r

def maskOf : List Nat → Nat
  | [] => 0
  | i :: r => (1 <<< i) ||| maskOf r
/-- The operations that stand ahead of each (as bits). -/
def ancO (acc : List Nat) : List Edge → Nat
  | [] => 0
  | e :: r => match Region.binds .any e with
    | true => ((1 <<< e.on) ||| (match nth acc e.on with | some l => l | none => 0)) ||| ancO acc r
    | false => ancO acc r
def ancs : List Oper → List Nat → List Nat
  | [], acc => acc
  | o :: r, acc => ancs r (acc ++ [ancO acc o.after.toList])

def readsOf (ops : List Oper) (o : Oper) : List Nat :=
  (o.op.operands.toList.filterMap fun x => match x with | .tmp t => some t | _ => none) ++
  (match o.guard with | some (j, _) => (match nth ops j with | some oj => oj.dst.toList | none => []) | none => [])

structure Rec where
  dst : Nat
  reads : Nat
  ids : Nat
  looks : Nat

def meets (a b : Nat) : Bool := !(beqN (a &&& b) 0)

/-- Must one of the two be ahead of the other? -/
def clash (a b : Rec) : Bool := meets a.dst (b.reads ||| b.dst) || meets b.dst a.reads || meets a.ids b.looks || meets b.ids a.looks

def okRec (an : Nat) (b : Rec) : Nat → List Rec → Bool
  | _, [] => true
  | i, a :: r => (an.testBit i || !clash a b) && okRec an b (i + 1) r
def okRecs : List Nat → List Rec → List Rec → Bool
  | an :: ans, b :: bs, before => okRec an b 0 before && okRecs ans bs (before ++ [b])
  | _, [], _ => true
  | [], _ :: _, _ => false
def recsOf (ops : List Oper) : List Oper → List (List Nat × List Nat) → List Rec
  | o :: r, (ids, looks) :: l => ⟨maskOf o.dst.toList, maskOf (readsOf ops o), maskOf ids, maskOf looks⟩ :: recsOf ops r l
  | _, _ => []
/-- May the operations be carried out in the order of the text? (Each waits for earlier ones only; two that clash stand in an order.) -/
def drawOk (ops : List Oper) (l : List (List Nat × List Nat)) : Bool :=
  okRecs (ancs ops []) (recsOf ops ops l) [] && l.length == ops.length && (ops.zipIdx.all fun (o, i) => o.after.toList.all fun e => !Region.binds .any e || bltN e.on i) &&
  ops.all fun o => match o.op with | .select .. => false | _ => true

def drawE {A : Type} (ops : List Oper) (effs : List (Eff A)) : Bool := drawOk ops (effs.map fun e => (e.ids, e.hard)) && softOk effs

def sreg {A : Type} (E : Env A) (ops : List Oper) (draw : Bool) (s : SS A) (Q : SS A → Prop) : Nat → Dec → Prop
  | 0, _ => Failed 1000
  | n + 1, d => match preSl d.sl d.sl s.tm with
    | (tm, C0) => (match srun E ops d ops 0 ⟨tm, s.H⟩ C0 [] with
      | .fail j => Failed j
      | .needS t b => Both b (fun _ => sreg E ops draw s Q n ⟨(t, true) :: d.sl, d.op⟩) (fun _ => sreg E ops draw s Q n ⟨(t, false) :: d.sl, d.op⟩)
      | .needC j b => Both b (fun _ => sreg E ops draw s Q n ⟨d.sl, d.op ++ [(j, true)]⟩) (fun _ => sreg E ops draw s Q n ⟨d.sl, d.op ++ [(j, false)]⟩)
      | .done Cs s' effs => (match draw with
        | false => conds (Q s') Cs
        | true => Ck (fun _ => drawE ops effs = true) (conds (Q s') Cs)))

inductive XE where
  | normal
  | ret
  | exit (id : Nat)

def eqNs : List Nat → List Nat → Bool
  | [], [] => true
  | a :: l, b :: m => beqN a b && eqNs l m
  | _, _ => false
/-- The conditions under which the one value says no more than the other. -/
def sub1 (n : Nat) : SV1 → SV1 → Option (U Prop)
  | _, .any => some tt
  | .int k a, .int k' b => (match decide (k = k') with | true => some (fun _ => a () = b ()) | false => none)
  | .li k a, .int k' b => (match decide (k = k') with | true => some (fun _ => a = b ()) | false => none)
  | .li k a, .li k' b => (match decide (k = k') && decide (a = b) with | true => some tt | false => none)
  | .sb a, .sb b => some (fun _ => a () = b ())
  | .lb a, .sb b => some (fun _ => a = b ())
  | .sb a, .lb b => some (fun _ => a () = b)
  | .lb a, .lb b => (match a == b with | true => some tt | false => none)
  | .str a, .str b => some (fun _ => a () = b ())
  | .nilS, .nilS => some tt
  | .nilS, .ro _ L => some (fun _ => L () = [])
  | .nilP, .nilP => some tt
  | .ptr i o, .ptr i' o' => (match beqN i i' && beqN o o' && bltN i n with | true => some tt | false => none)
  | .mp i, .mp i' => (match beqN i i' && bltN i n with | true => some tt | false => none)
  | .ro e L, .ro e' L' => (match castL e e' with | some f => some (fun _ => f (L ()) = L' ()) | none => none)
  | .hd i v, .hd i' v' => (match beqN i i' && beqN v v' && bltN i n with | true => some tt | false => none)
  | .fnc f l, .fnc g m => (match beqN f g && eqNs l m && l.all (fun i => bltN i n) with | true => some tt | false => none)
  | _, _ => none

def sub1s (n : Nat) : List SV1 → List SV1 → Option (List (U Prop))
  | [], [] => some []
  | x :: l, y :: m => (match sub1 n x y with
    | some C => (match sub1s n l m with | some Cs => some (C :: Cs) | none => none)
    | none => none)
  | _, _ => none

def sub2 (n : Nat) : SV2 → SV2 → Option (List (U Prop))
  | _, .one .any => some []
  | .one x, .one y => (match sub1 n x y with | some C => some [C] | none => none)
  | .agg l, .agg m => sub1s n l m
  | .fn f l, .fn g m => (match beqN f g with | true => sub1s n l m | false => none)
  | _, _ => none
def sub2s (n : Nat) : List SV2 → List SV2 → Option (List (U Prop))
  | [], [] => some []
  | x :: l, y :: m => (match sub2 n x y with
    | some C => (match sub2s n l m with | some Cs => some (C ++ Cs) | none => none)
    | none => none)
  | _, _ => none
def subV (n : Nat) : SV → SV → Option (List (U Prop))
  | _, .val (.one .any) => some []
  | .val x, .val y => sub2 n x y
  | .tup l, .tup m => sub2s n l m
  | _, _ => none

/-- Abstract objects that can be compared. -/
class SubA (A : Type) where
  sub : A → A → Option (U Prop)
  sound : ∀ a b C, sub a b = some C → C () → a = b

def subC {A : Type} [SubA A] (n : Nat) : Chunk A → Chunk A → Option (List (U Prop))
  | _, .gone => some []
  | .emp, .emp => some []
  | .cells t cs, .cells t' cs' => (match beqN t t' with | true => sub1s n cs cs' | false => none)
  | .row t e v L, .row t' e' v' L' => (match beqN t t' && beqN v v' with
    | true => (match castL e e' with | some f => some [fun _ => f (L ()) = L' ()] | none => none)
    | false => none)
  | .map ks e L, .map ks' e' L' => (match castM ks ks' e e' with | some f => some [fun _ => f (L ()) = L' ()] | none => none)
  | .rmap ks e L R _ j, .rmap ks' e' L' R' none j' => (match beqN j j' && bltN j n with
    | true => (match castM ks ks' e e' with | some f => some [fun _ => f (L ()) = L' (), fun _ => f (R ()) = R' ()] | none => none)
    | false => none)
  | .itp i, .itp i' => (match beqN i i' with | true => some [] | false => none)
  | .nest t tb z v L none, .nest t' tb' z' v' L' none => (match beqN t t' && beqN tb tb' && beqN z z' && beqN v v' with
    | true => some [fun _ => L () = L' ()]
    | false => none)
  | .nest t tb z v L (some (k, j)), .nest t' tb' z' v' L' (some (k', j')) => (match beqN t t' && beqN tb tb' && beqN z z' && beqN v v' && beqN j j' && bltN j n with
    | true => some [fun _ => L () = L' (), fun _ => k () = k' ()]
    | false => none)
  | .mnest tb L none, .mnest tb' L' none => (match beqN tb tb' with
    | true => some [fun _ => L () = L' ()]
    | false => none)
  | .abs a, .abs b => (match SubA.sub a b with | some C => some [C] | none => none)
  | _, _ => none
def subCs {A : Type} [SubA A] (n : Nat) : List (Chunk A) → List (Chunk A) → Option (List (U Prop))
  | _, [] => some []
  | c :: l, d :: m => (match subC n c d with
    | some C => (match subCs n l m with | some Cs => some (C ++ Cs) | none => none)
    | none => none)
  | [], _ :: _ => none
def subT (n : Nat) (tm : List (Nat × SV)) : List (Nat × SV) → Option (List (U Prop))
  | [] => some []
  | (t, y) :: r => (match look tm t with
    | some x => (match subV n x y with
      | some C => (match subT n tm r with | some Cs => some (C ++ Cs) | none => none)
      | none => none)
    | none => none)

/-- Rows from number n0 on: the versions start anew. -/
def vers {A : Type} : List (Chunk A) → List (Option Nat)
  | [] => []
  | .row _ _ v _ :: r => some v :: vers r
  | .nest _ _ _ v _ _ :: r => some v :: vers r
  | _ :: r => none :: vers r
def norm1 (n0 : Nat) (vs : List (Option Nat)) : SV1 → SV1
  | .hd i v => (match bltN i n0 with
    | true => .hd i v
    | false => (match nth vs i with | some (some u) => (match beqN u v with | true => .hd i 0 | false => .any) | _ => .any))
  | .vw i v e l n => (match bltN i n0 with | true => .vw i v e l n | false => .any)
  | .ep i v e k o => (match bltN i n0 with | true => .ep i v e k o | false => .any)
  | x => x
def norm2 (n0 : Nat) (vs : List (Option Nat)) : SV2 → SV2
  | .one x => .one (norm1 n0 vs x)
  | .agg l => .agg (l.map (norm1 n0 vs))
  | .fn f l => .fn f (l.map (norm1 n0 vs))
def normV (n0 : Nat) (vs : List (Option Nat)) : SV → SV
  | .val x => .val (norm2 n0 vs x)
  | .tup l => .tup (l.map (norm2 n0 vs))
def normC {A : Type} (n0 : Nat) (vs : List (Option Nat)) (i : Nat) : Chunk A → Chunk A
  | .cells t cs => .cells t (cs.map (norm1 n0 vs))
  | .row t e v L => (match bltN i n0 with | true => .row t e v L | false => .row t e 0 L)
  | .nest t tb z v L none => (match bltN i n0 with | true => .nest t tb z v L none | false => .nest t tb z 0 L none)
  | .nest t tb z v L (some (k, j)) => (match norm1 n0 vs (.hd j 0) with
    | .hd _ _ => (match bltN i n0 with | true => .nest t tb z v L (some (k, j)) | false => .nest t tb z 0 L (some (k, j)))
    | _ => .gone)
  | .mnest tb L (some _) => .gone
  | c => c
def normCs {A : Type} (n0 : Nat) (vs : List (Option Nat)) : Nat → List (Chunk A) → List (Chunk A)
  | _, [] => []
  | i, c :: r => normC n0 vs i c :: normCs n0 vs (i + 1) r
def normT (n0 : Nat) (vs : List (Option Nat)) : List (Nat × SV) → List (Nat × SV)
  | [] => []
  | (t, v) :: r => (t, normV n0 vs v) :: normT n0 vs r
def norm {A : Type} (n0 : Nat) (s : SS A) : SS A := match vers s.H with
  | vs => ⟨normT n0 vs s.tm, normCs n0 vs 0 s.H⟩

def map2 (f : SV1 → SV1) : SV2 → SV2
  | .one x => .one (f x)
  | .agg l => .agg (l.map f)
  | .fn g l => .fn g (l.map f)
def mapV (f : SV1 → SV1) : SV → SV
  | .val x => .val (map2 f x)
  | .tup l => .tup (l.map (map2 f))
def mapT (f : SV1 → SV1) : List (Nat × SV) → List (Nat × SV)
  | [] => []
  | (t, v) :: r => (t, mapV f v) :: mapT f r

def pairUp {α : Type} : List α → List (α × α)
  | a :: b :: r => (a, b) :: pairUp r
  | _ => []
/-- Rows from number n on: from now on they stay as they are. -/
def frz1 {A : Type} (n : Nat) (H : List (Chunk A)) : SV1 → SV1
  | .hd i v => (match bltN i n with
    | true => .hd i v
    | false => (match getC H i with
      | .row _ e u L => (match beqN u v with | true => .ro e L | false => .any)
      | .nest _ _ z u L none => (match beqN u v with
        | true => (match beqN z 1 with
          | true => .ro (.lst (.int .i64)) L
          | false => (match beqN z 2 with
            | true => .ro (.pair (.lst (.int .i64)) (.lst (.int .i64))) (fun _ => pairUp (L ()))
            | false => .any))
        | false => .any)
      | _ => .any))
  | .vw i v esz lo k => (match bltN i n with
    | true => .vw i v esz lo k
    | false => (match getC H i with
      | .row _ e u L => (match beqN u v && beqN esz e.size with | true => .ro e (fun _ => ((L ()).drop (lo ()).toNat).take (k ()).toNat) | false => .any)
      | _ => .any))
  | x => x
def frzC {A : Type} (n : Nat) (H : List (Chunk A)) (i : Nat) : Chunk A → Chunk A
  | .cells t cs => .cells t (cs.map (frz1 n H))
  | .row t e v L => (match bltN i n with | true => .row t e v L | false => .gone)
  | .nest t tb z v L q => (match bltN i n with | true => .nest t tb z v L q | false => .gone)
  | c => c
def frzCs {A : Type} (n : Nat) (H : List (Chunk A)) : Nat → List (Chunk A) → List (Chunk A)
  | _, [] => []
  | i, c :: r => frzC n H i c :: frzCs n H (i + 1) r
def frz {A : Type} (n : Nat) (s : SS A) : SS A := ⟨mapT (frz1 n s.H) s.tm, frzCs n s.H 0 s.H⟩

/-- Nil slices that are rows from now on. -/
def absT {A : Type} (H' : List (Chunk A)) : List (Nat × SV) → SS A → SS A
  | [], s => s
  | (t, y) :: r, s => match y with
    | .val (.one (.hd k 0)) => (match look s.tm t with
      | some (.val (.one .nilS)) => (match getC s.H k with
        | .emp => (match getC H' k with
          | .row rt e 0 _ => absT H' r ⟨(t, one (.hd k 0)) :: s.tm, putC s.H k (.row rt e 0 (fun _ => []))⟩
          | _ => absT H' r s)
        | _ => absT H' r s)
      | _ => absT H' r s)
    | _ => absT H' r s
def absL {A : Type} (H' : List (Chunk A)) (c : Nat) : Nat → List SV1 → SS A → SS A
  | _, [], s => s
  | j, y :: r, s => match y with
    | .hd k 0 => (match getC s.H c with
      | .cells ct l => (match nth l j with
        | some .nilS => (match getC s.H k with
          | .emp => (match getC H' k with
            | .row rt e 0 _ => absL H' c (j + 1) r ⟨s.tm, putC (putC s.H k (.row rt e 0 (fun _ => []))) c (.cells ct (setNth l j (.hd k 0)))⟩
            | _ => absL H' c (j + 1) r s)
          | _ => absL H' c (j + 1) r s)
        | _ => absL H' c (j + 1) r s)
      | _ => absL H' c (j + 1) r s)
    | _ => absL H' c (j + 1) r s
def absC {A : Type} (H' : List (Chunk A)) : Nat → List (Chunk A) → SS A → SS A
  | _, [], s => s
  | c, d :: r, s => match d with
    | .cells _ l => absC H' (c + 1) r (absL H' c 0 l s)
    | _ => absC H' (c + 1) r s
def absorb {A : Type} (t s : SS A) : SS A := absC t.H 0 t.H (absT t.H t.tm s)

/-- Maps that are not ranged over any more. -/
def unrC {A : Type} : Chunk A → Chunk A → Chunk A
  | .rmap ks e L _ _ _, .map _ _ _ => .map ks e L
  | c, _ => c
def unr {A : Type} : List (Chunk A) → List (Chunk A) → List (Chunk A)
  | c :: r, d :: m => unrC c d :: unr r m
  | l, [] => l
  | [], _ :: _ => []

/-- Maps whose values stay as they are from now on. -/
def unmC {A : Type} : Chunk A → Chunk A → Chunk A
  | .mnest _ L none, .map _ _ _ => .map (.int .i64) (.lst (.int .i64)) L
  | c, _ => c
def unm {A : Type} : List (Chunk A) → List (Chunk A) → List (Chunk A)
  | c :: r, d :: m => unmC c d :: unm r m
  | l, [] => l
  | [], _ :: _ => []
/-- A row that was taken out of a list goes home. -/
def homeAt {A : Type} (H : List (Chunk A)) (i : Nat) : List (Chunk A) := match getC H i with
  | .nest t tb z v L (some (k, j)) => (match getC H j with
    | .row rt (.int .i64) 0 D => (match beqN rt tb && !beqN i j with
      | true => putC (putC H j .gone) i (.nest t tb z v (fun _ => (L ()).set (k ()).toNat (D ())) none)
      | false => H)
    | _ => H)
  | _ => H
/-- The first list that lacks a row, and shall not. -/
def holeOf {A : Type} : Nat → List (Chunk A) → List (Chunk A) → Option Nat
  | _, [], _ => none
  | i, c :: r, T => match c with
    | .nest _ _ _ _ _ (some _) => (match T with
      | .nest _ _ _ _ _ (some _) :: T => holeOf (i + 1) r T
      | _ => some i)
    | _ => (match T with
      | _ :: T => holeOf (i + 1) r T
      | [] => holeOf (i + 1) r [])
def homes {A : Type} (H T : List (Chunk A)) : List (Chunk A) := match holeOf 0 H T with
  | none => H
  | some i => homeAt H i

/-- The slots that are asked for. -/
def keepT (tm : List (Nat × SV)) : List (Nat × SV) → List (Nat × SV)
  | [] => []
  | (t, _) :: r => match look tm t with
    | some v => (t, v) :: keepT tm r
    | none => keepT tm r

/-- The one state says no more than the other (whose chunks come first; what is behind them is let go). -/
def Sub {A : Type} [SubA A] (n0 : Nat) (s t : SS A) : Prop := match norm n0 (frz t.H.length (absorb t ⟨keepT s.tm t.tm, unr (unm (homes s.H t.H) t.H) t.H⟩)) with
  | s => (match subT t.H.length s.tm t.tm with
    | some C => (match subCs t.H.length s.H t.H with
      | some D => (match bleN n0 t.H.length with | true => End (conds True (C ++ D)) | false => Failed 5002)
      | none => Failed 5001)
    | none => Failed 5000)

/-- What is to be shown of a loop. -/
structure LoopInv (A : Type) where
  X : Type
  inv : X → SS A
  m : X → Nat
  x0 : X

/-- An entry that was not met yet is met, or all were. -/
inductive Pick (ks : KT) (e : Ty) (R : U (List (ks.T × e.T))) (p : U Prop) (q : List (ks.T × e.T) → ks.T × e.T → List (ks.T × e.T) → Prop) : Prop
  | mk (h : R () = [] → p ()) (k : ∀ l1 x l2, R () = l1 ++ x :: l2 → q l1 x l2)

/-- 'next' and whether there is one. -/
def nextOf : List Oper → Option (Nat × Nat × Nat)
  | [o, o'] => (match o.op, o.dst, o.guard, o'.op, o'.dst, o'.guard with
    | .next (.tmp t) false, some d0, none, .extract (.tmp d) 0, some d1, none => (match beqN d d0 with | true => some (t, d0, d1) | false => none)
    | _, _, _, _, _, _ => none)
  | _ => none
def snext {A : Type} (t d0 d1 : Nat) (s : SS A) (Q : SS A → Prop) : Prop := match look s.tm t with
  | some (.val (.one (.ptr j 0))) => (match getC s.H j with
    | .itp i => (match getC s.H i with
      | .rmap ks e L R _ j' => (match beqN j j' with
        | true => Pick ks e R (fun _ => Q ⟨(d1, one (.lb false)) :: (d0, one .any) :: s.tm, s.H⟩)
            (fun l1 x l2 => Q ⟨(d1, one (.lb true)) :: (d0, one .any) :: s.tm, putC s.H i (.rmap ks e L (fun _ => l1 ++ l2) (some (fun _ => x)) j)⟩)
        | false => Failed 3100)
      | _ => Failed 3101)
    | _ => Failed 3102)
  | _ => Failed 3103

def svc {A : Type} [SubA A] (E : Env A) (n0 : Nat) : Code → SS A → (XE → SS A → Prop) → Prop
  | .skip, s, Q => Q .normal s
  | .region _ ops draw, s, Q => (match draw with
    | true => sreg E ops.toList draw s (Q .normal) 24 ⟨[], []⟩
    | false => (match nextOf ops.toList with
      | some (t, d0, d1) => snext t d0 d1 s (Q .normal)
      | none => sreg E ops.toList draw s (Q .normal) 24 ⟨[], []⟩))
  | .seq a b, s, Q => svc E n0 a s fun e s => match e with
    | .normal => svc E n0 b s Q
    | .ret => Q .ret s
    | .exit id => Q (.exit id) s
  | .cond c x y, s, Q => (match evalOp s.tm c with
    | some (.val (.one (.lb true))) => svc E n0 x s Q
    | some (.val (.one (.lb false))) => svc E n0 y s Q
    | some (.val (.one (.sb g))) => (match c with
      | .tmp t => Both g (fun _ => svc E n0 x ⟨(t, one (.lb true)) :: s.tm, s.H⟩ Q) (fun _ => svc E n0 y ⟨(t, one (.lb false)) :: s.tm, s.H⟩ Q)
      | _ => Failed 3000)
    | some (.val (.one (.nb neg C))) => (match c with
      | .tmp t => Alt neg C (fun _ => svc E n0 x ⟨(t, one (.lb true)) :: s.tm, s.H⟩ Q) (fun _ => svc E n0 y ⟨(t, one (.lb false)) :: s.tm, s.H⟩ Q)
      | _ => Failed 3002)
    | _ => Failed 3001)
  | .block id c, s, Q => svc E n0 c s fun e s => match e with
    | .normal => Q .normal s
    | .ret => Q .ret s
    | .exit id' => (match beqN id id' with | true => Q .normal s | false => Q (.exit id') s)
  | .loop c, s, Q => ∃ I : LoopInv A, Sub n0 s (I.inv I.x0) ∧ ∀ x, svc E n0 c (I.inv x) fun e s => match e with
    | .normal => ∃ y, I.m y < I.m x ∧ Sub n0 s (I.inv y)
    | .ret => Q .ret s
    | .exit id => Q (.exit id) s
  | .exit id, s, Q => Q (.exit id) s
  | .ret, s, Q => Q .ret s
  | .scope c, s, Q => svc E n0 c s Q
  | _, _, _ => Failed 4000

/-! ### results -/
def resV {A : Type} (ti : List (Nat × TI)) (s : SS A) : List ResultVar → Option (List SV2)
  | [] => some []
  | .tmp t :: r => (match look s.tm t with
    | some (.val x) => (match resV ti s r with | some l => some (x :: l) | none => none)
    | _ => none)
  | .cell a t :: r => (match look s.tm a with
    | some (.val (.one (.ptr i off))) => (match getC s.H i with
      | .cells _ l => (match look ti t with
        | some j => (match partOf j l off with
          | some (.val x) => (match resV ti s r with | some l => some (x :: l) | none => none)
          | _ => none)
        | none => none)
      | _ => none)
    | _ => none)
def resOf : List SV2 → SV
  | [x] => .val x
  | l => .tup l

/-- At the end of a function: its result and the chunks are as wanted. -/
def finP {A : Type} [SubA A] (ti : List (Nat × TI)) (n0 : Nat) (rs : List ResultVar) (v : SV) (H1 : List (Chunk A)) (e : XE) (s : SS A) : Prop := match e with
  | .exit _ => Failed 6000
  | _ => match resV ti s rs with
    | some l => Sub n0 ⟨[(0, resOf l)], s.H⟩ ⟨[(0, v)], H1⟩
    | none => Failed 6001

/-- The arguments in their slots. -/
def argT : Nat → List SV → List (Nat × SV)
  | _, [] => []
  | n, x :: r => (n, x) :: argT (n + 1) r

/-! ### abstract objects -/
/-- Where the parts of an object are laid: itself at i, the others from base on. -/
def place (i base : Nat) : Nat → Nat
  | 0 => i
  | j + 1 => base + j
/-- The chunks in another order (chunk j is now what was chunk p j); the others are let go. -/
def posB : List Nat → Nat → Option Nat
  | [], _ => none
  | x :: r, i => match beqN x i with
    | true => some 0
    | false => (match posB r i with | some j => some (j + 1) | none => none)
def posBs (p : List Nat) : List Nat → Option (List Nat)
  | [] => some []
  | i :: r => match posB p i with
    | some j => (match posBs p r with | some l => some (j :: l) | none => none)
    | none => none
def rn1 (p : List Nat) : SV1 → SV1
  | .ptr i o => (match posB p i with | some j => .ptr j o | none => .any)
  | .mp i => (match posB p i with | some j => .mp j | none => .any)
  | .hd i v => (match posB p i with | some j => .hd j v | none => .any)
  | .vw i v e l n => (match posB p i with | some j => .vw j v e l n | none => .any)
  | .ep i v e k o => (match posB p i with | some j => .ep j v e k o | none => .any)
  | .fnc g l => (match posBs p l with | some l => .fnc g l | none => .any)
  | x => x
def rnC {A : Type} (p : List Nat) : Chunk A → Chunk A
  | .cells t cs => .cells t (cs.map (rn1 p))
  | .rmap _ _ _ _ _ _ => .gone
  | .itp _ => .gone
  | .nest _ _ _ _ _ (some _) => .gone
  | .mnest _ _ (some _) => .gone
  | c => c
def reordH {A : Type} (p : List Nat) (H : List (Chunk A)) : List Nat → List (Chunk A)
  | [] => []
  | i :: r => rnC p (getC H i) :: reordH p H r
def reord {A : Type} (p : List Nat) (s : SS A) : SS A := ⟨mapT (rn1 p) s.tm, reordH p s.H p⟩
def nodupB : List Nat → Bool
  | [] => true
  | x :: r => !r.any (beqN x) && nodupB r
/-- The first n0 stay in their places. -/
def fixB : Nat → Nat → List Nat → Bool
  | 0, _, _ => true
  | n + 1, k, x :: r => beqN x k && fixB n (k + 1) r
  | _ + 1, _, [] => false
def permOk (n0 : Nat) (p : List Nat) : Bool := nodupB p && fixB n0 0 p
/-- The end of a function that makes something new. -/
def finR {A : Type} [SubA A] (ti : List (Nat × TI)) (n0 : Nat) (rs : List ResultVar) (v : SV) (H1 : List (Chunk A)) (e : XE) (s : SS A) : Prop := match e with
  | .exit _ => Failed 6000
  | _ => match resV ti s rs with
    | some l => ∃ p, permOk n0 p = true ∧ Sub n0 (reord p ⟨[(0, resOf l)], s.H⟩) ⟨[(0, v)], H1⟩
    | none => Failed 6001

/-- Does the code write to slots below n alone? -/
def codeOk (n : Nat) : Code → Bool
  | .region _ ops _ => ops.all fun o => match o.dst with | some t => bltN t n | none => true
  | .seq a b => codeOk n a && codeOk n b
  | .cond _ a b => codeOk n a && codeOk n b
  | .block _ c => codeOk n c
  | .loop c => codeOk n c
  | .scope c => codeOk n c
  | _ => true

end Go.Sx

/-
  Symbolic execution, meaning: what a symbolic value, a chunk and a state say of a world.
-/
namespace Go.Sx
set_option linter.all false
open Go.RowKit

/-- Pointwise. -/
inductive All2 {α β : Type} (R : α → β → Prop) : List α → List β → Prop
  | nil : All2 R [] []
  | cons {a b l m} (h : R a b) (t : All2 R l m) : All2 R (a :: l) (b :: m)

theorem All2.length {α β : Type} {R : α → β → Prop} {l : List α} {m : List β} (h : All2 R l m) : l.length = m.length := by
  induction h with
  | nil => rfl
  | cons _ _ ih => simp [ih]
theorem All2.mono {α β : Type} {R R' : α → β → Prop} {l : List α} {m : List β} (h : All2 R l m) (hr : ∀ a b, R a b → R' a b) : All2 R' l m := by
  induction h with
  | nil => exact .nil
  | cons h _ ih => exact .cons (hr _ _ h) ih
theorem All2.nth {α β : Type} {R : α → β → Prop} {l : List α} {m : List β} (h : All2 R l m) : ∀ {i a}, nth l i = some a → ∃ b, m[i]? = some b ∧ R a b := by
  induction h with
  | nil => intro i a h; cases h
  | cons h _ ih =>
    intro i a hi
    cases i with
    | zero => cases hi; exact ⟨_, rfl, h⟩
    | succ i => obtain ⟨b, hb, hr⟩ := ih (i := i) hi; exact ⟨b, by simpa using hb, hr⟩
theorem All2.append {α β : Type} {R : α → β → Prop} {l l' : List α} {m m' : List β} (h : All2 R l m) (h' : All2 R l' m') : All2 R (l ++ l') (m ++ m') := by
  induction h with
  | nil => exact h'
  | cons h _ ih => exact .cons h ih
theorem All2.takeN {α β : Type} {R : α → β → Prop} {l : List α} {m : List β} (h : All2 R l m) : ∀ {n l'}, takeN l n = some l' → All2 R l' (m.take n) ∧ l'.length = n := by
  induction h with
  | nil => intro n l' hn; cases n <;> simp [Sx.takeN] at hn; subst hn; exact ⟨.nil, rfl⟩
  | cons h _ ih =>
    intro n l' hn
    cases n with
    | zero => simp [Sx.takeN] at hn; subst hn; exact ⟨.nil, rfl⟩
    | succ n =>
      simp only [Sx.takeN] at hn
      split at hn
      · rename_i l2 h2
        cases hn
        obtain ⟨h3, h4⟩ := ih h2
        exact ⟨.cons h h3, by simp [h4]⟩
      · cases hn
theorem All2.cut {α β : Type} {R : α → β → Prop} {l : List α} {m : List β} (h : All2 R l m) : ∀ {o n l'}, cut l o n = some l' → All2 R l' ((m.drop o).take n) ∧ l'.length = n := by
  induction h with
  | nil => intro o n l' hn; cases o <;> simp [Sx.cut] at hn; simpa using All2.takeN (R := R) .nil hn
  | @cons a b l m h t ih =>
    intro o n l' hn
    cases o with
    | zero => simp only [Sx.cut] at hn; simpa using (All2.cons h t).takeN hn
    | succ o => simp only [Sx.cut] at hn; simpa using ih hn
def pasteV {α : Type} (m : List α) (o : Nat) (u : List α) : List α := m.take o ++ u ++ m.drop (o + u.length)
theorem All2.paste {α β : Type} {R : α → β → Prop} {l : List α} {m : List β} (h : All2 R l m) : ∀ {o vs us l'}, All2 R vs us → paste l o vs = some l' → All2 R l' (pasteV m o us) ∧ l'.length = l.length ∧ (vs ≠ [] → o + us.length ≤ m.length) := by
  induction h with
  | nil =>
    intro o vs us l' hv hn
    cases hv with
    | nil => simp [Sx.paste] at hn; subst hn; exact ⟨by simpa [pasteV] using All2.nil, rfl, by simp⟩
    | cons _ _ => cases o <;> simp [Sx.paste] at hn
  | @cons a b l m h t ih =>
    intro o vs us l' hv hn
    cases hv with
    | nil =>
      have : l' = a :: l := by cases o <;> simp [Sx.paste] at hn <;> exact hn.symm
      subst this
      exact ⟨by simpa [pasteV] using All2.cons h t, rfl, by simp⟩
    | @cons v u vs us hvu hvs =>
      cases o with
      | zero =>
        simp only [Sx.paste] at hn
        split at hn
        · rename_i l2 h2
          cases hn
          obtain ⟨h3, h4, h5⟩ := ih hvs h2
          refine ⟨by simpa [pasteV] using All2.cons hvu h3, by simp [h4], fun _ => ?_⟩
          by_cases hv0 : vs = []
          · subst hv0; cases hvs; simp
          · have := h5 hv0; simp at this ⊢; omega
        · cases hn
      | succ o =>
        simp only [Sx.paste] at hn
        split at hn
        · rename_i l2 h2
          cases hn
          obtain ⟨h3, h4, h5⟩ := ih (.cons hvu hvs) h2
          refine ⟨?_, by simp [h4], fun h0 => ?_⟩
          · have e : pasteV (b :: m) (o + 1) (u :: us) = b :: pasteV m o (u :: us) := by
              simp only [pasteV, List.take_succ_cons, List.cons_append, List.length_cons]; rw [show o + 1 + (us.length + 1) = (o + (us.length + 1)) + 1 by omega, List.drop_succ_cons]
            rw [e]; exact .cons h h3
          · have := h5 (by simp); simp at this ⊢; omega
        · cases hn

/-- Memory that stays as it is. -/
abbrev Mem := Nat → Nat → Option Value

/-- The bytes that a slice shows. -/
def ShowsB (M : Mem) (l : List Int) (v : Value) : Prop :=
  ∃ ao cap, v = .slice ao l.length cap ∧ l.length ≤ cap ∧ (0 < l.length → ∃ b off, ao = some ⟨b, off, none⟩ ∧ ∀ j x, l[j]? = some x → M b (off + j) = some (.int .u8 x))

/-- The cells of an element. -/
def CellsM (M : Mem) : (e : Ty) → e.T → (Nat → Option Value) → Prop
  | .int k, n, c => c 0 = some (.int k n)
  | .bool, b, c => c 0 = some (.bool b)
  | .bytes, l, c => ∃ v, c 0 = some v ∧ ShowsB M l v
  | .str, l, c => c 0 = some (.string ⟨(l.map fun x => x.toNat.toUInt8).toArray⟩)
  | .unit, _, _ => True
  | .pair a b, x, c => CellsM M a x.1 c ∧ CellsM M b x.2 (fun j => c (a.size + j))
  | .lst e, L, c => ∃ v, c 0 = some v ∧ ∃ ao cap, v = .slice ao (@List.length e.T L) cap ∧ @List.length e.T L ≤ cap ∧ (0 < @List.length e.T L → ∃ b off, ao = some ⟨b, off, none⟩ ∧ ∀ (j : Nat) (x : e.T), (show List e.T from L)[j]? = some x → CellsM M e x (fun i => M b (off + j * e.size + i)))

def ShowsM (M : Mem) (e : Ty) (L : List e.T) (v : Value) : Prop :=
  ∃ ao cap, v = .slice ao L.length cap ∧ L.length ≤ cap ∧ (0 < L.length → ∃ b off, ao = some ⟨b, off, none⟩ ∧ ∀ j x, L[j]? = some x → CellsM M e x (fun i => M b (off + j * e.size + i)))

theorem cellsM_lst {M : Mem} {e : Ty} {L : List e.T} {c : Nat → Option Value} : CellsM M (.lst e) L c ↔ ∃ v, c 0 = some v ∧ ShowsM M e L v := Iff.rfl
theorem showsB_iff {M : Mem} {l : List Int} {v : Value} : ShowsB M l v ↔ ShowsM M (.int .u8) l v := by
  simp [ShowsB, ShowsM, CellsM, Ty.size]

structure Ev where
  root : Nat → Value
  ver : Nat → Nat
  M : Mem
  foot : Nat → List Nat

/-- The slice v is the part lo, n of the slice r (elements of esz cells). -/
def VwAt (r : Value) (esz : Nat) (lo n : Int) (v : Value) : Prop :=
  ∃ ao len cap, r = .slice ao len cap ∧ 0 ≤ lo ∧ 0 ≤ n ∧ lo + n ≤ len ∧ len ≤ cap ∧ v = .slice (if cap = lo.toNat then ao else ao.map (·.add (lo.toNat * esz))) n.toNat (cap - lo.toNat)

def Den1 (ρ : Ev) : SV1 → Value → Prop
  | .int k n, v => v = .int k (n ())
  | .li k n, v => v = .int k n
  | .sb b, v => v = .bool (b ())
  | .lb b, v => v = .bool b
  | .str l, v => v = .string ⟨((l ()).map fun x => x.toNat.toUInt8).toArray⟩
  | .v x, v => v = x
  | .nilS, v => v = .slice none 0 0
  | .nilP, v => v = .pointer none
  | .ptr i off, v => ∃ b, ρ.root i = .pointer (some ⟨b, 0, none⟩) ∧ v = .pointer (some ⟨b, off, none⟩)
  | .ro e L, v => ShowsM ρ.M e (L ()) v
  | .hd i ver, v => (∃ ao l c, v = .slice ao l c) ∧ ver ≤ ρ.ver i ∧ (ver = ρ.ver i → v = ρ.root i)
  | .vw i ver esz lo n, v => (∃ ao l c, v = .slice ao l c) ∧ (0 ≤ n () → ∃ ao c, v = .slice ao (n ()).toNat c) ∧ ver ≤ ρ.ver i ∧ (ver = ρ.ver i → VwAt (ρ.root i) esz (lo ()) (n ()) v)
  | .ep i ver esz k off, v => ∃ p, v = .pointer (some p) ∧ ver ≤ ρ.ver i ∧ (ver = ρ.ver i → 0 ≤ k () ∧ ∃ b o len cap, ρ.root i = .slice (some ⟨b, o, none⟩) len cap ∧ p = ⟨b, o + (k ()).toNat * esz + off, none⟩)
  | .rp e L k off, v => ∃ b o, v = .pointer (some ⟨b, o + off, none⟩) ∧ 0 ≤ k () ∧ k () < (L ()).length ∧ ∀ x, (L ())[(k ()).toNat]? = some x → CellsM ρ.M e x (fun i => ρ.M b (o + i))
  | .mp i, v => ∃ b, ρ.root i = .pointer (some ⟨b, 0, none⟩) ∧ v = .map (some b)
  | .nb neg C, v => ∃ b, v = .bool b ∧ (b = !neg → C ())
  | .ln n, v => ∃ ao c, v = .slice ao (n ()).toNat c
  | .fnc f l, v => ∃ vs, v = .func (.func f) #[] vs.toArray ∧ All2 (fun i u => ∃ b, ρ.root i = .pointer (some ⟨b, 0, none⟩) ∧ u = .pointer (some ⟨b, 0, none⟩)) l vs
  | .any, _ => True

def Den2 (ρ : Ev) : SV2 → Value → Prop
  | .one x, v => Den1 ρ x v
  | .agg l, v => ∃ vs, v = .agg vs.toArray ∧ All2 (Den1 ρ) l vs
  | .fn f caps, v => ∃ vs, v = .func (.func f) #[] vs.toArray ∧ All2 (Den1 ρ) caps vs

def Den (ρ : Ev) : SV → Value → Prop
  | .val x, v => Den2 ρ x v
  | .tup l, v => ∃ vs, v = .tuple vs.toArray ∧ All2 (Den2 ρ) l vs

/-- A row of bytes lies in a block of bytes. -/
def RowSh (t : TypeId) (e : Ty) (w : World) (b off cap : Nat) : Prop := e = .int .u8 → ∃ n, w.shape? b = some (t, n) ∧ off + cap ≤ n

/-- A row of elements that may be written to. -/
def RowAt (t : TypeId) (M : Mem) (w : World) (e : Ty) (L : List e.T) (r : Value) (F : List Nat) : Prop :=
  ((∃ ao, r = .slice ao 0 0) ∧ L = [] ∧ F = []) ∨
  ∃ b off cap, r = .slice (some ⟨b, off, none⟩) L.length cap ∧ F = [b] ∧ L.length ≤ cap ∧ cap ≤ maxLen ∧
    (∀ j x, L[j]? = some x → CellsM M e x (fun i => w.cell? ⟨b, off + j * e.size + i, none⟩)) ∧
    (∀ j, j < cap * e.size → (w.cell? ⟨b, off + j, none⟩).isSome = true ∧ w.frozen? ⟨b, off + j, none⟩ = false) ∧ RowSh t e w b off cap

/-- A slot that owns its row; the slot whose row is chunk j. -/
def SlotAt (tb : TypeId) (ρ : Ev) (w : World) (h : Option (Nat × Nat)) (n : Nat) (x : List Int) (c : Option Value) (F : List Nat) : Prop := match h with
  | none => ∃ v, c = some v ∧ RowAt tb ρ.M w (.int .i64) x v F
  | some (q, j) => (n = q → (∃ v, c = some v ∧ Den1 ρ (.hd j 0) v) ∧ F = []) ∧ (n ≠ q → ∃ v, c = some v ∧ RowAt tb ρ.M w (.int .i64) x v F)
/-- Rows that are owned by slots; b is the slots' own block. -/
def RowsAt (tb : TypeId) (ρ : Ev) (w : World) (L : List (List Int)) (h : Option (Nat × Nat)) (b : Nat) (F : List Nat) (hdr : Nat → Option Value) : Prop :=
  ∃ blk : Nat → List Nat, (∀ z, z ∈ F ↔ z = b ∨ ∃ n, n < L.length ∧ z ∈ blk n) ∧ (∀ n, n < L.length → b ∉ blk n) ∧ (∀ n m z, n < L.length → m < L.length → n ≠ m → z ∈ blk n → z ∉ blk m) ∧
    ∀ n x, L[n]? = some x → SlotAt tb ρ w h n x (hdr n) (blk n)
def holeN : Option (U Int × Nat) → Option (Nat × Nat)
  | none => none
  | some (k, j) => some ((k ()).toNat, j)
/-- A list whose slots own their rows. -/
def NestAt (tb : TypeId) (z : Nat) (ρ : Ev) (w : World) (L : List (List Int)) (h : Option (U Int × Nat)) (r : Value) (F : List Nat) : Prop :=
  ∃ b off n cap, r = .slice (some ⟨b, off, none⟩) n cap ∧ L.length = n * z ∧ n ≤ cap ∧ cap ≤ maxLen ∧ RowsAt tb ρ w L (holeN h) b F (fun m => w.cell? ⟨b, off + m, none⟩) ∧
    (∀ j, j < cap * z → (w.cell? ⟨b, off + j, none⟩).isSome = true ∧ w.frozen? ⟨b, off + j, none⟩ = false) ∧
    (∀ k j, h = some (k, j) → 0 ≤ k () ∧ k () < L.length)
/-- A map whose values own their rows. -/
def MnAt (tb : TypeId) (ρ : Ev) (w : World) (L : List (Int × List Int)) (h : Option (U Int × Nat)) (r : Value) (F : List Nat) : Prop :=
  ∃ b es clock, r = .pointer (some ⟨b, 0, none⟩) ∧ w.heap[b]? = some (.map es clock) ∧ All2 (fun p (m : MapEntry) => m.key = .int .i64 p.1) L es.toList ∧ (es.toList.map (·.born)).Pairwise (· < ·) ∧ (∀ m ∈ es.toList, m.born < clock) ∧
    match h with
    | none => RowsAt tb ρ w (L.map (·.2)) none b F (fun m => es[m]?.map (·.val))
    | some (k, j) => (∃ q x, L[q]? = some (k (), x) ∧ getA (K := Int) L (k ()) = some x ∧ (∀ y, putA (K := Int) L (k ()) y = L.set q (k (), y)) ∧ RowsAt tb ρ w (L.map (·.2)) (some (q, j)) b F (fun m => es[m]?.map (·.val))) ∨
        (getA (K := Int) L (k ()) = none ∧ (∀ y, putA (K := Int) L (k ()) y = L ++ [(k (), y)]) ∧ RowsAt tb ρ w (L.map (·.2)) none b F (fun m => es[m]?.map (·.val)))

def KT.mk : (k : KT) → k.T → Value
  | .int k, n => .int k n
  | .str, l => .string ⟨(l.map fun x => x.toNat.toUInt8).toArray⟩
  | .agg e, x => .agg (e.keyCs x).toArray

/-- The value of an element of form e. -/
def ValIs (M : Mem) (e : Ty) (x : e.T) (v : Value) : Prop :=
  ∃ vs : List Value, vs.length = e.size ∧ CellsM M e x (fun j => vs[j]?) ∧ match e.agg with | true => v = .agg vs.toArray | false => vs = [v]

/-- A key that stands for itself. -/
def KT.ok : (k : KT) → k.T → Prop
  | .int _, _ => True
  | .str, l => ∀ x ∈ l, 0 ≤ x ∧ x < 256
  | .agg e, x => e.keyF = true ∧ e.keyIn x

/-- The entries of a map. -/
def MapAt (M : Mem) (ks : KT) (e : Ty) (L : List (ks.T × e.T)) (es : List MapEntry) (clock : Nat) : Prop :=
  All2 (fun p (m : MapEntry) => m.key = ks.mk p.1 ∧ ks.ok p.1 ∧ ValIs M e p.2 m.val) L es ∧ (es.map (·.born)).Pairwise (· < ·) ∧ ∀ m ∈ es, m.born < clock

def EntAt (M : Mem) (ks : KT) (e : Ty) (p : ks.T × e.T) (m : MapEntry) : Prop := m.key = ks.mk p.1 ∧ ks.ok p.1 ∧ ValIs M e p.2 m.val
/-- Block b is a map that the iterator in block r ranges over. -/
def RmapAt (M : Mem) (w : World) (ks : KT) (e : Ty) (L R : List (ks.T × e.T)) (c : Option (U (ks.T × e.T))) (b r : Nat) : Prop :=
  b ≠ r ∧ ∃ es clock since seen, w.heap[b]? = some (.map es clock) ∧ w.heap[r]? = some (.mapIter (some b) since seen clock) ∧ MapAt M ks e L es.toList clock ∧ (∀ m ∈ es.toList, m.born < since) ∧ since ≤ clock ∧
    All2 (EntAt M ks e) R (leftOf es seen).toList ∧ ∀ p, c = some p → ∃ m seen', m ∈ es.toList ∧ seen = Array.push seen' m.born ∧ EntAt M ks e (p ()) m

/-- A variable of the program that stays as it is: its block, and what is known of it. -/
structure TabQ where
  tb : Option Nat
  ok : World → Prop
  stay : ∀ {w w' : World}, (∀ g, tb = some g → w'.heap[g]? = w.heap[g]?) → ok w → ok w'
def TabQ.none : TabQ := ⟨.none, fun _ => True, fun _ _ => trivial⟩
/-- It holds at the start of a call that owns these blocks. -/
def TabQ.T (q : TabQ) (w : World) (own : Nat → Prop) : Prop := q.ok w ∧ ∀ g, q.tb = some g → g < w.heap.size ∧ ¬ own g
theorem TabQ.T_none (w : World) (own : Nat → Prop) : TabQ.none.T w own := ⟨trivial, fun g h => by cases h⟩
/-- What stands for the abstract objects. -/
structure Abs (A : Type) where
  tq : TabQ
  I : A → Mem → Value → List Nat → World → Prop
  root : ∀ {a M r F w}, I a M r F w → ∃ b, r = .pointer (some ⟨b, 0, none⟩)
  stays : ∀ {a M M' r F w w'}, I a M r F w → (∀ b o v, M b o = some v → M' b o = some v) → (∀ b ∈ F, w'.heap[b]? = w.heap[b]?) → I a M' r F w'

def HoldsC {A : Type} (AI : Abs A) (ρ : Ev) (w : World) (i : Nat) : Chunk A → Prop
  | .emp => ρ.foot i = [] ∧ ρ.root i = .bool false ∧ ρ.ver i = 0
  | .gone => True
  | .cells t cs => ∃ b vs, ρ.root i = .pointer (some ⟨b, 0, none⟩) ∧ ρ.foot i = [b] ∧ w.heap[b]? = some (.cells vs.toArray t (0, 0)) ∧ All2 (Den1 ρ) cs vs
  | .row t e ver L => ver = ρ.ver i ∧ RowAt t ρ.M w e (L ()) (ρ.root i) (ρ.foot i)
  | .map ks e L => ∃ b es clock, ρ.root i = .pointer (some ⟨b, 0, none⟩) ∧ ρ.foot i = [b] ∧ w.heap[b]? = some (.map es clock) ∧ MapAt ρ.M ks e (L ()) es.toList clock
  | .rmap ks e L R c j => ∃ b r, ρ.root i = .pointer (some ⟨b, 0, none⟩) ∧ ρ.root j = .pointer (some ⟨r, 0, none⟩) ∧ ρ.foot i = [b, r] ∧ RmapAt ρ.M w ks e (L ()) (R ()) c b r
  | .itp _ => ρ.foot i = [] ∧ ∃ r, ρ.root i = .pointer (some ⟨r, 0, none⟩)
  | .nest _ tb z ver L h => ver = ρ.ver i ∧ NestAt tb z ρ w (L ()) h (ρ.root i) (ρ.foot i)
  | .mnest tb L h => MnAt tb ρ w (L ()) h (ρ.root i) (ρ.foot i)
  | .abs a => AI.I a ρ.M (ρ.root i) (ρ.foot i) w

/-- The frame of a call: the world at its start, the blocks that it owns, the first chunks' pointers, the memory that stays. -/
structure Fr where
  w0 : World
  own : Nat → Prop
  n0 : Nat
  root0 : Nat → Value
  M0 : Mem
  size : Nat
  ver0 : Nat → Nat := fun _ => 0

structure Holds {A : Type} (AI : Abs A) (G : Fr) (s : SS A) (ρ : Ev) (tmps : Array Value) (w : World) : Prop where
  sz : tmps.size = G.size
  gt : AI.tq.T G.w0 G.own
  tm : ∀ t v, look s.tm t = some v → ∃ u, tmps[t]? = some u ∧ Den ρ v u
  ch : ∀ i, HoldsC AI ρ w i (getC s.H i)
  dis : ∀ i j b, i ≠ j → b ∈ ρ.foot i → b ∉ ρ.foot j
  lt : ∀ i b, b ∈ ρ.foot i → b < w.heap.size
  im : ∀ b o v, ρ.M b o = some v → w.cell? ⟨b, o, none⟩ = some v ∧ ∀ i, b ∉ ρ.foot i
  os : w.os = G.w0.os
  tape : w.tape = G.w0.tape
  output : w.output = G.w0.output
  grow : G.w0.heap.size ≤ w.heap.size
  kept : ∀ b, b < G.w0.heap.size → ¬ G.own b → w.heap[b]? = G.w0.heap[b]?
  fro : ∀ i b, b ∈ ρ.foot i → G.own b ∨ G.w0.heap.size ≤ b
  rt : ∀ i b, i < G.n0 → G.root0 i = .pointer (some ⟨b, 0, none⟩) → ρ.root i = .pointer (some ⟨b, 0, none⟩)
  rts : ∀ i, i < G.n0 → G.ver0 i ≤ ρ.ver i ∧ ∀ ao l c, G.root0 i = .slice ao l c → ρ.ver i = G.ver0 i → ρ.root i = .slice ao l c
  mono : ∀ b o v, G.M0 b o = some v → ρ.M b o = some v
  mfr : ∀ b o v, ρ.M b o = some v → G.M0 b o = some v ∨ G.own b ∨ G.w0.heap.size ≤ b

/-- The variable is known at a callee's start. -/
theorem Holds.gtOf {A : Type} {AI : Abs A} {G : Fr} {s : SS A} {ρ : Ev} {tmps : Array Value} {w : World} (h : Holds AI G s ρ tmps w) {own : Nat → Prop} (ho : ∀ b, own b → ∃ i, b ∈ ρ.foot i) : AI.tq.T w own :=
  ⟨AI.tq.stay (fun g hg => h.kept g (h.gt.2 g hg).1 (h.gt.2 g hg).2) h.gt.1, fun g hg => ⟨Nat.lt_of_lt_of_le (h.gt.2 g hg).1 h.grow, fun hown => by
    obtain ⟨i, hi⟩ := ho g hown
    rcases h.fro i g hi with h1 | h1
    · exact (h.gt.2 g hg).2 h1
    · exact absurd (h.gt.2 g hg).1 (Nat.not_lt.2 h1)⟩⟩
def Sat {A : Type} (AI : Abs A) (G : Fr) (s : SS A) (a : Act) (w : World) : Prop := a.defers = [] ∧ ∃ ρ, Holds AI G s ρ a.tmps w

end Go.Sx

/-
  Symbolic execution: types; reading and spelling elements; the operations that leave the world alone.
-/
namespace Go.Sx
set_option linter.all false
open Go.RowKit

theorem dec_length : ∀ (e : Ty) (x : U e.T), (dec e x).length = e.size
  | .int _, _ => rfl
  | .bool, _ => rfl
  | .bytes, _ => rfl
  | .str, _ => rfl
  | .unit, _ => rfl
  | .pair a b, x => by simp [dec, Ty.size, dec_length a, dec_length b]
  | .lst _, _ => rfl

theorem CellsM.dec {ρ : Ev} : ∀ (e : Ty) (x : U e.T) (c : Nat → Option Value), CellsM ρ.M e (x ()) c → ∃ vs, All2 (Den1 ρ) (dec e x) vs ∧ ∀ (j : Nat) v, vs[j]? = some v → c j = some v
  | .int k, x, c, h => ⟨[.int k (x ())], .cons rfl .nil, fun j v hj => by cases j <;> simp at hj; subst hj; exact h⟩
  | .bool, x, c, h => ⟨[.bool (x ())], .cons rfl .nil, fun j v hj => by cases j <;> simp at hj; subst hj; exact h⟩
  | .bytes, x, c, h => by
    obtain ⟨v, h1, h2⟩ := h
    exact ⟨[v], .cons (showsB_iff.1 h2) .nil, fun j u hj => by cases j <;> simp at hj; subst hj; exact h1⟩
  | .str, x, c, h => ⟨[.string ⟨((x ()).map fun (y : Int) => y.toNat.toUInt8).toArray⟩], .cons (a := SV1.str x) (show Den1 ρ (SV1.str x) _ by simp [Den1]) .nil, fun j v hj => by cases j <;> simp at hj; subst hj; exact h⟩
  | .unit, x, c, h => ⟨[], .nil, by simp⟩
  | .lst e, x, c, h => by
    obtain ⟨v, h1, h2⟩ := cellsM_lst.1 h
    exact ⟨[v], .cons (a := SV1.ro e x) h2 .nil, fun j u hj => by cases j <;> simp at hj; subst hj; exact h1⟩
  | .pair a b, x, c, h => by
    obtain ⟨vs, h1, h2⟩ := CellsM.dec a (fun _ => (x ()).1) c h.1
    obtain ⟨us, h3, h4⟩ := CellsM.dec b (fun _ => (x ()).2) _ h.2
    refine ⟨vs ++ us, h1.append h3, fun j v hj => ?_⟩
    have hl : vs.length = a.size := by rw [← h1.length, dec_length]
    by_cases hjl : j < vs.length
    · rw [List.getElem?_append_left hjl] at hj; exact h2 j v hj
    · rw [List.getElem?_append_right (by omega)] at hj
      have := h4 _ _ hj
      simpa [show a.size + (j - vs.length) = j by omega] using this

theorem CellsM.congr {M : Mem} : ∀ (e : Ty) {x : e.T} {c c' : Nat → Option Value}, CellsM M e x c → (∀ j v, j < e.size → c j = some v → c' j = some v) → CellsM M e x c'
  | .int k, _, _, _, h, hc => hc 0 _ (by simp [Ty.size]) h
  | .bool, _, _, _, h, hc => hc 0 _ (by simp [Ty.size]) h
  | .bytes, _, _, _, h, hc => by obtain ⟨v, h1, h2⟩ := h; exact ⟨v, hc 0 _ (by simp [Ty.size]) h1, h2⟩
  | .str, _, _, _, h, hc => hc 0 _ (by simp [Ty.size]) h
  | .unit, _, _, _, _, _ => trivial
  | .lst e, _, _, _, h, hc => by obtain ⟨v, h1, h2⟩ := cellsM_lst.1 h; exact cellsM_lst.2 ⟨v, hc 0 _ (by simp [Ty.size]) h1, h2⟩
  | .pair a b, _, _, _, h, hc => ⟨CellsM.congr a h.1 fun j v hj => hc j v (by simp [Ty.size]; omega), CellsM.congr b h.2 fun j v hj => hc (a.size + j) v (by simp [Ty.size]; omega)⟩

theorem ShowsM.mono {M M' : Mem} {e : Ty} {L : List e.T} {v : Value} (h : ShowsM M e L v) (hc : ∀ x c, CellsM M e x c → CellsM M' e x c) (hm : ∀ b o v, M b o = some v → M' b o = some v) : ShowsM M' e L v := by
  obtain ⟨ao, cap, h1, h2, h3⟩ := h
  refine ⟨ao, cap, h1, h2, fun hp => ?_⟩
  obtain ⟨b, off, h4, h5⟩ := h3 hp
  exact ⟨b, off, h4, fun j x hj => CellsM.congr e (hc _ _ (h5 j x hj)) fun _ _ _ h => hm _ _ _ h⟩
theorem CellsM.mono {M M' : Mem} (hm : ∀ b o v, M b o = some v → M' b o = some v) : ∀ (e : Ty) {x : e.T} {c : Nat → Option Value}, CellsM M e x c → CellsM M' e x c
  | .int _, _, _, h => h
  | .bool, _, _, h => h
  | .bytes, _, _, h => by obtain ⟨v, h1, h2⟩ := h; exact ⟨v, h1, showsB_iff.2 ((showsB_iff.1 h2).mono (fun _ _ h => h) hm)⟩
  | .str, _, _, h => h
  | .unit, _, _, _ => trivial
  | .lst e, _, _, h => by obtain ⟨v, h1, h2⟩ := cellsM_lst.1 h; exact cellsM_lst.2 ⟨v, h1, h2.mono (fun _ _ h => CellsM.mono hm e h) hm⟩
  | .pair a b, _, _, h => ⟨CellsM.mono hm a h.1, CellsM.mono hm b h.2⟩
theorem ShowsM.monoM {M M' : Mem} (hm : ∀ b o v, M b o = some v → M' b o = some v) {e : Ty} {L : List e.T} {v : Value} (h : ShowsM M e L v) : ShowsM M' e L v := h.mono (fun _ _ h => CellsM.mono hm e h) hm

theorem castT_id : ∀ {e e' : Ty} {f : e.T → e'.T}, castL.castT e e' = some f → ∃ h : e = e', ∀ x, f x = h ▸ x
  | .int k, e', f, h => by
    cases e' <;> (try (simp [castL.castT] at h; done))
    rename_i k'
    simp only [castL.castT] at h
    split at h <;> simp at h
    rename_i hk
    simp at hk
    subst hk; subst h
    exact ⟨rfl, fun _ => rfl⟩
  | .bool, e', f, h => by cases e' <;> (try (simp [castL.castT] at h; done)); simp [castL.castT] at h; subst h; exact ⟨rfl, fun _ => rfl⟩
  | .bytes, e', f, h => by cases e' <;> (try (simp [castL.castT] at h; done)); simp [castL.castT] at h; subst h; exact ⟨rfl, fun _ => rfl⟩
  | .str, e', f, h => by cases e' <;> (try (simp [castL.castT] at h; done)); simp [castL.castT] at h; subst h; exact ⟨rfl, fun _ => rfl⟩
  | .unit, e', f, h => by cases e' <;> (try (simp [castL.castT] at h; done)); exact ⟨rfl, fun _ => rfl⟩
  | .lst a, e', f, h => by
    cases e' <;> (try (simp [castL.castT] at h; done))
    simp only [castL.castT] at h
    split at h <;> simp at h
    rename_i f1 h1
    obtain ⟨rfl, h3⟩ := castT_id h1
    subst h
    refine ⟨rfl, fun x => ?_⟩
    show List.map f1 x = x
    rw [show f1 = id from funext h3, List.map_id]
  | .pair a b, e', f, h => by
    cases e' <;> (try (simp [castL.castT] at h; done))
    simp only [castL.castT] at h
    split at h
    · rename_i f1 h1
      split at h
      · rename_i g1 h2
        obtain ⟨rfl, h3⟩ := castT_id h1
        obtain ⟨rfl, h4⟩ := castT_id h2
        simp at h
        subst h
        exact ⟨rfl, fun x => by simp [h3, h4]⟩
      · cases h
    · cases h
theorem castL_id {e e' : Ty} {f : List e.T → List e'.T} (h : castL e e' = some f) : ∃ h : e = e', ∀ x, f x = h ▸ x := by
  cases e
  case pair a b =>
    cases e' <;> (try (simp [castL] at h; done))
    simp only [castL] at h
    split at h
    · rename_i f1 h1
      split at h
      · rename_i g1 h2
        obtain ⟨rfl, h3⟩ := castT_id h1
        obtain ⟨rfl, h4⟩ := castT_id h2
        simp at h
        subst h
        exact ⟨rfl, fun x => by simp [h3, h4]⟩
      · cases h
    · cases h
  case int k =>
    cases e' <;> (try (simp [castL] at h; done))
    simp only [castL] at h
    split at h <;> simp at h
    rename_i hk
    simp at hk
    subst hk; subst h
    exact ⟨rfl, fun _ => rfl⟩
  case lst a =>
    cases e' <;> (try (simp [castL] at h; done))
    simp only [castL] at h
    split at h
    · rename_i f1 h1
      obtain ⟨rfl, h3⟩ := castT_id h1
      simp at h
      subst h
      refine ⟨rfl, fun x => ?_⟩
      show List.map (fun y => List.map f1 y) x = x
      have e : (fun y => List.map f1 y) = id := by
        funext y
        rw [show f1 = id from funext h3, List.map_id]; rfl
      rw [e, List.map_id]
    · cases h
  all_goals (cases e' <;> (try (simp [castL] at h; done)); simp [castL] at h; subst h; exact ⟨rfl, fun _ => rfl⟩)

theorem CellsM.enc {ρ : Ev} : ∀ (e : Ty) {l : List SV1} {y : U e.T} {r : List SV1} {vs : List Value}, enc e l = some (y, r) → All2 (Den1 ρ) l vs →
    ∃ v1 v2, vs = v1 ++ v2 ∧ v1.length = e.size ∧ CellsM ρ.M e (y ()) (fun j => v1[j]?) ∧ All2 (Den1 ρ) r v2
  | .int k, l, y, r, vs, h, hv => by
    cases hv with
    | nil => simp [Sx.enc] at h
    | @cons a u l vs ha hl =>
      cases a <;> simp only [Sx.enc, reduceCtorEq] at h <;> (split at h <;> simp at h; obtain ⟨rfl, rfl⟩ := h; rename_i hk; simp at hk; subst hk; exact ⟨[u], vs, rfl, rfl, by simpa [CellsM, Den1] using ha, hl⟩)
  | .bool, l, y, r, vs, h, hv => by
    cases hv with
    | nil => simp [Sx.enc] at h
    | @cons a u l vs ha hl =>
      cases a <;> simp only [Sx.enc, reduceCtorEq] at h <;> (simp at h; obtain ⟨rfl, rfl⟩ := h; exact ⟨[u], vs, rfl, rfl, by simpa [CellsM, Den1] using ha, hl⟩)
  | .bytes, l, y, r, vs, h, hv => by
    cases hv with
    | nil => simp [Sx.enc] at h
    | @cons a u l vs ha hl =>
      cases a
      case nilS => simp [Sx.enc] at h; obtain ⟨rfl, rfl⟩ := h; exact ⟨[u], vs, rfl, rfl, ⟨u, rfl, none, 0, by simpa [Den1] using ha, by simp, by simp⟩, hl⟩
      case ro e L =>
        cases e
        case int k =>
          cases k <;> simp [Sx.enc] at h
          obtain ⟨rfl, rfl⟩ := h
          exact ⟨[u], vs, rfl, rfl, ⟨u, rfl, showsB_iff.2 ha⟩, hl⟩
        all_goals simp [Sx.enc] at h
      all_goals simp [Sx.enc] at h
  | .str, l, y, r, vs, h, hv => by
    cases hv with
    | nil => simp [Sx.enc] at h
    | @cons a u l vs ha hl =>
      cases a <;> simp only [Sx.enc, reduceCtorEq] at h <;> (simp at h; obtain ⟨rfl, rfl⟩ := h; exact ⟨[u], vs, rfl, rfl, by simpa [CellsM, Den1] using ha, hl⟩)
  | .lst e, l, y, r, vs, h, hv => by
    cases hv with
    | nil => simp [Sx.enc] at h
    | @cons a u l vs ha hl =>
      simp only [Sx.enc] at h
      split at h <;> simp at h
      rename_i q hq
      obtain ⟨rfl, rfl⟩ := h
      refine ⟨[u], vs, rfl, rfl, cellsM_lst.2 ⟨u, rfl, ?_⟩, hl⟩
      unfold lstOf at hq
      split at hq
      · split at hq <;> cases hq
        rename_i f hf
        obtain ⟨rfl, h1⟩ := castL_id hf
        dsimp only
        rw [h1]; exact ha
      · cases hq
        exact ⟨none, 0, by simpa [Den1] using ha, by simp, by simp⟩
      · cases hq
  | .unit, l, y, r, vs, h, hv => by simp [Sx.enc] at h; obtain ⟨rfl, rfl⟩ := h; exact ⟨[], vs, rfl, rfl, trivial, hv⟩
  | .pair a b, l, y, r, vs, h, hv => by
    simp only [Sx.enc] at h
    split at h
    · rename_i x r1 hx
      split at h
      · rename_i y1 r2 hy
        simp at h
        obtain ⟨rfl, rfl⟩ := h
        obtain ⟨v1, v2, rfl, l1, c1, d1⟩ := CellsM.enc a hx hv
        obtain ⟨v3, v4, rfl, l2, c2, d2⟩ := CellsM.enc b hy d1
        refine ⟨v1 ++ v3, v4, by simp, by simp [Ty.size, l1, l2], ⟨CellsM.congr a c1 fun j v hj h => ?_, CellsM.congr b c2 fun j v hj h => ?_⟩, d2⟩
        · simp only [List.getElem?_append_left (show j < v1.length by omega)]; exact h
        · simp only [List.getElem?_append_right (show v1.length ≤ a.size + j by omega), show a.size + j - v1.length = j by omega]; exact h
      · cases h
    · cases h

/-! ### types -/
def ZeroOk (T : Ty) (z : Value) : Prop := z.cells.size = T.size ∧ ∀ M, CellsM M T T.dflt (fun j => z.cells.toList[j]?)

/-- Keys of several cells: they are compared as values are, may be keys, and stay. -/
def AggKey (P : Program) (k : TypeId) (e : Ty) : Prop :=
  (match P.underlying k with | some (.array _ _) | some (.struct _) => true | _ => false) = true ∧
  (∀ x y : e.T, e.keyIn x → e.keyIn y → ∀ w, (Op.equal k (.agg (e.keyCs x).toArray) (.agg (e.keyCs y).toArray)).run P w = .ok (@decide (x = y) (e.dec x y)) w) ∧
  (∀ x : e.T, e.keyIn x → ∀ em w, (Instr.checkKey em 10000 k (.agg (e.keyCs x).toArray)).run P w = .ok () w) ∧
  ∀ x : e.T, e.keyIn x → ∀ w, (Instr.keyThatStays (.agg (e.keyCs x).toArray) (.agg (e.keyCs x).toArray)).run P w = .ok (.agg (e.keyCs x).toArray) w
def KeyOk (P : Program) (k : TypeId) : KT → Prop
  | .int kk => P.underlying k = some (.int kk)
  | .str => P.underlying k = some .string
  | .agg e => AggKey P k e

def KindOk (P : Program) (t : TypeId) : TK → Prop
  | .int k => P.underlying t = some (.int k)
  | .bool => P.underlying t = some .bool
  | .str => P.underlying t = some .string
  | .struct offs => ∃ fs : Array Field, P.underlying t = some (.struct fs) ∧ All2 (fun (p : Nat × Nat) (f : Field) => f.offset = p.1 ∧ ∃ g, P.info? f.type = some g ∧ g.size = p.2) offs fs.toList
  | .slice e ty => P.underlying t = some (.slice e) ∧ ∃ g, P.info? e = some g ∧ ∀ T, ty = some T → g.size = T.size ∧ 0 < g.size ∧ g.bytes ≤ 128 ∧ (∀ k, T = .int k → P.underlying e = some (.int k)) ∧ ∃ z, g.zero = some z ∧ ZeroOk T z
  | .array n e => P.underlying t = some (.array n e) ∧ ∃ g, P.info? e = some g
  | .ptr e => P.underlying t = some (.pointer e)
  | .map k e ty => P.underlying t = some (.map k e) ∧ ∀ ks T, ty = some (ks, T) → KeyOk P k ks ∧ ∃ g z, P.info? e = some g ∧ g.zero = some z ∧ ∀ M, ValIs M T T.dflt z
  | .other => ∃ d, P.underlying t = some d ∧ ∀ x, d ≠ .struct x ∧ ∀ n e, d ≠ .array n e

/-- Values of this type, all of whose cells are integers, are compared cell by cell. -/
def eqVs : List Value → List Value → Bool
  | .int _ a :: l, .int _ b :: m => a == b && eqVs l m
  | [], [] => true
  | _, _ => false
def EqOk (P : Program) (t : TypeId) (n : Nat) : Prop := P.eqGuardType P.depth t = false ∧
  ∀ (w : World) (vs us : List Value), vs.length = n → All2 (fun v u => ∃ k a b, v = .int k a ∧ u = .int k b) vs us → (Op.equalIn 10000 t (.agg vs.toArray) (.agg us.toArray)).run P w = .ok (eqVs vs us) w
structure TIfact (P : Program) (t : TypeId) (i : TI) : Prop where
  info : ∃ f, P.info? t = some f ∧ f.size = i.size ∧ ∃ z, f.zero = some z ∧ i.zero = z.cells.toList.map ofLit1
  kind : KindOk P t i.kind
  eq : i.bytes = 1 → EqOk P t i.size

def TIok (P : Program) (ti : List (Nat × TI)) : Prop := ∀ t i, look ti t = some i → TIfact P t i

theorem TIfact.isAgg {P : Program} {t : TypeId} {i : TI} (h : TIfact P t i) (w : World) : (Go.isAgg t).run P w = .ok i.isAgg w := by
  have hk := h.kind
  unfold Go.isAgg TI.isAgg
  cases hi : i.kind <;> rw [hi] at hk <;> simp only [KindOk] at hk
  case struct => obtain ⟨fs, h1, _⟩ := hk; simp [run_underlying h1]
  case slice => simp [run_underlying hk.1]
  case map => simp [run_underlying hk.1]
  case array => simp [run_underlying hk.1]
  case other => obtain ⟨d, h1, h2⟩ := hk; have := h2 #[]; cases d <;> simp_all [run_underlying h1]
  all_goals simp [run_underlying hk]

theorem TIfact.sizeOf {P : Program} {t : TypeId} {i : TI} (h : TIfact P t i) (w : World) : (Go.sizeOf t).run P w = .ok i.size w := by
  obtain ⟨f, h1, h2, _⟩ := h.info
  simp [Go.sizeOf, typeInfo, h1, h2]

end Go.Sx

/-
  Symbolic execution: what stays when the world takes a step.
-/
namespace Go.Sx
set_option linter.all false
open Go.RowKit

structure Ev.Le (ρ ρ' : Ev) : Prop where
  M : ∀ b o v, ρ.M b o = some v → ρ'.M b o = some v
  ptr : ∀ i b, ρ.root i = .pointer (some ⟨b, 0, none⟩) → ρ'.root i = .pointer (some ⟨b, 0, none⟩)
  ver : ∀ i, ρ.ver i ≤ ρ'.ver i
  same : ∀ i, ρ.ver i = ρ'.ver i → (∃ ao l c, ρ.root i = .slice ao l c) → ρ'.root i = ρ.root i

theorem Ev.Le.refl (ρ : Ev) : Ev.Le ρ ρ := ⟨fun _ _ _ h => h, fun _ _ h => h, fun _ => Nat.le_refl _, fun _ _ _ => rfl⟩

theorem Den1.mono {ρ ρ' : Ev} (le : ρ.Le ρ') {x : SV1} {v : Value} (h : Den1 ρ x v) : Den1 ρ' x v := by
  cases x <;> simp only [Den1] at h ⊢ <;> try exact h
  case ptr i off => obtain ⟨b, h1, h2⟩ := h; exact ⟨b, le.ptr i b h1, h2⟩
  case mp i => obtain ⟨b, h1, h2⟩ := h; exact ⟨b, le.ptr i b h1, h2⟩
  case fnc f l => obtain ⟨vs, h1, h2⟩ := h; exact ⟨vs, h1, h2.mono fun i u ⟨b, h3, h4⟩ => ⟨b, le.ptr i b h3, h4⟩⟩
  case ro e L => exact h.monoM le.M
  case hd i ver =>
    obtain ⟨h1, h2, h3⟩ := h
    refine ⟨h1, Nat.le_trans h2 (le.ver i), fun e => ?_⟩
    have e1 : ρ.ver i = ρ'.ver i := Nat.le_antisymm (le.ver i) (e ▸ h2)
    have e2 := h3 (by omega)
    rw [e2, le.same i e1 (by rw [← e2]; exact h1)]
  case vw i ver esz lo n =>
    obtain ⟨h1, h0, h2, h3⟩ := h
    refine ⟨h1, h0, Nat.le_trans h2 (le.ver i), fun e => ?_⟩
    have e1 : ρ.ver i = ρ'.ver i := Nat.le_antisymm (le.ver i) (e ▸ h2)
    have e2 := h3 (by omega)
    obtain ⟨ao, len, cap, e3, _⟩ := id e2
    rw [le.same i e1 ⟨_, _, _, e3⟩]; exact e2
  case ep i ver esz k off =>
    obtain ⟨p, h1, h2, h3⟩ := h
    refine ⟨p, h1, Nat.le_trans h2 (le.ver i), fun e => ?_⟩
    have e1 : ρ.ver i = ρ'.ver i := Nat.le_antisymm (le.ver i) (e ▸ h2)
    obtain ⟨h4, b, o, len, cap, e3, e4⟩ := h3 (by omega)
    exact ⟨h4, b, o, len, cap, by rw [le.same i e1 ⟨_, _, _, e3⟩]; exact e3, e4⟩
  case rp e L k off =>
    obtain ⟨b, o, h1, h2, h3, h4⟩ := h
    exact ⟨b, o, h1, h2, h3, fun x hx => CellsM.congr e (CellsM.mono le.M e (h4 x hx)) fun _ _ _ h => le.M _ _ _ h⟩
theorem Den2.mono {ρ ρ' : Ev} (le : ρ.Le ρ') {x : SV2} {v : Value} (h : Den2 ρ x v) : Den2 ρ' x v := by
  cases x with
  | one x => exact Den1.mono le h
  | agg l => obtain ⟨vs, h1, h2⟩ := h; exact ⟨vs, h1, h2.mono fun _ _ => Den1.mono le⟩
  | fn f l => obtain ⟨vs, h1, h2⟩ := h; exact ⟨vs, h1, h2.mono fun _ _ => Den1.mono le⟩
theorem Den.mono {ρ ρ' : Ev} (le : ρ.Le ρ') {x : SV} {v : Value} (h : Den ρ x v) : Den ρ' x v := by
  cases x with
  | val x => exact Den2.mono le h
  | tup l => obtain ⟨vs, h1, h2⟩ := h; exact ⟨vs, h1, h2.mono fun _ _ => Den2.mono le⟩

theorem cell_congr {w w' : World} {b : Nat} (h : w'.heap[b]? = w.heap[b]?) (o : Nat) : w'.cell? ⟨b, o, none⟩ = w.cell? ⟨b, o, none⟩ := World.cell?_of_block (w := w) h
theorem frozen_congr {w w' : World} {b : Nat} (h : w'.heap[b]? = w.heap[b]?) (o : Nat) : w'.frozen? ⟨b, o, none⟩ = w.frozen? ⟨b, o, none⟩ := World.frozen?_of_block (w := w) h

theorem shape_congr {w w' : World} {b : Nat} (h : w'.heap[b]? = w.heap[b]?) : w'.shape? b = w.shape? b := by simp [World.shape?, h]
theorem RowSh.stays {t : TypeId} {e : Ty} {w w' : World} {b off cap : Nat} (h : RowSh t e w b off cap) (hb : w'.shape? b = w.shape? b) : RowSh t e w' b off cap := fun he => by
  obtain ⟨n, h1, h2⟩ := h he; exact ⟨n, hb.trans h1, h2⟩
theorem RowAt.stays {t : TypeId} {M M' : Mem} {w w' : World} {e : Ty} {L : List e.T} {r : Value} {F : List Nat} (h : RowAt t M w e L r F) (hm : ∀ b o v, M b o = some v → M' b o = some v) (hb : ∀ b ∈ F, w'.heap[b]? = w.heap[b]?) : RowAt t M' w' e L r F := by
  rcases h with h | ⟨b, off, cap, rfl, rfl, h1, h2, h3, h4, h5⟩
  · exact .inl h
  · have e := hb b (by simp)
    refine .inr ⟨b, off, cap, rfl, rfl, h1, h2, fun j x hj => ?_, fun j hj => ?_, h5.stays (shape_congr e)⟩
    · have := CellsM.mono hm _ (h3 j x hj)
      simpa only [cell_congr e] using this
    · rw [cell_congr e, frozen_congr e]; exact h4 j hj

theorem ValIs.mono {M M' : Mem} (hm : ∀ b o v, M b o = some v → M' b o = some v) {e : Ty} {x : e.T} {v : Value} (h : ValIs M e x v) : ValIs M' e x v := by
  obtain ⟨vs, h1, h2, h3⟩ := h; exact ⟨vs, h1, CellsM.mono hm e h2, h3⟩
theorem MapAt.mono {M M' : Mem} (hm : ∀ b o v, M b o = some v → M' b o = some v) {ks : KT} {e : Ty} {L : List (ks.T × e.T)} {es : List MapEntry} {clock : Nat} (h : MapAt M ks e L es clock) : MapAt M' ks e L es clock :=
  ⟨h.1.mono fun _ _ h => ⟨h.1, h.2.1, h.2.2.mono hm⟩, h.2⟩

theorem EntAt.mono {M M' : Mem} (hm : ∀ b o v, M b o = some v → M' b o = some v) {ks : KT} {e : Ty} {p : ks.T × e.T} {m : MapEntry} (h : EntAt M ks e p m) : EntAt M' ks e p m := ⟨h.1, h.2.1, h.2.2.mono hm⟩
theorem RmapAt.mono {M M' : Mem} (hm : ∀ b o v, M b o = some v → M' b o = some v) {w w' : World} {ks : KT} {e : Ty} {L R : List (ks.T × e.T)} {c : Option (U (ks.T × e.T))} {b r : Nat} (h : RmapAt M w ks e L R c b r) (h1 : w'.heap[b]? = w.heap[b]?) (h2 : w'.heap[r]? = w.heap[r]?) : RmapAt M' w' ks e L R c b r := by
  obtain ⟨h0, es, clock, since, seen, a1, a2, a3, a4, a5, a6, a7⟩ := h
  refine ⟨h0, es, clock, since, seen, h1.trans a1, h2.trans a2, a3.mono hm, a4, a5, a6.mono fun _ _ h => h.mono hm, fun p hp => ?_⟩
  obtain ⟨m, seen', b1, b2, b3⟩ := a7 p hp
  exact ⟨m, seen', b1, b2, b3.mono hm⟩

theorem SlotAt.congr {tb : TypeId} {ρ ρ' : Ev} {w w' : World} {h : Option (Nat × Nat)} {n : Nat} {x : List Int} {c : Option Value} {F : List Nat} (hs : SlotAt tb ρ w h n x c F) (hm : ∀ b o v, ρ.M b o = some v → ρ'.M b o = some v) (hd : ∀ q j, h = some (q, j) → ∀ v, Den1 ρ (.hd j 0) v → Den1 ρ' (.hd j 0) v) (hb : ∀ b ∈ F, w'.heap[b]? = w.heap[b]?) : SlotAt tb ρ' w' h n x c F := by
  cases h with
  | none => obtain ⟨v, h1, h2⟩ := hs; exact ⟨v, h1, h2.stays hm hb⟩
  | some q =>
    obtain ⟨k, j⟩ := q
    refine ⟨fun e => ?_, fun e => ?_⟩
    · obtain ⟨⟨v, h3, h4⟩, h5⟩ := hs.1 e; exact ⟨⟨v, h3, hd k j rfl v h4⟩, h5⟩
    · obtain ⟨v, h1, h2⟩ := hs.2 e; exact ⟨v, h1, h2.stays hm hb⟩
theorem RowsAt.congr {tb : TypeId} {ρ ρ' : Ev} {w w' : World} {L : List (List Int)} {h : Option (Nat × Nat)} {b : Nat} {F : List Nat} {hdr hdr' : Nat → Option Value} (hs : RowsAt tb ρ w L h b F hdr) (hm : ∀ b o v, ρ.M b o = some v → ρ'.M b o = some v)
    (hd : ∀ q j, h = some (q, j) → ∀ v, Den1 ρ (.hd j 0) v → Den1 ρ' (.hd j 0) v) (hh : ∀ n, n < L.length → hdr' n = hdr n) (hb : ∀ z ∈ F, z ≠ b → w'.heap[z]? = w.heap[z]?) : RowsAt tb ρ' w' L h b F hdr' := by
  obtain ⟨blk, h4, h5, h6, h7⟩ := hs
  refine ⟨blk, h4, h5, h6, fun n x hn => ?_⟩
  have hlt := (List.getElem?_eq_some_iff.1 hn).1
  rw [hh n hlt]
  exact (h7 n x hn).congr hm hd fun z hz => hb z ((h4 z).2 (.inr ⟨n, hlt, hz⟩)) fun e => h5 n hlt (e ▸ hz)
theorem RowsAt.own {tb : TypeId} {ρ : Ev} {w : World} {L : List (List Int)} {h : Option (Nat × Nat)} {b : Nat} {F : List Nat} {hdr : Nat → Option Value} (hs : RowsAt tb ρ w L h b F hdr) : b ∈ F := by
  obtain ⟨blk, h4, _⟩ := hs; exact (h4 b).2 (.inl rfl)
theorem NestAt.stays {tb : TypeId} {z : Nat} {ρ ρ' : Ev} {w w' : World} {L : List (List Int)} {h : Option (U Int × Nat)} {r : Value} {F : List Nat} (hs : NestAt tb z ρ w L h r F) (le : ρ.Le ρ') (hb : ∀ b ∈ F, w'.heap[b]? = w.heap[b]?) : NestAt tb z ρ' w' L h r F := by
  obtain ⟨b, off, n, cap, h1, h2, h3, h4, h5, h6, h7⟩ := hs
  have e := hb b h5.own
  exact ⟨b, off, n, cap, h1, h2, h3, h4, h5.congr le.M (fun _ _ _ _ hv => hv.mono le) (fun _ _ => cell_congr e _) fun z hz _ => hb z hz, fun j hj => by rw [cell_congr e, frozen_congr e]; exact h6 j hj, h7⟩
theorem NestAt.congrM {tb : TypeId} {z : Nat} {ρ ρ' : Ev} {w : World} {L : List (List Int)} {r : Value} {F : List Nat} (hM : ρ'.M = ρ.M) (hs : NestAt tb z ρ w L none r F) : NestAt tb z ρ' w L none r F := by
  obtain ⟨b, off, n, cap, h1, h2, h3, h4, h5, h6, h7⟩ := hs
  exact ⟨b, off, n, cap, h1, h2, h3, h4, h5.congr (fun _ _ _ h => by rw [hM]; exact h) (fun _ _ e => by cases e) (fun _ _ => rfl) fun _ _ _ => rfl, h6, h7⟩
theorem NestAt.congrH {tb : TypeId} {z : Nat} {ρ ρ' : Ev} {w : World} {L : List (List Int)} {k k' : U Int} {j : Nat} {r : Value} {F : List Nat} (hM : ρ'.M = ρ.M) (hk : k () = k' ()) (hd : ∀ v, Den1 ρ (.hd j 0) v → Den1 ρ' (.hd j 0) v) (hs : NestAt tb z ρ w L (some (k, j)) r F) : NestAt tb z ρ' w L (some (k', j)) r F := by
  obtain ⟨b, off, n, cap, h1, h2, h3, h4, h5, h6, h7⟩ := hs
  refine ⟨b, off, n, cap, h1, h2, h3, h4, ?_, h6, fun q i e => by cases e; rw [← hk]; exact h7 _ _ rfl⟩
  have : holeN (some (k', j)) = holeN (some (k, j)) := by simp only [holeN, hk]
  rw [this]
  exact h5.congr (fun _ _ _ h => by rw [hM]; exact h) (fun _ _ e v hv => by cases e; exact hd v hv) (fun _ _ => rfl) fun _ _ _ => rfl
theorem MnAt.stays' {tb : TypeId} {ρ ρ' : Ev} {w w' : World} {L : List (Int × List Int)} {h : Option (U Int × Nat)} {r : Value} {F : List Nat} (hs : MnAt tb ρ w L h r F) (hm : ∀ b o v, ρ.M b o = some v → ρ'.M b o = some v) (hd : ∀ k j, h = some (k, j) → ∀ v, Den1 ρ (.hd j 0) v → Den1 ρ' (.hd j 0) v) (hb : ∀ b ∈ F, w'.heap[b]? = w.heap[b]?) : MnAt tb ρ' w' L h r F := by
  obtain ⟨b, es, clock, h1, h2, h3, h4, h5, h6⟩ := hs
  have own : b ∈ F := by
    cases h with
    | none => exact h6.own
    | some p => rcases h6 with ⟨q, x, _, _, _, h7⟩ | ⟨_, _, h7⟩ <;> exact h7.own
  refine ⟨b, es, clock, h1, (hb b own).trans h2, h3, h4, h5, ?_⟩
  cases h with
  | none => exact h6.congr hm (fun _ _ e => by cases e) (fun _ _ => rfl) fun z hz _ => hb z hz
  | some p =>
    obtain ⟨k, j⟩ := p
    rcases h6 with ⟨q, x, a1, a2, a3, h7⟩ | ⟨a1, a2, h7⟩
    · exact .inl ⟨q, x, a1, a2, a3, h7.congr hm (fun _ _ e v hv => by cases e; exact hd k j rfl v hv) (fun _ _ => rfl) fun z hz _ => hb z hz⟩
    · exact .inr ⟨a1, a2, h7.congr hm (fun _ _ e => by cases e) (fun _ _ => rfl) fun z hz _ => hb z hz⟩
theorem MnAt.stays {tb : TypeId} {ρ ρ' : Ev} {w w' : World} {L : List (Int × List Int)} {h : Option (U Int × Nat)} {r : Value} {F : List Nat} (hs : MnAt tb ρ w L h r F) (le : ρ.Le ρ') (hb : ∀ b ∈ F, w'.heap[b]? = w.heap[b]?) : MnAt tb ρ' w' L h r F :=
  hs.stays' le.M (fun _ _ _ _ hv => hv.mono le) hb
theorem HoldsC.stays {A : Type} {AI : Abs A} {ρ ρ' : Ev} {w w' : World} {i : Nat} {c : Chunk A} (h : HoldsC AI ρ w i c) (le : ρ.Le ρ')
    (hr : ρ'.root i = ρ.root i) (hv : ρ'.ver i = ρ.ver i) (hf : ρ'.foot i = ρ.foot i) (hb : ∀ b ∈ ρ.foot i, w'.heap[b]? = w.heap[b]?) : HoldsC AI ρ' w' i c := by
  cases c with
  | emp => simp only [HoldsC] at h ⊢; rw [hf, hr, hv]; exact h
  | gone => trivial
  | cells t cs =>
    obtain ⟨b, vs, h1, h2, h3, h4⟩ := h
    exact ⟨b, vs, hr.trans h1, hf.trans h2, (hb b (by simp [h2])).trans h3, h4.mono fun _ _ => Den1.mono le⟩
  | row t e ver L =>
    obtain ⟨h1, h2⟩ := h
    refine ⟨h1.trans hv.symm, ?_⟩
    rw [hr, hf]
    exact h2.stays le.M hb
  | map ks e L =>
    obtain ⟨b, es, clock, h1, h2, h3, h4⟩ := h
    exact ⟨b, es, clock, hr.trans h1, hf.trans h2, (hb b (by simp [h2])).trans h3, h4.mono le.M⟩
  | rmap ks e L R c j =>
    obtain ⟨b, r, h1, h2, h3, h4⟩ := h
    exact ⟨b, r, hr.trans h1, le.ptr j r h2, hf.trans h3, h4.mono le.M (hb b (by simp [h3])) (hb r (by simp [h3]))⟩
  | itp q => obtain ⟨h1, r, h2⟩ := h; exact ⟨hf.trans h1, r, hr.trans h2⟩
  | nest t tb z ver L q => obtain ⟨h1, h2⟩ := h; exact ⟨h1.trans hv.symm, by rw [hr, hf]; exact h2.stays le hb⟩
  | mnest tb L q => simp only [HoldsC] at h ⊢; rw [hr, hf]; exact h.stays le hb
  | abs a =>
    simp only [HoldsC] at h ⊢
    rw [hr, hf]
    exact AI.stays h le.M hb

theorem Holds.step {A : Type} {AI : Abs A} {G : Fr} {s : SS A} {ρ ρ' : Ev} {tmps : Array Value} {w w' : World} {H' : List (Chunk A)} (h : Holds AI G s ρ tmps w) (S : Nat → Prop)
    (le : ρ.Le ρ') (hM : ρ'.M = ρ.M)
    (same : ∀ i, ¬ S i → ρ'.root i = ρ.root i ∧ ρ'.ver i = ρ.ver i ∧ ρ'.foot i = ρ.foot i ∧ getC H' i = getC s.H i)
    (foot : ∀ i, S i → ∀ b ∈ ρ'.foot i, ((∃ k, S k ∧ b ∈ ρ.foot k) ∨ w.heap.size ≤ b) ∧ b < w'.heap.size)
    (disS : ∀ i j b, S i → S j → i ≠ j → b ∈ ρ'.foot i → b ∉ ρ'.foot j)
    (blocks : ∀ b, b < w.heap.size → (∀ i, S i → b ∉ ρ.foot i) → w'.heap[b]? = w.heap[b]?)
    (os : w'.os = w.os) (tape : w'.tape = w.tape) (output : w'.output = w.output) (size : w.heap.size ≤ w'.heap.size)
    (chS : ∀ i, S i → HoldsC AI ρ' w' i (getC H' i)) : Holds AI G ⟨s.tm, H'⟩ ρ' tmps w' := by
  have hS : ∀ i, S i ∨ ¬ S i := fun i => Classical.em _
  have nodis : ∀ i j b, ¬ S i → S j → b ∈ ρ.foot i → b ∉ ρ'.foot j := by
    intro i j b hi hj hb hb'
    rcases (foot j hj b hb').1 with ⟨k, hk, hbk⟩ | hge
    · exact h.dis k i b (fun e => hi (e ▸ hk)) hbk hb
    · have := h.lt i b hb; omega
  have fblk : ∀ i, ¬ S i → ∀ b ∈ ρ.foot i, w'.heap[b]? = w.heap[b]? := fun i hi b hb => blocks b (h.lt i b hb) fun k hk hbk => h.dis k i b (fun e => hi (e ▸ hk)) hbk hb
  refine ⟨h.sz, h.gt, fun t v ht => ?_, fun i => ?_, fun i j b hij hi hj => ?_, fun i b hb => ?_, fun b o v hm => ?_, os.trans h.os, tape.trans h.tape, output.trans h.output, Nat.le_trans h.grow size, fun b hb hn => ?_, fun i b hb => ?_, fun i b hi hb => le.ptr i b (h.rt i b hi hb), fun i hi => ?_, fun b o v hm => hM ▸ h.mono b o v hm, fun b o v hm => h.mfr b o v (hM ▸ hm)⟩
  · obtain ⟨u, h1, h2⟩ := h.tm t v ht; exact ⟨u, h1, h2.mono le⟩
  · rcases hS i with hi | hi
    · exact chS i hi
    · obtain ⟨e1, e2, e3, e4⟩ := same i hi
      show HoldsC AI ρ' w' i (getC H' i)
      rw [e4]
      exact (h.ch i).stays le e1 e2 e3 (fblk i hi)
  · rcases hS i with si | si <;> rcases hS j with sj | sj
    · exact disS i j b si sj hij hi hj
    · rw [(same j sj).2.2.1] at hj; exact nodis j i b sj si hj hi
    · rw [(same i si).2.2.1] at hi; exact nodis i j b si sj hi hj
    · rw [(same i si).2.2.1] at hi; rw [(same j sj).2.2.1] at hj; exact h.dis i j b hij hi hj
  · rcases hS i with si | si
    · exact (foot i si b hb).2
    · rw [(same i si).2.2.1] at hb; exact Nat.lt_of_lt_of_le (h.lt i b hb) size
  · rw [hM] at hm
    obtain ⟨h1, h2⟩ := h.im b o v hm
    have hlt : b < w.heap.size := World.block_lt_of_cell? w ⟨b, o, none⟩ h1
    refine ⟨(cell_congr (blocks b hlt fun k _ => h2 k) o).trans h1, fun i hb => ?_⟩
    rcases hS i with si | si
    · rcases (foot i si b hb).1 with ⟨k, _, hk⟩ | hge
      · exact h2 k hk
      · omega
    · rw [(same i si).2.2.1] at hb; exact h2 i hb
  · refine (blocks b (Nat.lt_of_lt_of_le hb h.grow) fun k hk hbk => ?_).trans (h.kept b hb hn)
    rcases h.fro k b hbk with h1 | h1
    · exact hn h1
    · omega
  · rcases hS i with si | si
    · rcases (foot i si b hb).1 with ⟨k, _, hk⟩ | hge
      · exact h.fro k b hk
      · exact .inr (Nat.le_trans h.grow hge)
    · rw [(same i si).2.2.1] at hb; exact h.fro i b hb
  · obtain ⟨hv0, hs⟩ := h.rts i hi
    refine ⟨Nat.le_trans hv0 (le.ver i), fun ao l c hb hv => ?_⟩
    have h0 : ρ.ver i = G.ver0 i := Nat.le_antisymm (hv ▸ le.ver i) hv0
    have h1 := hs ao l c hb h0
    rw [le.same i (by rw [h0, hv]) ⟨_, _, _, h1⟩]; exact h1

theorem Holds.congrH {A : Type} {AI : Abs A} {G : Fr} {s : SS A} {ρ : Ev} {tmps : Array Value} {w : World} {H' : List (Chunk A)} (h : Holds AI G s ρ tmps w) (e : ∀ i, getC H' i = getC s.H i) : Holds AI G ⟨s.tm, H'⟩ ρ tmps w :=
  ⟨h.sz, h.gt, h.tm, fun i => by show HoldsC AI ρ w i (getC H' i); rw [e]; exact h.ch i, h.dis, h.lt, h.im, h.os, h.tape, h.output, h.grow, h.kept, h.fro, h.rt, h.rts, h.mono, h.mfr⟩

theorem getC_putC {A : Type} : ∀ (H : List (Chunk A)) (i j : Nat) (c : Chunk A), getC (putC H i c) j = if j = i then c else getC H j
  | [], 0, 0, c => rfl
  | [], 0, j + 1, c => by simp [getC, putC, nth]
  | [], i + 1, 0, c => by simp [getC, putC, nth]
  | [], i + 1, j + 1, c => by
    have := getC_putC [] i j c
    simp only [getC, putC, nth] at this ⊢
    simpa using this
  | x :: r, 0, 0, c => rfl
  | x :: r, 0, j + 1, c => by simp [getC, putC, nth]
  | x :: r, i + 1, 0, c => by simp [getC, putC, nth]
  | x :: r, i + 1, j + 1, c => by
    have := getC_putC r i j c
    simp only [getC, putC, nth] at this ⊢
    simpa using this

theorem putC_self {A : Type} (H : List (Chunk A)) (i j : Nat) : getC (putC H i (getC H i)) j = getC H j := by
  rw [getC_putC]; split
  · rename_i h; rw [h]
  · rfl
theorem putCs_self {A : Type} : ∀ (ids : List Nat) (H H0 : List (Chunk A)), (∀ j, getC H j = getC H0 j) → ∀ j, getC (putCs H ids (getCs H0 ids)) j = getC H0 j
  | [], _, _, h, j => by simpa [putCs, getCs] using h j
  | i :: r, H, H0, h, j => by
    simp only [putCs, getCs]
    exact putCs_self r (putC H i (getC H0 i)) H0 (fun k => by rw [← h i, putC_self, h k]) j

/-- A temporary is written. -/
theorem Holds.put {A : Type} {AI : Abs A} {G : Fr} {s : SS A} {ρ : Ev} {a : Act} {w : World} (h : Holds AI G s ρ a.tmps w) {dst : Option Tmp} {v : SV} {u : Value} (hd : ∀ t, dst = some t → t < G.size) (hv : Den ρ v u) :
    Holds AI G ⟨putT s.tm dst v, s.H⟩ ρ (a.put dst u).tmps w := by
  cases dst with
  | none => exact h
  | some t =>
    have hlt := hd t rfl
    refine ⟨by simp [Act.put, h.sz], h.gt, fun k x hk => ?_, h.ch, h.dis, h.lt, h.im, h.os, h.tape, h.output, h.grow, h.kept, h.fro, h.rt, h.rts, h.mono, h.mfr⟩
    simp only [putT, look] at hk
    by_cases e : t = k
    · subst e
      simp at hk
      subst hk
      exact ⟨u, by simp [Act.put, h.sz, hlt], hv⟩
    · rw [show beqN t k = false by cases hb : beqN t k; rfl; exact absurd (beqN_iff.1 hb) e] at hk
      obtain ⟨y, h1, h2⟩ := h.tm k x hk
      exact ⟨y, by simp only [Act.put, Array.getElem?_setIfInBounds]; rw [if_neg e]; exact h1, h2⟩
theorem Act.put_defers' (a : Act) (dst : Option Tmp) (u : Value) : (a.put dst u).defers = a.defers := by cases dst <;> rfl

end Go.Sx

/-
  Symbolic execution: operations that leave the world alone are what their plans say.
-/
namespace Go.Sx
set_option linter.all false
open Go.RowKit

variable {A : Type} {AI : Abs A} {G : Fr} {s : SS A} {ρ : Ev} {a : Act} {w : World} {P : Program}

theorem beq_eq {a b : Nat} (h : beqN a b = true) : a = b := beqN_iff.1 h

theorem Den1.ofLit1 (x : Value) : Den1 ρ (ofLit1 x) x := by
  cases x <;> simp only [Sx.ofLit1] <;> try rfl
  case string s =>
    simp only [Den1, Value.string.injEq]
    cases s with
    | mk d =>
      congr 1
      apply Array.ext'
      have e : ((fun x : Int => UInt8.ofNat x.toNat) ∘ fun x : UInt8 => (x.toNat : Int)) = id := by funext x; simp
      simp [e]
  case pointer p => cases p <;> rfl
  case slice p l c =>
    split
    all_goals first | (rename_i h; cases h; done) | (simp [Den1]; done) | simp_all [Den1]

theorem All2.map {α β : Type} {R : α → β → Prop} (f : β → α) (h : ∀ b, R (f b) b) : ∀ l : List β, All2 R (l.map f) l
  | [] => .nil
  | x :: r => .cons (h x) (All2.map f h r)

theorem Den.ofLit (x : Value) : Den ρ (ofLit x) x := by
  unfold Sx.ofLit
  split
  · rename_i cs
    exact ⟨cs.toList, by simp, All2.map _ Den1.ofLit1 _⟩
  · exact Den1.ofLit1 _

theorem Holds.eval (h : Holds AI G s ρ a.tmps w) {x : Operand} {v : SV} (hx : evalOp s.tm x = some v) : Den ρ v (a.eval x) := by
  cases x with
  | tmp t =>
    obtain ⟨u, h1, h2⟩ := h.tm t v hx
    have : a.eval (.tmp t) = u := by simp [Act.eval, h1]
    rw [this]; exact h2
  | const c => cases hx; exact Den.ofLit c
  | global g => cases hx
  | func f => cases hx; exact ⟨[], rfl, .nil⟩

theorem Holds.evals (h : Holds AI G s ρ a.tmps w) : ∀ {xs : List Operand} {vs : List SV}, evalOps s.tm xs = some vs → All2 (Den ρ) vs (xs.map a.eval)
  | [], vs, hx => by cases hx; exact .nil
  | x :: r, vs, hx => by
    simp only [evalOps] at hx
    split at hx
    · rename_i v hv
      split at hx
      · rename_i us hu
        cases hx
        exact .cons (h.eval hv) (h.evals hu)
      · cases hx
    · cases hx

theorem wrap_i64 {n : Int} (h : inI64 n) : IntKind.i64.wrap n = n := IntWalk.i64_in n h

theorem wrap_u64 {n : Int} (h : 0 ≤ n ∧ n < 18446744073709551616) : IntKind.u64.wrap n = n := by simp [IntKind.wrap, IntKind.bits, IntKind.signed]; omega
theorem ival_den {x : SV1} {k : IntKind} {n : U Int} (h : ival x = some (k, n)) {u : Value} (hu : Den1 ρ x u) : u = .int k (n ()) := by
  cases x <;> simp [ival] at h <;> obtain ⟨rfl, rfl⟩ := h <;> exact hu
theorem ivalS_den {x : SV} {k : IntKind} {n : U Int} (h : ivalS x = some (k, n)) {u : Value} (hu : Den ρ x u) : u = .int k (n ()) := by
  cases x with
  | tup l => cases h
  | val x =>
    cases x with
    | one x => exact ival_den h hu
    | agg l => cases h
    | fn f l => cases h
theorem bval_den {x : SV1} {b : U Bool} (h : bval x = some b) {u : Value} (hu : Den1 ρ x u) : u = .bool (b ()) := by
  cases x <;> simp [bval] at h <;> subst h <;> exact hu

theorem fit_den {k : IntKind} {n : U Int} {C : U Prop} {v : SV1} (h : fit k n = (C, v)) (hC : C ()) : Den1 ρ v (.int k (k.wrap (n ()))) := by
  unfold fit at h
  split at h <;> cases h
  · rw [wrap_i64 hC]; rfl
  · rfl

theorem arith_sound {op : BinOp} {k : IntKind} {x y : U Int} {C : U Prop} {v : SV1} (h : arith op k x y = some (C, v)) (hC : C ()) (t : TypeId) :
    ∃ u, (binOp op t (.int k (x ())) (.int k (y ()))).run P w = .ok u w ∧ Den1 ρ v u := by
  cases op <;> simp only [arith, reduceCtorEq, Option.some.injEq] at h
  case add => exact ⟨_, by simp [binOp, Op.intArith], fit_den h hC⟩
  case sub => exact ⟨_, by simp [binOp, Op.intArith], fit_den h hC⟩
  case mul => exact ⟨_, by simp [binOp, Op.intArith], fit_den h hC⟩
  case quo =>
    split at h
    · simp at h
      obtain ⟨rfl, rfl⟩ := h
      obtain ⟨h0, h1, h2, h3⟩ := hC
      have hy : y () ≠ 0 := by omega
      have e1 : (x ()).tdiv (y ()) = x () / y () := Int.tdiv_eq_ediv_of_nonneg h0
      have e2 : 0 ≤ x () / y () := Int.ediv_nonneg h0 (by omega)
      have e3 : x () / y () ≤ x () := Int.ediv_le_self _ h0
      refine ⟨_, by simp [binOp, Op.intDiv, hy]; rfl, ?_⟩
      rw [e1, wrap_i64 ⟨by omega, by omega⟩]; rfl
    · simp at h
      obtain ⟨rfl, rfl⟩ := h
      obtain ⟨h0, h1, h2⟩ := hC
      have hy : y () ≠ 0 := by omega
      have e1 : (x ()).tdiv (y ()) = x () / y () := Int.tdiv_eq_ediv_of_nonneg h0
      have e2 : 0 ≤ x () / y () := Int.ediv_nonneg h0 (by omega)
      have e3 : x () / y () ≤ x () := Int.ediv_le_self _ h0
      refine ⟨_, by simp [binOp, Op.intDiv, hy]; rfl, ?_⟩
      rw [e1, IntWalk.u8_in _ ⟨by omega, by omega⟩]; rfl
    · simp at h
      obtain ⟨rfl, rfl⟩ := h
      obtain ⟨h0, h1, h2⟩ := hC
      have hy : y () ≠ 0 := by omega
      have e1 : (x ()).tdiv (y ()) = x () / y () := Int.tdiv_eq_ediv_of_nonneg h0
      have e2 : 0 ≤ x () / y () := Int.ediv_nonneg h0 (by omega)
      have e3 : x () / y () ≤ x () := Int.ediv_le_self _ h0
      refine ⟨_, by simp [binOp, Op.intDiv, hy]; rfl, ?_⟩
      rw [e1, IntWalk.u16_in _ ⟨by omega, by omega⟩]; rfl
    · simp at h
      obtain ⟨rfl, rfl⟩ := h
      obtain ⟨h0, h1, h2⟩ := hC
      have hy : y () ≠ 0 := by omega
      have e1 : (x ()).tdiv (y ()) = x () / y () := Int.tdiv_eq_ediv_of_nonneg h0
      have e2 : 0 ≤ x () / y () := Int.ediv_nonneg h0 (by omega)
      have e3 : x () / y () ≤ x () := Int.ediv_le_self _ h0
      refine ⟨_, by simp [binOp, Op.intDiv, hy]; rfl, ?_⟩
      rw [e1, wrap_u64 ⟨by omega, by omega⟩]; rfl
    · cases h
  case and =>
    have key : ∀ m : Nat, k.bits = m → 0 ≤ x () → 0 ≤ y () → x () < 2 ^ m → y () < 2 ^ m → (∀ z : Int, 0 ≤ z → z ≤ x () → k.wrap z = z) → ∃ u, (binOp .and t (.int k (x ())) (.int k (y ()))).run P w = .ok u w ∧ Den1 ρ (.int k (fun _ => andI (x ()) (y ()))) u := by
      intro m hm h0 h1 h2 h3 h4
      refine ⟨.int k (k.wrap ((BitVec.ofInt k.bits (x ()) &&& BitVec.ofInt k.bits (y ())).toNat : Int)), by simp [binOp, Op.intBits], ?_⟩
      have e : ∀ z : Int, 0 ≤ z → z < 2 ^ m → (BitVec.ofInt k.bits z).toNat = z.toNat := by
        intro z hz hz2
        rw [BitVec.toNat_ofInt, hm]
        have : z % ((2 ^ m : Nat) : Int) = z := Int.emod_eq_of_lt hz (by rw [Int.natCast_pow]; exact hz2)
        rw [this]
      rw [BitVec.toNat_and, e _ h0 h2, e _ h1 h3]
      have h5 : (x ()).toNat &&& (y ()).toNat ≤ (x ()).toNat := Nat.and_le_left
      rw [h4 _ (Int.natCast_nonneg _) (by omega)]
      rfl
    split at h
    · simp at h
      obtain ⟨rfl, rfl⟩ := h
      obtain ⟨h0, h1, h2, h3⟩ := hC
      exact key 64 rfl h0 h1 (by omega) (by omega) fun z z0 z1 => wrap_i64 ⟨by omega, by omega⟩
    · simp at h
      obtain ⟨rfl, rfl⟩ := h
      obtain ⟨h0, h1, h2, h3⟩ := hC
      exact key 8 rfl h0 h1 (by omega) (by omega) fun z z0 z1 => IntWalk.u8_in _ ⟨by omega, by omega⟩
    · simp at h
      obtain ⟨rfl, rfl⟩ := h
      obtain ⟨h0, h1, h2, h3⟩ := hC
      exact key 16 rfl h0 h1 (by omega) (by omega) fun z z0 z1 => IntWalk.u16_in _ ⟨by omega, by omega⟩
    · simp at h
      obtain ⟨rfl, rfl⟩ := h
      obtain ⟨h0, h1, h2, h3⟩ := hC
      exact key 64 rfl h0 h1 (by omega) (by omega) fun z z0 z1 => wrap_u64 ⟨by omega, by omega⟩
    · cases h
  case rem =>
    have key : 0 ≤ x () → 0 < y () → ∃ u, (binOp .rem t (.int k (x ())) (.int k (y ()))).run P w = .ok u w ∧ Den1 ρ (.int k (fun _ => x () % y ())) u := by
      intro h0 h1
      have hy : y () ≠ 0 := by omega
      exact ⟨_, by simp [binOp, Op.intDiv, hy]; rfl, by rw [Int.tmod_eq_emod_of_nonneg h0]; rfl⟩
    split at h <;> simp at h <;> obtain ⟨rfl, rfl⟩ := h <;> exact key hC.1 hC.2.1
  case lss => obtain ⟨rfl, rfl⟩ := (by simpa using h : _ ∧ _); exact ⟨_, by simp [binOp, Op.intCmp]; rfl, by simp [Den1]⟩
  case leq => obtain ⟨rfl, rfl⟩ := (by simpa using h : _ ∧ _); exact ⟨_, by simp [binOp, Op.intCmp]; rfl, by simp [Den1]⟩
  case gtr => obtain ⟨rfl, rfl⟩ := (by simpa using h : _ ∧ _); exact ⟨_, by simp [binOp, Op.intCmp]; rfl, by simp [Den1]⟩
  case geq => obtain ⟨rfl, rfl⟩ := (by simpa using h : _ ∧ _); exact ⟨_, by simp [binOp, Op.intCmp]; rfl, by simp [Den1]⟩
  case eql => obtain ⟨rfl, rfl⟩ := (by simpa using h : _ ∧ _); exact ⟨_, by simp [binOp, Op.intCmp]; rfl, by simp [Den1]; rfl⟩
  case neq => obtain ⟨rfl, rfl⟩ := (by simpa using h : _ ∧ _); exact ⟨_, by simp [binOp, Op.intCmp]; rfl, by simp [Den1]; rfl⟩


theorem str_eq {l m : List Int} (hl : inBytes l) (hm : inBytes m) : ((l.map fun x => UInt8.ofNat x.toNat) == (m.map fun x => UInt8.ofNat x.toNat)) = decide (l = m) := by
  rw [Bool.eq_iff_iff]
  simp only [beq_iff_eq, decide_eq_true_eq]
  constructor
  · intro h
    induction l generalizing m with
    | nil => cases m <;> simp_all
    | cons x r ih =>
      cases m with
      | nil => simp at h
      | cons y q =>
        simp only [List.map_cons, List.cons.injEq] at h
        have hx := hl x (by simp)
        have hy := hm y (by simp)
        have e1 := congrArg UInt8.toNat h.1
        simp only [UInt8.toNat_ofNat'] at e1
        have e2 : x = y := by omega
        rw [e2, ih (fun z hz => hl z (by simp [hz])) (fun z hz => hm z (by simp [hz])) h.2]
  · rintro rfl; rfl

theorem eql_bool {t : TypeId} (hu : P.underlying t = some .bool) (d : Nat) (b c : Bool) : (Op.equalIn (d + 1) t (.bool b) (.bool c)).run P w = .ok (b == c) w := by
  simp [Op.equalIn, run_underlying hu]
theorem eql_ptr1 {t e : TypeId} (hu : P.underlying t = some (.pointer e)) (d : Nat) (c : Option Addr) : (Op.equalIn (d + 1) t (.pointer none) (.pointer c)).run P w = .ok c.isNone w := by
  simp [Op.equalIn, run_underlying hu]
theorem eql_ptr2 {t e : TypeId} (hu : P.underlying t = some (.pointer e)) (d : Nat) (c : Addr) : (Op.equalIn (d + 1) t (.pointer (some c)) (.pointer none)).run P w = .ok false w := by
  simp [Op.equalIn, run_underlying hu]
theorem binop1_sound {op : BinOp} {x y : SV1} {C : U Prop} {v : SV1} (h : binop1 op x y = some (C, v)) (hC : C ()) (t : TypeId) {p q : Value} (hp : Den1 ρ x p) (hq : Den1 ρ y q)
    (hB : ∀ b c, p = .bool b → q = .bool c → P.underlying t = some .bool) (hPt : ∀ b c, p = .pointer b → q = .pointer c → ∃ e, P.underlying t = some (.pointer e)) :
    ∃ u, (binOp op t p q).run P w = .ok u w ∧ Den1 ρ v u := by
  unfold binop1 at h
  split at h
  · rename_i k m hm
    have e1 := ival_den hm hp
    split at h
    · rename_i k' n hn
      have e2 := ival_den hn hq
      subst e1; subst e2
      split at h
      · have key : 0 ≤ m () → 0 ≤ n () → ∀ B : Nat, n () ≤ B → B ≤ k.bits → ∃ u, (binOp .shr t (.int k (m ())) (.int k' (n ()))).run P w = .ok u w ∧ Den1 ρ (.int k (fun _ => m () / 2 ^ (n ()).toNat)) u := by
          intro h0 h1 B h2 h3
          refine ⟨.int k (m () / 2 ^ (n ()).toNat), ?_, rfl⟩
          have e3 : ¬ n () < 0 := by omega
          have e4 : min (n ()).toNat k.bits = (n ()).toNat := by omega
          have e5 : (m ()).fdiv (2 ^ (n ()).toNat) = m () / 2 ^ (n ()).toNat := Int.fdiv_eq_ediv_of_nonneg _ (Int.pow_nonneg (by omega))
          simp [binOp, Op.shift, e3, e4, e5]
        split at h <;> simp at h <;> obtain ⟨rfl, rfl⟩ := h <;> first | exact key hC.1 hC.2.1 8 hC.2.2 (by decide) | exact key hC.1 hC.2.1 32 hC.2.2 (by decide)
      · split at h
        · rename_i hk
          simp at hk
          subst hk
          exact arith_sound h hC t
        · cases h
    · cases h
  · split at h
    · rename_i b hb
      have e1 := bval_den hb hp
      split at h
      · rename_i c hc
        have e2 := bval_den hc hq
        subst e1; subst e2
        have hu := hB _ _ rfl rfl
        cases op <;> simp at h <;> obtain ⟨rfl, rfl⟩ := h
        · exact ⟨_, by simp only [binOp, Op.equal, Op.maxDepth, Sem.run_bind, eql_bool hu 9999, Result.andThen]; rfl, rfl⟩
        · exact ⟨_, by simp only [binOp, Op.equal, Op.maxDepth, Sem.run_bind, eql_bool hu 9999, Result.andThen]; rfl, rfl⟩
      · cases h
    · split at h
      · rename_i l m _ _
        simp only [Den1] at hp hq
        subst hp; subst hq
        cases op <;> simp at h <;> obtain ⟨rfl, rfl⟩ := h
        case add =>
          have hC : (l ()).length + (m ()).length ≤ 1099511627776 := hC
          have hs : ∀ q : List Int, (⟨(q.map fun x => x.toNat.toUInt8).toArray⟩ : ByteArray).size = q.length := fun q => by simp [ByteArray.size]
          refine ⟨.string (⟨((l ()).map fun x => x.toNat.toUInt8).toArray⟩ ++ ⟨((m ()).map fun x => x.toNat.toUInt8).toArray⟩), ?_, ?_⟩
          · simp only [binOp, Op.stringOp, hs]
            rw [if_neg]
            · rfl
            · have e : IntKind.i64.max = 9223372036854775807 := by rfl
              rw [e]; omega
          · simp only [Den1, Value.string.injEq]
            apply ByteArray.ext
            simp
        case lss => exact ⟨_, by simp only [binOp, Op.stringOp]; rfl, rfl⟩
        all_goals (refine ⟨_, by simp [binOp, Op.stringOp]; rfl, ?_⟩; simp only [Den1, Value.bool.injEq]; rw [str_eq hC.1 hC.2])
      · obtain ⟨b, h1, rfl⟩ := hp
        simp only [Den1] at hq
        subst hq
        obtain ⟨e, hu⟩ := hPt _ _ rfl rfl
        cases op <;> simp at h <;> obtain ⟨rfl, rfl⟩ := h <;> exact ⟨_, by simp only [binOp, Op.equal, Op.maxDepth, Sem.run_bind, eql_ptr2 hu 9999, Result.andThen]; rfl, rfl⟩
      · obtain ⟨b, h1, rfl⟩ := hq
        simp only [Den1] at hp
        subst hp
        obtain ⟨e, hu⟩ := hPt _ _ rfl rfl
        cases op <;> simp at h <;> obtain ⟨rfl, rfl⟩ := h <;> exact ⟨_, by simp only [binOp, Op.equal, Op.maxDepth, Sem.run_bind, eql_ptr1 hu 9999, Result.andThen]; rfl, rfl⟩
      · simp only [Den1] at hp hq
        subst hp; subst hq
        obtain ⟨e, hu⟩ := hPt _ _ rfl rfl
        cases op <;> simp at h <;> obtain ⟨rfl, rfl⟩ := h <;> exact ⟨_, by simp only [binOp, Op.equal, Op.maxDepth, Sem.run_bind, eql_ptr1 hu 9999, Result.andThen]; rfl, rfl⟩
      · cases h

theorem unop_sound {op : UnOp} {x : SV} {p : Plan A} (h : unopP op x = some p) {u : Value} (hu : Den ρ x u) :
    ∃ C v, p = ⟨[], 0, false, fun _ _ => .done C v []⟩ ∧ (C () → ∃ y, (Op.unary op u).run P w = .ok y w ∧ Den ρ v y) := by
  unfold unopP at h
  split at h
  · cases h; simp only [Den, Den2, Den1] at hu; subst hu; exact ⟨_, _, rfl, fun _ => ⟨_, by simp [Op.unary], rfl⟩⟩
  · cases h; simp only [Den, Den2, Den1] at hu; subst hu; exact ⟨_, _, rfl, fun _ => ⟨_, by simp [Op.unary], rfl⟩⟩
  · cases h; simp only [Den, Den2, Den1] at hu; subst hu
    rename_i n
    exact ⟨_, _, rfl, fun hC => ⟨.int .i64 (-n ()), by simp [Op.unary, Op.intArith]; exact wrap_i64 hC, rfl⟩⟩
  · cases h

end Go.Sx

/-
  Symbolic execution: operations that read memory, and addresses.
-/
namespace Go.Sx
set_option linter.all false
open Go.RowKit

variable {A : Type} {AI : Abs A} {G : Fr} {s : SS A} {ρ : Ev} {a : Act} {w : World} {P : Program}

theorem add_lit (b o n : Nat) : (⟨b, o, none⟩ : Addr).add n = ⟨b, o + n, none⟩ := by unfold Addr.add; split <;> simp_all

theorem run_loadAt_agg {t : TypeId} {i : TI} (hT : TIfact P t i) (hi : i.isAgg = true) {b off : Nat} {us : List Value} (hl : us.length = i.size) (hc : ∀ (j : Nat) v, us[j]? = some v → w.cell? ⟨b, off + j, none⟩ = some v) :
    (Instr.loadAt t (.pointer (some ⟨b, off, none⟩))).run P w = .ok (.agg us.toArray) w := by
  have h1 := run_loadCells_list (P := P) w ⟨b, off, none⟩ us (fun j v h => by rw [add_lit]; exact hc j v h)
  simp [Instr.loadAt, Instr.sureAddr, loadVar, hT.isAgg, hi, hT.sizeOf, ← hl, h1]
theorem run_loadAt_one {t : TypeId} {i : TI} (hT : TIfact P t i) (hi : i.isAgg = false) {b off : Nat} {u : Value} (hc : w.cell? ⟨b, off, none⟩ = some u) :
    (Instr.loadAt t (.pointer (some ⟨b, off, none⟩))).run P w = .ok u w := by
  simp [Instr.loadAt, Instr.sureAddr, loadVar, hT.isAgg, hi, run_load, hc]

theorem load_cells {t : TypeId} {i : TI} (hT : TIfact P t i) {l : List SV1} {us : List Value} {v : SV} (hl : us.length = i.size) (hd : All2 (Den1 ρ) l us) (hp : pack i l = some v) {b off : Nat}
    (hc : ∀ (j : Nat) v, us[j]? = some v → w.cell? ⟨b, off + j, none⟩ = some v) : ∃ y, (Instr.loadAt t (.pointer (some ⟨b, off, none⟩))).run P w = .ok y w ∧ Den ρ v y := by
  unfold pack at hp
  split at hp
  · rename_i hi
    cases hp
    exact ⟨_, run_loadAt_agg hT hi hl hc, us, rfl, hd⟩
  · rename_i hi
    split at hp
    · cases hp
      cases hd with
      | cons h t => cases t with
        | nil => exact ⟨_, run_loadAt_one hT hi (by simpa using hc 0 _ rfl), h⟩
    · cases hp

theorem load_part {t : TypeId} {i : TI} (hT : TIfact P t i) {l : List SV1} {us : List Value} {v : SV} (hd : All2 (Den1 ρ) l us) {o : Nat} (hp : partOf i l o = some v) {b off : Nat}
    (hc : ∀ (j : Nat) v, us[j]? = some v → w.cell? ⟨b, off + j, none⟩ = some v) : ∃ y, (Instr.loadAt t (.pointer (some ⟨b, off + o, none⟩))).run P w = .ok y w ∧ Den ρ v y := by
  unfold partOf at hp
  split at hp
  · rename_i l' hl'
    obtain ⟨h1, h2⟩ := hd.cut hl'
    refine load_cells hT (by rw [← h1.length, h2]) h1 hp fun j u hj => ?_
    rw [List.getElem?_take] at hj
    split at hj
    · rw [List.getElem?_drop] at hj
      rw [Nat.add_assoc]; exact hc _ _ hj
    · cases hj
  · cases hp

/-- A plan that only looks: what it leaves is what it found. -/
def Looks (s : SS A) (p : Plan A) (cs : List (Chunk A)) : Prop := cs = getCs s.H p.ids

theorem load_sound {t : TypeId} {i : TI} (hT : TIfact P t i) (h : Holds AI G s ρ a.tmps w) {x : SV} {u : Value} (hx : Den ρ x u) {p : Plan A} (hp : loadP i x = some p) {d : List Bool} {C : U Prop} {v : SV} {cs : List (Chunk A)}
    (he : p.eff (getCs s.H p.ids) d = .done C v cs) (hC : C ()) : Looks s p cs ∧ ∃ y, (Instr.loadAt t u).run P w = .ok y w ∧ Den ρ v y := by
  unfold loadP at hp
  split at hp
  · rename_i i' off
    cases hp
    simp only [getCs] at he
    have hc := h.ch i'
    generalize hg : getC s.H i' = c at he hc
    cases c <;> simp at he
    rename_i ct l
    split at he <;> simp at he
    rename_i v' hv'
    obtain ⟨rfl, rfl, rfl⟩ := he
    obtain ⟨b, vs, h1, h2, h3, h4⟩ := hc
    obtain ⟨b', h5, rfl⟩ := hx
    rw [h1] at h5
    cases h5
    refine ⟨by simp [Looks, getCs, hg], ?_⟩
    have := load_part (w := w) hT h4 hv' (b := b) (off := 0) (fun j v hj => by simp [World.cell?, h3, hj])
    simpa using this
  · rename_i e L k off
    split at hp <;> simp [pureP] at hp
    subst hp
    rename_i v' hv'
    simp at he
    obtain ⟨rfl, rfl, rfl⟩ := he
    obtain ⟨b, o, rfl, h1, h2, h3⟩ := hx
    refine ⟨by simp [Looks, getCs], ?_⟩
    have hk : (k ()).toNat < (L ()).length := by omega
    have hx := h3 _ (List.getElem?_eq_getElem hk)
    have hD : (L ()).getD (k ()).toNat e.dflt = (L ())[(k ()).toNat] := by simp [List.getD, List.getElem?_eq_getElem hk]
    obtain ⟨us, h4, h5⟩ := CellsM.dec (ρ := ρ) e (fun _ => (L ()).getD (k ()).toNat e.dflt) _ (by rw [hD]; exact hx)
    exact load_part hT h4 hv' fun j v hj => (h.im _ _ _ (h5 j v hj)).1
  · rename_i i' ver esz k off
    cases hp
    simp only [getCs] at he
    have hc := h.ch i'
    generalize hg : getC s.H i' = c at he hc
    cases c <;> simp at he
    rename_i rt e ver' L
    split at he <;> (try simp at he)
    rename_i hb
    obtain ⟨hb1, hb2⟩ := Bool.and_eq_true_iff.1 hb
    have hb1 := beq_eq hb1
    have hb2 := beq_eq hb2
    subst hb1; subst hb2
    split at he <;> simp at he
    rename_i v' hv'
    obtain ⟨rfl, rfl, rfl⟩ := he
    obtain ⟨p, rfl, -, h1⟩ := hx
    obtain ⟨h2, h3⟩ := hc
    obtain ⟨hk0, b, o, len, cap, h4, rfl⟩ := h1 h2
    refine ⟨by simp [Looks, getCs, hg], ?_⟩
    rcases h3 with ⟨_, h3, _⟩ | ⟨b', off', cap', h5, _, _, _, h6, _⟩
    · exfalso; have := hC.2; rw [h3] at this; simp at this; omega
    · rw [h4] at h5
      cases h5
      have hk : (k ()).toNat < (L ()).length := by have := hC.2; omega
      have hD : (L ()).getD (k ()).toNat e.dflt = (L ())[(k ()).toNat] := by simp [List.getD, List.getElem?_eq_getElem hk]
      obtain ⟨us, h7, h8⟩ := CellsM.dec (ρ := ρ) e (fun _ => (L ()).getD (k ()).toNat e.dflt) _ (by rw [hD]; exact h6 _ _ (List.getElem?_eq_getElem hk))
      exact load_part hT h7 hv' fun j v hj => h8 j v hj
  · cases hp

theorem field_sound {t : TypeId} {i : TI} (hT : TIfact P t i) {x : SV} {u : Value} (hx : Den ρ x u) {f : Nat} {p : Plan A} (hp : fieldP i x f = some p) :
    ∃ C v, p = ⟨[], 0, false, fun _ _ => .done C v []⟩ ∧ (C () → ∃ y, (Instr.fieldAt t u f).run P w = .ok y w ∧ Den ρ v y) := by
  have hk := hT.kind
  unfold fieldP at hp
  split at hp
  · rename_i offs ho
    rw [ho] at hk
    obtain ⟨fs, h1, h2⟩ := hk
    split at hp
    · rename_i o hn
      obtain ⟨fd, h3, rfl, g, h4, h5⟩ := h2.nth hn
      have h3 : fs[f]? = some fd := by simpa using h3
      have h5 : g.size ≠ 0 := by rw [h5]; simp
      have key : ∀ b off, (Instr.fieldAt t (.pointer (some ⟨b, off, none⟩)) f).run P w = .ok (.pointer (some ⟨b, off + fd.offset, none⟩)) w := by
        intro b off
        simp [Instr.fieldAt, run_underlying h1, h3, Instr.sureAddr, fieldPlace, Go.sizeOf, typeInfo, h4, h5, add_lit]
      split at hp
      · cases hp
        obtain ⟨b, e1, rfl⟩ := hx
        exact ⟨_, _, rfl, fun _ => ⟨_, key _ _, b, e1, rfl⟩⟩
      · cases hp
        obtain ⟨b, o', rfl, e1⟩ := hx
        exact ⟨_, _, rfl, fun _ => ⟨_, key _ _, b, o', by rw [Nat.add_assoc], e1⟩⟩
      · cases hp
        obtain ⟨q, rfl, e1, e2⟩ := hx
        rename_i i' ver esz k off
        refine ⟨_, _, rfl, fun _ => ?_⟩
        obtain ⟨b, o', sp⟩ := q
        cases sp with
        | none =>
          refine ⟨_, key _ _, _, rfl, e1, fun ev => ?_⟩
          obtain ⟨e3, b2, o2, len, cap, e4, e5⟩ := e2 ev
          cases e5
          exact ⟨e3, _, o2, len, cap, e4, by simp [Nat.add_assoc]⟩
        | some sp =>
          refine ⟨.pointer (some (Addr.add ⟨b, o', some sp⟩ fd.offset)), by simp [Instr.fieldAt, run_underlying h1, h3, Instr.sureAddr, fieldPlace, Go.sizeOf, typeInfo, h4, h5], _, rfl, e1, fun ev => ?_⟩
          obtain ⟨e3, b2, o2, len, cap, e4, e5⟩ := e2 ev
          cases e5
      · cases hp
    · cases hp
  · cases hp

theorem len_sound {x : SV} {u : Value} {t ty : TypeId} (h : Holds AI G s ρ a.tmps w) (hx : Den ρ x u) {p : Plan A} (hp : lenP x = some p) {d : List Bool} {C : U Prop} {v : SV} {cs : List (Chunk A)}
    (he : p.eff (getCs s.H p.ids) d = .done C v cs) (hC : C ()) (hS : (∃ l, u = .string l) → P.underlying t = some .string) (hL : (∃ ao l c, u = .slice ao l c) → ∃ e, P.underlying t = some (.slice e)) (hmp : (∃ b, u = .map b) → ∃ k e, P.underlying t = some (.map k e)) :
    Looks s p cs ∧ ∃ y, (Builtin.len_ #[t] ty #[u]).run P w = .ok y w ∧ Den ρ v y := by
  have key : ∀ ao l c, u = .slice ao l c → (Builtin.len_ #[t] ty #[u]).run P w = .ok (.int .i64 l) w := by
    rintro ao l c rfl
    obtain ⟨e, hu⟩ := hL ⟨_, _, _, rfl⟩
    simp [Builtin.len_, run_underlying hu, goInt]
  unfold lenP at hp
  split at hp
  · cases hp
    simp at he
    obtain ⟨rfl, rfl, rfl⟩ := he
    obtain ⟨ao, cap, rfl, _⟩ := hx
    exact ⟨rfl, _, key _ _ _ rfl, rfl⟩
  · cases hp
    simp at he
    obtain ⟨rfl, rfl, rfl⟩ := he
    cases hx
    exact ⟨rfl, _, key _ _ _ rfl, rfl⟩
  · cases hp
    simp at he
    obtain ⟨rfl, rfl, rfl⟩ := he
    cases hx
    refine ⟨rfl, ?_⟩
    have hu := hS ⟨_, rfl⟩
    exact ⟨_, by simp [Builtin.len_, run_underlying hu]; rfl, by simp [Den, Den2, one, Den1, goInt, ByteArray.size]⟩
  · cases hp
    simp at he
    obtain ⟨rfl, rfl, rfl⟩ := he
    obtain ⟨_, h0, _⟩ := hx
    obtain ⟨ao, c, rfl⟩ := h0 hC
    exact ⟨rfl, _, key _ _ _ rfl, by simp only [Den, Den2, one, Den1]; rw [Int.toNat_of_nonneg hC]⟩
  · rename_i i ver
    cases hp
    simp only [getCs] at he
    have hc := h.ch i
    generalize hg : getC s.H i = c at he hc
    cases c <;> simp at he
    rename_i rt e ver' L
    split at he <;> simp at he
    rename_i hb
    have hb := beq_eq hb
    subst hb
    obtain ⟨rfl, rfl, rfl⟩ := he
    obtain ⟨h1, h2⟩ := hc
    obtain ⟨_, _, h3⟩ := hx
    refine ⟨by simp [Looks, getCs, hg], ?_⟩
    have h3 := h3 h1
    rcases h2 with ⟨⟨ao, h2⟩, h4, _⟩ | ⟨b, off, cap, h2, _⟩
    · rw [h2] at h3
      exact ⟨_, key _ _ _ h3, by simp [Den, Den2, one, Den1, h4]⟩
    · rw [h2] at h3
      exact ⟨_, key _ _ _ h3, by simp [Den, Den2, one, Den1]⟩
  · rename_i i
    cases hp
    simp only [getCs] at he
    have hc := h.ch i
    generalize hg : getC s.H i = c at he hc
    cases c <;> (try (simp at he; done))
    rename_i ks e L
    simp at he
    obtain ⟨rfl, rfl, rfl⟩ := he
    obtain ⟨b, es, clock, h1, h2, h3, h4⟩ := hc
    obtain ⟨b', h5, rfl⟩ := hx
    rw [h1] at h5
    cases h5
    obtain ⟨k, e', hu⟩ := hmp ⟨_, rfl⟩
    refine ⟨by simp [Looks, getCs, hg], .int .i64 es.size, ?_, ?_⟩
    · simp [Builtin.len_, run_underlying hu, MapKept.run_getObj_map h3, goInt]
    · have := h4.1.length
      simp [Den, Den2, one, Den1, this]
  · cases hp

end Go.Sx

/-
  Symbolic execution: indexes, slice expressions, conversions, min and max, literals.
-/
namespace Go.Sx
set_option linter.all false
open Go.RowKit

variable {A : Type} {AI : Abs A} {G : Fr} {s : SS A} {ρ : Ev} {a : Act} {w : World} {P : Program}

def elemOfK : TK → Option TypeId
  | .slice e _ => some e
  | .array _ e => some e
  | _ => none

theorem litNat_den {x : SV} {j : Nat} (h : litNat x = some j) {u : Value} (hu : Den ρ x u) : ∃ k, u = .int k (j : Int) := by
  unfold litNat at h
  split at h
  · cases h; exact ⟨_, hu⟩
  · cases h

theorem run_part {t : TypeId} {i : TI} (hT : TIfact P t i) {l : List SV1} {us : List Value} {v : SV} (hd : All2 (Den1 ρ) l us) {o : Nat} (hp : partOf i l o = some v) (w : World) :
    ∃ y, (Go.part t us.toArray o).run P w = .ok y w ∧ Den ρ v y := by
  unfold partOf at hp
  split at hp <;> (try (cases hp; done))
  rename_i l' hl'
  obtain ⟨h1, h2⟩ := hd.cut hl'
  unfold pack at hp
  split at hp
  · rename_i hi
    cases hp
    refine ⟨.agg (us.toArray.extract o (o + i.size)), ?_, _, ?_, h1⟩
    · simp [Go.part, hT.isAgg, hi, hT.sizeOf]
    · congr 1
      apply Array.ext'
      rw [Array.toList_extract]
      simp [List.extract_eq_take_drop]
  · rename_i hi
    split at hp
    · cases hp
      generalize hm : (us.drop o).take i.size = m at h1
      cases h1 with
      | cons h t =>
      cases t
      rename_i u
      refine ⟨u, ?_, h⟩
      have hu : us[o]? = some u := by
        have := congrArg (fun z : List Value => z[0]?) hm
        simp only [List.getElem?_take, List.getElem?_drop, List.getElem?_cons_zero] at this
        split at this
        · simpa using this
        · cases this
      simp [Go.part, hT.isAgg, hi, hu]
    · cases hp
theorem idxVal_sound {ti : List (Nat × TI)} (hti : TIok P ti) {t : TypeId} {i : TI} (hT : TIfact P t i) (h : Holds AI G s ρ a.tmps w) {x ix : SV} {u j : Value} (hx : Den ρ x u) (hj : Den ρ ix j) {p : Plan A} (hp : idxValP ti i x ix = some p) {d : List Bool} {C : U Prop} {v : SV} {cs : List (Chunk A)}
    (he : p.eff (getCs s.H p.ids) d = .done C v cs) (hC : C ()) : Looks s p cs ∧ ∃ y, (Instr.index t u j).run P w = .ok y w ∧ Den ρ v y := by
  have hk := hT.kind
  unfold idxValP at hp
  split at hp <;> (try (cases hp; done))
  rename_i n e ho
  rw [ho] at hk
  obtain ⟨hu, _⟩ := hk
  split at hp <;> (try (cases hp; done))
  rename_i l
  split at hp <;> (try (cases hp; done))
  rename_i ie hie
  have hTe := hti e ie hie
  obtain ⟨us, rfl, hx⟩ := hx
  have key : ∀ (m : Nat) (kk : IntKind) (v : SV), m < n → partOf ie l (m * ie.size) = some v → ∃ y, (Instr.index t (.agg us.toArray) (.int kk (m : Int))).run P w = .ok y w ∧ Den ρ v y := by
    intro m kk v hlt hpt
    obtain ⟨y, h1, h2⟩ := run_part hTe hx hpt w
    refine ⟨y, ?_, h2⟩
    have h3 : (0 : Int) ≤ m ∧ (m : Int) < (n : Int) := by omega
    simp [Instr.index, asIntOf, run_underlying hu, h3, hlt, hTe.sizeOf, h1]
  split at hp
  · rename_i m hm
    obtain ⟨kk, rfl⟩ := litNat_den hm hj
    split at hp <;> (try (cases hp; done))
    rename_i hlt
    have hlt : m < n := by have := leN hlt; omega
    split at hp <;> cases hp
    rename_i v' hv'
    simp at he
    obtain ⟨rfl, rfl, rfl⟩ := he
    exact ⟨rfl, key m kk _ hlt hv'⟩
  · split at hp <;> cases hp
    rename_i kk k hkk
    obtain rfl := ivalS_den hkk hj
    have main : ∀ (q j : Nat) (ds : List Bool), j + q = n → idxEff (A := A) ie l k q j ds = .done C v cs → cs = [] ∧ ∃ y, (Instr.index t (.agg us.toArray) (.int kk (k ()))).run P w = .ok y w ∧ Den ρ v y := by
      intro q
      induction q with
      | zero => intro j ds _ h; simp [idxEff] at h
      | succ q ih =>
        intro j ds hjl h
        cases q with
        | zero =>
          simp only [idxEff] at h
          split at h
          · rename_i v' ha
            simp at h
            obtain ⟨rfl, rfl, rfl⟩ := h
            have hC : k () = Int.ofNat j := hC
            rw [hC]
            exact ⟨rfl, key j kk _ (by omega) ha⟩
          · cases h
        | succ q =>
          cases ds with
          | nil => simp [idxEff] at h
          | cons b ds =>
            cases b with
            | true =>
              simp only [idxEff] at h
              split at h
              · rename_i v' ha
                simp at h
                obtain ⟨rfl, rfl, rfl⟩ := h
                have hC : k () = Int.ofNat j := hC
                rw [hC]
                exact ⟨rfl, key j kk _ (by omega) ha⟩
              · cases h
            | false =>
              simp only [idxEff] at h
              exact ih (j + 1) ds (by omega) h
    obtain ⟨rfl, h3⟩ := main n 0 d (by omega) he
    exact ⟨rfl, h3⟩

theorem index_sound {t : TypeId} {i : TI} (hT : TIfact P t i) (h : Holds AI G s ρ a.tmps w) {esz : Nat} (hz : ∀ e, elemOfK i.kind = some e → (Go.sizeOf e).run P w = .ok esz w) {x ix : SV} {u j : Value} (hx : Den ρ x u) (hj : Den ρ ix j) {p : Plan A} (hp : indexP i esz x ix = some p) {d : List Bool} {C : U Prop} {v : SV} {cs : List (Chunk A)}
    (he : p.eff (getCs s.H p.ids) d = .done C v cs) (hC : C ()) : Looks s p cs ∧ ∃ y, (Instr.indexAt t u j).run P w = .ok y w ∧ Den ρ v y := by
  have hk := hT.kind
  unfold indexP at hp
  split at hp
  · rename_i n e ho
    rw [ho] at hk hz
    obtain ⟨hu, _⟩ := hk
    have hz := hz e rfl
    split at hp
    · rename_i m hm
      obtain ⟨kk, rfl⟩ := litNat_den hm hj
      split at hp
      · rename_i hlt
        have hlt : m < n := by have := leN hlt; omega
        have key : ∀ q : Addr, (Instr.indexAt t (.pointer (some q)) (.int kk (m : Int))).run P w = .ok (.pointer (some (q.add (m * esz)))) w := by
          intro q
          have h1 : (0 : Int) ≤ m ∧ (m : Int) < (n : Int) := by omega
          simp [Instr.indexAt, asIntOf, run_underlying hu, Instr.sureAddr, h1, hz, hlt]
        split at hp
        · cases hp
          simp at he
          obtain ⟨rfl, rfl, rfl⟩ := he
          obtain ⟨b, e1, rfl⟩ := hx
          exact ⟨rfl, _, key _, b, e1, by rw [add_lit]⟩
        · cases hp
          simp at he
          obtain ⟨rfl, rfl, rfl⟩ := he
          obtain ⟨b, o', rfl, e1⟩ := hx
          exact ⟨rfl, _, key _, b, o', by rw [add_lit, Nat.add_assoc], e1⟩
        · cases hp
          simp at he
          obtain ⟨rfl, rfl, rfl⟩ := he
          obtain ⟨q, rfl, e1, e2⟩ := hx
          refine ⟨rfl, _, key _, _, rfl, e1, fun ev => ?_⟩
          obtain ⟨e3, b2, o2, len, cap, e4, rfl⟩ := e2 ev
          exact ⟨e3, b2, o2, len, cap, e4, by rw [add_lit, Nat.add_assoc]⟩
        · cases hp
      · cases hp
    · split at hp <;> cases hp
      rename_i kk k hkk
      obtain rfl := ivalS_den hkk hj
      have key : ∀ (m : Nat) (q : Addr), m < n → (Instr.indexAt t (.pointer (some q)) (.int kk (m : Int))).run P w = .ok (.pointer (some (q.add (m * esz)))) w := by
        intro m q hlt
        have h1 : (0 : Int) ≤ m ∧ (m : Int) < (n : Int) := by omega
        simp [Instr.indexAt, asIntOf, run_underlying hu, Instr.sureAddr, h1, hz, hlt]
      have at_ : ∀ (m : Nat) (v : SV), m < n → arrAt x (m * esz) = some v → k () = Int.ofNat m → ∃ y, (Instr.indexAt t u (.int kk (k ()))).run P w = .ok y w ∧ Den ρ v y := by
        intro m v hlt ha hk
        rw [hk]
        have key := fun q => key m q hlt
        unfold arrAt at ha
        split at ha <;> cases ha
        · obtain ⟨b, e1, rfl⟩ := hx
          exact ⟨_, key _, b, e1, by rw [add_lit]⟩
        · obtain ⟨b, o', rfl, e1⟩ := hx
          exact ⟨_, key _, b, o', by rw [add_lit, Nat.add_assoc], e1⟩
        · obtain ⟨q, rfl, e1, e2⟩ := hx
          refine ⟨_, key _, _, rfl, e1, fun ev => ?_⟩
          obtain ⟨e3, b2, o2, len, cap, e4, rfl⟩ := e2 ev
          exact ⟨e3, b2, o2, len, cap, e4, by rw [add_lit, Nat.add_assoc]⟩
      have main : ∀ (l j : Nat) (ds : List Bool), j + l = n → arrEff (A := A) x esz k l j ds = .done C v cs → cs = [] ∧ ∃ y, (Instr.indexAt t u (.int kk (k ()))).run P w = .ok y w ∧ Den ρ v y := by
        intro l
        induction l with
        | zero => intro j ds _ h; simp [arrEff] at h
        | succ l ih =>
          intro j ds hjl h
          cases l with
          | zero =>
            simp only [arrEff] at h
            split at h
            · rename_i v' ha
              simp at h
              obtain ⟨rfl, rfl, rfl⟩ := h
              exact ⟨rfl, at_ j _ (by omega) ha hC⟩
            · cases h
          | succ l =>
            cases ds with
            | nil => simp [arrEff] at h
            | cons b ds =>
              cases b with
              | true =>
                simp only [arrEff] at h
                split at h
                · rename_i v' ha
                  simp at h
                  obtain ⟨rfl, rfl, rfl⟩ := h
                  exact ⟨rfl, at_ j _ (by omega) ha hC⟩
                · cases h
              | false =>
                simp only [arrEff] at h
                exact ih (j + 1) ds (by omega) h
      obtain ⟨rfl, h3⟩ := main n 0 d (by omega) he
      exact ⟨rfl, h3⟩
  · rename_i e ty ho
    rw [ho] at hk hz
    obtain ⟨hu, _⟩ := hk
    have hz := hz e rfl
    split at hp
    · rename_i kk k hkk
      have hj := ivalS_den hkk hj
      subst hj
      have key : ∀ (q : Addr) (len cap : Nat), 0 ≤ k () ∧ k () < len → (Instr.indexAt t (.slice (some q) len cap) (.int kk (k ()))).run P w = .ok (.pointer (some (q.add ((k ()).toNat * esz)))) w := by
        intro q len cap h1
        simp [Instr.indexAt, asIntOf, run_underlying hu, h1, hz]
      split at hp
      · rename_i e' L
        split at hp
        · rename_i hb
          have hb := beq_eq hb
          subst hb
          cases hp
          simp at he
          obtain ⟨rfl, rfl, rfl⟩ := he
          obtain ⟨ao, cap, rfl, h2, h3⟩ := hx
          have hk' : (k ()).toNat < (L ()).length := by have := hC.1; have := hC.2; omega
          obtain ⟨b, off, rfl, h4⟩ := h3 (by omega)
          refine ⟨rfl, _, key _ _ _ hC, b, off + (k ()).toNat * e'.size, by simp [add_lit], hC.1, hC.2, fun x hx => ?_⟩
          exact h4 _ _ hx
        · cases hp
      · rename_i i' ver
        cases hp
        simp only [getCs] at he
        have hc := h.ch i'
        generalize hg : getC s.H i' = c at he hc
        cases c <;> simp at he
        rename_i rt e' ver' L
        split at he <;> (try simp at he)
        rename_i hb
        obtain ⟨hb1, hb2⟩ := Bool.and_eq_true_iff.1 hb
        have hb1 := beq_eq hb1
        have hb2 := beq_eq hb2
        subst hb1; subst hb2
        obtain ⟨rfl, rfl, rfl⟩ := he
        obtain ⟨h2, h3⟩ := hc
        obtain ⟨_, h1, h4⟩ := hx
        have h4 := h4 h2
        subst h4
        refine ⟨by simp [Looks, getCs, hg], ?_⟩
        rcases h3 with ⟨_, h3, _⟩ | ⟨b', off', cap', h5, _⟩
        · exfalso; have := hC.1; have := hC.2; rw [h3] at this; simp at this; omega
        · rw [h5]
          exact ⟨_, key _ _ _ hC, _, rfl, h1, fun _ => ⟨hC.1, b', off', _, cap', h5, by simp [add_lit]⟩⟩
      · cases hp
    · cases hp
  · cases hp

theorem run_bytesToString_list {b off len cap : Nat} {l : List Int} (hl : l.length = len) (hc : ∀ (j : Nat) x, l[j]? = some x → w.cell? ⟨b, off + j, none⟩ = some (.int .u8 x)) :
    (Conv.bytesToString (.slice (some ⟨b, off, none⟩) len cap)).run P w = .ok (.string ⟨(l.map fun x => x.toNat.toUInt8).toArray⟩) w := by
  have h1 := run_loadCells_list (P := P) w ⟨b, off, none⟩ (l.map (Value.int .u8)) (fun j v h => by
    rw [add_lit]
    simp only [List.getElem?_map, Option.map_eq_some_iff] at h
    obtain ⟨x, hx, rfl⟩ := h
    exact hc j x hx)
  rw [List.length_map, hl] at h1
  rw [run_bytesToString w _ len cap l h1]
  congr 2
  have key : ∀ (l : List Int) (r : ByteArray), l.foldl (fun r n => r.push (UInt8.ofNat n.toNat)) r = ⟨r.data ++ (l.map fun x => x.toNat.toUInt8).toArray⟩ := by
    intro l
    induction l with
    | nil => intro r; cases r; simp
    | cons x r ih =>
      intro q
      rw [List.foldl_cons, ih]
      cases q
      simp [ByteArray.push]
  rw [key]
  simp [ByteArray.empty, ByteArray.emptyWithCapacity]
  rfl

theorem encode_low {n : Int} (h0 : 0 ≤ n) (h1 : n < 128) : Utf8.encode n = ⟨([n].map fun x => x.toNat.toUInt8).toArray⟩ := by
  have hv : Utf8.valid n = true := by unfold Utf8.valid; simp; omega
  unfold Utf8.encode
  simp only [hv, if_true]
  rw [if_pos (by omega)]
  rfl
theorem convert_sound {ts td : TypeId} {i j : TI} (hS : TIfact P ts i) (hT : TIfact P td j) (h : Holds AI G s ρ a.tmps w) {x : SV} {u : Value} (hx : Den ρ x u) {p : Plan A} (hp : convertP i j x = some p) {d : List Bool} {C : U Prop} {v : SV} {cs : List (Chunk A)}
    (he : p.eff (getCs s.H p.ids) d = .done C v cs) (hC : C ()) (hsl : (∃ ao l c, u = .slice ao l c) → ∃ e, P.underlying ts = some (.slice e) ∧ P.underlying e = some (.int .u8)) (hint : (∃ k n, u = .int k n) → ∃ d, P.underlying ts = some d) (hst : (∃ l, u = .string l) → P.underlying ts = some .string) :
    Looks s p cs ∧ ∃ y, (convert ts td u).run P w = .ok y w ∧ Den ρ v y := by
  have hk := hT.kind
  unfold convertP at hp
  split at hp
  · rename_i k' k n ho
    rw [ho] at hk
    cases hf : fit k' n with
    | mk C' v' =>
      rw [hf] at hp
      cases hp
      simp at he
      obtain ⟨rfl, rfl, rfl⟩ := he
      cases hx
      obtain ⟨d', hd'⟩ := hint ⟨_, _, rfl⟩
      refine ⟨rfl, _, ?_, fit_den hf hC⟩
      simp [convert, run_underlying hd', run_underlying hk, Conv.intToInt]
  · rename_i k' k n ho
    rw [ho] at hk
    cases hf : fit k' (fun _ => n) with
    | mk C' v' =>
      rw [hf] at hp
      cases hp
      simp at he
      obtain ⟨rfl, rfl, rfl⟩ := he
      cases hx
      obtain ⟨d', hd'⟩ := hint ⟨_, _, rfl⟩
      refine ⟨rfl, _, ?_, fit_den hf hC⟩
      simp [convert, run_underlying hd', run_underlying hk, Conv.intToInt]
  · rename_i n ho
    rw [ho] at hk
    cases hp
    simp at he
    obtain ⟨rfl, rfl, rfl⟩ := he
    cases hx
    obtain ⟨d', hd'⟩ := hint ⟨_, _, rfl⟩
    have hC : 0 ≤ n () ∧ n () < 128 := hC
    refine ⟨rfl, .string (Utf8.encode (n ())), ?_, congrArg Value.string (encode_low hC.1 hC.2)⟩
    simp [convert, run_underlying hd', run_underlying hk, Conv.intToString]
  · rename_i l ho
    rw [ho] at hk
    cases hp
    simp at he
    obtain ⟨rfl, rfl, rfl⟩ := he
    have hx := showsB_iff.2 hx
    obtain ⟨ao, cap, rfl, h1, h2⟩ := hx
    obtain ⟨e, hu, hu8⟩ := hsl ⟨_, _, _, rfl⟩
    refine ⟨rfl, _, ?_, rfl⟩
    cases ao with
    | none =>
      have : l () = [] := by
        rcases Nat.eq_zero_or_pos (l ()).length with h0 | h0
        · exact List.eq_nil_of_length_eq_zero h0
        · obtain ⟨b, off, h3, _⟩ := h2 h0; cases h3
      simp [convert, run_underlying hu, run_underlying hk, run_underlying hu8, Conv.bytesToString, this, ByteArray.empty, ByteArray.emptyWithCapacity]
      rfl
    | some q =>
      rcases Nat.eq_zero_or_pos (l ()).length with h0 | h0
      · have e0 := List.eq_nil_of_length_eq_zero h0
        have h3 := run_loadCells_list (P := P) w q [] (by simp)
        have h4 := run_bytesToString w q 0 cap [] (by simpa using h3)
        simp [convert, run_underlying hu, run_underlying hk, run_underlying hu8, e0, h4, ByteArray.empty, ByteArray.emptyWithCapacity]
        rfl
      · obtain ⟨b, off, h3, h4⟩ := h2 h0
        cases h3
        have h5 := run_bytesToString_list (P := P) (w := w) (cap := cap) rfl (fun j x hj => (h.im _ _ _ (h4 j x hj)).1)
        simp [convert, run_underlying hu, run_underlying hk, run_underlying hu8, h5]
  · rename_i ho
    rw [ho] at hk
    cases hp
    simp at he
    obtain ⟨rfl, rfl, rfl⟩ := he
    cases hx
    obtain ⟨e, hu, hu8⟩ := hsl ⟨_, _, _, rfl⟩
    refine ⟨rfl, _, ?_, rfl⟩
    simp [convert, run_underlying hu, run_underlying hk, run_underlying hu8, Conv.bytesToString, ByteArray.empty, ByteArray.emptyWithCapacity]
    rfl
  · rename_i l ho
    rw [ho] at hk
    cases hp
    simp at he
    obtain ⟨rfl, rfl, rfl⟩ := he
    cases hx
    have hu := hst ⟨_, rfl⟩
    exact ⟨rfl, _, by simp [convert, run_underlying hu, run_underlying hk], rfl⟩
  · rename_i i' ver ho
    rw [ho] at hk
    cases hp
    simp only [getCs] at he
    have hc := h.ch i'
    generalize hg : getC s.H i' = c at he hc
    cases c <;> (try (simp at he; done))
    rename_i rt e' ver' L
    cases e'
    case int k =>
      cases k <;> (try (simp at he; done))
      dsimp only at he
      split at he <;> (try simp at he)
      rename_i hb
      have hb := beq_eq hb
      subst hb
      obtain ⟨rfl, rfl, rfl⟩ := he
      obtain ⟨h2, h3⟩ := hc
      obtain ⟨h6, h1, h4⟩ := hx
      obtain ⟨e, hu, hu8⟩ := hsl h6
      have h4 := h4 h2
      subst h4
      refine ⟨by simp [Looks, getCs, hg], _, ?_, rfl⟩
      rcases h3 with ⟨⟨ao, h3⟩, h5, _⟩ | ⟨b', off', cap', h5, _, _, _, h7, _⟩
      · rw [h3]
        cases ao with
        | some q =>
          have h3 := run_loadCells_list (P := P) w q [] (by simp)
          have h4 := run_bytesToString w q 0 0 [] (by simpa using h3)
          simp [convert, run_underlying hu, run_underlying hk, run_underlying hu8, h5, h4, ByteArray.empty, ByteArray.emptyWithCapacity]
          rfl
        | none =>
        simp [convert, run_underlying hu, run_underlying hk, run_underlying hu8, Conv.bytesToString, ByteArray.empty, ByteArray.emptyWithCapacity, h5]
        rfl
      · rw [h5]
        have h8 := run_bytesToString_list (P := P) (w := w) (cap := cap') rfl (fun j x hj => by have := h7 j x hj; simpa [CellsM, Ty.size] using this)
        simp [convert, run_underlying hu, run_underlying hk, run_underlying hu8, h8]
    all_goals simp at he
  · rename_i i' ver esz lo n ho
    rw [ho] at hk
    cases hp
    simp only [getCs] at he
    have hc := h.ch i'
    generalize hg : getC s.H i' = c at he hc
    cases c <;> (try (simp at he; done))
    rename_i rt e' ver' L
    cases e'
    case int k =>
      cases k <;> (try (simp at he; done))
      dsimp only at he
      split at he <;> (try simp at he)
      rename_i hb
      obtain ⟨hb, hbz⟩ := Bool.and_eq_true_iff.1 hb
      have hb := beq_eq hb
      have hbz := beq_eq hbz
      subst hb; subst hbz
      obtain ⟨rfl, rfl, rfl⟩ := he
      obtain ⟨h2, h3⟩ := hc
      obtain ⟨h6, h0, h1, h4⟩ := hx
      obtain ⟨e, hu, hu8⟩ := hsl h6
      have h4 := h4 h2
      obtain ⟨ao, len, cap, h7, h8, h9, h10, h11, rfl⟩ := h4
      refine ⟨by simp [Looks, getCs, hg], _, ?_, rfl⟩
      have hn : ∀ q : Option Addr, n () = 0 → (convert ts td (.slice q 0 (cap - (lo ()).toNat))).run P w = .ok (.string ⟨(([] : List Int).map fun x => x.toNat.toUInt8).toArray⟩) w := by
        intro q _
        cases q with
        | some q =>
          have h3 := run_loadCells_list (P := P) w q [] (by simp)
          have h4 := run_bytesToString w q 0 (cap - (lo ()).toNat) [] (by simpa using h3)
          simp [convert, run_underlying hu, run_underlying hk, run_underlying hu8, h4, ByteArray.empty, ByteArray.emptyWithCapacity]
          rfl
        | none =>
          simp [convert, run_underlying hu, run_underlying hk, run_underlying hu8, Conv.bytesToString, ByteArray.empty, ByteArray.emptyWithCapacity]
          rfl
      by_cases hz : n () = 0
      · have hz' : (n ()).toNat = 0 := by omega
        have := hn (if cap = (lo ()).toNat then ao else ao.map (·.add ((lo ()).toNat * 1))) hz
        simpa [hz'] using this
      · rcases h3 with ⟨⟨ao', h3⟩, h5, _⟩ | ⟨b', off', cap', h5, _, _, _, h12, _⟩
        · rw [h7] at h3; cases h3; omega
        · rw [h7] at h5
          cases h5
          rw [if_neg (by omega)]
          have hlen : (((L ()).drop (lo ()).toNat).take (n ()).toNat).length = (n ()).toNat := by rw [List.length_take, List.length_drop]; omega
          have h13 := run_bytesToString_list (P := P) (w := w) (b := b') (off := off' + (lo ()).toNat) (cap := cap - (lo ()).toNat) hlen (fun j x hj => by
            rw [List.getElem?_take] at hj
            split at hj
            · rw [List.getElem?_drop] at hj
              have := h12 _ x hj
              simpa [CellsM, Ty.size, Nat.add_assoc] using this
            · cases hj)
          simp [add_lit, convert, run_underlying hu, run_underlying hk, run_underlying hu8, h13]
    all_goals simp at he
  · cases hp

theorem run_sliceBound (kk : IntKind) {n : Int} {y : Nat} (c : BoundsCode) (h0 : 0 ≤ n) (h1 : n ≤ y) : (Instr.sliceBound (.int kk n) y c).run P w = .ok n.toNat w := by
  simp [Instr.sliceBound, asIntOf, h0, h1]

/-- The value of an optional bound. -/
def OptDen (ρ : Ev) : Option SV → Option Value → Prop
  | none, none => True
  | some x, some v => Den ρ x v
  | _, _ => False

theorem intArg_den {x : Option SV} {y : Option (U Int)} (h : intArg x = some y) {v : Option Value} (hv : OptDen ρ x v) :
    (y = none ∧ v = none) ∨ ∃ k n, y = some n ∧ v = some (.int k (n ())) := by
  cases x with
  | none => cases v with
    | none => cases h; exact .inl ⟨rfl, rfl⟩
    | some v => cases hv
  | some x => cases v with
    | none => cases hv
    | some v =>
      simp only [intArg] at h
      split at h
      · rename_i k n hk
        cases h
        exact .inr ⟨k, n, rfl, by rw [ivalS_den hk hv]⟩
      · cases h

theorem run_slice_slice {t e : TypeId} {esz : Nat} (hu : P.underlying t = some (.slice e)) (hz : (Go.sizeOf e).run P w = .ok esz w) {ao : Option Addr} {len cap : Nat} (hlc : len ≤ cap)
    {lo hi : Option SV} {lv hv : Option Value} {lo' hi' : Option (U Int)} (h1 : intArg lo = some lo') (h2 : intArg hi = some hi') (d1 : OptDen ρ lo lv) (d2 : OptDen ρ hi hv)
    (n : U Int) (hn : n () = len) (c0 : 0 ≤ loOf lo' ()) (c1 : loOf lo' () ≤ hiOf hi' n ()) (c2 : hiOf hi' n () ≤ len) :
    (Instr.sliceAt t (.slice ao len cap) lv hv none).run P w =
      .ok (.slice (if cap = (loOf lo' ()).toNat then ao else ao.map (·.add ((loOf lo' ()).toNat * esz))) (hiOf hi' n () - loOf lo' ()).toNat (cap - (loOf lo' ()).toNat)) w := by
  have hb : (Instr.sliceBounds true len cap lv hv none).run P w = .ok ((loOf lo' ()).toNat, (hiOf hi' n ()).toNat, cap) w := by
    rcases intArg_den h1 d1 with ⟨rfl, rfl⟩ | ⟨k1, n1, rfl, rfl⟩ <;> rcases intArg_den h2 d2 with ⟨rfl, rfl⟩ | ⟨k2, n2, rfl, rfl⟩ <;> simp only [loOf, hiOf] at c0 c1 c2 ⊢
    · simp [Instr.sliceBounds, hn]
    · have e2 := run_sliceBound (P := P) (w := w) k2 (n := n2 ()) (y := cap) .sliceAcap (by omega) (by omega)
      simp [Instr.sliceBounds, e2]
    · have e1 := run_sliceBound (P := P) (w := w) k1 (n := n1 ()) (y := len) .sliceB c0 (by omega)
      simp [Instr.sliceBounds, e1, hn]
    · have e2 := run_sliceBound (P := P) (w := w) k2 (n := n2 ()) (y := cap) .sliceAcap (by omega) (by omega)
      have e1 := run_sliceBound (P := P) (w := w) k1 (n := n1 ()) (y := (n2 ()).toNat) .sliceB c0 (by omega)
      simp [Instr.sliceBounds, e1, e2]
  have e3 : (hiOf hi' n ()).toNat - (loOf lo' ()).toNat = (hiOf hi' n () - loOf lo' ()).toNat := by omega
  simp [Instr.sliceAt, Instr.slice, run_underlying hu, hb, hz, e3]

theorem slice_sound {t : TypeId} {i : TI} (hT : TIfact P t i) (h : Holds AI G s ρ a.tmps w) {esz : Nat} (hz : ∀ e, elemOfK i.kind = some e → (Go.sizeOf e).run P w = .ok esz w) {x : SV} {lo hi mx : Option SV} {u : Value} {lv hv mv : Option Value}
    (hx : Den ρ x u) (d1 : OptDen ρ lo lv) (d2 : OptDen ρ hi hv) (d3 : OptDen ρ mx mv) {p : Plan A} (hp : sliceP i esz x lo hi mx = some p) {d : List Bool} {C : U Prop} {v : SV} {cs : List (Chunk A)}
    (he : p.eff (getCs s.H p.ids) d = .done C v cs) (hC : C ()) : Looks s p cs ∧ ∃ y, (Instr.sliceAt t u lv hv mv).run P w = .ok y w ∧ Den ρ v y := by
  have hk := hT.kind
  unfold sliceP at hp
  split at hp
  · rename_i e ty ho
    rw [ho] at hk hz
    obtain ⟨hu, _⟩ := hk
    have hz := hz e rfl
    have : mv = none := by cases mv with
      | none => rfl
      | some _ => cases d3
    subst this
    split at hp
    · rename_i lo' h1
      split at hp
      · rename_i hi' h2
        split at hp
        · rename_i e' L
          split at hp
          · cases hp
          · rename_i hb
            have hb := beq_eq hb
            subst hb
            cases hp
            simp at he
            obtain ⟨rfl, rfl, rfl⟩ := he
            obtain ⟨ao, cap, rfl, hlc, h3⟩ := hx
            obtain ⟨c0, c1, c2⟩ := hC
            refine ⟨rfl, _, run_slice_slice hu hz hlc h1 h2 d1 d2 _ rfl c0 c1 c2, ?_⟩
            generalize loOf lo' = l at *
            generalize hiOf hi' (fun _ => ((L ()).length : Int)) = hh at *
            have hlen : (((L ()).take (hh ()).toNat).drop (l ()).toNat).length = (hh () - l ()).toNat := by rw [List.length_drop, List.length_take]; omega
            refine ⟨_, _, by rw [hlen], by rw [hlen]; omega, fun hpos => ?_⟩
            rw [hlen] at hpos
            obtain ⟨b, off, rfl, h4⟩ := h3 (by omega)
            rw [if_neg (by omega)]
            refine ⟨b, off + (l ()).toNat * e'.size, by simp [add_lit], fun j x hj => ?_⟩
            rw [List.getElem?_drop, List.getElem?_take] at hj
            split at hj
            · have := h4 _ _ hj
              refine CellsM.congr _ this fun k v _ hv => ?_
              rw [← hv]
              congr 1
              rw [Nat.add_mul]; omega
            · cases hj
        · rename_i i' ver
          cases hp
          simp only [getCs] at he
          have hc := h.ch i'
          generalize hg : getC s.H i' = c at he hc
          cases c <;> simp at he
          rename_i rt e' ver' L
          split at he <;> (try simp at he)
          rename_i hb
          obtain ⟨hb1, hb2⟩ := Bool.and_eq_true_iff.1 hb
          have hb1 := beq_eq hb1
          have hb2 := beq_eq hb2
          subst hb1; subst hb2
          obtain ⟨rfl, rfl, rfl⟩ := he
          obtain ⟨h5, h6⟩ := hc
          obtain ⟨_, h7, h8⟩ := hx
          have h8 := h8 h5
          subst h8
          obtain ⟨c0, c1, c2⟩ := hC
          refine ⟨by simp [Looks, getCs, hg], ?_⟩
          obtain ⟨ao, cap, hr, hlc⟩ : ∃ ao cap, ρ.root i' = .slice ao (L ()).length cap ∧ (L ()).length ≤ cap := by
            rcases h6 with ⟨⟨ao, h3⟩, h4, _⟩ | ⟨b', off', cap', h3, _, h4, _⟩
            · exact ⟨ao, 0, by rw [h3, h4]; rfl, by rw [h4]; simp⟩
            · exact ⟨_, _, h3, h4⟩
          rw [hr]
          refine ⟨_, run_slice_slice hu hz hlc h1 h2 d1 d2 _ rfl c0 c1 c2, ⟨_, _, _, rfl⟩, fun _ => ⟨_, _, rfl⟩, h7, fun _ => ?_⟩
          exact ⟨ao, _, cap, hr, c0, by dsimp only; omega, by dsimp only; omega, hlc, rfl⟩
        · cases hp
      · cases hp
    · cases hp
  · cases hp

theorem run_max2' (ats : Array TypeId) (ty : TypeId) (k : IntKind) (a b : Int) (w : World) : (Builtin.max_ ats ty #[.int k a, .int k b]).run P w = .ok (.int k (max a b)) w := by
  have e : (if b > a then b else a) = max a b := by omega
  simp [Builtin.max_, Builtin.max2, e]
theorem run_min2' (ats : Array TypeId) (ty : TypeId) (k : IntKind) (a b : Int) (w : World) : (Builtin.min_ ats ty #[.int k a, .int k b]).run P w = .ok (.int k (min a b)) w := by
  have e : (if b < a then b else a) = min a b := by omega
  simp [Builtin.min_, Builtin.min2, e]
theorem run_max3' (ats : Array TypeId) (ty : TypeId) (k : IntKind) (a b c : Int) (w : World) : (Builtin.max_ ats ty #[.int k a, .int k b, .int k c]).run P w = .ok (.int k (max (max a b) c)) w := by
  have e : (if b > a then b else a) = max a b := by omega
  have e' : ∀ z : Int, (if c > z then c else z) = max z c := by intro z; omega
  simp [Builtin.max_, Builtin.max2, e, e']
theorem run_min3' (ats : Array TypeId) (ty : TypeId) (k : IntKind) (a b c : Int) (w : World) : (Builtin.min_ ats ty #[.int k a, .int k b, .int k c]).run P w = .ok (.int k (min (min a b) c)) w := by
  have e : (if b < a then b else a) = min a b := by omega
  have e' : ∀ z : Int, (if c < z then c else z) = min z c := by intro z; omega
  simp [Builtin.min_, Builtin.min2, e, e']

theorem All2.two {α β : Type} {R : α → β → Prop} {x y : α} {us : List β} (h : All2 R [x, y] us) : ∃ a b, us = [a, b] ∧ R x a ∧ R y b := by
  cases h with | cons h1 h => cases h with | cons h2 h => cases h; exact ⟨_, _, rfl, h1, h2⟩
theorem All2.three {α β : Type} {R : α → β → Prop} {x y z : α} {us : List β} (h : All2 R [x, y, z] us) : ∃ a b c, us = [a, b, c] ∧ R x a ∧ R y b ∧ R z c := by
  cases h with | cons h1 h => cases h with | cons h2 h => cases h with | cons h3 h => cases h; exact ⟨_, _, _, rfl, h1, h2, h3⟩
theorem minmax_sound {isMax : Bool} {xs : List SV} {us : List Value} (hx : All2 (Den ρ) xs us) {p : Plan A} (hp : minmaxP isMax xs = some p) (ats : Array TypeId) (ty : TypeId) :
    ∃ C v, p = ⟨[], 0, false, fun _ _ => .done C v []⟩ ∧ (C () → ∃ y, (if isMax then Builtin.max_ ats ty us.toArray else Builtin.min_ ats ty us.toArray).run P w = .ok y w ∧ Den ρ v y) := by
  unfold minmaxP at hp
  split at hp
  · rename_i x y
    obtain ⟨u1, u2, rfl, hx, hy⟩ := hx.two
    split at hp
    · rename_i k m hm
      split at hp
      · rename_i k' n hn
        split at hp
        · rename_i hk
          simp at hk
          subst hk
          cases hp
          rw [ivalS_den hm hx, ivalS_den hn hy]
          refine ⟨_, _, rfl, fun _ => ?_⟩
          cases isMax
          · exact ⟨_, run_min2' ats ty _ _ _ _, rfl⟩
          · exact ⟨_, run_max2' ats ty _ _ _ _, rfl⟩
        · cases hp
      · cases hp
    · cases hp
  · rename_i x y z
    obtain ⟨u1, u2, u3, rfl, hx, hy, hz⟩ := hx.three
    split at hp
    · rename_i k m hm
      split at hp
      · rename_i k' n hn
        split at hp
        · rename_i k'' o ho
          split at hp
          · rename_i hk
            obtain ⟨hk1, hk2⟩ := Bool.and_eq_true_iff.1 hk
            simp at hk1 hk2
            subst hk1; subst hk2
            rw [ivalS_den hm hx, ivalS_den hn hy, ivalS_den ho hz]
            cases isMax
            · simp only [maxOf, ivalS, one, ival] at hp
              cases hp
              exact ⟨_, _, rfl, fun _ => ⟨_, run_min3' ats ty _ _ _ _ _, rfl⟩⟩
            · simp only [maxOf, ivalS, one, ival] at hp
              cases hp
              exact ⟨_, _, rfl, fun _ => ⟨_, run_max3' ats ty _ _ _ _ _, rfl⟩⟩
          · cases hp
        · cases hp
      · cases hp
    · cases hp
  · cases hp

end Go.Sx

/-
  Symbolic execution: operations that write or make memory.
-/
namespace Go.Sx
set_option linter.all false
open Go.RowKit

variable {A : Type} {AI : Abs A} {G : Fr} {s : SS A} {ρ : Ev} {a : Act} {w : World} {P : Program}

def Ev.upd (ρ : Ev) (i : Nat) (r : Value) (v : Nat) (F : List Nat) : Ev :=
  { root := fun k => if k = i then r else ρ.root k, ver := fun k => if k = i then v else ρ.ver k, M := ρ.M, foot := fun k => if k = i then F else ρ.foot k }

theorem Holds.upd1 {tmps : Array Value} (h : Holds AI G s ρ tmps w) (i : Nat) (r : Value) (v : Nat) (F : List Nat) (c : Chunk A) (w' : World)
    (hr : ∀ b, ρ.root i = .pointer (some ⟨b, 0, none⟩) → r = .pointer (some ⟨b, 0, none⟩)) (hv : ρ.ver i ≤ v) (hs : ρ.ver i = v → (∃ ao l c, ρ.root i = .slice ao l c) → r = ρ.root i)
    (foot : ∀ b ∈ F, (b ∈ ρ.foot i ∨ w.heap.size ≤ b) ∧ b < w'.heap.size)
    (blocks : ∀ b, b < w.heap.size → b ∉ ρ.foot i → w'.heap[b]? = w.heap[b]?)
    (os : w'.os = w.os) (tape : w'.tape = w.tape) (output : w'.output = w.output) (size : w.heap.size ≤ w'.heap.size)
    (hc : HoldsC AI (ρ.upd i r v F) w' i c) : Holds AI G ⟨s.tm, putC s.H i c⟩ (ρ.upd i r v F) tmps w' ∧ ρ.Le (ρ.upd i r v F) := by
  have le : ρ.Le (ρ.upd i r v F) := by
    refine ⟨fun _ _ _ h => h, fun k b hk => ?_, fun k => ?_, fun k e hk => ?_⟩
    · simp only [Ev.upd]; split
      · rename_i e; subst e; exact hr b hk
      · exact hk
    · simp only [Ev.upd]; split
      · rename_i e; subst e; exact hv
      · exact Nat.le_refl _
    · simp only [Ev.upd] at e ⊢; split
      · rename_i e'; subst e'; rw [if_pos rfl] at e; exact hs e hk
      · rfl
  refine ⟨h.step (fun k => k = i) le rfl (fun k hk => ?_) (fun k hk b hb => ?_) (fun k j b hk hj hkj _ => ?_) (fun b hb hn => blocks b hb (hn i rfl)) os tape output size (fun k hk => ?_), le⟩
  · simp [Ev.upd, hk, getC_putC]
  · subst hk
    simp only [Ev.upd, if_pos] at hb
    obtain ⟨h1, h2⟩ := foot b hb
    exact ⟨h1.imp (fun h => ⟨k, rfl, h⟩) id, h2⟩
  · exact absurd (hk.trans hj.symm) hkj
  · subst hk
    rw [getC_putC, if_pos rfl]
    exact hc

/-- What an operation yields: a value, a new world in which the new chunks hold. -/
def Done (AI : Abs A) (G : Fr) (P : Program) (s : SS A) (a : Act) (w : World) (ρ : Ev) (x : Sem Value) (H' : List (Chunk A)) (v : SV) : Prop :=
  ∃ y ρ' w', x.run P w = .ok y w' ∧ Holds AI G ⟨s.tm, H'⟩ ρ' a.tmps w' ∧ Den ρ' v y ∧ ρ.Le ρ'

theorem Done.looks (h : Holds AI G s ρ a.tmps w) {p : Plan A} {cs : List (Chunk A)} {x : Sem Value} {v : SV} (hl : Looks s p cs) (hx : ∃ y, x.run P w = .ok y w ∧ Den ρ v y) :
    Done AI G P s a w ρ x (putCs s.H p.ids cs) v := by
  obtain ⟨y, h1, h2⟩ := hx
  refine ⟨y, ρ, w, h1, h.congrH fun i => ?_, h2, .refl _⟩
  rw [hl]; exact putCs_self _ _ _ (fun _ => rfl) i

theorem alloc_get (w : World) (o : Obj) : (w.alloc o).heap[w.heap.size]? = some o := by show (w.heap.push o)[w.heap.size]? = some o; simp
theorem alloc_lt (w : World) (o : Obj) {b : Nat} (hb : b < w.heap.size) : (w.alloc o).heap[b]? = w.heap[b]? := Below.heap_alloc w o b hb

/-- What is new stays as it is. -/
theorem Holds.more {tmps : Array Value} (h : Holds AI G s ρ tmps w) {w' : World} (old : ∀ b, b < w.heap.size → w'.heap[b]? = w.heap[b]?) (os : w'.os = w.os) (tape : w'.tape = w.tape) (output : w'.output = w.output) (size : w.heap.size ≤ w'.heap.size) :
    ∃ ρ' : Ev, Holds AI G s ρ' tmps w' ∧ ρ.Le ρ' ∧ ρ'.root = ρ.root ∧ ρ'.ver = ρ.ver ∧ ρ'.foot = ρ.foot ∧ ∀ b o v, w.heap.size ≤ b → w'.cell? ⟨b, o, none⟩ = some v → ρ'.M b o = some v := by
  have hM : ∀ b o v, ρ.M b o = some v → b < w.heap.size := fun b o v hm => World.block_lt_of_cell? w ⟨b, o, none⟩ (h.im b o v hm).1
  let ρ' : Ev := { ρ with M := fun b o => if w.heap.size ≤ b then w'.cell? ⟨b, o, none⟩ else ρ.M b o }
  have le : ρ.Le ρ' := ⟨fun b o v hm => by have := hM b o v hm; simp only [ρ']; rw [if_neg (by omega)]; exact hm, fun _ _ h => h, fun _ => Nat.le_refl _, fun _ _ _ => rfl⟩
  refine ⟨ρ', ⟨h.sz, h.gt, fun t v ht => ?_, fun i => (h.ch i).stays le rfl rfl rfl fun b hb => old b (h.lt i b hb), h.dis, fun i b hb => Nat.lt_of_lt_of_le (h.lt i b hb) size, fun b o v hm => ?_, os.trans h.os, tape.trans h.tape, output.trans h.output, Nat.le_trans h.grow size,
    fun b hb hn => (old b (Nat.lt_of_lt_of_le hb h.grow)).trans (h.kept b hb hn), h.fro, h.rt, h.rts, fun b o v hm => le.M b o v (h.mono b o v hm), fun b o v hm => ?_⟩, le, rfl, rfl, rfl, fun b o v hb hc => by simp only [ρ']; rw [if_pos hb]; exact hc⟩
  · obtain ⟨u, h1, h2⟩ := h.tm t v ht; exact ⟨u, h1, h2.mono le⟩
  · simp only [ρ'] at hm
    split at hm
    · rename_i hb
      exact ⟨hm, fun i hi => by have := h.lt i b hi; omega⟩
    · have := hM b o v hm
      exact ⟨(cell_congr (old b this) o).trans (h.im b o v hm).1, (h.im b o v hm).2⟩
  · simp only [ρ'] at hm
    split at hm
    · rename_i hb; exact .inr (.inr (Nat.le_trans h.grow hb))
    · exact h.mfr b o v hm

/-- A new chunk of cells. -/
theorem Holds.alloc (h : Holds AI G s ρ a.tmps w) {i : Nat} (hi : getC s.H i = .emp) {t : TypeId} {cs : List SV1} {vs : List Value} (hd : All2 (Den1 ρ) cs vs) :
    ∃ ρ', Holds AI G ⟨s.tm, putC s.H i (.cells t cs)⟩ ρ' a.tmps (w.alloc (.cells vs.toArray t (0, 0))) ∧ Den ρ' (one (.ptr i 0)) (.pointer (some ⟨w.heap.size, 0, none⟩)) ∧ ρ.Le ρ' := by
  have hc := h.ch i
  rw [hi] at hc
  obtain ⟨h1, h2, h3⟩ := hc
  obtain ⟨h4, h5⟩ := h.upd1 i (.pointer (some ⟨w.heap.size, 0, none⟩)) 0 [w.heap.size] (.cells t cs) (w.alloc (.cells vs.toArray t (0, 0)))
    (by rw [h2]; simp) (by omega) (by rw [h2]; simp) (by simp) (fun b hb _ => alloc_lt w _ hb) rfl rfl rfl (by simp)
    (by
      refine ⟨w.heap.size, vs, by simp [Ev.upd], by simp [Ev.upd], alloc_get _ _, hd.mono fun _ _ hx => Den1.mono ?_ hx⟩
      refine ⟨fun _ _ _ h => h, fun k b hk => ?_, fun k => ?_, fun k e hk => ?_⟩
      · simp only [Ev.upd]; split
        · rename_i e; subst e; rw [h2] at hk; cases hk
        · exact hk
      · simp only [Ev.upd]; split
        · rename_i e; subst e; omega
        · exact Nat.le_refl _
      · simp only [Ev.upd]; split
        · rename_i e; subst e; rw [h2] at hk; obtain ⟨_, _, _, hk⟩ := hk; cases hk
        · rfl)
  exact ⟨_, h4, ⟨w.heap.size, by simp [Ev.upd], rfl⟩, h5⟩

theorem storable_one {x : SV1} {v : Value} (h : storable x = true) (hd : Den1 ρ x v) : v.oneCell' = true := by
  cases x <;> simp [storable] at h <;> simp only [Den1] at hd
  case ptr => obtain ⟨_, _, rfl⟩ := hd; rfl
  case mp => obtain ⟨_, _, rfl⟩ := hd; rfl
  case ro => obtain ⟨_, _, rfl, _⟩ := hd; rfl
  case hd => obtain ⟨⟨_, _, _, rfl⟩, _⟩ := hd; rfl
  case vw => obtain ⟨⟨_, _, _, rfl⟩, _⟩ := hd; rfl
  case ep => obtain ⟨_, rfl, _⟩ := hd; rfl
  case rp => obtain ⟨_, _, rfl, _⟩ := hd; rfl
  case fnc => obtain ⟨_, rfl, _⟩ := hd; rfl
  all_goals (subst hd; rfl)

theorem capIds_den : ∀ {l : List SV1} {ids : List Nat} {vs : List Value}, capIds l = some ids → All2 (Den1 ρ) l vs → All2 (fun i u => ∃ b, ρ.root i = .pointer (some ⟨b, 0, none⟩) ∧ u = .pointer (some ⟨b, 0, none⟩)) ids vs
  | [], ids, vs, h, hv => by cases h; cases hv; exact .nil
  | x :: r, ids, vs, h, hv => by
    unfold capIds at h
    split at h
    · rename_i e; cases e
    · rename_i i r' e
      cases e
      split at h <;> cases h
      rename_i l hl
      cases hv with
      | cons h1 h2 =>
        obtain ⟨b, h3, h4⟩ := h1
        exact .cons ⟨b, h3, h4⟩ (capIds_den hl h2)
    · cases h
theorem All2.storable {l : List SV1} {vs : List Value} (hd : All2 (Den1 ρ) l vs) (h : l.all Sx.storable = true) : ∀ v ∈ vs, v.oneCell' = true := by
  induction hd with
  | nil => simp
  | cons h1 _ ih =>
    simp only [List.all_cons, Bool.and_eq_true] at h
    intro v hv
    rcases List.mem_cons.1 hv with rfl | hv
    · exact storable_one h.1 h1
    · exact ih h.2 v hv

theorem cellsOf_den {v : SV} {l : List SV1} (h : cellsOf v = some l) {u : Value} (hu : Den ρ v u) (hs : l.all Sx.storable = true) : All2 (Den1 ρ) l u.cells.toList := by
  cases v with
  | tup l => cases h
  | val x =>
    cases x with
    | one x =>
      cases h
      simp only [List.all_cons, List.all_nil, Bool.and_true] at hs
      have := storable_one hs hu
      have e : u.cells = #[u] := by cases u <;> simp [Value.oneCell'] at this <;> rfl
      rw [e]; exact .cons hu .nil
    | agg l' => cases h; obtain ⟨vs, rfl, h2⟩ := hu; simpa [Value.cells] using h2
    | fn f l' =>
      simp only [cellsOf] at h
      split at h <;> cases h
      rename_i ids hids
      obtain ⟨vs, rfl, h2⟩ := hu
      exact .cons ⟨vs, rfl, capIds_den hids h2⟩ .nil

theorem store_ptr {t : TypeId} {i : TI} (hT : TIfact P t i) (h : Holds AI G s ρ a.tmps w) {k off : Nat} {ct : TypeId} {l l' vs : List SV1} {u v : Value} (hu : Den ρ (one (.ptr k off)) u) (hk : getC s.H k = .cells ct l)
    (hv : All2 (Den1 ρ) vs v.cells.toList) (hsz : vs.length = i.size) (hst : vs.all storable = true) (hp : paste l off vs = some l') :
    ∃ w', (Instr.storeAt t u v).run P w = .ok () w' ∧ Holds AI G ⟨s.tm, putC s.H k (.cells ct l')⟩ ρ a.tmps w' := by
  obtain ⟨b, h1, rfl⟩ := hu
  have hc := h.ch k
  rw [hk] at hc
  obtain ⟨b', us, h2, h3, h4, h5⟩ := hc
  rw [h1] at h2
  cases h2
  obtain ⟨h6, h7, h8⟩ := h5.paste hv hp
  have hlen : v.cells.toList.length = i.size := by rw [← hv.length, hsz]
  have hlen' : v.cells.size = i.size := by simpa using hlen
  by_cases h0 : vs = []
  · subst h0
    have e0 : v.cells.toList = [] := by generalize v.cells.toList = q at hv; cases hv; rfl
    have : l' = l := by cases l <;> cases off <;> simp [paste] at hp <;> first | exact hp.symm | exact hp
    subst this
    refine ⟨w, ?_, h.congrH fun j => ?_⟩
    · simp [Instr.storeAt, Instr.sureAddr, storeVar, hT.sizeOf, hlen', e0, storeCells]
    · rw [← hk, putC_self]
  · have h8 := h8 h0
    have hrun := run_storeCells_at (P := P) b off ct v.cells.toList 0 us.toArray w h4 (by simpa using h8) (hv.storable hst)
    simp only [Nat.add_zero] at hrun
    refine ⟨_, by simp [Instr.storeAt, Instr.sureAddr, storeVar, hT.sizeOf, hlen']; exact hrun, ?_⟩
    have hself : ρ.upd k (ρ.root k) (ρ.ver k) (ρ.foot k) = ρ := by
      cases ρ; simp only [Ev.upd, Ev.mk.injEq, true_and]
      exact ⟨by funext j; split <;> simp_all, by funext j; split <;> simp_all, by funext j; split <;> simp_all⟩
    have hblt : b < w.heap.size := h.lt k b (by simp [h3])
    have := (h.upd1 k (ρ.root k) (ρ.ver k) (ρ.foot k) (.cells ct l') (w.setRow b (us.toArray.toList.take off ++ v.cells.toList ++ us.toArray.toList.drop (off + v.cells.toList.length)).toArray)
      (fun _ h => h) (Nat.le_refl _) (fun _ _ => rfl) (fun b' hb' => ⟨.inl hb', by rw [setRow_size]; exact h.lt k b' hb'⟩)
      (fun b' hb' hn => setRow_other w b b' _ (fun e => hn (by rw [h3, e]; simp))) rfl rfl rfl (by simp)
      (by rw [hself]; exact ⟨b, _, h1, h3, setRow_heap w b _ _ ct (0, 0) h4, h6⟩)).1
    rwa [hself] at this

end Go.Sx

/-
  Symbolic execution: rows: a store to an element, append, literals, make.
-/
namespace Go.Sx
set_option linter.all false
open Go.RowKit

variable {A : Type} {AI : Abs A} {G : Fr} {s : SS A} {ρ : Ev} {a : Act} {w : World} {P : Program}

theorem setCells_other (b : Nat) : ∀ (vs : List Value) (o : Nat) (w : World) (k : Nat), k ≠ b → (w.setCells b o vs).heap[k]? = w.heap[k]?
  | [], _, _, _, _ => rfl
  | v :: r, o, w, k, h => by rw [World.setCells, setCells_other b r _ _ k h, Below.heap_setCell _ _ _ _ h]
theorem setCells_size (b : Nat) : ∀ (vs : List Value) (o : Nat) (w : World), (w.setCells b o vs).heap.size = w.heap.size
  | [], _, _ => rfl
  | v :: r, o, w => by rw [World.setCells, setCells_size b r]; simp [World.setCell]
theorem setCells_shape (b : Nat) : ∀ (vs : List Value) (o : Nat) (w : World) (k : Nat), (w.setCells b o vs).shape? k = w.shape? k
  | [], _, _, _ => rfl
  | v :: r, o, w, k => by
    rw [World.setCells, setCells_shape b r]
    simp only [World.shape?, World.setCell, Array.getElem?_modify]
    by_cases e : b = k
    · subst e
      simp only [if_true]
      cases w.heap[b]? with
      | none => rfl
      | some x => cases x <;> simp
    · rw [if_neg e]
theorem setCells_rest (b : Nat) : ∀ (vs : List Value) (o : Nat) (w : World), (w.setCells b o vs).os = w.os ∧ (w.setCells b o vs).tape = w.tape ∧ (w.setCells b o vs).output = w.output
  | [], _, _ => ⟨rfl, rfl, rfl⟩
  | v :: r, o, w => setCells_rest b r _ _

/-- One cell after vs has been written to o .. -/
theorem setCells_cell {b o : Nat} {vs : List Value} (h : ∀ j, j < vs.length → (w.cell? ⟨b, o + j, none⟩).isSome = true) (k : Nat) :
    (w.setCells b o vs).cell? ⟨b, k, none⟩ = if o ≤ k ∧ k < o + vs.length then vs[k - o]? else w.cell? ⟨b, k, none⟩ := by
  split
  · rename_i hk
    have h1 := World.cell?_setCells_in b vs o w h (k - o) (by omega)
    rw [show o + (k - o) = k by omega] at h1
    rw [h1, List.getElem?_eq_getElem (by omega)]
  · rename_i hk
    exact World.cell?_setCells_out b vs o w _ (fun _ _ => by simp; omega)

theorem dec_one {M : Ev} : ∀ (e : Ty) (x : U e.T) {vs : List Value}, All2 (Den1 M) (dec e x) vs → ∀ v ∈ vs, v.oneCell' = true
  | .int k, x, vs, h => by cases h with | cons h t => cases t; cases h; simp [Value.oneCell']
  | .bool, x, vs, h => by cases h with | cons h t => cases t; cases h; simp [Value.oneCell']
  | .bytes, x, vs, h => by cases h with | cons h t => cases t; obtain ⟨_, _, rfl, _⟩ := h; simp [Value.oneCell']
  | .str, x, vs, h => by cases h with | cons h t => cases t; cases h; simp [Value.oneCell']
  | .unit, x, vs, h => by cases h; simp
  | .lst e, x, vs, h => by cases h with | cons h t => cases t; obtain ⟨_, _, rfl, _⟩ := h; simp [Value.oneCell']
  | .pair a b, x, vs, h => by
    simp only [dec] at h
    have key : ∀ {l l' : List SV1} {vs : List Value}, All2 (Den1 M) (l ++ l') vs → ∃ u v, vs = u ++ v ∧ All2 (Den1 M) l u ∧ All2 (Den1 M) l' v := by
      intro l
      induction l with
      | nil => intro l' vs h; exact ⟨[], vs, rfl, .nil, h⟩
      | cons x r ih =>
        intro l' vs h
        cases h with
        | cons h t => obtain ⟨u, v, rfl, h1, h2⟩ := ih t; exact ⟨_ :: u, v, rfl, .cons h h1, h2⟩
    obtain ⟨u, v, rfl, h1, h2⟩ := key h
    intro y hy
    rcases List.mem_append.1 hy with hy | hy
    · exact dec_one a _ h1 y hy
    · exact dec_one b _ h2 y hy

/-- The cells of the elements, one behind the other. -/
def RowList (M : Mem) (e : Ty) (L : List e.T) (us : List Value) : Prop :=
  us.length = L.length * e.size ∧ (∀ u ∈ us, u.oneCell' = true) ∧ ∀ j x, L[j]? = some x → CellsM M e x (fun i => us[j * e.size + i]?)

theorem rowList_of {M : Mem} {e : Ty} : ∀ (L : List e.T) (c : Nat → Option Value), (∀ j x, L[j]? = some x → CellsM M e x (fun i => c (j * e.size + i))) → ∃ us, RowList M e L us ∧ ∀ (k : Nat) v, us[k]? = some v → c k = some v
  | [], c, h => ⟨[], ⟨by simp, by simp, by simp⟩, by simp⟩
  | x :: r, c, h => by
    obtain ⟨us, ⟨h1, h2, h3⟩, h4⟩ := rowList_of r (fun k => c (e.size + k)) (fun j y hj => by
      have := h (j + 1) y (by simpa using hj)
      refine CellsM.congr e this fun k v _ hv => ?_
      rw [← hv, show e.size + (j * e.size + k) = (j + 1) * e.size + k by rw [Nat.add_mul]; omega])
    have h0 := h 0 x rfl
    simp only [Nat.zero_mul, Nat.zero_add] at h0
    obtain ⟨vs, h5, h6⟩ := CellsM.dec (ρ := ⟨fun _ => undef, fun _ => 0, M, fun _ => []⟩) e (fun _ => x) _ h0
    have hl : vs.length = e.size := by rw [← h5.length, dec_length]
    refine ⟨vs ++ us, ⟨by simp [hl, h1, Nat.add_mul]; omega, fun u hu => ?_, fun j y hj => ?_⟩, fun k v hk => ?_⟩
    · rcases List.mem_append.1 hu with hu | hu
      · exact dec_one e _ h5 u hu
      · exact h2 u hu
    · cases j with
      | zero =>
        simp at hj
        subst hj
        refine CellsM.congr e h0 fun k v hk hv => ?_
        have hk' : k < vs.length := by omega
        have := h6 k _ (List.getElem?_eq_getElem hk')
        simp only [Nat.zero_mul, Nat.zero_add]
        rw [List.getElem?_append_left hk', List.getElem?_eq_getElem hk', ← this, hv]
      | succ j =>
        refine CellsM.congr e (h3 j y (by simpa using hj)) fun k v hk hv => ?_
        have e1 : (j + 1) * e.size + k = e.size + (j * e.size + k) := by rw [Nat.add_mul]; omega
        rw [e1, List.getElem?_append_right (by omega), ← hv, hl, show e.size + (j * e.size + k) - e.size = j * e.size + k by omega]
    · by_cases hk' : k < vs.length
      · rw [List.getElem?_append_left hk'] at hk; exact h6 k v hk
      · rw [List.getElem?_append_right (by omega)] at hk
        have := h4 _ _ hk
        rw [hl] at this
        simpa [show e.size + (k - e.size) = k by omega] using this

theorem rowList_append {M : Mem} {e : Ty} {L L' : List e.T} {us us' : List Value} (h : RowList M e L us) (h' : RowList M e L' us') : RowList M e (L ++ L') (us ++ us') := by
  obtain ⟨h1, h2, h3⟩ := h
  obtain ⟨h4, h5, h6⟩ := h'
  refine ⟨by simp [h1, h4, Nat.add_mul], fun u hu => (List.mem_append.1 hu).elim (h2 u) (h5 u), fun j x hj => ?_⟩
  by_cases hjl : j < L.length
  · rw [List.getElem?_append_left hjl] at hj
    refine CellsM.congr e (h3 j x hj) fun k v hk hv => ?_
    have : j * e.size + k < us.length := by
      rw [h1]
      have := Nat.mul_le_mul_right e.size (show j + 1 ≤ L.length by omega)
      rw [Nat.add_mul] at this; omega
    rw [List.getElem?_append_left this]; exact hv
  · rw [List.getElem?_append_right (by omega)] at hj
    refine CellsM.congr e (h6 _ x hj) fun k v hk hv => ?_
    have h7 : L.length * e.size ≤ j * e.size := Nat.mul_le_mul_right _ (by omega)
    rw [List.getElem?_append_right (by omega), h1, ← hv]
    congr 1
    rw [Nat.sub_mul]; omega

theorem firstCells_src {size : Nat} {tx e' : TypeId} (hk : P.underlying tx = some (.slice e')) {ao : Option Addr} {n cap : Nat} {news : List Value} (hl : news.length = n * size) (h1 : ∀ u ∈ news, u.oneCell' = true)
    (hc : 0 < n → ∃ b off, ao = some ⟨b, off, none⟩ ∧ ∀ (j : Nat) u, news[j]? = some u → w.cell? ⟨b, off + j, none⟩ = some u) : Go.Src P size tx (.slice ao n cap) n news w := by
  have hcells : ∀ w' : World, (∀ x, w'.cell? x = w.cell? x) → (Builtin.firstCells size n (.slice ao n cap)).run P w' = .ok news.toArray w' := by
    intro w' hw
    rcases Nat.eq_zero_or_pos n with h0 | h0
    · subst h0
      have : news = [] := by apply List.eq_nil_of_length_eq_zero; simpa using hl
      subst this
      cases ao with
      | none => exact run_firstCells_none w' _ _ _ _
      | some q => exact run_firstCells_some w' size 0 q 0 cap [] (by simp) (by simp)
    · obtain ⟨b, off, rfl, h2⟩ := hc h0
      exact run_firstCells_some w' size n ⟨b, off, none⟩ n cap news hl (fun j v hj => by rw [add_lit, hw]; exact h2 j v hj)
  exact ⟨.inl ⟨e', hk⟩, fun _ => rfl, hcells w fun _ => rfl, hcells w.drew fun _ => rfl, hl, h1⟩

def SrcDen (ρ : Ev) (u : Value) : Src → Prop
  | .nil => u = .slice none 0 0
  | .ro e L => ShowsM ρ.M e (L ()) u
  | .hd i ver => Den1 ρ (.hd i ver) u
  | .vw i ver esz lo n => Den1 ρ (.vw i ver esz lo n) u
  | .str L => u = .string ⟨((L ()).map fun x => x.toNat.toUInt8).toArray⟩
  | .bad => True
/-- The type of what is appended. -/
def Src.KindOk (P : Program) (tx : TypeId) : Src → Prop
  | .str _ => P.underlying tx = some .string
  | _ => ∃ e', P.underlying tx = some (.slice e')
theorem srcOf_den {y : SV} {u : Value} (hy : Den ρ y u) : SrcDen ρ u (srcOf y) := by
  unfold srcOf
  split <;> first | exact hy | trivial

theorem srcOfS_den {y : SV} {u : Value} (hy : Den ρ y u) : SrcDen ρ u (srcOfS y) := by
  unfold srcOfS
  split
  · exact hy
  · exact srcOf_den hy
/-- What the source of an append shows. -/
theorem Src.list_sound (h : Holds AI G s ρ a.tmps w) {src : Src} {u : Value} (hy : SrcDen ρ u src) {e : Ty} {M : U (List e.T)} {r : List (Chunk A)} (hr : getCs s.H src.ids = r) (hM : src.list e r = some M)
    {tx : TypeId} (hk : src.KindOk P tx) : ∃ news, RowList ρ.M e (M ()) news ∧ Go.Src P e.size tx u (M ()).length news w := by
  cases src
  case nil =>
    obtain ⟨e', hk⟩ := hk
    simp only [Src.ids, getCs] at hr
    subst hr
    simp only [Src.list, Option.some.injEq] at hM
    subst hM
    cases hy
    exact ⟨[], ⟨by simp, by simp, by simp⟩, firstCells_src hk (by simp) (by simp) (by simp)⟩
  case ro e2 L =>
    obtain ⟨e', hk⟩ := hk
    simp only [Src.ids, getCs] at hr
    subst hr
    simp only [Src.list] at hM
    split at hM <;> simp at hM
    rename_i f hf
    subst hM
    obtain ⟨rfl, hf2⟩ := castL_id hf
    have hf3 : f (L ()) = L () := hf2 _
    obtain ⟨ao, cap, rfl, h1, h2⟩ := hy
    rcases Nat.eq_zero_or_pos (L ()).length with h0 | h0
    · have e1 := List.eq_nil_of_length_eq_zero h0
      rw [hf3, e1]
      exact ⟨[], ⟨by simp, by simp, by simp⟩, firstCells_src hk (by simp) (by simp) (by simp)⟩
    · obtain ⟨b, off, rfl, h3⟩ := h2 h0
      obtain ⟨us, h4, h5⟩ := rowList_of (L ()) (fun k => ρ.M b (off + k)) (fun j x hj => by
        have := h3 j x hj
        simpa only [Nat.add_assoc] using this)
      rw [hf3]
      exact ⟨us, h4, firstCells_src hk h4.1 h4.2.1 fun _ => ⟨b, off, rfl, fun j u hu => (h.im _ _ _ (h5 j u hu)).1⟩⟩
  case hd i ver =>
    obtain ⟨e', hk⟩ := hk
    simp only [Src.ids, getCs] at hr
    subst hr
    have hc := h.ch i
    generalize getC s.H i = c at hc hM
    cases c <;> (try (simp [Src.list] at hM; done))
    rename_i rt e2 ver' L
    simp only [Src.list] at hM
    split at hM <;> (try (simp at hM; done))
    rename_i hb
    have hb := beq_eq hb
    subst hb
    split at hM <;> simp at hM
    rename_i f hf
    subst hM
    obtain ⟨rfl, hf2⟩ := castL_id hf
    have hf3 : f (L ()) = L () := hf2 _
    obtain ⟨h1, h2⟩ := hc
    obtain ⟨_, _, h3⟩ := hy
    have h3 := h3 h1
    rw [hf3]
    rcases h2 with ⟨⟨ao, h2⟩, h4, _⟩ | ⟨b, off, cap, h2, _, _, _, h4, _⟩
    · rw [h2] at h3
      subst h3
      rw [h4]
      exact ⟨[], ⟨by simp, by simp, by simp⟩, firstCells_src hk (by simp) (by simp) (by simp)⟩
    · rw [h2] at h3
      subst h3
      obtain ⟨us, h5, h6⟩ := rowList_of (L ()) (fun k => w.cell? ⟨b, off + k, none⟩) (fun j x hj => by
        have := h4 j x hj
        simpa only [Nat.add_assoc] using this)
      exact ⟨us, h5, firstCells_src hk h5.1 h5.2.1 fun _ => ⟨b, off, rfl, fun j u hu => h6 j u hu⟩⟩
  case vw i ver esz lo n =>
    obtain ⟨e', hk⟩ := hk
    simp only [Src.ids, getCs] at hr
    subst hr
    have hc := h.ch i
    generalize getC s.H i = c at hc hM
    cases c <;> (try (simp [Src.list] at hM; done))
    rename_i rt e2 ver' L
    simp only [Src.list] at hM
    split at hM <;> (try (simp at hM; done))
    rename_i hb
    obtain ⟨hb1, hb2⟩ := Bool.and_eq_true_iff.1 hb
    have hb1 := beq_eq hb1
    have hb2 := beq_eq hb2
    subst hb1; subst hb2
    split at hM <;> simp at hM
    rename_i f hf
    subst hM
    obtain ⟨rfl, hf2⟩ := castL_id hf
    rw [show f (List.take (n ()).toNat (List.drop (lo ()).toNat (L ()))) = List.take (n ()).toNat (List.drop (lo ()).toNat (L ())) from hf2 _]
    obtain ⟨h1, h2⟩ := hc
    obtain ⟨_, _, _, h3⟩ := hy
    obtain ⟨ao, len, cap, h4, h5, h6, h7, h8, rfl⟩ := h3 h1
    have hlen : ∀ q, ρ.root i = .slice q (L ()).length cap → (List.take (n ()).toNat (List.drop (lo ()).toNat (L ()))).length = (n ()).toNat := by
      intro q hq
      rw [h4] at hq
      cases hq
      rw [List.length_take, List.length_drop]; omega
    rcases h2 with ⟨⟨ao', h2⟩, h9, _⟩ | ⟨b, off, cap', h2, _, _, _, h9, _⟩
    · rw [h4] at h2
      cases h2
      rw [h9]
      have e1 : n () = 0 := by simp at h7; omega
      have e2 : (n ()).toNat = 0 := by omega
      rw [e2]
      simp only [List.drop_nil, List.take_nil, List.length_nil]
      exact ⟨[], ⟨by simp, by simp, by simp⟩, firstCells_src hk (by simp) (by simp) (by simp)⟩
    · rw [h4] at h2
      cases h2
      have hl := hlen _ h4
      obtain ⟨us, h10, h11⟩ := rowList_of (List.take (n ()).toNat (List.drop (lo ()).toNat (L ()))) (fun k => w.cell? ⟨b, off + (lo ()).toNat * e2.size + k, none⟩) (fun j x hj => by
        rw [List.getElem?_take] at hj
        split at hj
        · rw [List.getElem?_drop] at hj
          refine CellsM.congr _ (h9 _ x hj) fun k v _ hv => ?_
          rw [← hv]
          congr 2
          rw [Nat.add_mul]; omega
        · cases hj)
      rw [hl]
      refine ⟨us, h10, firstCells_src hk (by rw [h10.1, hl]) h10.2.1 fun hp => ⟨b, off + (lo ()).toNat * e2.size, ?_, fun j u hu => h11 j u hu⟩⟩
      rw [if_neg (by omega)]
      simp [add_lit]
  case str L =>
    simp only [Src.ids, getCs] at hr
    subst hr
    simp only [Src.list] at hM
    split at hM <;> simp at hM
    rename_i f hf
    subst hM
    obtain ⟨rfl, hf2⟩ := castL_id hf
    have hf3 : f ((L ()).map u8i) = (L ()).map u8i := hf2 _
    rw [hf3]
    cases hy
    have hb : Go.byteCells ⟨((L ()).map fun x => x.toNat.toUInt8).toArray⟩ = ((L ()).map u8i).map (fun x => Value.int .u8 x) := by
      simp only [Go.byteCells, List.map_map]
      rfl
    have hs := Go.Src.ofString (P := P) w hk ⟨((L ()).map fun x => x.toNat.toUInt8).toArray⟩
    have hlen : (⟨((L ()).map fun x => x.toNat.toUInt8).toArray⟩ : ByteArray).size = ((L ()).map u8i).length := by
      show ((L ()).map fun x => x.toNat.toUInt8).toArray.size = _
      simp
    rw [hb, hlen] at hs
    refine ⟨_, ⟨by simp [Ty.size], hs.one, fun j x hj => ?_⟩, hs⟩
    show (((L ()).map u8i).map (fun x => Value.int .u8 x))[j * 1 + 0]? = some (.int .u8 x)
    rw [Nat.mul_one, Nat.add_zero, List.getElem?_map, hj]
    rfl
  case bad =>
    simp [Src.list] at hM

end Go.Sx

/-
  Symbolic execution: append, a store to an element, slice literals, make, struct literals.
-/
namespace Go.Sx
set_option linter.all false
open Go.RowKit

variable {A : Type} {AI : Abs A} {G : Fr} {s : SS A} {ρ : Ev} {a : Act} {w : World} {P : Program}

theorem size_zeroCells' (z : Array Value) (n : Nat) : (Builtin.zeroCells z n).size = n * z.size := by simp [Builtin.zeroCells]

/-- A row in a new block. -/
theorem rowAt_new {M : Mem} {e : Ty} {L : List e.T} {us : List Value} (h : RowList M e L us) {rest : Array Value} {cap : Nat} (hcap : L.length ≤ cap) (hmax : cap ≤ maxLen) (hr : rest.size = (cap - L.length) * e.size) (t : TypeId) :
    RowAt t M (w.alloc (.cells (us.toArray ++ rest) t (0, 0))) e L (.slice (some ⟨w.heap.size, 0, none⟩) L.length cap) [w.heap.size] := by
  obtain ⟨h1, h2, h3⟩ := h
  have hcell : ∀ k, (w.alloc (.cells (us.toArray ++ rest) t (0, 0))).cell? ⟨w.heap.size, k, none⟩ = (us.toArray ++ rest)[k]? := fun k => World.cell?_alloc_new w _ t k
  refine .inr ⟨w.heap.size, 0, cap, rfl, rfl, hcap, hmax, fun j x hj => ?_, fun j hj => ⟨?_, World.frozen?_alloc_new w _ _ _⟩, fun he => ⟨(us.toArray ++ rest).size, by simp only [World.shape?, heap_alloc_new], ?_⟩⟩
  · refine CellsM.congr e (h3 j x hj) fun k v hk hv => ?_
    rw [hcell, Nat.zero_add]
    have hlt := (List.getElem?_eq_some_iff.1 hv).1
    rw [Array.getElem?_append_left (by simpa using hlt)]
    simpa using hv
  · rw [hcell, Nat.zero_add, Array.getElem?_eq_getElem]
    · rfl
    · simp only [Array.size_append, List.size_toArray, hr, h1]
      rw [← Nat.add_mul]
      have : L.length + (cap - L.length) = cap := by omega
      rw [this]; exact hj
  · subst he
    simp only [Array.size_append, List.size_toArray, hr, h1, Ty.size]
    omega

theorem Holds.drew {tmps : Array Value} (h : Holds AI G s ρ tmps w) : Holds AI G s ρ tmps w.drew :=
  ⟨h.sz, h.gt, h.tm, fun i => (h.ch i).stays (.refl _) rfl rfl rfl fun _ _ => rfl, h.dis, h.lt, h.im, h.os, h.tape, h.output, h.grow, h.kept, h.fro, h.rt, h.rts, h.mono, h.mfr⟩

theorem appendOk_kind {tx : TypeId} {k : TK} {y : Src} (h : appendOk k y = true) (hk : KindOk P tx k) : y.KindOk P tx := by
  unfold appendOk at h
  split at h
  · split at h
    · exact hk
    · cases h
  · rename_i hn
    split at h
    · have hs : ∃ e', P.underlying tx = some (.slice e') := ⟨_, hk.1⟩
      cases y <;> first | exact hs | exact absurd rfl (hn _)
    · cases h
theorem append_sound {t tx : TypeId} {i : TI} (hT : TIfact P t i) (h : Holds AI G s ρ a.tmps w) {x y : SV} (hk : (srcOfS y).KindOk P tx) {u v : Value} (hx : Den ρ x u) (hy : Den ρ y v) {fresh : Nat} {p : Plan A}
    (hp : appendP i x y fresh = some p) {d : List Bool} {C : U Prop} {r : SV} {cs : List (Chunk A)} (he : p.eff (getCs s.H p.ids) d = .done C r cs) (hC : C ()) (ty : TypeId) :
    Done AI G P s a w ρ (Builtin.append_ #[t, tx] ty #[u, v]) (putCs s.H p.ids cs) r := by
  have hkind := hT.kind
  unfold appendP appendQ at hp
  have hsrc := srcOfS_den hy
  generalize srcOfS y = src at hp hsrc hk
  split at hp
  · rename_i et0 e0 hki
    rw [hki] at hkind
    obtain ⟨hu, g, hg1, hg2⟩ := hkind
    obtain ⟨hsz, hpos, hby, _, z, hz, hz1, hz2⟩ := hg2 e0 rfl
    split at hp
    · rename_i i' ver
      split at hp
      · cases hp
      · rename_i hni
        cases hp
        simp only [getCs] at he
        have hc := h.ch i'
        generalize hg : getC s.H i' = c at he hc
        cases c <;> (try (simp at he; done))
        rename_i et e ver' L
        dsimp only at he
        split at he <;> (try (simp at he; done))
        rename_i hb
        obtain ⟨hb, hb3⟩ := Bool.and_eq_true_iff.1 hb
        obtain ⟨hb1, hb2⟩ := Bool.and_eq_true_iff.1 hb
        have hb1 := beq_eq hb1
        have hb2 := beq_eq hb2
        simp at hb3
        subst hb1; subst hb2; subst hb3
        split at he <;> (try (simp at he; done))
        rename_i M hM
        simp at he
        obtain ⟨rfl, rfl, rfl⟩ := he
        obtain ⟨news, hn1, hn2⟩ := Src.list_sound (P := P) h hsrc rfl hM hk
        obtain ⟨h1, h2⟩ := hc
        obtain ⟨_, hle, h3⟩ := hx
        have h3 := h3 h1
        subst h3
        have hput : ∀ c, ∀ j, getC (putCs s.H (i' :: src.ids) (c :: getCs s.H src.ids)) j = getC (putC s.H i' c) j := by
          intro c j
          simp only [putCs]
          have key : ∀ (ids : List Nat) (H : List (Chunk A)), (∀ k ∈ ids, k ≠ i') → (∀ j, j ≠ i' → getC H j = getC s.H j) → ∀ j, getC (putCs H ids (getCs s.H ids)) j = getC H j := by
            intro ids
            induction ids with
            | nil => intro H _ _ j; rfl
            | cons k ks ih =>
              intro H hk hH j
              simp only [putCs, getCs]
              have hk0 := hk k (by simp)
              rw [ih _ (fun m hm => hk m (by simp [hm])) (fun m hm => by
                rw [getC_putC]; split
                · rename_i e; rw [e]
                · exact hH m hm), getC_putC]
              split
              · rename_i e; subst e; exact (hH _ hk0).symm
              · rfl
          refine key _ _ (fun k hk e => ?_) (fun m hm => by rw [getC_putC, if_neg hm]) j
          subst e
          have : (src.ids.any (beqN k)) = true := List.any_eq_true.2 ⟨k, hk, by simp⟩
          rw [this] at hni
          cases hni
        have hlen : (L ()).length + (M ()).length ≤ 1099511627776 := hC
        have grow : ∀ (bs : Option Addr) (sc : Nat) (us : List Value), ρ.root i' = .slice bs (L ()).length sc → sc < (L ()).length + (M ()).length → RowList ρ.M e (L ()) us →
            (Builtin.firstCells g.size (L ()).length (.slice bs (L ()).length sc)).run P w.drew = .ok us.toArray w.drew →
            Done AI G P s a w ρ (Builtin.append_ #[t, tx] ty #[ρ.root i', v]) (putCs s.H (i' :: src.ids) (.row et e (ver + 1) (fun _ => L () ++ M ()) :: getCs s.H src.ids)) (one (.hd i' (ver + 1))) := by
          intro bs sc us hroot hgt hus hold
          have hrun := run_append_grow_src (P := P) w t tx ty et g z hu hg1 hz bs (L ()).length sc us hold v (M ()).length news (hsz ▸ hn2) hgt (by omega)
            (growslice_fits hgt (by have := Nat.mul_le_mul_left ((L ()).length + (M ()).length) hby; omega))
          have hge := grownCap_ge w ((L ()).length + (M ()).length) sc et
          have hcm := grownCap_le_maxLen w ((L ()).length + (M ()).length) sc et (by simp [maxLen]; omega)
          generalize grownCap w ((L ()).length + (M ()).length) sc et = cp at *
          have hrow := rowAt_new (w := w.drew) (rowList_append hus hn1) (rest := Builtin.zeroCells z.cells (cp - ((L ()).length + (M ()).length))) (cap := cp) (by simpa using hge) hcm (by rw [size_zeroCells', hz1]; simp) et
          obtain ⟨h4, h5⟩ := h.drew.upd1 i' (.slice (some ⟨w.heap.size, 0, none⟩) ((L ()).length + (M ()).length) cp) (ver + 1) [w.heap.size] (.row et e (ver + 1) (fun _ => L () ++ M ())) (w.drew.alloc (.cells ((us ++ news).toArray ++ Builtin.zeroCells z.cells (cp - ((L ()).length + (M ()).length))) et))
            (by rw [hroot]; simp) (by omega) (by omega) (fun b' hb' => by obtain rfl : b' = w.heap.size := (by simpa using hb'); exact ⟨.inr (Nat.le_refl _), by rw [World.size_alloc]; exact Nat.lt_succ_self _⟩) (fun b hb _ => alloc_lt w.drew _ hb) rfl rfl rfl (by simp)
            (by
              refine ⟨by simp [Ev.upd], ?_⟩
              have e1 : (Ev.upd ρ i' (.slice (some ⟨w.heap.size, 0, none⟩) ((L ()).length + (M ()).length) cp) (ver + 1) [w.heap.size]).root i' = .slice (some ⟨w.heap.size, 0, none⟩) ((L ()).length + (M ()).length) cp := by simp [Ev.upd]
              have e2 : (Ev.upd ρ i' (.slice (some ⟨w.heap.size, 0, none⟩) ((L ()).length + (M ()).length) cp) (ver + 1) [w.heap.size]).foot i' = [w.heap.size] := by simp [Ev.upd]
              rw [e1, e2]
              show RowAt _ ρ.M _ _ _ _ _
              simpa using hrow)
          rw [hroot]
          exact ⟨_, _, _, hrun, h4.congrH (hput _), ⟨⟨_, _, _, rfl⟩, by simp [Ev.upd], fun _ => by simp [Ev.upd]⟩, h5⟩
        rcases h2 with ⟨⟨ao, h2⟩, h4, h5⟩ | ⟨b, off, cap, h2, h5, hlc, hcm, h6, h7, h7s⟩
        · rcases Nat.eq_zero_or_pos (M ()).length with h0 | h0
          · have eM := List.eq_nil_of_length_eq_zero h0
            have e1 := hn2.cells
            have e2 : news = [] := by apply List.eq_nil_of_length_eq_zero; rw [hn1.1, h0]; simp
            obtain ⟨h8, h9⟩ := h.upd1 i' (.slice ao 0 0) (ver + 1) [] (.row et e (ver + 1) (fun _ => L () ++ M ())) w (by rw [h2]; simp) (by omega) (by omega) (by simp) (fun _ _ _ => rfl) rfl rfl rfl (Nat.le_refl _)
              ⟨by simp [Ev.upd], .inl ⟨by simp [Ev.upd], by simp [h4, eM], by simp [Ev.upd]⟩⟩
            rw [h2]
            refine ⟨.slice ao 0 0, _, w, ?_, h8.congrH (hput _), ⟨⟨_, _, _, rfl⟩, by simp [Ev.upd], fun _ => by simp [Ev.upd]⟩, h9⟩
            rw [e2, h0] at e1
            rcases hn2.kind with ⟨e3, hk3⟩ | hk3 <;> cases ao <;> simp [Builtin.append_, run_underlying hu, run_underlying hk3, Go.sizeOf, typeInfo, hg1, hn2.len, h0, hsz, e1, storeCells]
          · refine grow ao 0 [] (by rw [h2, h4]; rfl) (by rw [h4]; simpa using h0) (by rw [h4]; exact ⟨by simp, by simp, by simp⟩) ?_
            rw [h4]
            cases ao with
            | none => exact run_firstCells_none _ _ _ _ _
            | some q => exact run_firstCells_some _ _ 0 q _ _ [] (by simp) (by simp)
        · obtain ⟨us, hus, hus2⟩ := rowList_of (L ()) (fun k => w.cell? ⟨b, off + k, none⟩) (fun j x hj => by
            have := h6 j x hj
            simpa only [Nat.add_assoc] using this)
          by_cases hr : (L ()).length + (M ()).length ≤ cap
          · have hbnd : ∀ j, j < news.length → (L ()).length * e.size + j < cap * e.size := by
              intro j hj
              rw [hn1.1] at hj
              have := Nat.mul_le_mul_right e.size hr
              rw [Nat.add_mul] at this; omega
            have hsome : ∀ j, j < news.length → (w.cell? ⟨b, off + (L ()).length * e.size + j, none⟩).isSome = true := fun j hj => by
              have := (h7 _ (hbnd j hj)).1; simpa only [Nat.add_assoc] using this
            have hrun := run_append_room_src (P := P) w t tx ty et g hu hg1 b off (L ()).length cap v (M ()).length news (hsz ▸ hn2) hr (by rw [hsz]; exact hsome) (by
              rw [hsz]; exact fun j hj => by have := (h7 _ (hbnd j hj)).2; simpa only [Nat.add_assoc] using this)
            rw [hsz] at hrun
            have hlt : b < w.heap.size := h.lt i' b (by simp [h5])
            obtain ⟨h8, h9⟩ := h.upd1 i' (.slice (some ⟨b, off, none⟩) ((L ()).length + (M ()).length) cap) (ver + 1) [b] (.row et e (ver + 1) (fun _ => L () ++ M ())) (w.setCells b (off + (L ()).length * e.size) news)
              (by rw [h2]; simp) (by omega) (by omega) (fun b' hb' => ⟨.inl (by rw [h5]; exact hb'), by rw [setCells_size]; simp at hb'; omega⟩)
              (fun b' _ hn => setCells_other b _ _ _ _ (fun e => hn (by rw [h5, e]; simp))) (setCells_rest _ _ _ _).1 (setCells_rest _ _ _ _).2.1 (setCells_rest _ _ _ _).2.2 (by rw [setCells_size]; exact Nat.le_refl _)
              (by
                refine ⟨by simp [Ev.upd], .inr ⟨b, off, cap, by simp [Ev.upd], by simp [Ev.upd], by simpa using hr, hcm, fun j x hj => ?_, fun j hj => ⟨?_, ?_⟩, h7s.stays (setCells_shape _ _ _ _ _)⟩⟩
                · have hall := (rowList_append hus hn1).2.2 j x hj
                  refine CellsM.congr e hall fun k v _ hv => ?_
                  rw [setCells_cell hsome]
                  have hl0 := hus.1
                  split
                  · rename_i hin
                    rw [List.getElem?_append_right (by omega)] at hv
                    rw [← hv]; congr 1; omega
                  · rename_i hout
                    have hvl := (List.getElem?_eq_some_iff.1 hv).1
                    rw [List.length_append] at hvl
                    rw [List.getElem?_append_left (by omega)] at hv
                    have := hus2 _ _ hv
                    simpa only [Nat.add_assoc] using this
                · rw [setCells_cell hsome]
                  split
                  · rw [List.getElem?_eq_getElem (by omega)]; rfl
                  · exact (h7 j hj).1
                · rw [World.frozen?_setCells]; exact (h7 j hj).2)
            rw [h2]
            exact ⟨_, _, _, hrun, h8.congrH (hput _), ⟨⟨_, _, _, rfl⟩, by simp [Ev.upd], fun _ => by simp [Ev.upd]⟩, h9⟩
          · refine grow (some ⟨b, off, none⟩) cap us h2 (by omega) hus ?_
            exact run_firstCells_some w.drew _ _ _ _ _ us (by rw [hsz]; exact hus.1) fun j v hj => by rw [add_lit]; exact hus2 j v hj
    · split at hp
      · cases hp
      · rename_i hni
        cases hp
        simp only [getCs] at he
        have hc := h.ch fresh
        generalize hg : getC s.H fresh = c at he hc
        cases c <;> (try (simp at he; done))
        dsimp only at he
        split at he <;> (try (simp at he; done))
        rename_i M hM
        simp at he
        obtain ⟨rfl, rfl, rfl⟩ := he
        obtain ⟨news, hn1, hn2⟩ := Src.list_sound (P := P) h hsrc rfl hM hk
        obtain ⟨hc1, hc2, hc3⟩ := hc
        cases hx
        have hput : ∀ c, ∀ j, getC (putCs s.H (fresh :: src.ids) (c :: getCs s.H src.ids)) j = getC (putC s.H fresh c) j := by
          intro c j
          simp only [putCs]
          have key : ∀ (ids : List Nat) (H : List (Chunk A)), (∀ k ∈ ids, k ≠ fresh) → (∀ j, j ≠ fresh → getC H j = getC s.H j) → ∀ j, getC (putCs H ids (getCs s.H ids)) j = getC H j := by
            intro ids
            induction ids with
            | nil => intro H _ _ j; rfl
            | cons k ks ih =>
              intro H hk hH j
              simp only [putCs, getCs]
              have hk0 := hk k (by simp)
              rw [ih _ (fun m hm => hk m (by simp [hm])) (fun m hm => by
                rw [getC_putC]; split
                · rename_i e; rw [e]
                · exact hH m hm), getC_putC]
              split
              · rename_i e; subst e; exact (hH _ hk0).symm
              · rfl
          refine key _ _ (fun k hk e => ?_) (fun m hm => by rw [getC_putC, if_neg hm]) j
          subst e
          have : (src.ids.any (beqN k)) = true := List.any_eq_true.2 ⟨k, hk, by simp⟩
          rw [this] at hni
          cases hni
        have hlen : (M ()).length ≤ 1099511627776 := hC
        rcases Nat.eq_zero_or_pos (M ()).length with h0 | h0
        · have eM := List.eq_nil_of_length_eq_zero h0
          have e1 := hn2.cells
          have e2 : news = [] := by apply List.eq_nil_of_length_eq_zero; rw [hn1.1, h0]; simp
          obtain ⟨h8, h9⟩ := h.upd1 fresh (.slice none 0 0) 0 [] (.row et0 e0 0 M) w (by rw [hc2]; simp) (by omega) (by rw [hc2]; simp) (by simp) (fun _ _ _ => rfl) rfl rfl rfl (Nat.le_refl _)
            ⟨by simp [Ev.upd], .inl ⟨by simp [Ev.upd], eM, by simp [Ev.upd]⟩⟩
          refine ⟨.slice none 0 0, _, w, ?_, h8.congrH (hput _), ⟨⟨_, _, _, rfl⟩, by simp [Ev.upd], fun _ => by simp [Ev.upd]⟩, h9⟩
          rw [e2, h0] at e1
          rcases hn2.kind with ⟨e3, hk3⟩ | hk3 <;> simp [Builtin.append_, run_underlying hu, run_underlying hk3, Go.sizeOf, typeInfo, hg1, hn2.len, h0, hsz, e1, storeCells]
        · have hrun := run_append_grow_src (P := P) w t tx ty et0 g z hu hg1 hz none 0 0 [] (run_firstCells_none _ _ _ _ _) v (M ()).length news (hsz ▸ hn2) (by omega) (by omega)
            (growslice_fits (by omega) (by have := Nat.mul_le_mul_left (0 + (M ()).length) hby; omega))
          simp only [Nat.zero_add, List.nil_append] at hrun
          have hge := grownCap_ge w (M ()).length 0 et0
          have hcm := grownCap_le_maxLen w (M ()).length 0 et0 (by simp [maxLen]; omega)
          generalize grownCap w (M ()).length 0 et0 = cp at *
          have hrow := rowAt_new (w := w.drew) hn1 (rest := Builtin.zeroCells z.cells (cp - (M ()).length)) (cap := cp) hge hcm (by rw [size_zeroCells', hz1]) et0
          obtain ⟨h4, h5⟩ := h.drew.upd1 fresh (.slice (some ⟨w.heap.size, 0, none⟩) (M ()).length cp) 0 [w.heap.size] (.row et0 e0 0 M) (w.drew.alloc (.cells (news.toArray ++ Builtin.zeroCells z.cells (cp - (M ()).length)) et0))
            (by rw [hc2]; simp) (by omega) (by rw [hc2]; simp) (fun b' hb' => by obtain rfl : b' = w.heap.size := (by simpa using hb'); exact ⟨.inr (Nat.le_refl _), by rw [World.size_alloc]; exact Nat.lt_succ_self _⟩) (fun b hb _ => alloc_lt w.drew _ hb) rfl rfl rfl (by simp)
            (by
              refine ⟨by simp [Ev.upd], ?_⟩
              have e1 : (Ev.upd ρ fresh (.slice (some ⟨w.heap.size, 0, none⟩) (M ()).length cp) 0 [w.heap.size]).root fresh = .slice (some ⟨w.heap.size, 0, none⟩) (M ()).length cp := by simp [Ev.upd]
              have e2 : (Ev.upd ρ fresh (.slice (some ⟨w.heap.size, 0, none⟩) (M ()).length cp) 0 [w.heap.size]).foot fresh = [w.heap.size] := by simp [Ev.upd]
              rw [e1, e2]
              show RowAt _ ρ.M _ _ _ _ _
              exact hrow)
          exact ⟨_, _, _, hrun, h4.congrH (hput _), ⟨⟨_, _, _, rfl⟩, by simp [Ev.upd], fun _ => by simp [Ev.upd]⟩, h5⟩
    · cases hp
  · cases hp

end Go.Sx

/-
  Symbolic execution: rows that stay as they are from a moment on.
-/
namespace Go.Sx
set_option linter.all false
open Go.RowKit

variable {A : Type} {AI : Abs A} {G : Fr} {s : SS A} {ρ : Ev} {a : Act} {w : World} {P : Program}

def isRow : Chunk A → Bool
  | .row _ _ _ _ => true
  | .nest _ _ _ _ _ _ => true
  | _ => false

open Classical in
/-- The rows with the property S stay as they are from now on. -/
noncomputable def Ev.froze (ρ : Ev) (S : Nat → Prop) (w : World) : Ev :=
  { root := ρ.root, ver := ρ.ver, M := fun b o => if ∃ i, S i ∧ b ∈ ρ.foot i then w.cell? ⟨b, o, none⟩ else ρ.M b o, foot := fun i => if S i then [] else ρ.foot i }

theorem rowAt_showsF {M M' : Mem} {e : Ty} {L : List e.T} {r : Value} {t : TypeId} {F : List Nat} (hr : RowAt t M w e L r F) (hM : ∀ b o v, M b o = some v → M' b o = some v) (hF : ∀ b ∈ F, ∀ o, M' b o = w.cell? ⟨b, o, none⟩) : ShowsM M' e L r := by
  rcases hr with ⟨⟨ao, rfl⟩, rfl, -⟩ | ⟨b, off, cap, rfl, hF2, h1, h2, h3, -⟩
  · exact ⟨ao, 0, rfl, by simp, by simp⟩
  · refine ⟨_, cap, rfl, h1, fun _ => ⟨b, off, rfl, fun j x hj => ?_⟩⟩
    refine CellsM.congr e (CellsM.mono hM e (h3 j x hj)) fun k v _ hv => ?_
    rw [hF b (by rw [hF2]; simp)]; exact hv
theorem rowAt_shows {S : Nat → Prop} {tmps : Array Value} (h : Holds AI G s ρ tmps w) {i : Nat} (hS : S i) {e : Ty} {L : List e.T} {r : Value} {t : TypeId} (hr : RowAt t ρ.M w e L r (ρ.foot i)) (hM : ∀ b o v, ρ.M b o = some v → (ρ.froze S w).M b o = some v) :
    ShowsM (ρ.froze S w).M e L r := by
  rcases hr with ⟨⟨ao, rfl⟩, rfl, -⟩ | ⟨b, off, cap, rfl, hF, h1, h2, h3, -⟩
  · exact ⟨ao, 0, rfl, by simp, by simp⟩
  · refine ⟨_, cap, rfl, h1, fun _ => ⟨b, off, rfl, fun j x hj => ?_⟩⟩
    refine CellsM.congr e (CellsM.mono hM e (h3 j x hj)) fun k v _ hv => ?_
    have : (ρ.froze S w).M b (off + j * e.size + k) = w.cell? ⟨b, off + j * e.size + k, none⟩ := by
      simp only [Ev.froze]
      rw [if_pos ⟨i, hS, by rw [hF]; simp⟩]
    rw [this]; exact hv

theorem froze_M {tmps : Array Value} (h : Holds AI G s ρ tmps w) (S : Nat → Prop) : ∀ b o v, ρ.M b o = some v → (ρ.froze S w).M b o = some v := by
  intro b o v hm
  simp only [Ev.froze]
  rw [if_neg]
  · exact hm
  · rintro ⟨i, _, hi⟩; exact (h.im b o v hm).2 i hi

/-- A chunk is given up; what its blocks hold stays from now on. -/
theorem Holds.frozen1 {tmps : Array Value} (hh : Holds AI G s ρ tmps w) (j : Nat) :
    Holds AI G ⟨s.tm, putC s.H j .gone⟩ (ρ.froze (fun i => i = j) w) tmps w ∧ ρ.Le (ρ.froze (fun i => i = j) w) := by
  let S : Nat → Prop := fun i => i = j
  have hM : ∀ b o v, ρ.M b o = some v → (ρ.froze S w).M b o = some v := froze_M hh S
  have le : ρ.Le (ρ.froze S w) := ⟨hM, fun _ _ h => h, fun _ => Nat.le_refl _, fun _ _ _ => rfl⟩
  have hfoot : ∀ i b, b ∈ (ρ.froze S w).foot i → ¬ S i ∧ b ∈ ρ.foot i := by
    intro i b hb
    simp only [Ev.froze] at hb
    split at hb
    · cases hb
    · rename_i hn; exact ⟨hn, hb⟩
  refine ⟨⟨hh.sz, hh.gt, fun t v ht => ?_, fun i => ?_, fun i k b hik hi hk => hh.dis i k b hik (hfoot i b hi).2 (hfoot k b hk).2, fun i b hb => hh.lt i b (hfoot i b hb).2, fun b o v hm => ?_, hh.os, hh.tape, hh.output, hh.grow, hh.kept,
    fun i b hb => hh.fro i b (hfoot i b hb).2, hh.rt, hh.rts, fun b o v hm => hM _ _ _ (hh.mono b o v hm), fun b o v hm => ?_⟩, le⟩
  · obtain ⟨x, h2, h3⟩ := hh.tm t v ht
    exact ⟨x, h2, h3.mono le⟩
  · show HoldsC AI (ρ.froze S w) w i (getC (putC s.H j .gone) i)
    rw [getC_putC]
    split
    · trivial
    · rename_i hn
      exact (hh.ch i).stays le rfl rfl (by simp only [Ev.froze]; rw [if_neg (fun h => hn h)]) fun _ _ => rfl
  · simp only [Ev.froze] at hm
    split at hm
    · rename_i hex
      obtain ⟨k, hk, hbk⟩ := hex
      refine ⟨hm, fun i hb => ?_⟩
      obtain ⟨h1, h2⟩ := hfoot i b hb
      exact hh.dis i k b (fun e => h1 (e ▸ hk)) h2 hbk
    · exact ⟨(hh.im b o v hm).1, fun i hb => (hh.im b o v hm).2 i (hfoot i b hb).2⟩
  · simp only [Ev.froze] at hm
    split at hm
    · rename_i hex
      obtain ⟨k, hk, hbk⟩ := hex
      exact .inr (hh.fro k b hbk)
    · exact hh.mfr b o v hm
end Go.Sx
