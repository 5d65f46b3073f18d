/-
  Symbolic execution, definitions: symbolic values, chunks of memory, one operation, a region, a piece of code.
-/
import Derived.WalkKit
namespace Go.Sx
set_option linter.all false
set_option linter.unusedVariables false
set_option linter.unusedSimpArgs false
set_option linter.unusedSectionVars false
open Go.RowKit

/-- Numbers compared: one step where the two are written out. -/
def beqN (a b : Nat) : Bool := a == b
def bleN (a b : Nat) : Bool := decide (a ≤ b)
def bltN (a b : Nat) : Bool := bleN (a + 1) b
@[simp] theorem beqN_iff {a b : Nat} : beqN a b = true ↔ a = b := by unfold beqN; exact beq_iff_eq
@[simp] theorem bltN_iff {a b : Nat} : bltN a b = true ↔ a < b := by unfold bltN bleN; exact decide_eq_true_iff
@[simp] theorem bleN_iff {a b : Nat} : bleN a b = true ↔ a ≤ b := by unfold bleN; exact decide_eq_true_iff
@[simp] theorem beqN_self {a : Nat} : beqN a a = true := beqN_iff.2 rfl
theorem leN {a b : Nat} (h : bleN a b = true) : a ≤ b := bleN_iff.1 h
theorem geN {a b : Nat} (h : a ≤ b) : bleN a b = true := bleN_iff.2 h

/-- A value that is handed on without being looked into. -/
abbrev U (α : Type) := Unit → α

/-- What an element of a slice is, seen as data. -/
inductive Ty where
  | int (k : IntKind)
  | bool
  | bytes
  | str
  | unit
  | pair (a b : Ty)
  | lst (a : Ty)
  deriving DecidableEq

abbrev Ty.T : Ty → Type
  | .int _ => Int
  | .bool => Bool
  | .bytes => List Int
  | .str => List Int
  | .unit => Unit
  | .pair a b => a.T × b.T
  | .lst a => List a.T

def Ty.dflt : (e : Ty) → e.T
  | .int _ => (0 : Int)
  | .bool => false
  | .bytes => ([] : List Int)
  | .str => ([] : List Int)
  | .unit => ()
  | .pair a b => (a.dflt, b.dflt)
  | .lst a => ([] : List a.T)

def Ty.size : Ty → Nat
  | .int _ => 1
  | .bool => 1
  | .bytes => 1
  | .str => 1
  | .unit => 0
  | .pair a b => a.size + b.size
  | .lst _ => 1

/-- Is a value of this form one of several cells? -/
def Ty.agg : Ty → Bool
  | .pair _ _ => true
  | .unit => true
  | _ => false

/-- What a map's key is. -/
inductive KT where
  | int (k : IntKind)
  | str
  deriving DecidableEq
abbrev KT.T : KT → Type
  | .int _ => Int
  | .str => List Int

/-- A symbolic value of one cell. -/
inductive SV1 where
  | int (k : IntKind) (n : U Int)
  | li (k : IntKind) (n : Int)                     -- an integer that is written out
  | sb (b : U Bool)                                -- a Bool that is not decided
  | lb (b : Bool)                                  -- a Bool that is written out
  | str (l : U (List Int))
  | v (x : Value)                                  -- any other value
  | nilS                                           -- the nil slice
  | nilP                                           -- the nil pointer
  | ptr (i off : Nat)                              -- a pointer into chunk i
  | ro (e : Ty) (L : U (List e.T))                 -- a slice of elements that stay as they are
  | hd (i ver : Nat)                               -- the slice (or the map) that owns chunk i
  | vw (i ver esz : Nat) (lo n : U Int)            -- a part of it (of elements of esz cells)
  | ep (i ver esz : Nat) (k : U Int) (off : Nat)   -- a pointer to an element of it, of esz cells
  | rp (e : Ty) (L : U (List e.T)) (k : U Int) (off : Nat) -- a pointer to an element of elements that stay
  | mp (i : Nat)                                   -- the map that is chunk i
  | nb (neg : Bool) (C : U Prop)                   -- a Bool: where it is not neg, C holds
  | any

inductive SV2 where
  | one (x : SV1)
  | agg (l : List SV1)
  | fn (f : FuncId) (caps : List SV1)

inductive SV where
  | val (x : SV2)
  | tup (l : List SV2)

def dec : (e : Ty) → U e.T → List SV1
  | .int k, n => [.int k n]
  | .bool, b => [.sb b]
  | .bytes, l => [.ro (.int .u8) l]
  | .str, l => [.str l]
  | .unit, _ => []
  | .pair a b, x => dec a (fun _ => (x ()).1) ++ dec b (fun _ => (x ()).2)
  | .lst a, l => [.ro a l]

/-- The elements of one form in the other form, where the two are one. -/
def castL : (e e' : Ty) → Option (List e.T → List e'.T)
  | .int k, .int k' => (match decide (k = k') with | true => some (fun l => l) | false => none)
  | .bool, .bool => some (fun l => l)
  | .bytes, .bytes => some (fun l => l)
  | .str, .str => some (fun l => l)
  | .unit, .unit => some (fun l => l)
  | .lst a, .lst a' => (match castT a a' with
    | some f => some (fun l => l.map fun x => List.map f x)
    | none => none)
  | .pair a b, .pair a' b' => (match castT a a' with
    | some f => (match castT b b' with
      | some g => some (fun l => l.map fun x => (f x.1, g x.2))
      | none => none)
    | none => none)
  | _, _ => none
where castT : (e e' : Ty) → Option (e.T → e'.T)
  | .int k, .int k' => (match decide (k = k') with | true => some (fun l => l) | false => none)
  | .bool, .bool => some (fun l => l)
  | .bytes, .bytes => some (fun l => l)
  | .str, .str => some (fun l => l)
  | .unit, .unit => some (fun l => l)
  | .lst a, .lst a' => (match castT a a' with
    | some f => some (fun l => List.map f l)
    | none => none)
  | .pair a b, .pair a' b' => (match castT a a' with
    | some f => (match castT b b' with
      | some g => some (fun x => (f x.1, g x.2))
      | none => none)
    | none => none)
  | _, _ => none

/-- A slice as a list of elements. -/
def lstOf (a : Ty) : SV1 → Option (U (List a.T))
  | .ro a' l => (match castL a' a with | some f => some (fun _ => f (l ())) | none => none)
  | .nilS => some (fun _ => [])
  | _ => none
/-- The element that these cells spell, and what is left of them. -/
def enc : (e : Ty) → List SV1 → Option (U e.T × List SV1)
  | .int k, .int k' n :: r => match decide (k = k') with | true => some (n, r) | false => none
  | .int k, .li k' n :: r => match decide (k = k') with | true => some (fun _ => n, r) | false => none
  | .bool, .sb b :: r => some (b, r)
  | .bool, .lb b :: r => some (fun _ => b, r)
  | .bytes, .ro (.int .u8) l :: r => some (l, r)
  | .bytes, .nilS :: r => some (fun _ => [], r)
  | .str, .str l :: r => some (l, r)
  | .unit, r => some (fun _ => (), r)
  | .lst a, x :: r => (match lstOf a x with | some l => some (l, r) | none => none)
  | .pair a b, r => match enc a r with
    | some (x, r) => match enc b r with
      | some (y, r) => some (fun _ => (x (), y ()), r)
      | none => none
    | none => none
  | _, _ => none

/-- Maps as lists: what stands at a key, with a key set, with a key struck out. -/
def getA {K V : Type} [DecidableEq K] : List (K × V) → K → Option V
  | [], _ => none
  | (a, v) :: r, k => if a = k then some v else getA r k
def putA {K V : Type} [DecidableEq K] : List (K × V) → K → V → List (K × V)
  | [], k, v => [(k, v)]
  | (a, x) :: r, k, v => if a = k then (k, v) :: r else (a, x) :: putA r k v
def delA {K V : Type} [DecidableEq K] : List (K × V) → K → List (K × V)
  | [], _ => []
  | (a, x) :: r, k => if a = k then r else (a, x) :: delA r k
def getM : (ks : KT) → {V : Type} → List (ks.T × V) → ks.T → Option V
  | .int _, _, l, k => getA (K := Int) l k
  | .str, _, l, k => getA (K := List Int) l k
def putM : (ks : KT) → {V : Type} → List (ks.T × V) → ks.T → V → List (ks.T × V)
  | .int _, _, l, k, v => putA (K := Int) l k v
  | .str, _, l, k, v => putA (K := List Int) l k v
def delM : (ks : KT) → {V : Type} → List (ks.T × V) → ks.T → List (ks.T × V)
  | .int _, _, l, k => delA (K := Int) l k
  | .str, _, l, k => delA (K := List Int) l k

inductive TK where
  | int (k : IntKind)
  | bool
  | str
  | struct (offs : List (Nat × Nat))               -- of each field: its offset, its cells
  | slice (elem : TypeId) (ty : Option Ty)
  | array (n : Nat) (elem : TypeId)
  | ptr (e : TypeId)
  | map (k e : TypeId) (ty : Option (KT × Ty))
  | other

structure TI where
  kind : TK
  size : Nat
  bytes : Nat
  zero : List SV1

def TI.isAgg (t : TI) : Bool := match t.kind with | .struct _ => true | .array _ _ => true | _ => false

inductive Chunk (A : Type) where
  | emp                                            -- not yet used
  | gone                                           -- let go
  | cells (t : TypeId) (cs : List SV1)
  | row (t : TypeId) (e : Ty) (ver : Nat) (L : U (List e.T))
  | map (ks : KT) (e : Ty) (L : U (List (ks.T × e.T)))
  | rmap (ks : KT) (e : Ty) (L R : U (List (ks.T × e.T))) (c : Option (U (ks.T × e.T))) (j : Nat) -- a map that is ranged over by the iterator j: R is still to come, c is there
  | itp (i : Nat)                                  -- the iterator over the map i
  | abs (a : A)

structure SS (A : Type) where
  tm : List (Nat × SV)
  H : List (Chunk A)

def look {α : Type} : List (Nat × α) → Nat → Option α
  | [], _ => none
  | (i, x) :: r, n => match beqN i n with
    | true => some x
    | false => look r n

def nth {α : Type} : List α → Nat → Option α
  | [], _ => none
  | x :: _, 0 => some x
  | _ :: r, n + 1 => nth r n

def setNth {α : Type} : List α → Nat → α → List α
  | [], _, _ => []
  | _ :: r, 0, y => y :: r
  | x :: r, n + 1, y => x :: setNth r n y

def takeN {α : Type} : List α → Nat → Option (List α)
  | _, 0 => some []
  | x :: r, n + 1 => match takeN r n with | some l => some (x :: l) | none => none
  | [], _ + 1 => none
def cut {α : Type} : List α → Nat → Nat → Option (List α)
  | l, 0, n => takeN l n
  | _ :: r, o + 1, n => cut r o n
  | [], _ + 1, _ => none

def paste {α : Type} : List α → Nat → List α → Option (List α)
  | l, _, [] => some l
  | x :: r, o + 1, y :: ys => match paste r o (y :: ys) with | some l => some (x :: l) | none => none
  | _ :: r, 0, y :: ys => match paste r 0 ys with | some l => some (y :: l) | none => none
  | [], _, _ :: _ => none

/-- A literal value as a symbolic one. -/
def ofLit1 : Value → SV1
  | .bool b => .lb b
  | .int k n => .li k n
  | .string s => .str (fun _ => s.data.toList.map fun x => (x.toNat : Int))
  | .slice none 0 0 => .nilS
  | .pointer none => .nilP
  | x => .v x
def ofLit : Value → SV
  | .agg cs => .val (.agg (cs.toList.map ofLit1))
  | x => .val (.one (ofLit1 x))

def evalOp (tm : List (Nat × SV)) : Operand → Option SV
  | .tmp t => look tm t
  | .const v => some (ofLit v)
  | .func f => some (.val (.fn f []))
  | .global _ => none

def evalOps (tm : List (Nat × SV)) : List Operand → Option (List SV)
  | [] => some []
  | x :: r => match evalOp tm x with
    | some v => match evalOps tm r with
      | some vs => some (v :: vs)
      | none => none
    | none => none

/-- What an operation does: it fails, it wants a Bool decided, or it is done. -/
inductive Out (A : Type) where
  | fail
  | need (b : U Bool)
  | done (C : U Prop) (v : SV) (cs : List (Chunk A))

/-- The chunks that it looks at (the last nf of them are new), whether it writes to them, and what it does with them (behind the decisions that were made). -/
structure Plan (A : Type) where
  ids : List Nat
  nf : Nat
  w : Bool
  eff : List (Chunk A) → List Bool → Out A

def inI64 (n : Int) : Prop := -9223372036854775808 ≤ n ∧ n ≤ 9223372036854775807

def one (x : SV1) : SV := .val (.one x)

def pureP {A : Type} (C : U Prop) (v : SV) : Option (Plan A) := some ⟨[], 0, false, fun _ _ => .done C v []⟩
def tt : U Prop := fun _ => True

def cellsOf : SV → Option (List SV1)
  | .val (.one x) => some [x]
  | .val (.agg l) => some l
  | _ => none

def ival : SV1 → Option (IntKind × U Int)
  | .int k n => some (k, n)
  | .li k n => some (k, fun _ => n)
  | _ => none
def ivalS : SV → Option (IntKind × U Int)
  | .val (.one x) => ival x
  | _ => none
def bval : SV1 → Option (U Bool)
  | .sb b => some b
  | .lb b => some (fun _ => b)
  | _ => none

def fit (k : IntKind) (n : U Int) : U Prop × SV1 := match k with
  | .i64 => (fun _ => inI64 (n ()), .int k n)
  | _ => (tt, .int k (fun _ => k.wrap (n ())))

def arith (op : BinOp) (k : IntKind) (a b : U Int) : Option (U Prop × SV1) :=
  match op with
  | .add => some (fit k (fun _ => a () + b ()))
  | .sub => some (fit k (fun _ => a () - b ()))
  | .mul => some (fit k (fun _ => a () * b ()))
  | .quo => match k with
    | .i64 => some (fun _ => 0 ≤ a () ∧ 0 < b () ∧ inI64 (a ()), .int k (fun _ => a () / b ()))
    | .u8 => some (fun _ => 0 ≤ a () ∧ 0 < b () ∧ a () < 256, .int k (fun _ => a () / b ()))
    | .u16 => some (fun _ => 0 ≤ a () ∧ 0 < b () ∧ a () < 65536, .int k (fun _ => a () / b ()))
    | _ => none
  | .rem => match k with
    | .i64 => some (fun _ => 0 ≤ a () ∧ 0 < b () ∧ inI64 (a ()), .int k (fun _ => a () % b ()))
    | .u8 => some (fun _ => 0 ≤ a () ∧ 0 < b () ∧ a () < 256, .int k (fun _ => a () % b ()))
    | .u16 => some (fun _ => 0 ≤ a () ∧ 0 < b () ∧ a () < 65536, .int k (fun _ => a () % b ()))
    | _ => none
  | .lss => some (tt, .sb (fun _ => decide (a () < b ())))
  | .leq => some (tt, .sb (fun _ => decide (a () ≤ b ())))
  | .gtr => some (tt, .sb (fun _ => decide (b () < a ())))
  | .geq => some (tt, .sb (fun _ => decide (b () ≤ a ())))
  | .eql => some (tt, .sb (fun _ => decide (a () = b ())))
  | .neq => some (tt, .sb (fun _ => !decide (a () = b ())))
  | _ => none

def inBytes (l : List Int) : Prop := ∀ x ∈ l, 0 ≤ x ∧ x < 256

def binop1 (op : BinOp) (x y : SV1) : Option (U Prop × SV1) :=
  match ival x with
  | some (k, a) => match ival y with
    | some (k', b) => (match op with
      | .shr => (match k with
        | .u8 => some (fun _ => 0 ≤ a () ∧ 0 ≤ b () ∧ b () ≤ 8, .int k (fun _ => a () / 2 ^ (b ()).toNat))
        | .u16 => some (fun _ => 0 ≤ a () ∧ 0 ≤ b () ∧ b () ≤ 8, .int k (fun _ => a () / 2 ^ (b ()).toNat))
        | _ => none)
      | _ => match decide (k = k') with | true => arith op k a b | false => none)
    | none => none
  | none => match bval x with
    | some p => (match bval y with
      | some q => (match op with | .eql => some (tt, .sb (fun _ => p () == q ())) | .neq => some (tt, .sb (fun _ => !(p () == q ()))) | _ => none)
      | none => none)
    | none => match x, y with
      | .str a, .str b => (match op with
        | .eql => some (fun _ => inBytes (a ()) ∧ inBytes (b ()), .sb (fun _ => decide (a () = b ())))
        | .neq => some (fun _ => inBytes (a ()) ∧ inBytes (b ()), .sb (fun _ => !decide (a () = b ())))
        | _ => none)
      | .ptr _ _, .nilP => (match op with | .eql => some (tt, .lb false) | .neq => some (tt, .lb true) | _ => none)
      | .nilP, .ptr _ _ => (match op with | .eql => some (tt, .lb false) | .neq => some (tt, .lb true) | _ => none)
      | .nilP, .nilP => (match op with | .eql => some (tt, .lb true) | .neq => some (tt, .lb false) | _ => none)
      | _, _ => none
def binopP {A : Type} (op : BinOp) (x y : SV) : Option (Plan A) :=
  match x, y with
  | .val (.one x), .val (.one y) => (match binop1 op x y with | some (C, v) => pureP C (one v) | none => none)
  | _, _ => none

def unopP {A : Type} (op : UnOp) (x : SV) : Option (Plan A) :=
  match op, x with
  | .not, .val (.one (.sb b)) => pureP tt (one (.sb (fun _ => !b ())))
  | .not, .val (.one (.lb b)) => pureP tt (one (.lb (!b)))
  | .neg, .val (.one (.int .i64 n)) => pureP (fun _ => inI64 (-n ())) (one (.int .i64 (fun _ => -n ())))
  | _, _ => none

def litNat : SV → Option Nat
  | .val (.one (.li _ (.ofNat n))) => some n
  | _ => none

def convertP {A : Type} (src dst : TI) (x : SV) : Option (Plan A) :=
  match dst.kind, x with
  | .int k', .val (.one (.int _ n)) => (match fit k' n with | (C, v) => pureP C (one v))
  | .int k', .val (.one (.li _ n)) => (match fit k' (fun _ => n) with | (C, v) => pureP C (one v))
  | .str, .val (.one (.ro (.int .u8) l)) => pureP tt (one (.str l))
  | .str, .val (.one .nilS) => pureP tt (one (.str (fun _ => [])))
  | .str, .val (.one (.str l)) => pureP tt (one (.str l))
  | .str, .val (.one (.hd i ver)) => some ⟨[i], 0, false, fun cs _ => match cs with
      | [.row t (.int .u8) ver' L] => (match beqN ver ver' with | true => .done tt (one (.str L)) [.row t (.int .u8) ver' L] | false => .fail)
      | _ => .fail⟩
  | .str, .val (.one (.vw i ver esz lo n)) => some ⟨[i], 0, false, fun cs _ => match cs with
      | [.row t (.int .u8) ver' L] => (match beqN ver ver' && beqN esz 1 with | true => .done (fun _ => 0 ≤ n ()) (one (.str (fun _ => ((L ()).drop (lo ()).toNat).take (n ()).toNat))) [.row t (.int .u8) ver' L] | false => .fail)
      | _ => .fail⟩
  | _, _ => none

/-- Is a value that a conversion takes of the type that it is said to have? -/
def srcOk (src : TI) (x : SV) : Bool := match src.kind, x with
  | .int _, .val (.one (.int _ _)) => true
  | .int _, .val (.one (.li _ _)) => true
  | .str, .val (.one (.str _)) => true
  | .slice _ (some (.int .u8)), .val (.one (.ro _ _)) => true
  | .slice _ (some (.int .u8)), .val (.one .nilS) => true
  | .slice _ (some (.int .u8)), .val (.one (.hd _ _)) => true
  | .slice _ (some (.int .u8)), .val (.one (.vw _ _ _ _ _)) => true
  | _, _ => false

/-- The cells of a value of type t, as one value. -/
def pack (t : TI) (l : List SV1) : Option SV :=
  match t.isAgg with
  | true => some (.val (.agg l))
  | false => match l with | [x] => some (one x) | _ => none

/-- Part off .. of an element. -/
def partOf (t : TI) (l : List SV1) (off : Nat) : Option SV := match cut l off t.size with
  | some l => pack t l
  | none => none

def loadP {A : Type} (t : TI) (x : SV) : Option (Plan A) :=
  match x with
  | .val (.one (.ptr i off)) => some ⟨[i], 0, false, fun cs _ => match cs with
      | [.cells ct l] => (match partOf t l off with | some v => .done tt v [.cells ct l] | none => .fail)
      | _ => .fail⟩
  | .val (.one (.rp e L k off)) => (match partOf t (dec e (fun _ => (L ()).getD (k ()).toNat e.dflt)) off with
    | some v => pureP (fun _ => 0 ≤ k () ∧ k () < (L ()).length) v
    | none => none)
  | .val (.one (.ep i ver esz k off)) => some ⟨[i], 0, false, fun cs _ => match cs with
      | [.row rt e ver' L] => (match beqN ver ver' && beqN esz e.size with
        | true => (match partOf t (dec e (fun _ => (L ()).getD (k ()).toNat e.dflt)) off with | some v => .done (fun _ => 0 ≤ k () ∧ k () < (L ()).length) v [.row rt e ver' L] | none => .fail)
        | false => .fail)
      | _ => .fail⟩
  | _ => none

def storable : SV1 → Bool
  | .v _ => false
  | .any => false
  | .nb _ _ => false
  | _ => true

def storeQ {A : Type} (t : TI) (x v : SV) : Option (Plan A) :=
  match cellsOf v with
  | none => none
  | some vs => match beqN vs.length t.size && vs.all storable with
  | false => none
  | true => match x with
    | .val (.one (.ptr i off)) => some ⟨[i], 0, true, fun cs _ => match cs with
        | [.cells ct l] => (match paste l off vs with | some l => .done tt (one .any) [.cells ct l] | none => .fail)
        | _ => .fail⟩
    | .val (.one (.ep i ver esz k off)) => some ⟨[i], 0, true, fun cs _ => match cs with
        | [.row rt e ver' L] => (match beqN ver ver' && beqN esz e.size with
          | true => (match paste (dec e (fun _ => (L ()).getD (k ()).toNat e.dflt)) off vs with
            | some l => (match enc e l with | some (y, []) => .done (fun _ => 0 ≤ k () ∧ k () < (L ()).length) (one .any) [.row rt e ver' (fun _ => (L ()).set (k ()).toNat (y ()))] | _ => .fail)
            | none => .fail)
          | false => .fail)
        | _ => .fail⟩
    | _ => none

/-- A view that is stored into a variable: its row begins anew there. -/
def viewOf : SV → Option (Nat × Nat × Nat × U Int × U Int)
  | .val (.one (.vw j ver esz lo n)) => some (j, ver, esz, lo, n)
  | _ => none
def storeP {A : Type} (t : TI) (x v : SV) : Option (Plan A) :=
  match viewOf v with
  | none => storeQ t x v
  | some (j, ver, esz, lo, n) => match x with
    | .val (.one (.ptr i off)) => (match beqN t.size 1 && !beqN i j with
      | true => some ⟨[i, j], 0, true, fun cs _ => match cs with
        | [.cells ct l, .row rt e ver' L] => (match beqN ver ver' && beqN esz e.size with
          | true => (match paste l off [.hd j (ver + 1)] with
            | some l => .done tt (one .any) [.cells ct l, .row rt e (ver + 1) (fun _ => ((L ()).drop (lo ()).toNat).take (n ()).toNat)]
            | none => .fail)
          | false => .fail)
        | _ => .fail⟩
      | false => none)
    | _ => none

def fieldP {A : Type} (t : TI) (x : SV) (f : Nat) : Option (Plan A) :=
  match t.kind with
  | .struct offs => match nth offs f with
    | some (o, _ + 1) => (match x with
      | .val (.one (.ptr i off)) => pureP tt (one (.ptr i (off + o)))
      | .val (.one (.rp e L k off)) => pureP tt (one (.rp e L k (off + o)))
      | .val (.one (.ep i ver esz k off)) => pureP tt (one (.ep i ver esz k (off + o)))
      | _ => none)
    | _ => none
  | _ => none

def indexP {A : Type} (t : TI) (esz : Nat) (x ix : SV) : Option (Plan A) :=
  match t.kind with
  | .array n _ => (match litNat ix with
    | some j => (match bltN j n with
      | true => (match x with
        | .val (.one (.ptr i off)) => pureP tt (one (.ptr i (off + j * esz)))
        | .val (.one (.rp e L k off)) => pureP tt (one (.rp e L k (off + j * esz)))
        | .val (.one (.ep i ver es k off)) => pureP tt (one (.ep i ver es k (off + j * esz)))
        | _ => none)
      | false => none)
    | none => none)
  | .slice _ _ => (match ivalS ix with
    | some (_, k) => (match x with
      | .val (.one (.ro e L)) => (match beqN esz e.size with | true => pureP (fun _ => 0 ≤ k () ∧ k () < (L ()).length) (one (.rp e L k 0)) | false => none)
      | .val (.one (.hd i ver)) => some ⟨[i], 0, false, fun cs _ => match cs with
          | [.row rt e ver' L] => (match beqN ver ver' && beqN esz e.size with | true => .done (fun _ => 0 ≤ k () ∧ k () < (L ()).length) (one (.ep i ver e.size k 0)) [.row rt e ver' L] | false => .fail)
          | _ => .fail⟩
      | _ => none)
    | _ => none)
  | _ => none

def intArg : Option SV → Option (Option (U Int))
  | none => some none
  | some x => match ivalS x with | some (_, k) => some (some k) | none => none

def loOf (lo : Option (U Int)) : U Int := match lo with | some l => l | none => fun _ => 0
def hiOf (hi : Option (U Int)) (n : U Int) : U Int := match hi with | some l => l | none => n

def isSlice : SV → Bool
  | .val (.one (.ro _ _)) => true
  | .val (.one .nilS) => true
  | .val (.one (.hd _ _)) => true
  | .val (.one (.vw _ _ _ _ _)) => true
  | _ => false
def isZero : Option SV → Bool
  | some (.val (.one (.li _ 0))) => true
  | _ => false
def sliceP {A : Type} (t : TI) (esz : Nat) (x : SV) (lo hi mx : Option SV) : Option (Plan A) :=
  match t.kind, mx with
  | .slice _ _, none => (match intArg lo with
    | some lo => (match intArg hi with
      | some hi => (match x with
        | .val (.one (.ro e L)) => (match loOf lo, hiOf hi (fun _ => (L ()).length), beqN esz e.size with
          | _, _, false => none
          | l, h, true => pureP (fun _ => 0 ≤ l () ∧ l () ≤ h () ∧ h () ≤ (L ()).length) (one (.ro e (fun _ => ((L ()).take (h ()).toNat).drop (l ()).toNat))))
        | .val (.one (.hd i ver)) => some ⟨[i], 0, false, fun cs _ => match cs with
            | [.row rt e ver' L] => (match beqN ver ver' && beqN esz e.size with
              | true => (match loOf lo, hiOf hi (fun _ => (L ()).length) with
                | l, h => .done (fun _ => 0 ≤ l () ∧ l () ≤ h () ∧ h () ≤ (L ()).length) (one (.vw i ver e.size l (fun _ => h () - l ()))) [.row rt e ver' L])
              | false => .fail)
            | _ => .fail⟩
        | _ => none)
      | none => none)
    | none => none)
  | _, _ => none

def lenP {A : Type} (x : SV) : Option (Plan A) :=
  match x with
  | .val (.one (.ro _ L)) => pureP tt (one (.int .i64 (fun _ => (L ()).length)))
  | .val (.one .nilS) => pureP tt (one (.li .i64 0))
  | .val (.one (.str l)) => pureP tt (one (.int .i64 (fun _ => (l ()).length)))
  | .val (.one (.vw _ _ _ _ n)) => pureP (fun _ => 0 ≤ n ()) (one (.int .i64 n))
  | .val (.one (.hd i ver)) => some ⟨[i], 0, false, fun cs _ => match cs with
      | [.row rt e ver' L] => (match beqN ver ver' with | true => .done tt (one (.int .i64 (fun _ => (L ()).length))) [.row rt e ver' L] | false => .fail)
      | _ => .fail⟩
  | .val (.one (.mp i)) => some ⟨[i], 0, false, fun cs _ => match cs with
      | [.map ks e L] => .done tt (one (.int .i64 (fun _ => (L ()).length))) [.map ks e L]
      | _ => .fail⟩
  | _ => none

def maxOf (isMax : Bool) (k : IntKind) (a b : U Int) : SV1 := match isMax with
  | true => .int k (fun _ => max (a ()) (b ()))
  | false => .int k (fun _ => min (a ()) (b ()))
def minmaxP {A : Type} (isMax : Bool) : List SV → Option (Plan A)
  | [x, y] => (match ivalS x with
    | some (k, a) => (match ivalS y with
      | some (k', b) => (match decide (k = k') with | true => pureP tt (one (maxOf isMax k a b)) | false => none)
      | none => none)
    | none => none)
  | [x, y, z] => (match ivalS x with
    | some (k, a) => (match ivalS y with
      | some (k', b) => (match ivalS z with
        | some (k'', c) => (match decide (k = k') && decide (k = k'') with
          | true => (match ivalS (one (maxOf isMax k a b)) with
            | some (_, m) => pureP tt (one (maxOf isMax k m c))
            | none => none)
          | false => none)
        | none => none)
      | none => none)
    | none => none)
  | _ => none

def castK : (k k' : KT) → Option (k.T → k'.T)
  | .int k, .int k' => (match decide (k = k') with | true => some (fun x => x) | false => none)
  | .str, .str => some (fun x => x)
  | _, _ => none
def castM (ks ks' : KT) (e e' : Ty) : Option (List (ks.T × e.T) → List (ks'.T × e'.T)) := match castK ks ks' with
  | some f => (match castL.castT e e' with
    | some g => some (fun l => l.map fun x => (f x.1, g x.2))
    | none => none)
  | none => none

/-- What a source of an append shows: by itself, or as (part of) chunk i. -/
inductive Src where
  | ro (e : Ty) (L : U (List e.T))
  | nil
  | hd (i ver : Nat)
  | vw (i ver esz : Nat) (lo n : U Int)
  | bad
def srcOf : SV → Src
  | .val (.one .nilS) => .nil
  | .val (.one (.ro e L)) => .ro e L
  | .val (.one (.hd i ver)) => .hd i ver
  | .val (.one (.vw i ver esz lo n)) => .vw i ver esz lo n
  | _ => .bad

def Src.ids : Src → List Nat
  | .hd i _ => [i]
  | .vw i _ _ _ _ => [i]
  | _ => []
/-- The elements of form e that the source shows, its chunk being c. -/
def Src.list {A : Type} (e : Ty) : Src → List (Chunk A) → Option (U (List e.T))
  | .nil, [] => some (fun _ => [])
  | .ro e' L, [] => (match castL e' e with | some f => some (fun _ => f (L ())) | none => none)
  | .hd _ ver, [.row _ e' ver' L] => (match beqN ver ver' with
    | true => (match castL e' e with | some f => some (fun _ => f (L ())) | none => none)
    | false => none)
  | .vw _ ver esz lo n, [.row _ e' ver' L] => (match beqN ver ver' && beqN esz e'.size with
    | true => (match castL e' e with | some f => some (fun _ => f (((L ()).drop (lo ()).toNat).take (n ()).toNat)) | none => none)
    | false => none)
  | _, _ => none

def maxRow : Nat := 1099511627776

def appendQ {A : Type} (t : TI) (x : SV) (src : Src) (fresh : Nat) : Option (Plan A) :=
  match t.kind with
  | .slice et (some e) => (match x with
    | .val (.one (.hd i ver)) => (match src.ids.any (beqN i) with
      | true => none
      | false => some ⟨i :: src.ids, 0, true, fun cs _ => match cs with
        | .row rt e' ver' L :: r => (match beqN ver ver' && beqN rt et && decide (e' = e) with
          | true => (match src.list e' r with
            | some M => .done (fun _ => (L ()).length + (M ()).length ≤ maxRow) (one (.hd i (ver + 1))) (.row rt e' (ver + 1) (fun _ => L () ++ M ()) :: r)
            | none => .fail)
          | false => .fail)
        | _ => .fail⟩)
    | .val (.one .nilS) => (match src.ids.any (beqN fresh) with
      | true => none
      | false => some ⟨fresh :: src.ids, 1, true, fun cs _ => match cs with
        | .emp :: r => (match src.list e r with
            | some M => .done (fun _ => (M ()).length ≤ maxRow) (one (.hd fresh 0)) (.row et e 0 M :: r)
            | none => .fail)
        | _ => .fail⟩)
    | _ => none)
  | _ => none
def appendP {A : Type} (t : TI) (x y : SV) (fresh : Nat) : Option (Plan A) := appendQ t x (srcOf y) fresh

def allocP {A : Type} (t : TypeId) (cs : List SV1) (fresh : Nat) : Option (Plan A) :=
  some ⟨[fresh], 1, true, fun c _ => match c with | [.emp] => .done tt (one (.ptr fresh 0)) [.cells t cs] | _ => .fail⟩

def buildCells : List (Nat × Nat) → List SV1 → List (Nat × SV) → Option (List SV1)
  | _, z, [] => some z
  | offs, z, (f, v) :: r => match nth offs f with
    | some (o, sz) => (match cellsOf v with
      | some vs => (match beqN vs.length sz && vs.all storable && bleN 1 sz with
        | true => (match paste z o vs with
          | some z => buildCells offs z r
          | none => none)
        | false => none)
      | none => none)
    | none => none

/-- The places of an array's elements. -/
def places (z : Nat) : Nat → Nat → List (Nat × Nat)
  | _, 0 => []
  | i, n + 1 => (i * z, z) :: places z (i + 1) n
def buildP {A : Type} (t : TI) (esz : Option Nat) (parts : List (Nat × SV)) : Option (Plan A) :=
  match t.kind with
  | .struct offs => (match buildCells offs t.zero parts with
    | some l => pureP tt (.val (.agg l))
    | none => none)
  | .array n _ => (match esz with
    | some z => (match buildCells (places z 0 n) t.zero parts with
      | some l => pureP tt (.val (.agg l))
      | none => none)
    | none => none)
  | _ => none

def encAll (e : Ty) : List SV → Option (U (List e.T))
  | [] => some (fun _ => [])
  | v :: r => match cellsOf v with
    | some l => (match l.all storable with
      | true => (match enc e l with
        | some (y, []) => (match encAll e r with
          | some ys => some (fun _ => y () :: ys ())
          | none => none)
        | _ => none)
      | false => none)
    | none => none

/-- The parts of a slice literal that gives every element, in order. -/
def inOrder : Nat → List (Nat × SV) → Option (List SV)
  | _, [] => some []
  | n, (i, v) :: r => match beqN n i with
    | true => (match inOrder (n + 1) r with | some l => some (v :: l) | none => none)
    | false => none

def isLitV : SV → Bool
  | .val (.one (.li .u8 _)) => true
  | _ => false
def buildSliceP {A : Type} (t : TI) (n : Nat) (parts : List (Nat × SV)) (fresh : Nat) : Option (Plan A) :=
  match t.kind with
  | .slice et (some e) => (match inOrder 0 parts with
    | some vs => (match beqN vs.length n with
      | true => (match encAll e vs with
        | some L => (match beqN n 0 || vs.all isLitV with
          | true => some ⟨[fresh], 1, true, fun c _ => match c with | [.emp] => .done (fun _ => n * e.size ≤ 16777216) (one (.hd fresh 0)) [.row et e 0 L] | _ => .fail⟩
          | false => pureP (fun _ => n * e.size ≤ 16777216) (one (.ro e L)))
        | none => none)
      | false => none)
    | none => none)
  | _ => none

def makeSliceP {A : Type} (t : TI) (len cap : SV) (fresh : Nat) : Option (Plan A) :=
  match t.kind with
  | .slice et (some e) => (match ivalS len with
    | some (_, l) => (match ivalS cap with
      | some (_, c) => some ⟨[fresh], 1, true, fun ch _ => match ch with
        | [.emp] => .done (fun _ => 0 ≤ l () ∧ l () ≤ c () ∧ c () ≤ maxRow) (one (.hd fresh 0)) [.row et e 0 (fun _ => List.replicate (l ()).toNat e.dflt)]
        | _ => .fail⟩
      | none => none)
    | none => none)
  | _ => none

def makeMapP {A : Type} (t : TI) (fresh : Nat) : Option (Plan A) :=
  match t.kind with
  | .map _ _ (some (ks, e)) => some ⟨[fresh], 1, true, fun c _ => match c with | [.emp] => .done tt (one (.mp fresh)) [.map ks e (fun _ => [])] | _ => .fail⟩
  | _ => none

/-- A key. -/
def keyV : (ks : KT) → SV → Option (U Prop × U ks.T)
  | .int k, .val (.one (.int k' n)) => (match decide (k = k') with | true => some (tt, n) | false => none)
  | .int k, .val (.one (.li k' n)) => (match decide (k = k') with | true => some (tt, fun _ => n) | false => none)
  | .str, .val (.one (.str l)) => some (fun _ => inBytes (l ()), l)
  | _, _ => none

/-- An element of form e as a value. -/
def elV (e : Ty) (x : U e.T) : Option SV2 := match e.agg with
  | true => some (.agg (dec e x))
  | false => (match dec e x with | [y] => some (.one y) | _ => none)

/-- A value as an element of form e. -/
def velt (e : Ty) (v : SV) : Option (U e.T) := match cellsOf v with
  | some l => (match l.all storable with
    | true => (match enc e l with | some (y, []) => some y | _ => none)
    | false => none)
  | none => none

def aggV : SV → Bool
  | .val (.agg _) => true
  | _ => false

def lookupP {A : Type} (t : TI) (x ix : SV) (ok : Bool) : Option (Plan A) :=
  match t.kind, x with
  | .map _ _ (some (ks0, e0)), .val (.one (.mp i)) => some ⟨[i], 0, false, fun cs _ => match cs with
    | [.map ks e L] => (match decide (ks = ks0) && decide (e = e0) with
      | true => (match keyV ks ix with
        | some (C, k) => (match elV e (fun _ => (getM ks (L ()) (k ())).getD e.dflt) with
          | some v => .done C (match ok with | true => .tup [v, .one (.sb (fun _ => (getM ks (L ()) (k ())).isSome))] | false => .val v) [.map ks e L]
          | none => .fail)
        | none => .fail)
      | false => .fail)
    | _ => .fail⟩
  | _, _ => none

def mapUpdateP {A : Type} (t : TI) (x ix v : SV) : Option (Plan A) :=
  match t.kind, x with
  | .map _ _ (some (ks0, e0)), .val (.one (.mp i)) => some ⟨[i], 0, true, fun cs _ => match cs with
    | [.map ks e L] => (match decide (ks = ks0) && decide (e = e0) && (aggV v == e.agg) with
      | true => (match keyV ks ix with
        | some (C, k) => (match velt e v with
          | some y => .done C (one .any) [.map ks e (fun _ => putM ks (L ()) (k ()) (y ()))]
          | none => .fail)
        | none => .fail)
      | false => .fail)
    | _ => .fail⟩
  | _, _ => none

def deleteP {A : Type} (t : TI) (x ix : SV) : Option (Plan A) :=
  match t.kind, x with
  | .map _ _ (some (ks0, _)), .val (.one (.mp i)) => some ⟨[i], 0, true, fun cs _ => match cs with
    | [.map ks e L] => (match decide (ks = ks0) with
      | true => (match keyV ks ix with
        | some (C, k) => .done C (.tup []) [.map ks e (fun _ => delM ks (L ()) (k ()))]
        | none => .fail)
      | false => .fail)
    | _ => .fail⟩
  | _, _ => none

/-- A contract: the arguments, the number of the first new chunk. -/
abbrev Con (A : Type) := List SV → Nat → Option (Plan A)

structure Env (A : Type) where
  ti : List (Nat × TI)
  con : List (Nat × Con A)

def argParts (tm : List (Nat × SV)) : List (Nat × Operand) → Option (List (Nat × SV))
  | [] => some []
  | (i, x) :: r => match evalOp tm x with
    | some v => (match argParts tm r with | some l => some ((i, v) :: l) | none => none)
    | none => none

def evalOpt (tm : List (Nat × SV)) : Option Operand → Option (Option SV)
  | none => some none
  | some x => match evalOp tm x with | some v => some (some v) | none => none

def szOf (E : List (Nat × TI)) : TK → Option Nat
  | .slice e _ => (match look E e with | some i => some i.size | none => none)
  | .array _ e => (match look E e with | some i => some i.size | none => none)
  | _ => none

def lenOk (i : TI) (x : SV) : Bool := match i.kind, x with
  | .str, .val (.one (.str _)) => true
  | .slice _ _, .val (.one (.ro _ _)) => true
  | .slice _ _, .val (.one .nilS) => true
  | .slice _ _, .val (.one (.hd _ _)) => true
  | .slice _ _, .val (.one (.vw _ _ _ _ _)) => true
  | .map _ _ _, .val (.one (.mp _)) => true
  | _, _ => false
def callP {A : Type} (E : Env A) (tm : List (Nat × SV)) (fresh : Nat) (c : Call) : Option (Plan A) :=
  match evalOps tm c.args.toList with
  | some args => (match c.callee with
    | .builtin b => (match b, args, c.argTypes.toList with
      | .len, [x], [t] => (match look E.ti t with
        | some i => (match lenOk i x with | true => lenP x | false => none)
        | none => none)
      | .delete, [x, y], [t, _] => (match look E.ti t with
        | some i => deleteP i x y
        | none => none)
      | .max, xs, _ => minmaxP true xs
      | .min, xs, _ => minmaxP false xs
      | .append, [x, y], [t, t2] => (match look E.ti t with
        | some i => (match look E.ti t2 with
          | some j => (match j.kind with | .slice _ _ => appendP i x y fresh | _ => none)
          | none => none)
        | none => none)
      | _, _, _ => none)
    | .value f => (match evalOp tm f with
      | some (.val (.fn f caps)) => (match look E.con f with
        | some k => k (args ++ caps.map fun x => one x) fresh
        | none => none)
      | _ => none)
    | _ => none)
  | none => none

inductive PO (A : Type) where
  | fail
  | needS (t : Nat) (b : U Bool)
  | plan (p : Plan A)
def PO.of {A : Type} : Option (Plan A) → PO A
  | some p => .plan p
  | none => .fail

def cellOf : SV → Option SV1
  | .val (.one x) => some x
  | _ => none
def capsOf : List SV → Option (List SV1)
  | [] => some []
  | v :: r => match cellOf v with
    | some x => (match capsOf r with | some l => some (x :: l) | none => none)
    | none => none

def binOk (i : TI) : SV → Bool
  | .val (.one (.int _ _)) => true
  | .val (.one (.li _ _)) => true
  | .val (.one (.str _)) => true
  | .val (.one (.sb _)) => (match i.kind with | .bool => true | _ => false)
  | .val (.one (.lb _)) => (match i.kind with | .bool => true | _ => false)
  | .val (.one (.ptr _ _)) => (match i.kind with | .ptr _ => true | _ => false)
  | .val (.one .nilP) => (match i.kind with | .ptr _ => true | _ => false)
  | _ => false

/-- The bytes of a string. -/
def convNew {A : Type} (dst : TI) (x : SV) : Option (Plan A) :=
  match dst.kind, x with
  | .slice _ (some (.int .u8)), .val (.one (.str l)) => pureP (fun _ => inBytes (l ()) ∧ (l ()).length ≤ 1099511627776) (one (.ro (.int .u8) l))
  | _, _ => none

/-- The bytes of a literal, as a slice of bytes. -/
def convRow {A : Type} (dst : TI) (x : SV) : Option (Plan A) :=
  match dst.kind, x with
  | .slice _ (some (.int .u8)), .val (.one (.hd i ver)) => some ⟨[i], 0, true, fun cs _ => match cs with
    | [.row _ e ver' L] => (match beqN ver ver' with | true => .done (fun _ => 0 < (L ()).length) (one (.ro e L)) [.gone] | false => .fail)
    | _ => .fail⟩
  | _, _ => none

/-- s[:0:0]: empty, and nothing can be appended in place. -/
def sliceZ {A : Type} (t : TI) (x : SV) (lo hi mx : Option SV) (fresh : Nat) : Option (Plan A) :=
  match t.kind with
  | .slice et (some e) => (match isSlice x && isZero hi && isZero mx && lo.isNone with
    | true => some ⟨[fresh], 1, true, fun c _ => match c with | [.emp] => .done tt (one (.hd fresh 0)) [.row et e 0 (fun _ => [])] | _ => .fail⟩
    | false => none)
  | _ => none

/-- A slice compared with nil. -/
def nilOf (neg : Bool) : SV → SV → Option SV1
  | .val (.one .nilS), .val (.one .nilS) => some (.lb (!neg))
  | .val (.one (.ro _ L)), .val (.one .nilS) => some (.nb neg (fun _ => L () = []))
  | .val (.one (.hd _ _)), .val (.one .nilS) => some (.nb neg tt)
  | .val (.one (.vw _ _ _ _ _)), .val (.one .nilS) => some (.nb neg tt)
  | _, _ => none
def nilCmp (op : BinOp) (i : TI) (v u : SV) : Option SV1 := match i.kind with
  | .slice _ _ => (match op with
    | .eql => nilOf false v u
    | .neq => nilOf true v u
    | _ => none)
  | _ => none

/-- The first n chunks. -/
def upTo : Nat → Nat → List Nat
  | _, 0 => []
  | i, n + 1 => i :: upTo (i + 1) n
def nthC {A : Type} (H : List (Chunk A)) (i : Nat) : Chunk A := match nth H i with | some c => c | none => .emp
def keyS : (ks : KT) → U ks.T → SV2
  | .int k, n => .one (.int k n)
  | .str, l => .one (.str l)
def rangeP {A : Type} (t : TI) (x : SV) (fresh : Nat) : Option (Plan A) :=
  match t.kind, x with
  | .map _ _ (some _), .val (.one (.mp i)) => some ⟨[i, fresh], 1, true, fun cs _ => match cs with
    | [.map ks e L, .emp] => .done tt (one (.ptr fresh 0)) [.rmap ks e L L none fresh, .itp i]
    | _ => .fail⟩
  | _, _ => none
def entryP {A : Type} (x : SV) (fresh : Nat) : Option (Plan A) :=
  match x with
  | .val (.one (.ptr j 0)) => some ⟨upTo 0 fresh, 0, false, fun cs _ => (match nthC cs j with
    | .itp i => (match nthC cs i with
      | .rmap ks e _ _ (some p) j' => (match beqN j j' && bltN i fresh && bltN j fresh with
        | true => (match elV e (fun _ => (p ()).2) with
          | some v => .done tt (.tup [keyS ks (fun _ => (p ()).1), v]) cs
          | none => .fail)
        | false => .fail)
      | _ => .fail)
    | _ => .fail)⟩
  | _ => none

/-- One operation's plan. -/
def sop {A : Type} (E : Env A) (tm : List (Nat × SV)) (fresh : Nat) (o : Op) : PO A :=
  match o with
  | .move x => (match evalOp tm x with | some v => .of (pureP tt v) | none => .fail)
  | .assign x => (match evalOp tm x with | some v => .of (pureP tt v) | none => .fail)
  | .pick c a b => (match evalOp tm c with
    | some (.val (.one (.lb true))) => (match evalOp tm a with | some v => .of (pureP tt v) | none => .fail)
    | some (.val (.one (.lb false))) => (match evalOp tm b with | some v => .of (pureP tt v) | none => .fail)
    | some (.val (.one (.sb g))) => (match c with | .tmp t => .needS t g | _ => .fail)
    | _ => .fail)
  | .load t a => (match look E.ti t with
    | some i => (match evalOp tm a with | some v => .of (loadP i v) | none => .fail)
    | none => .fail)
  | .store t a x => (match look E.ti t with
    | some i => (match evalOp tm a with
      | some v => (match evalOp tm x with | some u => .of (storeP i v u) | none => .fail)
      | none => .fail)
    | none => .fail)
  | .nilCheck x => (match evalOp tm x with
    | some (.val (.one (.ptr i off))) => .of (pureP tt (one (.ptr i off)))
    | some (.val (.one (.rp e L k off))) => .of (pureP tt (one (.rp e L k off)))
    | some (.val (.one (.ep i ver esz k off))) => .of (pureP tt (one (.ep i ver esz k off)))
    | _ => .fail)
  | .binOp op t x y _ => (match look E.ti t with
    | some i => (match evalOp tm x with
      | some v => (match evalOp tm y with
        | some u => (match nilCmp op i v u with
        | some y => .of (pureP tt (one y))
        | none => (match binOk i v && binOk i u with | true => .of (binopP op v u) | false => .fail))
        | none => .fail)
      | none => .fail)
    | none => .fail)
  | .unOp op _ x => (match evalOp tm x with | some v => .of (unopP op v) | none => .fail)
  | .convert s d x => (match look E.ti s with
    | some i => (match look E.ti d with
      | some j => (match evalOp tm x with | some v => (match srcOk i v with | true => (match (match beqN s d with | true => convRow j v | false => none) with | some p => .of (some p) | none => (match convNew j v with | some p => .of (some p) | none => .of (convertP i j v))) | false => .fail) | none => .fail)
      | none => .fail)
    | none => .fail)
  | .slice t x lo hi mx => (match look E.ti t with
    | some i => (match evalOp tm x with
      | some v => (match evalOpt tm lo with
        | some l => (match evalOpt tm hi with
          | some h => (match evalOpt tm mx with
            | some m => (match m with
              | none => (match szOf E.ti i.kind with | some z => .of (sliceP i z v l h none) | none => .fail)
              | some m => .of (sliceZ i v l h (some m) fresh))
            | none => .fail)
          | none => .fail)
        | none => .fail)
      | none => .fail)
    | none => .fail)
  | .fieldAddr t x f => (match look E.ti t with
    | some i => (match evalOp tm x with | some v => .of (fieldP i v f) | none => .fail)
    | none => .fail)
  | .indexAddr t x ix => (match look E.ti t with
    | some i => (match evalOp tm x with
      | some v => (match evalOp tm ix with
        | some u => (match szOf E.ti i.kind with | some z => .of (indexP i z v u) | none => .fail)
        | none => .fail)
      | none => .fail)
    | none => .fail)
  | .extract x n => (match evalOp tm x with
    | some (.tup l) => (match nth l n with | some v => .of (pureP tt (.val v)) | none => .fail)
    | _ => .fail)
  | .alloc t => (match look E.ti t with
    | some i => .of (allocP t i.zero fresh)
    | none => .fail)
  | .box t x => (match evalOp tm x with
    | some v => (match cellsOf v with | some l => (match l.all storable with | true => .of (allocP t l fresh) | false => .fail) | none => .fail)
    | none => .fail)
  | .build t parts => (match look E.ti t with
    | some i => (match argParts tm parts.toList with | some ps => .of (buildP i (szOf E.ti i.kind) ps) | none => .fail)
    | none => .fail)
  | .buildSlice t n parts => (match look E.ti t with
    | some i => (match argParts tm parts.toList with | some ps => .of (buildSliceP i n ps fresh) | none => .fail)
    | none => .fail)
  | .makeSlice t l c => (match look E.ti t with
    | some i => (match evalOp tm l with
      | some v => (match evalOp tm c with | some u => .of (makeSliceP i v u fresh) | none => .fail)
      | none => .fail)
    | none => .fail)
  | .makeMap t none => (match look E.ti t with | some i => .of (makeMapP i fresh) | none => .fail)
  | .lookup t x ix ok => (match look E.ti t with
    | some i => (match evalOp tm x with
      | some v => (match evalOp tm ix with | some u => .of (lookupP i v u ok) | none => .fail)
      | none => .fail)
    | none => .fail)
  | .mapUpdate t x ix y => (match look E.ti t with
    | some i => (match evalOp tm x with
      | some v => (match evalOp tm ix with
        | some u => (match evalOp tm y with | some z => .of (mapUpdateP i v u z) | none => .fail)
        | none => .fail)
      | none => .fail)
    | none => .fail)
  | .makeFunc (.func f) first caps => (match first.toList, evalOps tm caps.toList with
    | [], some vs => (match capsOf vs with | some l => .of (pureP tt (.val (.fn f l))) | none => .fail)
    | _, _ => .fail)
  | .call c => .of (callP E tm fresh c)
  | .range t x => (match look E.ti t with
    | some i => (match evalOp tm x with | some v => .of (rangeP i v fresh) | none => .fail)
    | none => .fail)
  | .entry x => (match evalOp tm x with | some v => .of (entryP v fresh) | none => .fail)
  | _ => .fail

def getC {A : Type} (H : List (Chunk A)) (i : Nat) : Chunk A := match nth H i with | some c => c | none => .emp
def getCs {A : Type} (H : List (Chunk A)) : List Nat → List (Chunk A)
  | [] => []
  | i :: r => getC H i :: getCs H r
def putC {A : Type} : List (Chunk A) → Nat → Chunk A → List (Chunk A)
  | _ :: r, 0, c => c :: r
  | x :: r, n + 1, c => x :: putC r n c
  | [], 0, c => [c]
  | [], n + 1, c => .emp :: putC [] n c
def putCs {A : Type} (H : List (Chunk A)) : List Nat → List (Chunk A) → List (Chunk A)
  | i :: r, c :: cs => putCs (putC H i c) r cs
  | _, _ => H

/-- What an operation has done: the slot and its value, the chunks that it wrote, all chunks that it looked at. -/
structure Eff (A : Type) where
  dst : Option Nat
  v : SV
  ids : List Nat
  cs : List (Chunk A)
  looks : List Nat

def putT (tm : List (Nat × SV)) (dst : Option Nat) (v : SV) : List (Nat × SV) := match dst with
  | some t => (t, v) :: tm
  | none => tm

def applyE {A : Type} (e : Eff A) (s : SS A) : SS A := ⟨putT s.tm e.dst e.v, putCs s.H e.ids e.cs⟩

def mkEff {A : Type} (dst : Option Nat) (v : SV) (p : Plan A) (cs : List (Chunk A)) : Eff A := match p.w with
  | true => ⟨dst, v, p.ids, cs, p.ids⟩
  | false => ⟨dst, v, [], [], p.ids⟩

structure Dec where
  sl : List (Nat × Bool)
  op : List (Nat × Bool)

def Dec.ofOp : List (Nat × Bool) → Nat → List Bool
  | [], _ => []
  | (i, b) :: r, j => match beqN i j with
    | true => b :: Dec.ofOp r j
    | false => Dec.ofOp r j

/-- Where slot t's Bool has been decided: the value with the Bool written out. -/
def decide1 (sl : List (Nat × Bool)) (t : Nat) (v : SV) : SV × List (U Prop) := match v with
  | .val (.one (.sb g)) => (match look sl t with
    | some b => (one (.lb b), [fun _ => g () = b])
    | none => (v, []))
  | _ => (v, [])

inductive RO (A : Type) where
  | fail (j : Nat)
  | needS (t : Nat) (b : U Bool)
  | needC (j : Nat) (b : U Bool)
  | done (Cs : List (U Prop)) (s : SS A) (effs : List (Eff A))

inductive GO where
  | yes | no | fail
  | need (t : Nat) (b : U Bool)
def isBoolV : Value → Bool
  | .bool _ => true
  | _ => false
def guardOf (ops : List Oper) (tm : List (Nat × SV)) : Option (Nat × Bool) → GO
  | none => .yes
  | some (j, want) => match nth ops j with
    | some oj => (match oj.dst with
      | some t => (match look tm t with
        | some (.val (.one (.lb b))) => (match b == want with | true => .yes | false => .no)
        | some (.val (.one (.sb g))) => .need t g
        | some (.val (.one (.v x))) => (match isBoolV x with | true => .fail | false => .no)
        | _ => .fail)
      | none => .fail)
    | none => .fail

def undefV : SV := one (.v undef)

def decideD (sl : List (Nat × Bool)) (dst : Option Nat) (v : SV) : SV × List (U Prop) := match dst with
  | some t => decide1 sl t v
  | none => (v, [])

def srun {A : Type} (E : Env A) (ops : List Oper) (d : Dec) : List Oper → Nat → SS A → List (U Prop) → List (Eff A) → RO A
  | [], _, s, Cs, es => .done Cs s es.reverse
  | o :: r, j, s, Cs, es => match guardOf ops s.tm o.guard with
    | .fail => .fail j
    | .need t b => .needS t b
    | .no => srun E ops d r (j + 1) (applyE ⟨o.dst, undefV, [], [], []⟩ s) Cs (⟨o.dst, undefV, [], [], []⟩ :: es)
    | .yes => (match sop E s.tm s.H.length o.op with
      | .fail => .fail j
      | .needS t b => .needS t b
      | .plan p => (match p.eff (getCs s.H p.ids) (Dec.ofOp d.op j) with
        | .fail => .fail j
        | .need b => .needC j b
        | .done C v cs => (match decideD d.sl o.dst v with
          | (v, C2) => srun E ops d r (j + 1) (applyE (mkEff o.dst v p cs) s) (C :: (C2 ++ Cs)) (mkEff o.dst v p cs :: es))))

/-- A decision on slots that were written before. -/
def preSl (sl : List (Nat × Bool)) : List (Nat × Bool) → List (Nat × SV) → List (Nat × SV) × List (U Prop)
  | [], tm => (tm, [])
  | (t, b) :: r, tm => match preSl sl r tm with
    | (tm', Cs) => (match look tm t with
      | some (.val (.one (.sb g))) => ((t, one (.lb b)) :: tm', (fun _ => g () = b) :: Cs)
      | _ => (tm', Cs))

inductive Ck (C : U Prop) (R : Prop) : Prop
  | mk (h : C ()) (r : R)
inductive Failed (why : Nat) : Prop
inductive Alt (neg : Bool) (C p q : U Prop) : Prop
  | mk (h : (neg = false → C ()) → p ()) (k : (neg = true → C ()) → q ())
inductive Both (b : U Bool) (p q : U Prop) : Prop
  | mk (h : b () = true → p ()) (k : b () = false → q ())

/-- The end of a path. -/
inductive End (p : Prop) : Prop
  | mk (h : p)

def conds (R : Prop) : List (U Prop) → Prop
  | [] => R
  | C :: r => conds (Ck C R) r

def maskOf : List Nat → Nat
  | [] => 0
  | i :: r => (1 <<< i) ||| maskOf r
/-- The operations that stand ahead of each (as bits). -/
def ancO (acc : List Nat) : List Edge → Nat
  | [] => 0
  | e :: r => match Region.binds .any e with
    | true => ((1 <<< e.on) ||| (match nth acc e.on with | some l => l | none => 0)) ||| ancO acc r
    | false => ancO acc r
def ancs : List Oper → List Nat → List Nat
  | [], acc => acc
  | o :: r, acc => ancs r (acc ++ [ancO acc o.after.toList])

def readsOf (ops : List Oper) (o : Oper) : List Nat :=
  (o.op.operands.toList.filterMap fun x => match x with | .tmp t => some t | _ => none) ++
  (match o.guard with | some (j, _) => (match nth ops j with | some oj => oj.dst.toList | none => []) | none => [])

structure Rec where
  dst : Nat
  reads : Nat
  ids : Nat
  looks : Nat

def meets (a b : Nat) : Bool := !(beqN (a &&& b) 0)

/-- Must one of the two be ahead of the other? -/
def clash (a b : Rec) : Bool := meets a.dst (b.reads ||| b.dst) || meets b.dst a.reads || meets a.ids b.looks || meets b.ids a.looks

def okRec (an : Nat) (b : Rec) : Nat → List Rec → Bool
  | _, [] => true
  | i, a :: r => (an.testBit i || !clash a b) && okRec an b (i + 1) r
def okRecs : List Nat → List Rec → List Rec → Bool
  | an :: ans, b :: bs, before => okRec an b 0 before && okRecs ans bs (before ++ [b])
  | _, [], _ => true
  | [], _ :: _, _ => false
def recsOf (ops : List Oper) : List Oper → List (List Nat × List Nat) → List Rec
  | o :: r, (ids, looks) :: l => ⟨maskOf o.dst.toList, maskOf (readsOf ops o), maskOf ids, maskOf looks⟩ :: recsOf ops r l
  | _, _ => []
/-- May the operations be carried out in the order of the text? (Each waits for earlier ones only; two that clash stand in an order.) -/
def drawOk (ops : List Oper) (l : List (List Nat × List Nat)) : Bool :=
  okRecs (ancs ops []) (recsOf ops ops l) [] && l.length == ops.length && (ops.zipIdx.all fun (o, i) => o.after.toList.all fun e => !Region.binds .any e || bltN e.on i) &&
  ops.all fun o => match o.op with | .select .. => false | _ => true

def sreg {A : Type} (E : Env A) (ops : List Oper) (draw : Bool) (s : SS A) (Q : SS A → Prop) : Nat → Dec → Prop
  | 0, _ => Failed 1000
  | n + 1, d => match preSl d.sl d.sl s.tm with
    | (tm, C0) => (match srun E ops d ops 0 ⟨tm, s.H⟩ C0 [] with
      | .fail j => Failed j
      | .needS t b => Both b (fun _ => sreg E ops draw s Q n ⟨(t, true) :: d.sl, d.op⟩) (fun _ => sreg E ops draw s Q n ⟨(t, false) :: d.sl, d.op⟩)
      | .needC j b => Both b (fun _ => sreg E ops draw s Q n ⟨d.sl, d.op ++ [(j, true)]⟩) (fun _ => sreg E ops draw s Q n ⟨d.sl, d.op ++ [(j, false)]⟩)
      | .done Cs s' effs => (match draw with
        | false => conds (Q s') Cs
        | true => Ck (fun _ => drawOk ops (effs.map fun e => (e.ids, e.looks)) = true) (conds (Q s') Cs)))

inductive XE where
  | normal
  | ret
  | exit (id : Nat)

/-- The conditions under which the one value says no more than the other. -/
def sub1 (n : Nat) : SV1 → SV1 → Option (U Prop)
  | _, .any => some tt
  | .int k a, .int k' b => (match decide (k = k') with | true => some (fun _ => a () = b ()) | false => none)
  | .li k a, .int k' b => (match decide (k = k') with | true => some (fun _ => a = b ()) | false => none)
  | .li k a, .li k' b => (match decide (k = k') && decide (a = b) with | true => some tt | false => none)
  | .sb a, .sb b => some (fun _ => a () = b ())
  | .lb a, .sb b => some (fun _ => a = b ())
  | .sb a, .lb b => some (fun _ => a () = b)
  | .lb a, .lb b => (match a == b with | true => some tt | false => none)
  | .str a, .str b => some (fun _ => a () = b ())
  | .nilS, .nilS => some tt
  | .nilS, .ro _ L => some (fun _ => L () = [])
  | .nilP, .nilP => some tt
  | .ptr i o, .ptr i' o' => (match beqN i i' && beqN o o' && bltN i n with | true => some tt | false => none)
  | .mp i, .mp i' => (match beqN i i' && bltN i n with | true => some tt | false => none)
  | .ro e L, .ro e' L' => (match castL e e' with | some f => some (fun _ => f (L ()) = L' ()) | none => none)
  | .hd i v, .hd i' v' => (match beqN i i' && beqN v v' && bltN i n with | true => some tt | false => none)
  | _, _ => none

def sub1s (n : Nat) : List SV1 → List SV1 → Option (List (U Prop))
  | [], [] => some []
  | x :: l, y :: m => (match sub1 n x y with
    | some C => (match sub1s n l m with | some Cs => some (C :: Cs) | none => none)
    | none => none)
  | _, _ => none

def sub2 (n : Nat) : SV2 → SV2 → Option (List (U Prop))
  | _, .one .any => some []
  | .one x, .one y => (match sub1 n x y with | some C => some [C] | none => none)
  | .agg l, .agg m => sub1s n l m
  | .fn f l, .fn g m => (match beqN f g with | true => sub1s n l m | false => none)
  | _, _ => none
def sub2s (n : Nat) : List SV2 → List SV2 → Option (List (U Prop))
  | [], [] => some []
  | x :: l, y :: m => (match sub2 n x y with
    | some C => (match sub2s n l m with | some Cs => some (C ++ Cs) | none => none)
    | none => none)
  | _, _ => none
def subV (n : Nat) : SV → SV → Option (List (U Prop))
  | _, .val (.one .any) => some []
  | .val x, .val y => sub2 n x y
  | .tup l, .tup m => sub2s n l m
  | _, _ => none

/-- Abstract objects that can be compared. -/
class SubA (A : Type) where
  sub : A → A → Option (U Prop)
  sound : ∀ a b C, sub a b = some C → C () → a = b

def subC {A : Type} [SubA A] (n : Nat) : Chunk A → Chunk A → Option (List (U Prop))
  | _, .gone => some []
  | .emp, .emp => some []
  | .cells t cs, .cells t' cs' => (match beqN t t' with | true => sub1s n cs cs' | false => none)
  | .row t e v L, .row t' e' v' L' => (match beqN t t' && beqN v v' with
    | true => (match castL e e' with | some f => some [fun _ => f (L ()) = L' ()] | none => none)
    | false => none)
  | .map ks e L, .map ks' e' L' => (match castM ks ks' e e' with | some f => some [fun _ => f (L ()) = L' ()] | none => none)
  | .rmap ks e L R _ j, .rmap ks' e' L' R' none j' => (match beqN j j' && bltN j n with
    | true => (match castM ks ks' e e' with | some f => some [fun _ => f (L ()) = L' (), fun _ => f (R ()) = R' ()] | none => none)
    | false => none)
  | .itp i, .itp i' => (match beqN i i' with | true => some [] | false => none)
  | .abs a, .abs b => (match SubA.sub a b with | some C => some [C] | none => none)
  | _, _ => none
def subCs {A : Type} [SubA A] (n : Nat) : List (Chunk A) → List (Chunk A) → Option (List (U Prop))
  | _, [] => some []
  | c :: l, d :: m => (match subC n c d with
    | some C => (match subCs n l m with | some Cs => some (C ++ Cs) | none => none)
    | none => none)
  | [], _ :: _ => none
def subT (n : Nat) (tm : List (Nat × SV)) : List (Nat × SV) → Option (List (U Prop))
  | [] => some []
  | (t, y) :: r => (match look tm t with
    | some x => (match subV n x y with
      | some C => (match subT n tm r with | some Cs => some (C ++ Cs) | none => none)
      | none => none)
    | none => none)

/-- Rows from number n0 on: the versions start anew. -/
def vers {A : Type} : List (Chunk A) → List (Option Nat)
  | [] => []
  | .row _ _ v _ :: r => some v :: vers r
  | _ :: r => none :: vers r
def norm1 (n0 : Nat) (vs : List (Option Nat)) : SV1 → SV1
  | .hd i v => (match bltN i n0 with
    | true => .hd i v
    | false => (match nth vs i with | some (some u) => (match beqN u v with | true => .hd i 0 | false => .any) | _ => .any))
  | .vw i v e l n => (match bltN i n0 with | true => .vw i v e l n | false => .any)
  | .ep i v e k o => (match bltN i n0 with | true => .ep i v e k o | false => .any)
  | x => x
def norm2 (n0 : Nat) (vs : List (Option Nat)) : SV2 → SV2
  | .one x => .one (norm1 n0 vs x)
  | .agg l => .agg (l.map (norm1 n0 vs))
  | .fn f l => .fn f (l.map (norm1 n0 vs))
def normV (n0 : Nat) (vs : List (Option Nat)) : SV → SV
  | .val x => .val (norm2 n0 vs x)
  | .tup l => .tup (l.map (norm2 n0 vs))
def normC {A : Type} (n0 : Nat) (vs : List (Option Nat)) (i : Nat) : Chunk A → Chunk A
  | .cells t cs => .cells t (cs.map (norm1 n0 vs))
  | .row t e v L => (match bltN i n0 with | true => .row t e v L | false => .row t e 0 L)
  | c => c
def normCs {A : Type} (n0 : Nat) (vs : List (Option Nat)) : Nat → List (Chunk A) → List (Chunk A)
  | _, [] => []
  | i, c :: r => normC n0 vs i c :: normCs n0 vs (i + 1) r
def normT (n0 : Nat) (vs : List (Option Nat)) : List (Nat × SV) → List (Nat × SV)
  | [] => []
  | (t, v) :: r => (t, normV n0 vs v) :: normT n0 vs r
def norm {A : Type} (n0 : Nat) (s : SS A) : SS A := match vers s.H with
  | vs => ⟨normT n0 vs s.tm, normCs n0 vs 0 s.H⟩

def map2 (f : SV1 → SV1) : SV2 → SV2
  | .one x => .one (f x)
  | .agg l => .agg (l.map f)
  | .fn g l => .fn g (l.map f)
def mapV (f : SV1 → SV1) : SV → SV
  | .val x => .val (map2 f x)
  | .tup l => .tup (l.map (map2 f))
def mapT (f : SV1 → SV1) : List (Nat × SV) → List (Nat × SV)
  | [] => []
  | (t, v) :: r => (t, mapV f v) :: mapT f r

/-- Rows from number n on: from now on they stay as they are. -/
def frz1 {A : Type} (n : Nat) (H : List (Chunk A)) : SV1 → SV1
  | .hd i v => (match bltN i n with
    | true => .hd i v
    | false => (match getC H i with
      | .row _ e u L => (match beqN u v with | true => .ro e L | false => .any)
      | _ => .any))
  | .vw i v esz lo k => (match bltN i n with
    | true => .vw i v esz lo k
    | false => (match getC H i with
      | .row _ e u L => (match beqN u v && beqN esz e.size with | true => .ro e (fun _ => ((L ()).drop (lo ()).toNat).take (k ()).toNat) | false => .any)
      | _ => .any))
  | x => x
def frzC {A : Type} (n : Nat) (H : List (Chunk A)) (i : Nat) : Chunk A → Chunk A
  | .cells t cs => .cells t (cs.map (frz1 n H))
  | .row t e v L => (match bltN i n with | true => .row t e v L | false => .gone)
  | c => c
def frzCs {A : Type} (n : Nat) (H : List (Chunk A)) : Nat → List (Chunk A) → List (Chunk A)
  | _, [] => []
  | i, c :: r => frzC n H i c :: frzCs n H (i + 1) r
def frz {A : Type} (n : Nat) (s : SS A) : SS A := ⟨mapT (frz1 n s.H) s.tm, frzCs n s.H 0 s.H⟩

/-- Nil slices that are rows from now on. -/
def absT {A : Type} (H' : List (Chunk A)) : List (Nat × SV) → SS A → SS A
  | [], s => s
  | (t, y) :: r, s => match y with
    | .val (.one (.hd k 0)) => (match look s.tm t with
      | some (.val (.one .nilS)) => (match getC s.H k with
        | .emp => (match getC H' k with
          | .row rt e 0 _ => absT H' r ⟨(t, one (.hd k 0)) :: s.tm, putC s.H k (.row rt e 0 (fun _ => []))⟩
          | _ => absT H' r s)
        | _ => absT H' r s)
      | _ => absT H' r s)
    | _ => absT H' r s
def absL {A : Type} (H' : List (Chunk A)) (c : Nat) : Nat → List SV1 → SS A → SS A
  | _, [], s => s
  | j, y :: r, s => match y with
    | .hd k 0 => (match getC s.H c with
      | .cells ct l => (match nth l j with
        | some .nilS => (match getC s.H k with
          | .emp => (match getC H' k with
            | .row rt e 0 _ => absL H' c (j + 1) r ⟨s.tm, putC (putC s.H k (.row rt e 0 (fun _ => []))) c (.cells ct (setNth l j (.hd k 0)))⟩
            | _ => absL H' c (j + 1) r s)
          | _ => absL H' c (j + 1) r s)
        | _ => absL H' c (j + 1) r s)
      | _ => absL H' c (j + 1) r s)
    | _ => absL H' c (j + 1) r s
def absC {A : Type} (H' : List (Chunk A)) : Nat → List (Chunk A) → SS A → SS A
  | _, [], s => s
  | c, d :: r, s => match d with
    | .cells _ l => absC H' (c + 1) r (absL H' c 0 l s)
    | _ => absC H' (c + 1) r s
def absorb {A : Type} (t s : SS A) : SS A := absC t.H 0 t.H (absT t.H t.tm s)

/-- Maps that are not ranged over any more. -/
def unrC {A : Type} : Chunk A → Chunk A → Chunk A
  | .rmap ks e L _ _ _, .map _ _ _ => .map ks e L
  | c, _ => c
def unr {A : Type} : List (Chunk A) → List (Chunk A) → List (Chunk A)
  | c :: r, d :: m => unrC c d :: unr r m
  | l, [] => l
  | [], _ :: _ => []

/-- The slots that are asked for. -/
def keepT (tm : List (Nat × SV)) : List (Nat × SV) → List (Nat × SV)
  | [] => []
  | (t, _) :: r => match look tm t with
    | some v => (t, v) :: keepT tm r
    | none => keepT tm r

/-- The one state says no more than the other (whose chunks come first; what is behind them is let go). -/
def Sub {A : Type} [SubA A] (n0 : Nat) (s t : SS A) : Prop := match norm n0 (frz t.H.length (absorb t ⟨keepT s.tm t.tm, unr s.H t.H⟩)) with
  | s => (match subT t.H.length s.tm t.tm with
    | some C => (match subCs t.H.length s.H t.H with
      | some D => (match bleN n0 t.H.length with | true => End (conds True (C ++ D)) | false => Failed 5002)
      | none => Failed 5001)
    | none => Failed 5000)

/-- What is to be shown of a loop. -/
structure LoopInv (A : Type) where
  X : Type
  inv : X → SS A
  m : X → Nat
  x0 : X

/-- An entry that was not met yet is met, or all were. -/
inductive Pick (ks : KT) (e : Ty) (R : U (List (ks.T × e.T))) (p : U Prop) (q : List (ks.T × e.T) → ks.T × e.T → List (ks.T × e.T) → Prop) : Prop
  | mk (h : R () = [] → p ()) (k : ∀ l1 x l2, R () = l1 ++ x :: l2 → q l1 x l2)

/-- 'next' and whether there is one. -/
def nextOf : List Oper → Option (Nat × Nat × Nat)
  | [o, o'] => (match o.op, o.dst, o.guard, o'.op, o'.dst, o'.guard with
    | .next (.tmp t) false, some d0, none, .extract (.tmp d) 0, some d1, none => (match beqN d d0 with | true => some (t, d0, d1) | false => none)
    | _, _, _, _, _, _ => none)
  | _ => none
def snext {A : Type} (t d0 d1 : Nat) (s : SS A) (Q : SS A → Prop) : Prop := match look s.tm t with
  | some (.val (.one (.ptr j 0))) => (match getC s.H j with
    | .itp i => (match getC s.H i with
      | .rmap ks e L R _ j' => (match beqN j j' with
        | true => Pick ks e R (fun _ => Q ⟨(d1, one (.lb false)) :: (d0, one .any) :: s.tm, s.H⟩)
            (fun l1 x l2 => Q ⟨(d1, one (.lb true)) :: (d0, one .any) :: s.tm, putC s.H i (.rmap ks e L (fun _ => l1 ++ l2) (some (fun _ => x)) j)⟩)
        | false => Failed 3100)
      | _ => Failed 3101)
    | _ => Failed 3102)
  | _ => Failed 3103

def svc {A : Type} [SubA A] (E : Env A) (n0 : Nat) : Code → SS A → (XE → SS A → Prop) → Prop
  | .skip, s, Q => Q .normal s
  | .region _ ops draw, s, Q => (match draw with
    | true => sreg E ops.toList draw s (Q .normal) 24 ⟨[], []⟩
    | false => (match nextOf ops.toList with
      | some (t, d0, d1) => snext t d0 d1 s (Q .normal)
      | none => sreg E ops.toList draw s (Q .normal) 24 ⟨[], []⟩))
  | .seq a b, s, Q => svc E n0 a s fun e s => match e with
    | .normal => svc E n0 b s Q
    | .ret => Q .ret s
    | .exit id => Q (.exit id) s
  | .cond c x y, s, Q => (match evalOp s.tm c with
    | some (.val (.one (.lb true))) => svc E n0 x s Q
    | some (.val (.one (.lb false))) => svc E n0 y s Q
    | some (.val (.one (.sb g))) => (match c with
      | .tmp t => Both g (fun _ => svc E n0 x ⟨(t, one (.lb true)) :: s.tm, s.H⟩ Q) (fun _ => svc E n0 y ⟨(t, one (.lb false)) :: s.tm, s.H⟩ Q)
      | _ => Failed 3000)
    | some (.val (.one (.nb neg C))) => (match c with
      | .tmp t => Alt neg C (fun _ => svc E n0 x ⟨(t, one (.lb true)) :: s.tm, s.H⟩ Q) (fun _ => svc E n0 y ⟨(t, one (.lb false)) :: s.tm, s.H⟩ Q)
      | _ => Failed 3002)
    | _ => Failed 3001)
  | .block id c, s, Q => svc E n0 c s fun e s => match e with
    | .normal => Q .normal s
    | .ret => Q .ret s
    | .exit id' => (match beqN id id' with | true => Q .normal s | false => Q (.exit id') s)
  | .loop c, s, Q => ∃ I : LoopInv A, Sub n0 s (I.inv I.x0) ∧ ∀ x, svc E n0 c (I.inv x) fun e s => match e with
    | .normal => ∃ y, I.m y < I.m x ∧ Sub n0 s (I.inv y)
    | .ret => Q .ret s
    | .exit id => Q (.exit id) s
  | .exit id, s, Q => Q (.exit id) s
  | .ret, s, Q => Q .ret s
  | .scope c, s, Q => svc E n0 c s Q
  | _, _, _ => Failed 4000

/-! ### results -/
def resV {A : Type} (ti : List (Nat × TI)) (s : SS A) : List ResultVar → Option (List SV2)
  | [] => some []
  | .tmp t :: r => (match look s.tm t with
    | some (.val x) => (match resV ti s r with | some l => some (x :: l) | none => none)
    | _ => none)
  | .cell a t :: r => (match look s.tm a with
    | some (.val (.one (.ptr i off))) => (match getC s.H i with
      | .cells _ l => (match look ti t with
        | some j => (match partOf j l off with
          | some (.val x) => (match resV ti s r with | some l => some (x :: l) | none => none)
          | _ => none)
        | none => none)
      | _ => none)
    | _ => none)
def resOf : List SV2 → SV
  | [x] => .val x
  | l => .tup l

/-- At the end of a function: its result and the chunks are as wanted. -/
def finP {A : Type} [SubA A] (ti : List (Nat × TI)) (n0 : Nat) (rs : List ResultVar) (v : SV) (H1 : List (Chunk A)) (e : XE) (s : SS A) : Prop := match e with
  | .exit _ => Failed 6000
  | _ => match resV ti s rs with
    | some l => Sub n0 ⟨[(0, resOf l)], s.H⟩ ⟨[(0, v)], H1⟩
    | none => Failed 6001

/-- The arguments in their slots. -/
def argT : Nat → List SV → List (Nat × SV)
  | _, [] => []
  | n, x :: r => (n, x) :: argT (n + 1) r

/-! ### abstract objects -/
def ren1 (f : Nat → Nat) : SV1 → SV1
  | .ptr i o => .ptr (f i) o
  | .mp i => .mp (f i)
  | .hd i v => .hd (f i) v
  | .vw i v e l n => .vw (f i) v e l n
  | .ep i v e k o => .ep (f i) v e k o
  | x => x
def renC {A : Type} (f : Nat → Nat) : Chunk A → Chunk A
  | .cells t cs => .cells t (cs.map (ren1 f))
  | c => c
/-- Only the first m parts are named (the first one by its address alone). -/
def idsLt (m : Nat) : SV1 → Bool
  | .ptr i _ => bltN i m
  | .mp i => bltN i m
  | .hd i _ => bltN 0 i && bltN i m
  | .vw i _ _ _ _ => bltN 0 i && bltN i m
  | .ep i _ _ _ _ => bltN 0 i && bltN i m
  | _ => true
def idsLtC {A : Type} (m : Nat) : Chunk A → Bool
  | .cells _ cs => cs.all (idsLt m)
  | .rmap _ _ _ _ _ _ => false
  | .itp _ => false
  | _ => true
/-- Where the parts of an object are laid: itself at i, the others from base on. -/
def place (i base : Nat) : Nat → Nat
  | 0 => i
  | j + 1 => base + j
/-- The object at i, opened: its parts. -/
def putAll {A : Type} (f : Nat → Nat) : Nat → List (Chunk A) → List (Chunk A) → List (Chunk A)
  | _, [], H => H
  | j, c :: r, H => putAll f (j + 1) r (putC H (f j) (renC f c))
def openH {A : Type} (lay : A → List (Chunk A)) (i : Nat) (H : List (Chunk A)) : List (Chunk A) := match getC H i with
  | .abs a => putAll (place i H.length) 0 (lay a) H
  | _ => H

/-- The chunks in another order (chunk j is now what was chunk p j); the others are let go. -/
def posB : List Nat → Nat → Option Nat
  | [], _ => none
  | x :: r, i => match beqN x i with
    | true => some 0
    | false => (match posB r i with | some j => some (j + 1) | none => none)
def rn1 (p : List Nat) : SV1 → SV1
  | .ptr i o => (match posB p i with | some j => .ptr j o | none => .any)
  | .mp i => (match posB p i with | some j => .mp j | none => .any)
  | .hd i v => (match posB p i with | some j => .hd j v | none => .any)
  | .vw i v e l n => (match posB p i with | some j => .vw j v e l n | none => .any)
  | .ep i v e k o => (match posB p i with | some j => .ep j v e k o | none => .any)
  | x => x
def rnC {A : Type} (p : List Nat) : Chunk A → Chunk A
  | .cells t cs => .cells t (cs.map (rn1 p))
  | .rmap _ _ _ _ _ _ => .gone
  | .itp _ => .gone
  | c => c
def reordH {A : Type} (p : List Nat) (H : List (Chunk A)) : List Nat → List (Chunk A)
  | [] => []
  | i :: r => rnC p (getC H i) :: reordH p H r
def reord {A : Type} (p : List Nat) (s : SS A) : SS A := ⟨mapT (rn1 p) s.tm, reordH p s.H p⟩
def nodupB : List Nat → Bool
  | [] => true
  | x :: r => !r.any (beqN x) && nodupB r
/-- The first n0 stay in their places. -/
def fixB : Nat → Nat → List Nat → Bool
  | 0, _, _ => true
  | n + 1, k, x :: r => beqN x k && fixB n (k + 1) r
  | _ + 1, _, [] => false
def permOk (n0 : Nat) (p : List Nat) : Bool := nodupB p && fixB n0 0 p
/-- The end of a function that makes something new. -/
def finR {A : Type} [SubA A] (ti : List (Nat × TI)) (n0 : Nat) (rs : List ResultVar) (v : SV) (H1 : List (Chunk A)) (e : XE) (s : SS A) : Prop := match e with
  | .exit _ => Failed 6000
  | _ => match resV ti s rs with
    | some l => ∃ p, permOk n0 p = true ∧ Sub n0 (reord p ⟨[(0, resOf l)], s.H⟩) ⟨[(0, v)], H1⟩
    | none => Failed 6001

/-- Does the code write to slots below n alone? -/
def codeOk (n : Nat) : Code → Bool
  | .region _ ops _ => ops.all fun o => match o.dst with | some t => bltN t n | none => true
  | .seq a b => codeOk n a && codeOk n b
  | .cond _ a b => codeOk n a && codeOk n b
  | .block _ c => codeOk n c
  | .loop c => codeOk n c
  | .scope c => codeOk n c
  | _ => true

end Go.Sx
