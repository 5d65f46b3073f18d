/-
  Part Eng1 of the proof.
-/
import Derived.WalkKit
import Derived.Deep.AppendSrc
import Derived.Maps.OwnOps
import Derived.MapKept
import Derived.Maps.RangeRun
import Derived.WalkLawsBesides
import Derived.OwnWalk
namespace Go.Sx
set_option linter.all false
open Go.RowKit
def aG (a b : Nat) : Bool := a == b
def jI (a b : Nat) : Bool := decide (a ≤ b)
def aq (a b : Nat) : Bool := jI (a + 1) b
@[simp] theorem ad {a b : Nat} : aG a b = true ↔ a = b := by unfold aG; exact beq_iff_eq
@[simp] theorem bltN_iff {a b : Nat} : aq a b = true ↔ a < b := by unfold aq jI; exact decide_eq_true_iff
@[simp] theorem qe {a b : Nat} : jI a b = true ↔ a ≤ b := by unfold jI; exact decide_eq_true_iff
@[simp] theorem gj {a : Nat} : aG a a = true := ad.2 rfl
theorem leN {a b : Nat} (h : jI a b = true) : a ≤ b := qe.1 h
theorem geN {a b : Nat} (h : a ≤ b) : jI a b = true := qe.2 h
abbrev U (α : Type) := Unit → α
inductive Ty where
 | int (k : IntKind)
 | bool
 | bytes
 | str
 | unit
 | pair (a b : Ty)
 | lst (a : Ty)
 deriving DecidableEq
abbrev Ty.T : Ty → Type
 | .int _ => Int
 | .bool => Bool
 | .bytes => List Int
 | .str => List Int
 | .unit => Unit
 | .pair a b => a.T × b.T
 | .lst a => List a.T
def Ty.cY : (e : Ty) → e.T
 | .int _ => (0 : Int)
 | .bool => false
 | .bytes => ([] : List Int)
 | .str => ([] : List Int)
 | .unit => ()
 | .pair a b => (a.cY, b.cY)
 | .lst a => ([] : List a.T)
def Ty.size : Ty → Nat
 | .int _ => 1
 | .bool => 1
 | .bytes => 1
 | .str => 1
 | .unit => 0
 | .pair a b => a.size + b.size
 | .lst _ => 1
def Ty.agg : Ty → Bool
 | .pair _ _ => true
 | .unit => true
 | _ => false
inductive KT where
 | int (k : IntKind)
 | str
 | agg (e : Ty)
 deriving DecidableEq
abbrev KT.T : KT → Type
 | .int _ => Int
 | .str => List Int
 | .agg e => e.T
@[instance_reducible] def Ty.dec : (e : Ty) → DecidableEq e.T
  | .int _ => Int.instDecidableEq
  | .bool => instDecidableEqBool
  | .bytes => instDecidableEqList
  | .str => instDecidableEqList
  | .unit => instDecidableEqPUnit
  | .pair a b => @instDecidableEqProd _ _ a.dec b.dec
  | .lst a => @instDecidableEqList _ a.dec
def Ty.ka : Ty → Bool
 | .int .i64 => true
 | .bool => true
 | .pair a b => a.ka && b.ka
 | _ => false
def Ty.bW : (e : Ty) → e.T → Prop
 | .int _, n => -9223372036854775808 ≤ n ∧ n ≤ 9223372036854775807
 | .bool, _ => True
 | .pair a b, x => a.bW x.1 ∧ b.bW x.2
 | _, _ => False
def Ty.b8 : (e : Ty) → e.T → List Value
 | .int k, n => [.int k n]
 | .bool, b => [.bool b]
 | .pair a b, x => a.b8 x.1 ++ b.b8 x.2
 | _, _ => []
inductive SV1 where
 | int (k : IntKind) (n : U Int)
 | li (k : IntKind) (n : Int)
 | sb (b : U Bool)
 | lb (b : Bool)
 | str (l : U (List Int))
 | v (x : Value)
 | nilS
 | nilP
 | ptr (i off : Nat)
 | ro (e : Ty) (L : U (List e.T))
 | hd (i ver : Nat)
 | vw (i ver esz : Nat) (lo n : U Int)
 | ep (i ver esz : Nat) (k : U Int) (off : Nat)
 | rp (e : Ty) (L : U (List e.T)) (k : U Int) (off : Nat)
 | mp (i : Nat)
 | nb (neg : Bool) (C : U Prop)
 | ln (n : U Int)
 | fnc (f : FuncId) (ids : List Nat)
 | any
inductive SV2 where
 | one (x : SV1)
 | agg (l : List SV1)
 | fn (f : FuncId) (caps : List SV1)
inductive SV where
 | val (x : SV2)
 | tup (l : List SV2)
def dec : (e : Ty) → U e.T → List SV1
 | .int k, n => [.int k n]
 | .bool, b => [.sb b]
 | .bytes, l => [.ro (.int .u8) l]
 | .str, l => [.str l]
 | .unit, _ => []
 | .pair a b, x => dec a (fun _ => (x ()).1) ++ dec b (fun _ => (x ()).2)
 | .lst a, l => [.ro a l]
def bO : (e e' : Ty) → Option (List e.T → List e'.T)
 | .int k, .int k' => (match decide (k = k') with | true => some (fun l => l) | false => none)
 | .bool, .bool => some (fun l => l)
 | .bytes, .bytes => some (fun l => l)
 | .str, .str => some (fun l => l)
 | .unit, .unit => some (fun l => l)
 | .lst a, .lst a' => (match castT a a' with
   | some f => some (fun l => l.map fun x => List.map f x)
   | none => none)
 | .pair a b, .pair a' b' => (match castT a a' with
   | some f => (match castT b b' with
     | some g => some (fun l => l.map fun x => (f x.1, g x.2))
     | none => none)
   | none => none)
 | _, _ => none
where castT : (e e' : Ty) → Option (e.T → e'.T)
 | .int k, .int k' => (match decide (k = k') with | true => some (fun l => l) | false => none)
 | .bool, .bool => some (fun l => l)
 | .bytes, .bytes => some (fun l => l)
 | .str, .str => some (fun l => l)
 | .unit, .unit => some (fun l => l)
 | .lst a, .lst a' => (match castT a a' with
   | some f => some (fun l => List.map f l)
   | none => none)
 | .pair a b, .pair a' b' => (match castT a a' with
   | some f => (match castT b b' with
     | some g => some (fun x => (f x.1, g x.2))
     | none => none)
   | none => none)
 | _, _ => none
def yC (a : Ty) : SV1 → Option (U (List a.T))
 | .ro a' l => (match bO a' a with | some f => some (fun _ => f (l ())) | none => none)
 | .nilS => some (fun _ => [])
 | _ => none
def enc : (e : Ty) → List SV1 → Option (U e.T × List SV1)
 | .int k, .int k' n :: r => match decide (k = k') with | true => some (n, r) | false => none
 | .int k, .li k' n :: r => match decide (k = k') with | true => some (fun _ => n, r) | false => none
 | .bool, .sb b :: r => some (b, r)
 | .bool, .lb b :: r => some (fun _ => b, r)
 | .bytes, .ro (.int .u8) l :: r => some (l, r)
 | .bytes, .nilS :: r => some (fun _ => [], r)
 | .str, .str l :: r => some (l, r)
 | .unit, r => some (fun _ => (), r)
 | .lst a, x :: r => (match yC a x with | some l => some (l, r) | none => none)
 | .pair a b, r => match enc a r with
   | some (x, r) => match enc b r with
     | some (y, r) => some (fun _ => (x (), y ()), r)
     | none => none
   | none => none
 | _, _ => none
def bB {K V : Type} [DecidableEq K] : List (K × V) → K → Option V
 | [], _ => none
 | (a, v) :: r, k => if a = k then some v else bB r k
def ak {K V : Type} [DecidableEq K] : List (K × V) → K → V → List (K × V)
 | [], k, v => [(k, v)]
 | (a, x) :: r, k, v => if a = k then (k, v) :: r else (a, x) :: ak r k v
def k5 {K V : Type} [DecidableEq K] : List (K × V) → K → List (K × V)
 | [], _ => []
 | (a, x) :: r, k => if a = k then r else (a, x) :: k5 r k
def getM : (ks : KT) → {V : Type} → List (ks.T × V) → ks.T → Option V
 | .int _, _, l, k => bB (K := Int) l k
 | .str, _, l, k => bB (K := List Int) l k
 | .agg e, _, l, k => @bB e.T _ e.dec l k
def eh : (ks : KT) → {V : Type} → List (ks.T × V) → ks.T → V → List (ks.T × V)
 | .int _, _, l, k, v => ak (K := Int) l k v
 | .str, _, l, k, v => ak (K := List Int) l k v
 | .agg e, _, l, k, v => @ak e.T _ e.dec l k v
def gL : (ks : KT) → {V : Type} → List (ks.T × V) → ks.T → List (ks.T × V)
 | .int _, _, l, k => k5 (K := Int) l k
 | .str, _, l, k => k5 (K := List Int) l k
 | .agg e, _, l, k => @k5 e.T _ e.dec l k
inductive TK where
 | int (k : IntKind)
 | bool
 | str
 | struct (offs : List (Nat × Nat))
 | slice (elem : TypeId) (ty : Option Ty)
 | array (n : Nat) (elem : TypeId)
 | ptr (e : TypeId)
 | map (k e : TypeId) (ty : Option (KT × Ty))
 | other
structure TI where
 kind : TK
 size : Nat
 bytes : Nat
 zero : List SV1
def TI.isAgg (t : TI) : Bool := match t.kind with | .struct _ => true | .array _ _ => true | _ => false
inductive Chunk (A : Type) where
 | emp
 | gone
 | cells (t : TypeId) (cs : List SV1)
 | row (t : TypeId) (e : Ty) (ver : Nat) (L : U (List e.T))
 | map (ks : KT) (e : Ty) (L : U (List (ks.T × e.T)))
 | rmap (ks : KT) (e : Ty) (L R : U (List (ks.T × e.T))) (c : Option (U (ks.T × e.T))) (j : Nat)
 | itp (i : Nat)
 | nest (t tb : TypeId) (z ver : Nat) (L : U (List (List Int))) (h : Option (U Int × Nat))
 | mnest (tb : TypeId) (L : U (List (Int × List Int))) (h : Option (U Int × Nat))
 | abs (a : A)
structure SS (A : Type) where
 tm : List (Nat × SV)
 H : List (Chunk A)
def look {α : Type} : List (Nat × α) → Nat → Option α
 | [], _ => none
 | (i, x) :: r, n => match aG i n with
   | true => some x
   | false => look r n
def nth {α : Type} : List α → Nat → Option α
 | [], _ => none
 | x :: _, 0 => some x
 | _ :: r, n + 1 => nth r n
def iy {α : Type} : List α → Nat → α → List α
 | [], _, _ => []
 | _ :: r, 0, y => y :: r
 | x :: r, n + 1, y => x :: iy r n y
def takeN {α : Type} : List α → Nat → Option (List α)
 | _, 0 => some []
 | x :: r, n + 1 => match takeN r n with | some l => some (x :: l) | none => none
 | [], _ + 1 => none
def cut {α : Type} : List α → Nat → Nat → Option (List α)
 | l, 0, n => takeN l n
 | _ :: r, o + 1, n => cut r o n
 | [], _ + 1, _ => none
def dN {α : Type} : List α → Nat → List α → Option (List α)
 | l, _, [] => some l
 | x :: r, o + 1, y :: ys => match dN r o (y :: ys) with | some l => some (x :: l) | none => none
 | _ :: r, 0, y :: ys => match dN r 0 ys with | some l => some (y :: l) | none => none
 | [], _, _ :: _ => none
def cy : Value → SV1
 | .bool b => .lb b
 | .int k n => .li k n
 | .string s => .str (fun _ => s.data.toList.map fun x => (x.toNat : Int))
 | .slice none 0 0 => .nilS
 | .pointer none => .nilP
 | x => .v x
def pV : Value → SV
 | .agg cs => .val (.agg (cs.toList.map cy))
 | x => .val (.one (cy x))
def evalOp (tm : List (Nat × SV)) : Operand → Option SV
 | .tmp t => look tm t
 | .const v => some (pV v)
 | .func f => some (.val (.fn f []))
 | .global _ => none
def cn (tm : List (Nat × SV)) : List Operand → Option (List SV)
 | [] => some []
 | x :: r => match evalOp tm x with
   | some v => match cn tm r with
     | some vs => some (v :: vs)
     | none => none
   | none => none
inductive Out (A : Type) where
 | fail
 | need (b : U Bool)
 | done (C : U Prop) (v : SV) (cs : List (Chunk A))
structure aZ (A : Type) where
 ids : List Nat
 nf : Nat
 w : Bool
 eff : List (Chunk A) → List Bool → Out A
def b5 (n : Int) : Prop := -9223372036854775808 ≤ n ∧ n ≤ 9223372036854775807
def one (x : SV1) : SV := .val (.one x)
def b7 {A : Type} (C : U Prop) (v : SV) : Option (aZ A) := some ⟨[], 0, false, fun _ _ => .done C v []⟩
def tt : U Prop := fun _ => True
def tp : List SV1 → Option (List Nat)
 | [] => some []
 | .ptr i 0 :: r => (match tp r with | some l => some (i :: l) | none => none)
 | _ => none
def cellsOf : SV → Option (List SV1)
 | .val (.one x) => some [x]
 | .val (.agg l) => some l
 | .val (.fn f l) => (match tp l with | some ids => some [.fnc f ids] | none => none)
 | _ => none
def qD : SV1 → Option (IntKind × U Int)
 | .int k n => some (k, n)
 | .li k n => some (k, fun _ => n)
 | _ => none
def cH : SV → Option (IntKind × U Int)
 | .val (.one x) => qD x
 | _ => none
def AJ : SV1 → Option (U Bool)
 | .sb b => some b
 | .lb b => some (fun _ => b)
 | _ => none
def fit (k : IntKind) (n : U Int) : U Prop × SV1 := match k with
 | .i64 => (fun _ => b5 (n ()), .int k n)
 | _ => (tt, .int k (fun _ => k.wrap (n ())))
def xQ (a b : Int) : Int := ((a.toNat &&& b.toNat : Nat) : Int)
def arith (op : BinOp) (k : IntKind) (a b : U Int) : Option (U Prop × SV1) :=
 match op with
 | .add => some (fit k (fun _ => a () + b ()))
 | .sub => some (fit k (fun _ => a () - b ()))
 | .mul => some (fit k (fun _ => a () * b ()))
 | .quo => match k with
   | .i64 => some (fun _ => 0 ≤ a () ∧ 0 < b () ∧ b5 (a ()), .int k (fun _ => a () / b ()))
   | .u8 => some (fun _ => 0 ≤ a () ∧ 0 < b () ∧ a () < 256, .int k (fun _ => a () / b ()))
   | .u16 => some (fun _ => 0 ≤ a () ∧ 0 < b () ∧ a () < 65536, .int k (fun _ => a () / b ()))
   | .u64 => some (fun _ => 0 ≤ a () ∧ 0 < b () ∧ a () < 18446744073709551616, .int k (fun _ => a () / b ()))
   | _ => none
 | .rem => match k with
   | .i64 => some (fun _ => 0 ≤ a () ∧ 0 < b () ∧ b5 (a ()), .int k (fun _ => a () % b ()))
   | .u8 => some (fun _ => 0 ≤ a () ∧ 0 < b () ∧ a () < 256, .int k (fun _ => a () % b ()))
   | .u16 => some (fun _ => 0 ≤ a () ∧ 0 < b () ∧ a () < 65536, .int k (fun _ => a () % b ()))
   | .u64 => some (fun _ => 0 ≤ a () ∧ 0 < b () ∧ a () < 18446744073709551616, .int k (fun _ => a () % b ()))
   | _ => none
 | .and => match k with
   | .i64 => some (fun _ => 0 ≤ a () ∧ 0 ≤ b () ∧ a () < 9223372036854775808 ∧ b () < 9223372036854775808, .int k (fun _ => xQ (a ()) (b ())))
   | .u8 => some (fun _ => 0 ≤ a () ∧ 0 ≤ b () ∧ a () < 256 ∧ b () < 256, .int k (fun _ => xQ (a ()) (b ())))
   | .u16 => some (fun _ => 0 ≤ a () ∧ 0 ≤ b () ∧ a () < 65536 ∧ b () < 65536, .int k (fun _ => xQ (a ()) (b ())))
   | .u64 => some (fun _ => 0 ≤ a () ∧ 0 ≤ b () ∧ a () < 18446744073709551616 ∧ b () < 18446744073709551616, .int k (fun _ => xQ (a ()) (b ())))
   | _ => none
 | .lss => some (tt, .sb (fun _ => decide (a () < b ())))
 | .leq => some (tt, .sb (fun _ => decide (a () ≤ b ())))
 | .gtr => some (tt, .sb (fun _ => decide (b () < a ())))
 | .geq => some (tt, .sb (fun _ => decide (b () ≤ a ())))
 | .eql => some (tt, .sb (fun _ => decide (a () = b ())))
 | .neq => some (tt, .sb (fun _ => !decide (a () = b ())))
 | _ => none
def bq (l : List Int) : Prop := ∀ x ∈ l, 0 ≤ x ∧ x < 256
def Ak (l : List Int) : ByteArray := ⟨(l.map fun x => x.toNat.toUInt8).toArray⟩
def qf (op : BinOp) (x y : SV1) : Option (U Prop × SV1) :=
 match qD x with
 | some (k, a) => match qD y with
   | some (k', b) => (match op with
     | .shr => (match k with
       | .u8 => some (fun _ => 0 ≤ a () ∧ 0 ≤ b () ∧ b () ≤ 8, .int k (fun _ => a () / 2 ^ (b ()).toNat))
       | .u16 => some (fun _ => 0 ≤ a () ∧ 0 ≤ b () ∧ b () ≤ 8, .int k (fun _ => a () / 2 ^ (b ()).toNat))
       | .u64 => some (fun _ => 0 ≤ a () ∧ 0 ≤ b () ∧ b () ≤ 32, .int k (fun _ => a () / 2 ^ (b ()).toNat))
       | _ => none)
     | _ => match decide (k = k') with | true => arith op k a b | false => none)
   | none => none
 | none => match AJ x with
   | some p => (match AJ y with
     | some q => (match op with | .eql => some (tt, .sb (fun _ => p () == q ())) | .neq => some (tt, .sb (fun _ => !(p () == q ()))) | _ => none)
     | none => none)
   | none => match x, y with
     | .str a, .str b => (match op with
       | .eql => some (fun _ => bq (a ()) ∧ bq (b ()), .sb (fun _ => decide (a () = b ())))
       | .neq => some (fun _ => bq (a ()) ∧ bq (b ()), .sb (fun _ => !decide (a () = b ())))
       | .add => some (fun _ => (a ()).length + (b ()).length ≤ 1099511627776, .str (fun _ => a () ++ b ()))
       | .lss => some (tt, .sb (fun _ => Op.bytesLess (Ak (a ())).toList (Ak (b ())).toList))
       | _ => none)
     | .ptr _ _, .nilP => (match op with | .eql => some (tt, .lb false) | .neq => some (tt, .lb true) | _ => none)
     | .nilP, .ptr _ _ => (match op with | .eql => some (tt, .lb false) | .neq => some (tt, .lb true) | _ => none)
     | .nilP, .nilP => (match op with | .eql => some (tt, .lb true) | .neq => some (tt, .lb false) | _ => none)
     | _, _ => none
def ku {A : Type} (op : BinOp) (x y : SV) : Option (aZ A) :=
 match x, y with
 | .val (.one x), .val (.one y) => (match qf op x y with | some (C, v) => b7 C (one v) | none => none)
 | _, _ => none
def oo {A : Type} (op : UnOp) (x : SV) : Option (aZ A) :=
 match op, x with
 | .not, .val (.one (.sb b)) => b7 tt (one (.sb (fun _ => !b ())))
 | .not, .val (.one (.lb b)) => b7 tt (one (.lb (!b)))
 | .neg, .val (.one (.int .i64 n)) => b7 (fun _ => b5 (-n ())) (one (.int .i64 (fun _ => -n ())))
 | _, _ => none
def nJ : SV → Option Nat
 | .val (.one (.li _ (.ofNat n))) => some n
 | _ => none
def fX {A : Type} (src dst : TI) (x : SV) : Option (aZ A) :=
 match dst.kind, x with
 | .int k', .val (.one (.int _ n)) => (match fit k' n with | (C, v) => b7 C (one v))
 | .int k', .val (.one (.li _ n)) => (match fit k' (fun _ => n) with | (C, v) => b7 C (one v))
 | .str, .val (.one (.int .i32 n)) => b7 (fun _ => 0 ≤ n () ∧ n () < 128) (one (.str (fun _ => [n ()])))
 | .str, .val (.one (.ro (.int .u8) l)) => b7 tt (one (.str l))
 | .str, .val (.one .nilS) => b7 tt (one (.str (fun _ => [])))
 | .str, .val (.one (.str l)) => b7 tt (one (.str l))
 | .str, .val (.one (.hd i ver)) => some ⟨[i], 0, false, fun cs _ => match cs with
    | [.row t (.int .u8) ver' L] => (match aG ver ver' with | true => .done tt (one (.str L)) [.row t (.int .u8) ver' L] | false => .fail)
    | _ => .fail⟩
 | .str, .val (.one (.vw i ver esz lo n)) => some ⟨[i], 0, false, fun cs _ => match cs with
    | [.row t (.int .u8) ver' L] => (match aG ver ver' && aG esz 1 with | true => .done (fun _ => 0 ≤ n ()) (one (.str (fun _ => ((L ()).drop (lo ()).toNat).take (n ()).toNat))) [.row t (.int .u8) ver' L] | false => .fail)
    | _ => .fail⟩
 | _, _ => none
def nk (src : TI) (x : SV) : Bool := match src.kind, x with
 | .int _, .val (.one (.int _ _)) => true
 | .int _, .val (.one (.li _ _)) => true
 | .str, .val (.one (.str _)) => true
 | .slice _ (some (.int .u8)), .val (.one (.ro _ _)) => true
 | .slice _ (some (.int .u8)), .val (.one .nilS) => true
 | .slice _ (some (.int .u8)), .val (.one (.hd _ _)) => true
 | .slice _ (some (.int .u8)), .val (.one (.vw _ _ _ _ _)) => true
 | _, _ => false
def pack (t : TI) (l : List SV1) : Option SV :=
 match t.isAgg with
 | true => some (.val (.agg l))
 | false => match l with | [x] => some (one x) | _ => none
def partOf (t : TI) (l : List SV1) (off : Nat) : Option SV := match cut l off t.size with
 | some l => pack t l
 | none => none
def q6 {A : Type} (t : TI) (x : SV) : Option (aZ A) :=
 match x with
 | .val (.one (.ptr i off)) => some ⟨[i], 0, false, fun cs _ => match cs with
    | [.cells ct l] => (match partOf t l off with | some v => .done tt v [.cells ct l] | none => .fail)
    | _ => .fail⟩
 | .val (.one (.rp e L k off)) => (match partOf t (dec e (fun _ => (L ()).getD (k ()).toNat e.cY)) off with
   | some v => b7 (fun _ => 0 ≤ k () ∧ k () < (L ()).length) v
   | none => none)
 | .val (.one (.ep i ver esz k off)) => some ⟨[i], 0, false, fun cs _ => match cs with
    | [.row rt e ver' L] => (match aG ver ver' && aG esz e.size with
      | true => (match partOf t (dec e (fun _ => (L ()).getD (k ()).toNat e.cY)) off with | some v => .done (fun _ => 0 ≤ k () ∧ k () < (L ()).length) v [.row rt e ver' L] | none => .fail)
      | false => .fail)
    | _ => .fail⟩
 | _ => none
def storable : SV1 → Bool
 | .v _ => false
 | .ln _ => false
 | .any => false
 | .nb _ _ => false
 | _ => true
def gE {A : Type} (t : TI) (x v : SV) : Option (aZ A) :=
 match cellsOf v with
 | none => none
 | some vs => match aG vs.length t.size && vs.all storable with
 | false => none
 | true => match x with
   | .val (.one (.ptr i off)) => some ⟨[i], 0, true, fun cs _ => match cs with
      | [.cells ct l] => (match dN l off vs with | some l => .done tt (one .any) [.cells ct l] | none => .fail)
      | _ => .fail⟩
   | .val (.one (.ep i ver esz k off)) => some ⟨[i], 0, true, fun cs _ => match cs with
      | [.row rt e ver' L] => (match aG ver ver' && aG esz e.size with
        | true => (match dN (dec e (fun _ => (L ()).getD (k ()).toNat e.cY)) off vs with
          | some l => (match enc e l with | some (y, []) => .done (fun _ => 0 ≤ k () ∧ k () < (L ()).length) (one .any) [.row rt e ver' (fun _ => (L ()).set (k ()).toNat (y ()))] | _ => .fail)
          | none => .fail)
        | false => .fail)
      | _ => .fail⟩
   | _ => none
def sP : SV → Option (Nat × Nat × Nat × U Int × U Int)
 | .val (.one (.vw j ver esz lo n)) => some (j, ver, esz, lo, n)
 | _ => none
def hdOf : SV → Option (Nat × Nat)
 | .val (.one (.hd j ver)) => some (j, ver)
 | _ => none
def epOf : SV → Option Nat
 | .val (.one (.ep i _ _ _ _)) => some i
 | _ => none
def wL {A : Type} (t : TI) (x : SV) (i j ver : Nat) : Option (aZ A) :=
 match aG i j with
 | true => none
 | false => some ⟨[i, j], 0, true, fun cs d => match cs with
   | [c, .row _ e ver' L] => (match aG ver ver' with
     | true => (match gE t x (one (.ro e L)) with
       | some q => (match q.eff [c] d with
         | .done C r [c'] => .done C r [c', .gone]
         | .need b => .need b
         | _ => .fail)
       | none => .fail)
     | false => .fail)
   | _ => .fail⟩
def me {A : Type} (t : TI) (x v : SV) : Option (aZ A) :=
 match sP v with
 | none => (match hdOf v with
   | some (j, ver) => (match epOf x with
     | some i => wL t x i j ver
     | none => gE t x v)
   | none => gE t x v)
 | some (j, ver, esz, lo, n) => match x with
   | .val (.one (.ptr i off)) => (match aG t.size 1 && !aG i j with
     | true => some ⟨[i, j], 0, true, fun cs _ => match cs with
       | [.cells ct l, .row rt e ver' L] => (match aG ver ver' && aG esz e.size with
         | true => (match dN l off [.hd j (ver + 1)] with
           | some l => .done tt (one .any) [.cells ct l, .row rt e (ver + 1) (fun _ => ((L ()).drop (lo ()).toNat).take (n ()).toNat)]
           | none => .fail)
         | false => .fail)
       | _ => .fail⟩
     | false => none)
   | _ => none
def kg {A : Type} (t : TI) (x : SV) (f : Nat) : Option (aZ A) :=
 match t.kind with
 | .struct offs => match nth offs f with
   | some (o, _ + 1) => (match x with
     | .val (.one (.ptr i off)) => b7 tt (one (.ptr i (off + o)))
     | .val (.one (.rp e L k off)) => b7 tt (one (.rp e L k (off + o)))
     | .val (.one (.ep i ver esz k off)) => b7 tt (one (.ep i ver esz k (off + o)))
     | _ => none)
   | _ => none
 | _ => none
def sO (x : SV) (o : Nat) : Option SV := match x with
 | .val (.one (.ptr i off)) => some (one (.ptr i (off + o)))
 | .val (.one (.rp e L k off)) => some (one (.rp e L k (off + o)))
 | .val (.one (.ep i ver es k off)) => some (one (.ep i ver es k (off + o)))
 | _ => none
def dL {A : Type} (x : SV) (esz : Nat) (k : U Int) : Nat → Nat → List Bool → Out A
 | 0, _, _ => .fail
 | 1, j, _ => (match sO x (j * esz) with | some v => .done (fun _ => k () = Int.ofNat j) v [] | none => .fail)
 | n + 2, j, ds => (match ds with
   | [] => .need (fun _ => decide (k () = Int.ofNat j))
   | true :: _ => (match sO x (j * esz) with | some v => .done (fun _ => k () = Int.ofNat j) v [] | none => .fail)
   | false :: ds => dL x esz k (n + 1) (j + 1) ds)
def fR {A : Type} (t : TI) (esz : Nat) (x ix : SV) : Option (aZ A) :=
 match t.kind with
 | .array n _ => (match nJ ix with
   | some j => (match aq j n with
     | true => (match x with
       | .val (.one (.ptr i off)) => b7 tt (one (.ptr i (off + j * esz)))
       | .val (.one (.rp e L k off)) => b7 tt (one (.rp e L k (off + j * esz)))
       | .val (.one (.ep i ver es k off)) => b7 tt (one (.ep i ver es k (off + j * esz)))
       | _ => none)
     | false => none)
   | none => (match cH ix with
     | some (_, k) => some ⟨[], 0, false, fun _ ds => dL x esz k n 0 ds⟩
     | none => none))
 | .slice _ _ => (match cH ix with
   | some (_, k) => (match x with
     | .val (.one (.ro e L)) => (match aG esz e.size with | true => b7 (fun _ => 0 ≤ k () ∧ k () < (L ()).length) (one (.rp e L k 0)) | false => none)
     | .val (.one (.hd i ver)) => some ⟨[i], 0, false, fun cs _ => match cs with
        | [.row rt e ver' L] => (match aG ver ver' && aG esz e.size with | true => .done (fun _ => 0 ≤ k () ∧ k () < (L ()).length) (one (.ep i ver e.size k 0)) [.row rt e ver' L] | false => .fail)
        | _ => .fail⟩
     | _ => none)
   | _ => none)
 | _ => none
def gG : Option SV → Option (Option (U Int))
 | none => some none
 | some x => match cH x with | some (_, k) => some (some k) | none => none
def eZ (lo : Option (U Int)) : U Int := match lo with | some l => l | none => fun _ => 0
def fm (hi : Option (U Int)) (n : U Int) : U Int := match hi with | some l => l | none => n
def isSlice : SV → Bool
 | .val (.one (.ro _ _)) => true
 | .val (.one .nilS) => true
 | .val (.one (.hd _ _)) => true
 | .val (.one (.vw _ _ _ _ _)) => true
 | _ => false
def isZero : Option SV → Bool
 | some (.val (.one (.li _ 0))) => true
 | _ => false
def kO {A : Type} (t : TI) (esz : Nat) (x : SV) (lo hi mx : Option SV) : Option (aZ A) :=
 match t.kind, mx with
 | .slice _ _, none => (match gG lo with
   | some lo => (match gG hi with
     | some hi => (match x with
       | .val (.one (.ro e L)) => (match eZ lo, fm hi (fun _ => (L ()).length), aG esz e.size with
         | _, _, false => none
         | l, h, true => b7 (fun _ => 0 ≤ l () ∧ l () ≤ h () ∧ h () ≤ (L ()).length) (one (.ro e (fun _ => ((L ()).take (h ()).toNat).drop (l ()).toNat))))
       | .val (.one (.hd i ver)) => some ⟨[i], 0, false, fun cs _ => match cs with
          | [.row rt e ver' L] => (match aG ver ver' && aG esz e.size with
            | true => (match eZ lo, fm hi (fun _ => (L ()).length) with
              | l, h => .done (fun _ => 0 ≤ l () ∧ l () ≤ h () ∧ h () ≤ (L ()).length) (one (.vw i ver e.size l (fun _ => h () - l ()))) [.row rt e ver' L])
            | false => .fail)
          | _ => .fail⟩
       | _ => none)
     | none => none)
   | none => none)
 | _, _ => none
def wk {A : Type} (x : SV) : Option (aZ A) :=
 match x with
 | .val (.one (.ro _ L)) => b7 tt (one (.int .i64 (fun _ => (L ()).length)))
 | .val (.one .nilS) => b7 tt (one (.li .i64 0))
 | .val (.one (.str l)) => b7 tt (one (.int .i64 (fun _ => (l ()).length)))
 | .val (.one (.vw _ _ _ _ n)) => b7 (fun _ => 0 ≤ n ()) (one (.int .i64 n))
 | .val (.one (.hd i ver)) => some ⟨[i], 0, false, fun cs _ => match cs with
    | [.row rt e ver' L] => (match aG ver ver' with | true => .done tt (one (.int .i64 (fun _ => (L ()).length))) [.row rt e ver' L] | false => .fail)
    | _ => .fail⟩
 | .val (.one (.mp i)) => some ⟨[i], 0, false, fun cs _ => match cs with
    | [.map ks e L] => .done tt (one (.int .i64 (fun _ => (L ()).length))) [.map ks e L]
    | _ => .fail⟩
 | _ => none
def maxOf (isMax : Bool) (k : IntKind) (a b : U Int) : SV1 := match isMax with
 | true => .int k (fun _ => max (a ()) (b ()))
 | false => .int k (fun _ => min (a ()) (b ()))
def fv {A : Type} (isMax : Bool) : List SV → Option (aZ A)
 | [x, y] => (match cH x with
   | some (k, a) => (match cH y with
     | some (k', b) => (match decide (k = k') with | true => b7 tt (one (maxOf isMax k a b)) | false => none)
     | none => none)
   | none => none)
 | [x, y, z] => (match cH x with
   | some (k, a) => (match cH y with
     | some (k', b) => (match cH z with
       | some (k'', c) => (match decide (k = k') && decide (k = k'') with
         | true => (match cH (one (maxOf isMax k a b)) with
           | some (_, m) => b7 tt (one (maxOf isMax k m c))
           | none => none)
         | false => none)
       | none => none)
     | none => none)
   | none => none)
 | _ => none
def yM : (k k' : KT) → Option (k.T → k'.T)
 | .int k, .int k' => (match decide (k = k') with | true => some (fun x => x) | false => none)
 | .str, .str => some (fun x => x)
 | .agg e, .agg e' => bO.castT e e'
 | _, _ => none
def sL (ks ks' : KT) (e e' : Ty) : Option (List (ks.T × e.T) → List (ks'.T × e'.T)) := match yM ks ks' with
 | some f => (match bO.castT e e' with
   | some g => some (fun l => l.map fun x => (f x.1, g x.2))
   | none => none)
 | none => none
inductive Src where
 | ro (e : Ty) (L : U (List e.T))
 | nil
 | hd (i ver : Nat)
 | vw (i ver esz : Nat) (lo n : U Int)
 | str (L : U (List Int))
 | bad
def ez : SV → Src
 | .val (.one .nilS) => .nil
 | .val (.one (.ro e L)) => .ro e L
 | .val (.one (.hd i ver)) => .hd i ver
 | .val (.one (.vw i ver esz lo n)) => .vw i ver esz lo n
 | _ => .bad
def iw : SV → Src
 | .val (.one (.str L)) => .str L
 | v => ez v
def jJ (k : TK) (y : Src) : Bool := match y with
 | .str _ => (match k with | .str => true | _ => false)
 | _ => (match k with | .slice _ _ => true | _ => false)
def u8i (x : Int) : Int := Int.ofNat x.toNat.toUInt8.toNat
def Src.ids : Src → List Nat
 | .hd i _ => [i]
 | .vw i _ _ _ _ => [i]
 | _ => []
def Src.list {A : Type} (e : Ty) : Src → List (Chunk A) → Option (U (List e.T))
 | .nil, [] => some (fun _ => [])
 | .ro e' L, [] => (match bO e' e with | some f => some (fun _ => f (L ())) | none => none)
 | .str L, [] => (match bO (.int .u8) e with | some f => some (fun _ => f ((L ()).map u8i)) | none => none)
 | .hd _ ver, [.row _ e' ver' L] => (match aG ver ver' with
   | true => (match bO e' e with | some f => some (fun _ => f (L ())) | none => none)
   | false => none)
 | .vw _ ver esz lo n, [.row _ e' ver' L] => (match aG ver ver' && aG esz e'.size with
   | true => (match bO e' e with | some f => some (fun _ => f (((L ()).drop (lo ()).toNat).take (n ()).toNat)) | none => none)
   | false => none)
 | _, _ => none
def bP : Nat := 1099511627776
def iY {A : Type} (t : TI) (x : SV) (src : Src) (fresh : Nat) : Option (aZ A) :=
 match t.kind with
 | .slice et (some e) => (match x with
   | .val (.one (.hd i ver)) => (match src.ids.any (aG i) with
     | true => none
     | false => some ⟨i :: src.ids, 0, true, fun cs _ => match cs with
       | .row rt e' ver' L :: r => (match aG ver ver' && aG rt et && decide (e' = e) with
         | true => (match src.list e' r with
           | some M => .done (fun _ => (L ()).length + (M ()).length ≤ bP) (one (.hd i (ver + 1))) (.row rt e' (ver + 1) (fun _ => L () ++ M ()) :: r)
           | none => .fail)
         | false => .fail)
       | _ => .fail⟩)
   | .val (.one .nilS) => (match src.ids.any (aG fresh) with
     | true => none
     | false => some ⟨fresh :: src.ids, 1, true, fun cs _ => match cs with
       | .emp :: r => (match src.list e r with
          | some M => .done (fun _ => (M ()).length ≤ bP) (one (.hd fresh 0)) (.row et e 0 M :: r)
          | none => .fail)
       | _ => .fail⟩)
   | _ => none)
 | _ => none
def jt {A : Type} (t : TI) (x y : SV) (fresh : Nat) : Option (aZ A) := iY t x (iw y) fresh
def ql {A : Type} (t : TypeId) (cs : List SV1) (fresh : Nat) : Option (aZ A) :=
 some ⟨[fresh], 1, true, fun c _ => match c with | [.emp] => .done tt (one (.ptr fresh 0)) [.cells t cs] | _ => .fail⟩
def dB : List (Nat × Nat) → List SV1 → List (Nat × SV) → Option (List SV1)
 | _, z, [] => some z
 | offs, z, (f, v) :: r => match nth offs f with
   | some (o, sz) => (match cellsOf v with
     | some vs => (match aG vs.length sz && vs.all storable && jI 1 sz with
       | true => (match dN z o vs with
         | some z => dB offs z r
         | none => none)
       | false => none)
     | none => none)
   | none => none
def kV (z : Nat) : Nat → Nat → List (Nat × Nat)
 | _, 0 => []
 | i, n + 1 => (i * z, z) :: kV z (i + 1) n
def kr {A : Type} (t : TI) (esz : Option Nat) (parts : List (Nat × SV)) : Option (aZ A) :=
 match t.kind with
 | .struct offs => (match dB offs t.zero parts with
   | some l => b7 tt (.val (.agg l))
   | none => none)
 | .array n _ => (match esz with
   | some z => (match dB (kV z 0 n) t.zero parts with
     | some l => b7 tt (.val (.agg l))
     | none => none)
   | none => none)
 | _ => none
def kh (e : Ty) : List SV → Option (U (List e.T))
 | [] => some (fun _ => [])
 | v :: r => match cellsOf v with
   | some l => (match l.all storable with
     | true => (match enc e l with
       | some (y, []) => (match kh e r with
         | some ys => some (fun _ => y () :: ys ())
         | none => none)
       | _ => none)
     | false => none)
   | none => none
def iN : Nat → List (Nat × SV) → Option (List SV)
 | _, [] => some []
 | n, (i, v) :: r => match aG n i with
   | true => (match iN (n + 1) r with | some l => some (v :: l) | none => none)
   | false => none
def wx : SV → Bool
 | .val (.one (.li .u8 _)) => true
 | _ => false
def dc {A : Type} (t : TI) (n : Nat) (parts : List (Nat × SV)) (fresh : Nat) : Option (aZ A) :=
 match t.kind with
 | .slice et (some e) => (match iN 0 parts with
   | some vs => (match aG vs.length n with
     | true => (match kh e vs with
       | some L => (match aG n 0 || vs.all wx || aG t.bytes 3 with
         | true => some ⟨[fresh], 1, true, fun c _ => match c with | [.emp] => .done (fun _ => n * e.size ≤ 16777216) (one (.hd fresh 0)) [.row et e 0 L] | _ => .fail⟩
         | false => b7 (fun _ => n * e.size ≤ 16777216) (one (.ro e L)))
       | none => none)
     | false => none)
   | none => none)
 | _ => none
def eF {A : Type} (t : TI) (len cap : SV) (fresh : Nat) : Option (aZ A) :=
 match t.kind with
 | .slice et (some e) => (match cH len with
   | some (_, l) => (match cH cap with
     | some (_, c) => some ⟨[fresh], 1, true, fun ch _ => match ch with
       | [.emp] => .done (fun _ => 0 ≤ l () ∧ l () ≤ c () ∧ c () ≤ bP) (one (.hd fresh 0)) [.row et e 0 (fun _ => List.replicate (l ()).toNat e.cY)]
       | _ => .fail⟩
     | none => none)
   | none => none)
 | _ => none
def gZ {A : Type} (t : TI) (fresh : Nat) : Option (aZ A) :=
 match t.kind with
 | .map _ _ (some (ks, e)) => some ⟨[fresh], 1, true, fun c _ => match c with | [.emp] => .done tt (one (.mp fresh)) [.map ks e (fun _ => [])] | _ => .fail⟩
 | _ => none
def tQ : (ks : KT) → SV → Option (U Prop × U ks.T)
 | .int k, .val (.one (.int k' n)) => (match decide (k = k') with | true => some (tt, n) | false => none)
 | .int k, .val (.one (.li k' n)) => (match decide (k = k') with | true => some (tt, fun _ => n) | false => none)
 | .str, .val (.one (.str l)) => some (fun _ => bq (l ()), l)
 | .agg e, .val (.agg l) => (match e.ka with
   | true => (match enc e l with | some (y, []) => some (fun _ => e.bW (y ()), y) | _ => none)
   | false => none)
 | _, _ => none
def elV (e : Ty) (x : U e.T) : Option SV2 := match e.agg with
 | true => some (.agg (dec e x))
 | false => (match dec e x with | [y] => some (.one y) | _ => none)
def yY (e : Ty) (v : SV) : Option (U e.T) := match cellsOf v with
 | some l => (match l.all storable with
   | true => (match enc e l with | some (y, []) => some y | _ => none)
   | false => none)
 | none => none
def w6 : SV → Bool
 | .val (.agg _) => true
 | _ => false
def iK {A : Type} (t : TI) (x ix : SV) (ok : Bool) : Option (aZ A) :=
 match t.kind, x with
 | .map _ _ (some (ks0, e0)), .val (.one (.mp i)) => some ⟨[i], 0, false, fun cs _ => match cs with
   | [.map ks e L] => (match decide (ks = ks0) && decide (e = e0) with
     | true => (match tQ ks ix with
       | some (C, k) => (match elV e (fun _ => (getM ks (L ()) (k ())).getD e.cY) with
         | some v => .done C (match ok with | true => .tup [v, .one (.sb (fun _ => (getM ks (L ()) (k ())).isSome))] | false => .val v) [.map ks e L]
         | none => .fail)
       | none => .fail)
     | false => .fail)
   | _ => .fail⟩
 | _, _ => none
def eE {A : Type} (t : TI) (x ix v : SV) : Option (aZ A) :=
 match t.kind, x with
 | .map _ _ (some (ks0, e0)), .val (.one (.mp i)) => some ⟨[i], 0, true, fun cs _ => match cs with
   | [.map ks e L] => (match decide (ks = ks0) && decide (e = e0) && (w6 v == e.agg) with
     | true => (match tQ ks ix with
       | some (C, k) => (match yY e v with
         | some y => .done C (one .any) [.map ks e (fun _ => eh ks (L ()) (k ()) (y ()))]
         | none => .fail)
       | none => .fail)
     | false => .fail)
   | _ => .fail⟩
 | _, _ => none
def jq {A : Type} (t : TI) (x ix : SV) : Option (aZ A) :=
 match t.kind, x with
 | .map _ _ (some (ks0, _)), .val (.one (.mp i)) => some ⟨[i], 0, true, fun cs _ => match cs with
   | [.map ks e L] => (match decide (ks = ks0) with
     | true => (match tQ ks ix with
       | some (C, k) => .done C (.tup []) [.map ks e (fun _ => gL ks (L ()) (k ()))]
       | none => .fail)
     | false => .fail)
   | _ => .fail⟩
 | _, _ => none
abbrev Con (A : Type) := List SV → Nat → Option (aZ A)
structure Env (A : Type) where
 ti : List (Nat × TI)
 con : List (Nat × Con A)
def cK (tm : List (Nat × SV)) : List (Nat × Operand) → Option (List (Nat × SV))
 | [] => some []
 | (i, x) :: r => match evalOp tm x with
   | some v => (match cK tm r with | some l => some ((i, v) :: l) | none => none)
   | none => none
def cV (tm : List (Nat × SV)) : Option Operand → Option (Option SV)
 | none => some none
 | some x => match evalOp tm x with | some v => some (some v) | none => none
def sT (E : List (Nat × TI)) : TK → Option Nat
 | .slice e _ => (match look E e with | some i => some i.size | none => none)
 | .array _ e => (match look E e with | some i => some i.size | none => none)
 | _ => none
def s6 (i : TI) (x : SV) : Bool := match i.kind, x with
 | .str, .val (.one (.str _)) => true
 | .slice _ _, .val (.one (.ro _ _)) => true
 | .slice _ _, .val (.one .nilS) => true
 | .slice _ _, .val (.one (.hd _ _)) => true
 | .slice _ _, .val (.one (.vw _ _ _ _ _)) => true
 | .map _ _ _, .val (.one (.mp _)) => true
 | _, _ => false
def dU {A : Type} (x : SV) : Option (aZ A) := match x with
 | .val (.one .nilS) => b7 tt (one .nilP)
 | .val (.one (.hd i ver)) => some ⟨[i], 0, false, fun cs _ => match cs with
    | [.row rt e ver' L] => (match aG ver ver' with
      | true => .done (fun _ => 0 < (L ()).length) (one (.ep i ver e.size (fun _ => 0) 0)) [.row rt e ver' L]
      | false => .fail)
    | _ => .fail⟩
 | _ => none
def cq {A : Type} (ti : List (Nat × TI)) (pt : TI) (x n : SV) : Option (aZ A) := match pt.kind with
 | .ptr e => (match look ti e with
   | some ie => (match aG ie.size 1, cH n with
     | true, some (_, k) => (match x with
       | .val (.one .nilP) => b7 (fun _ => k () = 0) (one (.str (fun _ => [])))
       | .val (.one (.ep i ver 1 q 0)) => some ⟨[i], 0, true, fun cs _ => match cs with
          | [.row rt (.int .u8) ver' L] => (match aG ver ver' && aG rt e with
            | true => .done (fun _ => q () = 0 ∧ k () = (L ()).length ∧ 0 < (L ()).length ∧ (L ()).length ≤ bP ∧ ∀ y ∈ L (), 0 ≤ y ∧ y < 256) (one (.str L)) [.gone]
            | false => .fail)
          | _ => .fail⟩
       | _ => none)
     | _, _ => none)
   | none => none)
 | _ => none
def jR {A : Type} (ti : List (Nat × TI)) (b : Builtin) (args : List SV) (ts : List TypeId) : Option (aZ A) := match b with
 | .unsafeSliceData => (match args with | [x] => dU x | _ => none)
 | .unsafeString => (match args with
   | [x, y] => (match ts with
     | [pt, _] => (match look ti pt with | some i => cq ti i x y | none => none)
     | _ => none)
   | _ => none)
 | _ => none
def qd {A : Type} (E : Env A) (tm : List (Nat × SV)) (fresh : Nat) (c : Call) : Option (aZ A) :=
 match cn tm c.args.toList with
 | some args => (match c.callee with
   | .builtin b => (match b, args, c.argTypes.toList with
     | .len, [x], [t] => (match look E.ti t with
       | some i => (match s6 i x with | true => wk x | false => none)
       | none => none)
     | .delete, [x, y], [t, _] => (match look E.ti t with
       | some i => jq i x y
       | none => none)
     | .max, xs, _ => fv true xs
     | .min, xs, _ => fv false xs
     | .append, [x, y], [t, t2] => (match look E.ti t with
       | some i => (match look E.ti t2 with
         | some j => (match jJ j.kind (iw y) with | true => jt i x y fresh | false => none)
         | none => none)
       | none => none)
     | _, _, _ => jR E.ti b args c.argTypes.toList)
   | .value f => (match evalOp tm f with
     | some (.val (.fn f caps)) => (match look E.con f with
       | some k => k (args ++ caps.map fun x => one x) fresh
       | none => none)
     | some (.val (.one (.fnc f ids))) => (match look E.con f with
       | some k => k (args ++ ids.map fun i => one (.ptr i 0)) fresh
       | none => none)
     | _ => none)
   | _ => none)
 | none => none
inductive PO (A : Type) where
 | fail
 | needS (t : Nat) (b : U Bool)
 | plan (p : aZ A)
def PO.of {A : Type} : Option (aZ A) → PO A
 | some p => .plan p
 | none => .fail
def cellOf : SV → Option SV1
 | .val (.one x) => some x
 | _ => none
def kq : List SV → Option (List SV1)
 | [] => some []
 | v :: r => match cellOf v with
   | some x => (match kq r with | some l => some (x :: l) | none => none)
   | none => none
def sN (i : TI) : SV → Bool
 | .val (.one (.int _ _)) => true
 | .val (.one (.li _ _)) => true
 | .val (.one (.str _)) => true
 | .val (.one (.sb _)) => (match i.kind with | .bool => true | _ => false)
 | .val (.one (.lb _)) => (match i.kind with | .bool => true | _ => false)
 | .val (.one (.ptr _ _)) => (match i.kind with | .ptr _ => true | _ => false)
 | .val (.one .nilP) => (match i.kind with | .ptr _ => true | _ => false)
 | _ => false
def en {A : Type} (dst : TI) (x : SV) : Option (aZ A) :=
 match dst.kind, x with
 | .slice _ (some (.int .u8)), .val (.one (.str l)) => b7 (fun _ => bq (l ()) ∧ (l ()).length ≤ 1099511627776) (one (.ro (.int .u8) l))
 | _, _ => none
def jr {A : Type} (dst : TI) (x : SV) : Option (aZ A) :=
 match dst.kind, x with
 | .slice _ (some (.int .u8)), .val (.one (.hd i ver)) => some ⟨[i], 0, true, fun cs _ => match cs with
   | [.row _ e ver' L] => (match aG ver ver' with | true => .done (fun _ => 0 < (L ()).length) (one (.ro e L)) [.gone] | false => .fail)
   | _ => .fail⟩
 | _, _ => none
def mh {A : Type} (t : TI) (x : SV) (lo hi mx : Option SV) (fresh : Nat) : Option (aZ A) :=
 match t.kind with
 | .slice et (some e) => (match isSlice x && isZero hi && isZero mx && lo.isNone with
   | true => some ⟨[fresh], 1, true, fun c _ => match c with | [.emp] => .done tt (one (.hd fresh 0)) [.row et e 0 (fun _ => [])] | _ => .fail⟩
   | false => none)
 | _ => none
def s3 (neg : Bool) : SV → SV → Option SV1
 | .val (.one .nilS), .val (.one .nilS) => some (.lb (!neg))
 | .val (.one (.ro _ L)), .val (.one .nilS) => some (.nb neg (fun _ => L () = []))
 | .val (.one (.hd _ _)), .val (.one .nilS) => some (.nb neg tt)
 | .val (.one (.vw _ _ _ _ _)), .val (.one .nilS) => some (.nb neg tt)
 | _, _ => none
def vi : List SV1 → List SV1 → Option (U Bool)
 | [], [] => some (fun _ => true)
 | x :: l, y :: m => (match qD x with
   | some (k, a) => (match qD y with
     | some (k', b) => (match decide (k = k') with
       | true => (match vi l m with | some r => some (fun _ => decide (a () = b ()) && r ()) | none => none)
       | false => none)
     | none => none)
   | none => none)
 | _, _ => none
def qn (op : BinOp) (i : TI) (v u : SV) : Option SV1 := match aG i.bytes 1 with
 | true => (match v, u with
   | .val (.agg l), .val (.agg m) => (match aG l.length i.size with
     | true => (match vi l m with
       | some g => (match op with | .eql => some (.sb g) | .neq => some (.sb (fun _ => !g ())) | _ => none)
       | none => none)
     | false => none)
   | _, _ => none)
 | false => none
def nH (neg : Bool) : SV → SV → Option SV1
 | .val (.one (.mp _)), .val (.one (.v (.map none))) => some (.lb neg)
 | _, _ => none
def pe (op : BinOp) (i : TI) (v u : SV) : Option SV1 := match i.kind with
 | .map _ _ _ => (match op with
   | .eql => nH false v u
   | .neq => nH true v u
   | _ => none)
 | .slice _ _ => (match op with
   | .eql => s3 false v u
   | .neq => s3 true v u
   | _ => none)
 | _ => qn op i v u
def bY : Nat → Nat → List Nat
 | _, 0 => []
 | i, n + 1 => i :: bY (i + 1) n
def za {A : Type} (H : List (Chunk A)) (i : Nat) : Chunk A := match nth H i with | some c => c | none => .emp
def keyS : (ks : KT) → U ks.T → SV2
 | .int k, n => .one (.int k n)
 | .str, l => .one (.str l)
 | .agg e, x => .agg (dec e x)
def mq {A : Type} (t : TI) (x : SV) (fresh : Nat) : Option (aZ A) :=
 match t.kind, x with
 | .map _ _ (some _), .val (.one (.mp i)) => some ⟨[i, fresh], 1, true, fun cs _ => match cs with
   | [.map ks e L, .emp] => .done tt (one (.ptr fresh 0)) [.rmap ks e L L none fresh, .itp i]
   | _ => .fail⟩
 | _, _ => none
def nS {A : Type} (x : SV) (fresh : Nat) : Option (aZ A) :=
 match x with
 | .val (.one (.ptr j 0)) => some ⟨bY 0 fresh, 0, false, fun cs _ => (match za cs j with
   | .itp i => (match za cs i with
     | .rmap ks e _ _ (some p) j' => (match aG j j' && aq i fresh && aq j fresh with
       | true => (match elV e (fun _ => (p ()).2) with
         | some v => .done tt (.tup [keyS ks (fun _ => (p ()).1), v]) cs
         | none => .fail)
       | false => .fail)
     | _ => .fail)
   | _ => .fail)⟩
 | _ => none
def re {A : Type} (i : TI) (op : BinOp) (v u : SV) (p : Option (aZ A)) : Option (aZ A) := match aG i.bytes 2 with
 | true => (match op with
   | .sub => (match cH v with
     | some (.i64, a) => (match cH u with
       | some (.i64, b) => some ⟨[], 0, false, fun _ ds => match ds with
         | [] => .need (fun _ => decide (-9223372036854775808 ≤ a () - b () ∧ a () - b () ≤ 9223372036854775807))
         | true :: _ => .done (fun _ => -9223372036854775808 ≤ a () - b () ∧ a () - b () ≤ 9223372036854775807) (one (.int .i64 (fun _ => a () - b ()))) []
         | false :: _ => .done tt (one .any) []⟩
       | _ => p)
     | _ => p)
   | _ => p)
 | false => p
def dK {A : Type} (ie : TI) (l : List SV1) (k : U Int) : Nat → Nat → List Bool → Out A
 | 0, _, _ => .fail
 | 1, j, _ => (match partOf ie l (j * ie.size) with | some v => .done (fun _ => k () = Int.ofNat j) v [] | none => .fail)
 | n + 2, j, ds => (match ds with
   | [] => .need (fun _ => decide (k () = Int.ofNat j))
   | true :: _ => (match partOf ie l (j * ie.size) with | some v => .done (fun _ => k () = Int.ofNat j) v [] | none => .fail)
   | false :: ds => dK ie l k (n + 1) (j + 1) ds)
def iP {A : Type} (ti : List (Nat × TI)) (t : TI) (x ix : SV) : Option (aZ A) := match t.kind with
 | .array n e => (match x with
   | .val (.agg l) => (match look ti e with
     | some ie => (match nJ ix with
       | some j => (match aq j n with
         | true => (match partOf ie l (j * ie.size) with | some v => b7 tt v | none => none)
         | false => none)
       | none => (match cH ix with
         | some (_, k) => some ⟨[], 0, false, fun _ ds => dK ie l k n 0 ds⟩
         | none => none))
     | none => none)
   | _ => none)
 | _ => none
def cO {A : Type} (E : Env A) (tm : List (Nat × SV)) (fresh : Nat) (o : Op) : PO A :=
 match o with
 | .move x => (match evalOp tm x with | some v => .of (b7 tt v) | none => .fail)
 | .assign x => (match evalOp tm x with | some v => .of (b7 tt v) | none => .fail)
 | .pick c a b => (match evalOp tm c with
   | some (.val (.one (.lb true))) => (match evalOp tm a with | some v => .of (b7 tt v) | none => .fail)
   | some (.val (.one (.lb false))) => (match evalOp tm b with | some v => .of (b7 tt v) | none => .fail)
   | some (.val (.one (.sb g))) => (match c with | .tmp t => .needS t g | _ => .fail)
   | _ => .fail)
 | .load t a => (match look E.ti t with
   | some i => (match evalOp tm a with | some v => .of (q6 i v) | none => .fail)
   | none => .fail)
 | .store t a x => (match look E.ti t with
   | some i => (match evalOp tm a with
     | some v => (match evalOp tm x with | some u => .of (me i v u) | none => .fail)
     | none => .fail)
   | none => .fail)
 | .nilCheck x => (match evalOp tm x with
   | some (.val (.one (.ptr i off))) => .of (b7 tt (one (.ptr i off)))
   | some (.val (.one (.rp e L k off))) => .of (b7 tt (one (.rp e L k off)))
   | some (.val (.one (.ep i ver esz k off))) => .of (b7 tt (one (.ep i ver esz k off)))
   | _ => .fail)
 | .binOp op t x y _ => (match look E.ti t with
   | some i => (match evalOp tm x with
     | some v => (match evalOp tm y with
       | some u => (match pe op i v u with
       | some y => .of (b7 tt (one y))
       | none => (match sN i v && sN i u with | true => .of (re i op v u (ku op v u)) | false => .fail))
       | none => .fail)
     | none => .fail)
   | none => .fail)
 | .unOp op _ x => (match evalOp tm x with | some v => .of (oo op v) | none => .fail)
 | .convert s d x => (match look E.ti s with
   | some i => (match look E.ti d with
     | some j => (match evalOp tm x with | some v => (match nk i v with | true => (match (match aG s d with | true => jr j v | false => none) with | some p => .of (some p) | none => (match en j v with | some p => .of (some p) | none => .of (fX i j v))) | false => .fail) | none => .fail)
     | none => .fail)
   | none => .fail)
 | .slice t x lo hi mx => (match look E.ti t with
   | some i => (match evalOp tm x with
     | some v => (match cV tm lo with
       | some l => (match cV tm hi with
         | some h => (match cV tm mx with
           | some m => (match m with
             | none => (match sT E.ti i.kind with | some z => .of (kO i z v l h none) | none => .fail)
             | some m => .of (mh i v l h (some m) fresh))
           | none => .fail)
         | none => .fail)
       | none => .fail)
     | none => .fail)
   | none => .fail)
 | .fieldAddr t x f => (match look E.ti t with
   | some i => (match evalOp tm x with | some v => .of (kg i v f) | none => .fail)
   | none => .fail)
 | .indexAddr t x ix => (match look E.ti t with
   | some i => (match evalOp tm x with
     | some v => (match evalOp tm ix with
       | some u => (match sT E.ti i.kind with | some z => .of (fR i z v u) | none => .fail)
       | none => .fail)
     | none => .fail)
   | none => .fail)
 | .index t x ix => (match look E.ti t with
   | some i => (match evalOp tm x with
     | some v => (match evalOp tm ix with | some u => .of (iP E.ti i v u) | none => .fail)
     | none => .fail)
   | none => .fail)
 | .extract x n => (match evalOp tm x with
   | some (.tup l) => (match nth l n with | some v => .of (b7 tt (.val v)) | none => .fail)
   | _ => .fail)
 | .alloc t => (match look E.ti t with
   | some i => .of (ql t i.zero fresh)
   | none => .fail)
 | .box t x => (match evalOp tm x with
   | some v => (match cellsOf v with | some l => (match l.all storable with | true => .of (ql t l fresh) | false => .fail) | none => .fail)
   | none => .fail)
 | .build t parts => (match look E.ti t with
   | some i => (match cK tm parts.toList with | some ps => .of (kr i (sT E.ti i.kind) ps) | none => .fail)
   | none => .fail)
 | .buildSlice t n parts => (match look E.ti t with
   | some i => (match cK tm parts.toList with | some ps => .of (dc i n ps fresh) | none => .fail)
   | none => .fail)
 | .makeSlice t l c => (match look E.ti t with
   | some i => (match evalOp tm l with
     | some v => (match evalOp tm c with | some u => .of (eF i v u fresh) | none => .fail)
     | none => .fail)
   | none => .fail)
 | .makeMap t none => (match look E.ti t with | some i => .of (gZ i fresh) | none => .fail)
 | .lookup t x ix ok => (match look E.ti t with
   | some i => (match evalOp tm x with
     | some v => (match evalOp tm ix with | some u => .of (iK i v u ok) | none => .fail)
     | none => .fail)
   | none => .fail)
 | .mapUpdate t x ix y => (match look E.ti t with
   | some i => (match evalOp tm x with
     | some v => (match evalOp tm ix with
       | some u => (match evalOp tm y with | some z => .of (eE i v u z) | none => .fail)
       | none => .fail)
     | none => .fail)
   | none => .fail)
 | .makeFunc (.func f) first caps => (match first.toList, cn tm caps.toList with
   | [], some vs => (match kq vs with | some l => .of (b7 tt (.val (.fn f l))) | none => .fail)
   | _, _ => .fail)
 | .call c => .of (qd E tm fresh c)
 | .range t x => (match look E.ti t with
   | some i => (match evalOp tm x with | some v => .of (mq i v fresh) | none => .fail)
   | none => .fail)
 | .entry x => (match evalOp tm x with | some v => .of (nS v fresh) | none => .fail)
 | _ => .fail
def kZ : List (Nat × TI) → Bool
 | (_, i) :: _ => aG i.bytes 3
 | [] => false
def pg : List (Nat × TI) → TypeId
 | _ :: (b, _) :: _ => b
 | _ => 0
def Bc : TK → Bool
 | .slice _ _ => true
 | _ => false
def Ag : TK → Option TypeId
 | .slice e _ => some e
 | _ => none
def slotsOf : Ty → Nat
 | .lst (.int .i64) => 1
 | .pair (.lst (.int .i64)) (.lst (.int .i64)) => 2
 | _ => 0
def dy (z off : Nat) (k : U Int) : U Int := match aG z 1 with
 | true => k
 | false => fun _ => k () * Int.ofNat z + Int.ofNat off
abbrev sh (L : U (List (List Int))) (q : U Int) : List Int := (L ()).getD (q ()).toNat []
def inN (z : Nat) (L : U (List (List Int))) (k : U Int) : U Prop := match aG z 1 with
 | true => fun _ => 0 ≤ k () ∧ k () < (L ()).length
 | false => fun _ => 0 ≤ k () ∧ k () * Int.ofNat z + Int.ofNat z ≤ (L ()).length
abbrev iJ (L : U (List (Int × List Int))) (k : U Int) : List Int := (bB (K := Int) (L ()) (k ())).getD []
def rV {A : Type} (i ver z off fresh : Nat) (k : U Int) : List (Chunk A) → List Bool → Out A := fun cs _ => match cs with
 | [.nest rt tb z' ver' L none, .emp] => (match aG ver ver' && aG z z' && aq off z with
   | true => .done (inN z L k) (one (.hd fresh 0)) [.nest rt tb z' ver' L (some (dy z off k, fresh)), .row tb (.int .i64) 0 (fun _ => sh L (dy z off k))]
   | false => .fail)
 | _ => .fail
def fO {A : Type} (t : TI) (x : SV) (fresh : Nat) : Option (aZ A) := match x with
 | .val (.one (.ep i ver z k off)) => (match Bc t.kind with
   | true => some ⟨[i, fresh], 1, true, rV i ver z off fresh k⟩
   | false => none)
 | _ => none
def putE {A : Type} (ver z off ver2 j : Nat) (k : U Int) : List (Chunk A) → List Bool → Out A := fun cs _ => match cs with
 | [.nest rt tb z' ver' L (some (q, j')), .row tb' (.int .i64) ver2' D] => (match aG ver ver' && aG z z' && aq off z && aG j j' && aG ver2 ver2' && aG tb tb' with
   | true => .done (fun _ => inN z L k () ∧ dy z off k () = q ()) (one .any) [.nest rt tb z' ver' (fun _ => (L ()).set (q ()).toNat (D ())) none, .gone]
   | false => .fail)
 | _ => .fail
def eC {A : Type} (t : TI) (x v : SV) : Option (aZ A) := match x with
 | .val (.one (.ep i ver z k off)) => (match v with
   | .val (.one (.hd j ver2)) => (match Bc t.kind && aG t.size 1 && !aG i j with
     | true => some ⟨[i, j], 0, true, putE ver z off ver2 j k⟩
     | false => none)
   | _ => none)
 | _ => none
def lS {A : Type} (i ver z : Nat) (k : U Int) (eff : List (Chunk A) → List Bool → Out A) : List (Chunk A) → List Bool → Out A := fun cs d => match cs with
 | [.nest rt tb z' ver' L h] => (match aG ver ver' && aG z z' && aq 0 z with
   | true => .done (inN z L k) (one (.ep i ver z k 0)) [.nest rt tb z' ver' L h]
   | false => .fail)
 | cs => eff cs d
def iG {A : Type} (t : TI) (esz : Nat) (x ix : SV) : Option (aZ A) := match x with
 | .val (.one (.hd i ver)) => (match t.kind with
   | .slice _ _ => (match cH ix with
      | some (_, k) => (match fR t esz x ix with
        | some p => some ⟨[i], 0, false, lS i ver esz k p.eff⟩
        | none => none)
      | none => none)
   | _ => none)
 | _ => none
def BQ : SV1 → Bool
 | .nilS => true
 | _ => false
def tJ {A : Type} (tb : TypeId) (t ie : TI) (len cap : SV) (fresh : Nat) : Option (aZ A) := match t.kind with
 | .slice et (some e) => (match aq 0 (slotsOf e) && aG ie.size (slotsOf e) && ie.zero.all BQ with
   | true => (match cH len with
     | some (_, l) => (match cH cap with
       | some (_, c) => some ⟨[fresh], 1, true, fun ch _ => match ch with
         | [.emp] => .done (fun _ => 0 ≤ l () ∧ l () ≤ c () ∧ c () ≤ bP) (one (.hd fresh 0)) [.nest et tb (slotsOf e) 0 (fun _ => List.replicate ((l ()).toNat * slotsOf e) []) none]
         | _ => .fail⟩
       | none => none)
     | none => none)
   | false => none)
 | _ => none
def BT {A : Type} (fresh : Nat) (ix : SV) : List (Chunk A) → List Bool → Out A := fun cs _ => match cs with
 | [.mnest tb L none, .emp] => (match tQ (.int .i64) ix with
   | some (C, k) => .done C (one (.hd fresh 0)) [.mnest tb L (some (k, fresh)), .row tb (.int .i64) 0 (fun _ => iJ L k)]
   | none => .fail)
 | _ => .fail
def mputE {A : Type} (ver2 j : Nat) (ix : SV) : List (Chunk A) → List Bool → Out A := fun cs _ => match cs with
 | [.mnest tb L (some (q, j')), .row tb' (.int .i64) ver2' D] => (match aG j j' && aG ver2 ver2' && aG tb tb' with
   | true => (match tQ (.int .i64) ix with
     | some (C, k) => .done (fun _ => C () ∧ k () = q ()) (one .any) [.mnest tb (fun _ => ak (K := Int) (L ()) (q ()) (D ())) none, .gone]
     | none => .fail)
   | false => .fail)
 | _ => .fail
def kL : TK → Option TypeId
 | .map _ e (some (.int .i64, .lst (.int .i64))) => some e
 | _ => none
def wv (k : TK) : Bool := match kL k with
 | some _ => true
 | none => false
def AA {A : Type} (t : TI) (esz : Nat) (x : SV) (lo hi : Option SV) : Option (aZ A) := match Bc t.kind with
 | true => (match gG lo with
   | some lo => (match gG hi with
     | some hi => (match x with
       | .val (.one (.hd i ver)) => some ⟨[i], 0, true, fun cs _ => match cs with
          | [.row rt e ver' L] => (match aG ver ver' && aG esz e.size with
            | true => .done (fun _ => 0 ≤ eZ lo () ∧ eZ lo () ≤ fm hi (fun _ => (L ()).length) () ∧ fm hi (fun _ => (L ()).length) () ≤ (L ()).length) (one (.hd i (ver + 1)))
               [.row rt e (ver + 1) (fun _ => ((L ()).take (fm hi (fun _ => (L ()).length) ()).toNat).drop (eZ lo ()).toNat)]
            | false => .fail)
          | _ => .fail⟩
       | _ => none)
     | none => none)
   | none => none)
 | false => none
def dm {A : Type} (E : Env A) (tm : List (Nat × SV)) (fresh : Nat) (o : Op) : Option (aZ A) := match o with
 | .load t a => (match look E.ti t with
   | some i => (match evalOp tm a with | some v => fO i v fresh | none => none)
   | none => none)
 | .store t a x => (match look E.ti t with
   | some i => (match evalOp tm a with
     | some v => (match evalOp tm x with
       | some u => eC i v u
       | none => none)
     | none => none)
   | none => none)
 | .indexAddr t x ix => (match look E.ti t with
   | some i => (match evalOp tm x with
     | some v => (match evalOp tm ix with
       | some u => (match sT E.ti i.kind with | some z => iG i z v u | none => none)
       | none => none)
     | none => none)
   | none => none)
 | .makeSlice t l c => (match look E.ti t with
   | some i => (match aG i.bytes 3 with
     | true => (match Ag i.kind with
       | some et => (match look E.ti et with
         | some ie => (match evalOp tm l with
           | some v => (match evalOp tm c with | some u => tJ (pg E.ti) i ie v u fresh | none => none)
           | none => none)
         | none => none)
       | none => none)
     | false => none)
   | none => none)
 | .makeMap t none => (match look E.ti t with
   | some i => (match aG i.bytes 3 && wv i.kind with
     | true => some ⟨[fresh], 1, true, fun c _ => match c with | [.emp] => .done tt (one (.mp fresh)) [.mnest (pg E.ti) (fun _ => []) none] | _ => .fail⟩
     | false => none)
   | none => none)
 | .lookup t x ix false => (match look E.ti t with
   | some i => (match aG i.bytes 3 with
     | true => (match kL i.kind with
       | some et => (match look E.ti et with
         | some ie => (match ie.zero.all BQ && aG ie.size 1 with
           | true => (match evalOp tm x with
             | some (.val (.one (.mp m))) => (match evalOp tm ix with
               | some u => some ⟨[m, fresh], 1, true, BT fresh u⟩
               | none => none)
             | _ => none)
           | false => none)
         | none => none)
       | none => none)
     | false => none)
   | none => none)
 | .mapUpdate t x ix y => (match look E.ti t with
   | some i => (match aG i.bytes 3 && wv i.kind with
     | true => (match evalOp tm x with
       | some (.val (.one (.mp m))) => (match evalOp tm ix with
         | some u => (match evalOp tm y with
           | some (.val (.one (.hd j ver2))) => (match aG m j with
             | true => none
             | false => some ⟨[m, j], 0, true, mputE ver2 j u⟩)
           | _ => none)
         | none => none)
       | _ => none)
     | false => none)
   | none => none)
 | .slice t x lo hi none => (match look E.ti t with
   | some i => (match aG i.bytes 3 with
     | true => (match evalOp tm x with
       | some v => (match cV tm lo with
         | some l => (match cV tm hi with
           | some h => (match sT E.ti i.kind with | some z => AA i z v l h | none => none)
           | none => none)
         | none => none)
       | none => none)
     | false => none)
   | none => none)
 | _ => none
def sop {A : Type} (E : Env A) (tm : List (Nat × SV)) (fresh : Nat) (o : Op) : PO A := match kZ E.ti with
 | false => cO E tm fresh o
 | true => (match dm E tm fresh o with
   | some p => .plan p
   | none => cO E tm fresh o)
def aC {A : Type} (H : List (Chunk A)) (i : Nat) : Chunk A := match nth H i with | some c => c | none => .emp
def aD {A : Type} (H : List (Chunk A)) : List Nat → List (Chunk A)
 | [] => []
 | i :: r => aC H i :: aD H r
def bX {A : Type} : List (Chunk A) → Nat → Chunk A → List (Chunk A)
 | _ :: r, 0, c => c :: r
 | x :: r, n + 1, c => x :: bX r n c
 | [], 0, c => [c]
 | [], n + 1, c => .emp :: bX [] n c
def aO {A : Type} (H : List (Chunk A)) : List Nat → List (Chunk A) → List (Chunk A)
 | i :: r, c :: cs => aO (bX H i c) r cs
 | _, _ => H
structure Eff (A : Type) where
 dst : Option Nat
 v : SV
 ids : List Nat
 cs : List (Chunk A)
 looks : List Nat
 soft : Bool
 keep : Bool
def jz (tm : List (Nat × SV)) (dst : Option Nat) (v : SV) : List (Nat × SV) := match dst with
 | some t => (t, v) :: tm
 | none => tm
def bH {A : Type} (e : Eff A) (s : SS A) : SS A := ⟨jz s.tm e.dst e.v, aO s.H e.ids e.cs⟩
def isApp : Op → Bool
 | .call c => (match c.callee with | .builtin b => (match b with | .append => true | _ => false) | _ => false)
 | _ => false
def dt {A : Type} (E : Env A) (o : Op) : Bool := match kZ E.ti with
 | true => false
 | false => isApp o
def wZ : Op → Nat
 | .indexAddr _ _ _ => 1
 | .load _ _ => 2
 | .store _ _ _ => 2
 | _ => 0
def lQ {A : Type} (E : Env A) (tm : List (Nat × SV)) (fresh : Nat) (o : Op) : Nat := match kZ E.ti with
 | true => (match dm E tm fresh o with
   | some _ => wZ o
   | none => 0)
 | false => 0
def iQ {A : Type} : List (Chunk A) → Bool
 | c :: _ => (match c with | .nest _ _ _ _ _ _ => true | _ => false)
 | [] => false
def dn {A : Type} (app : Bool) (k : Nat) (dst : Option Nat) (v : SV) (p : aZ A) (cs : List (Chunk A)) : Eff A := match p.w with
 | true => (match app with
   | true => (match p.ids, cs with
     | i :: _, c :: _ => ⟨dst, v, [i], [c], p.ids, false, false⟩
     | _, _ => ⟨dst, v, p.ids, cs, p.ids, false, false⟩)
   | false => ⟨dst, v, p.ids, cs, p.ids, false, aG k 2 && iQ cs⟩)
 | false => ⟨dst, v, [], [], p.ids, aG k 1 && iQ cs, false⟩
def Eff.lk {A : Type} (e : Eff A) : List Nat := match e.soft with
 | true => []
 | false => e.looks
def keeps {A : Type} (c : Nat) (e : Eff A) : Bool := match e.ids.any (aG c) with
 | true => (match e.ids with | i :: r => e.keep && aG c i && !(r.any (aG c)) | [] => false)
 | false => true
def wP {A : Type} (effs : List (Eff A)) : Bool := effs.all fun e => !e.soft || e.looks.all fun c => effs.all (keeps c)
structure Dec where
 sl : List (Nat × Bool)
 op : List (Nat × Bool)
def Dec.wa : List (Nat × Bool) → Nat → List Bool
 | [], _ => []
 | (i, b) :: r, j => match aG i j with
   | true => b :: Dec.wa r j
   | false => Dec.wa r j
def og (sl : List (Nat × Bool)) (t : Nat) (v : SV) : SV × List (U Prop) := match v with
 | .val (.one (.sb g)) => (match look sl t with
   | some b => (one (.lb b), [fun _ => g () = b])
   | none => (v, []))
 | _ => (v, [])
inductive RO (A : Type) where
 | fail (j : Nat)
 | needS (t : Nat) (b : U Bool)
 | needC (j : Nat) (b : U Bool)
 | done (Cs : List (U Prop)) (s : SS A) (effs : List (Eff A))
inductive GO where
 | yes | no | fail
 | need (t : Nat) (b : U Bool)
def ob : Value → Bool
 | .bool _ => true
 | _ => false
def guardOf (ops : List Oper) (tm : List (Nat × SV)) : Option (Nat × Bool) → GO
 | none => .yes
 | some (j, want) => match nth ops j with
   | some oj => (match oj.dst with
     | some t => (match look tm t with
       | some (.val (.one (.lb b))) => (match b == want with | true => .yes | false => .no)
       | some (.val (.one (.sb g))) => .need t g
       | some (.val (.one (.v x))) => (match ob x with | true => .fail | false => .no)
       | _ => .fail)
     | none => .fail)
   | none => .fail
def oq : SV := one (.v undef)
def gA (sl : List (Nat × Bool)) (dst : Option Nat) (v : SV) : SV × List (U Prop) := match dst with
 | some t => og sl t v
 | none => (v, [])
def pA {A : Type} (E : Env A) (ops : List Oper) (d : Dec) : List Oper → Nat → SS A → List (U Prop) → List (Eff A) → RO A
 | [], _, s, Cs, es => .done Cs s es.reverse
 | o :: r, j, s, Cs, es => match guardOf ops s.tm o.guard with
   | .fail => .fail j
   | .need t b => .needS t b
   | .no => pA E ops d r (j + 1) (bH ⟨o.dst, oq, [], [], [], false, false⟩ s) Cs (⟨o.dst, oq, [], [], [], false, false⟩ :: es)
   | .yes => (match sop E s.tm s.H.length o.op with
     | .fail => .fail j
     | .needS t b => .needS t b
     | .plan p => (match p.eff (aD s.H p.ids) (Dec.wa d.op j) with
       | .fail => .fail j
       | .need b => .needC j b
       | .done C v cs => (match gA d.sl o.dst v with
         | (v, C2) => pA E ops d r (j + 1) (bH (dn (dt E o.op) (lQ E s.tm s.H.length o.op) o.dst v p cs) s) (C :: (C2 ++ Cs)) (dn (dt E o.op) (lQ E s.tm s.H.length o.op) o.dst v p cs :: es))))
def ic (sl : List (Nat × Bool)) : List (Nat × Bool) → List (Nat × SV) → List (Nat × SV) × List (U Prop)
 | [], tm => (tm, [])
 | (t, b) :: r, tm => match ic sl r tm with
   | (tm', Cs) => (match look tm t with
     | some (.val (.one (.sb g))) => ((t, one (.lb b)) :: tm', (fun _ => g () = b) :: Cs)
     | _ => (tm', Cs))
inductive Ck (C : U Prop) (R : Prop) : Prop
 | mk (h : C ()) (r : R)
inductive bz (why : Nat) : Prop
inductive Alt (neg : Bool) (C p q : U Prop) : Prop
 | mk (h : (neg = false → C ()) → p ()) (k : (neg = true → C ()) → q ())
inductive Both (b : U Bool) (p q : U Prop) : Prop
 | mk (h : b () = true → p ()) (k : b () = false → q ())
inductive End (p : Prop) : Prop
 | mk (h : p)
def conds (R : Prop) : List (U Prop) → Prop
 | [] => R
 | C :: r => conds (Ck C R) r
def dq : List Nat → Nat
 | [] => 0
 | i :: r => (1 <<< i) ||| dq r
def vy (acc : List Nat) : List Edge → Nat
 | [] => 0
 | e :: r => match Region.binds .any e with
   | true => ((1 <<< e.on) ||| (match nth acc e.on with | some l => l | none => 0)) ||| vy acc r
   | false => vy acc r
def AN : List Oper → List Nat → List Nat
 | [], acc => acc
 | o :: r, acc => AN r (acc ++ [vy acc o.after.toList])
def dQ (ops : List Oper) (o : Oper) : List Nat :=
 (o.op.operands.toList.filterMap fun x => match x with | .tmp t => some t | _ => none) ++
 (match o.guard with | some (j, _) => (match nth ops j with | some oj => oj.dst.toList | none => []) | none => [])
structure Rec where
 dst : Nat
 reads : Nat
 ids : Nat
 looks : Nat
def meets (a b : Nat) : Bool := !(aG (a &&& b) 0)
def sJ (a b : Rec) : Bool := meets a.dst (b.reads ||| b.dst) || meets b.dst a.reads || meets a.ids b.looks || meets b.ids a.looks
def rn (an : Nat) (b : Rec) : Nat → List Rec → Bool
 | _, [] => true
 | i, a :: r => (an.testBit i || !sJ a b) && rn an b (i + 1) r
def kX : List Nat → List Rec → List Rec → Bool
 | an :: ans, b :: bs, before => rn an b 0 before && kX ans bs (before ++ [b])
 | _, [], _ => true
 | [], _ :: _, _ => false
def mn (ops : List Oper) : List Oper → List (List Nat × List Nat) → List Rec
 | o :: r, (ids, looks) :: l => ⟨dq o.dst.toList, dq (dQ ops o), dq ids, dq looks⟩ :: mn ops r l
 | _, _ => []
def nT (ops : List Oper) (l : List (List Nat × List Nat)) : Bool :=
 kX (AN ops []) (mn ops ops l) [] && l.length == ops.length && (ops.zipIdx.all fun (o, i) => o.after.toList.all fun e => !Region.binds .any e || aq e.on i) &&
 ops.all fun o => match o.op with | .select .. => false | _ => true
def o6 {A : Type} (ops : List Oper) (effs : List (Eff A)) : Bool := nT ops (effs.map fun e => (e.ids, e.lk)) && wP effs
def pB {A : Type} (E : Env A) (ops : List Oper) (draw : Bool) (s : SS A) (Q : SS A → Prop) : Nat → Dec → Prop
 | 0, _ => bz 1000
 | n + 1, d => match ic d.sl d.sl s.tm with
   | (tm, C0) => (match pA E ops d ops 0 ⟨tm, s.H⟩ C0 [] with
     | .fail j => bz j
     | .needS t b => Both b (fun _ => pB E ops draw s Q n ⟨(t, true) :: d.sl, d.op⟩) (fun _ => pB E ops draw s Q n ⟨(t, false) :: d.sl, d.op⟩)
     | .needC j b => Both b (fun _ => pB E ops draw s Q n ⟨d.sl, d.op ++ [(j, true)]⟩) (fun _ => pB E ops draw s Q n ⟨d.sl, d.op ++ [(j, false)]⟩)
     | .done Cs s' effs => (match draw with
       | false => conds (Q s') Cs
       | true => Ck (fun _ => o6 ops effs = true) (conds (Q s') Cs)))
inductive XE where
 | normal
 | ret
 | exit (id : Nat)
def x6 : List Nat → List Nat → Bool
 | [], [] => true
 | a :: l, b :: m => aG a b && x6 l m
 | _, _ => false
def yo (n : Nat) : SV1 → SV1 → Option (U Prop)
 | _, .any => some tt
 | .int k a, .int k' b => (match decide (k = k') with | true => some (fun _ => a () = b ()) | false => none)
 | .li k a, .int k' b => (match decide (k = k') with | true => some (fun _ => a = b ()) | false => none)
 | .li k a, .li k' b => (match decide (k = k') && decide (a = b) with | true => some tt | false => none)
 | .sb a, .sb b => some (fun _ => a () = b ())
 | .lb a, .sb b => some (fun _ => a = b ())
 | .sb a, .lb b => some (fun _ => a () = b)
 | .lb a, .lb b => (match a == b with | true => some tt | false => none)
 | .str a, .str b => some (fun _ => a () = b ())
 | .nilS, .nilS => some tt
 | .nilS, .ro _ L => some (fun _ => L () = [])
 | .nilP, .nilP => some tt
 | .ptr i o, .ptr i' o' => (match aG i i' && aG o o' && aq i n with | true => some tt | false => none)
 | .mp i, .mp i' => (match aG i i' && aq i n with | true => some tt | false => none)
 | .ro e L, .ro e' L' => (match bO e e' with | some f => some (fun _ => f (L ()) = L' ()) | none => none)
 | .hd i v, .hd i' v' => (match aG i i' && aG v v' && aq i n with | true => some tt | false => none)
 | .fnc f l, .fnc g m => (match aG f g && x6 l m && l.all (fun i => aq i n) with | true => some tt | false => none)
 | _, _ => none
def nj (n : Nat) : List SV1 → List SV1 → Option (List (U Prop))
 | [], [] => some []
 | x :: l, y :: m => (match yo n x y with
   | some C => (match nj n l m with | some Cs => some (C :: Cs) | none => none)
   | none => none)
 | _, _ => none
def yn (n : Nat) : SV2 → SV2 → Option (List (U Prop))
 | _, .one .any => some []
 | .one x, .one y => (match yo n x y with | some C => some [C] | none => none)
 | .agg l, .agg m => nj n l m
 | .fn f l, .fn g m => (match aG f g with | true => nj n l m | false => none)
 | _, _ => none
def rW (n : Nat) : List SV2 → List SV2 → Option (List (U Prop))
 | [], [] => some []
 | x :: l, y :: m => (match yn n x y with
   | some C => (match rW n l m with | some Cs => some (C ++ Cs) | none => none)
   | none => none)
 | _, _ => none
def yl (n : Nat) : SV → SV → Option (List (U Prop))
 | _, .val (.one .any) => some []
 | .val x, .val y => yn n x y
 | .tup l, .tup m => rW n l m
 | _, _ => none
class fo (A : Type) where
 sub : A → A → Option (U Prop)
 sound : ∀ a b C, sub a b = some C → C () → a = b
def ym {A : Type} [fo A] (n : Nat) : Chunk A → Chunk A → Option (List (U Prop))
 | _, .gone => some []
 | .emp, .emp => some []
 | .cells t cs, .cells t' cs' => (match aG t t' with | true => nj n cs cs' | false => none)
 | .row t e v L, .row t' e' v' L' => (match aG t t' && aG v v' with
   | true => (match bO e e' with | some f => some [fun _ => f (L ()) = L' ()] | none => none)
   | false => none)
 | .map ks e L, .map ks' e' L' => (match sL ks ks' e e' with | some f => some [fun _ => f (L ()) = L' ()] | none => none)
 | .rmap ks e L R _ j, .rmap ks' e' L' R' none j' => (match aG j j' && aq j n with
   | true => (match sL ks ks' e e' with | some f => some [fun _ => f (L ()) = L' (), fun _ => f (R ()) = R' ()] | none => none)
   | false => none)
 | .itp i, .itp i' => (match aG i i' with | true => some [] | false => none)
 | .nest t tb z v L none, .nest t' tb' z' v' L' none => (match aG t t' && aG tb tb' && aG z z' && aG v v' with
   | true => some [fun _ => L () = L' ()]
   | false => none)
 | .nest t tb z v L (some (k, j)), .nest t' tb' z' v' L' (some (k', j')) => (match aG t t' && aG tb tb' && aG z z' && aG v v' && aG j j' && aq j n with
   | true => some [fun _ => L () = L' (), fun _ => k () = k' ()]
   | false => none)
 | .mnest tb L none, .mnest tb' L' none => (match aG tb tb' with
   | true => some [fun _ => L () = L' ()]
   | false => none)
 | .abs a, .abs b => (match fo.sub a b with | some C => some [C] | none => none)
 | _, _ => none
def p4 {A : Type} [fo A] (n : Nat) : List (Chunk A) → List (Chunk A) → Option (List (U Prop))
 | _, [] => some []
 | c :: l, d :: m => (match ym n c d with
   | some C => (match p4 n l m with | some Cs => some (C ++ Cs) | none => none)
   | none => none)
 | [], _ :: _ => none
def wJ (n : Nat) (tm : List (Nat × SV)) : List (Nat × SV) → Option (List (U Prop))
 | [] => some []
 | (t, y) :: r => (match look tm t with
   | some x => (match yl n x y with
     | some C => (match wJ n tm r with | some Cs => some (C ++ Cs) | none => none)
     | none => none)
   | none => none)
def ir {A : Type} : List (Chunk A) → List (Option Nat)
 | [] => []
 | .row _ _ v _ :: r => some v :: ir r
 | .nest _ _ _ v _ _ :: r => some v :: ir r
 | _ :: r => none :: ir r
def fu (n0 : Nat) (vs : List (Option Nat)) : SV1 → SV1
 | .hd i v => (match aq i n0 with
   | true => .hd i v
   | false => (match nth vs i with | some (some u) => (match aG u v with | true => .hd i 0 | false => .any) | _ => .any))
 | .vw i v e l n => (match aq i n0 with | true => .vw i v e l n | false => .any)
 | .ep i v e k o => (match aq i n0 with | true => .ep i v e k o | false => .any)
 | x => x
def pa (n0 : Nat) (vs : List (Option Nat)) : SV2 → SV2
 | .one x => .one (fu n0 vs x)
 | .agg l => .agg (l.map (fu n0 vs))
 | .fn f l => .fn f (l.map (fu n0 vs))
def rv (n0 : Nat) (vs : List (Option Nat)) : SV → SV
 | .val x => .val (pa n0 vs x)
 | .tup l => .tup (l.map (pa n0 vs))
def pZ {A : Type} (n0 : Nat) (vs : List (Option Nat)) (i : Nat) : Chunk A → Chunk A
 | .cells t cs => .cells t (cs.map (fu n0 vs))
 | .row t e v L => (match aq i n0 with | true => .row t e v L | false => .row t e 0 L)
 | .nest t tb z v L none => (match aq i n0 with | true => .nest t tb z v L none | false => .nest t tb z 0 L none)
 | .nest t tb z v L (some (k, j)) => (match fu n0 vs (.hd j 0) with
   | .hd _ _ => (match aq i n0 with | true => .nest t tb z v L (some (k, j)) | false => .nest t tb z 0 L (some (k, j)))
   | _ => .gone)
 | .mnest tb L (some _) => .gone
 | c => c
def iF {A : Type} (n0 : Nat) (vs : List (Option Nat)) : Nat → List (Chunk A) → List (Chunk A)
 | _, [] => []
 | i, c :: r => pZ n0 vs i c :: iF n0 vs (i + 1) r
def nx (n0 : Nat) (vs : List (Option Nat)) : List (Nat × SV) → List (Nat × SV)
 | [] => []
 | (t, v) :: r => (t, rv n0 vs v) :: nx n0 vs r
def norm {A : Type} (n0 : Nat) (s : SS A) : SS A := match ir s.H with
 | vs => ⟨nx n0 vs s.tm, iF n0 vs 0 s.H⟩
def BX (f : SV1 → SV1) : SV2 → SV2
 | .one x => .one (f x)
 | .agg l => .agg (l.map f)
 | .fn g l => .fn g (l.map f)
def lX (f : SV1 → SV1) : SV → SV
 | .val x => .val (BX f x)
 | .tup l => .tup (l.map (BX f))
def vK (f : SV1 → SV1) : List (Nat × SV) → List (Nat × SV)
 | [] => []
 | (t, v) :: r => (t, lX f v) :: vK f r
def pairUp {α : Type} : List α → List (α × α)
 | a :: b :: r => (a, b) :: pairUp r
 | _ => []
def zy {A : Type} (n : Nat) (H : List (Chunk A)) : SV1 → SV1
 | .hd i v => (match aq i n with
   | true => .hd i v
   | false => (match aC H i with
     | .row _ e u L => (match aG u v with | true => .ro e L | false => .any)
     | .nest _ _ z u L none => (match aG u v with
       | true => (match aG z 1 with
         | true => .ro (.lst (.int .i64)) L
         | false => (match aG z 2 with
           | true => .ro (.pair (.lst (.int .i64)) (.lst (.int .i64))) (fun _ => pairUp (L ()))
           | false => .any))
       | false => .any)
     | _ => .any))
 | .vw i v esz lo k => (match aq i n with
   | true => .vw i v esz lo k
   | false => (match aC H i with
     | .row _ e u L => (match aG u v && aG esz e.size with | true => .ro e (fun _ => ((L ()).drop (lo ()).toNat).take (k ()).toNat) | false => .any)
     | _ => .any))
 | x => x
def oP {A : Type} (n : Nat) (H : List (Chunk A)) (i : Nat) : Chunk A → Chunk A
 | .cells t cs => .cells t (cs.map (zy n H))
 | .row t e v L => (match aq i n with | true => .row t e v L | false => .gone)
 | .nest t tb z v L q => (match aq i n with | true => .nest t tb z v L q | false => .gone)
 | c => c
def qK {A : Type} (n : Nat) (H : List (Chunk A)) : Nat → List (Chunk A) → List (Chunk A)
 | _, [] => []
 | i, c :: r => oP n H i c :: qK n H (i + 1) r
def frz {A : Type} (n : Nat) (s : SS A) : SS A := ⟨vK (zy n s.H) s.tm, qK n s.H 0 s.H⟩
def rM {A : Type} (H' : List (Chunk A)) : List (Nat × SV) → SS A → SS A
 | [], s => s
 | (t, y) :: r, s => match y with
   | .val (.one (.hd k 0)) => (match look s.tm t with
     | some (.val (.one .nilS)) => (match aC s.H k with
       | .emp => (match aC H' k with
         | .row rt e 0 _ => rM H' r ⟨(t, one (.hd k 0)) :: s.tm, bX s.H k (.row rt e 0 (fun _ => []))⟩
         | _ => rM H' r s)
       | _ => rM H' r s)
     | _ => rM H' r s)
   | _ => rM H' r s
def qq {A : Type} (H' : List (Chunk A)) (c : Nat) : Nat → List SV1 → SS A → SS A
 | _, [], s => s
 | j, y :: r, s => match y with
   | .hd k 0 => (match aC s.H c with
     | .cells ct l => (match nth l j with
       | some .nilS => (match aC s.H k with
         | .emp => (match aC H' k with
           | .row rt e 0 _ => qq H' c (j + 1) r ⟨s.tm, bX (bX s.H k (.row rt e 0 (fun _ => []))) c (.cells ct (iy l j (.hd k 0)))⟩
           | _ => qq H' c (j + 1) r s)
         | _ => qq H' c (j + 1) r s)
       | _ => qq H' c (j + 1) r s)
     | _ => qq H' c (j + 1) r s)
   | _ => qq H' c (j + 1) r s
def xU {A : Type} (H' : List (Chunk A)) : Nat → List (Chunk A) → SS A → SS A
 | _, [], s => s
 | c, d :: r, s => match d with
   | .cells _ l => xU H' (c + 1) r (qq H' c 0 l s)
   | _ => xU H' (c + 1) r s
def qp {A : Type} (t s : SS A) : SS A := xU t.H 0 t.H (rM t.H t.tm s)
def ye {A : Type} : Chunk A → Chunk A → Chunk A
 | .rmap ks e L _ _ _, .map _ _ _ => .map ks e L
 | c, _ => c
def unr {A : Type} : List (Chunk A) → List (Chunk A) → List (Chunk A)
 | c :: r, d :: m => ye c d :: unr r m
 | l, [] => l
 | [], _ :: _ => []
def unmC {A : Type} : Chunk A → Chunk A → Chunk A
 | .mnest _ L none, .map _ _ _ => .map (.int .i64) (.lst (.int .i64)) L
 | c, _ => c
def unm {A : Type} : List (Chunk A) → List (Chunk A) → List (Chunk A)
 | c :: r, d :: m => unmC c d :: unm r m
 | l, [] => l
 | [], _ :: _ => []
def qH {A : Type} (H : List (Chunk A)) (i : Nat) : List (Chunk A) := match aC H i with
 | .nest t tb z v L (some (k, j)) => (match aC H j with
   | .row rt (.int .i64) 0 D => (match aG rt tb && !aG i j with
     | true => bX (bX H j .gone) i (.nest t tb z v (fun _ => (L ()).set (k ()).toNat (D ())) none)
     | false => H)
   | _ => H)
 | _ => H
def ke {A : Type} : Nat → List (Chunk A) → List (Chunk A) → Option Nat
 | _, [], _ => none
 | i, c :: r, T => match c with
   | .nest _ _ _ _ _ (some _) => (match T with
     | .nest _ _ _ _ _ (some _) :: T => ke (i + 1) r T
     | _ => some i)
   | _ => (match T with
     | _ :: T => ke (i + 1) r T
     | [] => ke (i + 1) r [])
def homes {A : Type} (H T : List (Chunk A)) : List (Chunk A) := match ke 0 H T with
 | none => H
 | some i => qH H i
def lf (tm : List (Nat × SV)) : List (Nat × SV) → List (Nat × SV)
 | [] => []
 | (t, _) :: r => match look tm t with
   | some v => (t, v) :: lf tm r
   | none => lf tm r
def Sub {A : Type} [fo A] (n0 : Nat) (s t : SS A) : Prop := match norm n0 (frz t.H.length (qp t ⟨lf s.tm t.tm, unr (unm (homes s.H t.H) t.H) t.H⟩)) with
 | s => (match wJ t.H.length s.tm t.tm with
   | some C => (match p4 t.H.length s.H t.H with
     | some D => (match jI n0 t.H.length with | true => End (conds True (C ++ D)) | false => bz 5002)
     | none => bz 5001)
   | none => bz 5000)
structure yU (A : Type) where
 X : Type
 inv : X → SS A
 m : X → Nat
 x0 : X
inductive Pick (ks : KT) (e : Ty) (R : U (List (ks.T × e.T))) (p : U Prop) (q : List (ks.T × e.T) → ks.T × e.T → List (ks.T × e.T) → Prop) : Prop
 | mk (h : R () = [] → p ()) (k : ∀ l1 x l2, R () = l1 ++ x :: l2 → q l1 x l2)
def pf : List Oper → Option (Nat × Nat × Nat)
 | [o, o'] => (match o.op, o.dst, o.guard, o'.op, o'.dst, o'.guard with
   | .next (.tmp t) false, some d0, none, .extract (.tmp d) 0, some d1, none => (match aG d d0 with | true => some (t, d0, d1) | false => none)
   | _, _, _, _, _, _ => none)
 | _ => none
def uZ {A : Type} (t d0 d1 : Nat) (s : SS A) (Q : SS A → Prop) : Prop := match look s.tm t with
 | some (.val (.one (.ptr j 0))) => (match aC s.H j with
   | .itp i => (match aC s.H i with
     | .rmap ks e L R _ j' => (match aG j j' with
       | true => Pick ks e R (fun _ => Q ⟨(d1, one (.lb false)) :: (d0, one .any) :: s.tm, s.H⟩)
          (fun l1 x l2 => Q ⟨(d1, one (.lb true)) :: (d0, one .any) :: s.tm, bX s.H i (.rmap ks e L (fun _ => l1 ++ l2) (some (fun _ => x)) j)⟩)
       | false => bz 3100)
     | _ => bz 3101)
   | _ => bz 3102)
 | _ => bz 3103
def svc {A : Type} [fo A] (E : Env A) (n0 : Nat) : Code → SS A → (XE → SS A → Prop) → Prop
 | .skip, s, Q => Q .normal s
 | .region _ ops draw, s, Q => (match draw with
   | true => pB E ops.toList draw s (Q .normal) 24 ⟨[], []⟩
   | false => (match pf ops.toList with
     | some (t, d0, d1) => uZ t d0 d1 s (Q .normal)
     | none => pB E ops.toList draw s (Q .normal) 24 ⟨[], []⟩))
 | .seq a b, s, Q => svc E n0 a s fun e s => match e with
   | .normal => svc E n0 b s Q
   | .ret => Q .ret s
   | .exit id => Q (.exit id) s
 | .cond c x y, s, Q => (match evalOp s.tm c with
   | some (.val (.one (.lb true))) => svc E n0 x s Q
   | some (.val (.one (.lb false))) => svc E n0 y s Q
   | some (.val (.one (.sb g))) => (match c with
     | .tmp t => Both g (fun _ => svc E n0 x ⟨(t, one (.lb true)) :: s.tm, s.H⟩ Q) (fun _ => svc E n0 y ⟨(t, one (.lb false)) :: s.tm, s.H⟩ Q)
     | _ => bz 3000)
   | some (.val (.one (.nb neg C))) => (match c with
     | .tmp t => Alt neg C (fun _ => svc E n0 x ⟨(t, one (.lb true)) :: s.tm, s.H⟩ Q) (fun _ => svc E n0 y ⟨(t, one (.lb false)) :: s.tm, s.H⟩ Q)
     | _ => bz 3002)
   | _ => bz 3001)
 | .block id c, s, Q => svc E n0 c s fun e s => match e with
   | .normal => Q .normal s
   | .ret => Q .ret s
   | .exit id' => (match aG id id' with | true => Q .normal s | false => Q (.exit id') s)
 | .loop c, s, Q => ∃ I : yU A, Sub n0 s (I.inv I.x0) ∧ ∀ x, svc E n0 c (I.inv x) fun e s => match e with
   | .normal => ∃ y, I.m y < I.m x ∧ Sub n0 s (I.inv y)
   | .ret => Q .ret s
   | .exit id => Q (.exit id) s
 | .exit id, s, Q => Q (.exit id) s
 | .ret, s, Q => Q .ret s
 | .scope c, s, Q => svc E n0 c s Q
 | _, _, _ => bz 4000
def kQ {A : Type} (ti : List (Nat × TI)) (s : SS A) : List ResultVar → Option (List SV2)
 | [] => some []
 | .tmp t :: r => (match look s.tm t with
   | some (.val x) => (match kQ ti s r with | some l => some (x :: l) | none => none)
   | _ => none)
 | .cell a t :: r => (match look s.tm a with
   | some (.val (.one (.ptr i off))) => (match aC s.H i with
     | .cells _ l => (match look ti t with
       | some j => (match partOf j l off with
         | some (.val x) => (match kQ ti s r with | some l => some (x :: l) | none => none)
         | _ => none)
       | none => none)
     | _ => none)
   | _ => none)
def ag : List SV2 → SV
 | [x] => .val x
 | l => .tup l
def ek {A : Type} [fo A] (ti : List (Nat × TI)) (n0 : Nat) (rs : List ResultVar) (v : SV) (H1 : List (Chunk A)) (e : XE) (s : SS A) : Prop := match e with
 | .exit _ => bz 6000
 | _ => match kQ ti s rs with
   | some l => Sub n0 ⟨[(0, ag l)], s.H⟩ ⟨[(0, v)], H1⟩
   | none => bz 6001
def cQ : Nat → List SV → List (Nat × SV)
 | _, [] => []
 | n, x :: r => (n, x) :: cQ (n + 1) r
def place (i base : Nat) : Nat → Nat
 | 0 => i
 | j + 1 => base + j
def oI : List Nat → Nat → Option Nat
 | [], _ => none
 | x :: r, i => match aG x i with
   | true => some 0
   | false => (match oI r i with | some j => some (j + 1) | none => none)
def xy (p : List Nat) : List Nat → Option (List Nat)
 | [] => some []
 | i :: r => match oI p i with
   | some j => (match xy p r with | some l => some (j :: l) | none => none)
   | none => none
def rn1 (p : List Nat) : SV1 → SV1
 | .ptr i o => (match oI p i with | some j => .ptr j o | none => .any)
 | .mp i => (match oI p i with | some j => .mp j | none => .any)
 | .hd i v => (match oI p i with | some j => .hd j v | none => .any)
 | .vw i v e l n => (match oI p i with | some j => .vw j v e l n | none => .any)
 | .ep i v e k o => (match oI p i with | some j => .ep j v e k o | none => .any)
 | .fnc g l => (match xy p l with | some l => .fnc g l | none => .any)
 | x => x
def rnC {A : Type} (p : List Nat) : Chunk A → Chunk A
 | .cells t cs => .cells t (cs.map (rn1 p))
 | .rmap _ _ _ _ _ _ => .gone
 | .itp _ => .gone
 | .nest _ _ _ _ _ (some _) => .gone
 | .mnest _ _ (some _) => .gone
 | c => c
def kR {A : Type} (p : List Nat) (H : List (Chunk A)) : List Nat → List (Chunk A)
 | [] => []
 | i :: r => rnC p (aC H i) :: kR p H r
def cF {A : Type} (p : List Nat) (s : SS A) : SS A := ⟨vK (rn1 p) s.tm, kR p s.H p⟩
def kY : List Nat → Bool
 | [] => true
 | x :: r => !r.any (aG x) && kY r
def A0 : Nat → Nat → List Nat → Bool
 | 0, _, _ => true
 | n + 1, k, x :: r => aG x k && A0 n (k + 1) r
 | _ + 1, _, [] => false
def mw (n0 : Nat) (p : List Nat) : Bool := kY p && A0 n0 0 p
def nQ {A : Type} [fo A] (ti : List (Nat × TI)) (n0 : Nat) (rs : List ResultVar) (v : SV) (H1 : List (Chunk A)) (e : XE) (s : SS A) : Prop := match e with
 | .exit _ => bz 6000
 | _ => match kQ ti s rs with
   | some l => ∃ p, mw n0 p = true ∧ Sub n0 (cF p ⟨[(0, ag l)], s.H⟩) ⟨[(0, v)], H1⟩
   | none => bz 6001
def codeOk (n : Nat) : Code → Bool
 | .region _ ops _ => ops.all fun o => match o.dst with | some t => aq t n | none => true
 | .seq a b => codeOk n a && codeOk n b
 | .cond _ a b => codeOk n a && codeOk n b
 | .block _ c => codeOk n c
 | .loop c => codeOk n c
 | .scope c => codeOk n c
 | _ => true
end Go.Sx
namespace Go.Sx
set_option linter.all false
open Go.RowKit
inductive aL {α β : Type} (R : α → β → Prop) : List α → List β → Prop
 | nil : aL R [] []
 | cons {a b l m} (h : R a b) (t : aL R l m) : aL R (a :: l) (b :: m)
theorem aL.length {α β : Type} {R : α → β → Prop} {l : List α} {m : List β} (h : aL R l m) : l.length = m.length := by
 induction h with
 | nil => rfl
 | cons _ _ ih => simp [ih]
theorem aL.mono {α β : Type} {R R' : α → β → Prop} {l : List α} {m : List β} (h : aL R l m) (hr : ∀ a b, R a b → R' a b) : aL R' l m := by
 induction h with
 | nil => exact .nil
 | cons h _ ih => exact .cons (hr _ _ h) ih
theorem aL.nth {α β : Type} {R : α → β → Prop} {l : List α} {m : List β} (h : aL R l m) : ∀ {i a}, nth l i = some a → ∃ b, m[i]? = some b ∧ R a b := by
 induction h with
 | nil => intro i a h; cases h
 | cons h _ ih =>
   intro i a hi
   cases i with
   | zero => cases hi; exact ⟨_, rfl, h⟩
   | succ i => obtain ⟨b, hb, hr⟩ := ih (i := i) hi; exact ⟨b, by simpa using hb, hr⟩
theorem aL.append {α β : Type} {R : α → β → Prop} {l l' : List α} {m m' : List β} (h : aL R l m) (h' : aL R l' m') : aL R (l ++ l') (m ++ m') := by
 induction h with
 | nil => exact h'
 | cons h _ ih => exact .cons h ih
theorem aL.takeN {α β : Type} {R : α → β → Prop} {l : List α} {m : List β} (h : aL R l m) : ∀ {n l'}, takeN l n = some l' → aL R l' (m.take n) ∧ l'.length = n := by
 induction h with
 | nil => intro n l' hn; cases n <;> simp [Sx.takeN] at hn; subst hn; exact ⟨.nil, rfl⟩
 | cons h _ ih =>
   intro n l' hn
   cases n with
   | zero => simp [Sx.takeN] at hn; subst hn; exact ⟨.nil, rfl⟩
   | succ n =>
     simp only [Sx.takeN] at hn
     split at hn
     · rename_i l2 h2
       cases hn
       obtain ⟨h3, h4⟩ := ih h2
       exact ⟨.cons h h3, by simp [h4]⟩
     · cases hn
theorem aL.cut {α β : Type} {R : α → β → Prop} {l : List α} {m : List β} (h : aL R l m) : ∀ {o n l'}, cut l o n = some l' → aL R l' ((m.drop o).take n) ∧ l'.length = n := by
 induction h with
 | nil => intro o n l' hn; cases o <;> simp [Sx.cut] at hn; simpa using aL.takeN (R := R) .nil hn
 | @cons a b l m h t ih =>
   intro o n l' hn
   cases o with
   | zero => simp only [Sx.cut] at hn; simpa using (aL.cons h t).takeN hn
   | succ o => simp only [Sx.cut] at hn; simpa using ih hn
def dJ {α : Type} (m : List α) (o : Nat) (u : List α) : List α := m.take o ++ u ++ m.drop (o + u.length)
theorem aL.dN {α β : Type} {R : α → β → Prop} {l : List α} {m : List β} (h : aL R l m) : ∀ {o vs us l'}, aL R vs us → dN l o vs = some l' → aL R l' (dJ m o us) ∧ l'.length = l.length ∧ (vs ≠ [] → o + us.length ≤ m.length) := by
 induction h with
 | nil =>
   intro o vs us l' hv hn
   cases hv with
   | nil => simp [Sx.dN] at hn; subst hn; exact ⟨by simpa [dJ] using aL.nil, rfl, by simp⟩
   | cons _ _ => cases o <;> simp [Sx.dN] at hn
 | @cons a b l m h t ih =>
   intro o vs us l' hv hn
   cases hv with
   | nil =>
     have : l' = a :: l := by cases o <;> simp [Sx.dN] at hn <;> exact hn.symm
     subst this
     exact ⟨by simpa [dJ] using aL.cons h t, rfl, by simp⟩
   | @cons v u vs us hvu hvs =>
     cases o with
     | zero =>
       simp only [Sx.dN] at hn
       split at hn
       · rename_i l2 h2
         cases hn
         obtain ⟨h3, h4, h5⟩ := ih hvs h2
         refine ⟨by simpa [dJ] using aL.cons hvu h3, by simp [h4], fun _ => ?_⟩
         by_cases hv0 : vs = []
         · subst hv0; cases hvs; simp
         · have := h5 hv0; simp at this ⊢; omega
       · cases hn
     | succ o =>
       simp only [Sx.dN] at hn
       split at hn
       · rename_i l2 h2
         cases hn
         obtain ⟨h3, h4, h5⟩ := ih (.cons hvu hvs) h2
         refine ⟨?_, by simp [h4], fun h0 => ?_⟩
         · have e : dJ (b :: m) (o + 1) (u :: us) = b :: dJ m o (u :: us) := by
            simp only [dJ, List.take_succ_cons, List.cons_append, List.length_cons]; rw [show o + 1 + (us.length + 1) = (o + (us.length + 1)) + 1 by omega, List.drop_succ_cons]
           rw [e]; exact .cons h h3
         · have := h5 (by simp); simp at this ⊢; omega
       · cases hn
abbrev Mem := Nat → Nat → Option Value
def xX (M : Mem) (l : List Int) (v : Value) : Prop :=
 ∃ ao cap, v = .slice ao l.length cap ∧ l.length ≤ cap ∧ (0 < l.length → ∃ b off, ao = some ⟨b, off, none⟩ ∧ ∀ j x, l[j]? = some x → M b (off + j) = some (.int .u8 x))
def aI (M : Mem) : (e : Ty) → e.T → (Nat → Option Value) → Prop
 | .int k, n, c => c 0 = some (.int k n)
 | .bool, b, c => c 0 = some (.bool b)
 | .bytes, l, c => ∃ v, c 0 = some v ∧ xX M l v
 | .str, l, c => c 0 = some (.string ⟨(l.map fun x => x.toNat.toUInt8).toArray⟩)
 | .unit, _, _ => True
 | .pair a b, x, c => aI M a x.1 c ∧ aI M b x.2 (fun j => c (a.size + j))
 | .lst e, L, c => ∃ v, c 0 = some v ∧ ∃ ao cap, v = .slice ao (@List.length e.T L) cap ∧ @List.length e.T L ≤ cap ∧ (0 < @List.length e.T L → ∃ b off, ao = some ⟨b, off, none⟩ ∧ ∀ (j : Nat) (x : e.T), (show List e.T from L)[j]? = some x → aI M e x (fun i => M b (off + j * e.size + i)))
def ba (M : Mem) (e : Ty) (L : List e.T) (v : Value) : Prop :=
 ∃ ao cap, v = .slice ao L.length cap ∧ L.length ≤ cap ∧ (0 < L.length → ∃ b off, ao = some ⟨b, off, none⟩ ∧ ∀ j x, L[j]? = some x → aI M e x (fun i => M b (off + j * e.size + i)))
theorem bn {M : Mem} {e : Ty} {L : List e.T} {c : Nat → Option Value} : aI M (.lst e) L c ↔ ∃ v, c 0 = some v ∧ ba M e L v := Iff.rfl
theorem e8 {M : Mem} {l : List Int} {v : Value} : xX M l v ↔ ba M (.int .u8) l v := by
 simp [xX, ba, aI, Ty.size]
structure Ev where
 root : Nat → Value
 ver : Nat → Nat
 M : Mem
 foot : Nat → List Nat
def VwAt (r : Value) (esz : Nat) (lo n : Int) (v : Value) : Prop :=
 ∃ ao len cap, r = .slice ao len cap ∧ 0 ≤ lo ∧ 0 ≤ n ∧ lo + n ≤ len ∧ len ≤ cap ∧ v = .slice (if cap = lo.toNat then ao else ao.map (·.add (lo.toNat * esz))) n.toNat (cap - lo.toNat)
def aK (ρ : Ev) : SV1 → Value → Prop
 | .int k n, v => v = .int k (n ())
 | .li k n, v => v = .int k n
 | .sb b, v => v = .bool (b ())
 | .lb b, v => v = .bool b
 | .str l, v => v = .string ⟨((l ()).map fun x => x.toNat.toUInt8).toArray⟩
 | .v x, v => v = x
 | .nilS, v => v = .slice none 0 0
 | .nilP, v => v = .pointer none
 | .ptr i off, v => ∃ b, ρ.root i = .pointer (some ⟨b, 0, none⟩) ∧ v = .pointer (some ⟨b, off, none⟩)
 | .ro e L, v => ba ρ.M e (L ()) v
 | .hd i ver, v => (∃ ao l c, v = .slice ao l c) ∧ ver ≤ ρ.ver i ∧ (ver = ρ.ver i → v = ρ.root i)
 | .vw i ver esz lo n, v => (∃ ao l c, v = .slice ao l c) ∧ (0 ≤ n () → ∃ ao c, v = .slice ao (n ()).toNat c) ∧ ver ≤ ρ.ver i ∧ (ver = ρ.ver i → VwAt (ρ.root i) esz (lo ()) (n ()) v)
 | .ep i ver esz k off, v => ∃ p, v = .pointer (some p) ∧ ver ≤ ρ.ver i ∧ (ver = ρ.ver i → 0 ≤ k () ∧ ∃ b o len cap, ρ.root i = .slice (some ⟨b, o, none⟩) len cap ∧ p = ⟨b, o + (k ()).toNat * esz + off, none⟩)
 | .rp e L k off, v => ∃ b o, v = .pointer (some ⟨b, o + off, none⟩) ∧ 0 ≤ k () ∧ k () < (L ()).length ∧ ∀ x, (L ())[(k ()).toNat]? = some x → aI ρ.M e x (fun i => ρ.M b (o + i))
 | .mp i, v => ∃ b, ρ.root i = .pointer (some ⟨b, 0, none⟩) ∧ v = .map (some b)
 | .nb neg C, v => ∃ b, v = .bool b ∧ (b = !neg → C ())
 | .ln n, v => ∃ ao c, v = .slice ao (n ()).toNat c
 | .fnc f l, v => ∃ vs, v = .func (.func f) #[] vs.toArray ∧ aL (fun i u => ∃ b, ρ.root i = .pointer (some ⟨b, 0, none⟩) ∧ u = .pointer (some ⟨b, 0, none⟩)) l vs
 | .any, _ => True
def cM (ρ : Ev) : SV2 → Value → Prop
 | .one x, v => aK ρ x v
 | .agg l, v => ∃ vs, v = .agg vs.toArray ∧ aL (aK ρ) l vs
 | .fn f caps, v => ∃ vs, v = .func (.func f) #[] vs.toArray ∧ aL (aK ρ) caps vs
def Den (ρ : Ev) : SV → Value → Prop
 | .val x, v => cM ρ x v
 | .tup l, v => ∃ vs, v = .tuple vs.toArray ∧ aL (cM ρ) l vs
def yT (t : TypeId) (e : Ty) (w : World) (b off cap : Nat) : Prop := e = .int .u8 → ∃ n, w.shape? b = some (t, n) ∧ off + cap ≤ n
def bg (t : TypeId) (M : Mem) (w : World) (e : Ty) (L : List e.T) (r : Value) (F : List Nat) : Prop :=
 ((∃ ao, r = .slice ao 0 0) ∧ L = [] ∧ F = []) ∨
 ∃ b off cap, r = .slice (some ⟨b, off, none⟩) L.length cap ∧ F = [b] ∧ L.length ≤ cap ∧ cap ≤ maxLen ∧
   (∀ j x, L[j]? = some x → aI M e x (fun i => w.cell? ⟨b, off + j * e.size + i, none⟩)) ∧
   (∀ j, j < cap * e.size → (w.cell? ⟨b, off + j, none⟩).isSome = true ∧ w.frozen? ⟨b, off + j, none⟩ = false) ∧ yT t e w b off cap
def ky (tb : TypeId) (ρ : Ev) (w : World) (h : Option (Nat × Nat)) (n : Nat) (x : List Int) (c : Option Value) (F : List Nat) : Prop := match h with
 | none => ∃ v, c = some v ∧ bg tb ρ.M w (.int .i64) x v F
 | some (q, j) => (n = q → (∃ v, c = some v ∧ aK ρ (.hd j 0) v) ∧ F = []) ∧ (n ≠ q → ∃ v, c = some v ∧ bg tb ρ.M w (.int .i64) x v F)
def bR (tb : TypeId) (ρ : Ev) (w : World) (L : List (List Int)) (h : Option (Nat × Nat)) (b : Nat) (F : List Nat) (hdr : Nat → Option Value) : Prop :=
 ∃ blk : Nat → List Nat, (∀ z, z ∈ F ↔ z = b ∨ ∃ n, n < L.length ∧ z ∈ blk n) ∧ (∀ n, n < L.length → b ∉ blk n) ∧ (∀ n m z, n < L.length → m < L.length → n ≠ m → z ∈ blk n → z ∉ blk m) ∧
   ∀ n x, L[n]? = some x → ky tb ρ w h n x (hdr n) (blk n)
def vW : Option (U Int × Nat) → Option (Nat × Nat)
 | none => none
 | some (k, j) => some ((k ()).toNat, j)
def cc (tb : TypeId) (z : Nat) (ρ : Ev) (w : World) (L : List (List Int)) (h : Option (U Int × Nat)) (r : Value) (F : List Nat) : Prop :=
 ∃ b off n cap, r = .slice (some ⟨b, off, none⟩) n cap ∧ L.length = n * z ∧ n ≤ cap ∧ cap ≤ maxLen ∧ bR tb ρ w L (vW h) b F (fun m => w.cell? ⟨b, off + m, none⟩) ∧
   (∀ j, j < cap * z → (w.cell? ⟨b, off + j, none⟩).isSome = true ∧ w.frozen? ⟨b, off + j, none⟩ = false) ∧
   (∀ k j, h = some (k, j) → 0 ≤ k () ∧ k () < L.length)
def mY (tb : TypeId) (ρ : Ev) (w : World) (L : List (Int × List Int)) (h : Option (U Int × Nat)) (r : Value) (F : List Nat) : Prop :=
 ∃ b es clock, r = .pointer (some ⟨b, 0, none⟩) ∧ w.heap[b]? = some (.map es clock) ∧ aL (fun p (m : MapEntry) => m.key = .int .i64 p.1) L es.toList ∧ (es.toList.map (·.born)).Pairwise (· < ·) ∧ (∀ m ∈ es.toList, m.born < clock) ∧
   match h with
   | none => bR tb ρ w (L.map (·.2)) none b F (fun m => es[m]?.map (·.val))
   | some (k, j) => (∃ q x, L[q]? = some (k (), x) ∧ bB (K := Int) L (k ()) = some x ∧ (∀ y, ak (K := Int) L (k ()) y = L.set q (k (), y)) ∧ bR tb ρ w (L.map (·.2)) (some (q, j)) b F (fun m => es[m]?.map (·.val))) ∨
      (bB (K := Int) L (k ()) = none ∧ (∀ y, ak (K := Int) L (k ()) y = L ++ [(k (), y)]) ∧ bR tb ρ w (L.map (·.2)) none b F (fun m => es[m]?.map (·.val)))
def KT.mk : (k : KT) → k.T → Value
 | .int k, n => .int k n
 | .str, l => .string ⟨(l.map fun x => x.toNat.toUInt8).toArray⟩
 | .agg e, x => .agg (e.b8 x).toArray
def dz (M : Mem) (e : Ty) (x : e.T) (v : Value) : Prop :=
 ∃ vs : List Value, vs.length = e.size ∧ aI M e x (fun j => vs[j]?) ∧ match e.agg with | true => v = .agg vs.toArray | false => vs = [v]
def KT.ok : (k : KT) → k.T → Prop
 | .int _, _ => True
 | .str, l => ∀ x ∈ l, 0 ≤ x ∧ x < 256
 | .agg e, x => e.ka = true ∧ e.bW x
def gm (M : Mem) (ks : KT) (e : Ty) (L : List (ks.T × e.T)) (es : List MapEntry) (clock : Nat) : Prop :=
 aL (fun p (m : MapEntry) => m.key = ks.mk p.1 ∧ ks.ok p.1 ∧ dz M e p.2 m.val) L es ∧ (es.map (·.born)).Pairwise (· < ·) ∧ ∀ m ∈ es, m.born < clock
def wB (M : Mem) (ks : KT) (e : Ty) (p : ks.T × e.T) (m : MapEntry) : Prop := m.key = ks.mk p.1 ∧ ks.ok p.1 ∧ dz M e p.2 m.val
def qt (M : Mem) (w : World) (ks : KT) (e : Ty) (L R : List (ks.T × e.T)) (c : Option (U (ks.T × e.T))) (b r : Nat) : Prop :=
 b ≠ r ∧ ∃ es clock since seen, w.heap[b]? = some (.map es clock) ∧ w.heap[r]? = some (.mapIter (some b) since seen clock) ∧ gm M ks e L es.toList clock ∧ (∀ m ∈ es.toList, m.born < since) ∧ since ≤ clock ∧
   aL (wB M ks e) R (leftOf es seen).toList ∧ ∀ p, c = some p → ∃ m seen', m ∈ es.toList ∧ seen = Array.push seen' m.born ∧ wB M ks e (p ()) m
structure mX where
 tb : Option Nat
 ok : World → Prop
 stay : ∀ {w w' : World}, (∀ g, tb = some g → w'.heap[g]? = w.heap[g]?) → ok w → ok w'
def mX.none : mX := ⟨.none, fun _ => True, fun _ _ => trivial⟩
def mX.T (q : mX) (w : World) (own : Nat → Prop) : Prop := q.ok w ∧ ∀ g, q.tb = some g → g < w.heap.size ∧ ¬ own g
theorem mX.T_none (w : World) (own : Nat → Prop) : mX.none.T w own := ⟨trivial, fun g h => by cases h⟩
structure Abs (A : Type) where
 tq : mX
 I : A → Mem → Value → List Nat → World → Prop
 root : ∀ {a M r F w}, I a M r F w → ∃ b, r = .pointer (some ⟨b, 0, none⟩)
 stays : ∀ {a M M' r F w w'}, I a M r F w → (∀ b o v, M b o = some v → M' b o = some v) → (∀ b ∈ F, w'.heap[b]? = w.heap[b]?) → I a M' r F w'
def aQ {A : Type} (AI : Abs A) (ρ : Ev) (w : World) (i : Nat) : Chunk A → Prop
 | .emp => ρ.foot i = [] ∧ ρ.root i = .bool false ∧ ρ.ver i = 0
 | .gone => True
 | .cells t cs => ∃ b vs, ρ.root i = .pointer (some ⟨b, 0, none⟩) ∧ ρ.foot i = [b] ∧ w.heap[b]? = some (.cells vs.toArray t (0, 0)) ∧ aL (aK ρ) cs vs
 | .row t e ver L => ver = ρ.ver i ∧ bg t ρ.M w e (L ()) (ρ.root i) (ρ.foot i)
 | .map ks e L => ∃ b es clock, ρ.root i = .pointer (some ⟨b, 0, none⟩) ∧ ρ.foot i = [b] ∧ w.heap[b]? = some (.map es clock) ∧ gm ρ.M ks e (L ()) es.toList clock
 | .rmap ks e L R c j => ∃ b r, ρ.root i = .pointer (some ⟨b, 0, none⟩) ∧ ρ.root j = .pointer (some ⟨r, 0, none⟩) ∧ ρ.foot i = [b, r] ∧ qt ρ.M w ks e (L ()) (R ()) c b r
 | .itp _ => ρ.foot i = [] ∧ ∃ r, ρ.root i = .pointer (some ⟨r, 0, none⟩)
 | .nest _ tb z ver L h => ver = ρ.ver i ∧ cc tb z ρ w (L ()) h (ρ.root i) (ρ.foot i)
 | .mnest tb L h => mY tb ρ w (L ()) h (ρ.root i) (ρ.foot i)
 | .abs a => AI.I a ρ.M (ρ.root i) (ρ.foot i) w
structure Fr where
 w0 : World
 own : Nat → Prop
 n0 : Nat
 root0 : Nat → Value
 M0 : Mem
 size : Nat
 ver0 : Nat → Nat := fun _ => 0
structure Holds {A : Type} (AI : Abs A) (G : Fr) (s : SS A) (ρ : Ev) (tmps : Array Value) (w : World) : Prop where
 sz : tmps.size = G.size
 gt : AI.tq.T G.w0 G.own
 tm : ∀ t v, look s.tm t = some v → ∃ u, tmps[t]? = some u ∧ Den ρ v u
 ch : ∀ i, aQ AI ρ w i (aC s.H i)
 dis : ∀ i j b, i ≠ j → b ∈ ρ.foot i → b ∉ ρ.foot j
 lt : ∀ i b, b ∈ ρ.foot i → b < w.heap.size
 im : ∀ b o v, ρ.M b o = some v → w.cell? ⟨b, o, none⟩ = some v ∧ ∀ i, b ∉ ρ.foot i
 os : w.os = G.w0.os
 tape : w.tape = G.w0.tape
 output : w.output = G.w0.output
 grow : G.w0.heap.size ≤ w.heap.size
 kept : ∀ b, b < G.w0.heap.size → ¬ G.own b → w.heap[b]? = G.w0.heap[b]?
 fro : ∀ i b, b ∈ ρ.foot i → G.own b ∨ G.w0.heap.size ≤ b
 rt : ∀ i b, i < G.n0 → G.root0 i = .pointer (some ⟨b, 0, none⟩) → ρ.root i = .pointer (some ⟨b, 0, none⟩)
 rts : ∀ i, i < G.n0 → G.ver0 i ≤ ρ.ver i ∧ ∀ ao l c, G.root0 i = .slice ao l c → ρ.ver i = G.ver0 i → ρ.root i = .slice ao l c
 mono : ∀ b o v, G.M0 b o = some v → ρ.M b o = some v
 mfr : ∀ b o v, ρ.M b o = some v → G.M0 b o = some v ∨ G.own b ∨ G.w0.heap.size ≤ b
theorem Holds.gtOf {A : Type} {AI : Abs A} {G : Fr} {s : SS A} {ρ : Ev} {tmps : Array Value} {w : World} (h : Holds AI G s ρ tmps w) {own : Nat → Prop} (ho : ∀ b, own b → ∃ i, b ∈ ρ.foot i) : AI.tq.T w own :=
 ⟨AI.tq.stay (fun g hg => h.kept g (h.gt.2 g hg).1 (h.gt.2 g hg).2) h.gt.1, fun g hg => ⟨Nat.lt_of_lt_of_le (h.gt.2 g hg).1 h.grow, fun hown => by
   obtain ⟨i, hi⟩ := ho g hown
   rcases h.fro i g hi with h1 | h1
   · exact (h.gt.2 g hg).2 h1
   · exact absurd (h.gt.2 g hg).1 (Nat.not_lt.2 h1)⟩⟩
def Sat {A : Type} (AI : Abs A) (G : Fr) (s : SS A) (a : Act) (w : World) : Prop := a.defers = [] ∧ ∃ ρ, Holds AI G s ρ a.tmps w
end Go.Sx
namespace Go.Sx
set_option linter.all false
open Go.RowKit
theorem dX : ∀ (e : Ty) (x : U e.T), (dec e x).length = e.size
 | .int _, _ => rfl
 | .bool, _ => rfl
 | .bytes, _ => rfl
 | .str, _ => rfl
 | .unit, _ => rfl
 | .pair a b, x => by simp [dec, Ty.size, dX a, dX b]
 | .lst _, _ => rfl
theorem aI.dec {ρ : Ev} : ∀ (e : Ty) (x : U e.T) (c : Nat → Option Value), aI ρ.M e (x ()) c → ∃ vs, aL (aK ρ) (dec e x) vs ∧ ∀ (j : Nat) v, vs[j]? = some v → c j = some v
 | .int k, x, c, h => ⟨[.int k (x ())], .cons rfl .nil, fun j v hj => by cases j <;> simp at hj; subst hj; exact h⟩
 | .bool, x, c, h => ⟨[.bool (x ())], .cons rfl .nil, fun j v hj => by cases j <;> simp at hj; subst hj; exact h⟩
 | .bytes, x, c, h => by
   obtain ⟨v, h1, h2⟩ := h
   exact ⟨[v], .cons (e8.1 h2) .nil, fun j u hj => by cases j <;> simp at hj; subst hj; exact h1⟩
 | .str, x, c, h => ⟨[.string ⟨((x ()).map fun (y : Int) => y.toNat.toUInt8).toArray⟩], .cons (a := SV1.str x) (show aK ρ (SV1.str x) _ by simp [aK]) .nil, fun j v hj => by cases j <;> simp at hj; subst hj; exact h⟩
 | .unit, x, c, h => ⟨[], .nil, by simp⟩
 | .lst e, x, c, h => by
   obtain ⟨v, h1, h2⟩ := bn.1 h
   exact ⟨[v], .cons (a := SV1.ro e x) h2 .nil, fun j u hj => by cases j <;> simp at hj; subst hj; exact h1⟩
 | .pair a b, x, c, h => by
   obtain ⟨vs, h1, h2⟩ := aI.dec a (fun _ => (x ()).1) c h.1
   obtain ⟨us, h3, h4⟩ := aI.dec b (fun _ => (x ()).2) _ h.2
   refine ⟨vs ++ us, h1.append h3, fun j v hj => ?_⟩
   have hl : vs.length = a.size := by rw [← h1.length, dX]
   by_cases hjl : j < vs.length
   · rw [List.getElem?_append_left hjl] at hj; exact h2 j v hj
   · rw [List.getElem?_append_right (by omega)] at hj
     have := h4 _ _ hj
     simpa [show a.size + (j - vs.length) = j by omega] using this
theorem aI.congr {M : Mem} : ∀ (e : Ty) {x : e.T} {c c' : Nat → Option Value}, aI M e x c → (∀ j v, j < e.size → c j = some v → c' j = some v) → aI M e x c'
 | .int k, _, _, _, h, hc => hc 0 _ (by simp [Ty.size]) h
 | .bool, _, _, _, h, hc => hc 0 _ (by simp [Ty.size]) h
 | .bytes, _, _, _, h, hc => by obtain ⟨v, h1, h2⟩ := h; exact ⟨v, hc 0 _ (by simp [Ty.size]) h1, h2⟩
 | .str, _, _, _, h, hc => hc 0 _ (by simp [Ty.size]) h
 | .unit, _, _, _, _, _ => trivial
 | .lst e, _, _, _, h, hc => by obtain ⟨v, h1, h2⟩ := bn.1 h; exact bn.2 ⟨v, hc 0 _ (by simp [Ty.size]) h1, h2⟩
 | .pair a b, _, _, _, h, hc => ⟨aI.congr a h.1 fun j v hj => hc j v (by simp [Ty.size]; omega), aI.congr b h.2 fun j v hj => hc (a.size + j) v (by simp [Ty.size]; omega)⟩
theorem ba.mono {M M' : Mem} {e : Ty} {L : List e.T} {v : Value} (h : ba M e L v) (hc : ∀ x c, aI M e x c → aI M' e x c) (hm : ∀ b o v, M b o = some v → M' b o = some v) : ba M' e L v := by
 obtain ⟨ao, cap, h1, h2, h3⟩ := h
 refine ⟨ao, cap, h1, h2, fun hp => ?_⟩
 obtain ⟨b, off, h4, h5⟩ := h3 hp
 exact ⟨b, off, h4, fun j x hj => aI.congr e (hc _ _ (h5 j x hj)) fun _ _ _ h => hm _ _ _ h⟩
theorem aI.mono {M M' : Mem} (hm : ∀ b o v, M b o = some v → M' b o = some v) : ∀ (e : Ty) {x : e.T} {c : Nat → Option Value}, aI M e x c → aI M' e x c
 | .int _, _, _, h => h
 | .bool, _, _, h => h
 | .bytes, _, _, h => by obtain ⟨v, h1, h2⟩ := h; exact ⟨v, h1, e8.2 ((e8.1 h2).mono (fun _ _ h => h) hm)⟩
 | .str, _, _, h => h
 | .unit, _, _, _ => trivial
 | .lst e, _, _, h => by obtain ⟨v, h1, h2⟩ := bn.1 h; exact bn.2 ⟨v, h1, h2.mono (fun _ _ h => aI.mono hm e h) hm⟩
 | .pair a b, _, _, h => ⟨aI.mono hm a h.1, aI.mono hm b h.2⟩
theorem ba.monoM {M M' : Mem} (hm : ∀ b o v, M b o = some v → M' b o = some v) {e : Ty} {L : List e.T} {v : Value} (h : ba M e L v) : ba M' e L v := h.mono (fun _ _ h => aI.mono hm e h) hm
theorem eW : ∀ {e e' : Ty} {f : e.T → e'.T}, bO.castT e e' = some f → ∃ h : e = e', ∀ x, f x = h ▸ x
 | .int k, e', f, h => by
   cases e' <;> (try (simp [bO.castT] at h; done))
   rename_i k'
   simp only [bO.castT] at h
   split at h <;> simp at h
   rename_i hk
   simp at hk
   subst hk; subst h
   exact ⟨rfl, fun _ => rfl⟩
 | .bool, e', f, h => by cases e' <;> (try (simp [bO.castT] at h; done)); simp [bO.castT] at h; subst h; exact ⟨rfl, fun _ => rfl⟩
 | .bytes, e', f, h => by cases e' <;> (try (simp [bO.castT] at h; done)); simp [bO.castT] at h; subst h; exact ⟨rfl, fun _ => rfl⟩
 | .str, e', f, h => by cases e' <;> (try (simp [bO.castT] at h; done)); simp [bO.castT] at h; subst h; exact ⟨rfl, fun _ => rfl⟩
 | .unit, e', f, h => by cases e' <;> (try (simp [bO.castT] at h; done)); exact ⟨rfl, fun _ => rfl⟩
 | .lst a, e', f, h => by
   cases e' <;> (try (simp [bO.castT] at h; done))
   simp only [bO.castT] at h
   split at h <;> simp at h
   rename_i f1 h1
   obtain ⟨rfl, h3⟩ := eW h1
   subst h
   refine ⟨rfl, fun x => ?_⟩
   show List.map f1 x = x
   rw [show f1 = id from funext h3, List.map_id]
 | .pair a b, e', f, h => by
   cases e' <;> (try (simp [bO.castT] at h; done))
   simp only [bO.castT] at h
   split at h
   · rename_i f1 h1
     split at h
     · rename_i g1 h2
       obtain ⟨rfl, h3⟩ := eW h1
       obtain ⟨rfl, h4⟩ := eW h2
       simp at h
       subst h
       exact ⟨rfl, fun x => by simp [h3, h4]⟩
     · cases h
   · cases h
theorem dA {e e' : Ty} {f : List e.T → List e'.T} (h : bO e e' = some f) : ∃ h : e = e', ∀ x, f x = h ▸ x := by
 cases e
 case pair a b =>
  cases e' <;> (try (simp [bO] at h; done))
  simp only [bO] at h
  split at h
  · rename_i f1 h1
    split at h
    · rename_i g1 h2
      obtain ⟨rfl, h3⟩ := eW h1
      obtain ⟨rfl, h4⟩ := eW h2
      simp at h
      subst h
      exact ⟨rfl, fun x => by simp [h3, h4]⟩
    · cases h
  · cases h
 case int k =>
  cases e' <;> (try (simp [bO] at h; done))
  simp only [bO] at h
  split at h <;> simp at h
  rename_i hk
  simp at hk
  subst hk; subst h
  exact ⟨rfl, fun _ => rfl⟩
 case lst a =>
  cases e' <;> (try (simp [bO] at h; done))
  simp only [bO] at h
  split at h
  · rename_i f1 h1
    obtain ⟨rfl, h3⟩ := eW h1
    simp at h
    subst h
    refine ⟨rfl, fun x => ?_⟩
    show List.map (fun y => List.map f1 y) x = x
    have e : (fun y => List.map f1 y) = id := by
     funext y
     rw [show f1 = id from funext h3, List.map_id]; rfl
    rw [e, List.map_id]
  · cases h
 all_goals (cases e' <;> (try (simp [bO] at h; done)); simp [bO] at h; subst h; exact ⟨rfl, fun _ => rfl⟩)
theorem aI.enc {ρ : Ev} : ∀ (e : Ty) {l : List SV1} {y : U e.T} {r : List SV1} {vs : List Value}, enc e l = some (y, r) → aL (aK ρ) l vs →
 ∃ v1 v2, vs = v1 ++ v2 ∧ v1.length = e.size ∧ aI ρ.M e (y ()) (fun j => v1[j]?) ∧ aL (aK ρ) r v2
 | .int k, l, y, r, vs, h, hv => by
   cases hv with
   | nil => simp [Sx.enc] at h
   | @cons a u l vs ha hl =>
     cases a <;> simp only [Sx.enc, reduceCtorEq] at h <;> (split at h <;> simp at h; obtain ⟨rfl, rfl⟩ := h; rename_i hk; simp at hk; subst hk; exact ⟨[u], vs, rfl, rfl, by simpa [aI, aK] using ha, hl⟩)
 | .bool, l, y, r, vs, h, hv => by
   cases hv with
   | nil => simp [Sx.enc] at h
   | @cons a u l vs ha hl =>
     cases a <;> simp only [Sx.enc, reduceCtorEq] at h <;> (simp at h; obtain ⟨rfl, rfl⟩ := h; exact ⟨[u], vs, rfl, rfl, by simpa [aI, aK] using ha, hl⟩)
 | .bytes, l, y, r, vs, h, hv => by
   cases hv with
   | nil => simp [Sx.enc] at h
   | @cons a u l vs ha hl =>
     cases a
     case nilS => simp [Sx.enc] at h; obtain ⟨rfl, rfl⟩ := h; exact ⟨[u], vs, rfl, rfl, ⟨u, rfl, none, 0, by simpa [aK] using ha, by simp, by simp⟩, hl⟩
     case ro e L =>
      cases e
      case int k =>
       cases k <;> simp [Sx.enc] at h
       obtain ⟨rfl, rfl⟩ := h
       exact ⟨[u], vs, rfl, rfl, ⟨u, rfl, e8.2 ha⟩, hl⟩
      all_goals simp [Sx.enc] at h
     all_goals simp [Sx.enc] at h
 | .str, l, y, r, vs, h, hv => by
   cases hv with
   | nil => simp [Sx.enc] at h
   | @cons a u l vs ha hl =>
     cases a <;> simp only [Sx.enc, reduceCtorEq] at h <;> (simp at h; obtain ⟨rfl, rfl⟩ := h; exact ⟨[u], vs, rfl, rfl, by simpa [aI, aK] using ha, hl⟩)
 | .lst e, l, y, r, vs, h, hv => by
   cases hv with
   | nil => simp [Sx.enc] at h
   | @cons a u l vs ha hl =>
     simp only [Sx.enc] at h
     split at h <;> simp at h
     rename_i q hq
     obtain ⟨rfl, rfl⟩ := h
     refine ⟨[u], vs, rfl, rfl, bn.2 ⟨u, rfl, ?_⟩, hl⟩
     unfold yC at hq
     split at hq
     · split at hq <;> cases hq
       rename_i f hf
       obtain ⟨rfl, h1⟩ := dA hf
       dsimp only
       rw [h1]; exact ha
     · cases hq
       exact ⟨none, 0, by simpa [aK] using ha, by simp, by simp⟩
     · cases hq
 | .unit, l, y, r, vs, h, hv => by simp [Sx.enc] at h; obtain ⟨rfl, rfl⟩ := h; exact ⟨[], vs, rfl, rfl, trivial, hv⟩
 | .pair a b, l, y, r, vs, h, hv => by
   simp only [Sx.enc] at h
   split at h
   · rename_i x r1 hx
     split at h
     · rename_i y1 r2 hy
       simp at h
       obtain ⟨rfl, rfl⟩ := h
       obtain ⟨v1, v2, rfl, l1, c1, d1⟩ := aI.enc a hx hv
       obtain ⟨v3, v4, rfl, l2, c2, d2⟩ := aI.enc b hy d1
       refine ⟨v1 ++ v3, v4, by simp, by simp [Ty.size, l1, l2], ⟨aI.congr a c1 fun j v hj h => ?_, aI.congr b c2 fun j v hj h => ?_⟩, d2⟩
       · simp only [List.getElem?_append_left (show j < v1.length by omega)]; exact h
       · simp only [List.getElem?_append_right (show v1.length ≤ a.size + j by omega), show a.size + j - v1.length = j by omega]; exact h
     · cases h
   · cases h
def ZeroOk (T : Ty) (z : Value) : Prop := z.cells.size = T.size ∧ ∀ M, aI M T T.cY (fun j => z.cells.toList[j]?)
def uD (P : Program) (k : TypeId) (e : Ty) : Prop :=
 (match P.underlying k with | some (.array _ _) | some (.struct _) => true | _ => false) = true ∧
 (∀ x y : e.T, e.bW x → e.bW y → ∀ w, (Op.equal k (.agg (e.b8 x).toArray) (.agg (e.b8 y).toArray)).run P w = .ok (@decide (x = y) (e.dec x y)) w) ∧
 (∀ x : e.T, e.bW x → ∀ em w, (Instr.checkKey em 10000 k (.agg (e.b8 x).toArray)).run P w = .ok () w) ∧
 ∀ x : e.T, e.bW x → ∀ w, (Instr.keyThatStays (.agg (e.b8 x).toArray) (.agg (e.b8 x).toArray)).run P w = .ok (.agg (e.b8 x).toArray) w
def KeyOk (P : Program) (k : TypeId) : KT → Prop
 | .int kk => P.underlying k = some (.int kk)
 | .str => P.underlying k = some .string
 | .agg e => uD P k e
def jO (P : Program) (t : TypeId) : TK → Prop
 | .int k => P.underlying t = some (.int k)
 | .bool => P.underlying t = some .bool
 | .str => P.underlying t = some .string
 | .struct offs => ∃ fs : Array Field, P.underlying t = some (.struct fs) ∧ aL (fun (p : Nat × Nat) (f : Field) => f.offset = p.1 ∧ ∃ g, P.info? f.type = some g ∧ g.size = p.2) offs fs.toList
 | .slice e ty => P.underlying t = some (.slice e) ∧ ∃ g, P.info? e = some g ∧ ∀ T, ty = some T → g.size = T.size ∧ 0 < g.size ∧ g.bytes ≤ 128 ∧ (∀ k, T = .int k → P.underlying e = some (.int k)) ∧ ∃ z, g.zero = some z ∧ ZeroOk T z
 | .array n e => P.underlying t = some (.array n e) ∧ ∃ g, P.info? e = some g
 | .ptr e => P.underlying t = some (.pointer e)
 | .map k e ty => P.underlying t = some (.map k e) ∧ ∀ ks T, ty = some (ks, T) → KeyOk P k ks ∧ ∃ g z, P.info? e = some g ∧ g.zero = some z ∧ ∀ M, dz M T T.cY z
 | .other => ∃ d, P.underlying t = some d ∧ ∀ x, d ≠ .struct x ∧ ∀ n e, d ≠ .array n e
def oQ : List Value → List Value → Bool
 | .int _ a :: l, .int _ b :: m => a == b && oQ l m
 | [], [] => true
 | _, _ => false
def EqOk (P : Program) (t : TypeId) (n : Nat) : Prop := P.eqGuardType P.depth t = false ∧
 ∀ (w : World) (vs us : List Value), vs.length = n → aL (fun v u => ∃ k a b, v = .int k a ∧ u = .int k b) vs us → (Op.equalIn 10000 t (.agg vs.toArray) (.agg us.toArray)).run P w = .ok (oQ vs us) w
structure af (P : Program) (t : TypeId) (i : TI) : Prop where
 info : ∃ f, P.info? t = some f ∧ f.size = i.size ∧ ∃ z, f.zero = some z ∧ i.zero = z.cells.toList.map cy
 kind : jO P t i.kind
 eq : i.bytes = 1 → EqOk P t i.size
def rN (P : Program) (ti : List (Nat × TI)) : Prop := ∀ t i, look ti t = some i → af P t i
theorem af.isAgg {P : Program} {t : TypeId} {i : TI} (h : af P t i) (w : World) : (Go.isAgg t).run P w = .ok i.isAgg w := by
 have hk := h.kind
 unfold Go.isAgg TI.isAgg
 cases hi : i.kind <;> rw [hi] at hk <;> simp only [jO] at hk
 case struct => obtain ⟨fs, h1, _⟩ := hk; simp [run_underlying h1]
 case slice => simp [run_underlying hk.1]
 case map => simp [run_underlying hk.1]
 case array => simp [run_underlying hk.1]
 case other => obtain ⟨d, h1, h2⟩ := hk; have := h2 #[]; cases d <;> simp_all [run_underlying h1]
 all_goals simp [run_underlying hk]
theorem af.sizeOf {P : Program} {t : TypeId} {i : TI} (h : af P t i) (w : World) : (Go.sizeOf t).run P w = .ok i.size w := by
 obtain ⟨f, h1, h2, _⟩ := h.info
 simp [Go.sizeOf, typeInfo, h1, h2]
end Go.Sx
namespace Go.Sx
set_option linter.all false
open Go.RowKit
structure Ev.Le (ρ ρ' : Ev) : Prop where
 M : ∀ b o v, ρ.M b o = some v → ρ'.M b o = some v
 ptr : ∀ i b, ρ.root i = .pointer (some ⟨b, 0, none⟩) → ρ'.root i = .pointer (some ⟨b, 0, none⟩)
 ver : ∀ i, ρ.ver i ≤ ρ'.ver i
 same : ∀ i, ρ.ver i = ρ'.ver i → (∃ ao l c, ρ.root i = .slice ao l c) → ρ'.root i = ρ.root i
theorem Ev.Le.refl (ρ : Ev) : Ev.Le ρ ρ := ⟨fun _ _ _ h => h, fun _ _ h => h, fun _ => Nat.le_refl _, fun _ _ _ => rfl⟩
theorem aK.mono {ρ ρ' : Ev} (le : ρ.Le ρ') {x : SV1} {v : Value} (h : aK ρ x v) : aK ρ' x v := by
 cases x <;> simp only [aK] at h ⊢ <;> try exact h
 case ptr i off => obtain ⟨b, h1, h2⟩ := h; exact ⟨b, le.ptr i b h1, h2⟩
 case mp i => obtain ⟨b, h1, h2⟩ := h; exact ⟨b, le.ptr i b h1, h2⟩
 case fnc f l => obtain ⟨vs, h1, h2⟩ := h; exact ⟨vs, h1, h2.mono fun i u ⟨b, h3, h4⟩ => ⟨b, le.ptr i b h3, h4⟩⟩
 case ro e L => exact h.monoM le.M
 case hd i ver =>
  obtain ⟨h1, h2, h3⟩ := h
  refine ⟨h1, Nat.le_trans h2 (le.ver i), fun e => ?_⟩
  have e1 : ρ.ver i = ρ'.ver i := Nat.le_antisymm (le.ver i) (e ▸ h2)
  have e2 := h3 (by omega)
  rw [e2, le.same i e1 (by rw [← e2]; exact h1)]
 case vw i ver esz lo n =>
  obtain ⟨h1, h0, h2, h3⟩ := h
  refine ⟨h1, h0, Nat.le_trans h2 (le.ver i), fun e => ?_⟩
  have e1 : ρ.ver i = ρ'.ver i := Nat.le_antisymm (le.ver i) (e ▸ h2)
  have e2 := h3 (by omega)
  obtain ⟨ao, len, cap, e3, _⟩ := id e2
  rw [le.same i e1 ⟨_, _, _, e3⟩]; exact e2
 case ep i ver esz k off =>
  obtain ⟨p, h1, h2, h3⟩ := h
  refine ⟨p, h1, Nat.le_trans h2 (le.ver i), fun e => ?_⟩
  have e1 : ρ.ver i = ρ'.ver i := Nat.le_antisymm (le.ver i) (e ▸ h2)
  obtain ⟨h4, b, o, len, cap, e3, e4⟩ := h3 (by omega)
  exact ⟨h4, b, o, len, cap, by rw [le.same i e1 ⟨_, _, _, e3⟩]; exact e3, e4⟩
 case rp e L k off =>
  obtain ⟨b, o, h1, h2, h3, h4⟩ := h
  exact ⟨b, o, h1, h2, h3, fun x hx => aI.congr e (aI.mono le.M e (h4 x hx)) fun _ _ _ h => le.M _ _ _ h⟩
theorem cM.mono {ρ ρ' : Ev} (le : ρ.Le ρ') {x : SV2} {v : Value} (h : cM ρ x v) : cM ρ' x v := by
 cases x with
 | one x => exact aK.mono le h
 | agg l => obtain ⟨vs, h1, h2⟩ := h; exact ⟨vs, h1, h2.mono fun _ _ => aK.mono le⟩
 | fn f l => obtain ⟨vs, h1, h2⟩ := h; exact ⟨vs, h1, h2.mono fun _ _ => aK.mono le⟩
theorem Den.mono {ρ ρ' : Ev} (le : ρ.Le ρ') {x : SV} {v : Value} (h : Den ρ x v) : Den ρ' x v := by
 cases x with
 | val x => exact cM.mono le h
 | tup l => obtain ⟨vs, h1, h2⟩ := h; exact ⟨vs, h1, h2.mono fun _ _ => cM.mono le⟩
theorem dY {w w' : World} {b : Nat} (h : w'.heap[b]? = w.heap[b]?) (o : Nat) : w'.cell? ⟨b, o, none⟩ = w.cell? ⟨b, o, none⟩ := World.cell?_of_block (w := w) h
theorem mA {w w' : World} {b : Nat} (h : w'.heap[b]? = w.heap[b]?) (o : Nat) : w'.frozen? ⟨b, o, none⟩ = w.frozen? ⟨b, o, none⟩ := World.frozen?_of_block (w := w) h
theorem ub {w w' : World} {b : Nat} (h : w'.heap[b]? = w.heap[b]?) : w'.shape? b = w.shape? b := by simp [World.shape?, h]
theorem yT.stays {t : TypeId} {e : Ty} {w w' : World} {b off cap : Nat} (h : yT t e w b off cap) (hb : w'.shape? b = w.shape? b) : yT t e w' b off cap := fun he => by
 obtain ⟨n, h1, h2⟩ := h he; exact ⟨n, hb.trans h1, h2⟩
theorem bg.stays {t : TypeId} {M M' : Mem} {w w' : World} {e : Ty} {L : List e.T} {r : Value} {F : List Nat} (h : bg t M w e L r F) (hm : ∀ b o v, M b o = some v → M' b o = some v) (hb : ∀ b ∈ F, w'.heap[b]? = w.heap[b]?) : bg t M' w' e L r F := by
 rcases h with h | ⟨b, off, cap, rfl, rfl, h1, h2, h3, h4, h5⟩
 · exact .inl h
 · have e := hb b (by simp)
   refine .inr ⟨b, off, cap, rfl, rfl, h1, h2, fun j x hj => ?_, fun j hj => ?_, h5.stays (ub e)⟩
   · have := aI.mono hm _ (h3 j x hj)
     simpa only [dY e] using this
   · rw [dY e, mA e]; exact h4 j hj
theorem dz.mono {M M' : Mem} (hm : ∀ b o v, M b o = some v → M' b o = some v) {e : Ty} {x : e.T} {v : Value} (h : dz M e x v) : dz M' e x v := by
 obtain ⟨vs, h1, h2, h3⟩ := h; exact ⟨vs, h1, aI.mono hm e h2, h3⟩
theorem gm.mono {M M' : Mem} (hm : ∀ b o v, M b o = some v → M' b o = some v) {ks : KT} {e : Ty} {L : List (ks.T × e.T)} {es : List MapEntry} {clock : Nat} (h : gm M ks e L es clock) : gm M' ks e L es clock :=
 ⟨h.1.mono fun _ _ h => ⟨h.1, h.2.1, h.2.2.mono hm⟩, h.2⟩
theorem wB.mono {M M' : Mem} (hm : ∀ b o v, M b o = some v → M' b o = some v) {ks : KT} {e : Ty} {p : ks.T × e.T} {m : MapEntry} (h : wB M ks e p m) : wB M' ks e p m := ⟨h.1, h.2.1, h.2.2.mono hm⟩
theorem qt.mono {M M' : Mem} (hm : ∀ b o v, M b o = some v → M' b o = some v) {w w' : World} {ks : KT} {e : Ty} {L R : List (ks.T × e.T)} {c : Option (U (ks.T × e.T))} {b r : Nat} (h : qt M w ks e L R c b r) (h1 : w'.heap[b]? = w.heap[b]?) (h2 : w'.heap[r]? = w.heap[r]?) : qt M' w' ks e L R c b r := by
 obtain ⟨h0, es, clock, since, seen, a1, a2, a3, a4, a5, a6, a7⟩ := h
 refine ⟨h0, es, clock, since, seen, h1.trans a1, h2.trans a2, a3.mono hm, a4, a5, a6.mono fun _ _ h => h.mono hm, fun p hp => ?_⟩
 obtain ⟨m, seen', b1, b2, b3⟩ := a7 p hp
 exact ⟨m, seen', b1, b2, b3.mono hm⟩
theorem ky.congr {tb : TypeId} {ρ ρ' : Ev} {w w' : World} {h : Option (Nat × Nat)} {n : Nat} {x : List Int} {c : Option Value} {F : List Nat} (hs : ky tb ρ w h n x c F) (hm : ∀ b o v, ρ.M b o = some v → ρ'.M b o = some v) (hd : ∀ q j, h = some (q, j) → ∀ v, aK ρ (.hd j 0) v → aK ρ' (.hd j 0) v) (hb : ∀ b ∈ F, w'.heap[b]? = w.heap[b]?) : ky tb ρ' w' h n x c F := by
 cases h with
 | none => obtain ⟨v, h1, h2⟩ := hs; exact ⟨v, h1, h2.stays hm hb⟩
 | some q =>
   obtain ⟨k, j⟩ := q
   refine ⟨fun e => ?_, fun e => ?_⟩
   · obtain ⟨⟨v, h3, h4⟩, h5⟩ := hs.1 e; exact ⟨⟨v, h3, hd k j rfl v h4⟩, h5⟩
   · obtain ⟨v, h1, h2⟩ := hs.2 e; exact ⟨v, h1, h2.stays hm hb⟩
theorem bR.congr {tb : TypeId} {ρ ρ' : Ev} {w w' : World} {L : List (List Int)} {h : Option (Nat × Nat)} {b : Nat} {F : List Nat} {hdr hdr' : Nat → Option Value} (hs : bR tb ρ w L h b F hdr) (hm : ∀ b o v, ρ.M b o = some v → ρ'.M b o = some v)
 (hd : ∀ q j, h = some (q, j) → ∀ v, aK ρ (.hd j 0) v → aK ρ' (.hd j 0) v) (hh : ∀ n, n < L.length → hdr' n = hdr n) (hb : ∀ z ∈ F, z ≠ b → w'.heap[z]? = w.heap[z]?) : bR tb ρ' w' L h b F hdr' := by
 obtain ⟨blk, h4, h5, h6, h7⟩ := hs
 refine ⟨blk, h4, h5, h6, fun n x hn => ?_⟩
 have hlt := (List.getElem?_eq_some_iff.1 hn).1
 rw [hh n hlt]
 exact (h7 n x hn).congr hm hd fun z hz => hb z ((h4 z).2 (.inr ⟨n, hlt, hz⟩)) fun e => h5 n hlt (e ▸ hz)
theorem bR.own {tb : TypeId} {ρ : Ev} {w : World} {L : List (List Int)} {h : Option (Nat × Nat)} {b : Nat} {F : List Nat} {hdr : Nat → Option Value} (hs : bR tb ρ w L h b F hdr) : b ∈ F := by
 obtain ⟨blk, h4, _⟩ := hs; exact (h4 b).2 (.inl rfl)
theorem cc.stays {tb : TypeId} {z : Nat} {ρ ρ' : Ev} {w w' : World} {L : List (List Int)} {h : Option (U Int × Nat)} {r : Value} {F : List Nat} (hs : cc tb z ρ w L h r F) (le : ρ.Le ρ') (hb : ∀ b ∈ F, w'.heap[b]? = w.heap[b]?) : cc tb z ρ' w' L h r F := by
 obtain ⟨b, off, n, cap, h1, h2, h3, h4, h5, h6, h7⟩ := hs
 have e := hb b h5.own
 exact ⟨b, off, n, cap, h1, h2, h3, h4, h5.congr le.M (fun _ _ _ _ hv => hv.mono le) (fun _ _ => dY e _) fun z hz _ => hb z hz, fun j hj => by rw [dY e, mA e]; exact h6 j hj, h7⟩
theorem cc.kn {tb : TypeId} {z : Nat} {ρ ρ' : Ev} {w : World} {L : List (List Int)} {r : Value} {F : List Nat} (hM : ρ'.M = ρ.M) (hs : cc tb z ρ w L none r F) : cc tb z ρ' w L none r F := by
 obtain ⟨b, off, n, cap, h1, h2, h3, h4, h5, h6, h7⟩ := hs
 exact ⟨b, off, n, cap, h1, h2, h3, h4, h5.congr (fun _ _ _ h => by rw [hM]; exact h) (fun _ _ e => by cases e) (fun _ _ => rfl) fun _ _ _ => rfl, h6, h7⟩
theorem cc.bt {tb : TypeId} {z : Nat} {ρ ρ' : Ev} {w : World} {L : List (List Int)} {k k' : U Int} {j : Nat} {r : Value} {F : List Nat} (hM : ρ'.M = ρ.M) (hk : k () = k' ()) (hd : ∀ v, aK ρ (.hd j 0) v → aK ρ' (.hd j 0) v) (hs : cc tb z ρ w L (some (k, j)) r F) : cc tb z ρ' w L (some (k', j)) r F := by
 obtain ⟨b, off, n, cap, h1, h2, h3, h4, h5, h6, h7⟩ := hs
 refine ⟨b, off, n, cap, h1, h2, h3, h4, ?_, h6, fun q i e => by cases e; rw [← hk]; exact h7 _ _ rfl⟩
 have : vW (some (k', j)) = vW (some (k, j)) := by simp only [vW, hk]
 rw [this]
 exact h5.congr (fun _ _ _ h => by rw [hM]; exact h) (fun _ _ e v hv => by cases e; exact hd v hv) (fun _ _ => rfl) fun _ _ _ => rfl
theorem mY.kN {tb : TypeId} {ρ ρ' : Ev} {w w' : World} {L : List (Int × List Int)} {h : Option (U Int × Nat)} {r : Value} {F : List Nat} (hs : mY tb ρ w L h r F) (hm : ∀ b o v, ρ.M b o = some v → ρ'.M b o = some v) (hd : ∀ k j, h = some (k, j) → ∀ v, aK ρ (.hd j 0) v → aK ρ' (.hd j 0) v) (hb : ∀ b ∈ F, w'.heap[b]? = w.heap[b]?) : mY tb ρ' w' L h r F := by
 obtain ⟨b, es, clock, h1, h2, h3, h4, h5, h6⟩ := hs
 have own : b ∈ F := by
  cases h with
  | none => exact h6.own
  | some p => rcases h6 with ⟨q, x, _, _, _, h7⟩ | ⟨_, _, h7⟩ <;> exact h7.own
 refine ⟨b, es, clock, h1, (hb b own).trans h2, h3, h4, h5, ?_⟩
 cases h with
 | none => exact h6.congr hm (fun _ _ e => by cases e) (fun _ _ => rfl) fun z hz _ => hb z hz
 | some p =>
   obtain ⟨k, j⟩ := p
   rcases h6 with ⟨q, x, a1, a2, a3, h7⟩ | ⟨a1, a2, h7⟩
   · exact .inl ⟨q, x, a1, a2, a3, h7.congr hm (fun _ _ e v hv => by cases e; exact hd k j rfl v hv) (fun _ _ => rfl) fun z hz _ => hb z hz⟩
   · exact .inr ⟨a1, a2, h7.congr hm (fun _ _ e => by cases e) (fun _ _ => rfl) fun z hz _ => hb z hz⟩
theorem mY.stays {tb : TypeId} {ρ ρ' : Ev} {w w' : World} {L : List (Int × List Int)} {h : Option (U Int × Nat)} {r : Value} {F : List Nat} (hs : mY tb ρ w L h r F) (le : ρ.Le ρ') (hb : ∀ b ∈ F, w'.heap[b]? = w.heap[b]?) : mY tb ρ' w' L h r F :=
 hs.kN le.M (fun _ _ _ _ hv => hv.mono le) hb
theorem aQ.stays {A : Type} {AI : Abs A} {ρ ρ' : Ev} {w w' : World} {i : Nat} {c : Chunk A} (h : aQ AI ρ w i c) (le : ρ.Le ρ')
 (hr : ρ'.root i = ρ.root i) (hv : ρ'.ver i = ρ.ver i) (hf : ρ'.foot i = ρ.foot i) (hb : ∀ b ∈ ρ.foot i, w'.heap[b]? = w.heap[b]?) : aQ AI ρ' w' i c := by
 cases c with
 | emp => simp only [aQ] at h ⊢; rw [hf, hr, hv]; exact h
 | gone => trivial
 | cells t cs =>
   obtain ⟨b, vs, h1, h2, h3, h4⟩ := h
   exact ⟨b, vs, hr.trans h1, hf.trans h2, (hb b (by simp [h2])).trans h3, h4.mono fun _ _ => aK.mono le⟩
 | row t e ver L =>
   obtain ⟨h1, h2⟩ := h
   refine ⟨h1.trans hv.symm, ?_⟩
   rw [hr, hf]
   exact h2.stays le.M hb
 | map ks e L =>
   obtain ⟨b, es, clock, h1, h2, h3, h4⟩ := h
   exact ⟨b, es, clock, hr.trans h1, hf.trans h2, (hb b (by simp [h2])).trans h3, h4.mono le.M⟩
 | rmap ks e L R c j =>
   obtain ⟨b, r, h1, h2, h3, h4⟩ := h
   exact ⟨b, r, hr.trans h1, le.ptr j r h2, hf.trans h3, h4.mono le.M (hb b (by simp [h3])) (hb r (by simp [h3]))⟩
 | itp q => obtain ⟨h1, r, h2⟩ := h; exact ⟨hf.trans h1, r, hr.trans h2⟩
 | nest t tb z ver L q => obtain ⟨h1, h2⟩ := h; exact ⟨h1.trans hv.symm, by rw [hr, hf]; exact h2.stays le hb⟩
 | mnest tb L q => simp only [aQ] at h ⊢; rw [hr, hf]; exact h.stays le hb
 | abs a =>
   simp only [aQ] at h ⊢
   rw [hr, hf]
   exact AI.stays h le.M hb
theorem Holds.step {A : Type} {AI : Abs A} {G : Fr} {s : SS A} {ρ ρ' : Ev} {tmps : Array Value} {w w' : World} {H' : List (Chunk A)} (h : Holds AI G s ρ tmps w) (S : Nat → Prop)
 (le : ρ.Le ρ') (hM : ρ'.M = ρ.M)
 (same : ∀ i, ¬ S i → ρ'.root i = ρ.root i ∧ ρ'.ver i = ρ.ver i ∧ ρ'.foot i = ρ.foot i ∧ aC H' i = aC s.H i)
 (foot : ∀ i, S i → ∀ b ∈ ρ'.foot i, ((∃ k, S k ∧ b ∈ ρ.foot k) ∨ w.heap.size ≤ b) ∧ b < w'.heap.size)
 (disS : ∀ i j b, S i → S j → i ≠ j → b ∈ ρ'.foot i → b ∉ ρ'.foot j)
 (blocks : ∀ b, b < w.heap.size → (∀ i, S i → b ∉ ρ.foot i) → w'.heap[b]? = w.heap[b]?)
 (os : w'.os = w.os) (tape : w'.tape = w.tape) (output : w'.output = w.output) (size : w.heap.size ≤ w'.heap.size)
 (chS : ∀ i, S i → aQ AI ρ' w' i (aC H' i)) : Holds AI G ⟨s.tm, H'⟩ ρ' tmps w' := by
 have hS : ∀ i, S i ∨ ¬ S i := fun i => Classical.em _
 have nodis : ∀ i j b, ¬ S i → S j → b ∈ ρ.foot i → b ∉ ρ'.foot j := by
  intro i j b hi hj hb hb'
  rcases (foot j hj b hb').1 with ⟨k, hk, hbk⟩ | hge
  · exact h.dis k i b (fun e => hi (e ▸ hk)) hbk hb
  · have := h.lt i b hb; omega
 have fblk : ∀ i, ¬ S i → ∀ b ∈ ρ.foot i, w'.heap[b]? = w.heap[b]? := fun i hi b hb => blocks b (h.lt i b hb) fun k hk hbk => h.dis k i b (fun e => hi (e ▸ hk)) hbk hb
 refine ⟨h.sz, h.gt, fun t v ht => ?_, fun i => ?_, fun i j b hij hi hj => ?_, fun i b hb => ?_, fun b o v hm => ?_, os.trans h.os, tape.trans h.tape, output.trans h.output, Nat.le_trans h.grow size, fun b hb hn => ?_, fun i b hb => ?_, fun i b hi hb => le.ptr i b (h.rt i b hi hb), fun i hi => ?_, fun b o v hm => hM ▸ h.mono b o v hm, fun b o v hm => h.mfr b o v (hM ▸ hm)⟩
 · obtain ⟨u, h1, h2⟩ := h.tm t v ht; exact ⟨u, h1, h2.mono le⟩
 · rcases hS i with hi | hi
   · exact chS i hi
   · obtain ⟨e1, e2, e3, e4⟩ := same i hi
     show aQ AI ρ' w' i (aC H' i)
     rw [e4]
     exact (h.ch i).stays le e1 e2 e3 (fblk i hi)
 · rcases hS i with si | si <;> rcases hS j with sj | sj
   · exact disS i j b si sj hij hi hj
   · rw [(same j sj).2.2.1] at hj; exact nodis j i b sj si hj hi
   · rw [(same i si).2.2.1] at hi; exact nodis i j b si sj hi hj
   · rw [(same i si).2.2.1] at hi; rw [(same j sj).2.2.1] at hj; exact h.dis i j b hij hi hj
 · rcases hS i with si | si
   · exact (foot i si b hb).2
   · rw [(same i si).2.2.1] at hb; exact Nat.lt_of_lt_of_le (h.lt i b hb) size
 · rw [hM] at hm
   obtain ⟨h1, h2⟩ := h.im b o v hm
   have hlt : b < w.heap.size := World.block_lt_of_cell? w ⟨b, o, none⟩ h1
   refine ⟨(dY (blocks b hlt fun k _ => h2 k) o).trans h1, fun i hb => ?_⟩
   rcases hS i with si | si
   · rcases (foot i si b hb).1 with ⟨k, _, hk⟩ | hge
     · exact h2 k hk
     · omega
   · rw [(same i si).2.2.1] at hb; exact h2 i hb
 · refine (blocks b (Nat.lt_of_lt_of_le hb h.grow) fun k hk hbk => ?_).trans (h.kept b hb hn)
   rcases h.fro k b hbk with h1 | h1
   · exact hn h1
   · omega
 · rcases hS i with si | si
   · rcases (foot i si b hb).1 with ⟨k, _, hk⟩ | hge
     · exact h.fro k b hk
     · exact .inr (Nat.le_trans h.grow hge)
   · rw [(same i si).2.2.1] at hb; exact h.fro i b hb
 · obtain ⟨hv0, hs⟩ := h.rts i hi
   refine ⟨Nat.le_trans hv0 (le.ver i), fun ao l c hb hv => ?_⟩
   have h0 : ρ.ver i = G.ver0 i := Nat.le_antisymm (hv ▸ le.ver i) hv0
   have h1 := hs ao l c hb h0
   rw [le.same i (by rw [h0, hv]) ⟨_, _, _, h1⟩]; exact h1
theorem Holds.bt {A : Type} {AI : Abs A} {G : Fr} {s : SS A} {ρ : Ev} {tmps : Array Value} {w : World} {H' : List (Chunk A)} (h : Holds AI G s ρ tmps w) (e : ∀ i, aC H' i = aC s.H i) : Holds AI G ⟨s.tm, H'⟩ ρ tmps w :=
 ⟨h.sz, h.gt, h.tm, fun i => by show aQ AI ρ w i (aC H' i); rw [e]; exact h.ch i, h.dis, h.lt, h.im, h.os, h.tape, h.output, h.grow, h.kept, h.fro, h.rt, h.rts, h.mono, h.mfr⟩
theorem aP {A : Type} : ∀ (H : List (Chunk A)) (i j : Nat) (c : Chunk A), aC (bX H i c) j = if j = i then c else aC H j
 | [], 0, 0, c => rfl
 | [], 0, j + 1, c => by simp [aC, bX, nth]
 | [], i + 1, 0, c => by simp [aC, bX, nth]
 | [], i + 1, j + 1, c => by
   have := aP [] i j c
   simp only [aC, bX, nth] at this ⊢
   simpa using this
 | x :: r, 0, 0, c => rfl
 | x :: r, 0, j + 1, c => by simp [aC, bX, nth]
 | x :: r, i + 1, 0, c => by simp [aC, bX, nth]
 | x :: r, i + 1, j + 1, c => by
   have := aP r i j c
   simp only [aC, bX, nth] at this ⊢
   simpa using this
theorem rm {A : Type} (H : List (Chunk A)) (i j : Nat) : aC (bX H i (aC H i)) j = aC H j := by
 rw [aP]; split
 · rename_i h; rw [h]
 · rfl
theorem cw {A : Type} : ∀ (ids : List Nat) (H H0 : List (Chunk A)), (∀ j, aC H j = aC H0 j) → ∀ j, aC (aO H ids (aD H0 ids)) j = aC H0 j
 | [], _, _, h, j => by simpa [aO, aD] using h j
 | i :: r, H, H0, h, j => by
   simp only [aO, aD]
   exact cw r (bX H i (aC H0 i)) H0 (fun k => by rw [← h i, rm, h k]) j
theorem Holds.put {A : Type} {AI : Abs A} {G : Fr} {s : SS A} {ρ : Ev} {a : Act} {w : World} (h : Holds AI G s ρ a.tmps w) {dst : Option Tmp} {v : SV} {u : Value} (hd : ∀ t, dst = some t → t < G.size) (hv : Den ρ v u) :
 Holds AI G ⟨jz s.tm dst v, s.H⟩ ρ (a.put dst u).tmps w := by
 cases dst with
 | none => exact h
 | some t =>
   have hlt := hd t rfl
   refine ⟨by simp [Act.put, h.sz], h.gt, fun k x hk => ?_, h.ch, h.dis, h.lt, h.im, h.os, h.tape, h.output, h.grow, h.kept, h.fro, h.rt, h.rts, h.mono, h.mfr⟩
   simp only [jz, look] at hk
   by_cases e : t = k
   · subst e
     simp at hk
     subst hk
     exact ⟨u, by simp [Act.put, h.sz, hlt], hv⟩
   · rw [show aG t k = false by cases hb : aG t k; rfl; exact absurd (ad.1 hb) e] at hk
     obtain ⟨y, h1, h2⟩ := h.tm k x hk
     exact ⟨y, by simp only [Act.put, Array.getElem?_setIfInBounds]; rw [if_neg e]; exact h1, h2⟩
theorem Act.cv (a : Act) (dst : Option Tmp) (u : Value) : (a.put dst u).defers = a.defers := by cases dst <;> rfl
end Go.Sx
namespace Go.Sx
set_option linter.all false
open Go.RowKit
variable {A : Type} {AI : Abs A} {G : Fr} {s : SS A} {ρ : Ev} {a : Act} {w : World} {P : Program}
theorem beq_eq {a b : Nat} (h : aG a b = true) : a = b := ad.1 h
theorem aK.cy (x : Value) : aK ρ (cy x) x := by
 cases x <;> simp only [Sx.cy] <;> try rfl
 case string s =>
  simp only [aK, Value.string.injEq]
  cases s with
  | mk d =>
    congr 1
    apply Array.ext'
    have e : ((fun x : Int => UInt8.ofNat x.toNat) ∘ fun x : UInt8 => (x.toNat : Int)) = id := by funext x; simp
    simp [e]
 case pointer p => cases p <;> rfl
 case slice p l c =>
  split
  all_goals first | (rename_i h; cases h; done) | (simp [aK]; done) | simp_all [aK]
theorem aL.map {α β : Type} {R : α → β → Prop} (f : β → α) (h : ∀ b, R (f b) b) : ∀ l : List β, aL R (l.map f) l
 | [] => .nil
 | x :: r => .cons (h x) (aL.map f h r)
theorem Den.pV (x : Value) : Den ρ (pV x) x := by
 unfold Sx.pV
 split
 · rename_i cs
   exact ⟨cs.toList, by simp, aL.map _ aK.cy _⟩
 · exact aK.cy _
theorem Holds.eval (h : Holds AI G s ρ a.tmps w) {x : Operand} {v : SV} (hx : evalOp s.tm x = some v) : Den ρ v (a.eval x) := by
 cases x with
 | tmp t =>
   obtain ⟨u, h1, h2⟩ := h.tm t v hx
   have : a.eval (.tmp t) = u := by simp [Act.eval, h1]
   rw [this]; exact h2
 | const c => cases hx; exact Den.pV c
 | global g => cases hx
 | func f => cases hx; exact ⟨[], rfl, .nil⟩
theorem Holds.Bk (h : Holds AI G s ρ a.tmps w) : ∀ {xs : List Operand} {vs : List SV}, cn s.tm xs = some vs → aL (Den ρ) vs (xs.map a.eval)
 | [], vs, hx => by cases hx; exact .nil
 | x :: r, vs, hx => by
   simp only [cn] at hx
   split at hx
   · rename_i v hv
     split at hx
     · rename_i us hu
       cases hx
       exact .cons (h.eval hv) (h.Bk hu)
     · cases hx
   · cases hx
theorem wrap_i64 {n : Int} (h : b5 n) : IntKind.i64.wrap n = n := IntWalk.i64_in n h
theorem wrap_u64 {n : Int} (h : 0 ≤ n ∧ n < 18446744073709551616) : IntKind.u64.wrap n = n := by simp [IntKind.wrap, IntKind.bits, IntKind.signed]; omega
theorem jA {x : SV1} {k : IntKind} {n : U Int} (h : qD x = some (k, n)) {u : Value} (hu : aK ρ x u) : u = .int k (n ()) := by
 cases x <;> simp [qD] at h <;> obtain ⟨rfl, rfl⟩ := h <;> exact hu
theorem bF {x : SV} {k : IntKind} {n : U Int} (h : cH x = some (k, n)) {u : Value} (hu : Den ρ x u) : u = .int k (n ()) := by
 cases x with
 | tup l => cases h
 | val x =>
   cases x with
   | one x => exact jA h hu
   | agg l => cases h
   | fn f l => cases h
theorem vo {x : SV1} {b : U Bool} (h : AJ x = some b) {u : Value} (hu : aK ρ x u) : u = .bool (b ()) := by
 cases x <;> simp [AJ] at h <;> subst h <;> exact hu
theorem jl {k : IntKind} {n : U Int} {C : U Prop} {v : SV1} (h : fit k n = (C, v)) (hC : C ()) : aK ρ v (.int k (k.wrap (n ()))) := by
 unfold fit at h
 split at h <;> cases h
 · rw [wrap_i64 hC]; rfl
 · rfl
theorem vu {op : BinOp} {k : IntKind} {x y : U Int} {C : U Prop} {v : SV1} (h : arith op k x y = some (C, v)) (hC : C ()) (t : TypeId) :
 ∃ u, (binOp op t (.int k (x ())) (.int k (y ()))).run P w = .ok u w ∧ aK ρ v u := by
 cases op <;> simp only [arith, reduceCtorEq, Option.some.injEq] at h
 case add => exact ⟨_, by simp [binOp, Op.intArith], jl h hC⟩
 case sub => exact ⟨_, by simp [binOp, Op.intArith], jl h hC⟩
 case mul => exact ⟨_, by simp [binOp, Op.intArith], jl h hC⟩
 case quo =>
  split at h
  · simp at h
    obtain ⟨rfl, rfl⟩ := h
    obtain ⟨h0, h1, h2, h3⟩ := hC
    have hy : y () ≠ 0 := by omega
    have e1 : (x ()).tdiv (y ()) = x () / y () := Int.tdiv_eq_ediv_of_nonneg h0
    have e2 : 0 ≤ x () / y () := Int.ediv_nonneg h0 (by omega)
    have e3 : x () / y () ≤ x () := Int.ediv_le_self _ h0
    refine ⟨_, by simp [binOp, Op.intDiv, hy]; rfl, ?_⟩
    rw [e1, wrap_i64 ⟨by omega, by omega⟩]; rfl
  · simp at h
    obtain ⟨rfl, rfl⟩ := h
    obtain ⟨h0, h1, h2⟩ := hC
    have hy : y () ≠ 0 := by omega
    have e1 : (x ()).tdiv (y ()) = x () / y () := Int.tdiv_eq_ediv_of_nonneg h0
    have e2 : 0 ≤ x () / y () := Int.ediv_nonneg h0 (by omega)
    have e3 : x () / y () ≤ x () := Int.ediv_le_self _ h0
    refine ⟨_, by simp [binOp, Op.intDiv, hy]; rfl, ?_⟩
    rw [e1, IntWalk.u8_in _ ⟨by omega, by omega⟩]; rfl
  · simp at h
    obtain ⟨rfl, rfl⟩ := h
    obtain ⟨h0, h1, h2⟩ := hC
    have hy : y () ≠ 0 := by omega
    have e1 : (x ()).tdiv (y ()) = x () / y () := Int.tdiv_eq_ediv_of_nonneg h0
    have e2 : 0 ≤ x () / y () := Int.ediv_nonneg h0 (by omega)
    have e3 : x () / y () ≤ x () := Int.ediv_le_self _ h0
    refine ⟨_, by simp [binOp, Op.intDiv, hy]; rfl, ?_⟩
    rw [e1, IntWalk.u16_in _ ⟨by omega, by omega⟩]; rfl
  · simp at h
    obtain ⟨rfl, rfl⟩ := h
    obtain ⟨h0, h1, h2⟩ := hC
    have hy : y () ≠ 0 := by omega
    have e1 : (x ()).tdiv (y ()) = x () / y () := Int.tdiv_eq_ediv_of_nonneg h0
    have e2 : 0 ≤ x () / y () := Int.ediv_nonneg h0 (by omega)
    have e3 : x () / y () ≤ x () := Int.ediv_le_self _ h0
    refine ⟨_, by simp [binOp, Op.intDiv, hy]; rfl, ?_⟩
    rw [e1, wrap_u64 ⟨by omega, by omega⟩]; rfl
  · cases h
 case and =>
  have key : ∀ m : Nat, k.bits = m → 0 ≤ x () → 0 ≤ y () → x () < 2 ^ m → y () < 2 ^ m → (∀ z : Int, 0 ≤ z → z ≤ x () → k.wrap z = z) → ∃ u, (binOp .and t (.int k (x ())) (.int k (y ()))).run P w = .ok u w ∧ aK ρ (.int k (fun _ => xQ (x ()) (y ()))) u := by
   intro m hm h0 h1 h2 h3 h4
   refine ⟨.int k (k.wrap ((BitVec.ofInt k.bits (x ()) &&& BitVec.ofInt k.bits (y ())).toNat : Int)), by simp [binOp, Op.intBits], ?_⟩
   have e : ∀ z : Int, 0 ≤ z → z < 2 ^ m → (BitVec.ofInt k.bits z).toNat = z.toNat := by
    intro z hz hz2
    rw [BitVec.toNat_ofInt, hm]
    have : z % ((2 ^ m : Nat) : Int) = z := Int.emod_eq_of_lt hz (by rw [Int.natCast_pow]; exact hz2)
    rw [this]
   rw [BitVec.toNat_and, e _ h0 h2, e _ h1 h3]
   have h5 : (x ()).toNat &&& (y ()).toNat ≤ (x ()).toNat := Nat.and_le_left
   rw [h4 _ (Int.natCast_nonneg _) (by omega)]
   rfl
  split at h
  · simp at h
    obtain ⟨rfl, rfl⟩ := h
    obtain ⟨h0, h1, h2, h3⟩ := hC
    exact key 64 rfl h0 h1 (by omega) (by omega) fun z z0 z1 => wrap_i64 ⟨by omega, by omega⟩
  · simp at h
    obtain ⟨rfl, rfl⟩ := h
    obtain ⟨h0, h1, h2, h3⟩ := hC
    exact key 8 rfl h0 h1 (by omega) (by omega) fun z z0 z1 => IntWalk.u8_in _ ⟨by omega, by omega⟩
  · simp at h
    obtain ⟨rfl, rfl⟩ := h
    obtain ⟨h0, h1, h2, h3⟩ := hC
    exact key 16 rfl h0 h1 (by omega) (by omega) fun z z0 z1 => IntWalk.u16_in _ ⟨by omega, by omega⟩
  · simp at h
    obtain ⟨rfl, rfl⟩ := h
    obtain ⟨h0, h1, h2, h3⟩ := hC
    exact key 64 rfl h0 h1 (by omega) (by omega) fun z z0 z1 => wrap_u64 ⟨by omega, by omega⟩
  · cases h
 case rem =>
  have key : 0 ≤ x () → 0 < y () → ∃ u, (binOp .rem t (.int k (x ())) (.int k (y ()))).run P w = .ok u w ∧ aK ρ (.int k (fun _ => x () % y ())) u := by
   intro h0 h1
   have hy : y () ≠ 0 := by omega
   exact ⟨_, by simp [binOp, Op.intDiv, hy]; rfl, by rw [Int.tmod_eq_emod_of_nonneg h0]; rfl⟩
  split at h <;> simp at h <;> obtain ⟨rfl, rfl⟩ := h <;> exact key hC.1 hC.2.1
 case lss => obtain ⟨rfl, rfl⟩ := (by simpa using h : _ ∧ _); exact ⟨_, by simp [binOp, Op.intCmp]; rfl, by simp [aK]⟩
 case leq => obtain ⟨rfl, rfl⟩ := (by simpa using h : _ ∧ _); exact ⟨_, by simp [binOp, Op.intCmp]; rfl, by simp [aK]⟩
 case gtr => obtain ⟨rfl, rfl⟩ := (by simpa using h : _ ∧ _); exact ⟨_, by simp [binOp, Op.intCmp]; rfl, by simp [aK]⟩
 case geq => obtain ⟨rfl, rfl⟩ := (by simpa using h : _ ∧ _); exact ⟨_, by simp [binOp, Op.intCmp]; rfl, by simp [aK]⟩
 case eql => obtain ⟨rfl, rfl⟩ := (by simpa using h : _ ∧ _); exact ⟨_, by simp [binOp, Op.intCmp]; rfl, by simp [aK]; rfl⟩
 case neq => obtain ⟨rfl, rfl⟩ := (by simpa using h : _ ∧ _); exact ⟨_, by simp [binOp, Op.intCmp]; rfl, by simp [aK]; rfl⟩
theorem Aj {l m : List Int} (hl : bq l) (hm : bq m) : ((l.map fun x => UInt8.ofNat x.toNat) == (m.map fun x => UInt8.ofNat x.toNat)) = decide (l = m) := by
 rw [Bool.eq_iff_iff]
 simp only [beq_iff_eq, decide_eq_true_eq]
 constructor
 · intro h
   induction l generalizing m with
   | nil => cases m <;> simp_all
   | cons x r ih =>
     cases m with
     | nil => simp at h
     | cons y q =>
       simp only [List.map_cons, List.cons.injEq] at h
       have hx := hl x (by simp)
       have hy := hm y (by simp)
       have e1 := congrArg UInt8.toNat h.1
       simp only [UInt8.toNat_ofNat'] at e1
       have e2 : x = y := by omega
       rw [e2, ih (fun z hz => hl z (by simp [hz])) (fun z hz => hm z (by simp [hz])) h.2]
 · rintro rfl; rfl
theorem vf {t : TypeId} (hu : P.underlying t = some .bool) (d : Nat) (b c : Bool) : (Op.equalIn (d + 1) t (.bool b) (.bool c)).run P w = .ok (b == c) w := by
 simp [Op.equalIn, run_underlying hu]
theorem ve {t e : TypeId} (hu : P.underlying t = some (.pointer e)) (d : Nat) (c : Option Addr) : (Op.equalIn (d + 1) t (.pointer none) (.pointer c)).run P w = .ok c.isNone w := by
 simp [Op.equalIn, run_underlying hu]
theorem Bl {t e : TypeId} (hu : P.underlying t = some (.pointer e)) (d : Nat) (c : Addr) : (Op.equalIn (d + 1) t (.pointer (some c)) (.pointer none)).run P w = .ok false w := by
 simp [Op.equalIn, run_underlying hu]
theorem u4 {op : BinOp} {x y : SV1} {C : U Prop} {v : SV1} (h : qf op x y = some (C, v)) (hC : C ()) (t : TypeId) {p q : Value} (hp : aK ρ x p) (hq : aK ρ y q)
 (hB : ∀ b c, p = .bool b → q = .bool c → P.underlying t = some .bool) (hPt : ∀ b c, p = .pointer b → q = .pointer c → ∃ e, P.underlying t = some (.pointer e)) :
 ∃ u, (binOp op t p q).run P w = .ok u w ∧ aK ρ v u := by
 unfold qf at h
 split at h
 · rename_i k m hm
   have e1 := jA hm hp
   split at h
   · rename_i k' n hn
     have e2 := jA hn hq
     subst e1; subst e2
     split at h
     · have key : 0 ≤ m () → 0 ≤ n () → ∀ B : Nat, n () ≤ B → B ≤ k.bits → ∃ u, (binOp .shr t (.int k (m ())) (.int k' (n ()))).run P w = .ok u w ∧ aK ρ (.int k (fun _ => m () / 2 ^ (n ()).toNat)) u := by
        intro h0 h1 B h2 h3
        refine ⟨.int k (m () / 2 ^ (n ()).toNat), ?_, rfl⟩
        have e3 : ¬ n () < 0 := by omega
        have e4 : min (n ()).toNat k.bits = (n ()).toNat := by omega
        have e5 : (m ()).fdiv (2 ^ (n ()).toNat) = m () / 2 ^ (n ()).toNat := Int.fdiv_eq_ediv_of_nonneg _ (Int.pow_nonneg (by omega))
        simp [binOp, Op.shift, e3, e4, e5]
       split at h <;> simp at h <;> obtain ⟨rfl, rfl⟩ := h <;> first | exact key hC.1 hC.2.1 8 hC.2.2 (by decide) | exact key hC.1 hC.2.1 32 hC.2.2 (by decide)
     · split at h
       · rename_i hk
         simp at hk
         subst hk
         exact vu h hC t
       · cases h
   · cases h
 · split at h
   · rename_i b hb
     have e1 := vo hb hp
     split at h
     · rename_i c hc
       have e2 := vo hc hq
       subst e1; subst e2
       have hu := hB _ _ rfl rfl
       cases op <;> simp at h <;> obtain ⟨rfl, rfl⟩ := h
       · exact ⟨_, by simp only [binOp, Op.equal, Op.maxDepth, Sem.run_bind, vf hu 9999, Result.andThen]; rfl, rfl⟩
       · exact ⟨_, by simp only [binOp, Op.equal, Op.maxDepth, Sem.run_bind, vf hu 9999, Result.andThen]; rfl, rfl⟩
     · cases h
   · split at h
     · rename_i l m _ _
       simp only [aK] at hp hq
       subst hp; subst hq
       cases op <;> simp at h <;> obtain ⟨rfl, rfl⟩ := h
       case add =>
        have hC : (l ()).length + (m ()).length ≤ 1099511627776 := hC
        have hs : ∀ q : List Int, (⟨(q.map fun x => x.toNat.toUInt8).toArray⟩ : ByteArray).size = q.length := fun q => by simp [ByteArray.size]
        refine ⟨.string (⟨((l ()).map fun x => x.toNat.toUInt8).toArray⟩ ++ ⟨((m ()).map fun x => x.toNat.toUInt8).toArray⟩), ?_, ?_⟩
        · simp only [binOp, Op.stringOp, hs]
          rw [if_neg]
          · rfl
          · have e : IntKind.i64.max = 9223372036854775807 := by rfl
            rw [e]; omega
        · simp only [aK, Value.string.injEq]
          apply ByteArray.ext
          simp
       case lss => exact ⟨_, by simp only [binOp, Op.stringOp]; rfl, rfl⟩
       all_goals (refine ⟨_, by simp [binOp, Op.stringOp]; rfl, ?_⟩; simp only [aK, Value.bool.injEq]; rw [Aj hC.1 hC.2])
     · obtain ⟨b, h1, rfl⟩ := hp
       simp only [aK] at hq
       subst hq
       obtain ⟨e, hu⟩ := hPt _ _ rfl rfl
       cases op <;> simp at h <;> obtain ⟨rfl, rfl⟩ := h <;> exact ⟨_, by simp only [binOp, Op.equal, Op.maxDepth, Sem.run_bind, Bl hu 9999, Result.andThen]; rfl, rfl⟩
     · obtain ⟨b, h1, rfl⟩ := hq
       simp only [aK] at hp
       subst hp
       obtain ⟨e, hu⟩ := hPt _ _ rfl rfl
       cases op <;> simp at h <;> obtain ⟨rfl, rfl⟩ := h <;> exact ⟨_, by simp only [binOp, Op.equal, Op.maxDepth, Sem.run_bind, ve hu 9999, Result.andThen]; rfl, rfl⟩
     · simp only [aK] at hp hq
       subst hp; subst hq
       obtain ⟨e, hu⟩ := hPt _ _ rfl rfl
       cases op <;> simp at h <;> obtain ⟨rfl, rfl⟩ := h <;> exact ⟨_, by simp only [binOp, Op.equal, Op.maxDepth, Sem.run_bind, ve hu 9999, Result.andThen]; rfl, rfl⟩
     · cases h
theorem wF {op : UnOp} {x : SV} {p : aZ A} (h : oo op x = some p) {u : Value} (hu : Den ρ x u) :
 ∃ C v, p = ⟨[], 0, false, fun _ _ => .done C v []⟩ ∧ (C () → ∃ y, (Op.unary op u).run P w = .ok y w ∧ Den ρ v y) := by
 unfold oo at h
 split at h
 · cases h; simp only [Den, cM, aK] at hu; subst hu; exact ⟨_, _, rfl, fun _ => ⟨_, by simp [Op.unary], rfl⟩⟩
 · cases h; simp only [Den, cM, aK] at hu; subst hu; exact ⟨_, _, rfl, fun _ => ⟨_, by simp [Op.unary], rfl⟩⟩
 · cases h; simp only [Den, cM, aK] at hu; subst hu
   rename_i n
   exact ⟨_, _, rfl, fun hC => ⟨.int .i64 (-n ()), by simp [Op.unary, Op.intArith]; exact wrap_i64 hC, rfl⟩⟩
 · cases h
end Go.Sx
namespace Go.Sx
set_option linter.all false
open Go.RowKit
variable {A : Type} {AI : Abs A} {G : Fr} {s : SS A} {ρ : Ev} {a : Act} {w : World} {P : Program}
theorem add_lit (b o n : Nat) : (⟨b, o, none⟩ : Addr).add n = ⟨b, o + n, none⟩ := by unfold Addr.add; split <;> simp_all
theorem pI {t : TypeId} {i : TI} (hT : af P t i) (hi : i.isAgg = true) {b off : Nat} {us : List Value} (hl : us.length = i.size) (hc : ∀ (j : Nat) v, us[j]? = some v → w.cell? ⟨b, off + j, none⟩ = some v) :
 (Instr.loadAt t (.pointer (some ⟨b, off, none⟩))).run P w = .ok (.agg us.toArray) w := by
 have h1 := run_loadCells_list (P := P) w ⟨b, off, none⟩ us (fun j v h => by rw [add_lit]; exact hc j v h)
 simp [Instr.loadAt, Instr.sureAddr, loadVar, hT.isAgg, hi, hT.sizeOf, ← hl, h1]
theorem j0 {t : TypeId} {i : TI} (hT : af P t i) (hi : i.isAgg = false) {b off : Nat} {u : Value} (hc : w.cell? ⟨b, off, none⟩ = some u) :
 (Instr.loadAt t (.pointer (some ⟨b, off, none⟩))).run P w = .ok u w := by
 simp [Instr.loadAt, Instr.sureAddr, loadVar, hT.isAgg, hi, run_load, hc]
theorem wi {t : TypeId} {i : TI} (hT : af P t i) {l : List SV1} {us : List Value} {v : SV} (hl : us.length = i.size) (hd : aL (aK ρ) l us) (hp : pack i l = some v) {b off : Nat}
 (hc : ∀ (j : Nat) v, us[j]? = some v → w.cell? ⟨b, off + j, none⟩ = some v) : ∃ y, (Instr.loadAt t (.pointer (some ⟨b, off, none⟩))).run P w = .ok y w ∧ Den ρ v y := by
 unfold pack at hp
 split at hp
 · rename_i hi
   cases hp
   exact ⟨_, pI hT hi hl hc, us, rfl, hd⟩
 · rename_i hi
   split at hp
   · cases hp
     cases hd with
     | cons h t => cases t with
       | nil => exact ⟨_, j0 hT hi (by simpa using hc 0 _ rfl), h⟩
   · cases hp
theorem jj {t : TypeId} {i : TI} (hT : af P t i) {l : List SV1} {us : List Value} {v : SV} (hd : aL (aK ρ) l us) {o : Nat} (hp : partOf i l o = some v) {b off : Nat}
 (hc : ∀ (j : Nat) v, us[j]? = some v → w.cell? ⟨b, off + j, none⟩ = some v) : ∃ y, (Instr.loadAt t (.pointer (some ⟨b, off + o, none⟩))).run P w = .ok y w ∧ Den ρ v y := by
 unfold partOf at hp
 split at hp
 · rename_i l' hl'
   obtain ⟨h1, h2⟩ := hd.cut hl'
   refine wi hT (by rw [← h1.length, h2]) h1 hp fun j u hj => ?_
   rw [List.getElem?_take] at hj
   split at hj
   · rw [List.getElem?_drop] at hj
     rw [Nat.add_assoc]; exact hc _ _ hj
   · cases hj
 · cases hp
def dD (s : SS A) (p : aZ A) (cs : List (Chunk A)) : Prop := cs = aD s.H p.ids
theorem wh {t : TypeId} {i : TI} (hT : af P t i) (h : Holds AI G s ρ a.tmps w) {x : SV} {u : Value} (hx : Den ρ x u) {p : aZ A} (hp : q6 i x = some p) {d : List Bool} {C : U Prop} {v : SV} {cs : List (Chunk A)}
 (he : p.eff (aD s.H p.ids) d = .done C v cs) (hC : C ()) : dD s p cs ∧ ∃ y, (Instr.loadAt t u).run P w = .ok y w ∧ Den ρ v y := by
 unfold q6 at hp
 split at hp
 · rename_i i' off
   cases hp
   simp only [aD] at he
   have hc := h.ch i'
   generalize hg : aC s.H i' = c at he hc
   cases c <;> simp at he
   rename_i ct l
   split at he <;> simp at he
   rename_i v' hv'
   obtain ⟨rfl, rfl, rfl⟩ := he
   obtain ⟨b, vs, h1, h2, h3, h4⟩ := hc
   obtain ⟨b', h5, rfl⟩ := hx
   rw [h1] at h5
   cases h5
   refine ⟨by simp [dD, aD, hg], ?_⟩
   have := jj (w := w) hT h4 hv' (b := b) (off := 0) (fun j v hj => by simp [World.cell?, h3, hj])
   simpa using this
 · rename_i e L k off
   split at hp <;> simp [b7] at hp
   subst hp
   rename_i v' hv'
   simp at he
   obtain ⟨rfl, rfl, rfl⟩ := he
   obtain ⟨b, o, rfl, h1, h2, h3⟩ := hx
   refine ⟨by simp [dD, aD], ?_⟩
   have hk : (k ()).toNat < (L ()).length := by omega
   have hx := h3 _ (List.getElem?_eq_getElem hk)
   have hD : (L ()).getD (k ()).toNat e.cY = (L ())[(k ()).toNat] := by simp [List.getD, List.getElem?_eq_getElem hk]
   obtain ⟨us, h4, h5⟩ := aI.dec (ρ := ρ) e (fun _ => (L ()).getD (k ()).toNat e.cY) _ (by rw [hD]; exact hx)
   exact jj hT h4 hv' fun j v hj => (h.im _ _ _ (h5 j v hj)).1
 · rename_i i' ver esz k off
   cases hp
   simp only [aD] at he
   have hc := h.ch i'
   generalize hg : aC s.H i' = c at he hc
   cases c <;> simp at he
   rename_i rt e ver' L
   split at he <;> (try simp at he)
   rename_i hb
   obtain ⟨hb1, hb2⟩ := Bool.and_eq_true_iff.1 hb
   have hb1 := beq_eq hb1
   have hb2 := beq_eq hb2
   subst hb1; subst hb2
   split at he <;> simp at he
   rename_i v' hv'
   obtain ⟨rfl, rfl, rfl⟩ := he
   obtain ⟨p, rfl, -, h1⟩ := hx
   obtain ⟨h2, h3⟩ := hc
   obtain ⟨hk0, b, o, len, cap, h4, rfl⟩ := h1 h2
   refine ⟨by simp [dD, aD, hg], ?_⟩
   rcases h3 with ⟨_, h3, _⟩ | ⟨b', off', cap', h5, _, _, _, h6, _⟩
   · exfalso; have := hC.2; rw [h3] at this; simp at this; omega
   · rw [h4] at h5
     cases h5
     have hk : (k ()).toNat < (L ()).length := by have := hC.2; omega
     have hD : (L ()).getD (k ()).toNat e.cY = (L ())[(k ()).toNat] := by simp [List.getD, List.getElem?_eq_getElem hk]
     obtain ⟨us, h7, h8⟩ := aI.dec (ρ := ρ) e (fun _ => (L ()).getD (k ()).toNat e.cY) _ (by rw [hD]; exact h6 _ _ (List.getElem?_eq_getElem hk))
     exact jj hT h7 hv' fun j v hj => h8 j v hj
 · cases hp
theorem vc {t : TypeId} {i : TI} (hT : af P t i) {x : SV} {u : Value} (hx : Den ρ x u) {f : Nat} {p : aZ A} (hp : kg i x f = some p) :
 ∃ C v, p = ⟨[], 0, false, fun _ _ => .done C v []⟩ ∧ (C () → ∃ y, (Instr.fieldAt t u f).run P w = .ok y w ∧ Den ρ v y) := by
 have hk := hT.kind
 unfold kg at hp
 split at hp
 · rename_i offs ho
   rw [ho] at hk
   obtain ⟨fs, h1, h2⟩ := hk
   split at hp
   · rename_i o hn
     obtain ⟨fd, h3, rfl, g, h4, h5⟩ := h2.nth hn
     have h3 : fs[f]? = some fd := by simpa using h3
     have h5 : g.size ≠ 0 := by rw [h5]; simp
     have key : ∀ b off, (Instr.fieldAt t (.pointer (some ⟨b, off, none⟩)) f).run P w = .ok (.pointer (some ⟨b, off + fd.offset, none⟩)) w := by
      intro b off
      simp [Instr.fieldAt, run_underlying h1, h3, Instr.sureAddr, fieldPlace, Go.sizeOf, typeInfo, h4, h5, add_lit]
     split at hp
     · cases hp
       obtain ⟨b, e1, rfl⟩ := hx
       exact ⟨_, _, rfl, fun _ => ⟨_, key _ _, b, e1, rfl⟩⟩
     · cases hp
       obtain ⟨b, o', rfl, e1⟩ := hx
       exact ⟨_, _, rfl, fun _ => ⟨_, key _ _, b, o', by rw [Nat.add_assoc], e1⟩⟩
     · cases hp
       obtain ⟨q, rfl, e1, e2⟩ := hx
       rename_i i' ver esz k off
       refine ⟨_, _, rfl, fun _ => ?_⟩
       obtain ⟨b, o', sp⟩ := q
       cases sp with
       | none =>
         refine ⟨_, key _ _, _, rfl, e1, fun ev => ?_⟩
         obtain ⟨e3, b2, o2, len, cap, e4, e5⟩ := e2 ev
         cases e5
         exact ⟨e3, _, o2, len, cap, e4, by simp [Nat.add_assoc]⟩
       | some sp =>
         refine ⟨.pointer (some (Addr.add ⟨b, o', some sp⟩ fd.offset)), by simp [Instr.fieldAt, run_underlying h1, h3, Instr.sureAddr, fieldPlace, Go.sizeOf, typeInfo, h4, h5], _, rfl, e1, fun ev => ?_⟩
         obtain ⟨e3, b2, o2, len, cap, e4, e5⟩ := e2 ev
         cases e5
     · cases hp
   · cases hp
 · cases hp
theorem zp {x : SV} {u : Value} {t ty : TypeId} (h : Holds AI G s ρ a.tmps w) (hx : Den ρ x u) {p : aZ A} (hp : wk x = some p) {d : List Bool} {C : U Prop} {v : SV} {cs : List (Chunk A)}
 (he : p.eff (aD s.H p.ids) d = .done C v cs) (hC : C ()) (hS : (∃ l, u = .string l) → P.underlying t = some .string) (hL : (∃ ao l c, u = .slice ao l c) → ∃ e, P.underlying t = some (.slice e)) (hmp : (∃ b, u = .map b) → ∃ k e, P.underlying t = some (.map k e)) :
 dD s p cs ∧ ∃ y, (Builtin.len_ #[t] ty #[u]).run P w = .ok y w ∧ Den ρ v y := by
 have key : ∀ ao l c, u = .slice ao l c → (Builtin.len_ #[t] ty #[u]).run P w = .ok (.int .i64 l) w := by
  rintro ao l c rfl
  obtain ⟨e, hu⟩ := hL ⟨_, _, _, rfl⟩
  simp [Builtin.len_, run_underlying hu, goInt]
 unfold wk at hp
 split at hp
 · cases hp
   simp at he
   obtain ⟨rfl, rfl, rfl⟩ := he
   obtain ⟨ao, cap, rfl, _⟩ := hx
   exact ⟨rfl, _, key _ _ _ rfl, rfl⟩
 · cases hp
   simp at he
   obtain ⟨rfl, rfl, rfl⟩ := he
   cases hx
   exact ⟨rfl, _, key _ _ _ rfl, rfl⟩
 · cases hp
   simp at he
   obtain ⟨rfl, rfl, rfl⟩ := he
   cases hx
   refine ⟨rfl, ?_⟩
   have hu := hS ⟨_, rfl⟩
   exact ⟨_, by simp [Builtin.len_, run_underlying hu]; rfl, by simp [Den, cM, one, aK, goInt, ByteArray.size]⟩
 · cases hp
   simp at he
   obtain ⟨rfl, rfl, rfl⟩ := he
   obtain ⟨_, h0, _⟩ := hx
   obtain ⟨ao, c, rfl⟩ := h0 hC
   exact ⟨rfl, _, key _ _ _ rfl, by simp only [Den, cM, one, aK]; rw [Int.toNat_of_nonneg hC]⟩
 · rename_i i ver
   cases hp
   simp only [aD] at he
   have hc := h.ch i
   generalize hg : aC s.H i = c at he hc
   cases c <;> simp at he
   rename_i rt e ver' L
   split at he <;> simp at he
   rename_i hb
   have hb := beq_eq hb
   subst hb
   obtain ⟨rfl, rfl, rfl⟩ := he
   obtain ⟨h1, h2⟩ := hc
   obtain ⟨_, _, h3⟩ := hx
   refine ⟨by simp [dD, aD, hg], ?_⟩
   have h3 := h3 h1
   rcases h2 with ⟨⟨ao, h2⟩, h4, _⟩ | ⟨b, off, cap, h2, _⟩
   · rw [h2] at h3
     exact ⟨_, key _ _ _ h3, by simp [Den, cM, one, aK, h4]⟩
   · rw [h2] at h3
     exact ⟨_, key _ _ _ h3, by simp [Den, cM, one, aK]⟩
 · rename_i i
   cases hp
   simp only [aD] at he
   have hc := h.ch i
   generalize hg : aC s.H i = c at he hc
   cases c <;> (try (simp at he; done))
   rename_i ks e L
   simp at he
   obtain ⟨rfl, rfl, rfl⟩ := he
   obtain ⟨b, es, clock, h1, h2, h3, h4⟩ := hc
   obtain ⟨b', h5, rfl⟩ := hx
   rw [h1] at h5
   cases h5
   obtain ⟨k, e', hu⟩ := hmp ⟨_, rfl⟩
   refine ⟨by simp [dD, aD, hg], .int .i64 es.size, ?_, ?_⟩
   · simp [Builtin.len_, run_underlying hu, MapKept.run_getObj_map h3, goInt]
   · have := h4.1.length
     simp [Den, cM, one, aK, this]
 · cases hp
end Go.Sx
namespace Go.Sx
set_option linter.all false
open Go.RowKit
variable {A : Type} {AI : Abs A} {G : Fr} {s : SS A} {ρ : Ev} {a : Act} {w : World} {P : Program}
def jn : TK → Option TypeId
 | .slice e _ => some e
 | .array _ e => some e
 | _ => none
theorem q7 {x : SV} {j : Nat} (h : nJ x = some j) {u : Value} (hu : Den ρ x u) : ∃ k, u = .int k (j : Int) := by
 unfold nJ at h
 split at h
 · cases h; exact ⟨_, hu⟩
 · cases h
theorem Az {t : TypeId} {i : TI} (hT : af P t i) {l : List SV1} {us : List Value} {v : SV} (hd : aL (aK ρ) l us) {o : Nat} (hp : partOf i l o = some v) (w : World) :
 ∃ y, (Go.part t us.toArray o).run P w = .ok y w ∧ Den ρ v y := by
 unfold partOf at hp
 split at hp <;> (try (cases hp; done))
 rename_i l' hl'
 obtain ⟨h1, h2⟩ := hd.cut hl'
 unfold pack at hp
 split at hp
 · rename_i hi
   cases hp
   refine ⟨.agg (us.toArray.extract o (o + i.size)), ?_, _, ?_, h1⟩
   · simp [Go.part, hT.isAgg, hi, hT.sizeOf]
   · congr 1
     apply Array.ext'
     rw [Array.toList_extract]
     simp [List.extract_eq_take_drop]
 · rename_i hi
   split at hp
   · cases hp
     generalize hm : (us.drop o).take i.size = m at h1
     cases h1 with
     | cons h t =>
     cases t
     rename_i u
     refine ⟨u, ?_, h⟩
     have hu : us[o]? = some u := by
      have := congrArg (fun z : List Value => z[0]?) hm
      simp only [List.getElem?_take, List.getElem?_drop, List.getElem?_cons_zero] at this
      split at this
      · simpa using this
      · cases this
     simp [Go.part, hT.isAgg, hi, hu]
   · cases hp
theorem tT {ti : List (Nat × TI)} (hti : rN P ti) {t : TypeId} {i : TI} (hT : af P t i) (h : Holds AI G s ρ a.tmps w) {x ix : SV} {u j : Value} (hx : Den ρ x u) (hj : Den ρ ix j) {p : aZ A} (hp : iP ti i x ix = some p) {d : List Bool} {C : U Prop} {v : SV} {cs : List (Chunk A)}
 (he : p.eff (aD s.H p.ids) d = .done C v cs) (hC : C ()) : dD s p cs ∧ ∃ y, (Instr.index t u j).run P w = .ok y w ∧ Den ρ v y := by
 have hk := hT.kind
 unfold iP at hp
 split at hp <;> (try (cases hp; done))
 rename_i n e ho
 rw [ho] at hk
 obtain ⟨hu, _⟩ := hk
 split at hp <;> (try (cases hp; done))
 rename_i l
 split at hp <;> (try (cases hp; done))
 rename_i ie hie
 have hTe := hti e ie hie
 obtain ⟨us, rfl, hx⟩ := hx
 have key : ∀ (m : Nat) (kk : IntKind) (v : SV), m < n → partOf ie l (m * ie.size) = some v → ∃ y, (Instr.index t (.agg us.toArray) (.int kk (m : Int))).run P w = .ok y w ∧ Den ρ v y := by
  intro m kk v hlt hpt
  obtain ⟨y, h1, h2⟩ := Az hTe hx hpt w
  refine ⟨y, ?_, h2⟩
  have h3 : (0 : Int) ≤ m ∧ (m : Int) < (n : Int) := by omega
  simp [Instr.index, asIntOf, run_underlying hu, h3, hlt, hTe.sizeOf, h1]
 split at hp
 · rename_i m hm
   obtain ⟨kk, rfl⟩ := q7 hm hj
   split at hp <;> (try (cases hp; done))
   rename_i hlt
   have hlt : m < n := by have := leN hlt; omega
   split at hp <;> cases hp
   rename_i v' hv'
   simp at he
   obtain ⟨rfl, rfl, rfl⟩ := he
   exact ⟨rfl, key m kk _ hlt hv'⟩
 · split at hp <;> cases hp
   rename_i kk k hkk
   obtain rfl := bF hkk hj
   have main : ∀ (q j : Nat) (ds : List Bool), j + q = n → dK (A := A) ie l k q j ds = .done C v cs → cs = [] ∧ ∃ y, (Instr.index t (.agg us.toArray) (.int kk (k ()))).run P w = .ok y w ∧ Den ρ v y := by
    intro q
    induction q with
    | zero => intro j ds _ h; simp [dK] at h
    | succ q ih =>
      intro j ds hjl h
      cases q with
      | zero =>
        simp only [dK] at h
        split at h
        · rename_i v' ha
          simp at h
          obtain ⟨rfl, rfl, rfl⟩ := h
          have hC : k () = Int.ofNat j := hC
          rw [hC]
          exact ⟨rfl, key j kk _ (by omega) ha⟩
        · cases h
      | succ q =>
        cases ds with
        | nil => simp [dK] at h
        | cons b ds =>
          cases b with
          | true =>
            simp only [dK] at h
            split at h
            · rename_i v' ha
              simp at h
              obtain ⟨rfl, rfl, rfl⟩ := h
              have hC : k () = Int.ofNat j := hC
              rw [hC]
              exact ⟨rfl, key j kk _ (by omega) ha⟩
            · cases h
          | false =>
            simp only [dK] at h
            exact ih (j + 1) ds (by omega) h
   obtain ⟨rfl, h3⟩ := main n 0 d (by omega) he
   exact ⟨rfl, h3⟩
theorem nz {t : TypeId} {i : TI} (hT : af P t i) (h : Holds AI G s ρ a.tmps w) {esz : Nat} (hz : ∀ e, jn i.kind = some e → (Go.sizeOf e).run P w = .ok esz w) {x ix : SV} {u j : Value} (hx : Den ρ x u) (hj : Den ρ ix j) {p : aZ A} (hp : fR i esz x ix = some p) {d : List Bool} {C : U Prop} {v : SV} {cs : List (Chunk A)}
 (he : p.eff (aD s.H p.ids) d = .done C v cs) (hC : C ()) : dD s p cs ∧ ∃ y, (Instr.indexAt t u j).run P w = .ok y w ∧ Den ρ v y := by
 have hk := hT.kind
 unfold fR at hp
 split at hp
 · rename_i n e ho
   rw [ho] at hk hz
   obtain ⟨hu, _⟩ := hk
   have hz := hz e rfl
   split at hp
   · rename_i m hm
     obtain ⟨kk, rfl⟩ := q7 hm hj
     split at hp
     · rename_i hlt
       have hlt : m < n := by have := leN hlt; omega
       have key : ∀ q : Addr, (Instr.indexAt t (.pointer (some q)) (.int kk (m : Int))).run P w = .ok (.pointer (some (q.add (m * esz)))) w := by
        intro q
        have h1 : (0 : Int) ≤ m ∧ (m : Int) < (n : Int) := by omega
        simp [Instr.indexAt, asIntOf, run_underlying hu, Instr.sureAddr, h1, hz, hlt]
       split at hp
       · cases hp
         simp at he
         obtain ⟨rfl, rfl, rfl⟩ := he
         obtain ⟨b, e1, rfl⟩ := hx
         exact ⟨rfl, _, key _, b, e1, by rw [add_lit]⟩
       · cases hp
         simp at he
         obtain ⟨rfl, rfl, rfl⟩ := he
         obtain ⟨b, o', rfl, e1⟩ := hx
         exact ⟨rfl, _, key _, b, o', by rw [add_lit, Nat.add_assoc], e1⟩
       · cases hp
         simp at he
         obtain ⟨rfl, rfl, rfl⟩ := he
         obtain ⟨q, rfl, e1, e2⟩ := hx
         refine ⟨rfl, _, key _, _, rfl, e1, fun ev => ?_⟩
         obtain ⟨e3, b2, o2, len, cap, e4, rfl⟩ := e2 ev
         exact ⟨e3, b2, o2, len, cap, e4, by rw [add_lit, Nat.add_assoc]⟩
       · cases hp
     · cases hp
   · split at hp <;> cases hp
     rename_i kk k hkk
     obtain rfl := bF hkk hj
     have key : ∀ (m : Nat) (q : Addr), m < n → (Instr.indexAt t (.pointer (some q)) (.int kk (m : Int))).run P w = .ok (.pointer (some (q.add (m * esz)))) w := by
      intro m q hlt
      have h1 : (0 : Int) ≤ m ∧ (m : Int) < (n : Int) := by omega
      simp [Instr.indexAt, asIntOf, run_underlying hu, Instr.sureAddr, h1, hz, hlt]
     have at_ : ∀ (m : Nat) (v : SV), m < n → sO x (m * esz) = some v → k () = Int.ofNat m → ∃ y, (Instr.indexAt t u (.int kk (k ()))).run P w = .ok y w ∧ Den ρ v y := by
      intro m v hlt ha hk
      rw [hk]
      have key := fun q => key m q hlt
      unfold sO at ha
      split at ha <;> cases ha
      · obtain ⟨b, e1, rfl⟩ := hx
        exact ⟨_, key _, b, e1, by rw [add_lit]⟩
      · obtain ⟨b, o', rfl, e1⟩ := hx
        exact ⟨_, key _, b, o', by rw [add_lit, Nat.add_assoc], e1⟩
      · obtain ⟨q, rfl, e1, e2⟩ := hx
        refine ⟨_, key _, _, rfl, e1, fun ev => ?_⟩
        obtain ⟨e3, b2, o2, len, cap, e4, rfl⟩ := e2 ev
        exact ⟨e3, b2, o2, len, cap, e4, by rw [add_lit, Nat.add_assoc]⟩
     have main : ∀ (l j : Nat) (ds : List Bool), j + l = n → dL (A := A) x esz k l j ds = .done C v cs → cs = [] ∧ ∃ y, (Instr.indexAt t u (.int kk (k ()))).run P w = .ok y w ∧ Den ρ v y := by
      intro l
      induction l with
      | zero => intro j ds _ h; simp [dL] at h
      | succ l ih =>
        intro j ds hjl h
        cases l with
        | zero =>
          simp only [dL] at h
          split at h
          · rename_i v' ha
            simp at h
            obtain ⟨rfl, rfl, rfl⟩ := h
            exact ⟨rfl, at_ j _ (by omega) ha hC⟩
          · cases h
        | succ l =>
          cases ds with
          | nil => simp [dL] at h
          | cons b ds =>
            cases b with
            | true =>
              simp only [dL] at h
              split at h
              · rename_i v' ha
                simp at h
                obtain ⟨rfl, rfl, rfl⟩ := h
                exact ⟨rfl, at_ j _ (by omega) ha hC⟩
              · cases h
            | false =>
              simp only [dL] at h
              exact ih (j + 1) ds (by omega) h
     obtain ⟨rfl, h3⟩ := main n 0 d (by omega) he
     exact ⟨rfl, h3⟩
 · rename_i e ty ho
   rw [ho] at hk hz
   obtain ⟨hu, _⟩ := hk
   have hz := hz e rfl
   split at hp
   · rename_i kk k hkk
     have hj := bF hkk hj
     subst hj
     have key : ∀ (q : Addr) (len cap : Nat), 0 ≤ k () ∧ k () < len → (Instr.indexAt t (.slice (some q) len cap) (.int kk (k ()))).run P w = .ok (.pointer (some (q.add ((k ()).toNat * esz)))) w := by
      intro q len cap h1
      simp [Instr.indexAt, asIntOf, run_underlying hu, h1, hz]
     split at hp
     · rename_i e' L
       split at hp
       · rename_i hb
         have hb := beq_eq hb
         subst hb
         cases hp
         simp at he
         obtain ⟨rfl, rfl, rfl⟩ := he
         obtain ⟨ao, cap, rfl, h2, h3⟩ := hx
         have hk' : (k ()).toNat < (L ()).length := by have := hC.1; have := hC.2; omega
         obtain ⟨b, off, rfl, h4⟩ := h3 (by omega)
         refine ⟨rfl, _, key _ _ _ hC, b, off + (k ()).toNat * e'.size, by simp [add_lit], hC.1, hC.2, fun x hx => ?_⟩
         exact h4 _ _ hx
       · cases hp
     · rename_i i' ver
       cases hp
       simp only [aD] at he
       have hc := h.ch i'
       generalize hg : aC s.H i' = c at he hc
       cases c <;> simp at he
       rename_i rt e' ver' L
       split at he <;> (try simp at he)
       rename_i hb
       obtain ⟨hb1, hb2⟩ := Bool.and_eq_true_iff.1 hb
       have hb1 := beq_eq hb1
       have hb2 := beq_eq hb2
       subst hb1; subst hb2
       obtain ⟨rfl, rfl, rfl⟩ := he
       obtain ⟨h2, h3⟩ := hc
       obtain ⟨_, h1, h4⟩ := hx
       have h4 := h4 h2
       subst h4
       refine ⟨by simp [dD, aD, hg], ?_⟩
       rcases h3 with ⟨_, h3, _⟩ | ⟨b', off', cap', h5, _⟩
       · exfalso; have := hC.1; have := hC.2; rw [h3] at this; simp at this; omega
       · rw [h5]
         exact ⟨_, key _ _ _ hC, _, rfl, h1, fun _ => ⟨hC.1, b', off', _, cap', h5, by simp [add_lit]⟩⟩
     · cases hp
   · cases hp
 · cases hp
theorem cU {b off len cap : Nat} {l : List Int} (hl : l.length = len) (hc : ∀ (j : Nat) x, l[j]? = some x → w.cell? ⟨b, off + j, none⟩ = some (.int .u8 x)) :
 (Conv.bytesToString (.slice (some ⟨b, off, none⟩) len cap)).run P w = .ok (.string ⟨(l.map fun x => x.toNat.toUInt8).toArray⟩) w := by
 have h1 := run_loadCells_list (P := P) w ⟨b, off, none⟩ (l.map (Value.int .u8)) (fun j v h => by
  rw [add_lit]
  simp only [List.getElem?_map, Option.map_eq_some_iff] at h
  obtain ⟨x, hx, rfl⟩ := h
  exact hc j x hx)
 rw [List.length_map, hl] at h1
 rw [run_bytesToString w _ len cap l h1]
 congr 2
 have key : ∀ (l : List Int) (r : ByteArray), l.foldl (fun r n => r.push (UInt8.ofNat n.toNat)) r = ⟨r.data ++ (l.map fun x => x.toNat.toUInt8).toArray⟩ := by
  intro l
  induction l with
  | nil => intro r; cases r; simp
  | cons x r ih =>
    intro q
    rw [List.foldl_cons, ih]
    cases q
    simp [ByteArray.push]
 rw [key]
 simp [ByteArray.empty, ByteArray.emptyWithCapacity]
 rfl
theorem x8 {n : Int} (h0 : 0 ≤ n) (h1 : n < 128) : Utf8.encode n = ⟨([n].map fun x => x.toNat.toUInt8).toArray⟩ := by
 have hv : Utf8.valid n = true := by unfold Utf8.valid; simp; omega
 unfold Utf8.encode
 simp only [hv, if_true]
 rw [if_pos (by omega)]
 rfl
theorem rH {ts td : TypeId} {i j : TI} (hS : af P ts i) (hT : af P td j) (h : Holds AI G s ρ a.tmps w) {x : SV} {u : Value} (hx : Den ρ x u) {p : aZ A} (hp : fX i j x = some p) {d : List Bool} {C : U Prop} {v : SV} {cs : List (Chunk A)}
 (he : p.eff (aD s.H p.ids) d = .done C v cs) (hC : C ()) (hsl : (∃ ao l c, u = .slice ao l c) → ∃ e, P.underlying ts = some (.slice e) ∧ P.underlying e = some (.int .u8)) (hint : (∃ k n, u = .int k n) → ∃ d, P.underlying ts = some d) (hst : (∃ l, u = .string l) → P.underlying ts = some .string) :
 dD s p cs ∧ ∃ y, (convert ts td u).run P w = .ok y w ∧ Den ρ v y := by
 have hk := hT.kind
 unfold fX at hp
 split at hp
 · rename_i k' k n ho
   rw [ho] at hk
   cases hf : fit k' n with
   | mk C' v' =>
     rw [hf] at hp
     cases hp
     simp at he
     obtain ⟨rfl, rfl, rfl⟩ := he
     cases hx
     obtain ⟨d', hd'⟩ := hint ⟨_, _, rfl⟩
     refine ⟨rfl, _, ?_, jl hf hC⟩
     simp [convert, run_underlying hd', run_underlying hk, Conv.intToInt]
 · rename_i k' k n ho
   rw [ho] at hk
   cases hf : fit k' (fun _ => n) with
   | mk C' v' =>
     rw [hf] at hp
     cases hp
     simp at he
     obtain ⟨rfl, rfl, rfl⟩ := he
     cases hx
     obtain ⟨d', hd'⟩ := hint ⟨_, _, rfl⟩
     refine ⟨rfl, _, ?_, jl hf hC⟩
     simp [convert, run_underlying hd', run_underlying hk, Conv.intToInt]
 · rename_i n ho
   rw [ho] at hk
   cases hp
   simp at he
   obtain ⟨rfl, rfl, rfl⟩ := he
   cases hx
   obtain ⟨d', hd'⟩ := hint ⟨_, _, rfl⟩
   have hC : 0 ≤ n () ∧ n () < 128 := hC
   refine ⟨rfl, .string (Utf8.encode (n ())), ?_, congrArg Value.string (x8 hC.1 hC.2)⟩
   simp [convert, run_underlying hd', run_underlying hk, Conv.intToString]
 · rename_i l ho
   rw [ho] at hk
   cases hp
   simp at he
   obtain ⟨rfl, rfl, rfl⟩ := he
   have hx := e8.2 hx
   obtain ⟨ao, cap, rfl, h1, h2⟩ := hx
   obtain ⟨e, hu, hu8⟩ := hsl ⟨_, _, _, rfl⟩
   refine ⟨rfl, _, ?_, rfl⟩
   cases ao with
   | none =>
     have : l () = [] := by
      rcases Nat.eq_zero_or_pos (l ()).length with h0 | h0
      · exact List.eq_nil_of_length_eq_zero h0
      · obtain ⟨b, off, h3, _⟩ := h2 h0; cases h3
     simp [convert, run_underlying hu, run_underlying hk, run_underlying hu8, Conv.bytesToString, this, ByteArray.empty, ByteArray.emptyWithCapacity]
     rfl
   | some q =>
     rcases Nat.eq_zero_or_pos (l ()).length with h0 | h0
     · have e0 := List.eq_nil_of_length_eq_zero h0
       have h3 := run_loadCells_list (P := P) w q [] (by simp)
       have h4 := run_bytesToString w q 0 cap [] (by simpa using h3)
       simp [convert, run_underlying hu, run_underlying hk, run_underlying hu8, e0, h4, ByteArray.empty, ByteArray.emptyWithCapacity]
       rfl
     · obtain ⟨b, off, h3, h4⟩ := h2 h0
       cases h3
       have h5 := cU (P := P) (w := w) (cap := cap) rfl (fun j x hj => (h.im _ _ _ (h4 j x hj)).1)
       simp [convert, run_underlying hu, run_underlying hk, run_underlying hu8, h5]
 · rename_i ho
   rw [ho] at hk
   cases hp
   simp at he
   obtain ⟨rfl, rfl, rfl⟩ := he
   cases hx
   obtain ⟨e, hu, hu8⟩ := hsl ⟨_, _, _, rfl⟩
   refine ⟨rfl, _, ?_, rfl⟩
   simp [convert, run_underlying hu, run_underlying hk, run_underlying hu8, Conv.bytesToString, ByteArray.empty, ByteArray.emptyWithCapacity]
   rfl
 · rename_i l ho
   rw [ho] at hk
   cases hp
   simp at he
   obtain ⟨rfl, rfl, rfl⟩ := he
   cases hx
   have hu := hst ⟨_, rfl⟩
   exact ⟨rfl, _, by simp [convert, run_underlying hu, run_underlying hk], rfl⟩
 · rename_i i' ver ho
   rw [ho] at hk
   cases hp
   simp only [aD] at he
   have hc := h.ch i'
   generalize hg : aC s.H i' = c at he hc
   cases c <;> (try (simp at he; done))
   rename_i rt e' ver' L
   cases e'
   case int k =>
    cases k <;> (try (simp at he; done))
    dsimp only at he
    split at he <;> (try simp at he)
    rename_i hb
    have hb := beq_eq hb
    subst hb
    obtain ⟨rfl, rfl, rfl⟩ := he
    obtain ⟨h2, h3⟩ := hc
    obtain ⟨h6, h1, h4⟩ := hx
    obtain ⟨e, hu, hu8⟩ := hsl h6
    have h4 := h4 h2
    subst h4
    refine ⟨by simp [dD, aD, hg], _, ?_, rfl⟩
    rcases h3 with ⟨⟨ao, h3⟩, h5, _⟩ | ⟨b', off', cap', h5, _, _, _, h7, _⟩
    · rw [h3]
      cases ao with
      | some q =>
        have h3 := run_loadCells_list (P := P) w q [] (by simp)
        have h4 := run_bytesToString w q 0 0 [] (by simpa using h3)
        simp [convert, run_underlying hu, run_underlying hk, run_underlying hu8, h5, h4, ByteArray.empty, ByteArray.emptyWithCapacity]
        rfl
      | none =>
      simp [convert, run_underlying hu, run_underlying hk, run_underlying hu8, Conv.bytesToString, ByteArray.empty, ByteArray.emptyWithCapacity, h5]
      rfl
    · rw [h5]
      have h8 := cU (P := P) (w := w) (cap := cap') rfl (fun j x hj => by have := h7 j x hj; simpa [aI, Ty.size] using this)
      simp [convert, run_underlying hu, run_underlying hk, run_underlying hu8, h8]
   all_goals simp at he
 · rename_i i' ver esz lo n ho
   rw [ho] at hk
   cases hp
   simp only [aD] at he
   have hc := h.ch i'
   generalize hg : aC s.H i' = c at he hc
   cases c <;> (try (simp at he; done))
   rename_i rt e' ver' L
   cases e'
   case int k =>
    cases k <;> (try (simp at he; done))
    dsimp only at he
    split at he <;> (try simp at he)
    rename_i hb
    obtain ⟨hb, hbz⟩ := Bool.and_eq_true_iff.1 hb
    have hb := beq_eq hb
    have hbz := beq_eq hbz
    subst hb; subst hbz
    obtain ⟨rfl, rfl, rfl⟩ := he
    obtain ⟨h2, h3⟩ := hc
    obtain ⟨h6, h0, h1, h4⟩ := hx
    obtain ⟨e, hu, hu8⟩ := hsl h6
    have h4 := h4 h2
    obtain ⟨ao, len, cap, h7, h8, h9, h10, h11, rfl⟩ := h4
    refine ⟨by simp [dD, aD, hg], _, ?_, rfl⟩
    have hn : ∀ q : Option Addr, n () = 0 → (convert ts td (.slice q 0 (cap - (lo ()).toNat))).run P w = .ok (.string ⟨(([] : List Int).map fun x => x.toNat.toUInt8).toArray⟩) w := by
     intro q _
     cases q with
     | some q =>
       have h3 := run_loadCells_list (P := P) w q [] (by simp)
       have h4 := run_bytesToString w q 0 (cap - (lo ()).toNat) [] (by simpa using h3)
       simp [convert, run_underlying hu, run_underlying hk, run_underlying hu8, h4, ByteArray.empty, ByteArray.emptyWithCapacity]
       rfl
     | none =>
       simp [convert, run_underlying hu, run_underlying hk, run_underlying hu8, Conv.bytesToString, ByteArray.empty, ByteArray.emptyWithCapacity]
       rfl
    by_cases hz : n () = 0
    · have hz' : (n ()).toNat = 0 := by omega
      have := hn (if cap = (lo ()).toNat then ao else ao.map (·.add ((lo ()).toNat * 1))) hz
      simpa [hz'] using this
    · rcases h3 with ⟨⟨ao', h3⟩, h5, _⟩ | ⟨b', off', cap', h5, _, _, _, h12, _⟩
      · rw [h7] at h3; cases h3; omega
      · rw [h7] at h5
        cases h5
        rw [if_neg (by omega)]
        have hlen : (((L ()).drop (lo ()).toNat).take (n ()).toNat).length = (n ()).toNat := by rw [List.length_take, List.length_drop]; omega
        have h13 := cU (P := P) (w := w) (b := b') (off := off' + (lo ()).toNat) (cap := cap - (lo ()).toNat) hlen (fun j x hj => by
         rw [List.getElem?_take] at hj
         split at hj
         · rw [List.getElem?_drop] at hj
           have := h12 _ x hj
           simpa [aI, Ty.size, Nat.add_assoc] using this
         · cases hj)
        simp [add_lit, convert, run_underlying hu, run_underlying hk, run_underlying hu8, h13]
   all_goals simp at he
 · cases hp
theorem run_sliceBound (kk : IntKind) {n : Int} {y : Nat} (c : BoundsCode) (h0 : 0 ≤ n) (h1 : n ≤ y) : (Instr.sliceBound (.int kk n) y c).run P w = .ok n.toNat w := by
 simp [Instr.sliceBound, asIntOf, h0, h1]
def eJ (ρ : Ev) : Option SV → Option Value → Prop
 | none, none => True
 | some x, some v => Den ρ x v
 | _, _ => False
theorem qF {x : Option SV} {y : Option (U Int)} (h : gG x = some y) {v : Option Value} (hv : eJ ρ x v) :
 (y = none ∧ v = none) ∨ ∃ k n, y = some n ∧ v = some (.int k (n ())) := by
 cases x with
 | none => cases v with
   | none => cases h; exact .inl ⟨rfl, rfl⟩
   | some v => cases hv
 | some x => cases v with
   | none => cases hv
   | some v =>
     simp only [gG] at h
     split at h
     · rename_i k n hk
       cases h
       exact .inr ⟨k, n, rfl, by rw [bF hk hv]⟩
     · cases h
theorem eX {t e : TypeId} {esz : Nat} (hu : P.underlying t = some (.slice e)) (hz : (Go.sizeOf e).run P w = .ok esz w) {ao : Option Addr} {len cap : Nat} (hlc : len ≤ cap)
 {lo hi : Option SV} {lv hv : Option Value} {lo' hi' : Option (U Int)} (h1 : gG lo = some lo') (h2 : gG hi = some hi') (d1 : eJ ρ lo lv) (d2 : eJ ρ hi hv)
 (n : U Int) (hn : n () = len) (c0 : 0 ≤ eZ lo' ()) (c1 : eZ lo' () ≤ fm hi' n ()) (c2 : fm hi' n () ≤ len) :
 (Instr.sliceAt t (.slice ao len cap) lv hv none).run P w =
   .ok (.slice (if cap = (eZ lo' ()).toNat then ao else ao.map (·.add ((eZ lo' ()).toNat * esz))) (fm hi' n () - eZ lo' ()).toNat (cap - (eZ lo' ()).toNat)) w := by
 have hb : (Instr.sliceBounds true len cap lv hv none).run P w = .ok ((eZ lo' ()).toNat, (fm hi' n ()).toNat, cap) w := by
  rcases qF h1 d1 with ⟨rfl, rfl⟩ | ⟨k1, n1, rfl, rfl⟩ <;> rcases qF h2 d2 with ⟨rfl, rfl⟩ | ⟨k2, n2, rfl, rfl⟩ <;> simp only [eZ, fm] at c0 c1 c2 ⊢
  · simp [Instr.sliceBounds, hn]
  · have e2 := run_sliceBound (P := P) (w := w) k2 (n := n2 ()) (y := cap) .sliceAcap (by omega) (by omega)
    simp [Instr.sliceBounds, e2]
  · have e1 := run_sliceBound (P := P) (w := w) k1 (n := n1 ()) (y := len) .sliceB c0 (by omega)
    simp [Instr.sliceBounds, e1, hn]
  · have e2 := run_sliceBound (P := P) (w := w) k2 (n := n2 ()) (y := cap) .sliceAcap (by omega) (by omega)
    have e1 := run_sliceBound (P := P) (w := w) k1 (n := n1 ()) (y := (n2 ()).toNat) .sliceB c0 (by omega)
    simp [Instr.sliceBounds, e1, e2]
 have e3 : (fm hi' n ()).toNat - (eZ lo' ()).toNat = (fm hi' n () - eZ lo' ()).toNat := by omega
 simp [Instr.sliceAt, Instr.slice, run_underlying hu, hb, hz, e3]
theorem ua {t : TypeId} {i : TI} (hT : af P t i) (h : Holds AI G s ρ a.tmps w) {esz : Nat} (hz : ∀ e, jn i.kind = some e → (Go.sizeOf e).run P w = .ok esz w) {x : SV} {lo hi mx : Option SV} {u : Value} {lv hv mv : Option Value}
 (hx : Den ρ x u) (d1 : eJ ρ lo lv) (d2 : eJ ρ hi hv) (d3 : eJ ρ mx mv) {p : aZ A} (hp : kO i esz x lo hi mx = some p) {d : List Bool} {C : U Prop} {v : SV} {cs : List (Chunk A)}
 (he : p.eff (aD s.H p.ids) d = .done C v cs) (hC : C ()) : dD s p cs ∧ ∃ y, (Instr.sliceAt t u lv hv mv).run P w = .ok y w ∧ Den ρ v y := by
 have hk := hT.kind
 unfold kO at hp
 split at hp
 · rename_i e ty ho
   rw [ho] at hk hz
   obtain ⟨hu, _⟩ := hk
   have hz := hz e rfl
   have : mv = none := by cases mv with
    | none => rfl
    | some _ => cases d3
   subst this
   split at hp
   · rename_i lo' h1
     split at hp
     · rename_i hi' h2
       split at hp
       · rename_i e' L
         split at hp
         · cases hp
         · rename_i hb
           have hb := beq_eq hb
           subst hb
           cases hp
           simp at he
           obtain ⟨rfl, rfl, rfl⟩ := he
           obtain ⟨ao, cap, rfl, hlc, h3⟩ := hx
           obtain ⟨c0, c1, c2⟩ := hC
           refine ⟨rfl, _, eX hu hz hlc h1 h2 d1 d2 _ rfl c0 c1 c2, ?_⟩
           generalize eZ lo' = l at *
           generalize fm hi' (fun _ => ((L ()).length : Int)) = hh at *
           have hlen : (((L ()).take (hh ()).toNat).drop (l ()).toNat).length = (hh () - l ()).toNat := by rw [List.length_drop, List.length_take]; omega
           refine ⟨_, _, by rw [hlen], by rw [hlen]; omega, fun hpos => ?_⟩
           rw [hlen] at hpos
           obtain ⟨b, off, rfl, h4⟩ := h3 (by omega)
           rw [if_neg (by omega)]
           refine ⟨b, off + (l ()).toNat * e'.size, by simp [add_lit], fun j x hj => ?_⟩
           rw [List.getElem?_drop, List.getElem?_take] at hj
           split at hj
           · have := h4 _ _ hj
             refine aI.congr _ this fun k v _ hv => ?_
             rw [← hv]
             congr 1
             rw [Nat.add_mul]; omega
           · cases hj
       · rename_i i' ver
         cases hp
         simp only [aD] at he
         have hc := h.ch i'
         generalize hg : aC s.H i' = c at he hc
         cases c <;> simp at he
         rename_i rt e' ver' L
         split at he <;> (try simp at he)
         rename_i hb
         obtain ⟨hb1, hb2⟩ := Bool.and_eq_true_iff.1 hb
         have hb1 := beq_eq hb1
         have hb2 := beq_eq hb2
         subst hb1; subst hb2
         obtain ⟨rfl, rfl, rfl⟩ := he
         obtain ⟨h5, h6⟩ := hc
         obtain ⟨_, h7, h8⟩ := hx
         have h8 := h8 h5
         subst h8
         obtain ⟨c0, c1, c2⟩ := hC
         refine ⟨by simp [dD, aD, hg], ?_⟩
         obtain ⟨ao, cap, hr, hlc⟩ : ∃ ao cap, ρ.root i' = .slice ao (L ()).length cap ∧ (L ()).length ≤ cap := by
          rcases h6 with ⟨⟨ao, h3⟩, h4, _⟩ | ⟨b', off', cap', h3, _, h4, _⟩
          · exact ⟨ao, 0, by rw [h3, h4]; rfl, by rw [h4]; simp⟩
          · exact ⟨_, _, h3, h4⟩
         rw [hr]
         refine ⟨_, eX hu hz hlc h1 h2 d1 d2 _ rfl c0 c1 c2, ⟨_, _, _, rfl⟩, fun _ => ⟨_, _, rfl⟩, h7, fun _ => ?_⟩
         exact ⟨ao, _, cap, hr, c0, by dsimp only; omega, by dsimp only; omega, hlc, rfl⟩
       · cases hp
     · cases hp
   · cases hp
 · cases hp
theorem zG (ats : Array TypeId) (ty : TypeId) (k : IntKind) (a b : Int) (w : World) : (Builtin.max_ ats ty #[.int k a, .int k b]).run P w = .ok (.int k (max a b)) w := by
 have e : (if b > a then b else a) = max a b := by omega
 simp [Builtin.max_, Builtin.max2, e]
theorem zE (ats : Array TypeId) (ty : TypeId) (k : IntKind) (a b : Int) (w : World) : (Builtin.min_ ats ty #[.int k a, .int k b]).run P w = .ok (.int k (min a b)) w := by
 have e : (if b < a then b else a) = min a b := by omega
 simp [Builtin.min_, Builtin.min2, e]
theorem zF (ats : Array TypeId) (ty : TypeId) (k : IntKind) (a b c : Int) (w : World) : (Builtin.max_ ats ty #[.int k a, .int k b, .int k c]).run P w = .ok (.int k (max (max a b) c)) w := by
 have e : (if b > a then b else a) = max a b := by omega
 have e' : ∀ z : Int, (if c > z then c else z) = max z c := by intro z; omega
 simp [Builtin.max_, Builtin.max2, e, e']
theorem zD (ats : Array TypeId) (ty : TypeId) (k : IntKind) (a b c : Int) (w : World) : (Builtin.min_ ats ty #[.int k a, .int k b, .int k c]).run P w = .ok (.int k (min (min a b) c)) w := by
 have e : (if b < a then b else a) = min a b := by omega
 have e' : ∀ z : Int, (if c < z then c else z) = min z c := by intro z; omega
 simp [Builtin.min_, Builtin.min2, e, e']
theorem aL.two {α β : Type} {R : α → β → Prop} {x y : α} {us : List β} (h : aL R [x, y] us) : ∃ a b, us = [a, b] ∧ R x a ∧ R y b := by
 cases h with | cons h1 h => cases h with | cons h2 h => cases h; exact ⟨_, _, rfl, h1, h2⟩
theorem aL.three {α β : Type} {R : α → β → Prop} {x y z : α} {us : List β} (h : aL R [x, y, z] us) : ∃ a b c, us = [a, b, c] ∧ R x a ∧ R y b ∧ R z c := by
 cases h with | cons h1 h => cases h with | cons h2 h => cases h with | cons h3 h => cases h; exact ⟨_, _, _, rfl, h1, h2, h3⟩
theorem lV {isMax : Bool} {xs : List SV} {us : List Value} (hx : aL (Den ρ) xs us) {p : aZ A} (hp : fv isMax xs = some p) (ats : Array TypeId) (ty : TypeId) :
 ∃ C v, p = ⟨[], 0, false, fun _ _ => .done C v []⟩ ∧ (C () → ∃ y, (if isMax then Builtin.max_ ats ty us.toArray else Builtin.min_ ats ty us.toArray).run P w = .ok y w ∧ Den ρ v y) := by
 unfold fv at hp
 split at hp
 · rename_i x y
   obtain ⟨u1, u2, rfl, hx, hy⟩ := hx.two
   split at hp
   · rename_i k m hm
     split at hp
     · rename_i k' n hn
       split at hp
       · rename_i hk
         simp at hk
         subst hk
         cases hp
         rw [bF hm hx, bF hn hy]
         refine ⟨_, _, rfl, fun _ => ?_⟩
         cases isMax
         · exact ⟨_, zE ats ty _ _ _ _, rfl⟩
         · exact ⟨_, zG ats ty _ _ _ _, rfl⟩
       · cases hp
     · cases hp
   · cases hp
 · rename_i x y z
   obtain ⟨u1, u2, u3, rfl, hx, hy, hz⟩ := hx.three
   split at hp
   · rename_i k m hm
     split at hp
     · rename_i k' n hn
       split at hp
       · rename_i k'' o ho
         split at hp
         · rename_i hk
           obtain ⟨hk1, hk2⟩ := Bool.and_eq_true_iff.1 hk
           simp at hk1 hk2
           subst hk1; subst hk2
           rw [bF hm hx, bF hn hy, bF ho hz]
           cases isMax
           · simp only [maxOf, cH, one, qD] at hp
             cases hp
             exact ⟨_, _, rfl, fun _ => ⟨_, zD ats ty _ _ _ _ _, rfl⟩⟩
           · simp only [maxOf, cH, one, qD] at hp
             cases hp
             exact ⟨_, _, rfl, fun _ => ⟨_, zF ats ty _ _ _ _ _, rfl⟩⟩
         · cases hp
       · cases hp
     · cases hp
   · cases hp
 · cases hp
end Go.Sx
namespace Go.Sx
set_option linter.all false
open Go.RowKit
variable {A : Type} {AI : Abs A} {G : Fr} {s : SS A} {ρ : Ev} {a : Act} {w : World} {P : Program}
def Ev.upd (ρ : Ev) (i : Nat) (r : Value) (v : Nat) (F : List Nat) : Ev :=
 { root := fun k => if k = i then r else ρ.root k, ver := fun k => if k = i then v else ρ.ver k, M := ρ.M, foot := fun k => if k = i then F else ρ.foot k }
theorem Holds.dx {tmps : Array Value} (h : Holds AI G s ρ tmps w) (i : Nat) (r : Value) (v : Nat) (F : List Nat) (c : Chunk A) (w' : World)
 (hr : ∀ b, ρ.root i = .pointer (some ⟨b, 0, none⟩) → r = .pointer (some ⟨b, 0, none⟩)) (hv : ρ.ver i ≤ v) (hs : ρ.ver i = v → (∃ ao l c, ρ.root i = .slice ao l c) → r = ρ.root i)
 (foot : ∀ b ∈ F, (b ∈ ρ.foot i ∨ w.heap.size ≤ b) ∧ b < w'.heap.size)
 (blocks : ∀ b, b < w.heap.size → b ∉ ρ.foot i → w'.heap[b]? = w.heap[b]?)
 (os : w'.os = w.os) (tape : w'.tape = w.tape) (output : w'.output = w.output) (size : w.heap.size ≤ w'.heap.size)
 (hc : aQ AI (ρ.upd i r v F) w' i c) : Holds AI G ⟨s.tm, bX s.H i c⟩ (ρ.upd i r v F) tmps w' ∧ ρ.Le (ρ.upd i r v F) := by
 have le : ρ.Le (ρ.upd i r v F) := by
  refine ⟨fun _ _ _ h => h, fun k b hk => ?_, fun k => ?_, fun k e hk => ?_⟩
  · simp only [Ev.upd]; split
    · rename_i e; subst e; exact hr b hk
    · exact hk
  · simp only [Ev.upd]; split
    · rename_i e; subst e; exact hv
    · exact Nat.le_refl _
  · simp only [Ev.upd] at e ⊢; split
    · rename_i e'; subst e'; rw [if_pos rfl] at e; exact hs e hk
    · rfl
 refine ⟨h.step (fun k => k = i) le rfl (fun k hk => ?_) (fun k hk b hb => ?_) (fun k j b hk hj hkj _ => ?_) (fun b hb hn => blocks b hb (hn i rfl)) os tape output size (fun k hk => ?_), le⟩
 · simp [Ev.upd, hk, aP]
 · subst hk
   simp only [Ev.upd, if_pos] at hb
   obtain ⟨h1, h2⟩ := foot b hb
   exact ⟨h1.imp (fun h => ⟨k, rfl, h⟩) id, h2⟩
 · exact absurd (hk.trans hj.symm) hkj
 · subst hk
   rw [aP, if_pos rfl]
   exact hc
def bV (AI : Abs A) (G : Fr) (P : Program) (s : SS A) (a : Act) (w : World) (ρ : Ev) (x : Sem Value) (H' : List (Chunk A)) (v : SV) : Prop :=
 ∃ y ρ' w', x.run P w = .ok y w' ∧ Holds AI G ⟨s.tm, H'⟩ ρ' a.tmps w' ∧ Den ρ' v y ∧ ρ.Le ρ'
theorem bV.looks (h : Holds AI G s ρ a.tmps w) {p : aZ A} {cs : List (Chunk A)} {x : Sem Value} {v : SV} (hl : dD s p cs) (hx : ∃ y, x.run P w = .ok y w ∧ Den ρ v y) :
 bV AI G P s a w ρ x (aO s.H p.ids cs) v := by
 obtain ⟨y, h1, h2⟩ := hx
 refine ⟨y, ρ, w, h1, h.bt fun i => ?_, h2, .refl _⟩
 rw [hl]; exact cw _ _ _ (fun _ => rfl) i
theorem ju (w : World) (o : Obj) : (w.alloc o).heap[w.heap.size]? = some o := by show (w.heap.push o)[w.heap.size]? = some o; simp
theorem dC (w : World) (o : Obj) {b : Nat} (hb : b < w.heap.size) : (w.alloc o).heap[b]? = w.heap[b]? := Below.heap_alloc w o b hb
theorem Holds.more {tmps : Array Value} (h : Holds AI G s ρ tmps w) {w' : World} (old : ∀ b, b < w.heap.size → w'.heap[b]? = w.heap[b]?) (os : w'.os = w.os) (tape : w'.tape = w.tape) (output : w'.output = w.output) (size : w.heap.size ≤ w'.heap.size) :
 ∃ ρ' : Ev, Holds AI G s ρ' tmps w' ∧ ρ.Le ρ' ∧ ρ'.root = ρ.root ∧ ρ'.ver = ρ.ver ∧ ρ'.foot = ρ.foot ∧ ∀ b o v, w.heap.size ≤ b → w'.cell? ⟨b, o, none⟩ = some v → ρ'.M b o = some v := by
 have hM : ∀ b o v, ρ.M b o = some v → b < w.heap.size := fun b o v hm => World.block_lt_of_cell? w ⟨b, o, none⟩ (h.im b o v hm).1
 let ρ' : Ev := { ρ with M := fun b o => if w.heap.size ≤ b then w'.cell? ⟨b, o, none⟩ else ρ.M b o }
 have le : ρ.Le ρ' := ⟨fun b o v hm => by have := hM b o v hm; simp only [ρ']; rw [if_neg (by omega)]; exact hm, fun _ _ h => h, fun _ => Nat.le_refl _, fun _ _ _ => rfl⟩
 refine ⟨ρ', ⟨h.sz, h.gt, fun t v ht => ?_, fun i => (h.ch i).stays le rfl rfl rfl fun b hb => old b (h.lt i b hb), h.dis, fun i b hb => Nat.lt_of_lt_of_le (h.lt i b hb) size, fun b o v hm => ?_, os.trans h.os, tape.trans h.tape, output.trans h.output, Nat.le_trans h.grow size,
  fun b hb hn => (old b (Nat.lt_of_lt_of_le hb h.grow)).trans (h.kept b hb hn), h.fro, h.rt, h.rts, fun b o v hm => le.M b o v (h.mono b o v hm), fun b o v hm => ?_⟩, le, rfl, rfl, rfl, fun b o v hb hc => by simp only [ρ']; rw [if_pos hb]; exact hc⟩
 · obtain ⟨u, h1, h2⟩ := h.tm t v ht; exact ⟨u, h1, h2.mono le⟩
 · simp only [ρ'] at hm
   split at hm
   · rename_i hb
     exact ⟨hm, fun i hi => by have := h.lt i b hi; omega⟩
   · have := hM b o v hm
     exact ⟨(dY (old b this) o).trans (h.im b o v hm).1, (h.im b o v hm).2⟩
 · simp only [ρ'] at hm
   split at hm
   · rename_i hb; exact .inr (.inr (Nat.le_trans h.grow hb))
   · exact h.mfr b o v hm
theorem Holds.alloc (h : Holds AI G s ρ a.tmps w) {i : Nat} (hi : aC s.H i = .emp) {t : TypeId} {cs : List SV1} {vs : List Value} (hd : aL (aK ρ) cs vs) :
 ∃ ρ', Holds AI G ⟨s.tm, bX s.H i (.cells t cs)⟩ ρ' a.tmps (w.alloc (.cells vs.toArray t (0, 0))) ∧ Den ρ' (one (.ptr i 0)) (.pointer (some ⟨w.heap.size, 0, none⟩)) ∧ ρ.Le ρ' := by
 have hc := h.ch i
 rw [hi] at hc
 obtain ⟨h1, h2, h3⟩ := hc
 obtain ⟨h4, h5⟩ := h.dx i (.pointer (some ⟨w.heap.size, 0, none⟩)) 0 [w.heap.size] (.cells t cs) (w.alloc (.cells vs.toArray t (0, 0)))
  (by rw [h2]; simp) (by omega) (by rw [h2]; simp) (by simp) (fun b hb _ => dC w _ hb) rfl rfl rfl (by simp)
  (by
    refine ⟨w.heap.size, vs, by simp [Ev.upd], by simp [Ev.upd], ju _ _, hd.mono fun _ _ hx => aK.mono ?_ hx⟩
    refine ⟨fun _ _ _ h => h, fun k b hk => ?_, fun k => ?_, fun k e hk => ?_⟩
    · simp only [Ev.upd]; split
      · rename_i e; subst e; rw [h2] at hk; cases hk
      · exact hk
    · simp only [Ev.upd]; split
      · rename_i e; subst e; omega
      · exact Nat.le_refl _
    · simp only [Ev.upd]; split
      · rename_i e; subst e; rw [h2] at hk; obtain ⟨_, _, _, hk⟩ := hk; cases hk
      · rfl)
 exact ⟨_, h4, ⟨w.heap.size, by simp [Ev.upd], rfl⟩, h5⟩
theorem gw {x : SV1} {v : Value} (h : storable x = true) (hd : aK ρ x v) : v.oneCell' = true := by
 cases x <;> simp [storable] at h <;> simp only [aK] at hd
 case ptr => obtain ⟨_, _, rfl⟩ := hd; rfl
 case mp => obtain ⟨_, _, rfl⟩ := hd; rfl
 case ro => obtain ⟨_, _, rfl, _⟩ := hd; rfl
 case hd => obtain ⟨⟨_, _, _, rfl⟩, _⟩ := hd; rfl
 case vw => obtain ⟨⟨_, _, _, rfl⟩, _⟩ := hd; rfl
 case ep => obtain ⟨_, rfl, _⟩ := hd; rfl
 case rp => obtain ⟨_, _, rfl, _⟩ := hd; rfl
 case fnc => obtain ⟨_, rfl, _⟩ := hd; rfl
 all_goals (subst hd; rfl)
theorem qc : ∀ {l : List SV1} {ids : List Nat} {vs : List Value}, tp l = some ids → aL (aK ρ) l vs → aL (fun i u => ∃ b, ρ.root i = .pointer (some ⟨b, 0, none⟩) ∧ u = .pointer (some ⟨b, 0, none⟩)) ids vs
 | [], ids, vs, h, hv => by cases h; cases hv; exact .nil
 | x :: r, ids, vs, h, hv => by
   unfold tp at h
   split at h
   · rename_i e; cases e
   · rename_i i r' e
     cases e
     split at h <;> cases h
     rename_i l hl
     cases hv with
     | cons h1 h2 =>
       obtain ⟨b, h3, h4⟩ := h1
       exact .cons ⟨b, h3, h4⟩ (qc hl h2)
   · cases h
theorem aL.storable {l : List SV1} {vs : List Value} (hd : aL (aK ρ) l vs) (h : l.all Sx.storable = true) : ∀ v ∈ vs, v.oneCell' = true := by
 induction hd with
 | nil => simp
 | cons h1 _ ih =>
   simp only [List.all_cons, Bool.and_eq_true] at h
   intro v hv
   rcases List.mem_cons.1 hv with rfl | hv
   · exact gw h.1 h1
   · exact ih h.2 v hv
theorem eV {v : SV} {l : List SV1} (h : cellsOf v = some l) {u : Value} (hu : Den ρ v u) (hs : l.all Sx.storable = true) : aL (aK ρ) l u.cells.toList := by
 cases v with
 | tup l => cases h
 | val x =>
   cases x with
   | one x =>
     cases h
     simp only [List.all_cons, List.all_nil, Bool.and_true] at hs
     have := gw hs hu
     have e : u.cells = #[u] := by cases u <;> simp [Value.oneCell'] at this <;> rfl
     rw [e]; exact .cons hu .nil
   | agg l' => cases h; obtain ⟨vs, rfl, h2⟩ := hu; simpa [Value.cells] using h2
   | fn f l' =>
     simp only [cellsOf] at h
     split at h <;> cases h
     rename_i ids hids
     obtain ⟨vs, rfl, h2⟩ := hu
     exact .cons ⟨vs, rfl, qc hids h2⟩ .nil
theorem rX {t : TypeId} {i : TI} (hT : af P t i) (h : Holds AI G s ρ a.tmps w) {k off : Nat} {ct : TypeId} {l l' vs : List SV1} {u v : Value} (hu : Den ρ (one (.ptr k off)) u) (hk : aC s.H k = .cells ct l)
 (hv : aL (aK ρ) vs v.cells.toList) (hsz : vs.length = i.size) (hst : vs.all storable = true) (hp : dN l off vs = some l') :
 ∃ w', (Instr.storeAt t u v).run P w = .ok () w' ∧ Holds AI G ⟨s.tm, bX s.H k (.cells ct l')⟩ ρ a.tmps w' := by
 obtain ⟨b, h1, rfl⟩ := hu
 have hc := h.ch k
 rw [hk] at hc
 obtain ⟨b', us, h2, h3, h4, h5⟩ := hc
 rw [h1] at h2
 cases h2
 obtain ⟨h6, h7, h8⟩ := h5.dN hv hp
 have hlen : v.cells.toList.length = i.size := by rw [← hv.length, hsz]
 have hlen' : v.cells.size = i.size := by simpa using hlen
 by_cases h0 : vs = []
 · subst h0
   have e0 : v.cells.toList = [] := by generalize v.cells.toList = q at hv; cases hv; rfl
   have : l' = l := by cases l <;> cases off <;> simp [dN] at hp <;> first | exact hp.symm | exact hp
   subst this
   refine ⟨w, ?_, h.bt fun j => ?_⟩
   · simp [Instr.storeAt, Instr.sureAddr, storeVar, hT.sizeOf, hlen', e0, storeCells]
   · rw [← hk, rm]
 · have h8 := h8 h0
   have hrun := run_storeCells_at (P := P) b off ct v.cells.toList 0 us.toArray w h4 (by simpa using h8) (hv.storable hst)
   simp only [Nat.add_zero] at hrun
   refine ⟨_, by simp [Instr.storeAt, Instr.sureAddr, storeVar, hT.sizeOf, hlen']; exact hrun, ?_⟩
   have hself : ρ.upd k (ρ.root k) (ρ.ver k) (ρ.foot k) = ρ := by
    cases ρ; simp only [Ev.upd, Ev.mk.injEq, true_and]
    exact ⟨by funext j; split <;> simp_all, by funext j; split <;> simp_all, by funext j; split <;> simp_all⟩
   have hblt : b < w.heap.size := h.lt k b (by simp [h3])
   have := (h.dx k (ρ.root k) (ρ.ver k) (ρ.foot k) (.cells ct l') (w.setRow b (us.toArray.toList.take off ++ v.cells.toList ++ us.toArray.toList.drop (off + v.cells.toList.length)).toArray)
    (fun _ h => h) (Nat.le_refl _) (fun _ _ => rfl) (fun b' hb' => ⟨.inl hb', by rw [setRow_size]; exact h.lt k b' hb'⟩)
    (fun b' hb' hn => setRow_other w b b' _ (fun e => hn (by rw [h3, e]; simp))) rfl rfl rfl (by simp)
    (by rw [hself]; exact ⟨b, _, h1, h3, setRow_heap w b _ _ ct (0, 0) h4, h6⟩)).1
   rwa [hself] at this
end Go.Sx
namespace Go.Sx
set_option linter.all false
open Go.RowKit
variable {A : Type} {AI : Abs A} {G : Fr} {s : SS A} {ρ : Ev} {a : Act} {w : World} {P : Program}
theorem di (b : Nat) : ∀ (vs : List Value) (o : Nat) (w : World) (k : Nat), k ≠ b → (w.setCells b o vs).heap[k]? = w.heap[k]?
 | [], _, _, _, _ => rfl
 | v :: r, o, w, k, h => by rw [World.setCells, di b r _ _ k h, Below.heap_setCell _ _ _ _ h]
theorem cZ (b : Nat) : ∀ (vs : List Value) (o : Nat) (w : World), (w.setCells b o vs).heap.size = w.heap.size
 | [], _, _ => rfl
 | v :: r, o, w => by rw [World.setCells, cZ b r]; simp [World.setCell]
theorem fF (b : Nat) : ∀ (vs : List Value) (o : Nat) (w : World) (k : Nat), (w.setCells b o vs).shape? k = w.shape? k
 | [], _, _, _ => rfl
 | v :: r, o, w, k => by
   rw [World.setCells, fF b r]
   simp only [World.shape?, World.setCell, Array.getElem?_modify]
   by_cases e : b = k
   · subst e
     simp only [if_true]
     cases w.heap[b]? with
     | none => rfl
     | some x => cases x <;> simp
   · rw [if_neg e]
theorem bJ (b : Nat) : ∀ (vs : List Value) (o : Nat) (w : World), (w.setCells b o vs).os = w.os ∧ (w.setCells b o vs).tape = w.tape ∧ (w.setCells b o vs).output = w.output
 | [], _, _ => ⟨rfl, rfl, rfl⟩
 | v :: r, o, w => bJ b r _ _
theorem ca {b o : Nat} {vs : List Value} (h : ∀ j, j < vs.length → (w.cell? ⟨b, o + j, none⟩).isSome = true) (k : Nat) :
 (w.setCells b o vs).cell? ⟨b, k, none⟩ = if o ≤ k ∧ k < o + vs.length then vs[k - o]? else w.cell? ⟨b, k, none⟩ := by
 split
 · rename_i hk
   have h1 := World.cell?_setCells_in b vs o w h (k - o) (by omega)
   rw [show o + (k - o) = k by omega] at h1
   rw [h1, List.getElem?_eq_getElem (by omega)]
 · rename_i hk
   exact World.cell?_setCells_out b vs o w _ (fun _ _ => by simp; omega)
theorem oh {M : Ev} : ∀ (e : Ty) (x : U e.T) {vs : List Value}, aL (aK M) (dec e x) vs → ∀ v ∈ vs, v.oneCell' = true
 | .int k, x, vs, h => by cases h with | cons h t => cases t; cases h; simp [Value.oneCell']
 | .bool, x, vs, h => by cases h with | cons h t => cases t; cases h; simp [Value.oneCell']
 | .bytes, x, vs, h => by cases h with | cons h t => cases t; obtain ⟨_, _, rfl, _⟩ := h; simp [Value.oneCell']
 | .str, x, vs, h => by cases h with | cons h t => cases t; cases h; simp [Value.oneCell']
 | .unit, x, vs, h => by cases h; simp
 | .lst e, x, vs, h => by cases h with | cons h t => cases t; obtain ⟨_, _, rfl, _⟩ := h; simp [Value.oneCell']
 | .pair a b, x, vs, h => by
   simp only [dec] at h
   have key : ∀ {l l' : List SV1} {vs : List Value}, aL (aK M) (l ++ l') vs → ∃ u v, vs = u ++ v ∧ aL (aK M) l u ∧ aL (aK M) l' v := by
    intro l
    induction l with
    | nil => intro l' vs h; exact ⟨[], vs, rfl, .nil, h⟩
    | cons x r ih =>
      intro l' vs h
      cases h with
      | cons h t => obtain ⟨u, v, rfl, h1, h2⟩ := ih t; exact ⟨_ :: u, v, rfl, .cons h h1, h2⟩
   obtain ⟨u, v, rfl, h1, h2⟩ := key h
   intro y hy
   rcases List.mem_append.1 hy with hy | hy
   · exact oh a _ h1 y hy
   · exact oh b _ h2 y hy
def eP (M : Mem) (e : Ty) (L : List e.T) (us : List Value) : Prop :=
 us.length = L.length * e.size ∧ (∀ u ∈ us, u.oneCell' = true) ∧ ∀ j x, L[j]? = some x → aI M e x (fun i => us[j * e.size + i]?)
theorem fI {M : Mem} {e : Ty} : ∀ (L : List e.T) (c : Nat → Option Value), (∀ j x, L[j]? = some x → aI M e x (fun i => c (j * e.size + i))) → ∃ us, eP M e L us ∧ ∀ (k : Nat) v, us[k]? = some v → c k = some v
 | [], c, h => ⟨[], ⟨by simp, by simp, by simp⟩, by simp⟩
 | x :: r, c, h => by
   obtain ⟨us, ⟨h1, h2, h3⟩, h4⟩ := fI r (fun k => c (e.size + k)) (fun j y hj => by
    have := h (j + 1) y (by simpa using hj)
    refine aI.congr e this fun k v _ hv => ?_
    rw [← hv, show e.size + (j * e.size + k) = (j + 1) * e.size + k by rw [Nat.add_mul]; omega])
   have h0 := h 0 x rfl
   simp only [Nat.zero_mul, Nat.zero_add] at h0
   obtain ⟨vs, h5, h6⟩ := aI.dec (ρ := ⟨fun _ => undef, fun _ => 0, M, fun _ => []⟩) e (fun _ => x) _ h0
   have hl : vs.length = e.size := by rw [← h5.length, dX]
   refine ⟨vs ++ us, ⟨by simp [hl, h1, Nat.add_mul]; omega, fun u hu => ?_, fun j y hj => ?_⟩, fun k v hk => ?_⟩
   · rcases List.mem_append.1 hu with hu | hu
     · exact oh e _ h5 u hu
     · exact h2 u hu
   · cases j with
     | zero =>
       simp at hj
       subst hj
       refine aI.congr e h0 fun k v hk hv => ?_
       have hk' : k < vs.length := by omega
       have := h6 k _ (List.getElem?_eq_getElem hk')
       simp only [Nat.zero_mul, Nat.zero_add]
       rw [List.getElem?_append_left hk', List.getElem?_eq_getElem hk', ← this, hv]
     | succ j =>
       refine aI.congr e (h3 j y (by simpa using hj)) fun k v hk hv => ?_
       have e1 : (j + 1) * e.size + k = e.size + (j * e.size + k) := by rw [Nat.add_mul]; omega
       rw [e1, List.getElem?_append_right (by omega), ← hv, hl, show e.size + (j * e.size + k) - e.size = j * e.size + k by omega]
   · by_cases hk' : k < vs.length
     · rw [List.getElem?_append_left hk'] at hk; exact h6 k v hk
     · rw [List.getElem?_append_right (by omega)] at hk
       have := h4 _ _ hk
       rw [hl] at this
       simpa [show e.size + (k - e.size) = k by omega] using this
theorem fJ {M : Mem} {e : Ty} {L L' : List e.T} {us us' : List Value} (h : eP M e L us) (h' : eP M e L' us') : eP M e (L ++ L') (us ++ us') := by
 obtain ⟨h1, h2, h3⟩ := h
 obtain ⟨h4, h5, h6⟩ := h'
 refine ⟨by simp [h1, h4, Nat.add_mul], fun u hu => (List.mem_append.1 hu).elim (h2 u) (h5 u), fun j x hj => ?_⟩
 by_cases hjl : j < L.length
 · rw [List.getElem?_append_left hjl] at hj
   refine aI.congr e (h3 j x hj) fun k v hk hv => ?_
   have : j * e.size + k < us.length := by
    rw [h1]
    have := Nat.mul_le_mul_right e.size (show j + 1 ≤ L.length by omega)
    rw [Nat.add_mul] at this; omega
   rw [List.getElem?_append_left this]; exact hv
 · rw [List.getElem?_append_right (by omega)] at hj
   refine aI.congr e (h6 _ x hj) fun k v hk hv => ?_
   have h7 : L.length * e.size ≤ j * e.size := Nat.mul_le_mul_right _ (by omega)
   rw [List.getElem?_append_right (by omega), h1, ← hv]
   congr 1
   rw [Nat.sub_mul]; omega
theorem bm {size : Nat} {tx e' : TypeId} (hk : P.underlying tx = some (.slice e')) {ao : Option Addr} {n cap : Nat} {news : List Value} (hl : news.length = n * size) (h1 : ∀ u ∈ news, u.oneCell' = true)
 (hc : 0 < n → ∃ b off, ao = some ⟨b, off, none⟩ ∧ ∀ (j : Nat) u, news[j]? = some u → w.cell? ⟨b, off + j, none⟩ = some u) : Go.Src P size tx (.slice ao n cap) n news w := by
 have hcells : ∀ w' : World, (∀ x, w'.cell? x = w.cell? x) → (Builtin.firstCells size n (.slice ao n cap)).run P w' = .ok news.toArray w' := by
  intro w' hw
  rcases Nat.eq_zero_or_pos n with h0 | h0
  · subst h0
    have : news = [] := by apply List.eq_nil_of_length_eq_zero; simpa using hl
    subst this
    cases ao with
    | none => exact run_firstCells_none w' _ _ _ _
    | some q => exact run_firstCells_some w' size 0 q 0 cap [] (by simp) (by simp)
  · obtain ⟨b, off, rfl, h2⟩ := hc h0
    exact run_firstCells_some w' size n ⟨b, off, none⟩ n cap news hl (fun j v hj => by rw [add_lit, hw]; exact h2 j v hj)
 exact ⟨.inl ⟨e', hk⟩, fun _ => rfl, hcells w fun _ => rfl, hcells w.drew fun _ => rfl, hl, h1⟩
def xW (ρ : Ev) (u : Value) : Src → Prop
 | .nil => u = .slice none 0 0
 | .ro e L => ba ρ.M e (L ()) u
 | .hd i ver => aK ρ (.hd i ver) u
 | .vw i ver esz lo n => aK ρ (.vw i ver esz lo n) u
 | .str L => u = .string ⟨((L ()).map fun x => x.toNat.toUInt8).toArray⟩
 | .bad => True
def Src.jO (P : Program) (tx : TypeId) : Src → Prop
 | .str _ => P.underlying tx = some .string
 | _ => ∃ e', P.underlying tx = some (.slice e')
theorem yr {y : SV} {u : Value} (hy : Den ρ y u) : xW ρ u (ez y) := by
 unfold ez
 split <;> first | exact hy | trivial
theorem wM {y : SV} {u : Value} (hy : Den ρ y u) : xW ρ u (iw y) := by
 unfold iw
 split
 · exact hy
 · exact yr hy
theorem Src.q8 (h : Holds AI G s ρ a.tmps w) {src : Src} {u : Value} (hy : xW ρ u src) {e : Ty} {M : U (List e.T)} {r : List (Chunk A)} (hr : aD s.H src.ids = r) (hM : src.list e r = some M)
 {tx : TypeId} (hk : src.jO P tx) : ∃ news, eP ρ.M e (M ()) news ∧ Go.Src P e.size tx u (M ()).length news w := by
 cases src
 case nil =>
  obtain ⟨e', hk⟩ := hk
  simp only [Src.ids, aD] at hr
  subst hr
  simp only [Src.list, Option.some.injEq] at hM
  subst hM
  cases hy
  exact ⟨[], ⟨by simp, by simp, by simp⟩, bm hk (by simp) (by simp) (by simp)⟩
 case ro e2 L =>
  obtain ⟨e', hk⟩ := hk
  simp only [Src.ids, aD] at hr
  subst hr
  simp only [Src.list] at hM
  split at hM <;> simp at hM
  rename_i f hf
  subst hM
  obtain ⟨rfl, hf2⟩ := dA hf
  have hf3 : f (L ()) = L () := hf2 _
  obtain ⟨ao, cap, rfl, h1, h2⟩ := hy
  rcases Nat.eq_zero_or_pos (L ()).length with h0 | h0
  · have e1 := List.eq_nil_of_length_eq_zero h0
    rw [hf3, e1]
    exact ⟨[], ⟨by simp, by simp, by simp⟩, bm hk (by simp) (by simp) (by simp)⟩
  · obtain ⟨b, off, rfl, h3⟩ := h2 h0
    obtain ⟨us, h4, h5⟩ := fI (L ()) (fun k => ρ.M b (off + k)) (fun j x hj => by
     have := h3 j x hj
     simpa only [Nat.add_assoc] using this)
    rw [hf3]
    exact ⟨us, h4, bm hk h4.1 h4.2.1 fun _ => ⟨b, off, rfl, fun j u hu => (h.im _ _ _ (h5 j u hu)).1⟩⟩
 case hd i ver =>
  obtain ⟨e', hk⟩ := hk
  simp only [Src.ids, aD] at hr
  subst hr
  have hc := h.ch i
  generalize aC s.H i = c at hc hM
  cases c <;> (try (simp [Src.list] at hM; done))
  rename_i rt e2 ver' L
  simp only [Src.list] at hM
  split at hM <;> (try (simp at hM; done))
  rename_i hb
  have hb := beq_eq hb
  subst hb
  split at hM <;> simp at hM
  rename_i f hf
  subst hM
  obtain ⟨rfl, hf2⟩ := dA hf
  have hf3 : f (L ()) = L () := hf2 _
  obtain ⟨h1, h2⟩ := hc
  obtain ⟨_, _, h3⟩ := hy
  have h3 := h3 h1
  rw [hf3]
  rcases h2 with ⟨⟨ao, h2⟩, h4, _⟩ | ⟨b, off, cap, h2, _, _, _, h4, _⟩
  · rw [h2] at h3
    subst h3
    rw [h4]
    exact ⟨[], ⟨by simp, by simp, by simp⟩, bm hk (by simp) (by simp) (by simp)⟩
  · rw [h2] at h3
    subst h3
    obtain ⟨us, h5, h6⟩ := fI (L ()) (fun k => w.cell? ⟨b, off + k, none⟩) (fun j x hj => by
     have := h4 j x hj
     simpa only [Nat.add_assoc] using this)
    exact ⟨us, h5, bm hk h5.1 h5.2.1 fun _ => ⟨b, off, rfl, fun j u hu => h6 j u hu⟩⟩
 case vw i ver esz lo n =>
  obtain ⟨e', hk⟩ := hk
  simp only [Src.ids, aD] at hr
  subst hr
  have hc := h.ch i
  generalize aC s.H i = c at hc hM
  cases c <;> (try (simp [Src.list] at hM; done))
  rename_i rt e2 ver' L
  simp only [Src.list] at hM
  split at hM <;> (try (simp at hM; done))
  rename_i hb
  obtain ⟨hb1, hb2⟩ := Bool.and_eq_true_iff.1 hb
  have hb1 := beq_eq hb1
  have hb2 := beq_eq hb2
  subst hb1; subst hb2
  split at hM <;> simp at hM
  rename_i f hf
  subst hM
  obtain ⟨rfl, hf2⟩ := dA hf
  rw [show f (List.take (n ()).toNat (List.drop (lo ()).toNat (L ()))) = List.take (n ()).toNat (List.drop (lo ()).toNat (L ())) from hf2 _]
  obtain ⟨h1, h2⟩ := hc
  obtain ⟨_, _, _, h3⟩ := hy
  obtain ⟨ao, len, cap, h4, h5, h6, h7, h8, rfl⟩ := h3 h1
  have hlen : ∀ q, ρ.root i = .slice q (L ()).length cap → (List.take (n ()).toNat (List.drop (lo ()).toNat (L ()))).length = (n ()).toNat := by
   intro q hq
   rw [h4] at hq
   cases hq
   rw [List.length_take, List.length_drop]; omega
  rcases h2 with ⟨⟨ao', h2⟩, h9, _⟩ | ⟨b, off, cap', h2, _, _, _, h9, _⟩
  · rw [h4] at h2
    cases h2
    rw [h9]
    have e1 : n () = 0 := by simp at h7; omega
    have e2 : (n ()).toNat = 0 := by omega
    rw [e2]
    simp only [List.drop_nil, List.take_nil, List.length_nil]
    exact ⟨[], ⟨by simp, by simp, by simp⟩, bm hk (by simp) (by simp) (by simp)⟩
  · rw [h4] at h2
    cases h2
    have hl := hlen _ h4
    obtain ⟨us, h10, h11⟩ := fI (List.take (n ()).toNat (List.drop (lo ()).toNat (L ()))) (fun k => w.cell? ⟨b, off + (lo ()).toNat * e2.size + k, none⟩) (fun j x hj => by
     rw [List.getElem?_take] at hj
     split at hj
     · rw [List.getElem?_drop] at hj
       refine aI.congr _ (h9 _ x hj) fun k v _ hv => ?_
       rw [← hv]
       congr 2
       rw [Nat.add_mul]; omega
     · cases hj)
    rw [hl]
    refine ⟨us, h10, bm hk (by rw [h10.1, hl]) h10.2.1 fun hp => ⟨b, off + (lo ()).toNat * e2.size, ?_, fun j u hu => h11 j u hu⟩⟩
    rw [if_neg (by omega)]
    simp [add_lit]
 case str L =>
  simp only [Src.ids, aD] at hr
  subst hr
  simp only [Src.list] at hM
  split at hM <;> simp at hM
  rename_i f hf
  subst hM
  obtain ⟨rfl, hf2⟩ := dA hf
  have hf3 : f ((L ()).map u8i) = (L ()).map u8i := hf2 _
  rw [hf3]
  cases hy
  have hb : Go.byteCells ⟨((L ()).map fun x => x.toNat.toUInt8).toArray⟩ = ((L ()).map u8i).map (fun x => Value.int .u8 x) := by
   simp only [Go.byteCells, List.map_map]
   rfl
  have hs := Go.Src.ofString (P := P) w hk ⟨((L ()).map fun x => x.toNat.toUInt8).toArray⟩
  have hlen : (⟨((L ()).map fun x => x.toNat.toUInt8).toArray⟩ : ByteArray).size = ((L ()).map u8i).length := by
   show ((L ()).map fun x => x.toNat.toUInt8).toArray.size = _
   simp
  rw [hb, hlen] at hs
  refine ⟨_, ⟨by simp [Ty.size], hs.one, fun j x hj => ?_⟩, hs⟩
  show (((L ()).map u8i).map (fun x => Value.int .u8 x))[j * 1 + 0]? = some (.int .u8 x)
  rw [Nat.mul_one, Nat.add_zero, List.getElem?_map, hj]
  rfl
 case bad =>
  simp [Src.list] at hM
end Go.Sx
namespace Go.Sx
set_option linter.all false
open Go.RowKit
variable {A : Type} {AI : Abs A} {G : Fr} {s : SS A} {ρ : Ev} {a : Act} {w : World} {P : Program}
theorem ib (z : Array Value) (n : Nat) : (Builtin.zeroCells z n).size = n * z.size := by simp [Builtin.zeroCells]
theorem ja {M : Mem} {e : Ty} {L : List e.T} {us : List Value} (h : eP M e L us) {rest : Array Value} {cap : Nat} (hcap : L.length ≤ cap) (hmax : cap ≤ maxLen) (hr : rest.size = (cap - L.length) * e.size) (t : TypeId) :
 bg t M (w.alloc (.cells (us.toArray ++ rest) t (0, 0))) e L (.slice (some ⟨w.heap.size, 0, none⟩) L.length cap) [w.heap.size] := by
 obtain ⟨h1, h2, h3⟩ := h
 have hcell : ∀ k, (w.alloc (.cells (us.toArray ++ rest) t (0, 0))).cell? ⟨w.heap.size, k, none⟩ = (us.toArray ++ rest)[k]? := fun k => World.cell?_alloc_new w _ t k
 refine .inr ⟨w.heap.size, 0, cap, rfl, rfl, hcap, hmax, fun j x hj => ?_, fun j hj => ⟨?_, World.frozen?_alloc_new w _ _ _⟩, fun he => ⟨(us.toArray ++ rest).size, by simp only [World.shape?, heap_alloc_new], ?_⟩⟩
 · refine aI.congr e (h3 j x hj) fun k v hk hv => ?_
   rw [hcell, Nat.zero_add]
   have hlt := (List.getElem?_eq_some_iff.1 hv).1
   rw [Array.getElem?_append_left (by simpa using hlt)]
   simpa using hv
 · rw [hcell, Nat.zero_add, Array.getElem?_eq_getElem]
   · rfl
   · simp only [Array.size_append, List.size_toArray, hr, h1]
     rw [← Nat.add_mul]
     have : L.length + (cap - L.length) = cap := by omega
     rw [this]; exact hj
 · subst he
   simp only [Array.size_append, List.size_toArray, hr, h1, Ty.size]
   omega
theorem Holds.drew {tmps : Array Value} (h : Holds AI G s ρ tmps w) : Holds AI G s ρ tmps w.drew :=
 ⟨h.sz, h.gt, h.tm, fun i => (h.ch i).stays (.refl _) rfl rfl rfl fun _ _ => rfl, h.dis, h.lt, h.im, h.os, h.tape, h.output, h.grow, h.kept, h.fro, h.rt, h.rts, h.mono, h.mfr⟩
theorem rL {tx : TypeId} {k : TK} {y : Src} (h : jJ k y = true) (hk : jO P tx k) : y.jO P tx := by
 unfold jJ at h
 split at h
 · split at h
   · exact hk
   · cases h
 · rename_i hn
   split at h
   · have hs : ∃ e', P.underlying tx = some (.slice e') := ⟨_, hk.1⟩
     cases y <;> first | exact hs | exact absurd rfl (hn _)
   · cases h
theorem u9 {t tx : TypeId} {i : TI} (hT : af P t i) (h : Holds AI G s ρ a.tmps w) {x y : SV} (hk : (iw y).jO P tx) {u v : Value} (hx : Den ρ x u) (hy : Den ρ y v) {fresh : Nat} {p : aZ A}
 (hp : jt i x y fresh = some p) {d : List Bool} {C : U Prop} {r : SV} {cs : List (Chunk A)} (he : p.eff (aD s.H p.ids) d = .done C r cs) (hC : C ()) (ty : TypeId) :
 bV AI G P s a w ρ (Builtin.append_ #[t, tx] ty #[u, v]) (aO s.H p.ids cs) r := by
 have hkind := hT.kind
 unfold jt iY at hp
 have hsrc := wM hy
 generalize iw y = src at hp hsrc hk
 split at hp
 · rename_i et0 e0 hki
   rw [hki] at hkind
   obtain ⟨hu, g, hg1, hg2⟩ := hkind
   obtain ⟨hsz, hpos, hby, _, z, hz, hz1, hz2⟩ := hg2 e0 rfl
   split at hp
   · rename_i i' ver
     split at hp
     · cases hp
     · rename_i hni
       cases hp
       simp only [aD] at he
       have hc := h.ch i'
       generalize hg : aC s.H i' = c at he hc
       cases c <;> (try (simp at he; done))
       rename_i et e ver' L
       dsimp only at he
       split at he <;> (try (simp at he; done))
       rename_i hb
       obtain ⟨hb, hb3⟩ := Bool.and_eq_true_iff.1 hb
       obtain ⟨hb1, hb2⟩ := Bool.and_eq_true_iff.1 hb
       have hb1 := beq_eq hb1
       have hb2 := beq_eq hb2
       simp at hb3
       subst hb1; subst hb2; subst hb3
       split at he <;> (try (simp at he; done))
       rename_i M hM
       simp at he
       obtain ⟨rfl, rfl, rfl⟩ := he
       obtain ⟨news, hn1, hn2⟩ := Src.q8 (P := P) h hsrc rfl hM hk
       obtain ⟨h1, h2⟩ := hc
       obtain ⟨_, hle, h3⟩ := hx
       have h3 := h3 h1
       subst h3
       have hput : ∀ c, ∀ j, aC (aO s.H (i' :: src.ids) (c :: aD s.H src.ids)) j = aC (bX s.H i' c) j := by
        intro c j
        simp only [aO]
        have key : ∀ (ids : List Nat) (H : List (Chunk A)), (∀ k ∈ ids, k ≠ i') → (∀ j, j ≠ i' → aC H j = aC s.H j) → ∀ j, aC (aO H ids (aD s.H ids)) j = aC H j := by
         intro ids
         induction ids with
         | nil => intro H _ _ j; rfl
         | cons k ks ih =>
           intro H hk hH j
           simp only [aO, aD]
           have hk0 := hk k (by simp)
           rw [ih _ (fun m hm => hk m (by simp [hm])) (fun m hm => by
            rw [aP]; split
            · rename_i e; rw [e]
            · exact hH m hm), aP]
           split
           · rename_i e; subst e; exact (hH _ hk0).symm
           · rfl
        refine key _ _ (fun k hk e => ?_) (fun m hm => by rw [aP, if_neg hm]) j
        subst e
        have : (src.ids.any (aG k)) = true := List.any_eq_true.2 ⟨k, hk, by simp⟩
        rw [this] at hni
        cases hni
       have hlen : (L ()).length + (M ()).length ≤ 1099511627776 := hC
       have grow : ∀ (bs : Option Addr) (sc : Nat) (us : List Value), ρ.root i' = .slice bs (L ()).length sc → sc < (L ()).length + (M ()).length → eP ρ.M e (L ()) us →
        (Builtin.firstCells g.size (L ()).length (.slice bs (L ()).length sc)).run P w.drew = .ok us.toArray w.drew →
        bV AI G P s a w ρ (Builtin.append_ #[t, tx] ty #[ρ.root i', v]) (aO s.H (i' :: src.ids) (.row et e (ver + 1) (fun _ => L () ++ M ()) :: aD s.H src.ids)) (one (.hd i' (ver + 1))) := by
        intro bs sc us hroot hgt hus hold
        have hrun := run_append_grow_src (P := P) w t tx ty et g z hu hg1 hz bs (L ()).length sc us hold v (M ()).length news (hsz ▸ hn2) hgt (by omega)
         (growslice_fits hgt (by have := Nat.mul_le_mul_left ((L ()).length + (M ()).length) hby; omega))
        have hge := grownCap_ge w ((L ()).length + (M ()).length) sc et
        have hcm := grownCap_le_maxLen w ((L ()).length + (M ()).length) sc et (by simp [maxLen]; omega)
        generalize grownCap w ((L ()).length + (M ()).length) sc et = cp at *
        have hrow := ja (w := w.drew) (fJ hus hn1) (rest := Builtin.zeroCells z.cells (cp - ((L ()).length + (M ()).length))) (cap := cp) (by simpa using hge) hcm (by rw [ib, hz1]; simp) et
        obtain ⟨h4, h5⟩ := h.drew.dx i' (.slice (some ⟨w.heap.size, 0, none⟩) ((L ()).length + (M ()).length) cp) (ver + 1) [w.heap.size] (.row et e (ver + 1) (fun _ => L () ++ M ())) (w.drew.alloc (.cells ((us ++ news).toArray ++ Builtin.zeroCells z.cells (cp - ((L ()).length + (M ()).length))) et))
         (by rw [hroot]; simp) (by omega) (by omega) (fun b' hb' => by obtain rfl : b' = w.heap.size := (by simpa using hb'); exact ⟨.inr (Nat.le_refl _), by rw [World.size_alloc]; exact Nat.lt_succ_self _⟩) (fun b hb _ => dC w.drew _ hb) rfl rfl rfl (by simp)
         (by
           refine ⟨by simp [Ev.upd], ?_⟩
           have e1 : (Ev.upd ρ i' (.slice (some ⟨w.heap.size, 0, none⟩) ((L ()).length + (M ()).length) cp) (ver + 1) [w.heap.size]).root i' = .slice (some ⟨w.heap.size, 0, none⟩) ((L ()).length + (M ()).length) cp := by simp [Ev.upd]
           have e2 : (Ev.upd ρ i' (.slice (some ⟨w.heap.size, 0, none⟩) ((L ()).length + (M ()).length) cp) (ver + 1) [w.heap.size]).foot i' = [w.heap.size] := by simp [Ev.upd]
           rw [e1, e2]
           show bg _ ρ.M _ _ _ _ _
           simpa using hrow)
        rw [hroot]
        exact ⟨_, _, _, hrun, h4.bt (hput _), ⟨⟨_, _, _, rfl⟩, by simp [Ev.upd], fun _ => by simp [Ev.upd]⟩, h5⟩
       rcases h2 with ⟨⟨ao, h2⟩, h4, h5⟩ | ⟨b, off, cap, h2, h5, hlc, hcm, h6, h7, h7s⟩
       · rcases Nat.eq_zero_or_pos (M ()).length with h0 | h0
         · have eM := List.eq_nil_of_length_eq_zero h0
           have e1 := hn2.cells
           have e2 : news = [] := by apply List.eq_nil_of_length_eq_zero; rw [hn1.1, h0]; simp
           obtain ⟨h8, h9⟩ := h.dx i' (.slice ao 0 0) (ver + 1) [] (.row et e (ver + 1) (fun _ => L () ++ M ())) w (by rw [h2]; simp) (by omega) (by omega) (by simp) (fun _ _ _ => rfl) rfl rfl rfl (Nat.le_refl _)
            ⟨by simp [Ev.upd], .inl ⟨by simp [Ev.upd], by simp [h4, eM], by simp [Ev.upd]⟩⟩
           rw [h2]
           refine ⟨.slice ao 0 0, _, w, ?_, h8.bt (hput _), ⟨⟨_, _, _, rfl⟩, by simp [Ev.upd], fun _ => by simp [Ev.upd]⟩, h9⟩
           rw [e2, h0] at e1
           rcases hn2.kind with ⟨e3, hk3⟩ | hk3 <;> cases ao <;> simp [Builtin.append_, run_underlying hu, run_underlying hk3, Go.sizeOf, typeInfo, hg1, hn2.len, h0, hsz, e1, storeCells]
         · refine grow ao 0 [] (by rw [h2, h4]; rfl) (by rw [h4]; simpa using h0) (by rw [h4]; exact ⟨by simp, by simp, by simp⟩) ?_
           rw [h4]
           cases ao with
           | none => exact run_firstCells_none _ _ _ _ _
           | some q => exact run_firstCells_some _ _ 0 q _ _ [] (by simp) (by simp)
       · obtain ⟨us, hus, hus2⟩ := fI (L ()) (fun k => w.cell? ⟨b, off + k, none⟩) (fun j x hj => by
          have := h6 j x hj
          simpa only [Nat.add_assoc] using this)
         by_cases hr : (L ()).length + (M ()).length ≤ cap
         · have hbnd : ∀ j, j < news.length → (L ()).length * e.size + j < cap * e.size := by
            intro j hj
            rw [hn1.1] at hj
            have := Nat.mul_le_mul_right e.size hr
            rw [Nat.add_mul] at this; omega
           have hsome : ∀ j, j < news.length → (w.cell? ⟨b, off + (L ()).length * e.size + j, none⟩).isSome = true := fun j hj => by
            have := (h7 _ (hbnd j hj)).1; simpa only [Nat.add_assoc] using this
           have hrun := run_append_room_src (P := P) w t tx ty et g hu hg1 b off (L ()).length cap v (M ()).length news (hsz ▸ hn2) hr (by rw [hsz]; exact hsome) (by
            rw [hsz]; exact fun j hj => by have := (h7 _ (hbnd j hj)).2; simpa only [Nat.add_assoc] using this)
           rw [hsz] at hrun
           have hlt : b < w.heap.size := h.lt i' b (by simp [h5])
           obtain ⟨h8, h9⟩ := h.dx i' (.slice (some ⟨b, off, none⟩) ((L ()).length + (M ()).length) cap) (ver + 1) [b] (.row et e (ver + 1) (fun _ => L () ++ M ())) (w.setCells b (off + (L ()).length * e.size) news)
            (by rw [h2]; simp) (by omega) (by omega) (fun b' hb' => ⟨.inl (by rw [h5]; exact hb'), by rw [cZ]; simp at hb'; omega⟩)
            (fun b' _ hn => di b _ _ _ _ (fun e => hn (by rw [h5, e]; simp))) (bJ _ _ _ _).1 (bJ _ _ _ _).2.1 (bJ _ _ _ _).2.2 (by rw [cZ]; exact Nat.le_refl _)
            (by
              refine ⟨by simp [Ev.upd], .inr ⟨b, off, cap, by simp [Ev.upd], by simp [Ev.upd], by simpa using hr, hcm, fun j x hj => ?_, fun j hj => ⟨?_, ?_⟩, h7s.stays (fF _ _ _ _ _)⟩⟩
              · have hall := (fJ hus hn1).2.2 j x hj
                refine aI.congr e hall fun k v _ hv => ?_
                rw [ca hsome]
                have hl0 := hus.1
                split
                · rename_i hin
                  rw [List.getElem?_append_right (by omega)] at hv
                  rw [← hv]; congr 1; omega
                · rename_i hout
                  have hvl := (List.getElem?_eq_some_iff.1 hv).1
                  rw [List.length_append] at hvl
                  rw [List.getElem?_append_left (by omega)] at hv
                  have := hus2 _ _ hv
                  simpa only [Nat.add_assoc] using this
              · rw [ca hsome]
                split
                · rw [List.getElem?_eq_getElem (by omega)]; rfl
                · exact (h7 j hj).1
              · rw [World.frozen?_setCells]; exact (h7 j hj).2)
           rw [h2]
           exact ⟨_, _, _, hrun, h8.bt (hput _), ⟨⟨_, _, _, rfl⟩, by simp [Ev.upd], fun _ => by simp [Ev.upd]⟩, h9⟩
         · refine grow (some ⟨b, off, none⟩) cap us h2 (by omega) hus ?_
           exact run_firstCells_some w.drew _ _ _ _ _ us (by rw [hsz]; exact hus.1) fun j v hj => by rw [add_lit]; exact hus2 j v hj
   · split at hp
     · cases hp
     · rename_i hni
       cases hp
       simp only [aD] at he
       have hc := h.ch fresh
       generalize hg : aC s.H fresh = c at he hc
       cases c <;> (try (simp at he; done))
       dsimp only at he
       split at he <;> (try (simp at he; done))
       rename_i M hM
       simp at he
       obtain ⟨rfl, rfl, rfl⟩ := he
       obtain ⟨news, hn1, hn2⟩ := Src.q8 (P := P) h hsrc rfl hM hk
       obtain ⟨hc1, hc2, hc3⟩ := hc
       cases hx
       have hput : ∀ c, ∀ j, aC (aO s.H (fresh :: src.ids) (c :: aD s.H src.ids)) j = aC (bX s.H fresh c) j := by
        intro c j
        simp only [aO]
        have key : ∀ (ids : List Nat) (H : List (Chunk A)), (∀ k ∈ ids, k ≠ fresh) → (∀ j, j ≠ fresh → aC H j = aC s.H j) → ∀ j, aC (aO H ids (aD s.H ids)) j = aC H j := by
         intro ids
         induction ids with
         | nil => intro H _ _ j; rfl
         | cons k ks ih =>
           intro H hk hH j
           simp only [aO, aD]
           have hk0 := hk k (by simp)
           rw [ih _ (fun m hm => hk m (by simp [hm])) (fun m hm => by
            rw [aP]; split
            · rename_i e; rw [e]
            · exact hH m hm), aP]
           split
           · rename_i e; subst e; exact (hH _ hk0).symm
           · rfl
        refine key _ _ (fun k hk e => ?_) (fun m hm => by rw [aP, if_neg hm]) j
        subst e
        have : (src.ids.any (aG k)) = true := List.any_eq_true.2 ⟨k, hk, by simp⟩
        rw [this] at hni
        cases hni
       have hlen : (M ()).length ≤ 1099511627776 := hC
       rcases Nat.eq_zero_or_pos (M ()).length with h0 | h0
       · have eM := List.eq_nil_of_length_eq_zero h0
         have e1 := hn2.cells
         have e2 : news = [] := by apply List.eq_nil_of_length_eq_zero; rw [hn1.1, h0]; simp
         obtain ⟨h8, h9⟩ := h.dx fresh (.slice none 0 0) 0 [] (.row et0 e0 0 M) w (by rw [hc2]; simp) (by omega) (by rw [hc2]; simp) (by simp) (fun _ _ _ => rfl) rfl rfl rfl (Nat.le_refl _)
          ⟨by simp [Ev.upd], .inl ⟨by simp [Ev.upd], eM, by simp [Ev.upd]⟩⟩
         refine ⟨.slice none 0 0, _, w, ?_, h8.bt (hput _), ⟨⟨_, _, _, rfl⟩, by simp [Ev.upd], fun _ => by simp [Ev.upd]⟩, h9⟩
         rw [e2, h0] at e1
         rcases hn2.kind with ⟨e3, hk3⟩ | hk3 <;> simp [Builtin.append_, run_underlying hu, run_underlying hk3, Go.sizeOf, typeInfo, hg1, hn2.len, h0, hsz, e1, storeCells]
       · have hrun := run_append_grow_src (P := P) w t tx ty et0 g z hu hg1 hz none 0 0 [] (run_firstCells_none _ _ _ _ _) v (M ()).length news (hsz ▸ hn2) (by omega) (by omega)
          (growslice_fits (by omega) (by have := Nat.mul_le_mul_left (0 + (M ()).length) hby; omega))
         simp only [Nat.zero_add, List.nil_append] at hrun
         have hge := grownCap_ge w (M ()).length 0 et0
         have hcm := grownCap_le_maxLen w (M ()).length 0 et0 (by simp [maxLen]; omega)
         generalize grownCap w (M ()).length 0 et0 = cp at *
         have hrow := ja (w := w.drew) hn1 (rest := Builtin.zeroCells z.cells (cp - (M ()).length)) (cap := cp) hge hcm (by rw [ib, hz1]) et0
         obtain ⟨h4, h5⟩ := h.drew.dx fresh (.slice (some ⟨w.heap.size, 0, none⟩) (M ()).length cp) 0 [w.heap.size] (.row et0 e0 0 M) (w.drew.alloc (.cells (news.toArray ++ Builtin.zeroCells z.cells (cp - (M ()).length)) et0))
          (by rw [hc2]; simp) (by omega) (by rw [hc2]; simp) (fun b' hb' => by obtain rfl : b' = w.heap.size := (by simpa using hb'); exact ⟨.inr (Nat.le_refl _), by rw [World.size_alloc]; exact Nat.lt_succ_self _⟩) (fun b hb _ => dC w.drew _ hb) rfl rfl rfl (by simp)
          (by
            refine ⟨by simp [Ev.upd], ?_⟩
            have e1 : (Ev.upd ρ fresh (.slice (some ⟨w.heap.size, 0, none⟩) (M ()).length cp) 0 [w.heap.size]).root fresh = .slice (some ⟨w.heap.size, 0, none⟩) (M ()).length cp := by simp [Ev.upd]
            have e2 : (Ev.upd ρ fresh (.slice (some ⟨w.heap.size, 0, none⟩) (M ()).length cp) 0 [w.heap.size]).foot fresh = [w.heap.size] := by simp [Ev.upd]
            rw [e1, e2]
            show bg _ ρ.M _ _ _ _ _
            exact hrow)
         exact ⟨_, _, _, hrun, h4.bt (hput _), ⟨⟨_, _, _, rfl⟩, by simp [Ev.upd], fun _ => by simp [Ev.upd]⟩, h5⟩
   · cases hp
 · cases hp
end Go.Sx
namespace Go.Sx
set_option linter.all false
open Go.RowKit
variable {A : Type} {AI : Abs A} {G : Fr} {s : SS A} {ρ : Ev} {a : Act} {w : World} {P : Program}
def isRow : Chunk A → Bool
 | .row _ _ _ _ => true
 | .nest _ _ _ _ _ _ => true
 | _ => false
open Classical in
noncomputable def Ev.froze (ρ : Ev) (S : Nat → Prop) (w : World) : Ev :=
 { root := ρ.root, ver := ρ.ver, M := fun b o => if ∃ i, S i ∧ b ∈ ρ.foot i then w.cell? ⟨b, o, none⟩ else ρ.M b o, foot := fun i => if S i then [] else ρ.foot i }
theorem lI {M M' : Mem} {e : Ty} {L : List e.T} {r : Value} {t : TypeId} {F : List Nat} (hr : bg t M w e L r F) (hM : ∀ b o v, M b o = some v → M' b o = some v) (hF : ∀ b ∈ F, ∀ o, M' b o = w.cell? ⟨b, o, none⟩) : ba M' e L r := by
 rcases hr with ⟨⟨ao, rfl⟩, rfl, -⟩ | ⟨b, off, cap, rfl, hF2, h1, h2, h3, -⟩
 · exact ⟨ao, 0, rfl, by simp, by simp⟩
 · refine ⟨_, cap, rfl, h1, fun _ => ⟨b, off, rfl, fun j x hj => ?_⟩⟩
   refine aI.congr e (aI.mono hM e (h3 j x hj)) fun k v _ hv => ?_
   rw [hF b (by rw [hF2]; simp)]; exact hv
theorem db {S : Nat → Prop} {tmps : Array Value} (h : Holds AI G s ρ tmps w) {i : Nat} (hS : S i) {e : Ty} {L : List e.T} {r : Value} {t : TypeId} (hr : bg t ρ.M w e L r (ρ.foot i)) (hM : ∀ b o v, ρ.M b o = some v → (ρ.froze S w).M b o = some v) :
 ba (ρ.froze S w).M e L r := by
 rcases hr with ⟨⟨ao, rfl⟩, rfl, -⟩ | ⟨b, off, cap, rfl, hF, h1, h2, h3, -⟩
 · exact ⟨ao, 0, rfl, by simp, by simp⟩
 · refine ⟨_, cap, rfl, h1, fun _ => ⟨b, off, rfl, fun j x hj => ?_⟩⟩
   refine aI.congr e (aI.mono hM e (h3 j x hj)) fun k v _ hv => ?_
   have : (ρ.froze S w).M b (off + j * e.size + k) = w.cell? ⟨b, off + j * e.size + k, none⟩ := by
    simp only [Ev.froze]
    rw [if_pos ⟨i, hS, by rw [hF]; simp⟩]
   rw [this]; exact hv
theorem oc {tmps : Array Value} (h : Holds AI G s ρ tmps w) (S : Nat → Prop) : ∀ b o v, ρ.M b o = some v → (ρ.froze S w).M b o = some v := by
 intro b o v hm
 simp only [Ev.froze]
 rw [if_neg]
 · exact hm
 · rintro ⟨i, _, hi⟩; exact (h.im b o v hm).2 i hi
theorem Holds.frozen1 {tmps : Array Value} (hh : Holds AI G s ρ tmps w) (j : Nat) :
 Holds AI G ⟨s.tm, bX s.H j .gone⟩ (ρ.froze (fun i => i = j) w) tmps w ∧ ρ.Le (ρ.froze (fun i => i = j) w) := by
 let S : Nat → Prop := fun i => i = j
 have hM : ∀ b o v, ρ.M b o = some v → (ρ.froze S w).M b o = some v := oc hh S
 have le : ρ.Le (ρ.froze S w) := ⟨hM, fun _ _ h => h, fun _ => Nat.le_refl _, fun _ _ _ => rfl⟩
 have hfoot : ∀ i b, b ∈ (ρ.froze S w).foot i → ¬ S i ∧ b ∈ ρ.foot i := by
  intro i b hb
  simp only [Ev.froze] at hb
  split at hb
  · cases hb
  · rename_i hn; exact ⟨hn, hb⟩
 refine ⟨⟨hh.sz, hh.gt, fun t v ht => ?_, fun i => ?_, fun i k b hik hi hk => hh.dis i k b hik (hfoot i b hi).2 (hfoot k b hk).2, fun i b hb => hh.lt i b (hfoot i b hb).2, fun b o v hm => ?_, hh.os, hh.tape, hh.output, hh.grow, hh.kept,
  fun i b hb => hh.fro i b (hfoot i b hb).2, hh.rt, hh.rts, fun b o v hm => hM _ _ _ (hh.mono b o v hm), fun b o v hm => ?_⟩, le⟩
 · obtain ⟨x, h2, h3⟩ := hh.tm t v ht
   exact ⟨x, h2, h3.mono le⟩
 · show aQ AI (ρ.froze S w) w i (aC (bX s.H j .gone) i)
   rw [aP]
   split
   · trivial
   · rename_i hn
     exact (hh.ch i).stays le rfl rfl (by simp only [Ev.froze]; rw [if_neg (fun h => hn h)]) fun _ _ => rfl
 · simp only [Ev.froze] at hm
   split at hm
   · rename_i hex
     obtain ⟨k, hk, hbk⟩ := hex
     refine ⟨hm, fun i hb => ?_⟩
     obtain ⟨h1, h2⟩ := hfoot i b hb
     exact hh.dis i k b (fun e => h1 (e ▸ hk)) h2 hbk
   · exact ⟨(hh.im b o v hm).1, fun i hb => (hh.im b o v hm).2 i (hfoot i b hb).2⟩
 · simp only [Ev.froze] at hm
   split at hm
   · rename_i hex
     obtain ⟨k, hk, hbk⟩ := hex
     exact .inr (hh.fro k b hbk)
   · exact hh.mfr b o v hm
end Go.Sx
namespace Go.Sx
set_option linter.all false
open Go.RowKit
variable {A : Type} {AI : Abs A} {G : Fr} {s : SS A} {ρ : Ev} {a : Act} {w : World} {P : Program}
theorem qz {α : Type} (m : List α) (o : Nat) (u : List α) (h : o + u.length ≤ m.length) : (dJ m o u).length = m.length := by
 simp [dJ]; omega
theorem kW {α : Type} (m : List α) (o : Nat) (u : List α) (h : o + u.length ≤ m.length) (k : Nat) : (dJ m o u)[k]? = if o ≤ k ∧ k < o + u.length then u[k - o]? else m[k]? := by
 unfold dJ
 have hl : (m.take o).length = o := by rw [List.length_take]; omega
 by_cases h1 : k < o
 · rw [if_neg (by omega), List.append_assoc, List.getElem?_append_left (by omega), List.getElem?_take, if_pos h1]
 · rw [List.append_assoc, List.getElem?_append_right (by omega), hl]
   by_cases h2 : k < o + u.length
   · rw [if_pos ⟨by omega, h2⟩, List.getElem?_append_left (by omega)]
   · rw [if_neg (by omega), List.getElem?_append_right (by omega), List.getElem?_drop]
     congr 1; omega
theorem uH (ρ : Ev) (k : Nat) : ρ.upd k (ρ.root k) (ρ.ver k) (ρ.foot k) = ρ := by
 cases ρ; simp only [Ev.upd, Ev.mk.injEq, true_and]
 exact ⟨by funext j; split <;> simp_all, by funext j; split <;> simp_all, by funext j; split <;> simp_all⟩
theorem Am {t : TypeId} {i : TI} (hT : af P t i) (h : Holds AI G s ρ a.tmps w) {k ver esz off : Nat} {n : U Int} {rt : TypeId} {e : Ty} {L : U (List e.T)} {l' vs : List SV1} {y : U e.T} {u v : Value} (hu : Den ρ (one (.ep k ver esz n off)) u) (hk : aC s.H k = .row rt e ver L) (hes : esz = e.size)
 (hv : aL (aK ρ) vs v.cells.toList) (hsz : vs.length = i.size) (hst : vs.all storable = true) (hp : dN (dec e (fun _ => (L ()).getD (n ()).toNat e.cY)) off vs = some l') (he : enc e l' = some (y, [])) (hn : 0 ≤ n () ∧ n () < (L ()).length) :
 ∃ w', (Instr.storeAt t u v).run P w = .ok () w' ∧ Holds AI G ⟨s.tm, bX s.H k (.row rt e ver (fun _ => (L ()).set (n ()).toNat (y ())))⟩ ρ a.tmps w' := by
 subst hes
 obtain ⟨p, rfl, hle, hp2⟩ := hu
 have hc := h.ch k
 rw [hk] at hc
 obtain ⟨h1, h2⟩ := hc
 obtain ⟨_, b, o, len, cap, h3, rfl⟩ := hp2 h1
 have hlen : v.cells.toList.length = i.size := by rw [← hv.length, hsz]
 have hlen' : v.cells.size = i.size := by simpa using hlen
 rcases h2 with ⟨_, h2, _⟩ | ⟨b', o', cap', h2, h4, h5, h6, h7, h8, h8s⟩
 · exfalso; have := hn.2; rw [h2] at this; simp at this; omega
 rw [h3] at h2
 cases h2
 have hkn : (n ()).toNat < (L ()).length := by omega
 have hD : (L ()).getD (n ()).toNat e.cY = (L ())[(n ()).toNat] := by simp [List.getD, List.getElem?_eq_getElem hkn]
 have hold := h7 _ _ (List.getElem?_eq_getElem hkn)
 obtain ⟨us, h9, h10⟩ := aI.dec (ρ := ρ) e (fun _ => (L ()).getD (n ()).toNat e.cY) _ (by rw [hD]; exact hold)
 have husl : us.length = e.size := by rw [← h9.length, dX]
 obtain ⟨h11, h12, h13⟩ := h9.dN hv hp
 obtain ⟨v1, v2, e1, e2, e3, e4⟩ := aI.enc e he h11
 cases e4
 simp only [List.append_nil] at e1
 have hfit : off + v.cells.toList.length ≤ us.length ∨ vs = [] := by
  by_cases h0 : vs = []
  · exact .inr h0
  · exact .inl (h13 h0)
 have hmul : (n ()).toNat * e.size + e.size ≤ cap * e.size := by
  have := Nat.mul_le_mul_right e.size (show (n ()).toNat + 1 ≤ cap by omega)
  rw [Nat.add_mul] at this; omega
 have hsome : ∀ j, j < v.cells.toList.length → (w.cell? ⟨b, o + (n ()).toNat * e.size + off + j, none⟩).isSome = true := by
  intro j hj
  rcases hfit with hf | hf
  · have := (h8 ((n ()).toNat * e.size + (off + j)) (by omega)).1
    simpa only [Nat.add_assoc] using this
  · subst hf; rw [← hv.length] at hj; simp at hj
 have hfree : ∀ j, j < v.cells.toList.length → w.frozen? ⟨b, o + (n ()).toNat * e.size + off + j, none⟩ = false := by
  intro j hj
  rcases hfit with hf | hf
  · have := (h8 ((n ()).toNat * e.size + (off + j)) (by omega)).2
    simpa only [Nat.add_assoc] using this
  · subst hf; rw [← hv.length] at hj; simp at hj
 have hrun := run_storeCells_cells (P := P) b (o + (n ()).toNat * e.size + off) v.cells.toList 0 w (by simpa using hsome) (by simpa using hfree) (hv.storable hst)
 simp only [Nat.add_zero] at hrun
 have hrun2 : (Instr.storeAt t (.pointer (some ⟨b, o + (n ()).toNat * e.size + off, none⟩)) v).run P w = .ok () (w.setCells b (o + (n ()).toNat * e.size + off) v.cells.toList) := by
  simp [Instr.storeAt, Instr.sureAddr, storeVar, hT.sizeOf, hlen']
  exact hrun
 refine ⟨_, hrun2, ?_⟩
 have := (h.dx k (ρ.root k) (ρ.ver k) (ρ.foot k) (.row rt e ver (fun _ => (L ()).set (n ()).toNat (y ()))) (w.setCells b (o + (n ()).toNat * e.size + off) v.cells.toList)
  (fun _ h => h) (Nat.le_refl _) (fun _ _ => rfl) (fun bb hbb => ⟨.inl hbb, by rw [cZ]; exact h.lt k bb hbb⟩)
  (fun b2 _ hn => di b _ _ _ _ (fun e => hn (by rw [h4, e]; simp))) (bJ _ _ _ _).1 (bJ _ _ _ _).2.1 (bJ _ _ _ _).2.2 (by rw [cZ]; exact Nat.le_refl _)
  (by
    rw [uH]
    refine ⟨h1, .inr ⟨b, o, cap, by rw [h3]; simp, h4, by simpa using h5, h6, fun j x hj => ?_, fun j hj => ⟨?_, ?_⟩, h8s.stays (fF _ _ _ _ _)⟩⟩
    · rw [List.getElem?_set] at hj
      split at hj
      · rename_i hjn
        cases hj
        subst hjn
        refine aI.congr e e3 fun q z hq hz => ?_
        rw [ca hsome]
        rw [← e1] at hz
        rcases hfit with hf | hf
        · rw [kW _ _ _ hf] at hz
          split at hz
          · rename_i hin
            rw [if_pos (by omega), ← hz]; congr 1; omega
          · rename_i hout
            rw [if_neg (by omega)]
            have := h10 _ _ hz
            simpa only [Nat.add_assoc] using this
        · subst hf
          have e0 : v.cells.toList = [] := by generalize v.cells.toList = q at hv; cases hv; rfl
          rw [e0] at hz
          rw [if_neg (by rw [e0]; simp)]
          have := h10 _ _ (by simpa [dJ] using hz)
          simpa only [Nat.add_assoc] using this
      · rename_i hjn
        refine aI.congr e (h7 j x hj) fun q z hq hz => ?_
        rw [ca hsome, if_neg ?_]
        · exact hz
        · intro hin
          rcases hfit with hf | hf
          · rcases Nat.lt_or_gt_of_ne hjn with hlt | hlt
            · have := Nat.mul_le_mul_right e.size (show (n ()).toNat + 1 ≤ j by omega)
              rw [Nat.add_mul] at this; omega
            · have := Nat.mul_le_mul_right e.size (show j + 1 ≤ (n ()).toNat by omega)
              rw [Nat.add_mul] at this; omega
          · subst hf
            have e0 : v.cells.toList = [] := by generalize v.cells.toList = q at hv; cases hv; rfl
            rw [e0] at hin; simp at hin; omega
    · rw [ca hsome]
      split
      · rw [List.getElem?_eq_getElem (by omega)]; rfl
      · exact (h8 j hj).1
    · rw [World.frozen?_setCells]; exact (h8 j hj).2)).1
 rwa [uH] at this
theorem gv {t : TypeId} {i : TI} (hT : af P t i) (h : Holds AI G s ρ a.tmps w) {x y : SV} {u v : Value} (hx : Den ρ x u) (hy : Den ρ y v) {p : aZ A} (hp : gE i x y = some p) {d : List Bool} {C : U Prop} {r : SV} {cs : List (Chunk A)}
 (he : p.eff (aD s.H p.ids) d = .done C r cs) (hC : C ()) : ∃ w', (Instr.storeAt t u v).run P w = .ok () w' ∧ Holds AI G ⟨s.tm, aO s.H p.ids cs⟩ ρ a.tmps w' ∧ r = one .any := by
 unfold gE at hp
 split at hp
 · cases hp
 · rename_i vs hvs
   split at hp
   · cases hp
   · rename_i hb
     obtain ⟨hb1, hb2⟩ := Bool.and_eq_true_iff.1 hb
     have hb1 := beq_eq hb1
     have hv := eV hvs hy hb2
     split at hp
     · rename_i k off
       cases hp
       simp only [aD] at he
       generalize hg : aC s.H k = c at he
       cases c <;> (try (simp at he; done))
       dsimp only at he
       split at he <;> (try (simp at he; done))
       rename_i l hl
       simp at he
       obtain ⟨rfl, rfl, rfl⟩ := he
       obtain ⟨w', h1, h2⟩ := rX hT h hx hg hv hb1 hb2 hl
       exact ⟨w', h1, h2, rfl⟩
     · rename_i k ver esz n off
       cases hp
       simp only [aD] at he
       generalize hg : aC s.H k = c at he
       cases c <;> (try (simp at he; done))
       dsimp only at he
       split at he <;> (try (simp at he; done))
       rename_i hbb
       obtain ⟨hb3, hb4⟩ := Bool.and_eq_true_iff.1 hbb
       have hb3 := beq_eq hb3
       have hb4 := beq_eq hb4
       subst hb3
       split at he <;> (try (simp at he; done))
       rename_i l hl
       split at he <;> (try (simp at he; done))
       rename_i y' hy'
       simp at he
       obtain ⟨rfl, rfl, rfl⟩ := he
       obtain ⟨w', h1, h2⟩ := Am hT h hx hg hb4 hv hb1 hb2 hl hy' hC
       exact ⟨w', h1, h2, rfl⟩
     · cases hp
theorem Holds.reroot {tmps : Array Value} (h : Holds AI G s ρ tmps w) {j ver : Nat} {rt : TypeId} {e : Ty} {L : U (List e.T)} (hj : aC s.H j = .row rt e ver L) {lo n : U Int} {v : Value} (hv : aK ρ (.vw j ver e.size lo n) v) :
 ∃ ρ', Holds AI G ⟨s.tm, bX s.H j (.row rt e (ver + 1) (fun _ => ((L ()).drop (lo ()).toNat).take (n ()).toNat))⟩ ρ' tmps w ∧ aK ρ' (.hd j (ver + 1)) v ∧ ρ.Le ρ' ∧ ρ'.root = (fun k => if k = j then v else ρ.root k) := by
 have hc := h.ch j
 rw [hj] at hc
 obtain ⟨h1, h2⟩ := hc
 obtain ⟨⟨ao0, l0, c0, rfl⟩, _, hle, h3⟩ := hv
 obtain ⟨ao, len, cap, h4, h5, h6, h7, h8, h9⟩ := h3 h1
 have hnp : ∀ b, ρ.root j ≠ .pointer b := by intro b; rw [h4]; simp
 rcases h2 with ⟨⟨ao1, h2⟩, hL, hF⟩ | ⟨b, off, cap', h2, hF, h10, h11, h12, h13, h13s⟩
 · rw [h4] at h2
   cases h2
   have e1 : (lo ()).toNat = 0 := by simp at h7; omega
   have e2 : (n ()).toNat = 0 := by simp at h7; omega
   rw [e1, e2] at h9
   simp at h9
   obtain ⟨rfl, rfl, rfl⟩ := h9
   obtain ⟨h14, h15⟩ := h.dx j (.slice ao0 0 0) (ver + 1) [] (.row rt e (ver + 1) (fun _ => ((L ()).drop (lo ()).toNat).take (n ()).toNat)) w (fun b hb => absurd hb (hnp _)) (by omega) (by omega) (by simp) (fun _ _ _ => rfl) rfl rfl rfl (Nat.le_refl _)
    ⟨by simp [Ev.upd], .inl ⟨by simp [Ev.upd], by simp [e2], by simp [Ev.upd]⟩⟩
   exact ⟨_, h14, ⟨⟨_, _, _, rfl⟩, by simp [Ev.upd], fun _ => by simp [Ev.upd]⟩, h15, by simp [Ev.upd]⟩
 · rw [h4] at h2
   cases h2
   have hblt : b < w.heap.size := h.lt j b (by simp [hF])
   have hlen : (((L ()).drop (lo ()).toNat).take (n ()).toNat).length = (n ()).toNat := by rw [List.length_take, List.length_drop]; omega
   have hrow : ∀ o2, (o2 = off + (lo ()).toNat * e.size ∨ cap - (lo ()).toNat = 0 ∧ o2 = off) → bg rt ρ.M w e (((L ()).drop (lo ()).toNat).take (n ()).toNat) (.slice (some ⟨b, o2, none⟩) (n ()).toNat (cap - (lo ()).toNat)) [b] := by
    intro o2 ho2
    refine .inr ⟨b, o2, cap - (lo ()).toNat, by rw [hlen], rfl, by rw [hlen]; omega, by omega, fun k x hk => ?_, fun k hk => ?_, fun he => ?_⟩
    · rw [List.getElem?_take] at hk
      split at hk
      · rename_i hkn
        rw [List.getElem?_drop] at hk
        rcases ho2 with rfl | h0
        · refine aI.congr e (h12 _ x hk) fun q z _ hz => ?_
          rw [← hz]
          congr 2
          rw [Nat.add_mul]; omega
        · omega
      · cases hk
    · rcases ho2 with rfl | h0
      · have := h13 ((lo ()).toNat * e.size + k) (by
         have h14 : (lo ()).toNat * e.size + (cap - (lo ()).toNat) * e.size = cap * e.size := by rw [← Nat.add_mul]; congr 1; omega
         omega)
        simpa only [Nat.add_assoc] using this
      · rw [h0.1] at hk; simp at hk
    · obtain ⟨m, hm1, hm2⟩ := h13s he
      refine ⟨m, hm1, ?_⟩
      subst he
      simp only [Ty.size] at ho2
      omega
   have fin : ∀ o2, (o2 = off + (lo ()).toNat * e.size ∨ cap - (lo ()).toNat = 0 ∧ o2 = off) → Value.slice ao0 l0 c0 = .slice (some ⟨b, o2, none⟩) (n ()).toNat (cap - (lo ()).toNat) →
    ∃ ρ', Holds AI G ⟨s.tm, bX s.H j (.row rt e (ver + 1) (fun _ => ((L ()).drop (lo ()).toNat).take (n ()).toNat))⟩ ρ' tmps w ∧ aK ρ' (.hd j (ver + 1)) (.slice ao0 l0 c0) ∧ ρ.Le ρ' ∧ ρ'.root = (fun k => if k = j then .slice ao0 l0 c0 else ρ.root k) := by
    intro o2 ho2 he
    obtain ⟨h14, h15⟩ := h.dx j (.slice ao0 l0 c0) (ver + 1) [b] (.row rt e (ver + 1) (fun _ => ((L ()).drop (lo ()).toNat).take (n ()).toNat)) w (fun b hb => absurd hb (hnp _)) (by omega) (by omega)
     (fun b' hb' => ⟨.inl (by rw [hF]; exact hb'), by simp at hb'; omega⟩) (fun _ _ _ => rfl) rfl rfl rfl (Nat.le_refl _)
     ⟨by simp [Ev.upd], by simp only [Ev.upd, if_pos]; rw [he]; exact hrow o2 ho2⟩
    exact ⟨_, h14, ⟨⟨_, _, _, rfl⟩, by simp [Ev.upd], fun _ => by simp [Ev.upd]⟩, h15, by simp [Ev.upd]⟩
   by_cases hcl : cap = (lo ()).toNat
   · rw [if_pos hcl] at h9
     exact fin off (.inr ⟨by omega, rfl⟩) h9
   · rw [if_neg hcl] at h9
     exact fin _ (.inl rfl) (by rw [h9]; simp [add_lit])
theorem uR {t : TypeId} {i : TI} (hT : af P t i) (h : Holds AI G s ρ a.tmps w) {x y : SV} {u v : Value} (hx : Den ρ x u) (hy : Den ρ y v) {p : aZ A} (hp : me i x y = some p) {d : List Bool} {C : U Prop} {r : SV} {cs : List (Chunk A)}
 (he : p.eff (aD s.H p.ids) d = .done C r cs) (hC : C ()) : ∃ ρ' w', (Instr.storeAt t u v).run P w = .ok () w' ∧ Holds AI G ⟨s.tm, aO s.H p.ids cs⟩ ρ' a.tmps w' ∧ r = one .any := by
 unfold me at hp
 split at hp
 · split at hp
   · rename_i j ver hhd
     split at hp
     · rename_i i' hep
       have hyv : aK ρ (.hd j ver) v := by
        unfold hdOf at hhd
        split at hhd
        · cases hhd; exact hy
        · cases hhd
       unfold wL at hp
       split at hp <;> cases hp
       rename_i hne0
       have hne : i' ≠ j := by rintro rfl; rw [gj] at hne0; cases hne0
       simp only [aD] at he
       generalize hg2 : aC s.H j = c2 at he
       cases c2 <;> (try (simp at he; done))
       rename_i rt e ver' L
       dsimp only at he
       split at he <;> (try (simp at he; done))
       rename_i hbu
       have hbu := beq_eq hbu
       subst hbu
       split at he <;> (try (simp at he; done))
       rename_i q hq
       split at he <;> (try (simp at he; done))
       rename_i C' r' c' hqe
       simp at he
       obtain ⟨rfl, rfl, rfl⟩ := he
       obtain ⟨h1, le⟩ := h.frozen1 j
       have hcj := h.ch j
       rw [hg2] at hcj
       obtain ⟨hv1, hv2⟩ := hcj
       have hy1 : Den (ρ.froze (fun i => i = j) w) (one (.ro e L)) v := by
        obtain ⟨_, _, h3⟩ := hyv
        rw [h3 hv1]
        exact db h (S := fun i => i = j) rfl hv2 le.1
       have hids : q.ids = [i'] := by
        unfold epOf at hep
        split at hep <;> cases hep
        unfold gE at hq
        split at hq <;> (try cases hq)
        split at hq <;> cases hq
        rfl
       have hgi : aD (bX s.H j .gone) q.ids = [aC s.H i'] := by
        rw [hids]; simp only [aD]; rw [aP, if_neg hne]
       obtain ⟨w', k1, k2, k3⟩ := gv hT h1 (hx.mono le) hy1 hq (by rw [hgi]; exact hqe) hC
       refine ⟨_, w', k1, k2.bt fun k => ?_, k3⟩
       rw [hids]
       simp only [aO, aP]
       by_cases h7 : k = i'
       · subst h7; simp [hne]
       · simp [h7]
     · obtain ⟨w', h1, h2, h3⟩ := gv hT h hx hy hp he hC
       exact ⟨ρ, w', h1, h2, h3⟩
   · obtain ⟨w', h1, h2, h3⟩ := gv hT h hx hy hp he hC
     exact ⟨ρ, w', h1, h2, h3⟩
 · rename_i j ver esz lo n hvw
   split at hp <;> (try cases hp)
   rename_i i' off
   split at hp <;> cases hp
   rename_i hb
   obtain ⟨hb1, hb2⟩ := Bool.and_eq_true_iff.1 hb
   have hb1 := beq_eq hb1
   have hne : i' ≠ j := by rintro rfl; simp at hb2
   simp only [aD] at he
   generalize hg : aC s.H i' = c at he
   generalize hg2 : aC s.H j = c2 at he
   cases c <;> (try (simp at he; done))
   cases c2 <;> (try (simp at he; done))
   rename_i ct l rt e ver' L
   dsimp only at he
   split at he <;> (try (simp at he; done))
   rename_i hbb
   obtain ⟨hb3, hb4⟩ := Bool.and_eq_true_iff.1 hbb
   have hb3 := beq_eq hb3
   have hb4 := beq_eq hb4
   subst hb3; subst hb4
   split at he <;> (try (simp at he; done))
   rename_i l' hl'
   simp at he
   obtain ⟨rfl, rfl, rfl⟩ := he
   have hyv : aK ρ (.vw j ver e.size lo n) v := by
    unfold sP at hvw
    split at hvw
    · cases hvw; exact hy
    · cases hvw
   obtain ⟨ρ', h1, h2, h3, h4⟩ := h.reroot hg2 hyv
   have hcell : v.cells.toList = [v] := by obtain ⟨⟨_, _, _, rfl⟩, _⟩ := h2; rfl
   have := rX (P := P) (t := t) (i := i) (s := ⟨s.tm, bX s.H j _⟩) hT h1 (k := i') (off := off) (ct := ct) (l := l) (l' := l') (vs := [.hd j (ver + 1)]) (u := u) (v := v) (Den.mono h3 hx) (by rw [aP, if_neg hne]; exact hg) (by rw [hcell]; exact .cons h2 .nil) (by simp [hb1]) rfl hl'
   obtain ⟨w', h5, h6⟩ := this
   refine ⟨ρ', w', h5, h6.bt fun k => ?_, rfl⟩
   simp only [aO, aP]
   by_cases h7 : k = i'
   · subst h7; simp [hne]
   · simp [h7]
theorem mV (h : Holds AI G s ρ a.tmps w) {t : TypeId} {cs : List SV1} {vs : List Value} (hd : aL (aK ρ) cs vs) {fresh : Nat} {p : aZ A} (hp : ql t cs fresh = some p) {d : List Bool} {C : U Prop} {r : SV} {cs' : List (Chunk A)}
 (he : p.eff (aD s.H p.ids) d = .done C r cs') : bV AI G P s a w ρ (do pure (.pointer (some (← newRow t vs.toArray)))) (aO s.H p.ids cs') r := by
 cases hp
 simp only [aD] at he
 generalize hg : aC s.H fresh = c at he
 cases c <;> (try (simp at he; done))
 simp at he
 obtain ⟨rfl, rfl, rfl⟩ := he
 obtain ⟨ρ', h1, h2, h3⟩ := h.alloc hg (t := t) hd
 exact ⟨_, ρ', _, by simp [newRow], h1, h2, h3⟩
end Go.Sx
namespace Go.Sx
set_option linter.all false
open Go.RowKit
variable {A : Type} {AI : Abs A} {G : Fr} {s : SS A} {ρ : Ev} {a : Act} {w : World} {P : Program}
theorem sE : ∀ (vs : List Value) (j off : Nat) (cs : Array Value), off + j + vs.length ≤ cs.size →
 ((vs.zipIdx j).foldl (fun cs (p : Value × Nat) => cs.setIfInBounds (off + p.2) p.1) cs).toList = dJ cs.toList (off + j) vs ∧
 ((vs.zipIdx j).foldl (fun cs (p : Value × Nat) => cs.setIfInBounds (off + p.2) p.1) cs).size = cs.size
 | [], j, off, cs, _ => by simp [dJ]
 | v :: r, j, off, cs, h => by
   simp only [List.length_cons] at h
   obtain ⟨h1, h2⟩ := sE r (j + 1) off (cs.setIfInBounds (off + j) v) (by simp; omega)
   simp only [List.zipIdx_cons, List.foldl_cons]
   refine ⟨?_, by rw [h2]; simp⟩
   rw [h1]
   apply List.ext_getElem?
   intro k
   rw [kW _ _ _ (show off + (j + 1) + r.length ≤ (cs.setIfInBounds (off + j) v).toList.length by simp; omega), kW _ _ _ (show off + j + (v :: r).length ≤ cs.toList.length by simp; omega)]
   simp only [Array.toList_setIfInBounds, List.length_cons]
   rw [List.getElem?_set]
   by_cases hk : k = off + j
   · subst hk
     rw [if_neg (by omega), if_pos rfl, if_pos (by rw [Array.length_toList]; omega), if_pos (by omega)]
     simp
   · rw [if_neg (c := off + j = k) (by omega)]
     by_cases hk2 : off + j < k ∧ k < off + j + (r.length + 1)
     · rw [if_pos (by omega), if_pos (by omega), show k - (off + j) = (k - (off + (j + 1))) + 1 by omega, List.getElem?_cons_succ]
     · rw [if_neg (by omega), if_neg (by omega)]
theorem vb (place : Nat → Option (Nat × Nat)) (cells : Array Value) {i : Nat} {v : Value} {rest : List (Nat × Value)} {off : Nat} (hp : place i = some (off, v.cells.size)) (hfit : off + v.cells.size ≤ cells.size) :
 ∃ c' : Array Value, c'.toList = dJ cells.toList off v.cells.toList ∧ Instr.fill place cells ((i, v) :: rest) = Instr.fill place c' rest := by
 have h := sE v.cells.toList 0 off cells (by simpa using hfit)
 refine ⟨_, by simpa using h.1, ?_⟩
 simp only [Instr.fill, hp]
 rw [if_neg (by simp; omega)]
 congr 1
 rw [← Array.foldl_toList, Array.toList_zipIdx]
def jN (ρ : Ev) : List (Nat × SV) → List (Nat × Value) → Prop := aL fun p q => p.1 = q.1 ∧ Den ρ p.2 q.2
theorem jH {offs : List (Nat × Nat)} : ∀ {parts : List (Nat × SV)} {qs : List (Nat × Value)} {z l : List SV1} {cells : Array Value}, jN ρ parts qs → dB offs z parts = some l → aL (aK ρ) z cells.toList →
 ∃ c' : Array Value, Instr.fill (fun i => nth offs i) cells qs = some c' ∧ aL (aK ρ) l c'.toList
 | [], _, z, l, cells, .nil, h, hz => by simp [dB] at h; subst h; exact ⟨cells, rfl, hz⟩
 | (f, v) :: r, _, z, l, cells, .cons (b := (f', u)) hd ht, h, hz => by
   obtain ⟨e, hd⟩ := hd
   dsimp only at e hd
   subst e
   simp only [dB] at h
   split at h
   · rename_i o sz ho
     split at h
     · rename_i vs hvs
       split at h
       · rename_i hb
         obtain ⟨hb, hb3⟩ := Bool.and_eq_true_iff.1 hb
         obtain ⟨hb1, hb2⟩ := Bool.and_eq_true_iff.1 hb
         have hb1 := beq_eq hb1
         have hb3 := leN hb3
         split at h
         · rename_i z' hz'
           have hv := eV hvs hd hb2
           obtain ⟨h1, h2, h3⟩ := hz.dN hv hz'
           have hsz : u.cells.size = sz := by have := hv.length; simp at this; omega
           have h0 : vs ≠ [] := by rintro rfl; simp at hb1; omega
           have hfit := h3 h0
           obtain ⟨c2, h6, h7⟩ := vb (fun i => nth offs i) cells (i := f) (v := u) (rest := _) (by rw [ho, hsz]) (by simpa using hfit)
           rw [h7]
           exact jH ht h (by rw [h6]; exact h1)
         · cases h
       · cases h
     · cases h
   · cases h
theorem zero_den {vs : List Value} : aL (aK ρ) (vs.map cy) vs := aL.map _ aK.cy _
theorem run_places : ∀ {offs : List (Nat × Nat)} {fs : List Field}, aL (fun (p : Nat × Nat) (f : Field) => f.offset = p.1 ∧ ∃ g, P.info? f.type = some g ∧ g.size = p.2) offs fs →
 (fs.mapM fun f => (do pure (f.offset, ← Go.sizeOf f.type) : Go.Sem (Nat × Nat))).run P w = .ok offs w := by
 intro offs fs h
 induction h with
 | nil => simp
 | @cons p f _ _ h1 _ ih =>
   obtain ⟨e1, g, e2, e3⟩ := h1
   have hs : (Go.sizeOf f.type).run P w = .ok g.size w := by
    simp [Go.sizeOf, typeInfo, e2]
   rw [List.mapM_cons]
   simp only [Sem.run_bind, hs, Result.andThen, Sem.run_pure, ih, e1, e3]
theorem sG {f g : Nat → Option (Nat × Nat)} (h : ∀ i x, f i = some x → g i = some x) : ∀ {qs : List (Nat × Value)} {cells c : Array Value}, Instr.fill f cells qs = some c → Instr.fill g cells qs = some c
 | [], _, _, e => e
 | (i, v) :: r, cells, c, e => by
   simp only [Instr.fill] at e ⊢
   cases hf : f i with
   | none => rw [hf] at e; cases e
   | some x =>
     obtain ⟨o, sz⟩ := x
     rw [hf] at e
     rw [h i _ hf]
     dsimp only at e ⊢
     split at e
     · cases e
     · rename_i hc
       rw [if_neg hc]
       exact sG h e
theorem pM {z : Nat} : ∀ {n k i : Nat} {x : Nat × Nat}, nth (kV z k n) i = some x → x = ((k + i) * z, z)
 | 0, _, _, _, h => by simp [kV, nth] at h
 | n + 1, k, 0, x, h => by simp [kV, nth] at h; rw [← h]; rfl
 | n + 1, k, i + 1, x, h => by
   have := pM (n := n) (k := k + 1) (i := i) h
   rw [this, show k + 1 + i = k + (i + 1) by omega]
theorem vp {t : TypeId} {i : TI} (hT : af P t i) (hz : ∃ z, (Go.zeroValue t).run P w = .ok z w ∧ i.zero = z.cells.toList.map cy) {parts : List (Nat × SV)} {qs : List (Nat × Value)} (hd : jN ρ parts qs) {p : aZ A} {esz : Option Nat} (hsz : ∀ z, esz = some z → ∀ e, jn i.kind = some e → (Go.sizeOf e).run P w = .ok z w) (hp : kr i esz parts = some p) :
 ∃ C v, p = ⟨[], 0, false, fun _ _ => .done C v []⟩ ∧ (C () → ∃ y, (Instr.build t qs.toArray).run P w = .ok y w ∧ Den ρ v y) := by
 have hk := hT.kind
 unfold kr at hp
 split at hp
 · rename_i offs ho
   rw [ho] at hk
   obtain ⟨fs, h1, h2⟩ := hk
   split at hp
   · rename_i l hl
     cases hp
     refine ⟨_, _, rfl, fun _ => ?_⟩
     obtain ⟨z, hz1, hz2⟩ := hz
     obtain ⟨c', h3, h4⟩ := jH (ρ := ρ) (cells := z.cells) hd hl (by rw [hz2]; exact zero_den)
     have h5 := run_places (P := P) (w := w) h2
     have h6 : (fun i => (offs.toArray)[i]?) = fun i => nth offs i := by
      funext i
      have key : ∀ (l : List (Nat × Nat)) i, l[i]? = nth l i := by
       intro l
       induction l with
       | nil => intro i; rfl
       | cons x r ih => intro i; cases i <;> simp [nth, ih]
      simpa using key offs i
     refine ⟨.agg c', ?_, c'.toList, by simp, h4⟩
     have h7 : (fs.mapM fun f => (do pure (f.offset, ← Go.sizeOf f.type) : Go.Sem (Nat × Nat))).run P w = .ok offs.toArray w := by
      rw [Array.mapM_eq_mapM_toList]
      show (List.toArray <$> _ : Go.Sem _).run P w = _
      rw [map_eq_pure_bind, Sem.run_bind, h5]
      rfl
     simp only [Instr.build, Sem.run_bind, hz1, Result.andThen, run_underlying h1, h7, h6, h3]
     rfl
   · cases hp
 · rename_i n el ho
   rw [ho] at hk
   obtain ⟨h1, _⟩ := hk
   split at hp
   · rename_i sz
     split at hp
     · rename_i l hl
       cases hp
       refine ⟨_, _, rfl, fun _ => ?_⟩
       obtain ⟨z, hz1, hz2⟩ := hz
       obtain ⟨c', h3, h4⟩ := jH (ρ := ρ) (cells := z.cells) hd hl (by rw [hz2]; exact zero_den)
       have h5 := hsz sz rfl el (by rw [ho]; rfl)
       have h6 : Instr.fill (fun i => some (i * sz, sz)) z.cells qs = some c' := sG (fun i x hx => by
        have := pM hx
        rw [this, Nat.zero_add]) h3
       refine ⟨.agg c', ?_, c'.toList, by simp, h4⟩
       simp only [Instr.build, Sem.run_bind, hz1, Result.andThen, run_underlying h1, h5, h6]
       rfl
     · cases hp
   · cases hp
 · cases hp
theorem o0 : ∀ {k : Nat} {parts : List (Nat × SV)} {qs : List (Nat × Value)} {vs : List SV}, jN ρ parts qs → iN k parts = some vs →
 ∃ us, aL (Den ρ) vs us ∧ qs = (us.zipIdx k).map fun p => (p.2, p.1)
 | k, _, _, vs, .nil, h => by simp [iN] at h; subst h; exact ⟨[], .nil, rfl⟩
 | k, (i, v) :: r, (i', u) :: qs, vs, .cons hd ht, h => by
   simp only [iN] at h
   split at h
   · rename_i hb
     have hb := beq_eq hb
     subst hb
     split at h
     · rename_i l hl
       cases h
       obtain ⟨us, h1, h2⟩ := o0 ht hl
       obtain ⟨e, hd⟩ := hd
       dsimp only at e hd
       subst e
       exact ⟨u :: us, .cons hd h1, by simp [h2]⟩
     · cases h
   · cases h
theorem qR {size : Nat} : ∀ {us : List Value} {k : Nat} {cells : Array Value}, (∀ u ∈ us, u.cells.size = size) → cells.size = (k + us.length) * size →
 ∃ c' : Array Value, Instr.fill (fun i => some (i * size, size)) cells ((us.zipIdx k).map fun p => (p.2, p.1)) = some c' ∧ c'.toList = cells.toList.take (k * size) ++ us.flatMap fun u => u.cells.toList
 | [], k, cells, _, hs => by
   refine ⟨cells, rfl, ?_⟩
   rw [List.take_of_length_le (by simp at hs ⊢; omega)]; simp
 | u :: r, k, cells, hu, hs => by
   have hu0 := hu u (by simp)
   have hmul : (k + (u :: r).length) * size = k * size + size + r.length * size := by simp [Nat.add_mul]; omega
   obtain ⟨c2, h1, h2⟩ := vb (fun i => some (i * size, size)) cells (i := k) (v := u) (rest := (r.zipIdx (k + 1)).map fun p => (p.2, p.1)) (off := k * size) (by rw [hu0]) (by omega)
   have hs2 : c2.size = cells.size := by
    have := congrArg List.length h1
    rw [qz _ _ _ (by simp; omega)] at this
    simpa using this
   obtain ⟨c', h3, h4⟩ := qR (us := r) (k := k + 1) (cells := c2) (fun v hv => hu v (by simp [hv])) (by rw [hs2, hs]; congr 1; simp; omega)
   refine ⟨c', by simpa [h2] using h3, ?_⟩
   rw [h4, h1]
   have e1 : (k + 1) * size = k * size + u.cells.toList.length := by simp [Nat.add_mul, hu0]
   rw [e1]
   unfold dJ
   have e2 : (cells.toList.take (k * size)).length = k * size := by rw [List.length_take]; simp; omega
   rw [List.append_assoc, List.take_append, e2, List.take_of_length_le (by omega), show k * size + u.cells.toList.length - k * size = u.cells.toList.length by omega]
   rw [List.take_append, List.take_of_length_le (Nat.le_refl _), Nat.sub_self, List.take_zero]
   simp
theorem qV {e : Ty} : ∀ {vs : List SV} {us : List Value} {L : U (List e.T)}, aL (Den ρ) vs us → kh e vs = some L → eP ρ.M e (L ()) (us.flatMap fun u => u.cells.toList) ∧ (L ()).length = us.length ∧ ∀ u ∈ us, u.cells.size = e.size
 | _, _, L, .nil, h => by simp [kh] at h; subst h; exact ⟨⟨by simp, by simp, by simp⟩, rfl, by simp⟩
 | v :: vs, u :: us, L, .cons hd ht, h => by
   simp only [kh] at h
   split at h
   · rename_i l hl
     split at h
     · rename_i hst
       split at h
       · rename_i y hy
         split at h
         · rename_i ys hys
           cases h
           obtain ⟨h1, h2, h3⟩ := qV ht hys
           have hv := eV hl hd hst
           obtain ⟨v1, v2, e1, e2, e3, e4⟩ := aI.enc e hy hv
           cases e4
           simp only [List.append_nil] at e1
           have hsz : u.cells.size = e.size := by have := congrArg List.length e1; simp at this; omega
           refine ⟨?_, by simp [h2], fun x hx => (List.mem_cons.1 hx).elim (fun e => e ▸ hsz) (h3 x)⟩
           have : eP ρ.M e [y ()] u.cells.toList := ⟨by simp [hsz], hv.storable hst, fun j x hj => by
            cases j <;> simp at hj
            subst hj
            simp only [Nat.zero_mul, Nat.zero_add, e1]; exact e3⟩
           exact fJ this h1
         · cases h
       · cases h
     · cases h
   · cases h
theorem nU {t : TypeId} {i : TI} (hT : af P t i) (h : Holds AI G s ρ a.tmps w) {n : Nat} {parts : List (Nat × SV)} {qs : List (Nat × Value)} (hd : jN ρ parts qs) {fresh : Nat} {p : aZ A} (hp : dc i n parts fresh = some p)
 {d : List Bool} {C : U Prop} {r : SV} {cs : List (Chunk A)} (he : p.eff (aD s.H p.ids) d = .done C r cs) (hC : C ()) :
 bV AI G P s a w ρ (Instr.buildSlice t n qs.toArray) (aO s.H p.ids cs) r := by
 have hk := hT.kind
 unfold dc at hp
 split at hp
 · rename_i et e ho
   rw [ho] at hk
   obtain ⟨hu, g, hg1, hg2⟩ := hk
   obtain ⟨hsz, hpos, hby, _, z, hz, hz1, hz2⟩ := hg2 e rfl
   split at hp
   · rename_i vs hvs
     split at hp
     · rename_i hb
       have hb := beq_eq hb
       split at hp
       · rename_i L hL
         have hC0 : n * e.size ≤ 16777216 := by
          split at hp
          · cases hp
            simp only [aD] at he
            split at he <;> cases he
            exact hC
          · cases hp; simp at he; obtain ⟨rfl, rfl, rfl⟩ := he; exact hC
         obtain ⟨us, h1, h2⟩ := o0 hd hvs
         obtain ⟨h3, h4, h5⟩ := qV h1 hL
         have hlen : us.length = n := by rw [← h1.length, hb]
         let c0 : Array Value := (Array.range (n * g.size)).map (z.cells[· % z.cells.size]!)
         obtain ⟨c', h6, h7⟩ := qR (size := g.size) (us := us) (k := 0) (cells := c0) (fun u hu => by rw [h5 u hu, hsz]) (by simp [c0, hlen])
         have h8 : c' = (us.flatMap fun u => u.cells.toList).toArray := by apply Array.ext'; rw [h7]; simp
         have hrun : (Instr.buildSlice t n qs.toArray).run P w = .ok (.slice (some ⟨w.heap.size, 0, none⟩) n n) (w.alloc (.cells c' et)) := by
          have hC' : ¬ (16777216 < n * g.size) := by have hC' : n * e.size ≤ 16777216 := hC0; rw [hsz]; omega
          have hlet : (if n * g.size = 0 then pure #[] else (do pure (← Go.zeroValue et).cells) : Go.Sem (Array Value)).run P w = .ok (if n * g.size = 0 then #[] else z.cells) w := by
           split
           · rfl
           · simp [Go.zeroValue, typeInfo, hg1, hz]
          have hfill : Instr.fill (fun i => some (i * g.size, g.size)) ((Array.range (n * g.size)).map ((if n * g.size = 0 then #[] else z.cells)[· % (if n * g.size = 0 then #[] else z.cells).size]!)) qs = some c' := by
           rw [h2, ← h6]
           congr 1
           split
           · rename_i h0; simp [c0, h0]
           · rfl
          simp only [Instr.buildSlice, Sem.run_bind, run_underlying hu, Result.andThen]
          have hs : (Go.sizeOf et).run P w = .ok g.size w := by simp [Go.sizeOf, typeInfo, hg1]
          simp only [hs]
          rw [show (2 : Nat) ^ 24 = 16777216 from rfl, if_neg hC']
          have hzv : (Go.zeroValue et).run P w = .ok z w := by simp [Go.zeroValue, typeInfo, hg1, hz]
          by_cases h0 : n * g.size = 0
          · simp only [h0, if_true] at hfill ⊢
            simp only [Sem.run_bind, Sem.run_pure, Result.andThen, hfill]
            simp [newRow]
          · simp only [h0, if_false] at hfill ⊢
            simp only [Sem.run_bind, Sem.run_pure, Result.andThen, hzv, hfill]
            simp [newRow]
         have hrow := ja (w := w) h3 (rest := #[]) (cap := n) (by rw [h4, hlen]; exact Nat.le_refl _) (by
          have : n * 1 ≤ n * e.size := Nat.mul_le_mul_left _ (by omega)
          unfold maxLen; omega) (by rw [h4, hlen]; simp) et
         split at hp
         · cases hp
           simp only [aD] at he
           have hc := h.ch fresh
           generalize hg : aC s.H fresh = c at he hc
           cases c <;> (try (simp at he; done))
           simp at he
           obtain ⟨rfl, rfl, rfl⟩ := he
           obtain ⟨hc1, hc2, hc3⟩ := hc
           obtain ⟨h9, h10⟩ := h.dx fresh (.slice (some ⟨w.heap.size, 0, none⟩) (L ()).length n) 0 [w.heap.size] (.row et e 0 L) (w.alloc (.cells c' et))
            (by rw [hc2]; simp) (by omega) (by rw [hc2]; simp) (fun b' hb' => by obtain rfl : b' = w.heap.size := (by simpa using hb'); exact ⟨.inr (Nat.le_refl _), by rw [World.size_alloc]; exact Nat.lt_succ_self _⟩) (fun b hb _ => dC w _ hb) rfl rfl rfl (by simp)
            (by
              refine ⟨by simp [Ev.upd], ?_⟩
              have e1 : (Ev.upd ρ fresh (.slice (some ⟨w.heap.size, 0, none⟩) (L ()).length n) 0 [w.heap.size]).root fresh = .slice (some ⟨w.heap.size, 0, none⟩) (L ()).length n := by simp [Ev.upd]
              have e2 : (Ev.upd ρ fresh (.slice (some ⟨w.heap.size, 0, none⟩) (L ()).length n) 0 [w.heap.size]).foot fresh = [w.heap.size] := by simp [Ev.upd]
              rw [e1, e2]
              show bg _ ρ.M _ _ _ _ _
              rw [h8]
              simpa using hrow)
           exact ⟨.slice (some ⟨w.heap.size, 0, none⟩) n n, _, _, hrun, h9, ⟨⟨_, _, _, rfl⟩, by simp [Ev.upd], fun _ => by simp [Ev.upd, h4, hlen]⟩, h10⟩
         · rename_i hz0
           have hz0 : n ≠ 0 := fun h0 => by rw [h0] at hz0; simp at hz0
           cases hp
           simp at he
           obtain ⟨rfl, rfl, rfl⟩ := he
           obtain ⟨ρ', h9, h10, h11, h12, h13, h14⟩ := h.more (w' := w.alloc (.cells c' et)) (fun b hb => dC w _ hb) rfl rfl rfl (by simp)
           refine ⟨_, ρ', _, hrun, h9, ?_, h10⟩
           rcases hrow with ⟨⟨_, hr⟩, _⟩ | ⟨b, off, cap, hr, _, h15, _, h16, _⟩
           · injection hr with q1 q2 q3
             exact absurd q3 hz0
           · cases hr
             refine ⟨_, n, by rw [h4, hlen], by rw [h4, hlen]; exact Nat.le_refl _, fun _ => ⟨w.heap.size, 0, rfl, fun j x hj => ?_⟩⟩
             refine aI.congr e (aI.mono h10.M e (h16 j x hj)) fun k v _ hv => ?_
             refine h14 _ _ _ (Nat.le_refl _) ?_
             rw [h8]
             simpa using hv
       · cases hp
     · cases hp
   · cases hp
 · cases hp
theorem gF (z : Array Value) (n k : Nat) : (madeCells z n)[k]? = if k < n then some (z[k % z.size]!) else none := by
 unfold madeCells
 rw [Array.getElem?_map]
 split
 · rename_i h; rw [Array.getElem?_range, if_pos h]; rfl
 · rename_i h; rw [Array.getElem?_range, if_neg h]; rfl
theorem o3 {α : Type} (l : List α) : ∀ (n k : Nat), k < n * l.length → (List.replicate n l).flatten[k]? = l[k % l.length]?
 | 0, k, h => by simp at h
 | n + 1, k, h => by
   rw [List.replicate_succ, List.flatten_cons]
   by_cases hk : k < l.length
   · rw [List.getElem?_append_left hk, Nat.mod_eq_of_lt hk]
   · rw [List.getElem?_append_right (by omega), o3 l n _ (by rw [Nat.add_mul] at h; omega)]
     congr 1
     exact (Nat.mod_eq_sub_mod (by omega)).symm
theorem oN (z : Array Value) {size : Nat} (hz : z.size = size) (hp : 0 < size) (l m : Nat) : madeCells z (l * size + m * size) = ((List.replicate l z.toList).flatten).toArray ++ madeCells z (m * size) := by
 have hlen : ((List.replicate l z.toList).flatten).length = l * size := by simp [hz]
 apply Array.ext_getElem?
 intro k
 rw [gF]
 by_cases hk : k < l * size
 · rw [if_pos (by omega), Array.getElem?_append_left (by simpa [hz] using hk)]
   have := o3 z.toList l k (by simpa [hz] using hk)
   rw [List.getElem?_toArray, this]
   have hm : k % z.size < z.size := Nat.mod_lt _ (by omega)
   simp [getElem!_pos, hm]
 · rw [Array.getElem?_append_right (by simp [hz]; omega), gF]
   have e1 : ((List.replicate l z.toList).flatten).toArray.size = l * size := by simpa using hlen
   rw [e1]
   by_cases hk2 : k < l * size + m * size
   · rw [if_pos hk2, if_pos (by omega)]
     congr 2
     rw [hz]
     conv => lhs; rw [show k = (k - l * size) + size * l by rw [Nat.mul_comm size l]; omega]
     exact Nat.add_mul_mod_self_left _ _ _
   · rw [if_neg hk2, if_neg (by omega)]
theorem oM {t : TypeId} {i : TI} (hT : af P t i) (h : Holds AI G s ρ a.tmps w) {x y : SV} {u v : Value} (hx : Den ρ x u) (hy : Den ρ y v) {fresh : Nat} {p : aZ A} (hp : eF i x y fresh = some p)
 {d : List Bool} {C : U Prop} {r : SV} {cs : List (Chunk A)} (he : p.eff (aD s.H p.ids) d = .done C r cs) (hC : C ()) :
 bV AI G P s a w ρ (Instr.makeSlice t u v) (aO s.H p.ids cs) r := by
 have hk := hT.kind
 unfold eF at hp
 split at hp
 · rename_i et e ho
   rw [ho] at hk
   obtain ⟨hu, g, hg1, hg2⟩ := hk
   obtain ⟨hsz, hpos, hby, _, z, hz, hz1, hz2⟩ := hg2 e rfl
   split at hp
   · rename_i kl l hl
     split at hp
     · rename_i kc c hc'
       cases hp
       simp only [aD] at he
       have hc := h.ch fresh
       generalize hg : aC s.H fresh = ch at he hc
       cases ch <;> (try (simp at he; done))
       simp at he
       obtain ⟨rfl, rfl, rfl⟩ := he
       obtain ⟨hc1, hc2, hc3⟩ := hc
       obtain ⟨c0, c1, c2⟩ := hC
       have c2 : c () ≤ 1099511627776 := c2
       have e1 := bF hl hx
       have e2 := bF hc' hy
       subst e1; subst e2
       have hb : (g.bytes : Int) * c () ≤ 281474976710656 := by
        have : (g.bytes : Int) * c () ≤ 128 * c () := Int.mul_le_mul_of_nonneg_right (by omega) (by omega)
        omega
       have hrun := run_make (P := P) w t et g z hu hg1 hz kl kc (l ()) (c ()) c0 c1 hb (by omega)
       have hlist : eP ρ.M e (List.replicate (l ()).toNat e.cY) ((madeCells z.cells (c ()).toNat.succ.pred).toList.take 0 ++ ((List.replicate (l ()).toNat z.cells.toList).flatten)) := by
        refine ⟨by simp [hz1], fun x hx => ?_, fun j x hj => ?_⟩
        · simp only [List.take_zero, List.nil_append, List.mem_flatten, List.mem_replicate] at hx
          obtain ⟨q, ⟨_, rfl⟩, hx⟩ := hx
          have hzc := hz2 ρ.M
          obtain ⟨vs, h3, h4⟩ := aI.dec (ρ := ρ) e (fun _ => e.cY) _ hzc
          obtain ⟨k, hk1, hk2⟩ := List.getElem_of_mem hx
          have hlv : vs.length = e.size := by rw [← h3.length, dX]
          have hkv : k < vs.length := by rw [hlv, ← hz1]; simpa using hk1
          have := h4 k _ (List.getElem?_eq_getElem hkv)
          rw [List.getElem?_eq_getElem hk1, hk2] at this
          cases this
          exact oh e _ h3 _ (List.getElem_mem hkv)
        · obtain ⟨hj1, rfl⟩ := by simpa [List.getElem?_replicate] using hj
          refine aI.congr e (hz2 ρ.M) fun q v hq hv => ?_
          simp only [List.take_zero, List.nil_append]
          have hz1' : z.cells.toList.length = e.size := by simpa using hz1
          have key : ∀ (n j : Nat), j < n → (List.replicate n z.cells.toList).flatten[j * e.size + q]? = z.cells.toList[q]? := by
           intro n
           induction n with
           | zero => intro j hj; omega
           | succ n ih =>
             intro j hj
             rw [List.replicate_succ, List.flatten_cons]
             cases j with
             | zero => rw [List.getElem?_append_left (by omega)]; simp
             | succ j =>
               rw [List.getElem?_append_right (by rw [hz1', Nat.add_mul]; omega), hz1', ← ih j (by omega)]
               congr 1
               rw [Nat.add_mul]; omega
          rw [key _ j (by omega)]; exact hv
       simp only [List.take_zero, List.nil_append] at hlist
       have hsplit : madeCells z.cells ((c ()).toNat * g.size) = ((List.replicate (l ()).toNat z.cells.toList).flatten).toArray ++ madeCells z.cells (((c ()).toNat - (l ()).toNat) * e.size) := by
        rw [hsz, show (c ()).toNat * e.size = (l ()).toNat * e.size + ((c ()).toNat - (l ()).toNat) * e.size by rw [← Nat.add_mul]; congr 1; omega]
        exact oN _ hz1 (by omega) _ _
       have hrow := ja (w := w) hlist (rest := madeCells z.cells (((c ()).toNat - (l ()).toNat) * e.size)) (cap := (c ()).toNat) (by simp; omega) (by unfold maxLen; omega) (by simp [madeCells]) et
       obtain ⟨h9, h10⟩ := h.dx fresh (.slice (some ⟨w.heap.size, 0, none⟩) (l ()).toNat (c ()).toNat) 0 [w.heap.size] (.row et e 0 (fun _ => List.replicate (l ()).toNat e.cY)) (w.alloc (.cells (madeCells z.cells ((c ()).toNat * g.size)) et))
        (by rw [hc2]; simp) (by omega) (by rw [hc2]; simp) (fun b' hb' => by obtain rfl : b' = w.heap.size := (by simpa using hb'); exact ⟨.inr (Nat.le_refl _), by rw [World.size_alloc]; exact Nat.lt_succ_self _⟩) (fun b hb _ => dC w _ hb) rfl rfl rfl (by simp)
        (by
          refine ⟨by simp [Ev.upd], ?_⟩
          have e1 : (Ev.upd ρ fresh (.slice (some ⟨w.heap.size, 0, none⟩) (l ()).toNat (c ()).toNat) 0 [w.heap.size]).root fresh = .slice (some ⟨w.heap.size, 0, none⟩) (l ()).toNat (c ()).toNat := by simp [Ev.upd]
          have e2 : (Ev.upd ρ fresh (.slice (some ⟨w.heap.size, 0, none⟩) (l ()).toNat (c ()).toNat) 0 [w.heap.size]).foot fresh = [w.heap.size] := by simp [Ev.upd]
          rw [e1, e2, hsplit]
          show bg _ ρ.M _ _ _ _ _
          simpa using hrow)
       exact ⟨_, _, _, hrun, h9, ⟨⟨_, _, _, rfl⟩, by simp [Ev.upd], fun _ => by simp [Ev.upd]⟩, h10⟩
     · cases hp
   · cases hp
 · cases hp
end Go.Sx
