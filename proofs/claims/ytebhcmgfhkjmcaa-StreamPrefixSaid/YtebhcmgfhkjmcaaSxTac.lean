/-
  Symbolic execution: small lemmas for the ends of walks.
-/
import Derived.Test.YtebhcmgfhkjmcaaSxY
namespace Go.Sx
set_option linter.all false
set_option linter.unusedVariables false
set_option linter.unusedSimpArgs false
set_option linter.unusedSectionVars false
/-- What evaluation gives: the kernel compares it anew (the evaluation's own proof is dropped). -/
abbrev Sh (G _X : Prop) : Prop := G
abbrev T1 (G X : Prop) := (G = X) → Sh G X
theorem Sh.mk {G X : Prop} (h : X = G) (x : X) : Sh G X := h ▸ x
theorem ifF {α : Type} {b : Bool} {x y : α} (h : b = false) : (if b = true then x else y) = y := if_neg (by rw [h]; exact Bool.false_ne_true)
theorem ifN {α : Type} {b : Bool} {x y : α} (h : b = true) : (if b = false then x else y) = y := if_neg (by rw [h]; exact Bool.noConfusion)
theorem hrPos {α : Type} {c : Prop} [Decidable c] {x y r : α} (h : c) (hr : (if c then x else y) = r) : x = r := (if_pos h).symm.trans hr
theorem hrNeg {α : Type} {c : Prop} [Decidable c] {x y r : α} (h : ¬ c) (hr : (if c then x else y) = r) : y = r := (if_neg h).symm.trans hr
theorem hrF {α : Type} {b : Bool} {x y r : α} (h : b = false) (hr : (if b = true then x else y) = r) : y = r := (ifF h).symm.trans hr
theorem natCast_eq (n : Nat) : @NatCast.natCast Int instNatCastInt n = (n : Int) := rfl
def bodyOf (f : Func) : Code := f.body.getD .skip
noncomputable def inl {A : Type} (E : Env A) (f : Func) (k : Nat) : Con A := inlCon E f.ntmps f.results.toList (bodyOf f) k
theorem take_cg {α : Type} {l : List α} {a b : Int} (h : a = b) : l.take a.toNat = l.take b.toNat := by rw [h]
theorem drop_cg {α : Type} {l : List α} {a b : Int} (h : a = b) : l.drop a.toNat = l.drop b.toNat := by rw [h]
theorem take_drop_cg {α : Type} {l : List α} {a b c d : Int} (h : a = b) (h2 : c = d) : (l.drop c.toNat).take a.toNat = (l.drop d.toNat).take b.toNat := by rw [h, h2]
theorem drop_take_cg {α : Type} {l : List α} {a b c : Int} (h0 : 0 ≤ a) (h1 : 0 ≤ b) (h : c = a + b) : (l.take c.toNat).drop a.toNat = (l.drop a.toNat).take b.toNat := by rw [List.drop_take, h]; congr 1; omega
theorem take_all {α : Type} {l : List α} {a : Int} (h : l.length ≤ a) : l.take a.toNat = l := List.take_of_length_le (by omega)
theorem take_drop_all {α : Type} {l : List α} {a b : Int} (h0 : 0 ≤ b) (h : l.length - b ≤ a) : (l.drop b.toNat).take a.toNat = l.drop b.toNat := List.take_of_length_le (by rw [List.length_drop]; omega)
theorem map_pair_id {α β : Type} (l : List (α × β)) : l.map (fun x => ((fun x => x) x.1, (fun l => l) x.2)) = l := by
  induction l with
  | nil => rfl
  | cons x r ih => rw [List.map_cons, ih]
end Go.Sx
