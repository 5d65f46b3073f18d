/-
  Layer 47: SessionStale: the joined pair, plain facts.
-/
import Derived.Test.YtldabjgegpmmiaaCnn
namespace Go.Proofs.Ytldabjgegpmmiaa
set_option linter.all false
set_option linter.unusedVariables false
set_option linter.unusedSimpArgs false
set_option linter.unusedSectionVars false
open Go.RowKit Go.Sx
theorem cnE_good {i w : Int} {b : Prop} [Decidable b] (h : 1 ≤ w ∧ w ≤ 1048576) : GoodE (cnE i w b) [] := by
  unfold cnE
  split
  · exact (GoodE.new h (by decide)).conn
  · exact GoodE.new h (by decide)
theorem conP_good (w o : Int) : GoodP (conP w o) 0 0 :=
  ⟨cnE_good (by omega), cnE_good (by omega), gl0, gl0, Nat.le_refl _, Nat.le_refl _, Nat.le_refl _⟩
/-- Two ends that are joined. -/
def joinP : Pr := calN 3 (conP 255 1)
theorem joinP_good : GoodP joinP 12 600 := (conP_good 255 1).calN 3
def stP : Pr := (pwF joinP 0 [1, 2, 3]).2
theorem stP_good : GoodP stP 12 600 := (joinP_good.wr 0 (fun x hx => by simp at hx; omega)).1
theorem stP_e0 : stP.e0.peer = 20 ∧ stP.e0.st = 2 ∧ stP.e0.inc = 10 := by decide +kernel
theorem stP_end : (calN 12 stP).r1 = [1, 2, 3] := by decide +kernel
theorem erc_stale {E : Edd} (h : E.peer = 20 ∧ E.st = 2 ∧ E.inc = 10) {m : Msg} (k1 : 1 ≤ m.1 ∧ m.1 ≤ 5) (m1 : 1 ≤ m.2.1 ∧ m.2.1 < 20) (y1 : 0 ≤ m.2.2.1 ∧ m.2.2.1 < 1099511627776) : ercF E m = (([], 17, ()), E) := by
  obtain ⟨h1, h2, h3⟩ := h
  unfold ercF
  rw [if_neg (by omega), if_neg (by omega), if_neg (by omega), if_neg (by omega), if_neg (by omega), if_neg (by omega), if_pos (by omega)]
theorem erc_other {E : Edd} (h : E.peer = 20 ∧ E.st = 2 ∧ E.inc = 10) {m : Msg} (k1 : 1 ≤ m.1 ∧ m.1 ≤ 5) (m1 : m.2.1 = 20) (y1 : 0 ≤ m.2.2.1 ∧ m.2.2.1 < 1099511627776) (hk : m.1 ≠ 1) (hy : m.2.2.1 ≠ 10) :
    ercF E m = if m.1 = 5 then (([], 17, ()), E) else (([(5, 10, 20, (0, [], false), 0, 0, false)], 17, ()), E) := by
  obtain ⟨h1, h2, h3⟩ := h
  unfold ercF
  rw [if_neg (by omega), if_neg (by omega), if_neg (by omega), if_neg (by omega), if_neg (by omega), if_neg (by omega), if_neg (by omega), if_neg (by omega), if_neg (by omega)]
  unfold erc1
  rw [if_neg (by omega), if_neg hk, if_neg (by omega), h3, m1]
theorem stP_eq : stP = (pwF (calN 3 (conP 255 1)) 0 [1, 2, 3]).2 := rfl
attribute [irreducible] joinP stP
end Go.Proofs.Ytldabjgegpmmiaa
