/-
  Plain: tables of routes.
-/
import Derived.Test.YtcaoldilmnpjoaaGreatChs
namespace Go.Proofs.YtcaoldilmnpjoaaGreat
set_option linter.all false
open Go.RowKit Go.Sx
abbrev TabE : Ty := .pair (.lst (.pair (.lst Ii) (.lst Ii))) .unit
abbrev TabT := List (List Int × List Int) × Unit
def chS (p : PlanT) (o : OrdT) (up : List Bool) (to : Nat) : ChS := ⟨p.1, p.2, up, o.1, rsL (srchL o.1 p.2 up p.1.length (to : Int)) false p.1.length, rsL (srchL o.1 p.2 up p.1.length (to : Int)) true p.1.length⟩
/-- What the table says: slot s is node s / 2, phase s % 2. -/
def entF (p : PlanT) (o : OrdT) (up : List Bool) (s to : Nat) : Int :=
  if s / 2 = to then -2
  else if s % 2 = 0 then chI (chS p o up to) ((s / 2 : Nat) : Int) (lat (chS p o up to).R ((s / 2 : Nat) : Int)) true
  else chI (chS p o up to) ((s / 2 : Nat) : Int) (lat (chS p o up to).F ((s / 2 : Nat) : Int)) false
def rowQ (e : Nat → Nat → Int) (n t q : Nat) : List (List Int) := (List.range (2 * n)).map fun s => if s < q then (List.range (t + 1)).map (e s) else (List.range t).map (e s)
theorem rowQ_len (e : Nat → Nat → Int) (n t q : Nat) : (rowQ e n t q).length = 2 * n := by unfold rowQ; rw [List.length_map, List.length_range]
theorem rowQ_at (e : Nat → Nat → Int) {n t q s : Nat} (h : s < 2 * n) : (rowQ e n t q)[s]? = some (if s < q then (List.range (t + 1)).map (e s) else (List.range t).map (e s)) := by
  unfold rowQ
  rw [List.getElem?_map, List.getElem?_range h]; rfl
theorem rowQ_next (e : Nat → Nat → Int) (n t : Nat) : rowQ e n t (2 * n) = rowQ e n (t + 1) 0 := by
  refine List.ext_getElem? fun s => ?_
  by_cases h : s < 2 * n
  · rw [rowQ_at e h, rowQ_at e h, if_pos h, if_neg (by omega)]
  · rw [List.getElem?_eq_none (by rw [rowQ_len]; omega), List.getElem?_eq_none (by rw [rowQ_len]; omega)]
theorem rowQ_get (e : Nat → Nat → Int) {n t q : Nat} (h : q < 2 * n) : (rowQ e n t q).getD q [] = (List.range t).map (e q) := by
  rw [List.getD_eq_getElem?_getD, rowQ_at e h, if_neg (by omega)]; rfl
theorem rowQ_set (e : Nat → Nat → Int) {n t q : Nat} (h : q < 2 * n) : (rowQ e n t q).set q ((rowQ e n t q).getD q [] ++ [e q t]) = rowQ e n t (q + 1) := by
  rw [rowQ_get e h]
  refine List.ext_getElem? fun s => ?_
  rw [List.getElem?_set]
  by_cases hs : q = s
  · subst hs
    rw [if_pos rfl, if_pos (by rw [rowQ_len]; exact h), rowQ_at e h, if_pos (by omega), List.range_succ, List.map_append]; rfl
  · rw [if_neg hs]
    by_cases h2 : s < 2 * n
    · rw [rowQ_at e h2, rowQ_at e h2]
      by_cases h3 : s < q
      · rw [if_pos h3, if_pos (by omega)]
      · rw [if_neg h3, if_neg (by omega)]
    · rw [List.getElem?_eq_none (by rw [rowQ_len]; omega), List.getElem?_eq_none (by rw [rowQ_len]; omega)]
theorem rowQ_zero (e : Nat → Nat → Int) (n : Nat) : rowQ e n 0 0 = List.replicate (n * 2) [] := by
  refine List.ext_getElem? fun s => ?_
  rw [List.getElem?_replicate]
  by_cases h : s < 2 * n
  · rw [rowQ_at e h, if_neg (by omega), if_pos (by omega)]; rfl
  · rw [List.getElem?_eq_none (by rw [rowQ_len]; omega), if_neg (by omega)]
def tabL (e : Nat → Nat → Int) (n : Nat) : List (List Int × List Int) := (List.range n).map fun k => ((List.range n).map (e (2 * k)), (List.range n).map (e (2 * k + 1)))
theorem pair_map (g : Nat → List Int) : ∀ n i : Nat, pairUp ((List.range' (2 * i) (2 * n)).map g) = (List.range' i n).map fun k => (g (2 * k), g (2 * k + 1))
  | 0, i => rfl
  | n + 1, i => by
    rw [show 2 * (n + 1) = 2 * n + 1 + 1 from by omega, List.range'_succ, List.range'_succ, List.range'_succ]
    simp only [List.map_cons, pairUp]
    rw [show 2 * i + 1 + 1 = 2 * (i + 1) from by omega, pair_map g n (i + 1)]
theorem rowQ_tab (e : Nat → Nat → Int) (n : Nat) : pairUp (rowQ e n n 0) = tabL e n := by
  unfold rowQ tabL
  have h : ∀ s, (if s < 0 then (List.range (n + 1)).map (e s) else (List.range n).map (e s)) = (List.range n).map (e s) := fun s => if_neg (by omega)
  simp only [h]
  have := pair_map (fun s => (List.range n).map (e s)) n 0
  rw [List.range_eq_range', List.range_eq_range'] at *
  exact this
end Go.Proofs.YtcaoldilmnpjoaaGreat
