/-
  Layer 40: strings in order; a directory as the reference's list (plain).
-/
import Derived.Test.YtehdhnkkkocffaaRfe
import Derived.Test.YtehdhnkkkocffaaMst
namespace Go.Proofs.Ytehdhnkkkocffaa
set_option linter.all false
set_option linter.unusedVariables false
set_option linter.unusedSimpArgs false
set_option linter.unusedSectionVars false
open Go.RowKit Go.Sx
theorem less_iff : ∀ a b : List UInt8, Op.bytesLess a b = decide (a < b)
  | a, [] => by
    have : ¬ a < [] := List.not_lt_nil a
    rw [decide_eq_false this]; cases a <;> rfl
  | [], b :: r => by
    have : ([] : List UInt8) < b :: r := List.nil_lt_cons b r
    rw [decide_eq_true this]; rfl
  | a :: l, b :: r => by
    show (decide (a < b) || (a == b && Op.bytesLess l r)) = _
    rw [less_iff l r, Bool.eq_iff_iff]
    simp only [Bool.or_eq_true, Bool.and_eq_true, decide_eq_true_eq, beq_iff_eq]
    exact List.cons_lt_cons_iff.symm
theorem ba_list (l : List Int) : (strBA l).toList = u8s l := by
  unfold strBA
  simp
theorem less_eq (a b : List Int) : Op.bytesLess (strBA a).toList (strBA b).toList = decide (u8s a < u8s b) := by
  rw [ba_list, ba_list, less_iff]
/-- The directory's list as the reference's. -/
abbrev toR (p : List Int × Ent) : RE := (p.1, p.2.1.2.2, p.2.2.1, p.2.1.1, p.2.1.2.1, p.2.2.2.1, p.2.2.2.2)
def dirR (D : DirL) : RL := D.map toR
theorem dirR_len (D : DirL) : (dirR D).length = D.length := List.length_map _
theorem fiR_get : ∀ (D : DirL) (n : List Int), (getS D n).isSome = decide (fiR (dirR D) n < D.length)
  | [], n => rfl
  | (k, u) :: D, n => by
    show (if k = n then some u else getS D n).isSome = decide ((if k = n then 0 else fiR (dirR D) n + 1) < D.length + 1)
    by_cases e : k = n
    · rw [if_pos e, if_pos e]; simp
    · rw [if_neg e, if_neg e, fiR_get D n]; simp
theorem fiR_none {D : DirL} {n : List Int} (h : getS D n = none) : fiR (dirR D) n = D.length := by
  have h1 := fiR_get D n
  rw [h] at h1
  have h2 : ¬ fiR (dirR D) n < D.length := of_decide_eq_false h1.symm
  have := fiR_le (dirR D) n
  rw [dirR_len] at this; omega
theorem atR_get : ∀ {D : DirL} {n : List Int} {e : Ent}, getS D n = some e → (dirR D).getD (fiR (dirR D) n) re0 = toR (n, e)
  | (k, u) :: D, n, e, h => by
    have h : (if k = n then some u else getS D n) = some e := h
    show (toR (k, u) :: dirR D).getD (if k = n then 0 else fiR (dirR D) n + 1) re0 = _
    by_cases c : k = n
    · rw [if_pos c] at h ⊢; cases h; rw [c]; rfl
    · rw [if_neg c] at h ⊢; exact atR_get h
theorem put_same : ∀ (D : DirL) (n : List Int) (e : Ent), dirR (putS D n e) = putR (dirR D) (fI (dirR D) n) (toR (n, e))
  | [], n, e => rfl
  | (k, u) :: D, n, e => by
    have ih := put_same D n e
    show dirR (if k = n then (n, e) :: D else (k, u) :: putA D n e) = _
    unfold putR fI at ih ⊢
    show _ = if (((if k = n then 0 else fiR (dirR D) n + 1 : Nat)) : Int) = ((dirR D).length + 1 : Nat) then (toR (k, u) :: dirR D) ++ [toR (n, e)] else (toR (k, u) :: dirR D).set (((if k = n then 0 else fiR (dirR D) n + 1 : Nat)) : Int).toNat (toR (n, e))
    by_cases c : k = n
    · rw [if_pos c, if_pos c, if_neg (by omega)]; rfl
    · rw [if_neg c, if_neg c]
      by_cases c2 : ((fiR (dirR D) n : Nat) : Int) = (dirR D).length
      · rw [if_pos c2] at ih
        rw [if_pos (by omega)]
        exact congrArg (toR (k, u) :: ·) ih
      · rw [if_neg c2] at ih
        rw [if_neg (by omega)]
        rw [show (((fiR (dirR D) n + 1 : Nat)) : Int).toNat = ((fiR (dirR D) n : Nat) : Int).toNat + 1 by omega]
        exact congrArg (toR (k, u) :: ·) ih
end Go.Proofs.Ytehdhnkkkocffaa
