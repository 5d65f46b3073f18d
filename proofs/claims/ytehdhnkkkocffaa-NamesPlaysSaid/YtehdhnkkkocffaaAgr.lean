/-
  Layer 40: the directory and the reference agree (plain).
-/
import Derived.Test.YtehdhnkkkocffaaLss
namespace Go.Proofs.Ytehdhnkkkocffaa
set_option linter.all false
set_option linter.unusedVariables false
set_option linter.unusedSimpArgs false
set_option linter.unusedSectionVars false
open Go.RowKit Go.Sx
theorem fI_none {D : DirL} {n : List Int} (h : getS D n = none) : fI (dirR D) n = D.length ∧ ((dirR D).length : Int) = D.length ∧ entAt D n = ((0, 0, 0), false, 0, 0) := by
  refine ⟨?_, ?_, ?_⟩
  · show ((fiR (dirR D) n : Nat) : Int) = _; rw [fiR_none h]
  · rw [dirR_len]
  · unfold entAt; rw [h]; rfl
theorem fI_some {D : DirL} {n : List Int} {e : Ent} (h : getS D n = some e) : fI (dirR D) n < ((dirR D).length : Int) ∧ atI (dirR D) n = toR (n, e) ∧ entAt D n = e := by
  refine ⟨?_, ?_, ?_⟩
  · have h1 := fiR_get D n
    rw [h] at h1
    have h2 : fiR (dirR D) n < D.length := of_decide_eq_true h1.symm
    rw [dirR_len]; show ((fiR (dirR D) n : Nat) : Int) < _; omega
  · show (dirR D).getD ((fiR (dirR D) n : Nat) : Int).toNat re0 = _
    rw [Int.toNat_natCast]; exact atR_get h
  · unfold entAt; rw [h]; rfl
theorem agr_bind (D : DirL) (n : List Int) (nd pt t ls : Int) : rbindF (dirR D) n nd pt t ls = (dirR (bindF D n nd pt t ls).2, (bindF D n nd pt t ls).1.2.1, ()) := by
  unfold rbindF bindF
  by_cases hv : vldF n = true
  · rw [if_pos hv, if_pos hv]
    by_cases hr : 0 ≤ nd ∧ nd < 16 ∧ 0 ≤ pt ∧ pt < 8 ∧ 0 ≤ t ∧ t ≤ 1073741824 ∧ 1 ≤ ls ∧ ls ≤ 1073741824
    · rw [if_pos hr, if_pos hr]
      cases h : getS D n with
      | none =>
        obtain ⟨h1, h2, h3⟩ := fI_none h
        rw [if_neg (show ¬ fI (dirR D) n < ((dirR D).length : Int) by omega), if_neg (show ¬ (entAt D n).2.1 = true by rw [h3]; decide), h1]
        have hb : bindN D n nd pt t ls = if 1000 ≤ (D.length : Int) then (plR (0, 0, 0) 5, D) else (plR (nd, pt, 1) 0, putS D n ((nd, pt, 1), true, ls, t + ls)) := by
          unfold bindN; rw [h, h3]; exact if_neg (by decide)
        rw [hb]
        by_cases c : 1000 ≤ (D.length : Int)
        · simp only [if_pos c]
        · simp only [if_neg c]
          rw [put_same, h1]
      | some e =>
        obtain ⟨h1, h2, h3⟩ := fI_some h
        have hb : bindN D n nd pt t ls = (plR (nd, pt, e.1.2.2 + 1) 0, putS D n ((nd, pt, e.1.2.2 + 1), true, ls, t + ls)) := by
          unfold bindN; rw [h, h3]; exact if_pos rfl
        have hm : rbM (dirR D) n nd pt t ls = (dirR (bindN D n nd pt t ls).2, (bindN D n nd pt t ls).1.2.1, ()) := by
          rw [hb, put_same]; unfold rbM; rw [h2]
        rw [if_pos h1, h2, h3]
        by_cases c : e.2.1 = true
        · rw [if_pos c, if_pos (show (toR (n, e)).2.2.1 = true from c)]
          by_cases c2 : t < e.2.2.2
          · rw [if_pos c2, if_pos (show t < (toR (n, e)).2.2.2.2.2.2 from c2)]
          · rw [if_neg c2, if_neg (show ¬ t < (toR (n, e)).2.2.2.2.2.2 from c2)]; exact hm
        · rw [if_neg c, if_neg (show ¬ (toR (n, e)).2.2.1 = true from c)]; exact hm
    · rw [if_neg hr, if_neg hr]
  · rw [if_neg hv, if_neg hv]
theorem agr_look (D : DirL) (n : List Int) (t : Int) : (rlookF (dirR D) n t).2.1 = (lookF D n t).2.1 ∧ ((rlookF (dirR D) n t).1.2.2.2.1, (rlookF (dirR D) n t).1.2.2.2.2.1, (rlookF (dirR D) n t).1.2.1) = (lookF D n t).1 := by
  unfold rlookF lookF
  by_cases hv : vldF n = true
  · rw [if_pos hv, if_pos hv]
    by_cases hr : 0 ≤ t ∧ t ≤ 1073741824
    · rw [if_pos hr, if_pos hr]
      cases h : getS D n with
      | none =>
        obtain ⟨h1, h2, h3⟩ := fI_none h
        rw [h3, if_neg (by omega), if_neg (by decide)]; exact ⟨rfl, rfl⟩
      | some e =>
        obtain ⟨h1, h2, h3⟩ := fI_some h
        have h2 : (dirR D).getD (fI (dirR D) n).toNat re0 = toR (n, e) := h2
        rw [if_pos h1, h2, h3]
        by_cases c : e.2.1 = true
        · rw [if_pos c, if_pos (show (toR (n, e)).2.2.1 = true from c)]
          by_cases c2 : t < e.2.2.2
          · rw [if_pos c2, if_pos (show t < (toR (n, e)).2.2.2.2.2.2 from c2)]; exact ⟨rfl, rfl⟩
          · rw [if_neg c2, if_neg (show ¬ t < (toR (n, e)).2.2.2.2.2.2 from c2)]; exact ⟨rfl, rfl⟩
        · rw [if_neg c, if_neg (show ¬ (toR (n, e)).2.2.1 = true from c)]; exact ⟨rfl, rfl⟩
    · rw [if_neg hr, if_neg hr]; exact ⟨rfl, rfl⟩
  · rw [if_neg hv, if_neg hv]; exact ⟨rfl, rfl⟩
theorem agr_renew (D : DirL) (n : List Int) (v t : Int) : rrenewF (dirR D) n v t = (dirR (renewF D n v t).2, (renewF D n v t).1.1, ()) := by
  unfold rrenewF renewF
  by_cases hv : vldF n = true
  · rw [if_pos hv, if_pos hv]
    by_cases hr : 0 ≤ t ∧ t ≤ 1073741824
    · rw [if_pos hr, if_pos hr]
      cases h : getS D n with
      | none =>
        obtain ⟨h1, h2, h3⟩ := fI_none h
        rw [if_neg (show ¬ fI (dirR D) n < ((dirR D).length : Int) by omega), if_neg (show ¬ (entAt D n).2.1 = true by rw [h3]; decide)]
      | some e =>
        obtain ⟨h1, h2, h3⟩ := fI_some h
        rw [if_pos h1, h2, h3]
        by_cases c : e.2.1 = true
        · rw [if_pos c, if_pos (show (toR (n, e)).2.2.1 = true from c)]
          by_cases c2 : t < e.2.2.2
          · rw [if_pos c2, if_pos (show t < (toR (n, e)).2.2.2.2.2.2 from c2)]
            by_cases c3 : e.1.2.2 = v
            · rw [if_pos c3, if_pos (show (toR (n, e)).2.1 = v from c3), put_same]
            · rw [if_neg c3, if_neg (show ¬ (toR (n, e)).2.1 = v from c3)]
          · rw [if_neg c2, if_neg (show ¬ t < (toR (n, e)).2.2.2.2.2.2 from c2)]
        · rw [if_neg c, if_neg (show ¬ (toR (n, e)).2.2.1 = true from c)]
    · rw [if_neg hr, if_neg hr]
  · rw [if_neg hv, if_neg hv]
theorem agr_move (D : DirL) (n : List Int) (v nd pt t : Int) : rmoveF (dirR D) n v nd pt t = (dirR (moveF D n v nd pt t).2, (moveF D n v nd pt t).1.2.1, ()) := by
  unfold rmoveF moveF
  by_cases hv : vldF n = true
  · rw [if_pos hv, if_pos hv]
    by_cases hr : 0 ≤ nd ∧ nd < 16 ∧ 0 ≤ pt ∧ pt < 8 ∧ 0 ≤ t ∧ t ≤ 1073741824
    · rw [if_pos hr, if_pos hr]
      cases h : getS D n with
      | none =>
        obtain ⟨h1, h2, h3⟩ := fI_none h
        rw [if_neg (show ¬ fI (dirR D) n < ((dirR D).length : Int) by omega), if_neg (show ¬ (entAt D n).2.1 = true by rw [h3]; decide)]
      | some e =>
        obtain ⟨h1, h2, h3⟩ := fI_some h
        rw [if_pos h1, h2, h3]
        by_cases c : e.2.1 = true
        · rw [if_pos c, if_pos (show (toR (n, e)).2.2.1 = true from c)]
          by_cases c2 : t < e.2.2.2
          · rw [if_pos c2, if_pos (show t < (toR (n, e)).2.2.2.2.2.2 from c2)]
            by_cases c3 : e.1.2.2 = v
            · rw [if_pos c3, if_pos (show (toR (n, e)).2.1 = v from c3), put_same]; rw [show (toR (n, e)).2.1 + 1 = v + 1 from congrArg (· + 1) c3]
            · rw [if_neg c3, if_neg (show ¬ (toR (n, e)).2.1 = v from c3)]
          · rw [if_neg c2, if_neg (show ¬ t < (toR (n, e)).2.2.2.2.2.2 from c2)]
        · rw [if_neg c, if_neg (show ¬ (toR (n, e)).2.2.1 = true from c)]
    · rw [if_neg hr, if_neg hr]
  · rw [if_neg hv, if_neg hv]
theorem agr_drop (D : DirL) (n : List Int) (v : Int) : rdropF (dirR D) n v = (dirR (dropF D n v).2, (dropF D n v).1.1, ()) := by
  unfold rdropF dropF
  by_cases hv : vldF n = true
  · rw [if_pos hv, if_pos hv]
    cases h : getS D n with
    | none =>
      obtain ⟨h1, h2, h3⟩ := fI_none h
      rw [if_pos (show fI (dirR D) n = ((dirR D).length : Int) by omega), if_neg (show ¬ (entAt D n).2.1 = true by rw [h3]; decide)]
    | some e =>
      obtain ⟨h1, h2, h3⟩ := fI_some h
      have h2 : (dirR D).getD (fI (dirR D) n).toNat re0 = toR (n, e) := h2
      rw [if_neg (show ¬ fI (dirR D) n = ((dirR D).length : Int) by omega), h2, h3]
      by_cases c : e.2.1 = true
      · rw [if_pos c, if_pos (show (toR (n, e)).2.2.1 = true from c)]
        by_cases c3 : e.1.2.2 = v
        · rw [if_pos c3, if_pos (show (toR (n, e)).2.1 = v from c3), put_same]
        · rw [if_neg c3, if_neg (show ¬ (toR (n, e)).2.1 = v from c3)]
      · rw [if_neg c, if_neg (show ¬ (toR (n, e)).2.2.1 = true from c)]
  · rw [if_neg hv, if_neg hv]
end Go.Proofs.Ytehdhnkkkocffaa
