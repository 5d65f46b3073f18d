/-
  Layer 40: what one act does to the directory and to the reference (plain).
-/
import Derived.Test.YtehdhnkkkocffaaRfm
import Derived.Test.YtehdhnkkkocffaaFlw
namespace Go.Proofs.Ytehdhnkkkocffaa
set_option linter.all false
set_option linter.unusedVariables false
set_option linter.unusedSimpArgs false
set_option linter.unusedSectionVars false
open Go.RowKit Go.Sx
theorem okR_dir {D : DirL} {c : Int} (h : OkC D c) : OkR (dirR D) := by
  refine ⟨by rw [dirR_len]; have := h.len; have := h.c; omega, fun e he => ?_, fun e he => ?_⟩
  · obtain ⟨p, hp, rfl⟩ := List.mem_map.1 he
    exact (h.el p hp).1
  · obtain ⟨p, hp, rfl⟩ := List.mem_map.1 he
    have := (h.el p hp).2.1
    exact ⟨this.ver, this.lease, this.fin⟩
theorem bindN_ok {D : DirL} {n : List Int} {nd pt t ls : Int} (h : (bindN D n nd pt t ls).1.2.1 = (0 : Int)) : ∃ e', (bindN D n nd pt t ls).2 = putS D n e' ∧ e'.1 = (bindN D n nd pt t ls).1.1 := by
  unfold bindN at h ⊢
  split
  · exact ⟨_, rfl, rfl⟩
  · rename_i h1
    rw [if_neg h1] at h
    split
    · rename_i h2; rw [if_pos h2] at h; cases h
    · exact ⟨_, rfl, rfl⟩
theorem bindN_er {D : DirL} {n : List Int} {nd pt t ls : Int} (h : ¬ (bindN D n nd pt t ls).1.2.1 = (0 : Int)) : (bindN D n nd pt t ls).1.1 = (0, 0, 0) := by
  unfold bindN at h ⊢
  split
  · rename_i h1; rw [if_pos h1] at h; exact absurd rfl h
  · rename_i h1
    rw [if_neg h1] at h
    split
    · rfl
    · rename_i h2; rw [if_neg h2] at h; exact absurd rfl h
theorem bind_oz {D : DirL} {n : List Int} {nd pt t ls : Int} (h : (bindF D n nd pt t ls).1.2.1 = (0 : Int)) : ∃ e', (bindF D n nd pt t ls).2 = putS D n e' ∧ e'.1 = (bindF D n nd pt t ls).1.1 := by
  unfold bindF at h ⊢
  by_cases h1 : vldF n = true
  · rw [if_pos h1] at h ⊢
    by_cases h2 : 0 ≤ nd ∧ nd < 16 ∧ 0 ≤ pt ∧ pt < 8 ∧ 0 ≤ t ∧ t ≤ 1073741824 ∧ 1 ≤ ls ∧ ls ≤ 1073741824
    · rw [if_pos h2] at h ⊢
      by_cases h3 : (entAt D n).2.1 = true
      · rw [if_pos h3] at h ⊢
        by_cases h4 : t < (entAt D n).2.2.2
        · rw [if_pos h4] at h; cases h
        · rw [if_neg h4] at h ⊢; exact bindN_ok h
      · rw [if_neg h3] at h ⊢; exact bindN_ok h
    · rw [if_neg h2] at h; cases h
  · rw [if_neg h1] at h; cases h
theorem bind_ez {D : DirL} {n : List Int} {nd pt t ls : Int} (h : ¬ (bindF D n nd pt t ls).1.2.1 = (0 : Int)) : (bindF D n nd pt t ls).1.1 = (0, 0, 0) := by
  unfold bindF at h ⊢
  by_cases h1 : vldF n = true
  · rw [if_pos h1] at h ⊢
    by_cases h2 : 0 ≤ nd ∧ nd < 16 ∧ 0 ≤ pt ∧ pt < 8 ∧ 0 ≤ t ∧ t ≤ 1073741824 ∧ 1 ≤ ls ∧ ls ≤ 1073741824
    · rw [if_pos h2] at h ⊢
      by_cases h3 : (entAt D n).2.1 = true
      · rw [if_pos h3] at h ⊢
        by_cases h4 : t < (entAt D n).2.2.2
        · rw [if_pos h4]
        · rw [if_neg h4] at h ⊢; exact bindN_er h
      · rw [if_neg h3] at h ⊢; exact bindN_er h
    · rw [if_neg h2]
  · rw [if_neg h1]
theorem move_oz {D : DirL} {n : List Int} {v nd pt t : Int} (h : (moveF D n v nd pt t).1.2.1 = (0 : Int)) : ∃ e', (moveF D n v nd pt t).2 = putS D n e' ∧ e'.1 = (moveF D n v nd pt t).1.1 := by
  unfold moveF at h ⊢
  repeat' split
  all_goals first | exact ⟨_, rfl, rfl⟩ | (exfalso; simp_all; done)
theorem move_ez {D : DirL} {n : List Int} {v nd pt t : Int} (h : ¬ (moveF D n v nd pt t).1.2.1 = (0 : Int)) : (moveF D n v nd pt t).1.1 = (0, 0, 0) := by
  unfold moveF at h ⊢
  repeat' split
  all_goals first | rfl | (exfalso; simp_all; done)
theorem put_at {D D' : DirL} {n : List Int} {e : Ent} {p : Pl} (h : D' = putS D n e) (hp : e.1 = p) : fI (dirR D') n < ((dirR D').length : Int) ∧ ((atI (dirR D') n).2.2.2.1, (atI (dirR D') n).2.2.2.2.1, (atI (dirR D') n).2.1) = p := by
  have hg : getS D' n = some e := by rw [h, getS_put, if_pos rfl]
  obtain ⟨h1, h2, _⟩ := fI_some hg
  exact ⟨h1, by rw [h2]; exact hp⟩
/-- Bind. -/
theorem pl0 {D : DirL} {a : TA} (h : a.1 = 0) : rbindF (dirR D) a.2.1 a.2.2.1 a.2.2.2.1 a.2.2.2.2.2.1 a.2.2.2.2.2.2 = (dirR (doF D a).2, (doF D a).1.2.1, ()) := by
  rw [agr_bind]; unfold doF; rw [if_pos h]
theorem pl1 {D : DirL} {a : TA} (h : a.1 = 1) : rrenewF (dirR D) a.2.1 a.2.2.2.2.1 a.2.2.2.2.2.1 = (dirR (doF D a).2, (doF D a).1.2.1, ()) ∧ (doF D a).1.1 = (0, 0, 0) := by
  rw [agr_renew]; unfold doF; rw [if_neg (by omega), if_pos h]; exact ⟨rfl, rfl⟩
theorem pl2 {D : DirL} {a : TA} (h : a.1 = 2) : rmoveF (dirR D) a.2.1 a.2.2.2.2.1 a.2.2.1 a.2.2.2.1 a.2.2.2.2.2.1 = (dirR (doF D a).2, (doF D a).1.2.1, ()) := by
  rw [agr_move]; unfold doF; rw [if_neg (by omega), if_neg (by omega), if_pos h]
theorem pl3 {D : DirL} {a : TA} (h : a.1 = 3) : rdropF (dirR D) a.2.1 a.2.2.2.2.1 = (dirR (doF D a).2, (doF D a).1.2.1, ()) ∧ (doF D a).1.1 = (0, 0, 0) := by
  rw [agr_drop]; unfold doF; rw [if_neg (by omega), if_neg (by omega), if_neg (by omega), if_pos h]; exact ⟨rfl, rfl⟩
theorem pl4 {D : DirL} {a : TA} (h0 : ¬ a.1 = 0) (h1 : ¬ a.1 = 1) (h2 : ¬ a.1 = 2) (h : ¬ a.1 = 3) : (rlookF (dirR D) a.2.1 a.2.2.2.2.2.1).2.1 = (doF D a).1.2.1 ∧ ((rlookF (dirR D) a.2.1 a.2.2.2.2.2.1).1.2.2.2.1, (rlookF (dirR D) a.2.1 a.2.2.2.2.2.1).1.2.2.2.2.1, (rlookF (dirR D) a.2.1 a.2.2.2.2.2.1).1.2.1) = (doF D a).1.1 ∧ (doF D a).2 = D := by
  obtain ⟨x, y⟩ := agr_look D a.2.1 a.2.2.2.2.2.1
  unfold doF; rw [if_neg h0, if_neg h1, if_neg h2, if_neg h]; exact ⟨x, y, rfl⟩
theorem pl_ok {D : DirL} {a : TA} (h : a.1 = 0 ∨ a.1 = 2) (he : (doF D a).1.2.1 = (0 : Int)) : fI (dirR (doF D a).2) a.2.1 < ((dirR (doF D a).2).length : Int) ∧ ((atI (dirR (doF D a).2) a.2.1).2.2.2.1, (atI (dirR (doF D a).2) a.2.1).2.2.2.2.1, (atI (dirR (doF D a).2) a.2.1).2.1) = (doF D a).1.1 := by
  rcases h with h | h
  · have e : doF D a = bindF D a.2.1 a.2.2.1 a.2.2.2.1 a.2.2.2.2.2.1 a.2.2.2.2.2.2 := by unfold doF; rw [if_pos h]
    rw [e] at he ⊢
    obtain ⟨e', h1, h2⟩ := bind_oz he
    exact put_at h1 h2
  · have e : doF D a = moveF D a.2.1 a.2.2.2.2.1 a.2.2.1 a.2.2.2.1 a.2.2.2.2.2.1 := by unfold doF; rw [if_neg (by omega), if_neg (by omega), if_pos h]
    rw [e] at he ⊢
    obtain ⟨e', h1, h2⟩ := move_oz he
    exact put_at h1 h2
theorem pl_er {D : DirL} {a : TA} (h : a.1 = 0 ∨ a.1 = 2) (he : ¬ (doF D a).1.2.1 = (0 : Int)) : (doF D a).1.1 = (0, 0, 0) := by
  rcases h with h | h
  · have e : doF D a = bindF D a.2.1 a.2.2.1 a.2.2.2.1 a.2.2.2.2.2.1 a.2.2.2.2.2.2 := by unfold doF; rw [if_pos h]
    rw [e] at he ⊢
    exact bind_ez he
  · have e : doF D a = moveF D a.2.1 a.2.2.2.2.1 a.2.2.1 a.2.2.2.1 a.2.2.2.2.2.1 := by unfold doF; rw [if_neg (by omega), if_neg (by omega), if_pos h]
    rw [e] at he ⊢
    exact move_ez he
end Go.Proofs.Ytehdhnkkkocffaa
