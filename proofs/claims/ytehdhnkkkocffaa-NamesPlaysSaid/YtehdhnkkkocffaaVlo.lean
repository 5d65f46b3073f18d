/-
  Layer 40: which strings are names (walks of Valid).
-/
import Derived.Test.YtehdhnkkkocffaaProg
import Derived.WalkKit
import Derived.ProofKit
import Derived.OpenShut
import Derived.WalkLawsBesides
import Derived.WalkSpells
import Derived.BigQuiet
import Derived.Deep.QuietTactic
import Derived.StillTailTactics
import Derived.Maps.OwnOps
import Derived.Maps.OwnSet
import Derived.Maps.RangeWalk
import Derived.Lib.Hide
import Derived.BigGuardPart
namespace Go.Proofs.Ytehdhnkkkocffaa
set_option linter.all false
set_option linter.unusedVariables false
set_option linter.unusedSimpArgs false
set_option linter.unusedSectionVars false
open Go.RowKit Go.Maps Go.WideMaps
set_option linter.unusedSimpArgs false
set_option linter.unusedVariables false
theorem ret_bool {a b : Bool} (h : a = b) : Ending.returned (.bool a) = .returned (.bool b) := by rw [h]
theorem ret_int {k : IntKind} {a b : Int} (h : a = b) : Ending.returned (.int k a) = .returned (.int k b) := by rw [h]

/-! ### names -/
def chOk (j : Nat) (c : Int) : Prop := (97 ≤ c ∧ c ≤ 122) ∨ (j ≠ 0 ∧ ((48 ≤ c ∧ c ≤ 57) ∨ c = 45))
instance (j : Nat) (c : Int) : Decidable (chOk j c) := by unfold chOk; infer_instance
def validB (s : ByteArray) : Bool := decide (1 ≤ s.size ∧ s.size ≤ 20 ∧ ∀ j, (h : j < s.size) → chOk j (s[j].toNat : Int))
theorem validB_false {s : ByteArray} {k : Nat} (h : k < s.size) (hn : ¬ chOk k (s[k].toNat : Int)) : validB s = false := by
  unfold validB; simp only [decide_eq_false_iff_not]; intro hh; exact hn (hh.2.2 k h)

set_option maxRecDepth 100000 in
set_option maxHeartbeats 1000000 in
theorem valid_no (s : ByteArray) (w : World) (h1 : s.size < 1 ∨ 20 < s.size) : Calls Try.prog 21 #[.string s] w fun e w' => e = .returned (.bool (validB s)) ∧ w = w' := by
  have hv : Hid (validB s = false) := by unfold Hid validB; simp; omega
  go_enter Try.func21, Try.ntmps21
  go_wp2
  all_goals first | (go_ret; exact ⟨ret_bool hv.out.symm, rfl⟩) | omega

set_option maxRecDepth 100000 in
set_option maxHeartbeats 1000000 in
theorem valid_any (s : ByteArray) (w : World) : Calls Try.prog 21 #[.string s] w fun e w' => e = .returned (.bool (validB s)) ∧ w = w' := by
  by_cases h1 : s.size < 1 ∨ 20 < s.size
  · exact valid_no s w h1
  have h3 : decide ((s.size : Int) < 1) = false := by simp; omega
  have h4 : decide (20 < (s.size : Int)) = false := by simp; omega
  go_enter Try.func21, Try.ntmps21
  go_wp2
  clear h3 h4
  go_loop [17] (fun i => ∃ k : Nat, k ≤ s.size ∧ i = .int .i64 k ∧ ∀ j, j < k → (h : j < s.size) → chOk j (s[j].toNat : Int)) (fun i => s.size - (intOf i).toNat)
  case atStart => exact ⟨0, Nat.zero_le _, rfl, fun j hj => by omega⟩
  case round =>
    obtain ⟨k, hk, rfl, hall⟩ := hrel
    have HA := Lib.hid hall; clear hall
    by_cases hlt : k < s.size
    · have next : chOk k (s[k].toNat : Int) → ∀ j, j < k + 1 → (h : j < s.size) → chOk j (s[j].toNat : Int) := fun hc j hj h => by
        by_cases e : j = k
        · subst e; exact hc
        · exact HA.out j (by omega) h
      have NX := Lib.hid next; clear next
      have no : ¬ chOk k (s[k].toNat : Int) → validB s = false := fun hc => validB_false hlt hc
      have NO := Lib.hid no; clear no
      rcases k with _ | k
      · go_wp2
        all_goals (try simp only [Bool.not_eq_true', Bool.not_eq_false', beq_iff_eq, beq_eq_false_iff_ne, bne_iff_ne, bne_eq_false_iff_eq, ne_eq, decide_eq_true_eq, decide_eq_false_iff_not, Bool.not_eq_true, Bool.not_eq_false] at *)
        all_goals first
          | (go_round
             case rel => exact ⟨0 + 1, by omega, by go_num, NX.out (by unfold chOk; omega)⟩
             case measure => simp [intOf]; omega)
          | (go_ret; exact ⟨ret_bool (NO.out (by unfold chOk; omega)).symm, rfl⟩)
          | omega
      · go_wp2
        all_goals (try simp only [Bool.not_eq_true', Bool.not_eq_false', beq_iff_eq, beq_eq_false_iff_ne, bne_iff_ne, bne_eq_false_iff_eq, ne_eq, decide_eq_true_eq, decide_eq_false_iff_not, Bool.not_eq_true, Bool.not_eq_false] at *)
        all_goals first
          | (go_round
             case rel => exact ⟨k + 1 + 1, by omega, by go_num, NX.out (by unfold chOk; omega)⟩
             case measure => simp [intOf]; omega)
          | (go_ret; exact ⟨ret_bool (NO.out (by unfold chOk; omega)).symm, rfl⟩)
          | omega
    · go_wp2
      go_ret
      exact ⟨ret_bool (by unfold validB; simp only [Eq.comm (a := true), decide_eq_true_eq]; exact ⟨by omega, by omega, fun j h => HA.out j (by omega) h⟩), rfl⟩

def refOk (c : Int) : Prop := (97 ≤ c ∧ c ≤ 122) ∨ (48 ≤ c ∧ c ≤ 57) ∨ c = 45

set_option maxRecDepth 100000 in
set_option maxHeartbeats 2000000 in
theorem refvalid_any (s : ByteArray) (w : World) : Calls Try.prog 20 #[.string s] w fun e w' => e = .returned (.bool (validB s)) ∧ w = w' := by
  by_cases h1 : s.size < 1 ∨ 20 < s.size
  · have hv : Hid (validB s = false) := by unfold Hid validB; simp; omega
    go_enter Try.func20, Try.ntmps20
    rcases h1 with h1 | h1
    · go_wp2
      go_ret
      exact ⟨ret_bool hv.out.symm, rfl⟩
    · have h3 : decide ((s.size : Int) < 1) = false := by simp; omega
      have h4 : decide (20 < (s.size : Int)) = true := by simp; omega
      go_wp2
      go_ret
      exact ⟨ret_bool hv.out.symm, rfl⟩
  have h3 : decide ((s.size : Int) < 1) = false := by simp; omega
  have h4 : decide (20 < (s.size : Int)) = false := by simp; omega
  have hs0 : (0 : Int) < (s.size : Int) := by omega
  have hs0' : 0 < s.size := by omega
  by_cases hl : 97 ≤ (s[0].toNat : Int) ∧ (s[0].toNat : Int) ≤ 122
  · have H0 := Lib.hid hl
    obtain ⟨hl1, hl2⟩ := hl
    go_enter Try.func20, Try.ntmps20
    go_wp2
    all_goals first | (exfalso; omega) | skip
    clear h3 h4 hl1 hl2
    go_loop [3] (fun i => ∃ k : Nat, k ≤ s.size ∧ i = .int .i64 k ∧ ∀ j, j < k → (h : j < s.size) → refOk (s[j].toNat : Int)) (fun i => s.size - (intOf i).toNat)
    case atStart => exact ⟨0, Nat.zero_le _, rfl, fun j hj => by omega⟩
    case round =>
      obtain ⟨k, hk, rfl, hall⟩ := hrel
      have HA := Lib.hid hall; clear hall
      by_cases hlt : k < s.size
      · have next : refOk (s[k].toNat : Int) → ∀ j, j < k + 1 → (h : j < s.size) → refOk (s[j].toNat : Int) := fun hc j hj h => by
          by_cases e : j = k
          · subst e; exact hc
          · exact HA.out j (by omega) h
        have NX := Lib.hid next; clear next
        have no : ¬ refOk (s[k].toNat : Int) → validB s = false := fun hc => validB_false hlt (fun h => hc (by
          unfold chOk at h; unfold refOk; omega))
        have NO := Lib.hid no; clear no
        go_wp2
        all_goals (try simp only [Bool.not_eq_true', Bool.not_eq_false', beq_iff_eq, beq_eq_false_iff_ne, bne_iff_ne, bne_eq_false_iff_eq, ne_eq, decide_eq_true_eq, decide_eq_false_iff_not, Bool.not_eq_true, Bool.not_eq_false] at *)
        all_goals first
          | (go_round
             case rel => exact ⟨k + 1, by omega, by go_num, NX.out (by unfold refOk; omega)⟩
             case measure => simp [intOf]; omega)
          | (go_ret; exact ⟨ret_bool (NO.out (by unfold refOk; omega)).symm, rfl⟩)
          | omega
      · go_wp2
        go_ret
        refine ⟨ret_bool ?_, rfl⟩
        unfold validB
        simp only [Eq.comm (a := true), decide_eq_true_eq]
        refine ⟨by omega, by omega, fun j h => ?_⟩
        have := HA.out j (by omega) h
        have h0 := H0.out
        by_cases hj : j = 0
        · subst hj; exact Or.inl h0
        · unfold refOk at this; unfold chOk; omega
  · have hv : Hid (validB s = false) := validB_false hs0' (by unfold chOk; omega)
    by_cases ha : (s[0].toNat : Int) < 97
    · have hb1 : decide ((s[0].toNat : Int) < 97) = true := by simpa using ha
      go_enter Try.func20, Try.ntmps20
      go_wp2
      all_goals (go_ret; exact ⟨ret_bool hv.out.symm, rfl⟩)
    · have hb1 : decide ((s[0].toNat : Int) < 97) = false := by simpa using ha
      have hb2 : decide (122 < (s[0].toNat : Int)) = true := by simp; omega
      go_enter Try.func20, Try.ntmps20
      go_wp2
      all_goals (go_ret; exact ⟨ret_bool hv.out.symm, rfl⟩)
end Go.Proofs.Ytehdhnkkkocffaa
