/-
  The top: which strings are names of nodes (walks of validName).
-/
import Derived.Test.YtcaoldilmnpjoaaGreatProg
import Derived.WalkKit
import Derived.ProofKit
import Derived.OpenShut
import Derived.WalkLawsBesides
import Derived.WalkSpells
import Derived.BigQuiet
import Derived.Deep.QuietTactic
import Derived.StillTailTactics
import Derived.Maps.OwnOps
import Derived.Maps.OwnSet
import Derived.Maps.RangeWalk
import Derived.Lib.Hide
import Derived.BigGuardPart
namespace Go.Proofs.YtcaoldilmnpjoaaGreat
set_option linter.all false
open Go.RowKit Go.Maps Go.WideMaps
set_option linter.unusedSimpArgs false
set_option linter.unusedVariables false
theorem ret_bool {a b : Bool} (h : a = b) : Ending.returned (.bool a) = .returned (.bool b) := by rw [h]
theorem ret_int {k : IntKind} {a b : Int} (h : a = b) : Ending.returned (.int k a) = .returned (.int k b) := by rw [h]

/-! ### names -/
def chOk (j : Nat) (c : Int) : Prop := (97 ≤ c ∧ c ≤ 122) ∨ (j ≠ 0 ∧ (48 ≤ c ∧ c ≤ 57))
instance (j : Nat) (c : Int) : Decidable (chOk j c) := by unfold chOk; infer_instance
def validB (s : ByteArray) : Bool := decide (1 ≤ s.size ∧ s.size ≤ 20 ∧ ∀ j, (h : j < s.size) → chOk j (s[j].toNat : Int))
theorem validB_false {s : ByteArray} {k : Nat} (h : k < s.size) (hn : ¬ chOk k (s[k].toNat : Int)) : validB s = false := by
  unfold validB; simp only [decide_eq_false_iff_not]; intro hh; exact hn (hh.2.2 k h)

set_option maxRecDepth 100000 in
set_option maxHeartbeats 1000000 in
theorem valid_no (s : ByteArray) (w : World) (h1 : s.size < 1 ∨ 20 < s.size) : Calls Tryz.prog 106 #[.string s] w fun e w' => e = .returned (.bool (validB s)) ∧ w = w' := by
  have hv : Hid (validB s = false) := by unfold Hid validB; simp; omega
  go_enter Tryz.func106, Tryz.ntmps106
  go_wp2
  all_goals first | (go_ret; exact ⟨ret_bool hv.out.symm, rfl⟩) | omega

set_option maxRecDepth 100000 in
set_option maxHeartbeats 1000000 in
theorem valid_any (s : ByteArray) (w : World) : Calls Tryz.prog 106 #[.string s] w fun e w' => e = .returned (.bool (validB s)) ∧ w = w' := by
  by_cases h1 : s.size < 1 ∨ 20 < s.size
  · exact valid_no s w h1
  have h3 : decide ((s.size : Int) < 1) = false := by simp; omega
  have h4 : decide (20 < (s.size : Int)) = false := by simp; omega
  go_enter Tryz.func106, Tryz.ntmps106
  go_wp2
  clear h3 h4
  go_loop [16] (fun i => ∃ k : Nat, k ≤ s.size ∧ i = .int .i64 k ∧ ∀ j, j < k → (h : j < s.size) → chOk j (s[j].toNat : Int)) (fun i => s.size - (intOf i).toNat)
  case atStart => exact ⟨0, Nat.zero_le _, rfl, fun j hj => by omega⟩
  case round =>
    obtain ⟨k, hk, rfl, hall⟩ := hrel
    have HA := Lib.hid hall; clear hall
    by_cases hlt : k < s.size
    · have next : chOk k (s[k].toNat : Int) → ∀ j, j < k + 1 → (h : j < s.size) → chOk j (s[j].toNat : Int) := fun hc j hj h => by
        by_cases e : j = k
        · subst e; exact hc
        · exact HA.out j (by omega) h
      have NX := Lib.hid next; clear next
      have no : ¬ chOk k (s[k].toNat : Int) → validB s = false := fun hc => validB_false hlt hc
      have NO := Lib.hid no; clear no
      rcases k with _ | k
      · go_wp2
        all_goals (try simp only [Bool.not_eq_true', Bool.not_eq_false', beq_iff_eq, beq_eq_false_iff_ne, bne_iff_ne, bne_eq_false_iff_eq, ne_eq, decide_eq_true_eq, decide_eq_false_iff_not, Bool.not_eq_true, Bool.not_eq_false] at *)
        all_goals first
          | (go_round
             case rel => exact ⟨0 + 1, by omega, by go_num, NX.out (by unfold chOk; omega)⟩
             case measure => simp [intOf]; omega)
          | (go_ret; exact ⟨ret_bool (NO.out (by unfold chOk; omega)).symm, rfl⟩)
          | omega
      · go_wp2
        all_goals (try simp only [Bool.not_eq_true', Bool.not_eq_false', beq_iff_eq, beq_eq_false_iff_ne, bne_iff_ne, bne_eq_false_iff_eq, ne_eq, decide_eq_true_eq, decide_eq_false_iff_not, Bool.not_eq_true, Bool.not_eq_false] at *)
        all_goals first
          | (go_round
             case rel => exact ⟨k + 1 + 1, by omega, by go_num, NX.out (by unfold chOk; omega)⟩
             case measure => simp [intOf]; omega)
          | (go_ret; exact ⟨ret_bool (NO.out (by unfold chOk; omega)).symm, rfl⟩)
          | omega
    · go_wp2
      go_ret
      exact ⟨ret_bool (by unfold validB; simp only [Eq.comm (a := true), decide_eq_true_eq]; exact ⟨by omega, by omega, fun j h => HA.out j (by omega) h⟩), rfl⟩

end Go.Proofs.YtcaoldilmnpjoaaGreat
