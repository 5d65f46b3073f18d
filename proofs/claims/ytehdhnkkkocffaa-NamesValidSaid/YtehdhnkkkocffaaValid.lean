/-
  NamesValid (layer 40): the walk.
-/
import Derived.Test.YtehdhnkkkocffaaAwake
namespace Go.Proofs.Ytehdhnkkkocffaa
set_option linter.unusedSimpArgs false
set_option linter.unusedVariables false
set_option linter.unusedSectionVars false
open Go.RowKit Go.Maps Go.WideMaps

def refOk (c : Int) : Prop := (97 ≤ c ∧ c ≤ 122) ∨ (48 ≤ c ∧ c ≤ 57) ∨ c = 45

set_option maxRecDepth 100000 in
set_option maxHeartbeats 2000000 in
theorem refvalid_any (s : ByteArray) (w : World) : Calls Try.prog 20 #[.string s] w fun e w' => e = .returned (.bool (validB s)) ∧ w = w' := by
  by_cases h1 : s.size < 1 ∨ 20 < s.size
  · have hv : Hid (validB s = false) := by unfold Hid validB; simp; omega
    go_enter Try.func20, Try.ntmps20
    rcases h1 with h1 | h1
    · go_wp2
      go_ret
      exact ⟨ret_bool hv.out.symm, rfl⟩
    · have h3 : decide ((s.size : Int) < 1) = false := by simp; omega
      have h4 : decide (20 < (s.size : Int)) = true := by simp; omega
      go_wp2
      go_ret
      exact ⟨ret_bool hv.out.symm, rfl⟩
  have h3 : decide ((s.size : Int) < 1) = false := by simp; omega
  have h4 : decide (20 < (s.size : Int)) = false := by simp; omega
  have hs0 : (0 : Int) < (s.size : Int) := by omega
  have hs0' : 0 < s.size := by omega
  by_cases hl : 97 ≤ (s[0].toNat : Int) ∧ (s[0].toNat : Int) ≤ 122
  · have H0 := Lib.hid hl
    obtain ⟨hl1, hl2⟩ := hl
    go_enter Try.func20, Try.ntmps20
    go_wp2
    clear h3 h4 hl1 hl2
    go_loop [3] (fun i => ∃ k : Nat, k ≤ s.size ∧ i = .int .i64 k ∧ ∀ j, j < k → (h : j < s.size) → refOk (s[j].toNat : Int)) (fun i => s.size - (intOf i).toNat)
    case atStart => exact ⟨0, Nat.zero_le _, rfl, fun j hj => by omega⟩
    case round =>
      obtain ⟨k, hk, rfl, hall⟩ := hrel
      have HA := Lib.hid hall; clear hall
      by_cases hlt : k < s.size
      · have next : refOk (s[k].toNat : Int) → ∀ j, j < k + 1 → (h : j < s.size) → refOk (s[j].toNat : Int) := fun hc j hj h => by
          by_cases e : j = k
          · subst e; exact hc
          · exact HA.out j (by omega) h
        have NX := Lib.hid next; clear next
        have no : ¬ refOk (s[k].toNat : Int) → validB s = false := fun hc => validB_false hlt (fun h => hc (by
          unfold chOk at h; unfold refOk; omega))
        have NO := Lib.hid no; clear no
        go_wp2
        all_goals (try simp only [Bool.not_eq_true', Bool.not_eq_false', beq_iff_eq, beq_eq_false_iff_ne, bne_iff_ne, bne_eq_false_iff_eq, ne_eq, decide_eq_true_eq, decide_eq_false_iff_not, Bool.not_eq_true, Bool.not_eq_false] at *)
        all_goals first
          | (go_round
             case rel => exact ⟨k + 1, by omega, by go_num, NX.out (by unfold refOk; omega)⟩
             case measure => simp [intOf]; omega)
          | (go_ret; exact ⟨ret_bool (NO.out (by unfold refOk; omega)).symm, rfl⟩)
          | omega
      · go_wp2
        go_ret
        refine ⟨ret_bool ?_, rfl⟩
        unfold validB
        simp only [Eq.comm (a := true), decide_eq_true_eq]
        refine ⟨by omega, by omega, fun j h => ?_⟩
        have := HA.out j (by omega) h
        have h0 := H0.out
        by_cases hj : j = 0
        · subst hj; exact Or.inl h0
        · unfold refOk at this; unfold chOk; omega
  · have hv : Hid (validB s = false) := validB_false hs0' (by unfold chOk; omega)
    by_cases ha : (s[0].toNat : Int) < 97
    · have hb1 : decide ((s[0].toNat : Int) < 97) = true := by simpa using ha
      go_enter Try.func20, Try.ntmps20
      go_wp2
      all_goals (go_ret; exact ⟨ret_bool hv.out.symm, rfl⟩)
    · have hb1 : decide ((s[0].toNat : Int) < 97) = false := by simpa using ha
      have hb2 : decide (122 < (s[0].toNat : Int)) = true := by simp; omega
      go_enter Try.func20, Try.ntmps20
      go_wp2
      all_goals (go_ret; exact ⟨ret_bool hv.out.symm, rfl⟩)

theorem act_form (M : NMap) (cnt : Nat) (a : AC) (h : validB a.name = false) : actF M cnt a = ⟨M, cnt, 0, 0, 0, 3⟩ := by
  unfold actF bindF renewF moveF dropF lookF findF
  simp [h]

set_option maxRecDepth 100000 in
set_option maxHeartbeats 2000000 in
theorem valid_walk (s : ByteArray) (n p t : Int) (w : World) (hs : s.size ≤ maxLen) :
    Calls Try.prog 6 #[.string s, .int .i64 n, .int .i64 p, .int .i64 t] w fun r w' => r = .returned (.bool true) ∧ Below w.heap.size w w' := by
  by_cases hl : 200 < s.size
  · go_enter Try.func6, Try.ntmps6
    go_wp2_with (go_at_call 12; refine (awake_any _).mono ?_; rintro r w1 ⟨rfl, hk1⟩)
    go_ret
    exact ⟨rfl, hk1.below (by simp) (Nat.le_refl _)⟩
  have V1 := fun w => valid_any s w
  have V2 := fun w => refvalid_any s w
  have DO := fun (w' : World) (db mb : Nat) (k : Int) (h : IsDir w' db mb (fun _ => none) 0) => do_any h okM_empty ⟨k, s, n, p, 0, t, 5⟩ hs
  have AF := fun (k : Int) => act_form (fun _ => none) 0 ⟨k, s, n, p, 0, t, 5⟩
  have HV1 := Lib.hid V1; clear V1
  have HV2 := Lib.hid V2; clear V2
  have HDO := Lib.hid DO; clear DO
  have HAF := Lib.hid AF; clear AF
  dsimp only at HAF
  generalize validB s = v at *
  cases v
  · go_enter Try.func6, Try.ntmps6
    go_wp2_with (first
      | (go_at_call 12; refine (awake_any _).mono ?_; rintro r w1 ⟨rfl, hk1⟩; have K0 := Lib.hid hk1; clear hk1)
      | (go_at_call 20; refine (HV2.out _).mono ?_; rintro r w' ⟨rfl, rfl⟩)
      | (go_at_call 21; refine (HV1.out _).mono ?_; rintro r w' ⟨rfl, rfl⟩)
      | (go_at_call 13; refine (new_any _).mono ?_; rintro r w2 ⟨rfl, hd2, hk2, hz2⟩; have HD1 := Lib.hid hd2; have K1 := Lib.hid hk2; have Z1 := Lib.hid hz2; clear hd2 hk2 hz2))
    go_loopw [27] (fun i wr => ∃ k, k ≤ 5 ∧ i = .int .i64 (k : Nat) ∧ IsDir wr (w1.heap.size + 1) w1.heap.size (fun _ => none) 0 ∧ Below w.heap.size w wr) (fun i _ => 5 - (intOf i).toNat)
    case atStart =>
      refine ⟨0, by omega, rfl, HD1.out, (K0.out.trans K1.out).below (by simp) (Nat.le_refl _)⟩
    case round =>
      obtain ⟨k, hk, rfl, hrd, hrb⟩ := hrel
      have HRD := Lib.hid hrd; clear hrd
      have HRB := Lib.hid hrb; clear hrb
      have hk0 := K0.out.size
      by_cases hlt : k < 5
      · go_wp2_with fail
        have HX := Lib.hid (HDO.out _ _ _ (k : Int) HRD.out)
        rw [HAF.out _ (by first | rfl | trivial)] at HX
        refine HX.out.mono ?_
        rintro r w3 ⟨rfl, hd3, hk3⟩
        have HD3 := Lib.hid hd3; clear hd3
        have HB3 := Lib.hid (Below.kept HRB.out hk3 (by simp; omega) HRB.out.size); clear hk3
        go_wp2
        go_roundw
        case rel => exact ⟨k + 1, by omega, by go_num, HD3.out.kept (S := []) (by repeat (first | exact Kept.refl _ _ | refine Kept.alloc ?_ _ | refine Kept.drew ?_ | refine Kept.setCell ?_ (Or.inr (by first | exact Nat.le_refl _ | (simp; done) | (simp; omega) | omega)) _)) (by simp) (by simp), HB3.out.alloc (HB3.out.size) _⟩
        case measure => simp [intOf]; omega
      · go_wp2
        go_ret
        exact ⟨rfl, HRB.out⟩
  · go_enter Try.func6, Try.ntmps6
    go_wp2_with (first
      | (go_at_call 12; refine (awake_any _).mono ?_; rintro r w1 ⟨rfl, hk1⟩; have K0 := Lib.hid hk1; clear hk1)
      | (go_at_call 20; refine (HV2.out _).mono ?_; rintro r w' ⟨rfl, rfl⟩)
      | (go_at_call 21; refine (HV1.out _).mono ?_; rintro r w' ⟨rfl, rfl⟩))
    go_ret
    exact ⟨rfl, K0.out.below (by simp) (Nat.le_refl _)⟩
end Go.Proofs.Ytehdhnkkkocffaa
