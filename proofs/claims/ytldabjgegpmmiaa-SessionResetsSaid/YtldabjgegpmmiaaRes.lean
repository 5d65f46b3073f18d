/-
  Layer 47: SessionResets, plain facts.
-/
import Derived.Test.YtldabjgegpmmiaaStl
namespace Go.Proofs.Ytldabjgegpmmiaa
set_option linter.all false
set_option linter.unusedVariables false
set_option linter.unusedSimpArgs false
set_option linter.unusedSectionVars false
open Go.RowKit Go.Sx
/-- Arrivals, whether there is something on the way or not. -/
def arrN : Nat → Pr → Pr
  | 0, S => S
  | n + 1, S => arrN n (arr2 S)
theorem arr2_id {S : Pr} (h0 : (S.f0.length : Int) = 0) (h1 : (S.f1.length : Int) = 0) : arr2 S = S := by
  have e1 : (paF S 0 0 false).2 = S := by
    unfold paF paF0
    rw [if_pos rfl, if_pos h0]
  unfold arr2
  rw [e1]
  unfold paF paF1
  rw [if_neg (by decide), if_pos h1]
theorem arrN_id : ∀ (n : Nat) {S : Pr}, (S.f0.length : Int) = 0 → (S.f1.length : Int) = 0 → arrN n S = S
  | 0, _, _, _ => rfl
  | n + 1, S, h0, h1 => by
    unfold arrN
    rw [arr2_id h0 h1]
    exact arrN_id n h0 h1
theorem arrN_calI : ∀ (n : Nat) (S : Pr), arrN n S = calI n S
  | 0, _ => rfl
  | n + 1, S => by
    unfold calI
    split
    · rename_i h; exact arrN_id (n + 1) (by omega) (by omega)
    · exact arrN_calI n (arr2 S)
def resR (S : Pr) : Pr := calI 40 (ptickF S 9).2
def resN : Nat → Pr → Pr
  | 0, S => S
  | n + 1, S => resR (resN n S)
def resP (l : List Int) : Pr := resN 12 (pwF (conP 255 1) 1 l).2
theorem resP_facts : ∀ (l : List Int), l.length ≤ 20 → (resP l).e0.st = 2 ∧ (resP l).e0.peer = 20 ∧ (resP l).e0.inc = 10 ∧ ((readF (resP l).e0.r.sto 100).1.1 : List Int) = l.take 16
  | [], _ => ⟨by kernel_rfl, by kernel_rfl, by kernel_rfl, by kernel_rfl⟩
  | [x0], _ => ⟨by kernel_rfl, by kernel_rfl, by kernel_rfl, by kernel_rfl⟩
  | [x0, x1], _ => ⟨by kernel_rfl, by kernel_rfl, by kernel_rfl, by kernel_rfl⟩
  | [x0, x1, x2], _ => ⟨by kernel_rfl, by kernel_rfl, by kernel_rfl, by kernel_rfl⟩
  | [x0, x1, x2, x3], _ => ⟨by kernel_rfl, by kernel_rfl, by kernel_rfl, by kernel_rfl⟩
  | [x0, x1, x2, x3, x4], _ => ⟨by kernel_rfl, by kernel_rfl, by kernel_rfl, by kernel_rfl⟩
  | [x0, x1, x2, x3, x4, x5], _ => ⟨by kernel_rfl, by kernel_rfl, by kernel_rfl, by kernel_rfl⟩
  | [x0, x1, x2, x3, x4, x5, x6], _ => ⟨by kernel_rfl, by kernel_rfl, by kernel_rfl, by kernel_rfl⟩
  | [x0, x1, x2, x3, x4, x5, x6, x7], _ => ⟨by kernel_rfl, by kernel_rfl, by kernel_rfl, by kernel_rfl⟩
  | [x0, x1, x2, x3, x4, x5, x6, x7, x8], _ => ⟨by kernel_rfl, by kernel_rfl, by kernel_rfl, by kernel_rfl⟩
  | [x0, x1, x2, x3, x4, x5, x6, x7, x8, x9], _ => ⟨by kernel_rfl, by kernel_rfl, by kernel_rfl, by kernel_rfl⟩
  | [x0, x1, x2, x3, x4, x5, x6, x7, x8, x9, x10], _ => ⟨by kernel_rfl, by kernel_rfl, by kernel_rfl, by kernel_rfl⟩
  | [x0, x1, x2, x3, x4, x5, x6, x7, x8, x9, x10, x11], _ => ⟨by kernel_rfl, by kernel_rfl, by kernel_rfl, by kernel_rfl⟩
  | [x0, x1, x2, x3, x4, x5, x6, x7, x8, x9, x10, x11, x12], _ => ⟨by kernel_rfl, by kernel_rfl, by kernel_rfl, by kernel_rfl⟩
  | [x0, x1, x2, x3, x4, x5, x6, x7, x8, x9, x10, x11, x12, x13], _ => ⟨by kernel_rfl, by kernel_rfl, by kernel_rfl, by kernel_rfl⟩
  | [x0, x1, x2, x3, x4, x5, x6, x7, x8, x9, x10, x11, x12, x13, x14], _ => ⟨by kernel_rfl, by kernel_rfl, by kernel_rfl, by kernel_rfl⟩
  | [x0, x1, x2, x3, x4, x5, x6, x7, x8, x9, x10, x11, x12, x13, x14, x15], _ => ⟨by kernel_rfl, by kernel_rfl, by kernel_rfl, by kernel_rfl⟩
  | [x0, x1, x2, x3, x4, x5, x6, x7, x8, x9, x10, x11, x12, x13, x14, x15, x16], _ => ⟨by kernel_rfl, by kernel_rfl, by kernel_rfl, by kernel_rfl⟩
  | [x0, x1, x2, x3, x4, x5, x6, x7, x8, x9, x10, x11, x12, x13, x14, x15, x16, x17], _ => ⟨by kernel_rfl, by kernel_rfl, by kernel_rfl, by kernel_rfl⟩
  | [x0, x1, x2, x3, x4, x5, x6, x7, x8, x9, x10, x11, x12, x13, x14, x15, x16, x17, x18], _ => ⟨by kernel_rfl, by kernel_rfl, by kernel_rfl, by kernel_rfl⟩
  | [x0, x1, x2, x3, x4, x5, x6, x7, x8, x9, x10, x11, x12, x13, x14, x15, x16, x17, x18, x19], _ => ⟨by kernel_rfl, by kernel_rfl, by kernel_rfl, by kernel_rfl⟩
  | _ :: _ :: _ :: _ :: _ :: _ :: _ :: _ :: _ :: _ :: _ :: _ :: _ :: _ :: _ :: _ :: _ :: _ :: _ :: _ :: _ :: _, h => absurd h (by simp)
/-- An end that is refused. -/
def brkE (E : Edd) : Edd := { E with peer := 20, st := 3 }
theorem rst_1 {E : Edd} (h : E.st = 2 ∧ E.peer = 20 ∧ E.inc = 10) : ercF E (5, 20, 10, (0, [], false), 0, 0, false) = (([], 0, ()), brkE E) := by
  obtain ⟨h1, h2, h3⟩ := h
  unfold ercF
  dsimp only
  rw [if_neg (by decide), if_neg (by decide), if_neg (by decide), if_neg (by decide), if_neg (by decide), if_neg (by decide), if_neg (by omega), if_neg (by omega), if_neg (by omega)]
  unfold erc1
  dsimp only
  rw [if_neg (by omega), if_neg (by decide), if_pos (by omega)]
  unfold erc2
  dsimp only
  rw [if_neg (by omega), if_pos rfl, if_neg (by omega)]
  rfl
theorem rst_2 (E : Edd) (m : Int) : etkF (brkE E) m = (([], ()), brkE E) := by
  unfold etkF brkE
  dsimp only
  rw [if_neg (by decide), if_neg (by decide)]
  split
  · rw [if_neg (by decide)]
  · rfl
theorem rst_3 {E : Edd} (h : E.inc = 10) {k : Int} (h0 : 1 ≤ k) (h1 : k ≤ 5) : ercF (brkE E) (k, 20, 10, (0, [], false), 0, 0, false) = if k = 5 then (([], 14, ()), brkE E) else (([(5, 10, 20, (0, [], false), 0, 0, false)], 14, ()), brkE E) := by
  have key : ercF (brkE E) (k, 20, 10, (0, [], false), 0, 0, false) = refu 10 k 20 14 (brkE E) := by
    unfold ercF
    dsimp only [brkE]
    rw [if_neg (by omega), if_neg (by omega)]
    refine Eq.trans (if_neg (by decide)) (Eq.trans (if_neg (by decide)) (Eq.trans (if_neg (by decide)) (Eq.trans (if_neg (by decide)) (Eq.trans (if_neg (by decide)) (Eq.trans (if_neg (by decide)) (Eq.trans (if_neg (by decide)) ?_))))))
    unfold erc1
    dsimp only
    rw [if_pos rfl, h]
  exact key
theorem rst_4 (E : Edd) (m : Int) : ((erdF (brkE E) m).1.1 : List Int) = (readF E.r.sto m).1.1 ∧ (erdF (brkE E) m).2.st = 3 := by
  unfold erdF erdN erdS
  repeat' split
  all_goals first | exact ⟨rfl, rfl⟩ | (rename_i h; exact absurd (show (3 : Int) = 2 from h) (by decide)) | (exfalso; rename_i h _; exact absurd (show (3 : Int) = 2 from h) (by decide)) | (exfalso; rename_i h _ _; exact absurd (show (3 : Int) = 2 from h) (by decide))
end Go.Proofs.Ytldabjgegpmmiaa
