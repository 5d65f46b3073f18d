/-
  Layer 47: everything on the way arrives in a quiet round, and both ends join each other (plain).
-/
import Derived.Test.YtldabjgegpmmiaaPpi
namespace Go.Proofs.Ytldabjgegpmmiaa
set_option linter.all false
set_option linter.unusedVariables false
set_option linter.unusedSimpArgs false
set_option linter.unusedSectionVars false
open Go.RowKit Go.Sx
variable {a b u v : Int} {E F : Edd} {dE dF rE rF : List Int} {mE mF : List Msg} {S : Pr}

def w1 (m : Msg) : Nat := if m.1 = 1 then 2 else 1
def wt : List Msg → Nat
  | [] => 0
  | m :: l => w1 m + wt l
theorem wt_app (l k : List Msg) : wt (l ++ k) = wt l + wt k := by
  induction l with
  | nil => simp [wt]
  | cons m l ih => simp only [List.cons_append, wt, ih]; omega
theorem w1_pos (m : Msg) : 1 ≤ w1 m := by unfold w1; split <;> omega
theorem wt_len (l : List Msg) : l.length ≤ wt l := by
  induction l with
  | nil => exact Nat.le_refl _
  | cons m l ih => have := w1_pos m; simp only [List.length_cons, wt]; omega
theorem wt_cut {l : List Msg} {k : Int} (h : ¬ (l.length : Int) = 0) : wt (cutM l k) + w1 (atM l k) = wt l := by
  obtain ⟨h1, h2⟩ := mod_f (k := k) h
  unfold cutM atM
  rw [show (k % (l.length : Int) + 1).toNat = (k % (l.length : Int)).toNat + 1 by omega]
  have hj : (k % (l.length : Int)).toNat < l.length := by omega
  generalize (k % (l.length : Int)).toNat = j at hj
  have e : l = l.take j ++ l.getD j msg0 :: l.drop (j + 1) := by
    rw [List.getD_eq_getElem?_getD, List.getElem?_eq_getElem hj, Option.getD_some, List.getElem_cons_drop, List.take_append_drop]
  conv => rhs; rw [e]
  rw [wt_app, wt_app]
  simp only [wt]
  omega
/-- What an arrival answers. -/
theorem PI.ans (h : PI a b u v E F dE dF rE rF mE mF) {m : Msg} (hm : m ∈ mE) :
    wt (ercF E m).1.1 + 1 ≤ w1 m ∧ ((ercF E m).2.st = 2 ∨ (ercF E m).2.st = 4) ∧ (m.1 = 1 → ∃ x ∈ ((ercF E m).1.1 : List Msg), x.1 = 2) ∧ (¬ m.1 = 1 → ((ercF E m).1.1 : List Msg) = []) := by
  obtain ⟨k1, k2⟩ := h.me m hm
  have hea := h.ea
  obtain ⟨i1, i2, i3, i4, i5, i6, i10⟩ := id hea
  have hw : 1 ≤ w1 m := w1_pos m
  rw [erc_go hea k1 (by omega) (by omega)]
  split
  · rename_i h1
    have hw : w1 m = 2 := if_pos h1
    split
    · exact ⟨by rw [hw]; exact Nat.le_refl _, .inl rfl, fun _ => ⟨_, List.mem_singleton.2 rfl, rfl⟩, fun q => absurd h1 q⟩
    · exact ⟨by rw [hw]; exact Nat.le_refl _, by show E.st = 2 ∨ E.st = 4; omega, fun _ => ⟨_, List.mem_singleton.2 rfl, rfl⟩, fun q => absurd h1 q⟩
  · rename_i hk1
    have k2 := k2.resolve_left (fun q => hk1 q.1)
    rw [if_pos k2.1]
    by_cases h0 : E.st = 0
    · exact absurd ((h.ze h0).2.2 m hm) hk1
    obtain ⟨s, hs, e⟩ := erc2_tak hea k1 (by omega) h0
    rw [e]
    have go : ∀ (n : Int) (E' : Edd), (E'.st = 2 ∨ E'.st = 4) → (fun y : TLI × Edd => wt y.1.1 + 1 ≤ w1 m ∧ (y.2.st = 2 ∨ y.2.st = 4) ∧ (m.1 = 1 → ∃ x ∈ (y.1.1 : List Msg), x.1 = 2) ∧ (¬ m.1 = 1 → (y.1.1 : List Msg) = [])) (([], n, ()), E') :=
      fun n E' h' => ⟨by show wt [] + 1 ≤ _; unfold wt; omega, h', fun q => absurd q hk1, fun _ => rfl⟩
    unfold takE setA
    (repeat' split) <;> first | exact go _ _ (by dsimp only; omega) | exact go _ _ (.inr rfl)
def WT (S : Pr) : Nat := wt S.f0 + wt S.f1
theorem PP.arr_wt (h : PP u v S) (i k : Int) (keep : Bool) : WT (paF S i k keep).2 ≤ (if keep = true then WT S + 1 else WT S) := by
  have hle : WT S ≤ (if keep = true then WT S + 1 else WT S) := by split <;> omega
  have hw : ∀ m : Msg, w1 m ≤ 2 := fun m => by unfold w1; split <;> omega
  unfold paF
  split
  · unfold paF0
    split
    · exact hle
    · rename_i h0
      have h1 := (PI.ans h (atM_mem (k := k) h0)).1
      have h2 := wt_cut (k := k) h0
      have h3 := hw (atM S.f0 k)
      split
      · show wt S.f0 + wt (S.f1 ++ _) ≤ wt S.f0 + wt S.f1 + 1
        rw [wt_app]; omega
      · show wt (cutM S.f0 k) + wt (S.f1 ++ _) ≤ wt S.f0 + wt S.f1
        rw [wt_app S.f1]; omega
  · unfold paF1
    split
    · exact hle
    · rename_i h0
      have h1 := (PI.ans (PI.swap h) (atM_mem (k := k) h0)).1
      have h2 := wt_cut (k := k) h0
      have h3 := hw (atM S.f1 k)
      split
      · show wt (S.f0 ++ _) + wt S.f1 ≤ wt S.f0 + wt S.f1 + 1
        rw [wt_app]; omega
      · show wt (S.f0 ++ _) + wt (cutM S.f1 k) ≤ wt S.f0 + wt S.f1
        rw [wt_app S.f0]; omega
theorem etk_wt (E : Edd) (m : Int) : wt (etkF E m).1.1 ≤ 2 := by
  have h2 : ∀ m : Msg, wt [m] ≤ 2 := fun m => by simp only [wt]; unfold w1; split <;> omega
  unfold etkF
  (repeat' split) <;> first | exact Nat.zero_le _ | exact h2 _ | exact Nat.le_refl _
theorem tick_wt (S : Pr) (m : Int) : WT (ptickF S m).2 ≤ WT S + 4 := by
  have h0 := etk_wt S.e0 m; have h1 := etk_wt S.e1 m
  show wt (S.f0 ++ _) + wt (S.f1 ++ _) ≤ wt S.f0 + wt S.f1 + 4
  rw [wt_app, wt_app]; omega
theorem wt_drop (l : List Msg) : wt (l.drop 1) ≤ wt l := by
  cases l with
  | nil => exact Nat.le_refl _
  | cons m l => show wt l ≤ w1 m + wt l; omega
theorem PP.evt_wt (h : PP u v S) {n k : Nat} (hg : GoodP S n k) {e : Int} (he : 0 ≤ e ∧ e ≤ 255) : WT (evtF S e).2 ≤ WT S + 4 := by
  have hw : ∀ i l, WT (pwF S i l).2 ≤ WT S + 4 := fun i l => by
    unfold pwF pwF0 pwF1
    (repeat' split) <;> exact Nat.le_add_right _ _
  unfold evtF ev1
  split; · exact hw _ _
  split; · exact hw _ _
  split
  · unfold prF prF0 prF1
    (repeat' split) <;> exact Nat.le_add_right _ _
  split
  · exact Nat.le_trans (h.arr_wt _ _ true) (by rw [if_pos rfl]; omega)
  split
  · have h0 := wt_drop S.f0; have h1 := wt_drop S.f1
    unfold losF
    (repeat' split)
    · show wt (S.f0.drop 1) + wt S.f1 ≤ wt S.f0 + wt S.f1 + 4; omega
    · exact Nat.le_add_right _ _
    · show wt S.f0 + wt (S.f1.drop 1) ≤ wt S.f0 + wt S.f1 + 4; omega
    · exact Nat.le_add_right _ _
  · refine Nat.le_trans (((h.tick _).arr _ _ false).arr_wt _ _ false) ?_
    rw [if_neg Bool.false_ne_true]
    refine Nat.le_trans ((h.tick _).arr_wt _ _ false) ?_
    rw [if_neg Bool.false_ne_true]
    exact tick_wt _ _
/-! ### one arrival at each end -/
theorem at0 {m : Msg} {l : List Msg} : atM (m :: l) 0 = m := by unfold atM; rw [Int.zero_emod]; rfl
theorem cut0 {m : Msg} {l : List Msg} : cutM (m :: l) 0 = l := by unfold cutM; rw [Int.zero_emod]; rfl
theorem arrA_nil (h : S.f0 = []) : (paF S 0 0 false).2 = S := by
  unfold paF paF0
  rw [if_pos rfl, if_pos (by rw [h]; rfl)]
theorem arrA_cons {m : Msg} {l : List Msg} (h : S.f0 = m :: l) : (paF S 0 0 false).2 = { S with e0 := (ercF S.e0 m).2, f0 := l, f1 := S.f1 ++ (ercF S.e0 m).1.1 } := by
  unfold paF paF0
  rw [if_pos rfl, if_neg (by rw [h, List.length_cons]; omega), if_neg Bool.false_ne_true, h, at0, cut0]
theorem arrB_nil (h : S.f1 = []) : (paF S 1 0 false).2 = S := by
  unfold paF paF1
  rw [if_neg (by decide), if_pos (by rw [h]; rfl)]
theorem arrB_cons {m : Msg} {l : List Msg} (h : S.f1 = m :: l) : (paF S 1 0 false).2 = { S with e1 := (ercF S.e1 m).2, f1 := l, f0 := S.f0 ++ (ercF S.e1 m).1.1 } := by
  unfold paF paF1
  rw [if_neg (by decide), if_neg (by rw [h, List.length_cons]; omega), if_neg Bool.false_ne_true, h, at0, cut0]
theorem arrA_wt (h : PP u v S) (hn : ¬ S.f0 = []) : WT (paF S 0 0 false).2 + 1 ≤ WT S := by
  cases hf : S.f0 with
  | nil => exact absurd hf hn
  | cons m l =>
    have h1 := (PI.ans h (m := m) (by rw [hf]; exact List.mem_cons_self ..)).1
    rw [arrA_cons hf]
    show wt l + wt (S.f1 ++ _) + 1 ≤ wt S.f0 + wt S.f1
    rw [wt_app, hf]; simp only [wt]; omega
theorem arrB_wt (h : PP u v S) (hn : ¬ S.f1 = []) : WT (paF S 1 0 false).2 + 1 ≤ WT S := by
  cases hf : S.f1 with
  | nil => exact absurd hf hn
  | cons m l =>
    have h1 := (PI.ans (PI.swap h) (m := m) (by rw [hf]; exact List.mem_cons_self ..)).1
    rw [arrB_cons hf]
    show wt (S.f0 ++ _) + wt l + 1 ≤ wt S.f0 + wt S.f1
    rw [wt_app, hf]; simp only [wt]; omega
theorem PP.arr2 (h : PP u v S) : PP u v (Go.Proofs.Ytldabjgegpmmiaa.arr2 S) := (h.arr 0 0 false).arr 1 0 false
theorem arr2_wt (h : PP u v S) (hn : ¬ (S.f0.length : Int) + (S.f1.length : Int) = 0) : WT (arr2 S) + 1 ≤ WT S := by
  have hA := h.arr_wt 0 0 false
  rw [if_neg Bool.false_ne_true] at hA
  have hB := (h.arr 0 0 false).arr_wt 1 0 false
  rw [if_neg Bool.false_ne_true] at hB
  show WT (paF (paF S 0 0 false).2 1 0 false).2 + 1 ≤ WT S
  by_cases h0 : S.f0 = []
  · rw [arrA_nil h0] at hB ⊢
    exact arrB_wt h (fun q => by rw [h0, q] at hn; exact hn rfl)
  · have := arrA_wt h h0
    omega
theorem calI_empty : ∀ (n : Nat) {S : Pr}, PP u v S → WT S ≤ n → (calI n S).f0 = [] ∧ (calI n S).f1 = []
  | 0, S, _, hw => by
    have h0 := wt_len S.f0; have h1 := wt_len S.f1
    unfold WT at hw
    exact ⟨List.length_eq_zero_iff.1 (by show S.f0.length = 0; omega), List.length_eq_zero_iff.1 (by show S.f1.length = 0; omega)⟩
  | n + 1, S, h, hw => by
    unfold calI
    split
    · exact ⟨List.length_eq_zero_iff.1 (by omega), List.length_eq_zero_iff.1 (by omega)⟩
    · rename_i hn
      have := arr2_wt h hn
      exact calI_empty n h.arr2 (by omega)
/-- What every arrival keeps, the arrivals keep. -/
theorem calI_ind {P : Pr → Prop} (hA : ∀ S, PP u v S → P S → P (paF S 0 0 false).2) (hB : ∀ S, PP u v S → P S → P (paF S 1 0 false).2) : ∀ (n : Nat) {S : Pr}, PP u v S → P S → PP u v (calI n S) ∧ P (calI n S)
  | 0, S, h, hp => ⟨h, hp⟩
  | n + 1, S, h, hp => by
    unfold calI
    split
    · exact ⟨h, hp⟩
    · exact calI_ind hA hB n h.arr2 (hB _ (h.arr 0 0 false) (hA _ h hp))

/-! ### the ends join each other -/
abbrev Jd (E : Edd) : Prop := E.st = 2 ∨ E.st = 4
/-- The end E is joined, or will be when everything on the way has arrived. -/
def Jw (E : Edd) (mE mF : List Msg) : Prop := Jd E ∨ (∃ m ∈ mE, m.1 = 1 ∨ ¬ E.st = 0) ∨ (¬ E.st = 0 ∧ ∃ m ∈ mF, m.1 = 1)
theorem Jw.nil {E : Edd} (h : Jw E [] []) : Jd E := by
  rcases h with h | ⟨m, hm, _⟩ | ⟨_, m, hm, _⟩
  · exact h
  · cases hm
  · cases hm
/-- A message arrives at the other end. -/
theorem Jw.other {E : Edd} {mE : List Msg} {m : Msg} {l ans : List Msg} (h : Jw E mE (m :: l)) (ha : m.1 = 1 → ∃ x ∈ ans, x.1 = 2) : Jw E (mE ++ ans) l := by
  rcases h with h | ⟨x, hx, hq⟩ | ⟨h0, x, hx, hq⟩
  · exact .inl h
  · exact .inr (.inl ⟨x, List.mem_append_left _ hx, hq⟩)
  · rcases List.mem_cons.1 hx with rfl | hx
    · obtain ⟨y, hy, _⟩ := ha hq
      exact .inr (.inl ⟨y, List.mem_append_right _ hy, .inr h0⟩)
    · exact .inr (.inr ⟨h0, x, hx, hq⟩)
theorem Jw_A (S : Pr) (h : PP u v S) : (Jw S.e0 S.f0 S.f1 → Jw (paF S 0 0 false).2.e0 (paF S 0 0 false).2.f0 (paF S 0 0 false).2.f1) ∧ (Jw S.e1 S.f1 S.f0 → Jw (paF S 0 0 false).2.e1 (paF S 0 0 false).2.f1 (paF S 0 0 false).2.f0) := by
  cases hf : S.f0 with
  | nil => rw [arrA_nil hf, hf]; exact ⟨id, id⟩
  | cons m l =>
    obtain ⟨_, k2, k3, _⟩ := PI.ans h (m := m) (by rw [hf]; exact List.mem_cons_self ..)
    rw [arrA_cons hf]
    exact ⟨fun _ => .inl k2, fun q => q.other k3⟩
theorem Jw_B (S : Pr) (h : PP u v S) : (Jw S.e0 S.f0 S.f1 → Jw (paF S 1 0 false).2.e0 (paF S 1 0 false).2.f0 (paF S 1 0 false).2.f1) ∧ (Jw S.e1 S.f1 S.f0 → Jw (paF S 1 0 false).2.e1 (paF S 1 0 false).2.f1 (paF S 1 0 false).2.f0) := by
  cases hf : S.f1 with
  | nil => rw [arrB_nil hf, hf]; exact ⟨id, id⟩
  | cons m l =>
    obtain ⟨_, k2, k3, _⟩ := PI.ans (PI.swap h) (m := m) (by rw [hf]; exact List.mem_cons_self ..)
    rw [arrB_cons hf]
    exact ⟨fun q => q.other k3, fun _ => .inl k2⟩
/-- An end that is not joined is as it was. -/
theorem same_A {E0 E1 : Edd} (S : Pr) (h : PP u v S) (hp : (S.e0 = E0 ∨ Jd S.e0) ∧ (S.e1 = E1 ∨ Jd S.e1)) : ((paF S 0 0 false).2.e0 = E0 ∨ Jd (paF S 0 0 false).2.e0) ∧ ((paF S 0 0 false).2.e1 = E1 ∨ Jd (paF S 0 0 false).2.e1) := by
  cases hf : S.f0 with
  | nil => rw [arrA_nil hf]; exact hp
  | cons m l =>
    obtain ⟨_, k2, _⟩ := PI.ans h (m := m) (by rw [hf]; exact List.mem_cons_self ..)
    rw [arrA_cons hf]
    exact ⟨.inr k2, hp.2⟩
theorem same_B {E0 E1 : Edd} (S : Pr) (h : PP u v S) (hp : (S.e0 = E0 ∨ Jd S.e0) ∧ (S.e1 = E1 ∨ Jd S.e1)) : ((paF S 1 0 false).2.e0 = E0 ∨ Jd (paF S 1 0 false).2.e0) ∧ ((paF S 1 0 false).2.e1 = E1 ∨ Jd (paF S 1 0 false).2.e1) := by
  cases hf : S.f1 with
  | nil => rw [arrB_nil hf]; exact hp
  | cons m l =>
    obtain ⟨_, k2, _⟩ := PI.ans (PI.swap h) (m := m) (by rw [hf]; exact List.mem_cons_self ..)
    rw [arrB_cons hf]
    exact ⟨hp.1, .inr k2⟩
/-- How long an asking end waits. -/
def tw (E : Edd) : Nat := if E.st = 1 then (E.wait + 1).toNat else 0
theorem etk_st (E : Edd) (m : Int) : (etkF E m).2.st = E.st := by
  unfold etkF
  (repeat' split) <;> rfl
theorem erd_keep (E : Edd) (m : Int) : (Jd E → Jd (erdF E m).2) ∧ (¬ Jd E → (erdF E m).2.st = E.st ∧ (erdF E m).2.wait = E.wait) := by
  unfold erdF erdN erdS Jd
  (repeat' split) <;> first | exact ⟨id, fun _ => ⟨rfl, rfl⟩⟩ | exact ⟨fun _ => .inr rfl, fun q => absurd (.inl (by assumption)) q⟩
end Go.Proofs.Ytldabjgegpmmiaa
