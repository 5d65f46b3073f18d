/-
  Layer 47: a quiet round, plain: the ends join, and what it does to two joined ends.
-/
import Derived.Test.YtldabjgegpmmiaaLva
namespace Go.Proofs.Ytldabjgegpmmiaa
set_option linter.all false
set_option linter.unusedVariables false
set_option linter.unusedSimpArgs false
set_option linter.unusedSectionVars false
open Go.RowKit Go.Sx
variable {a b u v : Int} {E F : Edd} {dE dF rE rF : List Int} {mE mF : List Msg} {S : Pr}

theorem PP.calI (h : PP u v S) (n : Nat) : PP u v (Go.Proofs.Ytldabjgegpmmiaa.calI n S) := (calI_ind (P := fun _ => True) (fun _ _ _ => trivial) (fun _ _ _ => trivial) n h trivial).1
theorem PP.rd2 (h : PP u v S) : PP u v (Go.Proofs.Ytldabjgegpmmiaa.rd2 S) := (h.rd 0 100).rd 1 100
theorem PP.calR (h : PP u v S) : PP u v (Go.Proofs.Ytldabjgegpmmiaa.calR S) := ((h.tick 9).calI 400).rd2
theorem PP.calN (h : PP u v S) : ∀ n : Nat, PP u v (Go.Proofs.Ytldabjgegpmmiaa.calN n S)
  | 0 => h
  | n + 1 => (PP.calN h n).calR
theorem rd2_eq (S : Pr) : (rd2 S).e0 = (erdF S.e0 100).2 ∧ (rd2 S).e1 = (erdF S.e1 100).2 ∧ (rd2 S).f0 = S.f0 ∧ (rd2 S).f1 = S.f1 ∧ (rd2 S).w0 = S.w0 ∧ (rd2 S).w1 = S.w1 ∧ ((rd2 S).n0 = true ↔ S.n0 = true ∨ (erdF S.e0 100).1.2.1 = true) ∧ ((rd2 S).n1 = true ↔ S.n1 = true ∨ (erdF S.e1 100).1.2.1 = true) := by
  have h0 : (prF S 0 100).2.e0 = (erdF S.e0 100).2 ∧ (prF S 0 100).2.e1 = S.e1 ∧ (prF S 0 100).2.f0 = S.f0 ∧ (prF S 0 100).2.f1 = S.f1 ∧ (prF S 0 100).2.w0 = S.w0 ∧ (prF S 0 100).2.w1 = S.w1 ∧ ((prF S 0 100).2.n0 = true ↔ S.n0 = true ∨ (erdF S.e0 100).1.2.1 = true) ∧ (prF S 0 100).2.n1 = S.n1 := by
    unfold prF prF0
    rw [if_pos rfl]
    split
    · rename_i h; exact ⟨rfl, rfl, rfl, rfl, rfl, rfl, by simp [h], rfl⟩
    · rename_i h; exact ⟨rfl, rfl, rfl, rfl, rfl, rfl, by simp [h], rfl⟩
  have h1 : ∀ T : Pr, (prF T 1 100).2.e1 = (erdF T.e1 100).2 ∧ (prF T 1 100).2.e0 = T.e0 ∧ (prF T 1 100).2.f0 = T.f0 ∧ (prF T 1 100).2.f1 = T.f1 ∧ (prF T 1 100).2.w0 = T.w0 ∧ (prF T 1 100).2.w1 = T.w1 ∧ ((prF T 1 100).2.n1 = true ↔ T.n1 = true ∨ (erdF T.e1 100).1.2.1 = true) ∧ (prF T 1 100).2.n0 = T.n0 := fun T => by
    unfold prF prF1
    rw [if_neg (by decide)]
    split
    · rename_i h; exact ⟨rfl, rfl, rfl, rfl, rfl, rfl, by simp [h], rfl⟩
    · rename_i h; exact ⟨rfl, rfl, rfl, rfl, rfl, rfl, by simp [h], rfl⟩
  obtain ⟨a1, a2, a3, a4, a5, a6, a7, a8⟩ := h0
  obtain ⟨b1, b2, b3, b4, b5, b6, b7, b8⟩ := h1 (prF S 0 100).2
  rw [a2] at b1 b7
  exact ⟨b2.trans a1, b1, b3.trans a3, b4.trans a4, b5.trans a5, b6.trans a6, by show (prF (prF S 0 100).2 1 100).2.n0 = true ↔ _; rw [b8]; exact a7, by show (prF (prF S 0 100).2 1 100).2.n1 = true ↔ _; rw [b7, a8]⟩
/-- Behind a quiet round nothing is on the way. -/
theorem calR_empty (h : PP u v S) (hw : WT S ≤ 396) : (calR S).f0 = [] ∧ (calR S).f1 = [] := by
  obtain ⟨_, _, h3, h4, _⟩ := rd2_eq (calI 400 (ptickF S 9).2)
  obtain ⟨k1, k2⟩ := calI_empty 400 (h.tick 9) (Nat.le_trans (tick_wt S 9) (by omega))
  exact ⟨h3.trans k1, h4.trans k2⟩
/-- Behind a quiet round, an end is as it was behind the tick, or joined. -/
theorem calR_same (h : PP u v S) : (((calR S).e0.st = S.e0.st ∧ (calR S).e0.wait = (etkF S.e0 9).2.wait) ∨ Jd (calR S).e0) ∧ (((calR S).e1.st = S.e1.st ∧ (calR S).e1.wait = (etkF S.e1 9).2.wait) ∨ Jd (calR S).e1) := by
  obtain ⟨_, k1, k2⟩ := calI_ind (P := fun T => (T.e0 = (etkF S.e0 9).2 ∨ Jd T.e0) ∧ (T.e1 = (etkF S.e1 9).2 ∨ Jd T.e1)) (fun T hT => same_A T hT) (fun T hT => same_B T hT) 400 (h.tick 9) ⟨.inl rfl, .inl rfl⟩
  obtain ⟨r1, r2, _⟩ := rd2_eq (calI 400 (ptickF S 9).2)
  have key : ∀ X Y : Edd, (X = (etkF Y 9).2 ∨ Jd X) → ((erdF X 100).2.st = Y.st ∧ (erdF X 100).2.wait = (etkF Y 9).2.wait) ∨ Jd (erdF X 100).2 := fun X Y hX => by
    obtain ⟨e1, e2⟩ := erd_keep X 100
    by_cases hj : Jd X
    · exact .inr (e1 hj)
    · obtain ⟨g1, g2⟩ := e2 hj
      have hX := hX.resolve_right hj
      exact .inl ⟨g1.trans (by rw [hX, etk_st]), g2.trans (by rw [hX])⟩
  unfold calR
  rw [r1, r2]
  exact ⟨key _ _ k1, key _ _ k2⟩
theorem calR_jd (h : PP u v S) : (Jd S.e0 → Jd (calR S).e0) ∧ (Jd S.e1 → Jd (calR S).e1) := by
  obtain ⟨h1, h2⟩ := calR_same h
  exact ⟨fun q => h1.elim (fun k => by unfold Jd at *; omega) id, fun q => h2.elim (fun k => by unfold Jd at *; omega) id⟩
theorem calR_nz (h : PP u v S) (hs : ¬ (S.e0.st = 0 ∧ S.e1.st = 0)) : ¬ ((calR S).e0.st = 0 ∧ (calR S).e1.st = 0) := by
  obtain ⟨h1, h2⟩ := calR_same h
  unfold Jd at h1 h2
  omega
theorem etk_ask {E : Edd} (h1 : E.st = 1) : (E.wait = 0 → ((etkF E 9).1.1 : List Msg) = [helloM E]) ∧ (¬ E.wait = 0 → (etkF E 9).2.wait = E.wait - 1) := by
  unfold etkF
  rw [if_pos h1]
  exact ⟨fun h => by rw [if_pos h], fun h => by rw [if_neg h]⟩
theorem calR_both (h : PP u v S) (h0 : S.f0 = []) (h1 : S.f1 = []) (hq : Jw (ptickF S 9).2.e0 (ptickF S 9).2.f0 (ptickF S 9).2.f1 ∧ Jw (ptickF S 9).2.e1 (ptickF S 9).2.f1 (ptickF S 9).2.f0) : Jd (calR S).e0 ∧ Jd (calR S).e1 := by
  obtain ⟨_, k1, k2⟩ := calI_ind (P := fun T => Jw T.e0 T.f0 T.f1 ∧ Jw T.e1 T.f1 T.f0) (fun T hT hp => ⟨(Jw_A T hT).1 hp.1, (Jw_A T hT).2 hp.2⟩) (fun T hT hp => ⟨(Jw_B T hT).1 hp.1, (Jw_B T hT).2 hp.2⟩) 400 (h.tick 9) hq
  obtain ⟨e1, e2⟩ := calI_empty 400 (h.tick 9) (Nat.le_trans (tick_wt S 9) (by unfold WT; rw [h0, h1]; decide))
  rw [e1, e2] at k1 k2
  obtain ⟨r1, r2, _⟩ := rd2_eq (calI 400 (ptickF S 9).2)
  unfold calR
  rw [r1, r2]
  exact ⟨(erd_keep _ _).1 k1.nil, (erd_keep _ _).1 k2.nil⟩
/-- Not joined yet: the asking ends wait less. -/
theorem calR_join (h : PP u v S) (h0 : S.f0 = []) (h1 : S.f1 = []) (hs : ¬ (S.e0.st = 0 ∧ S.e1.st = 0)) : (Jd (calR S).e0 ∧ Jd (calR S).e1) ∨ tw (calR S).e0 + tw (calR S).e1 + 1 ≤ tw S.e0 + tw S.e1 := by
  have hst0 : (ptickF S 9).2.e0.st = S.e0.st := etk_st _ _
  have hst1 : (ptickF S 9).2.e1.st = S.e1.st := etk_st _ _
  have hf0 : (ptickF S 9).2.f0 = (etkF S.e1 9).1.1 := by show S.f0 ++ _ = _; rw [h0]; rfl
  have hf1 : (ptickF S 9).2.f1 = (etkF S.e0 9).1.1 := by show S.f1 ++ _ = _; rw [h1]; rfl
  by_cases ha : S.e0.st = 1 ∧ S.e0.wait = 0
  · refine .inl (calR_both h h0 h1 ⟨.inr (.inr ⟨by omega, helloM S.e0, ?_, rfl⟩), .inr (.inl ⟨helloM S.e0, ?_, .inl rfl⟩)⟩)
    · rw [hf1, (etk_ask ha.1).1 ha.2]; exact List.mem_singleton.2 rfl
    · rw [hf1, (etk_ask ha.1).1 ha.2]; exact List.mem_singleton.2 rfl
  by_cases hb : S.e1.st = 1 ∧ S.e1.wait = 0
  · refine .inl (calR_both h h0 h1 ⟨.inr (.inl ⟨helloM S.e1, ?_, .inl rfl⟩), .inr (.inr ⟨by omega, helloM S.e1, ?_, rfl⟩)⟩)
    · rw [hf0, (etk_ask hb.1).1 hb.2]; exact List.mem_singleton.2 rfl
    · rw [hf0, (etk_ask hb.1).1 hb.2]; exact List.mem_singleton.2 rfl
  obtain ⟨s0, s1⟩ := calR_same h
  have w0 := h.ea.tm; have w1 := h.eb.tm
  have t0 := h.ea.st; have t1 := h.eb.st
  have z0 := h.ze; have z1 := h.zf
  have n0 : tw (calR S).e0 + (if S.e0.st = 1 then 1 else 0) ≤ tw S.e0 := by
    unfold tw
    unfold Jd at s0
    by_cases c : S.e0.st = 1
    · have := (etk_ask c).2 (fun q => ha ⟨c, q⟩)
      rw [if_pos c, if_pos c]
      split <;> omega
    · rw [if_neg c, if_neg c]
      split <;> omega
  have n1 : tw (calR S).e1 + (if S.e1.st = 1 then 1 else 0) ≤ tw S.e1 := by
    unfold tw
    unfold Jd at s1
    by_cases c : S.e1.st = 1
    · have := (etk_ask c).2 (fun q => hb ⟨c, q⟩)
      rw [if_pos c, if_pos c]
      split <;> omega
    · rw [if_neg c, if_neg c]
      split <;> omega
  by_cases c0 : S.e0.st = 1
  · rw [if_pos c0] at n0; exact .inr (by omega)
  by_cases c1 : S.e1.st = 1
  · rw [if_pos c1] at n1; exact .inr (by omega)
  refine .inl ⟨(calR_jd h).1 ?_, (calR_jd h).2 ?_⟩
  · by_cases c : S.e0.st = 0
    · have := (z0 c).1; unfold Jd; omega
    · unfold Jd; omega
  · by_cases c : S.e1.st = 0
    · have := (z1 c).1; unfold Jd; omega
    · unfold Jd; omega

/-! ### two joined ends -/
def snt (E : Edd) : Bool := decide (E.st = 2) && (tick E.w 9).1.2.1
abbrev sgm (E : Edd) : Seg := (tick E.w 9).1.1
def wtk (E : Edd) : Wri := if E.st = 2 then (tick E.w 9).2 else E.w
theorem etk_jd (hJ : Jd E) : etkF E 9 = (((if snt E = true then [dataM E (sgm E)] else []) ++ (if E.owed = true then [cfmM E] else []), ()), { E with w := wtk E, owed := false }) := by
  unfold etkF snt wtk
  rw [if_neg (show ¬ E.st = 1 by unfold Jd at hJ; omega)]
  by_cases h2 : E.st = 2
  · rw [if_pos h2, decide_eq_true h2, if_pos h2, Bool.true_and]
    cases ht : (tick E.w 9).1.2.1 with
    | true =>
      rw [if_pos rfl, if_pos rfl]
      cases ho : E.owed with
      | true => rfl
      | false => rw [if_neg Bool.false_ne_true, if_neg Bool.false_ne_true]; obtain ⟨x1, x2, x3, x4, x5, x6, x7, x8, x9⟩ := E; cases ho; rfl
    | false =>
      rw [if_neg Bool.false_ne_true, if_neg Bool.false_ne_true]
      cases ho : E.owed with
      | true => rfl
      | false => rw [if_neg Bool.false_ne_true, if_neg Bool.false_ne_true]; obtain ⟨x1, x2, x3, x4, x5, x6, x7, x8, x9⟩ := E; cases ho; rfl
  · have h4 : E.st = 4 := hJ.resolve_left h2
    rw [if_neg h2, decide_eq_false h2, if_neg h2, Bool.false_and, if_neg Bool.false_ne_true]
    cases ho : E.owed with
    | true => rw [if_pos rfl, if_pos h4, if_pos rfl]; rfl
    | false => rw [if_neg Bool.false_ne_true, if_neg Bool.false_ne_true]; obtain ⟨x1, x2, x3, x4, x5, x6, x7, x8, x9⟩ := E; cases ho; rfl
/-- A segment arrives at a joined end. -/
theorem erc_dat (h : PI a b u v E F dE dF rE rF mE mF) (hJ : Jd E) {m : Msg} (hm : m ∈ mE) (h3 : m.1 = 3) : (ercF E m).2 = { E with r := (rcvF E.r m.2.2.2.1.1 m.2.2.2.1.2.1 m.2.2.2.1.2.2).2, owed := true } := by
  obtain ⟨k1, k2⟩ := h.me m hm
  have hea := h.ea
  have hst := hea.st
  unfold Jd at hJ
  obtain ⟨s, hs, e⟩ := erc2_tak hea k1 (by omega) (by omega)
  obtain ⟨p1, _⟩ := h.fe.put (((k2.resolve_left (by omega)).2.resolve_left (by omega)).resolve_right (by omega)).2
  rw [erc_go hea k1 (by omega) (by have := hea.ab; omega), if_neg (by omega), if_pos (k2.resolve_left (by omega)).1, e]
  unfold takE
  rw [if_pos h3, if_pos p1, show s = E.st by omega, show b = E.peer by omega]
/-- A confirmation arrives at a joined end. -/
theorem erc_cfm (h : PI a b u v E F dE dF rE rF mE mF) (hJ : Jd E) {m : Msg} (hm : m ∈ mE) (h4 : m.1 = 4) : ∃ s : Int, (s = E.st ∨ s = 4) ∧ (ercF E m).2 = { E with w := (ackM E.w m.2.2.2.2.1 m.2.2.2.2.2.1 m.2.2.2.2.2.2).2, st := s } := by
  obtain ⟨k1, k2⟩ := h.me m hm
  have hea := h.ea
  have hst := hea.st
  unfold Jd at hJ
  obtain ⟨s, hs, e⟩ := erc2_tak hea k1 (by omega) (by omega)
  obtain ⟨_, _, _, p4⟩ := h.ef.ack (((k2.resolve_left (by omega)).2.resolve_left (by omega)).resolve_left (by omega)).2
  rw [erc_go hea k1 (by omega) (by have := hea.ab; omega), if_neg (by omega), if_pos (k2.resolve_left (by omega)).1, e]
  unfold takE
  rw [if_neg (by omega), if_pos h4, p4, show s = E.st by omega, show b = E.peer by omega]
  unfold setA
  (repeat' split) <;> first | exact ⟨_, .inr rfl, rfl⟩ | exact ⟨_, .inl rfl, rfl⟩
/-- All messages of a list arrive. -/
def rcvs (E : Edd) : List Msg → Edd
  | [] => E
  | m :: l => rcvs (ercF E m).2 l
theorem Pr.eta0 {S : Pr} (h0 : S.f0 = []) (h1 : S.f1 = []) : S = { S with f0 := [], f1 := [] } := by
  obtain ⟨x1, x2, x3, x4, x5, x6, x7, x8, x9, x10⟩ := S
  cases h0; cases h1; rfl
theorem calI_fold : ∀ (n : Nat) {S : Pr}, PP u v S → (∀ m ∈ S.f0, ¬ m.1 = 1) → (∀ m ∈ S.f1, ¬ m.1 = 1) → S.f0.length ≤ n → S.f1.length ≤ n → calI n S = { S with e0 := rcvs S.e0 S.f0, e1 := rcvs S.e1 S.f1, f0 := [], f1 := [] }
  | 0, S, h, _, _, l0, l1 => by
    have h0 : S.f0 = [] := List.length_eq_zero_iff.1 (by omega)
    have h1 : S.f1 = [] := List.length_eq_zero_iff.1 (by omega)
    rw [h0, h1]
    exact Pr.eta0 h0 h1
  | n + 1, S, h, q0, q1, l0, l1 => by
    unfold calI
    split
    · have h0 : S.f0 = [] := List.length_eq_zero_iff.1 (by omega)
      have h1 : S.f1 = [] := List.length_eq_zero_iff.1 (by omega)
      rw [h0, h1]
      exact Pr.eta0 h0 h1
    · have hp := h.arr2
      have hA := h.arr 0 0 false
      unfold arr2 at hp ⊢
      cases hf : S.f0 with
      | nil =>
        rw [arrA_nil hf] at hp hA ⊢
        cases hg : S.f1 with
        | nil => rename_i hn; rw [hf, hg] at hn; exact absurd rfl hn
        | cons m l =>
          have e := (PI.ans (PI.swap h) (m := m) (by rw [hg]; exact List.mem_cons_self ..)).2.2.2 (q1 m (by rw [hg]; exact List.mem_cons_self ..))
          rw [arrB_cons hg, e, List.append_nil] at hp ⊢
          rw [hg, List.length_cons] at l1
          rw [calI_fold n hp q0 (fun x hx => q1 x (by rw [hg]; exact List.mem_cons_of_mem _ hx)) (by dsimp only; rw [hf]; exact Nat.zero_le _) (by dsimp only; omega)]
          dsimp only
          rw [hf]
          rfl
      | cons m l =>
        have e := (PI.ans h (m := m) (by rw [hf]; exact List.mem_cons_self ..)).2.2.2 (q0 m (by rw [hf]; exact List.mem_cons_self ..))
        rw [arrA_cons hf, e, List.append_nil] at hp hA ⊢
        rw [hf, List.length_cons] at l0
        have q0' : ∀ x ∈ l, ¬ x.1 = 1 := fun x hx => q0 x (by rw [hf]; exact List.mem_cons_of_mem _ hx)
        cases hg : S.f1 with
        | nil =>
          rw [arrB_nil (S := { S with e0 := (ercF S.e0 m).2, f0 := l, f1 := S.f1 }) hg] at hp
          rw [arrB_nil (S := { S with e0 := (ercF S.e0 m).2, f0 := l, f1 := [] }) rfl]
          rw [hg] at hp q1
          rw [calI_fold n hp q0' q1 (by dsimp only; omega) (Nat.zero_le _)]
          rfl
        | cons m' l' =>
          have e' := (PI.ans (PI.swap hA) (m := m') (by show m' ∈ S.f1; rw [hg]; exact List.mem_cons_self ..)).2.2.2 (q1 m' (by rw [hg]; exact List.mem_cons_self ..))
          dsimp only at e'
          rw [arrB_cons (S := { S with e0 := (ercF S.e0 m).2, f0 := l, f1 := S.f1 }) hg] at hp
          rw [arrB_cons (S := { S with e0 := (ercF S.e0 m).2, f0 := l, f1 := m' :: l' }) rfl]
          dsimp only at hp ⊢
          rw [e', List.append_nil] at hp ⊢
          rw [hg, List.length_cons] at l1
          rw [calI_fold n hp q0' (fun x hx => q1 x (by rw [hg]; exact List.mem_cons_of_mem _ hx)) (by dsimp only; omega) (by dsimp only; omega)]
          rfl
end Go.Proofs.Ytldabjgegpmmiaa
