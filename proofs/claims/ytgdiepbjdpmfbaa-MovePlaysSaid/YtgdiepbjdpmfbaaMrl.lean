/-
  Layer 48: a moving end and its reference say the same (plain).
-/
import Derived.Test.YtgdiepbjdpmfbaaRhn
import Derived.Test.YtgdiepbjdpmfbaaMsz
namespace Go.Proofs.Ytgdiepbjdpmfbaa
set_option linter.all false
set_option linter.unusedVariables false
set_option linter.unusedSimpArgs false
set_option linter.unusedSectionVars false
open Go.RowKit Go.Sx

theorem mg0 {g : Int → Option Int} {a : Int} (h : 0 ≤ a) : Mg g a [] (-1) := ⟨.inl ⟨rfl, fun k h1 h2 => by omega⟩⟩
theorem mrg_all {S : Sto} (h : StO S) : Mg (getI S.kept) S.off (mrgT (kvS S.kept) [] (-1)).1 (mrgT (kvS S.kept) [] (-1)).2 ∧ ∀ k, (mrgT (kvS S.kept) [] (-1)).2 < k → getI S.kept k = none := by
  have hoff := h.off
  refine mrgT_rn (fun k hk => ?_) _ _ _ (mg0 hoff.1) ?_ (fun x hx => ⟨kv_get hx, ?_⟩) (fun k _ hk => ?_)
  · cases e : getI S.kept k with
    | none => exact absurd e hk
    | some v => exact (h.rng _ (getI_mem e)).1
  · rw [kv_fst]; exact keysS_lt h
  · have := (h.rng _ (getI_mem (kv_get hx))).1
    have : S.off ≤ x.1 := this
    omega
  · rw [kv_fst]; exact keysI_mem.2 hk
theorem hand_runs {a : Sto} (h : PreR a) : handL a = rrunL (mof a) := by
  obtain ⟨g1, g2⟩ := mrg_all h.ok
  have e1 := (runs_rn h).uniq (g1.done fun k _ hk => g2 k hk)
  show (if a.known = true then closeL (runsF a).1 a.fin else (runsF a).1) = closeR (if a.known = true then a.fin else -1) (mrgT (kvS a.kept) [] (-1)).1 (mrgT (kvS a.kept) [] (-1)).2
  rw [e1]
  generalize mrgT (kvS a.kept) [] (-1) = p at g1
  obtain ⟨l, at_⟩ := p
  cases hk : a.known with
  | false =>
    rw [if_neg Bool.false_ne_true, if_neg Bool.false_ne_true]
    unfold closeR
    rw [if_pos (by decide)]
  | true =>
    have hf := (h.ok.fin hk).1
    rw [if_pos rfl, if_pos rfl]
    unfold closeR closeL
    dsimp only
    rw [if_neg (show ¬ a.fin < 0 by omega)]
    rcases g1.h with ⟨(rfl : l = []), _⟩ | ⟨l', b, o, d, rfl, _, _, _, _, _, _, h5⟩
    · rw [if_neg (fun hh => absurd hh.1 (by decide)), if_neg (by decide)]
    · have h5 : o + (d.length : Int) = at_ + 1 := h5
      obtain ⟨k1, k2, k3⟩ := last_app l' (o, d, false)
      have k4 : (l' ++ [(o, d, false)]).getD (((l' ++ [(o, d, false)]).length : Int) - 1).toNat (0, [], false) = (o, d, false) := k1
      rw [if_pos (show 0 < ((l' ++ [(o, d, false)]).length : Int) by rw [k2]; omega), k4]
      by_cases c : at_ + 1 = a.fin
      · rw [if_pos c, if_pos ⟨by rw [k2]; omega, by show o + (d.length : Int) = a.fin; omega⟩, k1]
      · rw [if_neg c, if_neg (fun hh => c (by have := hh.2; have : o + (d.length : Int) = a.fin := this; omega))]
theorem handA_mof {a : Sto} {w : Int} (h : PreR a) (hw : a.win = w) : mof (handA w a) = (w, a.off, (mof a).2.2.1, []) := by
  have hoff := h.ok.off; have hwin := h.ok.win; have htop := h.top
  unfold handA
  cases hk : a.known with
  | false =>
    rw [if_neg Bool.false_ne_true]
    show (w, a.off, (if false = true then _ else (-1 : Int)), ([] : List KV)) = (w, a.off, (if a.known = true then _ else (-1 : Int)), [])
    rw [hk]; rfl
  | true =>
    rw [if_pos rfl]
    obtain ⟨f1, f2, f3, f4⟩ := h.ok.fin hk
    have hz : ((zer (a.fin - endA a.fin)).length : Int) = a.fin - endA a.fin := by rw [List.length_replicate]; dsimp only [endA]; omega
    have he : endA a.fin + ((zer (a.fin - endA a.fin)).length : Int) = a.fin := by rw [hz]; omega
    have hn : pN (eS w a.off) (endA a.fin) (zer (a.fin - endA a.fin)) = 0 := by
      have e1 : pTo (eS w a.off) (endA a.fin) (zer (a.fin - endA a.fin)) ≤ pFr (eS w a.off) (endA a.fin) := by
        show min (endA a.fin + ((zer (a.fin - endA a.fin)).length : Int)) (a.off + w) ≤ max (endA a.fin) a.off
        rw [he]; dsimp only [endA]; omega
      dsimp only [pN]; omega
    have hok : PutOk (eS w a.off) (endA a.fin) (zer (a.fin - endA a.fin)) true := by
      refine ⟨by dsimp only [endA]; omega, by dsimp only [endA]; omega, ?_, ?_⟩
      · rw [he]
        unfold mis
        rw [if_neg (by exact Bool.false_ne_true), if_pos rfl]
        rw [show anyGe (eS w a.off).kept a.fin = false from rfl]
        simp; exact f3
      · rw [hn]; rfl
    rw [put_ok_eq hok]
    have hkp : putK (eS w a.off) (endA a.fin) (zer (a.fin - endA a.fin)) = [] := by
      show ins _ _ [] _ (pN (eS w a.off) (endA a.fin) (zer (a.fin - endA a.fin))) = []
      rw [hn]; rfl
    show (w, a.off, endA a.fin + ((zer (a.fin - endA a.fin)).length : Int), putK (eS w a.off) (endA a.fin) (zer (a.fin - endA a.fin))) = (w, a.off, (if a.known = true then a.fin else -1), [])
    rw [hkp, he, hk]; rfl
/-- A moving end and its reference. -/
structure RelM (M : Mov) (m : TM) (w n : Int) : Prop where
  sz : SzM M w n
  ph : m.1 = phN M.ph
  a : M.ph ≠ .moved → m.2.1 = mof M.a
  b : M.ph ≠ .old → m.2.2 = mof M.b
  b0 : M.ph = .old → m.2.2 = (w, 0, -1, [])
  pa : PreT m.2.1
theorem preT0 {w : Int} (h : 1 ≤ w ∧ w ≤ 1000) : PreT (w, 0, -1, []) :=
  ⟨by show 1 ≤ w ∧ w ≤ 1048576; omega, ⟨Int.le_refl _, by show (0 : Int) ≤ 4398046511104; decide⟩, ⟨Int.le_refl _, by show (-1 : Int) ≤ 4398046511104; decide⟩, Nat.zero_le _, fun p hp => by cases hp⟩
theorem RelM.pb {M : Mov} {m : TM} {w n : Int} (h : RelM M m w n) : PreT m.2.2 := by
  by_cases e : M.ph = .old
  · rw [h.b0 e]; exact preT0 h.sz.w1
  · rw [h.b e]; exact preR_of (h.sz.b e).ok
theorem RelM.new {w : Int} (h1 : 1 ≤ w) (h2 : w ≤ 1000) : RelM (newM w) (0, (w, 0, -1, []), (w, 0, -1, [])) w 0 :=
  ⟨szM_new h1 h2, rfl, fun _ => rfl, fun e => absurd rfl e, fun _ => rfl, preT0 ⟨h1, h2⟩⟩
theorem RelM.acc {M : Mov} {m : TM} {w n : Int} (h : RelM M m w n) (p : Int) : accB M p = raccB m p := by
  have hp := h.ph
  obtain ⟨mw, ph, a, b⟩ := M
  unfold raccB
  rw [hp]
  cases ph
  · show decide (p = 0) = (if p = 0 then decide ((0 : Int) < 2) else if p = 1 then decide ((0 : Int) < 0) else false)
    by_cases c : p = 0
    · rw [if_pos c, decide_eq_true c]; rfl
    · rw [if_neg c, decide_eq_false c]; split <;> rfl
  · show decide (p = 0 ∨ p = 1) = (if p = 0 then decide ((1 : Int) < 2) else if p = 1 then decide ((0 : Int) < 1) else false)
    by_cases c : p = 0
    · rw [if_pos c, decide_eq_true (.inl c)]; rfl
    · rw [if_neg c]
      by_cases c1 : p = 1
      · rw [if_pos c1, decide_eq_true (.inr c1)]; rfl
      · rw [if_neg c1, decide_eq_false (fun hh => hh.elim c c1)]
  · show decide (p = 1) = (if p = 0 then decide ((2 : Int) < 2) else if p = 1 then decide ((0 : Int) < 2) else false)
    by_cases c : p = 0
    · rw [if_pos c, decide_eq_false (by omega)]; rfl
    · rw [if_neg c]
      by_cases c1 : p = 1
      · rw [if_pos c1, decide_eq_true c1]; rfl
      · rw [if_neg c1, decide_eq_false c1]
theorem RelM.rcv {M : Mov} {m : TM} {w n : Int} (h : RelM M m w n) (p : Int) {s : Seg} (hb : inBytes s.2.1) (hl : s.2.1.length ≤ 1048576) : ((rcvM M p s).1.1 : Int) = (rrvF m p s).2.1 ∧ RelM (rcvM M p s).2 (rrvF m p s).1 w n := by
  have hz := sz_rcv (p := p) h.sz hb hl
  have hac := h.acc p
  have hpa := h.pa
  obtain ⟨so, sd, sl⟩ := s
  have hp := h.ph; have ha := h.a; have hbb := h.b; have hb0 := h.b0; have hsa := h.sz.a; have hsb := h.sz.b
  obtain ⟨mw, ph, a, b⟩ := M
  obtain ⟨mp, mo, mn⟩ := m
  have hp : mp = phN ph := hp
  subst hp
  unfold rrvF
  rw [← hac]
  by_cases c0 : p = 0
  · subst c0
    rw [if_neg (by decide), if_neg (by decide)]
    cases ph
    · have ha : mo = mof a := ha (fun e => by cases e)
      have e := put_cmp (hsa (fun e => by cases e)).ok so sd sl
      subst ha
      rw [if_neg (show ¬ accB ⟨mw, .old, a, b⟩ 0 = false from fun hh => Bool.noConfusion (show true = false from hh)), if_pos rfl, e]
      exact ⟨rfl, hz, rfl, fun _ => rfl, fun e => absurd rfl e, hb0, preR_of (put_sto (hsa (fun e => by cases e)).ok _ hb hl)⟩
    · have ha : mo = mof a := ha (fun e => by cases e)
      have e := put_cmp (hsa (fun e => by cases e)).ok so sd sl
      subst ha
      rw [if_neg (show ¬ accB ⟨mw, .drain, a, b⟩ 0 = false from fun hh => Bool.noConfusion (show true = false from hh)), if_pos rfl, e]
      exact ⟨rfl, hz, rfl, fun _ => rfl, fun e => hbb e, fun e => (by cases e), preR_of (put_sto (hsa (fun e => by cases e)).ok _ hb hl)⟩
    · rw [if_pos (show accB ⟨mw, .moved, a, b⟩ 0 = false from rfl)]
      exact ⟨rfl, hz, rfl, fun e => absurd rfl e, hbb, fun e => (by cases e), hpa⟩
  · by_cases c1 : p = 1
    · subst c1
      rw [if_neg (by decide), if_neg (by decide)]
      cases ph
      · rw [if_pos (show accB ⟨mw, .old, a, b⟩ 1 = false from rfl)]
        exact ⟨rfl, hz, rfl, ha, fun e => absurd rfl e, hb0, hpa⟩
      · have hbb : mn = mof b := hbb (fun e => by cases e)
        have e := put_cmp (hsb (fun e => by cases e)).ok so sd sl
        subst hbb
        rw [if_neg (show ¬ accB ⟨mw, .drain, a, b⟩ 1 = false from fun hh => Bool.noConfusion (show true = false from hh)), if_neg (by decide), e]
        exact ⟨rfl, hz, rfl, ha, fun _ => rfl, fun e => (by cases e), hpa⟩
      · have hbb : mn = mof b := hbb (fun e => by cases e)
        have e := put_cmp (hsb (fun e => by cases e)).ok so sd sl
        subst hbb
        rw [if_neg (show ¬ accB ⟨mw, .moved, a, b⟩ 1 = false from fun hh => Bool.noConfusion (show true = false from hh)), if_neg (by decide), e]
        exact ⟨rfl, hz, rfl, fun e => absurd rfl e, fun _ => rfl, fun e => (by cases e), hpa⟩
    · have e2 : rcvM ⟨mw, ph, a, b⟩ p (so, sd, sl) = ((2, ()), ⟨mw, ph, a, b⟩) := by
        cases ph <;> (unfold rcvM; dsimp only; rw [if_neg c0, if_neg c1])
      have e3 : ∀ x : TMI, (if p < 0 then (((phN ph, mo, mn), 2, ()) : TMI) else if 1 < p then ((phN ph, mo, mn), 2, ()) else x) = ((phN ph, mo, mn), 2, ()) := fun x => by
        by_cases c : p < 0
        · rw [if_pos c]
        · rw [if_neg c, if_pos (by omega)]
      rw [e3, e2]
      exact ⟨rfl, h⟩
theorem RelM.start {M : Mov} {m : TM} {w n : Int} (h : RelM M m w n) : ((startM M).1.1 : Int) = (rstF m).2.1 ∧ ((startM M).1.2.1 : Int) = (rstF m).2.2.1 ∧ RelM (startM M).2 (rstF m).1 w n := by
  have hz := sz_start h.sz
  have hpa := h.pa
  have hp := h.ph; have ha := h.a; have hbb := h.b; have hb0 := h.b0; have hw := h.sz.win
  obtain ⟨mw, ph, a, b⟩ := M
  obtain ⟨mp, mo, mn⟩ := m
  have hp : mp = phN ph := hp
  subst hp
  unfold rstF
  cases ph
  · have ha : mo = mof a := ha (fun e => by cases e)
    have qb : mn = (w, 0, -1, []) := hb0 rfl
    have qw : mw = w := hw
    subst ha qb qw
    rw [if_pos (show ((phN .old, mof a, ((mw, 0, -1, []) : TS)) : TM).1 = 0 from rfl)]
    exact ⟨rfl, rfl, hz, rfl, fun _ => rfl, fun _ => rfl, fun e => (by cases e), hpa⟩
  · rw [if_neg (show ¬ ((phN .drain, mo, mn) : TM).1 = 0 by show ¬ (1 : Int) = 0; decide)]
    exact ⟨rfl, rfl, hz, rfl, ha, hbb, hb0, hpa⟩
  · rw [if_neg (show ¬ ((phN .moved, mo, mn) : TM).1 = 0 by show ¬ (2 : Int) = 0; decide)]
    exact ⟨rfl, rfl, hz, rfl, ha, hbb, hb0, hpa⟩
theorem RelM.fin {M : Mov} {m : TM} {w n : Int} (h : RelM M m w n) : ((finM M).1.1 : Int) = (rfnF m).2.1 ∧ RelM (finM M).2 (rfnF m).1 w n := by
  have hz := sz_fin h.sz
  have hpa := h.pa
  have hp := h.ph; have ha := h.a; have hbb := h.b; have hb0 := h.b0
  obtain ⟨mw, ph, a, b⟩ := M
  obtain ⟨mp, mo, mn⟩ := m
  have hp : mp = phN ph := hp
  subst hp
  unfold rfnF
  cases ph
  · rw [if_neg (show ¬ ((phN .old, mo, mn) : TM).1 = 1 by show ¬ (0 : Int) = 1; decide)]
    exact ⟨rfl, hz, rfl, ha, hbb, hb0, hpa⟩
  · rw [if_pos (show ((phN .drain, mo, mn) : TM).1 = 1 from rfl)]
    exact ⟨rfl, hz, rfl, fun e => absurd rfl e, fun _ => hbb (fun e => by cases e), fun e => (by cases e), hpa⟩
  · rw [if_neg (show ¬ ((phN .moved, mo, mn) : TM).1 = 1 by show ¬ (2 : Int) = 1; decide)]
    exact ⟨rfl, hz, rfl, ha, hbb, hb0, hpa⟩
theorem RelM.read {M : Mov} {m : TM} {w n : Int} (h : RelM M m w n) (hn : n + w ≤ 1000000) (k : Int) : ((readM M k).1.1 : List Int) = (rrmF m k).2.1 ∧ RelM (readM M k).2 (rrmF m k).1 w (n + w) := by
  have hz := sz_read h.sz hn k
  have hpa := h.pa
  have hp := h.ph; have ha := h.a; have hbb := h.b; have hb0 := h.b0; have hsa := h.sz.a; have hsb := h.sz.b
  obtain ⟨mw, ph, a, b⟩ := M
  obtain ⟨mp, mo, mn⟩ := m
  have hp : mp = phN ph := hp
  subst hp
  unfold rrmF
  cases ph
  · have ha : mo = mof a := ha (fun e => by cases e)
    have e := read_cmp (hsa (fun e => by cases e)).ok k
    subst ha
    rw [if_pos (show ((phN .old, mof a, mn) : TM).1 = 0 from rfl)]
    dsimp only
    rw [e]
    exact ⟨rfl, hz, rfl, fun _ => rfl, fun e => absurd rfl e, hb0, preR_of (read_sto (hsa (fun e => by cases e)).ok k)⟩
  · have hbb : mn = mof b := hbb (fun e => by cases e)
    have e := read_cmp (hsb (fun e => by cases e)).ok k
    subst hbb
    rw [if_neg (show ¬ ((phN .drain, mo, mof b) : TM).1 = 0 by show ¬ (1 : Int) = 0; decide)]
    dsimp only
    rw [e]
    exact ⟨rfl, hz, rfl, ha, fun _ => rfl, fun e => (by cases e), hpa⟩
  · have hbb : mn = mof b := hbb (fun e => by cases e)
    have e := read_cmp (hsb (fun e => by cases e)).ok k
    subst hbb
    rw [if_neg (show ¬ ((phN .moved, mo, mof b) : TM).1 = 0 by show ¬ (2 : Int) = 0; decide)]
    dsimp only
    rw [e]
    exact ⟨rfl, hz, rfl, fun e => absurd rfl e, fun _ => rfl, fun e => (by cases e), hpa⟩
theorem RelM.preR {M : Mov} {m : TM} {w n : Int} (h : RelM M m w n) (e : M.ph ≠ .moved) : PreR M.a := by
  have h1 := h.sz.a e
  have := h1.off; have := h.sz.n1; have := h.sz.w1; have := h1.win
  exact ⟨h1.ok, by omega⟩
theorem RelM.handok {M : Mov} {m : TM} {w n : Int} (h : RelM M m w n) : m.1 = 1 → ((RunK m.2.1.2.2.2 ∧ (-1 ≤ m.2.1.2.2.1 ∧ m.2.1.2.2.1 ≤ 8796093022208)) ∧ (∃ B, StO B ∧ m.2.2 = mof B) ∧ (∀ s ∈ rrunL m.2.1, SegOk s) ∧ (rrunL m.2.1).length ≤ 1048579) := by
  intro h1
  have hp := h.ph
  have hph : M.ph = .drain := by
    rw [h1] at hp
    obtain ⟨mw, ph, a, b⟩ := M
    cases ph
    · exact absurd hp (by show ¬ (1 : Int) = 0; decide)
    · rfl
    · exact absurd hp (by show ¬ (1 : Int) = 2; decide)
  have n1 : M.ph ≠ .moved := fun e => by rw [hph] at e; cases e
  have n2 : M.ph ≠ .old := fun e => by rw [hph] at e; cases e
  have hR := h.preR n1
  have hsa := h.sz.a n1
  have hF : HnF M.a.win M.a := hnF hR rfl hsa.fin
  rw [h.a n1, h.b n2, ← hand_runs hR]
  refine ⟨⟨runK hsa.ok, ?_⟩, ⟨M.b, (h.sz.b n2).ok, rfl⟩, hn_hs hF, hn_hl hF⟩
  have := (preR_of hsa.ok).fin
  omega
theorem RelM.hand {M : Mov} {m : TM} {w n : Int} (h : RelM M m w n) : ((handM M).1.1 : List Seg) = (rhnF m).2.1 ∧ ((handM M).1.2.1 : Int) = (rhnF m).2.2.1 ∧ RelM (handM M).2 (rhnF m).1 w n := by
  have hz := sz_hand h.sz
  have hpa := h.pa
  have hR := h.preR
  have hp := h.ph; have ha := h.a; have hbb := h.b; have hb0 := h.b0; have hsa := h.sz.a; have hsb := h.sz.b; have hw := h.sz.win
  obtain ⟨mw, ph, a, b⟩ := M
  obtain ⟨mp, mo, mn⟩ := m
  have hp : mp = phN ph := hp
  subst hp
  unfold rhnF
  cases ph
  · rw [if_neg (show ¬ ((phN .old, mo, mn) : TM).1 = 1 by show ¬ (0 : Int) = 1; decide)]
    exact ⟨rfl, rfl, hz, rfl, ha, hbb, hb0, hpa⟩
  · have hR : PreR a := hR (fun e => by cases e)
    have qa : mo = mof a := ha (fun e => by cases e)
    have qb : mn = mof b := hbb (fun e => by cases e)
    have hsa : Szs a w n := hsa (fun e => by cases e)
    have hsb : Szs b w n := hsb (fun e => by cases e)
    have qw : mw = w := hw
    subst qa qb qw
    have hF : HnF a.win a := hnF hR rfl hsa.fin
    have e1 := hand_runs hR
    have e2 := handA_mof hR hsa.win
    have e3 := rputs_eq (handL a) b hsb.ok (hn_hs hF)
    rw [if_pos (show ((phN .drain, mof a, mof b) : TM).1 = 1 from rfl)]
    have hs2 : StO (handA mw a) := (hz.a (fun e => by cases e)).ok
    have e4 : ((mof a).1, (mof a).2.1, (mof a).2.2.1, ([] : List KV)) = mof (handA mw a) := by
      rw [e2]; show (a.win, a.off, _, _) = _; rw [hsa.win]
    refine ⟨e1, rfl, hz, rfl, fun _ => e4, fun _ => ?_, fun e => (by cases e), ?_⟩
    · show rputsT (mof b) (rrunL (mof a)) = mof (putsL b (handL a))
      rw [← e1, e3]
    · show PreT ((mof a).1, (mof a).2.1, (mof a).2.2.1, [])
      rw [e4]; exact preR_of hs2
  · rw [if_neg (show ¬ ((phN .moved, mo, mn) : TM).1 = 1 by show ¬ (2 : Int) = 1; decide)]
    exact ⟨rfl, rfl, hz, rfl, ha, hbb, hb0, hpa⟩
end Go.Proofs.Ytgdiepbjdpmfbaa
