/-
  Layer 48: a moving end whose segments are parts of one stream (plain).
-/
import Derived.Test.YtgdiepbjdpmfbaaHan
import Derived.Test.YtgdiepbjdpmfbaaFit
namespace Go.Proofs.Ytgdiepbjdpmfbaa
set_option linter.all false
set_option linter.unusedVariables false
set_option linter.unusedSimpArgs false
set_option linter.unusedSectionVars false
open Go.RowKit Go.Sx

theorem runs_all2 {S : Sto} (h : PreR S) (Q : Seg → Prop) (hQ : ∀ T n, Cut S T → 0 < n → T.kept ≠ [] → Q (T.off, (readF T n).1.1, false)) : ∀ s ∈ (runsF S).1, Q s := by
  have hr : ∀ (l : List Seg) (T : Sto) (n : Int), Cut S T → (0 < n → T.kept ≠ []) → (∀ s ∈ l, Q s) → ∀ s ∈ (rdTo l T n).1, Q s := by
    intro l T n hc hk hl s hs
    unfold rdTo at hs
    split at hs
    · rename_i hn
      rcases List.mem_append.1 hs with h1 | h1
      · exact hl s h1
      · rw [List.mem_singleton.1 h1]; exact hQ T n hc hn (hk hn)
    · exact hl s hs
  have key : ∀ (m : Nat) (x : LR S), ((gapsL S).length - x.i).toNat = m → (∀ s ∈ x.l, Q s) → ∀ s ∈ (runsF S).1, Q s := by
    intro m
    induction m with
    | zero =>
      intro x hm hl
      rw [← ru_done x (by omega)]
      exact hr _ _ _ x.cut (fun h e => by rw [e] at h; exact absurd h (by decide)) hl
    | succ m ih =>
      intro x hm hl
      have hlo := x.lo
      have F := ruF h x (by omega)
      have hl2 := hr x.l x.T ((gAt S x.i).1 - x.T.off) x.cut (fun hn e => by
        have ho := F.off
        unfold rdTo at ho
        rw [if_pos hn] at ho
        have h2 := (cut_read x.cut ((gAt S x.i).1 - x.T.off)).2.1
        have ho : (readF x.T ((gAt S x.i).1 - x.T.off)).2.off = (gAt S x.i).1 := ho
        have hnx : x.T.next = x.T.off := by
          have := x.cut.ok.off
          by_cases c : x.T.next = x.T.off
          · exact c
          · have := x.cut.ok.ctg x.T.off (Int.le_refl _) (by omega)
            rw [e] at this; cases this
        dsimp only [rdQ] at h2
        rw [hnx] at h2
        split at h2 <;> omega) hl
      by_cases c : ((rdTo x.l x.T ((gAt S x.i).1 - x.T.off)).2.kept.length : Int) = 0
      · rw [← F.end_ c]; exact hl2
      · obtain ⟨y, y1, y2, _⟩ := F.nx c
        exact ih y (by omega) (by rw [y2]; exact hl2)
  obtain ⟨x0, _, hx1, _⟩ := lr0 h.ok
  exact key _ x0 rfl (by rw [hx1]; intro s hs; cases hs)
theorem fits_cut {S T : Sto} {d : List Int} (h : Fits S d) (hc : Cut S T) (hk : T.kept ≠ []) : Fits T d := by
  have hv : ∀ k v, getI T.kept k = some v → k < d.length ∧ v = d.getD k.toNat 0 := by
    intro k v hg
    rw [hc.get] at hg
    split at hg
    · exact h.val k v hg
    · cases hg
  refine ⟨hc.ok, hv, fun hkn => by rw [hc.fin]; exact h.fin (hc.known ▸ hkn), ?_⟩
  cases e : T.kept with
  | nil => exact absurd e hk
  | cons p K =>
    have hp : p ∈ T.kept := by rw [e]; exact List.mem_cons_self ..
    have h1 := hc.ok.rng p hp
    have h2 := (hv p.1 p.2 (mem_get hc.ok.nd hp)).1
    omega
theorem read_part {T : Sto} {d : List Int} (h : Fits T d) (n : Int) : IsPart d (T.off, (readF T n).1.1, false) := by
  obtain ⟨r1, r2, r3, r4, r5⟩ := fits_read h n
  have ho := h.ok.off; have hx := h.off; have hy := r2.off
  have hl : ((readF T n).1.1 : List Int).length = min (rdM T n).toNat (d.length - T.off.toNat) := by rw [r1, List.length_take, List.length_drop]
  refine ⟨ho.1, ?_, ?_, fun h => by cases h⟩
  · show T.off + (((readF T n).1.1 : List Int).length : Int) ≤ _
    rw [hl]; omega
  · show ((readF T n).1.1 : List Int) = (d.drop T.off.toNat).take ((readF T n).1.1 : List Int).length
    rw [hl, r1]
    have : (d.drop T.off.toNat).take (min (rdM T n).toNat (d.length - T.off.toNat)) = (d.drop T.off.toNat).take (rdM T n).toNat := by
      by_cases c : (rdM T n).toNat ≤ d.length - T.off.toNat
      · rw [Nat.min_eq_left c]
      · rw [Nat.min_eq_right (by omega), List.take_of_length_le (by rw [List.length_drop]; omega), List.take_of_length_le (by rw [List.length_drop]; omega)]
    exact this.symm
theorem close_part {d : List Int} {l : List Seg} (hl : ∀ s ∈ l, IsPart d s) : ∀ s ∈ closeL l d.length, IsPart d s := by
  unfold closeL
  split
  · rename_i hc
    intro s hs
    rcases List.mem_or_eq_of_mem_set hs with h | rfl
    · exact hl s h
    · have hlt : ((l.length : Int) - 1).toNat < l.length := by omega
      have hm := hl (l.getD ((l.length : Int) - 1).toNat (0, [], false)) (by rw [List.getD_eq_getElem?_getD, List.getElem?_eq_getElem hlt]; exact List.getElem_mem hlt)
      exact ⟨hm.o, hm.e, hm.dat, fun _ => hc.2⟩
  · intro s hs
    rcases List.mem_append.1 hs with h | h
    · exact hl s h
    · rw [List.mem_singleton.1 h]
      exact ⟨by show (0 : Int) ≤ _; omega, by show (d.length : Int) + ((([] : List Int).length : Nat) : Int) ≤ _; simp, by simp, fun _ => by simp⟩
theorem hand_part {a : Sto} {d : List Int} (h : Fits a d) (hP : PreR a) : ∀ s ∈ handL a, IsPart d s := by
  have hr : ∀ s ∈ (runsF a).1, IsPart d s := runs_all2 hP (IsPart d) fun T n hc hn hk => read_part (fits_cut h hc hk) n
  unfold handL
  split
  · rename_i hk
    rw [h.fin hk]; exact close_part hr
  · exact hr
theorem fits_eS {w o : Int} {d : List Int} (h1 : 1 ≤ w) (h2 : w ≤ 1048576) (h0 : 0 ≤ o) (h3 : o ≤ d.length) (hd : d.length ≤ 1048576) : Fits (eS w o) d :=
  ⟨eS_ok h1 h2 h0 (by omega), fun k v h => (by cases h), fun h => (by cases h), h3⟩
theorem putF_part {S : Sto} {d : List Int} (h : Fits S d) {s : Seg} (hs : IsPart d s) (hd : d.length ≤ 1048576) (hb : inBytes d) : (putF S s.1 s.2.1 s.2.2).1.2.1 = (0 : Int) ∧ Fits (putF S s.1 s.2.1 s.2.2).2 d ∧ (putF S s.1 s.2.1 s.2.2).2.win = S.win ∧ (putF S s.1 s.2.1 s.2.2).2.off = S.off := by
  have hf := fits_put h hs hd hb
  rw [put_ok_eq (fits_ok h hs hd)]
  exact ⟨rfl, hf, rfl, rfl⟩
theorem puts_part {d : List Int} (hd : d.length ≤ 1048576) (hb : inBytes d) : ∀ (L : List Seg) (B : Sto), Fits B d → (∀ s ∈ L, IsPart d s) → Fits (putsL B L) d ∧ (putsL B L).win = B.win ∧ (putsL B L).off = B.off
  | [], B, h, _ => ⟨h, rfl, rfl⟩
  | s :: r, B, h, hL => by
    obtain ⟨_, p2, p3, p4⟩ := putF_part h (hL s (List.mem_cons_self ..)) hd hb
    obtain ⟨q1, q2, q3⟩ := puts_part hd hb r _ p2 (fun x hx => hL x (List.mem_cons_of_mem _ hx))
    exact ⟨q1, q2.trans p3, q3.trans p4⟩
theorem handA_part {a : Sto} {w : Int} {d : List Int} (h : Fits a d) (h1 : 1 ≤ w) (h2 : w ≤ 1048576) (hd : d.length ≤ 1048576) (hb : inBytes d) : Fits (handA w a) d ∧ (handA w a).win = w ∧ (handA w a).off = a.off := by
  have he : Fits (eS w a.off) d := fits_eS h1 h2 h.ok.off.1 h.off hd
  unfold handA
  split
  · rename_i hk
    have e1 : endA a.fin = d.length := by rw [h.fin hk]; dsimp only [endA]; omega
    have e2 : zer (a.fin - endA a.fin) = [] := by rw [e1, h.fin hk]; simp [zer]
    rw [e2, e1]
    have hp : IsPart d ((d.length : Int), [], true) := ⟨by show (0 : Int) ≤ _; omega, by simp, by simp, fun _ => by simp⟩
    obtain ⟨_, p2, p3, p4⟩ := putF_part he hp hd hb
    exact ⟨p2, p3, p4⟩
  · exact ⟨he, rfl, rfl⟩
structure FitM (M : Mov) (d : List Int) (w : Int) : Prop where
  win : M.win = w
  w1 : 1 ≤ w ∧ w ≤ 1000
  a : M.ph ≠ .moved → Fits M.a d ∧ M.a.win = w
  b : M.ph ≠ .old → Fits M.b d ∧ M.b.win = w
def rdO (M : Mov) : Int := match M.ph with
  | .old => M.a.off
  | .drain => M.b.off
  | .moved => M.b.off
theorem FitM.ok {M : Mov} {d : List Int} {w : Int} (h : FitM M d w) : OkM M := by
  have := h.w1
  refine ⟨by rw [h.win]; omega, fun e => ?_, fun e => ?_⟩
  · rw [h.win]; exact ⟨(h.a e).1.ok, (h.a e).2⟩
  · rw [h.win]; exact ⟨(h.b e).1.ok, (h.b e).2⟩
theorem fitM_new {d : List Int} {w : Int} (h1 : 1 ≤ w) (h2 : w ≤ 1000) : FitM (newM w) d w ∧ rdO (newM w) = 0 :=
  ⟨⟨rfl, ⟨h1, h2⟩, fun _ => ⟨fits_new h1 (by omega), rfl⟩, fun h => absurd rfl h⟩, rfl⟩
theorem rdO_le {M : Mov} {d : List Int} {w : Int} (h : FitM M d w) : 0 ≤ rdO M ∧ rdO M ≤ d.length := by
  obtain ⟨mw, ph, a, b⟩ := M
  cases ph
  · have := h.a (fun e => by cases e); exact ⟨this.1.ok.off.1, this.1.off⟩
  · have := h.b (fun e => by cases e); exact ⟨this.1.ok.off.1, this.1.off⟩
  · have := h.b (fun e => by cases e); exact ⟨this.1.ok.off.1, this.1.off⟩
structure StepM (M N : Mov) (d : List Int) (w : Int) : Prop where
  f : FitM N d w
  o : rdO N = rdO M
theorem m_rcv {M : Mov} {d : List Int} {w p : Int} {s : Seg} (h : FitM M d w) (hs : IsPart d s) (hd : d.length ≤ 1048576) (hb : inBytes d) (hp : p = 0 ∨ p = 1) :
    StepM M (rcvM M p s).2 d w ∧ ((rcvM M p s).1.1 : Int) = (if accB M p = true then 0 else 6) ∧ accB (rcvM M p s).2 p = accB M p := by
  obtain ⟨mw, ph, a, b⟩ := M
  have hw := h.win; have h1 := h.w1
  cases ph
  · obtain ⟨ha, hb2⟩ := h.a (fun e => by cases e)
    obtain ⟨p1, p2, p3, p4⟩ := putF_part ha hs hd hb
    rcases hp with rfl | rfl
    · exact ⟨⟨⟨hw, h1, fun _ => ⟨p2, p3.trans hb2⟩, fun e => absurd rfl e⟩, p4⟩, p1, rfl⟩
    · exact ⟨⟨⟨hw, h1, fun _ => ⟨ha, hb2⟩, fun e => absurd rfl e⟩, rfl⟩, rfl, rfl⟩
  · obtain ⟨ha, ha2⟩ := h.a (fun e => by cases e)
    obtain ⟨hbb, hb2⟩ := h.b (fun e => by cases e)
    obtain ⟨p1, p2, p3, p4⟩ := putF_part ha hs hd hb
    obtain ⟨q1, q2, q3, q4⟩ := putF_part hbb hs hd hb
    rcases hp with rfl | rfl
    · exact ⟨⟨⟨hw, h1, fun _ => ⟨p2, p3.trans ha2⟩, fun _ => ⟨hbb, hb2⟩⟩, rfl⟩, p1, rfl⟩
    · exact ⟨⟨⟨hw, h1, fun _ => ⟨ha, ha2⟩, fun _ => ⟨q2, q3.trans hb2⟩⟩, q4⟩, q1, rfl⟩
  · obtain ⟨hbb, hb2⟩ := h.b (fun e => by cases e)
    obtain ⟨q1, q2, q3, q4⟩ := putF_part hbb hs hd hb
    rcases hp with rfl | rfl
    · exact ⟨⟨⟨hw, h1, fun e => absurd rfl e, fun _ => ⟨hbb, hb2⟩⟩, rfl⟩, rfl, rfl⟩
    · exact ⟨⟨⟨hw, h1, fun e => absurd rfl e, fun _ => ⟨q2, q3.trans hb2⟩⟩, q4⟩, q1, rfl⟩
theorem m_start {M : Mov} {d : List Int} {w : Int} (h : FitM M d w) (hd : d.length ≤ 1048576) : StepM M (startM M).2 d w ∧ (((startM M).1.2.1 : Int) = 0 → ((startM M).1.1 : Int) = rdO M) := by
  obtain ⟨mw, ph, a, b⟩ := M
  have hw := h.win; have h1 := h.w1
  cases ph
  · obtain ⟨ha, hb2⟩ := h.a (fun e => by cases e)
    have hw : mw = w := hw
    exact ⟨⟨⟨hw, h1, fun _ => ⟨ha, hb2⟩, fun _ => ⟨by subst hw; exact fits_eS h1.1 (by omega) ha.ok.off.1 ha.off hd, hw⟩⟩, rfl⟩, fun _ => rfl⟩
  · exact ⟨⟨⟨hw, h1, h.a, h.b⟩, rfl⟩, fun e => by have e : (6 : Int) = 0 := e; omega⟩
  · exact ⟨⟨⟨hw, h1, h.a, h.b⟩, rfl⟩, fun e => by have e : (6 : Int) = 0 := e; omega⟩
theorem m_preR {M : Mov} {d : List Int} {w : Int} (h : FitM M d w) (hd : d.length ≤ 1048576) (hp : M.ph ≠ .moved) : M.a.off + M.win ≤ 1099511627776 ∧ (M.a.known = true → M.a.fin ≤ 1099512676352) := by
  obtain ⟨ha, hb⟩ := h.a hp
  have := ha.off; have := h.w1
  exact ⟨by rw [h.win]; omega, fun hk => by rw [ha.fin hk]; omega⟩
theorem m_hand {M : Mov} {d : List Int} {w : Int} (h : FitM M d w) (hd : d.length ≤ 1048576) (hb : inBytes d) : StepM M (handM M).2 d w := by
  obtain ⟨mw, ph, a, b⟩ := M
  have hw := h.win; have h1 := h.w1
  cases ph
  · exact ⟨⟨hw, h1, h.a, h.b⟩, rfl⟩
  · obtain ⟨ha, ha2⟩ := h.a (fun e => by cases e)
    obtain ⟨hbb, hb2⟩ := h.b (fun e => by cases e)
    have hpr := m_preR h hd (fun e => by cases e)
    have hw : mw = w := hw
    subst hw
    have hP : PreR a := ⟨ha.ok, by have ha2 : a.win = mw := ha2; rw [ha2]; exact hpr.1⟩
    obtain ⟨p1, p2, p3⟩ := handA_part (w := mw) ha h1.1 (by omega) hd hb
    obtain ⟨q1, q2, q3⟩ := puts_part hd hb (handL a) b hbb (hand_part ha hP)
    exact ⟨⟨rfl, h1, fun _ => ⟨p1, p2⟩, fun _ => ⟨q1, q2.trans hb2⟩⟩, q3⟩
  · exact ⟨⟨hw, h1, h.a, h.b⟩, rfl⟩
theorem m_fin {M : Mov} {d : List Int} {w : Int} (h : FitM M d w) : StepM M (finM M).2 d w := by
  obtain ⟨mw, ph, a, b⟩ := M
  have hw := h.win; have h1 := h.w1
  cases ph
  · exact ⟨⟨hw, h1, h.a, h.b⟩, rfl⟩
  · exact ⟨⟨hw, h1, fun e => absurd rfl e, fun _ => h.b (fun e => by cases e)⟩, rfl⟩
  · exact ⟨⟨hw, h1, h.a, h.b⟩, rfl⟩
theorem m_read {M : Mov} {d : List Int} {w : Int} (h : FitM M d w) (m : Int) : FitM (readM M m).2 d w ∧ d.take (rdO M).toNat ++ ((readM M m).1.1 : List Int) = d.take (rdO (readM M m).2).toNat ∧ ((readM M m).1.1 : List Int).length ≤ d.length := by
  have hlen : ∀ {S : Sto}, Fits S d → ((readF S m).1.1 : List Int).length ≤ d.length := by
    intro S hS
    rw [(fits_read hS m).1, List.length_take, List.length_drop]; omega
  obtain ⟨mw, ph, a, b⟩ := M
  have hw := h.win; have h1 := h.w1
  cases ph
  · obtain ⟨ha, ha2⟩ := h.a (fun e => by cases e)
    obtain ⟨r1, r2, r3, r4, r5⟩ := fits_read ha m
    exact ⟨⟨hw, h1, fun _ => ⟨r2, r5.trans ha2⟩, fun e => absurd rfl e⟩, take_read ha m, hlen ha⟩
  · obtain ⟨hbb, hb2⟩ := h.b (fun e => by cases e)
    obtain ⟨r1, r2, r3, r4, r5⟩ := fits_read hbb m
    exact ⟨⟨hw, h1, fun _ => h.a (fun e => by cases e), fun _ => ⟨r2, r5.trans hb2⟩⟩, take_read hbb m, hlen hbb⟩
  · obtain ⟨hbb, hb2⟩ := h.b (fun e => by cases e)
    obtain ⟨r1, r2, r3, r4, r5⟩ := fits_read hbb m
    exact ⟨⟨hw, h1, fun e => absurd rfl e, fun _ => ⟨r2, r5.trans hb2⟩⟩, take_read hbb m, hlen hbb⟩
end Go.Proofs.Ytgdiepbjdpmfbaa
