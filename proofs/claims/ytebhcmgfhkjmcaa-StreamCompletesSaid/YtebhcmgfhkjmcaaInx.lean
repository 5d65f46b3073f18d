/-
  Layer 44: every act keeps the invariant, and is not refused (plain).
-/
import Derived.Test.YtebhcmgfhkjmcaaInw
namespace Go.Proofs.Ytebhcmgfhkjmcaa
set_option linter.all false
set_option linter.unusedVariables false
set_option linter.unusedSimpArgs false
set_option linter.unusedSectionVars false
open Go.RowKit Go.Sx

theorem actB_len (x : WS) (a : Int) : (actB x a).length ≤ 4 := by
  dsimp only [actB]; rw [List.length_drop, List.length_take]; simp only [List.length_cons, List.length_nil]; omega
theorem act0_ok {x : WS} (h : Inv x) (a : Int) : (act0 x a).1 = true ∧ Inv (act0 x a).2 ∧ (act0 x a).2.r = x.r ∧ (act0 x a).2.segs = x.segs ∧ (act0 x a).2.acks = x.acks ∧ (act0 x a).2.read = x.read ∧ (act0 x a).2.fin = x.fin ∧ (act0 x a).2.data.length ≤ x.data.length + 4 ∧
    (act0 x a).2.w.base = x.w.base ∧ (act0 x a).2.w.room = x.w.room ∧ (act0 x a).2.w.closed = x.w.closed := by
  have hb := actB_len x a
  unfold act0
  generalize actB x a = b at hb ⊢
  rcases writeW_ok h.ok b with ⟨hc, e⟩ | ⟨hc, n, k2, k3, e, k1⟩
  · rw [e]
    dsimp only
    rw [if_neg (show ¬ (0 : Int) < 0 by decide), if_neg (show ¬ (b.length : Int) < 0 by omega), if_neg (show ¬ (13 : Int) = 0 by decide), if_pos rfl]
    have e2 : (b.take (0 : Int).toNat).drop (0 : Int).toNat = [] := rfl
    refine ⟨rfl, ?_, rfl, rfl, rfl, rfl, rfl, by dsimp only; rw [e2, List.append_nil]; omega, rfl, rfl, rfl⟩
    dsimp only
    rw [e2, List.append_nil]
    exact h
  · rw [e]
    dsimp only
    rw [if_neg (show ¬ n < 0 by omega), if_neg (show ¬ (b.length : Int) < n by omega), if_pos rfl]
    have hl : (b.take n.toNat).length = n.toNat := by rw [List.length_take]; omega
    have hi := Inv.step h (w := { x.w with data := x.w.data ++ b.take n.toNat, taken := x.w.taken + n }) (e := b.take n.toNat) (ss := []) k1 (by dsimp only; omega) (by
      dsimp only
      have := h.ok.base; have := h.ok.next; have := h.ok.top; have := h.tk
      rw [h.wd, List.drop_append_of_le_length (by omega)]) h.base (Int.le_refl _) id id (fun hh => by rw [hc] at hh; cases hh) (by simp)
    simp only [List.append_nil] at hi
    refine ⟨rfl, hi, rfl, rfl, rfl, rfl, rfl, ?_, rfl, rfl, rfl⟩
    dsimp only
    rw [Int.toNat_zero, List.drop_zero, List.length_append, hl]
    omega

theorem act1_ok {x : WS} (h : Inv x) (a : Int) : (act1 x a).1 = true ∧ Inv (act1 x a).2 ∧ (act1 x a).2.r = x.r ∧ (act1 x a).2.data = x.data ∧ (act1 x a).2.acks = x.acks ∧ (act1 x a).2.read = x.read ∧ (act1 x a).2.fin = x.fin ∧
    (act1 x a).2.w.base = x.w.base ∧ (act1 x a).2.w.room = x.w.room ∧ (act1 x a).2.w.closed = x.w.closed ∧
    ((act1 x a).2.segs = x.segs ∨ ∃ s : Seg, (act1 x a).2.segs = x.segs ++ [s] ∧ Part x.data (act1 x a).2.w.top s ∧ x.w.base ≤ s.1 ∧ (s.2.1.length : Int) ≤ max (1 + a / 8 % 5) 0 ∧ (0 < s.2.1.length → s.1 + (s.2.1.length : Int) ≤ x.w.base + x.w.room)) := by
  have ht := tick_fact h.ok h.tk h.wd (1 + a / 8 % 5)
  unfold act1
  generalize tick x.w (1 + a / 8 % 5) = t at ht ⊢
  obtain ⟨⟨sg, b, ⟨⟩⟩, w'⟩ := t
  obtain ⟨k1, ⟨k2, k3, k4, k5, k6, k7⟩, k8, k9, k10⟩ := ht
  dsimp only at k1 k2 k3 k4 k5 k6 k7 k8 k9 k10 ⊢
  have hwd : w'.data = (x.data ++ []).drop w'.base.toNat := by rw [k2, k4, List.append_nil]; exact h.wd
  cases b with
  | false =>
    have hi := Inv.step h (w := w') (e := []) (ss := []) k1 (by rw [k3]; simp) hwd (by rw [k4]; exact h.base) k8 (fun hh => k6.trans hh) k9 (fun _ => rfl) (by simp)
    simp only [List.append_nil] at hi
    rw [if_neg Bool.false_ne_true]
    exact ⟨rfl, hi, rfl, rfl, rfl, rfl, rfl, k4, k5, k6, .inl rfl⟩
  | true =>
    obtain ⟨q1, q2, q3, q4, q5⟩ := k10 rfl
    have hi := Inv.step h (w := w') (e := []) (ss := [sg]) k1 (by rw [k3]; simp) hwd (by rw [k4]; exact h.base) k8 (fun hh => k6.trans hh) k9 (fun _ => rfl) (fun s hs => by
      rw [List.mem_singleton.1 hs, List.append_nil]
      exact ⟨q1, fun hh => ⟨k6.trans (q2 hh).1, (q2 hh).2.1, (q2 hh).2.2.trans k3.symm⟩⟩)
    simp only [List.append_nil] at hi
    rw [if_pos rfl]
    exact ⟨rfl, hi, rfl, rfl, rfl, rfl, rfl, k4, k5, k6, .inr ⟨sg, rfl, q1, q3, q4, q5⟩⟩
theorem act3_ok {x : WS} (h : Inv x) (a : Int) : (act3 x a).1 = true ∧ Inv (act3 x a).2 ∧ (act3 x a).2.w = x.w ∧ (act3 x a).2.data = x.data ∧ (act3 x a).2.segs = x.segs ∧ (act3 x a).2.acks = x.acks ∧ (act3 x a).2.read = x.read ∧ (act3 x a).2.fin = x.fin := by
  unfold act3
  split
  · rename_i hp
    have hm : segAt x a ∈ x.segs := modAt_mem hp
    generalize segAt x a = s at hm ⊢
    obtain ⟨p1, p2⟩ := h.segs s hm
    have htop := h.ok.top; have htk := h.ok.taken
    obtain ⟨q1, q2, q3, q4, q5, q6⟩ := put_part h.st p1 (by omega) (fun hk => by
      obtain ⟨_, _, c⟩ := h.fin hk
      have := p1.hi
      exact ⟨by omega, fun hl => by rw [c]; exact (p2 hl).2.2⟩) (fun hl => by have := (p2 hl).2.2; omega)
    have e : (rcvF x.r s.1 s.2.1 s.2.2).1.1 = (putF x.r.sto s.1 s.2.1 s.2.2).1.2.1 := rfl
    rw [if_pos (show ((rcvF x.r s.1 s.2.1 s.2.2).1.1 : Int) = 0 from q1)]
    refine ⟨rfl, ⟨h.ok, h.tk, h.wd, ?_, h.segs, q2, ?_, fun hk => ?_, ?_, h.al, fun i hi => ?_⟩, rfl, rfl, rfl, rfl, rfl, rfl⟩
    · exact Int.le_trans h.base q5
    · show x.r.win = (putF x.r.sto s.1 s.2.1 s.2.2).2.win
      rw [q4]; exact h.rw
    · rcases q6 hk with ⟨g1, g2⟩ | ⟨g1, g2⟩
      · obtain ⟨c1, c2, c3⟩ := h.fin g1
        exact ⟨c1, c2, g2.trans c3⟩
      · obtain ⟨c1, c2, c3⟩ := p2 g1
        exact ⟨c1, c2, g2.trans c3⟩
    · show x.read = x.data.take (putF x.r.sto s.1 s.2.1 s.2.2).2.off.toNat
      rw [q3]; exact h.rd
    · obtain ⟨⟨c1, c2⟩, c3, c4⟩ := h.ack i hi
      exact ⟨⟨c1, Int.le_trans c2 q5⟩, c3, c4⟩
  · exact ⟨rfl, h, rfl, rfl, rfl, rfl, rfl, rfl⟩
theorem act5_ok {x : WS} (h : Inv x) (a : Int) : (act5 x a).1 = true ∧ Inv (act5 x a).2 ∧ (act5 x a).2.w = x.w ∧ (act5 x a).2.data = x.data ∧ (act5 x a).2.segs = x.segs ∧ (act5 x a).2.acks = x.acks := by
  obtain ⟨q1, q2, q3, q4, q5, q6, q7⟩ := read_part h.st h.topd (a / 8 % 6)
  have key : ∀ f : Bool, Inv { x with r := (rdF x.r (a / 8 % 6)).2, read := x.read ++ (rdF x.r (a / 8 % 6)).1.1, fin := f } := fun f =>
    ⟨h.ok, h.tk, h.wd, by show x.w.base ≤ (readF x.r.sto (a / 8 % 6)).2.next; rw [q3]; exact h.base, h.segs, q1, by show x.r.win = (readF x.r.sto (a / 8 % 6)).2.win; rw [q4]; exact h.rw,
      fun hk => by
        have hk : (readF x.r.sto (a / 8 % 6)).2.known = true := hk
        rw [q5] at hk
        obtain ⟨c1, c2, c3⟩ := h.fin hk
        exact ⟨c1, c2, q6.trans c3⟩, by
        show x.read ++ (readF x.r.sto (a / 8 % 6)).1.1 = x.data.take (readF x.r.sto (a / 8 % 6)).2.off.toNat
        rw [h.rd]; exact q7, h.al, fun i hi => by
        obtain ⟨⟨c1, c2⟩, c3, c4⟩ := h.ack i hi
        exact ⟨⟨c1, by show _ ≤ (readF x.r.sto (a / 8 % 6)).2.next; rw [q3]; exact c2⟩, c3, c4⟩⟩
  unfold act5
  split
  · exact ⟨rfl, key _, rfl, rfl, rfl, rfl⟩
  · exact ⟨rfl, key _, rfl, rfl, rfl, rfl⟩
theorem getD_app {α : Type} {l : List α} {y d : α} {i : Nat} (hi : i < l.length + 1) : (l ++ [y]).getD i d = if i < l.length then l.getD i d else y := by
  rw [List.getD_eq_getElem?_getD, List.getD_eq_getElem?_getD]
  split
  · rename_i h; rw [List.getElem?_append_left h]
  · rename_i h
    have : i = l.length := by omega
    subst this
    simp
theorem act6_ok {x : WS} (h : Inv x) : (act6 x).1 = true ∧ Inv (act6 x).2 ∧ (act6 x).2.w = x.w ∧ (act6 x).2.data = x.data ∧ (act6 x).2.segs = x.segs ∧ (act6 x).2.read = x.read ∧ (act6 x).2.fin = x.fin := by
  have h1 := h.st.off; have h2 := h.st.nxt; have h3 := h.st.win; have h4 := h.rw
  refine ⟨rfl, ⟨h.ok, h.tk, h.wd, h.base, h.segs, h.st, h.rw, h.fin, h.rd, ?_, fun i hi => ?_⟩, rfl, rfl, rfl, rfl, rfl⟩
  · show (x.done ++ [_]).length = (x.acks ++ [_]).length
    rw [List.length_append, List.length_append, h.al]; rfl
  · have hi : i < x.acks.length + 1 := by
      have : (act6 x).2.acks.length = x.acks.length + 1 := by show (x.acks ++ [_]).length = _; rw [List.length_append]; rfl
      omega
    show (0 ≤ ((x.acks ++ [((x.r.sto.next : Int), x.r.sto.off + x.r.win - x.r.sto.next)]).getD i (0, 0)).1 ∧ ((x.acks ++ [((x.r.sto.next : Int), x.r.sto.off + x.r.win - x.r.sto.next)]).getD i (0, 0)).1 ≤ x.r.sto.next) ∧ (0 ≤ ((x.acks ++ [((x.r.sto.next : Int), x.r.sto.off + x.r.win - x.r.sto.next)]).getD i (0, 0)).2 ∧ ((x.acks ++ [((x.r.sto.next : Int), x.r.sto.off + x.r.win - x.r.sto.next)]).getD i (0, 0)).2 ≤ 1048576) ∧
      ((x.done ++ [(x.r.sto.known && decide (x.r.sto.fin = x.r.sto.next))]).getD i false = true → x.w.closed = true ∧ x.w.marked = true ∧ ((x.acks ++ [((x.r.sto.next : Int), x.r.sto.off + x.r.win - x.r.sto.next)]).getD i (0, 0)).1 = x.w.taken)
    rw [getD_app hi, getD_app (by rw [h.al]; exact hi), h.al]
    by_cases e : i < x.acks.length
    · rw [if_pos e, if_pos e]; exact h.ack i e
    · rw [if_neg e, if_neg e]
      refine ⟨⟨by dsimp only; omega, Int.le_refl _⟩, ⟨by dsimp only; omega, by dsimp only; omega⟩, fun hk => ?_⟩
      obtain ⟨k1, k2⟩ := Bool.and_eq_true_iff.1 hk
      obtain ⟨c1, c2, c3⟩ := h.fin k1
      have := of_decide_eq_true k2
      exact ⟨c1, c2, by dsimp only; omega⟩
end Go.Proofs.Ytebhcmgfhkjmcaa
