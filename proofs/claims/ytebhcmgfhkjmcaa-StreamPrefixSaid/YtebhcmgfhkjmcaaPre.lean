/-
  Layer 44: StreamPrefix: what stays true of the ends (plain), and the walk.
-/
import Derived.Test.YtebhcmgfhkjmcaaWin
namespace Go.Proofs.Ytebhcmgfhkjmcaa
set_option linter.all false
set_option linter.unusedVariables false
set_option linter.unusedSimpArgs false
set_option linter.unusedSectionVars false
open Go.RowKit Go.Sx
set_option maxRecDepth 100000
set_option maxHeartbeats 16000000

structure Fin (x : WS) (W v : Int) : Prop where
  fw : x.w.fin = true → x.r.sto.known = true ∧ x.r.sto.fin = x.r.sto.next
  fd : ∀ i : Nat, i < x.acks.length → x.done.getD i false = true → x.r.sto.known = true ∧ x.r.sto.fin = x.r.sto.next
  fx : x.fin = true → x.r.sto.known = true ∧ x.r.sto.fin = x.r.sto.off
  ww : x.w.win = W
  rv : x.r.sto.win = v
theorem Fin.w {x y : WS} {W v : Int} (h : Fin x W v) (r : y.r = x.r) (a : y.acks = x.acks) (d : y.done = x.done) (f : y.fin = x.fin) (wf : y.w.fin = x.w.fin) (ww : y.w.win = x.w.win) : Fin y W v :=
  ⟨fun hh => by rw [r]; exact h.fw (wf ▸ hh), fun i hi hh => by rw [r]; exact h.fd i (a ▸ hi) (d ▸ hh), fun hh => by rw [r]; exact h.fx (f ▸ hh), ww.trans h.ww, by rw [r]; exact h.rv⟩
theorem writeF_fin (W : Wri) (l : List Int) : (writeF W l).2.fin = W.fin ∧ (writeF W l).2.win = W.win := by
  unfold writeF; split <;> exact ⟨rfl, rfl⟩
theorem tick_fin (W : Wri) (m : Int) : (tick W m).2.fin = W.fin ∧ (tick W m).2.win = W.win := by
  have hI : (tickIdle W).2.fin = W.fin ∧ (tickIdle W).2.win = W.win := by unfold tickIdle; (repeat' split) <;> exact ⟨rfl, rfl⟩
  have hB : (tickB W).2.fin = W.fin ∧ (tickB W).2.win = W.win := by unfold tickB; (repeat' split) <;> first | exact ⟨rfl, rfl⟩ | exact hI
  have hA : (tickA W).2.fin = W.fin ∧ (tickA W).2.win = W.win := by unfold tickA; (repeat' split) <;> first | exact ⟨rfl, rfl⟩ | exact hB
  unfold tick; (repeat' split) <;> first | exact ⟨rfl, rfl⟩ | exact hA
theorem ackF_fin (W : Wri) (o r : Int) (d : Bool) : ((ackF W o r d).2.fin = true → W.fin = true ∨ d = true) ∧ (ackF W o r d).2.win = W.win := by
  have hM : ((ackM W o r d).2.fin = true → W.fin = true ∨ d = true) ∧ (ackM W o r d).2.win = W.win := by
    unfold ackM
    split; · exact ⟨.inl, rfl⟩
    split <;> exact ⟨fun hh => by simpa using hh, rfl⟩
  unfold ackF
  (repeat' split) <;> first | exact ⟨.inl, rfl⟩ | exact hM
theorem put_known {S : Sto} {o : Int} {d : List Int} {l : Bool} (h : S.known = true) : (putF S o d l).2.known = true := by
  unfold putF
  (repeat' split) <;> first | exact h | rfl
theorem put_win (S : Sto) (o : Int) (d : List Int) (l : Bool) : (putF S o d l).2.win = S.win ∧ (putF S o d l).2.off = S.off := by
  unfold putF
  (repeat' split) <;> exact ⟨rfl, rfl⟩
theorem act0_fin {x : WS} {W v : Int} (h : Fin x W v) (a : Int) : Fin (act0 x a).2 W v := by
  obtain ⟨h1, h2⟩ := writeF_fin x.w (actB x a)
  unfold act0
  (repeat' split) <;> exact h.w rfl rfl rfl rfl h1 h2
theorem act1_fin {x : WS} {W v : Int} (h : Fin x W v) (a : Int) : Fin (act1 x a).2 W v := by
  obtain ⟨h1, h2⟩ := tick_fin x.w (1 + a / 8 % 5)
  unfold act1
  (repeat' split) <;> exact h.w rfl rfl rfl rfl h1 h2
theorem act3_fin {x : WS} {W v : Int} (hi : Inv x) (h : Fin x W v) (a : Int) : Fin (act3 x a).2 W v := by
  obtain ⟨k1, k2, k3, k4, k5, k6, k7, k8⟩ := act3_ok hi a
  have key : x.r.sto.known = true → (act3 x a).2.r.sto.known = true ∧ (act3 x a).2.r.sto.off = x.r.sto.off ∧ x.r.sto.next ≤ (act3 x a).2.r.sto.next := by
    intro hk
    unfold act3
    split
    · rename_i hp
      have hm : segAt x a ∈ x.segs := modAt_mem hp
      obtain ⟨p1, p2⟩ := hi.segs _ hm
      have htop := hi.ok.top; have htk := hi.ok.taken
      obtain ⟨q1, q2, q3, q4, q5, q6⟩ := put_part hi.st p1 (by omega) (fun hk => by
        obtain ⟨_, _, c⟩ := hi.fin hk
        have := p1.hi
        exact ⟨by omega, fun hl => by rw [c]; exact (p2 hl).2.2⟩) (fun hl => by have := (p2 hl).2.2; omega)
      split
      · exact ⟨put_known hk, (put_win _ _ _ _).2, q5⟩
      · exact ⟨put_known hk, (put_win _ _ _ _).2, q5⟩
    · exact ⟨hk, rfl, Int.le_refl _⟩
  have hwin : (act3 x a).2.r.sto.win = x.r.sto.win := by
    unfold act3
    (repeat' split) <;> first | exact (put_win _ _ _ _).1 | rfl
  have hdn : (act3 x a).2.done = x.done := by
    unfold act3
    (repeat' split) <;> rfl
  have k1 : x.r.sto.known = true ∧ x.r.sto.fin = x.r.sto.next → (act3 x a).2.r.sto.known = true ∧ (act3 x a).2.r.sto.fin = (act3 x a).2.r.sto.next := by
    rintro ⟨g1, g2⟩
    obtain ⟨c1, c2, c3⟩ := key g1
    obtain ⟨_, _, d1⟩ := hi.fin g1
    obtain ⟨_, _, d2⟩ := k2.fin c1
    have := k2.st.nxt; have := k2.ok.top
    rw [k3] at d2
    have e := k2.ok.top
    rw [k3] at this e
    have n2 := k2.st.nxt.2
    rw [k3] at n2
    exact ⟨c1, by omega⟩
  have k9 : x.r.sto.known = true ∧ x.r.sto.fin = x.r.sto.off → (act3 x a).2.r.sto.known = true ∧ (act3 x a).2.r.sto.fin = (act3 x a).2.r.sto.off := by
    rintro ⟨g1, g2⟩
    obtain ⟨c1, c2, c3⟩ := key g1
    obtain ⟨_, _, d1⟩ := hi.fin g1
    obtain ⟨_, _, d2⟩ := k2.fin c1
    rw [k3] at d2
    exact ⟨c1, by omega⟩
  exact ⟨fun hh => k1 (h.fw (k3 ▸ hh)), fun i hl hh => k1 (h.fd i (k6 ▸ hl) (hdn ▸ hh)), fun hh => k9 (h.fx (k8 ▸ hh)), by rw [k3]; exact h.ww, hwin.trans h.rv⟩
theorem act5_fin {x : WS} {W v : Int} (hi : Inv x) (h : Fin x W v) (a : Int) : Fin (act5 x a).2 W v := by
  obtain ⟨q1, q2, q3, q4, q5, q6, q7⟩ := read_part hi.st hi.topd (a / 8 % 6)
  have k1 : x.r.sto.known = true ∧ x.r.sto.fin = x.r.sto.next → (readF x.r.sto (a / 8 % 6)).2.known = true ∧ (readF x.r.sto (a / 8 % 6)).2.fin = (readF x.r.sto (a / 8 % 6)).2.next := fun hh => ⟨q5.trans hh.1, by rw [q6, q3]; exact hh.2⟩
  have k9 : x.r.sto.known = true ∧ x.r.sto.fin = x.r.sto.off → (readF x.r.sto (a / 8 % 6)).2.known = true ∧ (readF x.r.sto (a / 8 % 6)).2.fin = (readF x.r.sto (a / 8 % 6)).2.off := fun hh => ⟨q5.trans hh.1, by
    have := q1.off; have := hi.st.nxt; have := hi.ok.top
    obtain ⟨_, _, d1⟩ := hi.fin hh.1
    have e := hh.2
    rw [q6]; omega⟩
  unfold act5
  split
  · rename_i hf
    exact ⟨fun hh => k1 (h.fw hh), fun i hl hh => k1 (h.fd i hl hh), fun _ => k9 (h.fx hf), h.ww, q4.trans h.rv⟩
  · refine ⟨fun hh => k1 (h.fw hh), fun i hl hh => k1 (h.fd i hl hh), fun hh => ?_, h.ww, q4.trans h.rv⟩
    have hh : ((readF x.r.sto (a / 8 % 6)).2.known && decide ((readF x.r.sto (a / 8 % 6)).2.fin = (readF x.r.sto (a / 8 % 6)).2.off)) = true := hh
    obtain ⟨g1, g2⟩ := Bool.and_eq_true_iff.1 hh
    exact ⟨g1, of_decide_eq_true g2⟩
theorem act6_fin {x : WS} {W v : Int} (hi : Inv x) (h : Fin x W v) : Fin (act6 x).2 W v := by
  refine ⟨h.fw, fun i hl hh => ?_, h.fx, h.ww, h.rv⟩
  have hl : i < x.acks.length + 1 := by
    have : (act6 x).2.acks.length = x.acks.length + 1 := by show (x.acks ++ [_]).length = _; rw [List.length_append]; rfl
    omega
  have hh : (x.done ++ [(x.r.sto.known && decide (x.r.sto.fin = x.r.sto.next))]).getD i false = true := hh
  rw [getD_app (by rw [hi.al]; exact hl)] at hh
  split at hh
  · rename_i e; exact h.fd i (by rw [← hi.al]; exact e) hh
  · obtain ⟨g1, g2⟩ := Bool.and_eq_true_iff.1 hh
    exact ⟨g1, of_decide_eq_true g2⟩
theorem act7_fin {x : WS} {W v : Int} (h : Fin x W v) (a : Int) : Fin (act7 x a).2 W v := by
  unfold act7
  split
  · rename_i hp
    have hlt : (a / 8 % (x.acks.length : Int)).toNat < x.acks.length := by have := modAt_lt (k := a / 8) hp; omega
    obtain ⟨h1, h2⟩ := ackF_fin x.w (ackAt x a).1 (ackAt x a).2 (dnAt x a)
    split <;> exact ⟨fun hh => (h1 hh).elim h.fw (fun hd => h.fd _ hlt hd), h.fd, h.fx, h2.trans h.ww, h.rv⟩
  · exact h
theorem actF_fin {x : WS} {W v : Int} (hi : Inv x) (h : Fin x W v) (a : Int) : Fin (actF x a).2 W v := by
  unfold actF
  split; · exact act0_fin h a
  split; · exact act1_fin h a
  split; · exact act1_fin h a
  split; · exact act3_fin hi h a
  split; · exact act3_fin hi h a
  split; · exact act5_fin hi h a
  split; · exact act6_fin hi h
  exact act7_fin h a

def clX (x : WS) : WS := { x with w := (closeF x.w).2 }
theorem WS.etaC {x : WS} : (⟨(closeF x.w).2, x.r, x.data, x.read, x.segs, x.acks, x.done, x.fin⟩ : WS) = clX x := rfl
theorem clX_inv {x : WS} (h : Inv x) : Inv (clX x) := by
  have hw : (closeF x.w).2 = { x.w with closed := true } := by
    unfold closeF
    split
    · rename_i hc
      show x.w = { x.w with closed := true }
      rw [← hc]
    · rfl
  obtain ⟨a, b, c, d, e, f, g, i, j, k, l⟩ := h
  obtain ⟨⟨h1, h2⟩, ⟨h3, h4⟩, h5, h6, h7, h8, ⟨h9, h10⟩, ⟨h11, h12⟩, ⟨h13, h14⟩, h15, h16⟩ := a
  unfold clX
  rw [hw]
  exact ⟨⟨⟨h1, h2⟩, ⟨h3, h4⟩, h5, h6, h7, h8, ⟨h9, h10⟩, ⟨h11, h12⟩, ⟨h13, h14⟩, h15, h16⟩, b, c, d, fun s hs => ⟨(e s hs).1, fun hl => ⟨rfl, ((e s hs).2 hl).2⟩⟩, f, g, fun hk => ⟨rfl, (i hk).2⟩, j, k, fun q hq => ⟨(l q hq).1, (l q hq).2.1, fun hd => ⟨rfl, ((l q hq).2.2 hd).2⟩⟩⟩
theorem clX_fin {x : WS} {W v : Int} (h : Fin x W v) : Fin (clX x) W v := by
  have h1 : (closeF x.w).2.fin = x.w.fin ∧ (closeF x.w).2.win = x.w.win := by unfold closeF; split <;> exact ⟨rfl, rfl⟩
  exact h.w rfl rfl rfl rfl h1.1 h1.2

/-- What the law asks for. -/
structure PF (y : WS) (W v : Int) : Prop where
  e1 : y.w.taken = y.data.length
  e2 : y.w.base ≤ y.r.sto.next
  e3 : y.w.taken - y.w.base ≤ W
  e4 : (y.read.length : Int) = y.r.sto.off
  e5 : y.r.sto.off ≤ y.r.sto.next
  e6 : y.r.sto.next ≤ y.r.sto.off + v
  e7 : y.r.win = v
  e8 : (y.read.length : Int) ≤ y.data.length
  p6 : (y.data.drop (0 : Int).toNat).take ((y.read.length : Int) - 0).toNat = y.read
  b1 : y.w.fin = true → (y.r.sto.known && decide (y.r.sto.fin = y.r.sto.next)) = true
  b2 : (y.r.sto.known && decide (y.r.sto.fin = y.r.sto.next)) = true → y.r.sto.next = y.w.taken
  b3 : y.fin = true → (y.read.length : Int) = y.w.taken
theorem PF.of {y : WS} {W v : Int} (h : Inv y) (f : Fin y W v) : PF y W v := by
  have h1 := h.st.off; have h2 := h.st.nxt; have h3 := h.ok.top; have h4 := h.tk
  have hr : (y.read.length : Int) = y.r.sto.off := by rw [h.rd, List.length_take]; omega
  refine ⟨h.tk, h.base, by have := h.ok.fits; rw [f.ww] at this; exact this, hr, h1.2, by have := f.rv; omega, h.rw.trans f.rv, by omega, ?_, fun hh => ?_, fun hh => ?_, fun hh => ?_⟩
  · rw [Int.toNat_zero, List.drop_zero, show ((y.read.length : Int) - 0).toNat = y.r.sto.off.toNat by omega]; exact h.rd.symm
  · obtain ⟨g1, g2⟩ := f.fw hh
    rw [g1, decide_eq_true g2]; rfl
  · obtain ⟨g1, g2⟩ := Bool.and_eq_true_iff.1 hh
    have := (h.fin g1).2.2
    have := of_decide_eq_true g2
    omega
  · obtain ⟨g1, g2⟩ := f.fx hh
    have := (h.fin g1).2.2
    omega
end Go.Proofs.Ytebhcmgfhkjmcaa
