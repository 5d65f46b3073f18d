/-
  Layer 44: StreamCompletes: the measure, and a round (plain).
-/
import Derived.Test.YtebhcmgfhkjmcaaCmq
namespace Go.Proofs.Ytebhcmgfhkjmcaa
set_option linter.all false
set_option linter.unusedVariables false
set_option linter.unusedSimpArgs false
set_option linter.unusedSectionVars false
open Go.RowKit Go.Sx
set_option maxHeartbeats 16000000
/-- Writer: base (also what the reader has), next, taken, room, idle, ended; window of the reader, end known, timeout. -/
structure MS where
  b : Int
  x : Int
  t : Int
  p : Int
  i : Int
  en : Int
  v : Int
  kn : Int
  T : Int
structure MOk (s : MS) : Prop where
  bx : 0 ≤ s.b ∧ s.b ≤ s.x ∧ s.x ≤ s.t
  pv : 1 ≤ s.v ∧ s.v ≤ s.p
  i0 : 0 ≤ s.i ∧ s.i < s.T ∧ s.T ≤ 6
  en : s.en = 0 ∨ s.en = 1 ∧ s.x = s.t ∧ s.kn = 1
  kn : s.kn = 0 ∨ s.kn = 1
structure MR (s s' : MS) : Prop where
  ex : ∃ x i en sent o k l n : Int, TkR s.b s.x s.t s.p s.T s.i s.en x i en sent o k l ∧ (s'.t = s.t ∧ s'.v = s.v ∧ s'.T = s.T ∧ s'.en = en ∧ s'.b = n) ∧ (s.b ≤ n ∧ n ≤ s.t) ∧ (sent = 1 → o ≤ s.b → o + k ≤ n ∨ s.b + s.v ≤ n) ∧ (sent = 0 → n = s.b) ∧
    (s'.kn = 1 ∧ (s.kn = 1 ∨ sent = 1 ∧ l = 1) ∨ s'.kn = 0 ∧ s.kn = 0 ∧ l = 0) ∧
    (n = s.b ∧ s'.x = x ∧ s'.i = i ∧ (s'.p = s.p ∧ s.v ≤ s.p ∨ s'.p = s.v ∧ s.p ≤ s.v) ∨ s.b < n ∧ s'.p = s.v ∧ s'.i = 0 ∧ (s'.x = x ∧ n ≤ x ∨ s'.x = n ∧ x ≤ n))
def ms2 (s : MS) : Int := if s.v < s.p then 14 * (s.t - s.b) + 10 + (if s.x = s.b ∧ s.en = 0 then 0 else 1 + 7 * (s.t - s.x) + 7 * (1 - s.en) + (s.T - s.i)) else if s.b < s.x then 7 * (s.t - s.b) + 1 + 7 * (s.t - s.x) + 7 * (1 - s.en) + (s.T - s.i) else s.t - s.b
theorem MOk.next {s s' : MS} (h : MOk s) (r : MR s s') : MOk s' := by
  obtain ⟨⟨h1, h2, h3⟩, ⟨h4, h5⟩, ⟨h6, h7, h8⟩, h9, h10⟩ := h
  obtain ⟨x, i, en, sent, o, k, l, n, ht, ⟨q1, q2, q3, q4, q5⟩, ⟨q6, q7⟩, q8, q9, q10, q11⟩ := r.ex
  unfold TkR at ht
  refine ⟨?_, ?_, ?_, ?_, ?_⟩ <;> rcases ht with ht | ht | ⟨⟨hn1, hn2⟩, ht | ht | ht⟩ <;> omega
theorem ms2_b {s : MS} (h : MOk s) : 0 ≤ ms2 s ∧ ms2 s ≤ 21 * s.t + 24 := by
  obtain ⟨⟨h1, h2, h3⟩, ⟨h4, h5⟩, ⟨h6, h7, h8⟩, h9, h10⟩ := h
  unfold ms2
  (repeat' split) <;> omega
theorem ms2_lt {s s' : MS} (h : MOk s) (r : MR s s') (hf : ¬ (s'.kn = 1 ∧ s'.b = s.t)) : ms2 s' < ms2 s := by
  obtain ⟨⟨h1, h2, h3⟩, ⟨h4, h5⟩, ⟨h6, h7, h8⟩, h9, h10⟩ := h
  obtain ⟨x, i, en, sent, o, k, l, n, ht, ⟨q1, q2, q3, q4, q5⟩, ⟨q6, q7⟩, q8, q9, q10, q11⟩ := r.ex
  unfold TkR at ht
  obtain ⟨b, x0, t, p, i0, en0, v, kn, T⟩ := s
  obtain ⟨b', x', t', p', i', en', v', kn', T'⟩ := s'
  dsimp only at *
  subst q1 q2 q3 q4 q5
  unfold ms2
  dsimp only
  have hen : en0 = 0 ∨ en0 = 1 := h9.imp_right And.left
  rcases hen with rfl | rfl <;> rcases h10 with rfl | rfl
  all_goals
    (rcases ht with ⟨t1, t2, t3, t4, t5, rfl, rfl, rfl, rfl, ⟨t6, rfl, rfl⟩ | ⟨t6, rfl, rfl⟩⟩ | ⟨t1, t2, rfl, rfl, rfl, rfl, rfl, rfl, rfl⟩ | ⟨⟨hn1, hn2⟩, ⟨t1, rfl, rfl, rfl, rfl, rfl, rfl, rfl⟩ | ⟨t1, t2, rfl, rfl, rfl, rfl, rfl, rfl, rfl⟩ | ⟨t1, t2, t3, rfl, rfl, rfl, rfl, rfl, rfl, rfl⟩⟩)
  all_goals (try (exfalso; omega))
  all_goals
    (obtain ⟨q10, q10'⟩ | ⟨q10, q10', q10''⟩ := q10)
  all_goals (try (exfalso; omega))
  all_goals subst q10
  all_goals
    (obtain ⟨q12, rfl, rfl, ⟨rfl, q13⟩ | ⟨rfl, q13⟩⟩ | ⟨q12, rfl, rfl, ⟨rfl, q13⟩ | ⟨rfl, q13⟩⟩ := q11)
  all_goals (try (exfalso; omega))
  all_goals (try simp only [Int.reduceEq, reduceIte, true_and, and_true, false_and, and_false, or_true, true_or, or_false, false_or, if_true, if_false])
  all_goals ((repeat' split) <;> omega)

/-! ### a round -/
abbrev tk (x : WS) (m : Int) : TickR := tick x.w m
/-- The reader behind the segment. -/
def r1 (x : WS) (m : Int) : Rdr := if ((tk x m).1.2.1 : Bool) = true then (rcvF x.r (tk x m).1.1.1 (tk x m).1.1.2.1 (tk x m).1.1.2.2).2 else x.r
def r2 (x : WS) (m : Int) : Rdr := (rdF (r1 x m) 1000).2
def ak (x : WS) (m : Int) : I1 × Wri := ackF (tk x m).2 (rackF (r2 x m)).1 (rackF (r2 x m)).2.1 (rackF (r2 x m)).2.2.1
/-- One round. -/
def rnd (x : WS) (m : Int) : WS := { x with w := (ak x m).2, r := r2 x m, read := x.read ++ (rdF (r1 x m) 1000).1.1, fin := x.fin || (rdF (r1 x m) 1000).1.2.1 }
structure Cx (x : WS) (T : Int) : Prop where
  dn : Dn x.w x.r x.data x.read
  wx : Wx true x.w
  tm : x.w.tmo = T ∧ T ≤ 6
  rw : x.r.sto.win ≤ 20
def msO (x : WS) : MS := ⟨x.w.base, x.w.next, x.w.taken, x.w.room, x.w.idle, fl x.w.ended, x.r.sto.win, fl x.r.sto.known, x.w.tmo⟩
/-- Behind the first round: all that has arrived is read and confirmed. -/
structure Cs (x : WS) : Prop where
  bn : x.w.base = x.r.sto.next
  off : x.r.sto.off = x.r.sto.next
  ok : MOk (msO x)
theorem tick_tmo (W : Wri) (m : Int) : (tick W m).2.tmo = W.tmo := by
  have hI : (tickIdle W).2.tmo = W.tmo := by unfold tickIdle; (repeat' split) <;> rfl
  have hB : (tickB W).2.tmo = W.tmo := by unfold tickB; (repeat' split) <;> first | rfl | exact hI
  have hA : (tickA W).2.tmo = W.tmo := by unfold tickA; (repeat' split) <;> first | rfl | exact hB
  unfold tick; (repeat' split) <;> first | rfl | exact hA
theorem ackM_tmo (W : Wri) (o r : Int) (d : Bool) : (ackM W o r d).2.tmo = W.tmo := by unfold ackM; (repeat' split) <;> rfl
/-- What a round does. -/
structure RF (x : WS) (m T : Int) : Prop where
  cr : ((tk x m).1.2.1 : Bool) = true → ((rcvF x.r (tk x m).1.1.1 (tk x m).1.1.2.1 (tk x m).1.1.2.2).1.1 : Int) = 0
  sl : ((tk x m).1.2.1 : Bool) = true → ((tk x m).1.1.2.1 : List Int).length ≤ 1048576
  ca : ((ak x m).1.1 : Int) = 0
  cx : Cx (rnd x m) T
  p1 : PreS (r1 x m).sto
  p2 : PreS (r2 x m).sto ∧ (r2 x m).win = (r2 x m).sto.win
  o1 : OkW (tk x m).2
  l1 : (x.read.length : Int) + (((rdF (r1 x m) 1000).1.1 : List Int).length : Int) ≤ x.data.length
theorem round {x : WS} {T m : Int} (h : Cx x T) (hm : 1 ≤ m) : RF x m T ∧ (rnd x m).w.base = (rnd x m).r.sto.next ∧ (rnd x m).r.sto.off = (rnd x m).r.sto.next ∧ ((rnd x m).w.fin = true → (rnd x m).fin = true) ∧
    (fl (rnd x m).r.sto.known = 1 → (rnd x m).r.sto.next = x.w.taken → (rnd x m).w.fin = true) := by
  obtain ⟨p1, p2, p3⟩ := h.dn.tick m
  have hwx := h.wx.tick m
  have htm := tick_tmo x.w m
  have hR : ((tk x m).1.2.1 = true → ((rcvF x.r (tk x m).1.1.1 (tk x m).1.1.2.1 (tk x m).1.1.2.2).1.1 : Int) = 0) ∧ Dn (tk x m).2 (r1 x m) x.data x.read ∧ (r1 x m).sto.win = x.r.sto.win := by
    unfold r1
    by_cases hs : ((tk x m).1.2.1 : Bool) = true
    · rw [if_pos hs]
      obtain ⟨g1, g2, _⟩ := p1.put (p3 hs)
      exact ⟨fun _ => g1, g2, (put_num p1 (p3 hs)).2.2.1⟩
    · rw [if_neg hs]
      exact ⟨fun q => absurd q hs, p1, rfl⟩
  obtain ⟨c1, d1, w1⟩ := hR
  have k1 := d1.st.off; have k2 := d1.st.nxt; have k3 := h.rw; have k4 := d1.ok.taken; have k5 := d1.ok.top
  obtain ⟨n1, n2, n3, n4, n5, n6, n7⟩ := read_num (r1 x m) ⟨k1.2, by omega⟩
  obtain ⟨d2, _⟩ := d1.read 1000
  have d2 : Dn (tk x m).2 (r2 x m) x.data (x.read ++ (rdF (r1 x m) 1000).1.1) := d2
  have ha := d2.cfm
  obtain ⟨ca, d3, _, ea⟩ := d2.ack ha
  have hwx3 := hwx.ack d2 ha
  have hb2 := d2.base
  have hrw := d2.rw
  have e1 : (r2 x m).sto.next = (r1 x m).sto.next := n1
  have e2 : (r2 x m).sto.off = (r1 x m).sto.next := n2
  have e3 : (r2 x m).sto.win = (r1 x m).sto.win := n3
  have hak : ak x m = ackM (tk x m).2 (rackF (r2 x m)).1 (rackF (r2 x m)).2.1 (rackF (r2 x m)).2.2.1 := ea
  have hbase : (rnd x m).w.base = (r2 x m).sto.next := by
    show (ak x m).2.base = _
    rw [hak]
    have := (ackM_ok d2.ok (o := (rackF (r2 x m)).1) (r := (rackF (r2 x m)).2.1) (d := (rackF (r2 x m)).2.2.1) ha.lo.1 (by have := d2.st.nxt; have := ha.lo; omega) ha.rm.1 ha.rm.2).2.2.2.2.2.2.1
    rw [this]
    show max (tk x m).2.base (r2 x m).sto.next = (r2 x m).sto.next
    omega
  refine ⟨⟨c1, fun hs => ?_, ca, ⟨d3, hwx3, ⟨?_, h.tm.2⟩, ?_⟩, d1.st.pre (by omega), ⟨d2.st.pre (by have := d2.ok.top; have := d2.ok.taken; omega), hrw⟩, d1.ok, ?_⟩, hbase, e2.trans e1.symm, fun hf => ?_, fun q1 q2 => ?_⟩
  · show ((tick x.w m).1.1.2.1 : List Int).length ≤ 1048576
    have := (p3 hs).part.hi; have := (p3 hs).part.lo; have := p1.ok.top; have := p1.ok.taken; omega
  · show (ak x m).2.tmo = T
    rw [hak, ackM_tmo]
    exact htm.trans h.tm.1
  · show (r2 x m).sto.win ≤ 20
    omega
  · have := d2.rdl
    rw [List.length_append] at this
    have := d2.topd; have := d2.st.nxt; have := d2.st.off
    omega
  · have hk := d3.fw hf
    show (x.fin || (rdF (r1 x m) 1000).1.2.1) = true
    rw [n7.2 ⟨by rw [← n4]; exact hk.1, by have := hk.2; rw [show (r2 x m).sto.fin = (r1 x m).sto.fin from n5, e1] at this; exact this⟩, Bool.or_true]
  · have q1 : (r2 x m).sto.known = true := by
      by_cases hk : (r2 x m).sto.known = true
      · exact hk
      · have q1 : fl (r2 x m).sto.known = 1 := q1
        rw [fl_f hk] at q1; exact absurd q1 (by decide)
    have q2 : (r2 x m).sto.next = x.w.taken := q2
    have htk : (tk x m).2.taken = x.w.taken := (tick_fact h.dn.ok h.dn.tk h.dn.wd m).same.2.1
    have hfn := (d2.fin q1).2.2
    have hd : ((rackF (r2 x m)).2.2.1 : Bool) = true := by
      show ((r2 x m).sto.known && decide ((r2 x m).sto.fin = (r2 x m).sto.next)) = true
      rw [q1, Bool.true_and]; exact decide_eq_true (by omega)
    show (ak x m).2.fin = true
    rw [hak, hd]
    unfold ackM
    rw [if_neg (show ¬ (rackF (r2 x m)).1 < (tk x m).2.base by show ¬ (r2 x m).sto.next < _; omega)]
    split <;> exact Bool.or_true _
/-- The round in numbers. -/
theorem round_num {x : WS} {T m : Int} (h : Cx x T) (hm : 1 ≤ m) (hf : ¬ x.w.fin = true) (hbn : x.r.sto.off ≤ x.r.sto.next ∧ x.w.base ≤ x.r.sto.next) :
    ∃ x' i en sent o k l n : Int, TkR x.w.base x.w.next x.w.taken x.w.room x.w.tmo x.w.idle (fl x.w.ended) x' i en sent o k l ∧ ((rnd x m).w.taken = x.w.taken ∧ (rnd x m).r.sto.win = x.r.sto.win ∧ (rnd x m).w.tmo = x.w.tmo ∧ fl (rnd x m).w.ended = en ∧ (rnd x m).w.base = n) ∧ (x.r.sto.next ≤ n ∧ n ≤ x.w.taken) ∧
      (sent = 1 → o ≤ x.r.sto.next → o + k ≤ n ∨ x.r.sto.off + x.r.sto.win ≤ n) ∧ (sent = 0 → n = x.r.sto.next) ∧
      (fl (rnd x m).r.sto.known = 1 ∧ (fl x.r.sto.known = 1 ∨ sent = 1 ∧ l = 1) ∨ fl (rnd x m).r.sto.known = 0 ∧ fl x.r.sto.known = 0 ∧ l = 0) ∧
      (n = x.w.base ∧ (rnd x m).w.next = x' ∧ (rnd x m).w.idle = i ∧ ((rnd x m).w.room = x.w.room ∧ x.r.sto.win ≤ x.w.room ∨ (rnd x m).w.room = x.r.sto.win ∧ x.w.room ≤ x.r.sto.win) ∨
       x.w.base < n ∧ (rnd x m).w.room = x.r.sto.win ∧ (rnd x m).w.idle = 0 ∧ ((rnd x m).w.next = x' ∧ n ≤ x' ∨ (rnd x m).w.next = n ∧ x' ≤ n)) := by
  obtain ⟨x', i, en, sent, o, k, l, ⟨t0, t1, t2, t3, t4, t5⟩, t6⟩ := tick_num h.dn.ok h.wx hf hm
  obtain ⟨hRF, hb, hoff, _, _⟩ := round h hm
  obtain ⟨p1, p2, p3⟩ := h.dn.tick m
  have hsame := (tick_fact h.dn.ok h.dn.tk h.dn.wd m).same
  have htm := tick_tmo x.w m
  -- the reader behind the segment
  have hR : (x.r.sto.next ≤ (r1 x m).sto.next ∧ (r1 x m).sto.next ≤ x.w.taken) ∧ (r1 x m).sto.off = x.r.sto.off ∧ (r1 x m).sto.win = x.r.sto.win ∧ (r1 x m).sto.next ≤ (r1 x m).sto.off + (r1 x m).sto.win ∧
      (sent = 1 → o ≤ x.r.sto.next → o + k ≤ (r1 x m).sto.next ∨ x.r.sto.off + x.r.sto.win ≤ (r1 x m).sto.next) ∧ (sent = 0 → (r1 x m).sto.next = x.r.sto.next) ∧ ((r1 x m).sto.known = true ↔ x.r.sto.known = true ∨ sent = 1 ∧ l = 1) := by
    unfold r1
    rcases t4 with ⟨s1, s2⟩ | ⟨s1, s2⟩
    · rw [if_pos (show ((tk x m).1.2.1 : Bool) = true from s1)]
      obtain ⟨g1, g2, g3⟩ := p1.put (p3 s1)
      obtain ⟨n1, n2, n3, n4⟩ := put_num p1 (p3 s1)
      obtain ⟨u1, u2, u3⟩ := t5 s2
      have u1 : @Eq Int (tick x.w m).1.1.1 o := u1
      have u2 : @Eq Int ((tick x.w m).1.1.2.1 : List Int).length k := u2
      have k1 := g2.st.nxt; have k2 := g2.ok.top; have k3 := g3.nx; have k4 := hsame.2.1
      refine ⟨⟨k3, by show (rcvF x.r (tick x.w m).1.1.1 (tick x.w m).1.1.2.1 (tick x.w m).1.1.2.2).2.sto.next ≤ x.w.taken; omega⟩, n4, n3, k1.1, fun _ ho => ?_, fun z => by omega, ?_⟩
      · have n1 := n1 (by rw [← u1] at ho; exact ho)
        rcases n1 with n1 | n1
        · left
          show o + k ≤ (rcvF x.r (tick x.w m).1.1.1 (tick x.w m).1.1.2.1 (tick x.w m).1.1.2.2).2.sto.next
          omega
        · exact .inr n1
      · refine n2.trans (or_congr Iff.rfl ?_)
        rcases u3 with ⟨u3, u4⟩ | ⟨u3, u4⟩
        · exact ⟨fun _ => ⟨s2, u4⟩, fun _ => u3⟩
        · exact ⟨fun z => (by have z : ((tick x.w m).1.1.2.2 : Bool) = true := z; rw [u3] at z; cases z), fun z => by omega⟩
    · rw [if_neg (show ¬ ((tk x m).1.2.1 : Bool) = true by show ¬ ((tick x.w m).1.2.1 : Bool) = true; rw [s1]; exact Bool.false_ne_true)]
      have k1 := h.dn.st.nxt; have k2 := h.dn.ok.top
      exact ⟨⟨Int.le_refl _, by omega⟩, rfl, rfl, k1.1, fun z => by omega, fun _ => rfl, ⟨.inl, fun z => z.elim id fun z => by omega⟩⟩
  obtain ⟨⟨m1, m2⟩, m3, m4, m5, m6, m7, m8⟩ := hR
  have h20 := h.rw
  obtain ⟨n1, n2, n3, n4, n5, n6, n7⟩ := read_num (r1 x m) ⟨by omega, by omega⟩
  have hd2 : Dn (tk x m).2 (r2 x m) x.data (x.read ++ (rdF (r1 x m) 1000).1.1) ∧ True := by
    have : Dn (tk x m).2 (r1 x m) x.data x.read := by
      unfold r1
      by_cases hs : ((tk x m).1.2.1 : Bool) = true
      · rw [if_pos hs]; exact (p1.put (p3 hs)).2.1
      · rw [if_neg hs]; exact p1
    exact ⟨(this.read 1000).1, trivial⟩
  have d2 := hd2.1
  have ha := d2.cfm
  have ea : ak x m = ackM (tk x m).2 (rackF (r2 x m)).1 (rackF (r2 x m)).2.1 (rackF (r2 x m)).2.2.1 := (d2.ack ha).2.2.2
  have e1 : (r2 x m).sto.next = (r1 x m).sto.next := n1
  have e3 : (r2 x m).sto.win = (r1 x m).sto.win := n3
  have hroom : (rackF (r2 x m)).2.1 = x.r.sto.win := by
    show (r2 x m).sto.off + (r2 x m).win - (r2 x m).sto.next = _
    have := d2.rw
    have e2 : (r2 x m).sto.off = (r1 x m).sto.next := n2
    omega
  have hbe : (rnd x m).w.base = (r1 x m).sto.next := by rw [hb]; exact e1
  obtain ⟨w1, w2, w3, w4, w5, w6⟩ := hsame
  have w2 : (tk x m).2.taken = x.w.taken := w2
  have w3 : (tk x m).2.base = x.w.base := w3
  have w4 : (tk x m).2.room = x.w.room := w4
  have t1 : (tk x m).2.next = x' := t1
  have t2 : (tk x m).2.idle = i := t2
  have t3 : fl (tk x m).2.ended = en := t3
  have htm : (tk x m).2.tmo = x.w.tmo := htm
  refine ⟨x', i, en, sent, o, k, l, (r1 x m).sto.next, t0, ⟨?_, e3.trans m4, ?_, ?_, hbe⟩, ⟨m1, m2⟩, m6, m7, ?_, ?_⟩
  · show (ak x m).2.taken = _
    rw [ea]; unfold ackM; (repeat' split) <;> exact w2
  · show (ak x m).2.tmo = _
    rw [ea, ackM_tmo]; exact htm
  · show fl (ak x m).2.ended = _
    rw [ea]; unfold ackM; (repeat' split) <;> exact t3
  · have hk : fl (rnd x m).r.sto.known = fl (r1 x m).sto.known := congrArg fl n4
    rw [hk]
    by_cases hk1 : (r1 x m).sto.known = true
    · left
      refine ⟨fl_t hk1, ?_⟩
      rcases m8.1 hk1 with q | q
      · exact .inl (fl_t q)
      · exact .inr q
    · right
      refine ⟨fl_f hk1, fl_f fun q => hk1 (m8.2 (.inl q)), ?_⟩
      rcases t4 with ⟨s1, s2⟩ | ⟨s1, s2⟩
      · rcases (t5 s2).2.2 with ⟨_, u⟩ | ⟨_, u⟩
        · exact absurd (m8.2 (.inr ⟨s2, u⟩)) hk1
        · exact u
      · exact (t6 s2).2.2
  · have eo : @Eq Int (rackF (r2 x m)).1 (r1 x m).sto.next := e1
    by_cases hb2 : (r1 x m).sto.next = x.w.base
    · left
      refine ⟨hb2, ?_, ?_, ?_⟩
      · show (ak x m).2.next = _
        rw [ea]; unfold ackM
        rw [if_neg (by omega), if_pos (by omega)]; exact t1
      · show (ak x m).2.idle = _
        rw [ea]; unfold ackM
        rw [if_neg (by omega), if_pos (by omega)]; exact t2
      · show (ak x m).2.room = _ ∧ _ ∨ (ak x m).2.room = _ ∧ _
        rw [ea]; unfold ackM
        rw [if_neg (by omega), if_pos (by omega)]
        show max (tk x m).2.room (rackF (r2 x m)).2.1 = x.w.room ∧ _ ∨ max (tk x m).2.room (rackF (r2 x m)).2.1 = x.r.sto.win ∧ _
        rw [w4, hroom]; omega
    · right
      refine ⟨by omega, ?_, ?_, ?_⟩
      · show (ak x m).2.room = _
        rw [ea]; unfold ackM
        rw [if_neg (by omega), if_neg (by omega)]; exact hroom
      · show (ak x m).2.idle = _
        rw [ea]; unfold ackM
        rw [if_neg (by omega), if_neg (by omega)]
      · show (ak x m).2.next = _ ∧ _ ∨ (ak x m).2.next = _ ∧ _
        rw [ea]; unfold ackM
        rw [if_neg (by omega), if_neg (by omega)]
        show max (tk x m).2.next (rackF (r2 x m)).1 = x' ∧ _ ∨ max (tk x m).2.next (rackF (r2 x m)).1 = (r1 x m).sto.next ∧ _
        rw [t1, eo]; omega
/-- What holds at the start of round i. -/
structure Ci (T : Int) (x : WS) (i : Int) : Prop where
  cx : Cx x T
  nf : ¬ x.w.fin = true
  lo : 0 ≤ i
  st : i = 0 ∧ x.w.ended = false ∨ 1 ≤ i ∧ Cs x ∧ ms2 (msO x) + i ≤ 21 * x.w.taken + 25
theorem Ci.next {T i m : Int} {x : WS} (h : Ci T x i) (hm : 1 ≤ m) (hf : ¬ (rnd x m).w.fin = true) : Ci T (rnd x m) (i + 1) := by
  obtain ⟨hRF, hb, hoff, _, hfn⟩ := round h.cx hm
  have hlo := h.lo
  have hst := h.cx.dn.st; have hbase := h.cx.dn.base
  obtain ⟨x', i', en, sent, o, k, l, n, t0, ⟨q1, q2, q3, q4, q5⟩, q6, q7, q8, q9, q10⟩ := round_num h.cx hm h.nf ⟨hst.off.2, hbase⟩
  have hk := h.cx.dn.ok
  obtain ⟨⟨h1, h2⟩, ⟨h3, h4⟩, h5, h6, h7, h8, ⟨h9, h10⟩, ⟨h11, h12⟩, ⟨h13, h14⟩, h15, h16⟩ := id hk
  have hT := h.cx.tm
  have hwin := hst.win
  have hk' := hRF.cx.dn.ok
  obtain ⟨⟨h1', h2'⟩, ⟨h3', h4'⟩, h5', h6', h7', h8', ⟨h9', h10'⟩, ⟨h11', h12'⟩, ⟨h13', h14'⟩, h15', h16'⟩ := id hk'
  have fl01 : ∀ b : Bool, fl b = 0 ∨ fl b = 1 := fl_01
  have nfin : ¬ (fl (rnd x m).r.sto.known = 1 ∧ n = x.w.taken) := fun z => hf (hfn z.1 (by rw [← hb, q5]; exact z.2))
  refine ⟨hRF.cx, hf, by omega, .inr ⟨by omega, ⟨hb, hoff, ?_⟩, ?_⟩⟩
  · -- the state behind a round is in order
    rcases h.st with ⟨_, he⟩ | ⟨_, hcs, _⟩
    · have he0 : fl x.w.ended = 0 := fl_f (by rw [he]; exact Bool.false_ne_true)
      unfold TkR at t0
      have kn1 := fl01 (rnd x m).r.sto.known
      refine ⟨⟨h5', h9', h10'⟩, ⟨by show 1 ≤ (rnd x m).r.sto.win; omega, by show (rnd x m).r.sto.win ≤ (rnd x m).w.room; omega⟩, ⟨h15', h16', by show (rnd x m).w.tmo ≤ 6; omega⟩, ?_, kn1⟩
      show fl (rnd x m).w.ended = 0 ∨ fl (rnd x m).w.ended = 1 ∧ (rnd x m).w.next = (rnd x m).w.taken ∧ fl (rnd x m).r.sto.known = 1
      rcases t0 with t0 | t0 | ⟨⟨hn1, hn2⟩, t0 | t0 | t0⟩ <;> omega
    · refine MOk.next hcs.ok (s' := msO (rnd x m)) ⟨x', i', en, sent, o, k, l, n, t0, ⟨q1, q2, q3, q4, q5⟩, ⟨by show x.w.base ≤ n; omega, q6.2⟩, fun z1 z2 => ?_, fun z => ?_, q9, q10⟩
      · have := q7 z1 (by have z2 : o ≤ x.w.base := z2; have := hcs.bn; omega)
        have := hcs.bn; have := hcs.off
        show o + k ≤ n ∨ x.w.base + x.r.sto.win ≤ n
        omega
      · have := q8 z; have := hcs.bn; show n = x.w.base; omega
  · rcases h.st with ⟨e0, he⟩ | ⟨_, hcs, hms⟩
    · have hok : MOk (msO (rnd x m)) := by
        have he0 : fl x.w.ended = 0 := fl_f (by rw [he]; exact Bool.false_ne_true)
        unfold TkR at t0
        have kn1 := fl01 (rnd x m).r.sto.known
        refine ⟨⟨h5', h9', h10'⟩, ⟨by show 1 ≤ (rnd x m).r.sto.win; omega, by show (rnd x m).r.sto.win ≤ (rnd x m).w.room; omega⟩, ⟨h15', h16', by show (rnd x m).w.tmo ≤ 6; omega⟩, ?_, kn1⟩
        show fl (rnd x m).w.ended = 0 ∨ fl (rnd x m).w.ended = 1 ∧ (rnd x m).w.next = (rnd x m).w.taken ∧ fl (rnd x m).r.sto.known = 1
        rcases t0 with t0 | t0 | ⟨⟨hn1, hn2⟩, t0 | t0 | t0⟩ <;> omega
      have := (ms2_b hok).2
      have e : (msO (rnd x m)).t = (rnd x m).w.taken := rfl
      omega
    · have hr : MR (msO x) (msO (rnd x m)) := ⟨x', i', en, sent, o, k, l, n, t0, ⟨q1, q2, q3, q4, q5⟩, ⟨by show x.w.base ≤ n; omega, q6.2⟩, fun z1 z2 => by
        have := q7 z1 (by have z2 : o ≤ x.w.base := z2; have := hcs.bn; omega)
        have := hcs.bn; have := hcs.off
        show o + k ≤ n ∨ x.w.base + x.r.sto.win ≤ n
        omega, fun z => by have := q8 z; have := hcs.bn; show n = x.w.base; omega, q9, q10⟩
      have := ms2_lt hcs.ok hr (fun z => nfin ⟨z.1, by have z2 : (rnd x m).w.base = x.w.taken := z.2; omega⟩)
      omega
/-- The rounds do not run out. -/
theorem Ci.bound {T i : Int} {x : WS} (h : Ci T x i) : i < (x.w.taken + 3) * (x.w.taken + 12) := by
  have ht : 0 ≤ x.w.taken := by have := h.cx.dn.tk; omega
  have hi : i ≤ 21 * x.w.taken + 25 := by
    rcases h.st with ⟨e, _⟩ | ⟨_, hcs, hms⟩
    · omega
    · have := (ms2_b hcs.ok).1; omega
  have e : (x.w.taken + 3) * (x.w.taken + 12) = x.w.taken * x.w.taken + 15 * x.w.taken + 36 := by
    rw [Int.add_mul, Int.mul_add, Int.mul_add]; omega
  have sq : 0 ≤ (x.w.taken - 3) * (x.w.taken - 3) := by
    rcases Int.le_total 0 (x.w.taken - 3) with q | q
    · exact Int.mul_nonneg q q
    · exact Int.mul_nonneg_of_nonpos_of_nonpos q q
  have e2 : (x.w.taken - 3) * (x.w.taken - 3) = x.w.taken * x.w.taken - 6 * x.w.taken + 9 := by
    rw [Int.sub_mul, Int.mul_sub, Int.mul_sub]; omega
  omega
end Go.Proofs.Ytebhcmgfhkjmcaa
