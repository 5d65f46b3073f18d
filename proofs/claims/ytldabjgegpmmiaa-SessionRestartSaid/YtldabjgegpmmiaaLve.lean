/-
  Layer 47: SessionComplete, plain: after 400 quiet rounds everything is read, and both ends are finished.
-/
import Derived.Test.YtldabjgegpmmiaaLvd
namespace Go.Proofs.Ytldabjgegpmmiaa
set_option linter.all false
set_option linter.unusedVariables false
set_option linter.unusedSimpArgs false
set_option linter.unusedSectionVars false
open Go.RowKit Go.Sx
variable {u v : Int} {S : Pr} {c : Bool}
/-- The start of a quiet round. -/
structure RS (u v : Int) (S : Pr) : Prop where
  pp : PP u v S
  uv : u ≤ 16 ∧ v ≤ 16
  qx : QX true S
  f0 : S.f0 = []
  f1 : S.f1 = []
  nz : ¬ (S.e0.st = 0 ∧ S.e1.st = 0)
  o0 : S.e0.r.sto.off = S.e0.r.sto.next
  o1 : S.e1.r.sto.off = S.e1.r.sto.next
theorem erd_r (E : Edd) (m : Int) : (erdF E m).2.r = (rdF E.r m).2 := by
  unfold erdF erdN erdS
  (repeat' split) <;> rfl
theorem calR_off (h : PP u v S) (hu : u ≤ 16) (hv : v ≤ 16) : (calR S).e0.r.sto.off = (calR S).e0.r.sto.next ∧ (calR S).e1.r.sto.off = (calR S).e1.r.sto.next := by
  obtain ⟨d1, d2, _⟩ := rd2_eq (calI 400 (ptickF S 9).2)
  have hp := (h.tick 9).calI 400
  have key : ∀ {a b u v : Int} {E F : Edd} {dE dF rE rF : List Int} {mE mF : List Msg}, PI a b u v E F dE dF rE rF mE mF → u ≤ 16 → (erdF E 100).2.r.sto.off = (erdF E 100).2.r.sto.next := by
    intro a b u v E F dE dF rE rF mE mF h hu
    have h1 := h.fe.st.off; have h2 := h.fe.st.nxt; have h3 := h.ea.rw
    obtain ⟨n1, n2, _⟩ := read_num E.r ⟨h1.2, by omega⟩
    rw [erd_r, n1, n2]
  unfold calR
  rw [d1, d2]
  exact ⟨key hp hu, key (PI.swap hp) hv⟩
theorem RS.first (h : PP u v S) (hu : u ≤ 16 ∧ v ≤ 16) (hq : QX true S) (hw : WT S ≤ 396) (hn : ¬ (S.e0.st = 0 ∧ S.e1.st = 0)) : RS u v (calR S) := by
  obtain ⟨k1, k2⟩ := calR_empty h hw
  obtain ⟨o1, o2⟩ := calR_off h hu.1 hu.2
  exact ⟨h.calR, hu, QX.calR h hq, k1, k2, calR_nz h hn, o1, o2⟩
theorem RS.next (h : RS u v S) : RS u v (calR S) := RS.first h.pp h.uv h.qx (by unfold WT; rw [h.f0, h.f1]; decide) h.nz
theorem RS.iter (h : RS u v S) : ∀ n : Nat, RS u v (calN n S)
  | 0 => h
  | n + 1 => (RS.iter h n).next
abbrev Jb (S : Pr) : Prop := Jd S.e0 ∧ Jd S.e1
theorem Jb.iter (h : RS u v S) (hj : Jb S) : ∀ n : Nat, Jb (calN n S)
  | 0 => hj
  | n + 1 => ⟨(calR_jd (h.iter n).pp).1 (Jb.iter h hj n).1, (calR_jd (h.iter n).pp).2 (Jb.iter h hj n).2⟩
theorem RS.join (h : RS u v S) : ∀ n : Nat, Jb (calN n S) ∨ tw (calN n S).e0 + tw (calN n S).e1 + n ≤ tw S.e0 + tw S.e1
  | 0 => .inr (Nat.le_refl _)
  | n + 1 => by
    have hn := h.iter n
    rcases RS.join h n with hj | hj
    · exact .inl ⟨(calR_jd hn.pp).1 hj.1, (calR_jd hn.pp).2 hj.2⟩
    · rcases calR_join hn.pp hn.f0 hn.f1 hn.nz with q | q
      · exact .inl q
      · exact .inr (by show tw (calR (calN n S)).e0 + tw (calR (calN n S)).e1 + (n + 1) ≤ _; omega)
theorem RS.joined (h : RS u v S) : Jb (calN 7 S) := by
  rcases h.join 7 with q | q
  · exact q
  · have w0 := h.pp.ea.tm; have w1 := h.pp.eb.tm
    have t0 : tw S.e0 ≤ 3 := by unfold tw; split <;> omega
    have t1 : tw S.e1 ≤ 3 := by unfold tw; split <;> omega
    omega
theorem RS.dq (h : RS u v S) (hj : Jb S) : Dq S.e0 S.e1 S.w0 S.r1 ∧ Dq S.e1 S.e0 S.w1 S.r0 := by
  have a0 := h.pp.ea; have a1 := h.pp.eb; have hu := h.uv
  exact ⟨⟨h.pp.ef, h.qx.1, a0.tm.2.1, ⟨by have := a0.ww; omega, by have := a1.rw; omega⟩, hj.1.elim .inl fun q => .inr ⟨q, (a0.fin q).1⟩, h.o1⟩,
    ⟨h.pp.fe, h.qx.2, a1.tm.2.1, ⟨by have := a1.ww; omega, by have := a0.rw; omega⟩, hj.2.elim .inl fun q => .inr ⟨q, (a1.fin q).1⟩, h.o0⟩⟩
theorem Qd.fin {E F E' F' : Edd} (q : Qd E F E' F') (h : E.w.fin = true) : E'.w.fin = true := by
  have h1 : (wtk E).fin = true := by
    unfold wtk
    split
    · rw [(tick_fin E.w 9).1]; exact h
    · exact h
  rw [q.w]
  split
  · exact ackM_fin _ _ _ _ h1
  · exact h1
theorem RS.fin (h : RS u v S) (hj : Jb S) : ∀ n : Nat, ((calN n S).e0.w.fin = true ∨ msr (nsOf (calN n S).e0.w (calN n S).e1.r (calN n S).e1.owed) + n ≤ msr (nsOf S.e0.w S.e1.r S.e1.owed)) ∧
    ((calN n S).e1.w.fin = true ∨ msr (nsOf (calN n S).e1.w (calN n S).e0.r (calN n S).e0.owed) + n ≤ msr (nsOf S.e1.w S.e0.r S.e0.owed))
  | 0 => ⟨.inr (by show _ + ((0 : Nat) : Int) ≤ _; rw [Int.natCast_zero, Int.add_zero]; exact Int.le_refl _), .inr (by show _ + ((0 : Nat) : Int) ≤ _; rw [Int.natCast_zero, Int.add_zero]; exact Int.le_refl _)⟩
  | n + 1 => by
    have hn := h.iter n
    have jn := Jb.iter h hj n
    obtain ⟨k1, k2⟩ := RS.fin h hj n
    obtain ⟨q1, q2, _⟩ := quiet hn.pp hn.f0 hn.f1 jn.1 jn.2
    obtain ⟨d1, d2⟩ := hn.dq jn
    constructor
    · show (calR (calN n S)).e0.w.fin = true ∨ msr (nsOf (calR (calN n S)).e0.w (calR (calN n S)).e1.r (calR (calN n S)).e1.owed) + ((n + 1 : Nat) : Int) ≤ _
      by_cases hf : (calR (calN n S)).e0.w.fin = true
      · exact .inl hf
      · have hf0 : ¬ (calN n S).e0.w.fin = true := fun z => hf (q1.fin z)
        have := msr_lt d1.nok (d1.rnd q1 hf0) hf
        have := k1.resolve_left hf0
        exact .inr (by omega)
    · show (calR (calN n S)).e1.w.fin = true ∨ msr (nsOf (calR (calN n S)).e1.w (calR (calN n S)).e0.r (calR (calN n S)).e0.owed) + ((n + 1 : Nat) : Int) ≤ _
      by_cases hf : (calR (calN n S)).e1.w.fin = true
      · exact .inl hf
      · have hf0 : ¬ (calN n S).e1.w.fin = true := fun z => hf (q2.fin z)
        have := msr_lt d2.nok (d2.rnd q2 hf0) hf
        have := k2.resolve_left hf0
        exact .inr (by omega)
theorem RS.done (h : RS u v S) (hj : Jb S) {n : Nat} (hn : 301 ≤ n) : (calN n S).e0.w.fin = true ∧ (calN n S).e1.w.fin = true := by
  have hN := h.iter n
  obtain ⟨d1, d2⟩ := hN.dq (Jb.iter h hj n)
  obtain ⟨g1, g2⟩ := h.dq hj
  obtain ⟨k1, k2⟩ := RS.fin h hj n
  have a1 := msr_b d1.nok; have a2 := msr_b d2.nok; have b1 := msr_b g1.nok; have b2 := msr_b g2.nok
  exact ⟨k1.resolve_right fun q => by omega, k2.resolve_right fun q => by omega⟩
/-- What the law asks for. -/
structure CF (T : Pr) : Prop where
  s0 : T.e0.st = 4
  s1 : T.e1.st = 4
  n0 : T.n0 = true
  n1 : T.n1 = true
  r0 : T.r0 = T.w1
  r1 : T.r1 = T.w0
  t0 : T.e0.w.taken = T.e0.w.base
  t1 : T.e1.w.taken = T.e1.w.base
theorem RS.last (h : RS u v S) (hj : Jb S) (h0 : (calR S).e0.w.fin = true) (h1 : (calR S).e1.w.fin = true) : CF (calR S) := by
  obtain ⟨q1, q2, q3, q4, q5, q6⟩ := quiet h.pp h.f0 h.f1 hj.1 hj.2
  have hp := h.pp.calR
  have hx := QX.calR h.pp h.qx
  obtain ⟨o0, o1⟩ := calR_off h.pp h.uv.1 h.uv.2
  have key : ∀ {a b u v : Int} {E F : Edd} {dE dF rE rF : List Int} {mE mF : List Msg}, PI a b u v E F dE dF rE rF mE mF → E.w.fin = true → Wx true E.w → F.r.sto.off = F.r.sto.next → rF = dE ∧ E.w.taken = E.w.base ∧ F.r.sto.known = true ∧ F.r.sto.fin = F.r.sto.next := by
    intro a b u v E F dE dF rE rF mE mF h hf hx ho
    obtain ⟨k1, k2⟩ := h.ef.fw hf
    have k3 := (h.ef.fin k1).2.2
    refine ⟨?_, (hx.fb hf).symm, k1, k2⟩
    have := h.ef.rd
    have e := h.ef.tk
    rw [this, List.take_of_length_le (by omega)]
  obtain ⟨a1, a2, a3, a4⟩ := key hp h0 hx.1 o1
  obtain ⟨b1, b2, b3, b4⟩ := key (PI.swap hp) h1 hx.2 o0
  have hend : ∀ {r1 : Rdr} {F' : Edd}, F'.r = (rdF r1 100).2 → F'.r.sto.known = true → F'.r.sto.fin = F'.r.sto.next → (r1.sto.off ≤ r1.sto.next ∧ r1.sto.next ≤ r1.sto.off + 16) → ((rdF r1 100).1.2.1 : Bool) = true := by
    intro r1 F' e k1 k2 hb
    obtain ⟨n1, n2, n3, n4, n5, n6, n7⟩ := read_num r1 hb
    rw [e] at k1 k2
    exact n7.2 ⟨n4 ▸ k1, by rw [n5, n1] at k2; exact k2⟩
  have hb : ∀ {a b u v : Int} {E F : Edd} {dE dF rE rF : List Int} {mE mF : List Msg}, PI a b u v E F dE dF rE rF mE mF → u ≤ 16 → ∀ {s : Seg} {p : Prop} [Decidable p], (p → SegOk F.w dF s) → (if p then (rcvF E.r s.1 s.2.1 s.2.2).2 else E.r).sto.off ≤ (if p then (rcvF E.r s.1 s.2.1 s.2.2).2 else E.r).sto.next ∧ (if p then (rcvF E.r s.1 s.2.1 s.2.2).2 else E.r).sto.next ≤ (if p then (rcvF E.r s.1 s.2.1 s.2.2).2 else E.r).sto.off + 16 := by
    intro a b u v E F dE dF rE rF mE mF h hu s p _ hs
    have hw := h.ea.rw
    split
    · rename_i hp
      obtain ⟨_, g2, _⟩ := h.fe.put (hs hp)
      have n3 := (put_num h.fe (hs hp)).2.2.1
      have k1 := g2.st.off; have k2 := g2.st.nxt
      exact ⟨k1.2, by omega⟩
    · have k1 := h.fe.st.off; have k2 := h.fe.st.nxt
      exact ⟨k1.2, by omega⟩
  have ht := h.pp.tick 9
  have sg : ∀ {E F : Edd} {d r : List Int}, Dn E.w F.r d r → Jd E → (snt E = true → SegOk (etkF E 9).2.w d (sgm E)) := by
    intro E F d r hd hJ hs
    have hst : E.st = 2 := by
      unfold snt at hs
      exact of_decide_eq_true (Bool.and_eq_true_iff.1 hs).1
    have hb : (tick E.w 9).1.2.1 = true := by
      unfold snt at hs
      exact (Bool.and_eq_true_iff.1 hs).2
    rw [etk_jd hJ]
    show SegOk (wtk E) d (sgm E)
    unfold wtk
    rw [if_pos hst]
    exact (hd.tick 9).2.2 hb
  have e0 : (ptickF S 9).2.e0.r = S.e0.r := by show (etkF S.e0 9).2.r = _; rw [etk_jd hj.1]
  have e1 : (ptickF S 9).2.e1.r = S.e1.r := by show (etkF S.e1 9).2.r = _; rw [etk_jd hj.2]
  have x0 := hb (E := (ptickF S 9).2.e0) ht h.uv.1 (s := sgm S.e1) (p := snt S.e1 = true) (sg h.pp.fe hj.2)
  have x1 := hb (E := (ptickF S 9).2.e1) (PI.swap ht) h.uv.2 (s := sgm S.e0) (p := snt S.e0 = true) (sg h.pp.ef hj.1)
  rw [e0] at x0
  rw [e1] at x1
  have y1 := hend q1.r a3 a4 x1
  have y0 := hend q2.r b3 b4 x0
  exact ⟨q3 h0 (q2.en y0), q4 h1 (q1.en y1), q5 y0, q6 y1, b1, a1, a2, b2⟩
theorem calN_add (n m : Nat) (S : Pr) : calN (m + n) S = calN m (calN n S) := by
  induction m with
  | zero => rw [Nat.zero_add]; rfl
  | succ m ih => rw [show m + 1 + n = (m + n) + 1 by omega]; show calR (calN (m + n) S) = calR (calN m (calN n S)); rw [ih]
theorem complete (h : PP u v S) (hu : u ≤ 16 ∧ v ≤ 16) (hq : QX true S) (hw : WT S ≤ 396) (hn : ¬ (S.e0.st = 0 ∧ S.e1.st = 0)) : CF (calN 400 S) := by
  have h1 := RS.first h hu hq hw hn
  have h2 := h1.joined
  have h3 := h1.iter 7
  have hc : ∀ (n : Nat) (T : Pr), calN (n + 1) T = calR (calN n T) := fun _ _ => rfl
  have hm : ∀ n m : Nat, m = (n + 1) + (7 + 1) → calN m S = calR (calN n (calN 7 (calR S))) := fun n m q => by
    rw [q]; exact (calN_add (7 + 1) (n + 1) S).trans ((hc n _).trans (congrArg (fun T => calR (calN n T)) (calN_add 1 7 S)))
  have fin : ∀ n : Nat, 301 ≤ n + 1 → CF (calR (calN n (calN 7 (calR S)))) := fun n q => (h3.iter n).last (Jb.iter h3 h2 n) (h3.done h2 (n := n + 1) q).1 (h3.done h2 (n := n + 1) q).2
  rw [hm 391 400 (by omega)]
  exact fin 391 (by omega)
/-! ### the events before -/
abbrev Nz (S : Pr) : Prop := ¬ (S.e0.st = 0 ∧ S.e1.st = 0)
theorem erd_z (E : Edd) (m : Int) (h : (erdF E m).2.st = 0) : E.st = 0 := by
  revert h
  unfold erdF erdN erdS
  (repeat' split) <;> first | exact id | exact fun q => absurd (show (4 : Int) = 0 from q) (by decide)
theorem Nz.arr (h : PP u v S) (hn : Nz S) (i k : Int) (keep : Bool) : Nz (paF S i k keep).2 := by
  unfold paF
  split
  · unfold paF0
    split
    · exact hn
    · rename_i h0
      have h1 := (PI.ans h (atM_mem (k := k) h0)).2.1
      split <;> exact fun q => by have : (ercF S.e0 (atM S.f0 k)).2.st = 0 := q.1; omega
  · unfold paF1
    split
    · exact hn
    · rename_i h0
      have h1 := (PI.ans (PI.swap h) (atM_mem (k := k) h0)).2.1
      split <;> exact fun q => by have : (ercF S.e1 (atM S.f1 k)).2.st = 0 := q.2; omega
theorem Nz.tick (hn : Nz S) (m : Int) : Nz (ptickF S m).2 := fun q => hn ⟨(etk_st S.e0 m).symm.trans q.1, (etk_st S.e1 m).symm.trans q.2⟩
theorem Nz.rd (hn : Nz S) (i m : Int) : Nz (prF S i m).2 := by
  unfold prF prF0 prF1
  (repeat' split) <;> exact fun q => hn ⟨by first | exact erd_z _ _ q.1 | exact q.1, by first | exact erd_z _ _ q.2 | exact q.2⟩
theorem ewr_st (E : Edd) (l : List Int) : (ewrF E l).2.st = E.st := by unfold ewrF; split <;> rfl
theorem Nz.wr (hn : Nz S) (i : Int) (l : List Int) : Nz (pwF S i l).2 := by
  unfold pwF pwF0 pwF1
  (repeat' split) <;> exact fun q => hn ⟨by first | exact (ewr_st _ _).symm.trans q.1 | exact q.1, by first | exact (ewr_st _ _).symm.trans q.2 | exact q.2⟩
theorem Nz.evt (h : PP u v S) (hn : Nz S) (e : Int) : Nz (evtF S e).2 := by
  unfold evtF ev1
  split; · exact hn.wr _ _
  split; · exact hn.wr _ _
  split; · exact hn.rd _ _
  split; · exact hn.arr h _ _ _
  split
  · unfold losF
    (repeat' split) <;> exact hn
  · exact Nz.arr ((h.tick _).arr _ _ _) (Nz.arr (h.tick _) (hn.tick _) _ _ _) _ _ _
theorem Nz.new (w k : Int) : Nz (conP w (1 + k % 3)) := by
  have key : ∀ (i z : Int) (p : Prop) [Decidable p], (cnE i z p).st = if p then 1 else 0 := fun i z p _ => by
    unfold cnE
    by_cases h : p
    · rw [if_pos h, if_pos h] <;> rfl
    · rw [if_neg h, if_neg h] <;> rfl
  rintro ⟨h0, h1⟩
  have h0 : (cnE 10 (1 + w % 16) ((1 + k % 3) % 2 = 1)).st = 0 := h0
  have h1 : (cnE 20 (1 + w / 16 % 16) ((1 + k % 3) / 2 % 2 = 1)).st = 0 := h1
  rw [key] at h0 h1
  split at h0
  · exact absurd h0 (by decide)
  · split at h1
    · exact absurd h1 (by decide)
    · omega
/-- Both ends are closed. -/
def clP (S : Pr) : Pr := { S with e0 := (eclF S.e0).2, e1 := (eclF S.e1).2 }
theorem clP_pp (h : PP u v S) : PP u v (clP S) := (PI.swap (PI.close (PI.swap (PI.close h))))
theorem ecl_st (E : Edd) : (eclF E).2.st = E.st := by unfold eclF; split <;> rfl
theorem clP_nz (h : Nz S) : Nz (clP S) := fun q => h ⟨(ecl_st _).symm.trans q.1, (ecl_st _).symm.trans q.2⟩
theorem ecl_ok2 {a b u : Int} {E : Edd} (h : EI a b u E) (hx : Wx false E.w) : ((eclF E).1.1 : Int) = 0 ∧ Wx true (eclF E).2.w := by
  have hs := h.st
  unfold eclF
  rw [if_neg (by omega)]
  refine ⟨?_, hx.close⟩
  show ((closeF E.w).1.1 : Int) = 0
  unfold closeF
  rw [if_neg (by rw [hx.cl]; exact Bool.false_ne_true)]
theorem clP_qx (h : PP u v S) (hq : QX false S) : QX true (clP S) := ⟨(ecl_ok2 h.ea hq.1).2, (ecl_ok2 h.eb hq.2).2⟩
theorem clP_good {n k : Nat} (h : GoodP S n k) : GoodP (clP S) n k := ⟨h.e0.cl, h.e1.cl, h.m0, h.m1, h.fl, h.r0, h.r1⟩
end Go.Proofs.Ytldabjgegpmmiaa
