/-
  Layer 47: SessionCross, plain.
-/
import Derived.Test.YtldabjgegpmmiaaLve
namespace Go.Proofs.Ytldabjgegpmmiaa
set_option linter.all false
set_option linter.unusedVariables false
set_option linter.unusedSimpArgs false
set_option linter.unusedSectionVars false
open Go.RowKit Go.Sx
variable {a b u v : Int} {E F : Edd} {dE dF rE rF : List Int} {mE mF : List Msg} {S : Pr} {c : Bool}
/-- While messages only arrive: an end that is not joined has a message on the way to it; nothing was written; there is room. -/
structure Xe (E : Edd) (mE : List Msg) : Prop where
  jw : Jd E ∨ ∃ m ∈ mE, m.1 = 1 ∨ ¬ E.st = 0
  rm : 1 ≤ E.w.room
  nz : ¬ E.st = 0
theorem ackM_room (W : Wri) (o r : Int) (d : Bool) (h : 1 ≤ W.room) (ho : o ≤ W.base) : 1 ≤ (ackM W o r d).2.room := by
  unfold ackM
  split; · exact h
  split
  · show 1 ≤ max W.room r; omega
  · omega
theorem Xe.here (h : PI a b u v E F [] dF rE rF mE mF) (hx : Xe E mE) {m : Msg} (hm : m ∈ mE) (l : List Msg) : Xe (ercF E m).2 l := by
  refine ⟨.inl (PI.ans h hm).2.1, ?_, by have := (PI.ans h hm).2.1; omega⟩
  rcases erc_w E m with e | ⟨h4, e⟩
  · rw [e]; exact hx.rm
  · obtain ⟨k1, k2⟩ := h.me m hm
    have ha := (((k2.resolve_left (by omega)).2.resolve_left (by omega)).resolve_left (by omega)).2
    have hd := h.ef
    have := hd.ok.top; have := hd.ok.next; have := hd.tk; have := ha.lo; have := hd.st.nxt; have := hd.ok.base
    have hl : ([] : List Int).length = 0 := rfl
    rw [e, (hd.ack ha).2.2.2]
    exact ackM_room _ _ _ _ hx.rm (by omega)
theorem Xe.grow (hx : Xe E mE) (l : List Msg) : Xe E (mE ++ l) := ⟨hx.jw.imp_right fun ⟨m, hm, q⟩ => ⟨m, List.mem_append_left _ hm, q⟩, hx.rm, hx.nz⟩
structure Xp (u v : Int) (S : Pr) : Prop where
  pp : PP u v S
  qx : QX false S
  x0 : Xe S.e0 S.f0
  x1 : Xe S.e1 S.f1
  w0 : S.w0 = []
  w1 : S.w1 = []
  r0 : S.r0 = []
  r1 : S.r1 = []
theorem Xp.arr (h : Xp u v S) (i k : Int) (keep : Bool) : Xp u v (paF S i k keep).2 := by
  have hp := h.pp.arr i k keep
  have hq := h.qx.arr h.pp i k keep
  have h0 := h.w0; have h1 := h.w1; have hr0 := h.r0; have hr1 := h.r1
  have pp : PI 10 20 u v S.e0 S.e1 S.w0 S.w1 S.r0 S.r1 S.f0 S.f1 := h.pp
  have pa : PI 10 20 u v S.e0 S.e1 [] S.w1 S.r0 S.r1 S.f0 S.f1 := h0 ▸ pp
  have pb : PI 20 10 v u S.e1 S.e0 [] S.w0 S.r1 S.r0 S.f1 S.f0 := h1 ▸ (PI.swap pp)
  revert hp hq
  unfold paF
  split
  · unfold paF0
    split
    · exact fun _ _ => h
    · rename_i hn
      have hm := atM_mem (k := k) hn
      split
      · exact fun hp hq => ⟨hp, hq, Xe.here pa h.x0 hm _, h.x1.grow _, h0, h1, hr0, hr1⟩
      · exact fun hp hq => ⟨hp, hq, Xe.here pa h.x0 hm _, h.x1.grow _, h0, h1, hr0, hr1⟩
  · unfold paF1
    split
    · exact fun _ _ => h
    · rename_i hn
      have hm := atM_mem (k := k) hn
      split
      · exact fun hp hq => ⟨hp, hq, h.x0.grow _, Xe.here pb h.x1 hm _, h0, h1, hr0, hr1⟩
      · exact fun hp hq => ⟨hp, hq, h.x0.grow _, Xe.here pb h.x1 hm _, h0, h1, hr0, hr1⟩
/-- Both ends connect, one tick. -/
def crP (w : Int) : Pr := (ptickF (conP w 3) 1).2
theorem crP_x (w : Int) : Xp (1 + w % 16) (1 + w / 16 % 16) (crP w) := by
  have hE : ∀ i z : Int, cnE i z (True) = (connF (newEd i z 3)).2 := fun i z => if_pos trivial
  have hc : ∀ (i z : Int) (p : Prop) [Decidable p], p → cnE i z p = { newEd i z 3 with st := 1 } := fun i z p _ h => by
    unfold cnE; rw [if_pos h]; rfl
  have e0 : (conP w 3).e0 = { newEd 10 (1 + w % 16) 3 with st := 1 } := hc 10 (1 + w % 16) ((3 : Int) % 2 = 1) (by decide)
  have e1 : (conP w 3).e1 = { newEd 20 (1 + w / 16 % 16) 3 with st := 1 } := hc 20 (1 + w / 16 % 16) ((3 : Int) / 2 % 2 = 1) (by decide)
  have t : ∀ i z : Int, etkF { newEd i z 3 with st := 1 } 1 = (([(1, i, 0, (0, [], false), 0, 0, false)], ()), { newEd i z 3 with st := 1, wait := 2 }) := fun i z => by
    unfold etkF
    rw [if_pos rfl, if_pos rfl]
    rfl
  have pp := (PP.new w 3).tick 1
  have qq := (QX.new w 3).tick 1
  refine ⟨pp, qq, ⟨.inr ⟨(1, 20, 0, (0, [], false), 0, 0, false), ?_, .inl rfl⟩, ?_, fun q => ?_⟩, ⟨.inr ⟨(1, 10, 0, (0, [], false), 0, 0, false), ?_, .inl rfl⟩, ?_, fun q => ?_⟩, rfl, rfl, rfl, rfl⟩
  · show _ ∈ [] ++ (etkF (conP w 3).e1 1).1.1
    rw [e1, t]; exact List.mem_singleton.2 rfl
  · show 1 ≤ (etkF (conP w 3).e0 1).2.w.room
    rw [e0, t]; show 1 ≤ 1 + w % 16; omega
  · have q : (etkF (conP w 3).e0 1).2.st = 0 := q
    rw [e0, t] at q; exact absurd (show (1 : Int) = 0 from q) (by decide)
  · show _ ∈ [] ++ (etkF (conP w 3).e0 1).1.1
    rw [e0, t]; exact List.mem_singleton.2 rfl
  · show 1 ≤ (etkF (conP w 3).e1 1).2.w.room
    rw [e1, t]; show 1 ≤ 1 + w / 16 % 16; omega
  · have q : (etkF (conP w 3).e1 1).2.st = 0 := q
    rw [e1, t] at q; exact absurd (show (1 : Int) = 0 from q) (by decide)
theorem crP_wt (w : Int) : WT (crP w) ≤ 4 := Nat.le_trans (tick_wt _ _) (Nat.le_refl 4)
/-! ### one byte is written at each end -/
/-- Either the writer has sent nothing yet, or its byte is on the way, or has arrived. -/
def Hy (E F : Edd) (mF : List Msg) : Prop := (E.w.next = 0 ∧ E.w.base = 0 ∧ 1 ≤ E.w.room ∧ E.w.taken = 1) ∨ (∃ m ∈ mF, m.1 = 3 ∧ m.2.2.2.1.1 = 0 ∧ 1 ≤ m.2.2.2.1.2.1.length) ∨ 1 ≤ F.r.sto.next
def Hz (F : Edd) (mF : List Msg) : Prop := (∃ m ∈ mF, m.1 = 3 ∧ m.2.2.2.1.1 = 0 ∧ 1 ≤ m.2.2.2.1.2.1.length) ∨ 1 ≤ F.r.sto.next
/-- A message arrives at the writer. -/
theorem Hy.at (h : PI a b u v E F dE dF rE rF mE mF) (hy : Hy E F mF) {m : Msg} (hm : m ∈ mE) (l : List Msg) : Hy (ercF E m).2 F (mF ++ l) := by
  rcases hy with ⟨h1, h2, h3, h4⟩ | ⟨x, hx, q⟩ | q
  · rcases erc_w E m with e | ⟨k4, e⟩
    · exact .inl (by rw [e]; exact ⟨h1, h2, h3, h4⟩)
    · obtain ⟨k1, k2⟩ := h.me m hm
      have ha := (((k2.resolve_left (by omega)).2.resolve_left (by omega)).resolve_left (by omega)).2
      by_cases ho : m.2.2.2.2.1 = 0
      · left
        rw [e, (h.ef.ack ha).2.2.2]
        unfold ackM
        rw [if_neg (by omega), if_pos (by omega)]
        exact ⟨h1, h2, by show 1 ≤ max E.w.room _; omega, h4⟩
      · exact .inr (.inr (by have := ha.lo; omega))
  · exact .inr (.inl ⟨x, List.mem_append_left _ hx, q⟩)
  · exact .inr (.inr q)
theorem erc_dat_r (h : PI a b u v E F dE dF rE rF mE mF) {m : Msg} (hm : m ∈ mE) (h3 : m.1 = 3) : (ercF E m).2.r = (rcvF E.r m.2.2.2.1.1 m.2.2.2.1.2.1 m.2.2.2.1.2.2).2 := by
  obtain ⟨k1, k2⟩ := h.me m hm
  have hea := h.ea
  have h0 : ¬ E.st = 0 := fun q => by have := (h.ze q).2.2 m hm; omega
  obtain ⟨s, hs, e⟩ := erc2_tak hea k1 (by omega) h0
  obtain ⟨p1, _⟩ := h.fe.put (((k2.resolve_left (by omega)).2.resolve_left (by omega)).resolve_right (by omega)).2
  rw [erc_go hea k1 (by omega) (by have := hea.ab; omega), if_neg (by omega), if_pos (k2.resolve_left (by omega)).1, e]
  unfold takE
  rw [if_pos h3, if_pos p1]
/-- The head arrives at the reader. -/
theorem Hz.rcv (h : PI a b u v E F dE dF rE rF mE mF) {m : Msg} {l : List Msg} (hl : mF = m :: l) (hz : Hz F mF) : Hz (ercF F m).2 l := by
  have hm : m ∈ mF := by rw [hl]; exact List.mem_cons_self ..
  have hr : (ercF F m).2.r = F.r ∨ m.1 = 3 ∧ (ercF F m).2.r = (rcvF F.r m.2.2.2.1.1 m.2.2.2.1.2.1 m.2.2.2.1.2.2).2 := by
    show (fun y : TLI × Edd => y.2.r = F.r ∨ m.1 = 3 ∧ y.2.r = (rcvF F.r m.2.2.2.1.1 m.2.2.2.1.2.1 m.2.2.2.1.2.2).2) (ercF F m)
    unfold ercF erc1 refuL refu erc2 takE setA noM
    repeat' (refine ite_Q (P := fun y : TLI × Edd => y.2.r = F.r ∨ m.1 = 3 ∧ y.2.r = (rcvF F.r m.2.2.2.1.1 m.2.2.2.1.2.1 m.2.2.2.1.2.2).2) (fun _ => ?_) (fun _ => ?_))
    all_goals first | exact .inl rfl | exact .inr ⟨by assumption, rfl⟩
  have mono : F.r.sto.next ≤ (ercF F m).2.r.sto.next := by
    rcases hr with e | ⟨k3, e⟩
    · rw [e]; exact Int.le_refl _
    · obtain ⟨k1, k2⟩ := h.mf m hm
      rw [e]
      exact (h.ef.put (((k2.resolve_left (by omega)).2.resolve_left (by omega)).resolve_right (by omega)).2).2.2.nx
  rcases hz with ⟨x, hx, q1, q2, q3⟩ | q
  · rw [hl] at hx
    rcases List.mem_cons.1 hx with rfl | hx
    · right
      obtain ⟨k1, k2⟩ := h.mf x hm
      have hs := (((k2.resolve_left (by omega)).2.resolve_left (by omega)).resolve_right (by omega)).2
      have hst := h.ef.st.off; have hwin := h.ef.st.win
      have hd := erc_dat_r (PI.swap h) hm q1
      rw [hd]
      rcases (put_num h.ef hs).1 (by omega) with g | g
      · show (1 : Int) ≤ (rcvF F.r x.2.2.2.1.1 x.2.2.2.1.2.1 x.2.2.2.1.2.2).2.sto.next; omega
      · show (1 : Int) ≤ (rcvF F.r x.2.2.2.1.1 x.2.2.2.1.2.1 x.2.2.2.1.2.2).2.sto.next; omega
    · exact .inl ⟨x, hx, q1, q2, q3⟩
  · exact .inr (Int.le_trans q mono)
/-- Both directions; j: the ends are joined. -/
structure Yp (S : Pr) : Prop where
  y0 : Hy S.e0 S.e1 S.f1
  y1 : Hy S.e1 S.e0 S.f0
structure Zp (S : Pr) : Prop where
  z0 : Hz S.e1 S.f1
  z1 : Hz S.e0 S.f0
theorem Hz.grow {F : Edd} {mF : List Msg} (h : Hz F mF) (l : List Msg) : Hz F (mF ++ l) := h.imp_left fun ⟨m, hm, q⟩ => ⟨m, List.mem_append_left _ hm, q⟩
theorem Hy.rcv (h : PI a b u v E F dE dF rE rF mE mF) {m : Msg} {l : List Msg} (hl : mF = m :: l) (hy : Hy E F mF) : Hy E (ercF F m).2 l := by
  rcases hy with q | q
  · exact .inl q
  · exact .inr (Hz.rcv h hl q)
theorem Zp_A (S : Pr) (h : PP u v S) (z : Zp S) : Zp (paF S 0 0 false).2 := by
  cases hf : S.f0 with
  | nil => rw [arrA_nil hf]; exact z
  | cons m l => rw [arrA_cons hf]; exact ⟨z.z0.grow _, Hz.rcv (PI.swap h) hf z.z1⟩
theorem Zp_B (S : Pr) (h : PP u v S) (z : Zp S) : Zp (paF S 1 0 false).2 := by
  cases hf : S.f1 with
  | nil => rw [arrB_nil hf]; exact z
  | cons m l => rw [arrB_cons hf]; exact ⟨Hz.rcv h hf z.z0, z.z1.grow _⟩
theorem Yp_A (S : Pr) (h : PP u v S) (z : Yp S) : Yp (paF S 0 0 false).2 := by
  cases hf : S.f0 with
  | nil => rw [arrA_nil hf]; exact z
  | cons m l => rw [arrA_cons hf]; exact ⟨Hy.at h z.y0 (by rw [hf]; exact List.mem_cons_self ..) _, Hy.rcv (PI.swap h) hf z.y1⟩
theorem Yp_B (S : Pr) (h : PP u v S) (z : Yp S) : Yp (paF S 1 0 false).2 := by
  cases hf : S.f1 with
  | nil => rw [arrB_nil hf]; exact z
  | cons m l => rw [arrB_cons hf]; exact ⟨Hy.rcv h hf z.y0, Hy.at (PI.swap h) z.y1 (by rw [hf]; exact List.mem_cons_self ..) _⟩
/-- A tick: a joined end sends its byte. -/
theorem Hy.tk {r : List Int} {d : List Int} (hd : Dn E.w F.r d r) (hq : Wx false E.w) (hy : Hy E F mF) (hst : E.st = 2) (F' : Edd) (hF : F'.r = F.r) : Hz F' (mF ++ (etkF E 9).1.1) := by
  rcases hy with ⟨h1, h2, h3, h4⟩ | ⟨x, hx, q⟩ | q
  · left
    have ht : tick E.w 9 = ((segW E.w (tickN E.w 9) false, true, ()), sendW E.w (tickN E.w 9) false) := by
      unfold Go.Proofs.Ytldabjgegpmmiaa.tick
      rw [if_neg (by decide), if_pos (by omega), if_pos (by omega), if_neg (by rw [hq.cl]; exact Bool.false_ne_true)]
    have hs : snt E = true := by unfold snt; rw [decide_eq_true hst, ht]; rfl
    refine ⟨dataM E (sgm E), List.mem_append_right _ ?_, rfl, ?_, ?_⟩
    · rw [etk_jd (.inl hst), if_pos hs]; exact List.mem_append_left _ (List.mem_singleton.2 rfl)
    · show ((tick E.w 9).1.1.1 : Int) = 0
      rw [ht]; exact h1
    · show 1 ≤ ((tick E.w 9).1.1.2.1 : List Int).length
      rw [ht]
      show 1 ≤ ((E.w.data.drop (E.w.next - E.w.base).toNat).take (tickN E.w 9).toNat).length
      have := hd.ok.data
      rw [List.length_take, List.length_drop]
      dsimp only [tickN]
      omega
  · exact .inl ⟨x, List.mem_append_left _ hx, q⟩
  · exact .inr (by rw [hF]; exact q)
theorem etk_r (E : Edd) (m : Int) : (etkF E m).2.r = E.r := by unfold etkF; (repeat' split) <;> rfl
theorem etk_w1 {E : Edd} (m : Int) (h1 : ¬ E.st = 2) : (etkF E m).2.w = E.w := by
  unfold etkF
  (repeat' split) <;> first | rfl | contradiction
theorem Hy.tk' {r : List Int} {d : List Int} (hd : Dn E.w F.r d r) (hq : Wx false E.w) (hy : Hy E F mF) (hst : E.st = 1 ∨ E.st = 2) (F' : Edd) (hF : F'.r = F.r) : Hy (etkF E 9).2 F' (mF ++ (etkF E 9).1.1) := by
  rcases hst with hst | hst
  · rcases hy with q | ⟨x, hx, q⟩ | q
    · exact .inl (by rw [etk_w1 9 (by omega)]; exact q)
    · exact .inr (.inl ⟨x, List.mem_append_left _ hx, q⟩)
    · exact .inr (.inr (by rw [hF]; exact q))
  · exact .inr (hy.tk hd hq hst F' hF)
theorem Hz.nil {F : Edd} (h : Hz F []) : 1 ≤ F.r.sto.next := h.resolve_left fun ⟨_, hm, _⟩ => by cases hm
/-- A state that waits for calm. -/
structure Cw (u v : Int) (S : Pr) : Prop where
  pp : PP u v S
  uv : u ≤ 16 ∧ v ≤ 16
  qx : QX false S
  wt : WT S ≤ 396
  l0 : S.w0 = [7]
  l1 : S.w1 = [8]
theorem st_not4 {r d : List Int} (hd : Dn E.w F.r d r) (he : EI a b u E) (hq : Wx false E.w) : ¬ E.st = 4 := fun h => by
  have h1 := (he.fin h).1
  have h2 := (hd.fin (hd.fw h1).1).1
  rw [hq.cl] at h2; cases h2
theorem rd2_next (S : Pr) (h : PP u v S) (hu : u ≤ 16 ∧ v ≤ 16) : (rd2 S).e0.r.sto.next = S.e0.r.sto.next ∧ (rd2 S).e1.r.sto.next = S.e1.r.sto.next := by
  obtain ⟨d1, d2, _⟩ := rd2_eq S
  have key : ∀ {a b u v : Int} {E F : Edd} {dE dF rE rF : List Int} {mE mF : List Msg}, PI a b u v E F dE dF rE rF mE mF → u ≤ 16 → (erdF E 100).2.r.sto.next = E.r.sto.next := by
    intro a b u v E F dE dF rE rF mE mF h hu
    have h1 := h.fe.st.off; have h2 := h.fe.st.nxt; have h3 := h.ea.rw
    rw [erd_r, (read_num E.r ⟨h1.2, by omega⟩).1]
  rw [d1, d2]
  exact ⟨key h hu.1, key (PI.swap h) hu.2⟩
/-- The first round. -/
theorem Cw.one (h : Cw u v S) (hn : Jd S.e0 ∨ S.e0.st = 1) (hn1 : Jd S.e1 ∨ S.e1.st = 1) (j0 : Jw S.e0 S.f0 S.f1) (j1 : Jw S.e1 S.f1 S.f0) (y : Yp S) : Jb (calR S) ∧ Yp (calR S) := by
  have s0 : S.e0.st = 1 ∨ S.e0.st = 2 := by have := st_not4 h.pp.ef h.pp.ea h.qx.1; unfold Jd at hn; omega
  have s1 : S.e1.st = 1 ∨ S.e1.st = 2 := by have := st_not4 h.pp.fe h.pp.eb h.qx.2; unfold Jd at hn1; omega
  have ht := h.pp.tick 9
  have yt : Yp (ptickF S 9).2 := ⟨Hy.tk' h.pp.ef h.qx.1 y.y0 s0 _ (etk_r _ _), Hy.tk' h.pp.fe h.qx.2 y.y1 s1 _ (etk_r _ _)⟩
  have jt : ∀ {E : Edd} {mE mF l k : List Msg}, Jw E mE mF → Jw (etkF E 9).2 (mE ++ l) (mF ++ k) := by
    intro E mE mF l k hj
    have e := etk_st E 9
    rcases hj with q | ⟨x, hx, q⟩ | ⟨q, x, hx, q'⟩
    · exact .inl (by unfold Jd; rw [e]; exact q)
    · exact .inr (.inl ⟨x, List.mem_append_left _ hx, by rw [e]; exact q⟩)
    · exact .inr (.inr ⟨by rw [e]; exact q, x, List.mem_append_left _ hx, q'⟩)
  obtain ⟨pT, ⟨k1, k2⟩, k3⟩ := calI_ind (P := fun T => (Jw T.e0 T.f0 T.f1 ∧ Jw T.e1 T.f1 T.f0) ∧ Yp T) (fun T hT hp => ⟨⟨(Jw_A T hT).1 hp.1.1, (Jw_A T hT).2 hp.1.2⟩, Yp_A T hT hp.2⟩) (fun T hT hp => ⟨⟨(Jw_B T hT).1 hp.1.1, (Jw_B T hT).2 hp.1.2⟩, Yp_B T hT hp.2⟩) 400 ht ⟨⟨jt j0, jt j1⟩, yt⟩
  obtain ⟨e1, e2⟩ := calI_empty 400 ht (Nat.le_trans (tick_wt S 9) (by have := h.wt; omega))
  obtain ⟨r1, r2, r3, r4, _⟩ := rd2_eq (calI 400 (ptickF S 9).2)
  obtain ⟨n0, n1⟩ := rd2_next _ pT h.uv
  rw [e1, e2] at k1 k2
  have hy : ∀ {E F E' F' : Edd} {l : List Msg}, E'.w = E.w → F'.r.sto.next = F.r.sto.next → Hy E F l → Hy E' F' l := by
    intro E F E' F' l q1 q2 q
    rcases q with q | q | q
    · exact .inl (by rw [q1]; exact q)
    · exact .inr (.inl q)
    · exact .inr (.inr (by rw [q2]; exact q))
  unfold calR
  refine ⟨⟨by rw [r1]; exact (erd_keep _ _).1 k1.nil, by rw [r2]; exact (erd_keep _ _).1 k2.nil⟩, ⟨?_, ?_⟩⟩
  · rw [r4]; exact hy (by rw [r1, erd_w]) n1 k3.y0
  · rw [r3]; exact hy (by rw [r2, erd_w]) n0 k3.y1
theorem Cw.next (h : Cw u v S) : Cw u v (calR S) := by
  obtain ⟨_, _, _, _, d5, d6, _⟩ := rd2_eq (calI 400 (ptickF S 9).2)
  obtain ⟨k1, k2⟩ := calR_empty h.pp h.wt
  have hw := calI_ind (P := fun T => T.w0 = S.w0 ∧ T.w1 = S.w1) (fun T hT hp => by
    cases hf : T.f0 with
    | nil => rw [arrA_nil hf]; exact hp
    | cons m l => rw [arrA_cons hf]; exact hp) (fun T hT hp => by
    cases hf : T.f1 with
    | nil => rw [arrB_nil hf]; exact hp
    | cons m l => rw [arrB_cons hf]; exact hp) 400 (h.pp.tick 9) ⟨rfl, rfl⟩
  exact ⟨h.pp.calR, h.uv, QX.calR h.pp h.qx, by unfold WT; rw [k1, k2]; decide, by unfold calR; rw [d5, hw.2.1]; exact h.l0, by unfold calR; rw [d6, hw.2.2]; exact h.l1⟩
/-- A later round. -/
theorem Cw.two (h : Cw u v S) (hj : Jb S) (y : Yp S) : 1 ≤ (calR S).e0.r.sto.next ∧ 1 ≤ (calR S).e1.r.sto.next := by
  have s0 : S.e0.st = 2 := hj.1.resolve_right (st_not4 h.pp.ef h.pp.ea h.qx.1)
  have s1 : S.e1.st = 2 := hj.2.resolve_right (st_not4 h.pp.fe h.pp.eb h.qx.2)
  have ht := h.pp.tick 9
  have zt : Zp (ptickF S 9).2 := ⟨Hy.tk h.pp.ef h.qx.1 y.y0 s0 _ (etk_r _ _), Hy.tk h.pp.fe h.qx.2 y.y1 s1 _ (etk_r _ _)⟩
  obtain ⟨pT, k3⟩ := calI_ind (P := Zp) (fun T hT hp => Zp_A T hT hp) (fun T hT hp => Zp_B T hT hp) 400 ht zt
  obtain ⟨e1, e2⟩ := calI_empty 400 ht (Nat.le_trans (tick_wt S 9) (by have := h.wt; omega))
  obtain ⟨n0, n1⟩ := rd2_next _ pT h.uv
  have z0 := k3.z0; have z1 := k3.z1
  rw [e2] at z0
  rw [e1] at z1
  unfold calR
  rw [n0, n1]
  exact ⟨z1.nil, z0.nil⟩
theorem Cw.later (h : Cw u v S) (hj : Jb S) (hq : 1 ≤ S.e0.r.sto.next ∧ 1 ≤ S.e1.r.sto.next) : Jb (calR S) ∧ 1 ≤ (calR S).e0.r.sto.next ∧ 1 ≤ (calR S).e1.r.sto.next :=
  ⟨⟨(calR_jd h.pp).1 hj.1, (calR_jd h.pp).2 hj.2⟩, h.two hj ⟨.inr (.inr hq.2), .inr (.inr hq.1)⟩⟩
theorem Cw.all (h : Cw u v S) (hj : Jb S) (hq : 1 ≤ S.e0.r.sto.next ∧ 1 ≤ S.e1.r.sto.next) : ∀ n : Nat, Cw u v (calN n S) ∧ Jb (calN n S) ∧ 1 ≤ (calN n S).e0.r.sto.next ∧ 1 ≤ (calN n S).e1.r.sto.next
  | 0 => ⟨h, hj, hq⟩
  | n + 1 => by
    obtain ⟨k1, k2, k3⟩ := Cw.all h hj hq n
    obtain ⟨q1, q2⟩ := k1.later k2 k3
    exact ⟨k1.next, q1, q2⟩
theorem wr_one (h : PI a b u v E F [] dF rE rF mE mF) (hx : Xe E mE) (hq : Wx false E.w) (x : Int) : ewrF E [x] = ((1, 0, ()), { E with w := { E.w with data := E.w.data ++ [x], taken := 1 } }) := by
  have hd := h.ef.ok; have ht := h.ef.tk; have hs := h.ea.st; have hw := hd.win; have hb := hd.base; have hn := hd.next
  have hl : ([] : List Int).length = 0 := rfl
  have e : wWrite E.w [x] = 1 := by
    unfold wWrite
    rw [List.length_singleton]; omega
  unfold ewrF
  rw [if_neg (by omega)]
  unfold writeF
  rw [if_neg (by rw [hq.cl]; exact Bool.false_ne_true), e, show E.w.taken + 1 = 1 by omega]
  rfl
theorem Hy.new (h : PI a b u v E F [] dF rE rF mE mF) (hx : Xe E mE) (x : Int) (l : List Msg) : Hy { E with w := { E.w with data := E.w.data ++ [x], taken := 1 } } F l := by
  have hd := h.ef.ok; have ht := h.ef.tk; have hb := hd.base; have hn := hd.next
  have hl : ([] : List Int).length = 0 := rfl
  exact .inl ⟨by dsimp only; omega, by dsimp only; omega, hx.rm, rfl⟩
theorem crs_fin (h : Xp u v S) {n k : Nat} (hg : GoodP S n k) (huv : u ≤ 16 ∧ v ≤ 16) (hw : WT S ≤ 396) :
    (calN 12 (pwF (pwF S 0 [7]).2 1 [8]).2).e0.st = 2 ∧ (calN 12 (pwF (pwF S 0 [7]).2 1 [8]).2).e1.st = 2 ∧ (calN 12 (pwF (pwF S 0 [7]).2 1 [8]).2).r0 = [8] ∧ (calN 12 (pwF (pwF S 0 [7]).2 1 [8]).2).r1 = [7] := by
  have b7 : inBytes [7] := fun x hx => by simp at hx; omega
  have b8 : inBytes [8] := fun x hx => by simp at hx; omega
  have pa : PI 10 20 u v S.e0 S.e1 [] S.w1 S.r0 S.r1 S.f0 S.f1 := h.w0 ▸ (show PI 10 20 u v S.e0 S.e1 S.w0 S.w1 S.r0 S.r1 S.f0 S.f1 from h.pp)
  have pb : PI 20 10 v u S.e1 S.e0 [] S.w0 S.r1 S.r0 S.f1 S.f0 := h.w1 ▸ (PI.swap (show PI 10 20 u v S.e0 S.e1 S.w0 S.w1 S.r0 S.r1 S.f0 S.f1 from h.pp))
  have o0 := wr_one pa h.x0 h.qx.1 7
  have o1 := wr_one pb h.x1 h.qx.2 8
  have g1 : (pwF S 0 [7]).2 = { S with e0 := { S.e0 with w := { S.e0.w with data := S.e0.w.data ++ [7], taken := 1 } }, w0 := S.w0 ++ [7] } := by
    unfold pwF pwF0
    rw [if_pos rfl, o0]
    rfl
  have g2 : (pwF (pwF S 0 [7]).2 1 [8]).2 = { S with e0 := { S.e0 with w := { S.e0.w with data := S.e0.w.data ++ [7], taken := 1 } }, w0 := S.w0 ++ [7], e1 := { S.e1 with w := { S.e1.w with data := S.e1.w.data ++ [8], taken := 1 } }, w1 := S.w1 ++ [8] } := by
    rw [g1]
    unfold pwF pwF1
    rw [if_neg (by decide), o1]
    rfl
  have p1 : PP u v (pwF (pwF S 0 [7]).2 1 [8]).2 := (h.pp.wr 0 hg b7).wr 1 (hg.wr 0 b7).1 b8
  have q1 : QX false (pwF (pwF S 0 [7]).2 1 [8]).2 := QX.wr (h.pp.wr 0 hg b7) (QX.wr h.pp h.qx 0 _) 1 _
  rw [g2] at p1 q1 ⊢
  have c0 : Cw u v { S with e0 := { S.e0 with w := { S.e0.w with data := S.e0.w.data ++ [7], taken := 1 } }, w0 := S.w0 ++ [7], e1 := { S.e1 with w := { S.e1.w with data := S.e1.w.data ++ [8], taken := 1 } }, w1 := S.w1 ++ [8] } :=
    ⟨p1, huv, q1, hw, by dsimp only; rw [h.w0]; rfl, by dsimp only; rw [h.w1]; rfl⟩
  have s0 := h.pp.ea.st; have s1 := h.pp.eb.st; have z0 := h.x0.nz; have z1 := h.x1.nz
  obtain ⟨j1, y1⟩ := c0.one (by show (S.e0.st = 2 ∨ S.e0.st = 4) ∨ S.e0.st = 1; omega) (by show (S.e1.st = 2 ∨ S.e1.st = 4) ∨ S.e1.st = 1; omega) (h.x0.jw.imp_right .inl) (h.x1.jw.imp_right .inl) ⟨Hy.new pa h.x0 7 _, Hy.new pb h.x1 8 _⟩
  generalize ({ S with e0 := { S.e0 with w := { S.e0.w with data := S.e0.w.data ++ [7], taken := 1 } }, w0 := S.w0 ++ [7], e1 := { S.e1 with w := { S.e1.w with data := S.e1.w.data ++ [8], taken := 1 } }, w1 := S.w1 ++ [8] } : Pr) = W at c0 j1 y1 ⊢
  have c1 := c0.next
  have n2 := c1.two j1 y1
  have j2 : Jb (calR (calR W)) := ⟨(calR_jd c1.pp).1 j1.1, (calR_jd c1.pp).2 j1.2⟩
  have fin : ∀ n : Nat, (calR (calN n (calR (calR W)))).e0.st = 2 ∧ (calR (calN n (calR (calR W)))).e1.st = 2 ∧ (calR (calN n (calR (calR W)))).r0 = [8] ∧ (calR (calN n (calR (calR W)))).r1 = [7] := fun n => by
    obtain ⟨k1, k2, k3⟩ := Cw.all c1.next j2 n2 n
    obtain ⟨k4, k5, k6⟩ := k1.later k2 k3
    have k7 := k1.next
    obtain ⟨f0, f1⟩ := calR_off k1.pp k1.uv.1 k1.uv.2
    refine ⟨k4.1.resolve_right (st_not4 k7.pp.ef k7.pp.ea k7.qx.1), k4.2.resolve_right (st_not4 k7.pp.fe k7.pp.eb k7.qx.2), ?_, ?_⟩
    · have := k7.pp.fe.rd
      rw [this, k7.l1, List.take_of_length_le (by rw [List.length_singleton]; omega)]
    · have := k7.pp.ef.rd
      rw [this, k7.l0, List.take_of_length_le (by rw [List.length_singleton]; omega)]
  have hm : ∀ n m : Nat, m = (n + 1) + 2 → calN m W = calR (calN n (calR (calR W))) := fun n m q => by
    rw [q]; exact (calN_add 2 (n + 1) W)
  rw [hm 9 12 (by omega)]
  exact fin 9
end Go.Proofs.Ytldabjgegpmmiaa
