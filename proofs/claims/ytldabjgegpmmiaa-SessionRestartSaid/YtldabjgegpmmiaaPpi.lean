/-
  Layer 47: two ends and the messages on the way: what stays true (plain).
-/
import Derived.Test.YtldabjgegpmmiaaEvt
import Derived.Test.YtldabjgegpmmiaaCnn
import Derived.Test.YtldabjgegpmmiaaDrn
namespace Go.Proofs.Ytldabjgegpmmiaa
set_option linter.all false
set_option linter.unusedVariables false
set_option linter.unusedSimpArgs false
set_option linter.unusedSectionVars false
open Go.RowKit Go.Sx

/-- An end of the incarnation a, window u, whose peer is of the incarnation b. -/
structure EI (a b u : Int) (E : Edd) : Prop where
  inc : E.inc = a
  st : (E.st = 0 ∨ E.st = 1) ∧ E.peer = 0 ∨ (E.st = 2 ∨ E.st = 4) ∧ E.peer = b
  ab : (1 ≤ a ∧ a < 1099511627776) ∧ 1 ≤ b ∧ b < 1099511627776
  ww : E.w.win = u
  rw : E.r.sto.win = u
  tm : E.tmo = 3 ∧ E.w.tmo = 3 ∧ 0 ≤ E.wait ∧ E.wait ≤ 2
  fin : E.st = 4 → E.w.fin = true ∧ E.ended = true
/-- A message of the end a (writer w, reader r') on the way to the end b (reader r, writer w'). -/
structure MsgOk (a b : Int) (w : Wri) (r : Rdr) (d : List Int) (w' : Wri) (r' : Rdr) (m : Msg) : Prop where
  mine : m.2.1 = a
  kd : m.1 = 1 ∧ m.2.2.1 = 0 ∨ m.2.2.1 = b ∧ (m.1 = 2 ∨ m.1 = 3 ∧ SegOk w d m.2.2.2.1 ∨ m.1 = 4 ∧ AckOk w' r' m.2.2.2.2.1 m.2.2.2.2.2.1 m.2.2.2.2.2.2)
/-- The ends E (incarnation a, window u) and F (b, v); dE, dF were written, rE, rF read; mE, mF are on the way to them. -/
structure PI (a b u v : Int) (E F : Edd) (dE dF rE rF : List Int) (mE mF : List Msg) : Prop where
  ea : EI a b u E
  eb : EI b a v F
  ef : Dn E.w F.r dE rF
  fe : Dn F.w E.r dF rE
  mf : ∀ m ∈ mF, MsgOk a b E.w F.r dE F.w E.r m
  me : ∀ m ∈ mE, MsgOk b a F.w E.r dF E.w F.r m
  ze : E.st = 0 → F.peer = 0 ∧ mF = [] ∧ ∀ m ∈ mE, m.1 = 1
  zf : F.st = 0 → E.peer = 0 ∧ mE = [] ∧ ∀ m ∈ mF, m.1 = 1
variable {a b u v : Int} {E F : Edd} {dE dF rE rF : List Int} {mE mF : List Msg}
theorem PI.swap (h : PI a b u v E F dE dF rE rF mE mF) : PI b a v u F E dF dE rF rE mF mE := ⟨h.eb, h.ea, h.fe, h.ef, h.me, h.mf, h.zf, h.ze⟩
theorem MsgOk.mono {w w1 : Wri} {r r1 : Rdr} {d d1 d' d1' : List Int} {w' w1' : Wri} {r' r1' : Rdr} {m : Msg} (h : MsgOk a b w r d w' r' m) (k : Dle w r d w1 r1 d1) (k' : Dle w' r' d' w1' r1' d1') : MsgOk a b w1 r1 d1 w1' r1' m :=
  ⟨h.mine, h.kd.elim .inl fun ⟨e, q⟩ => .inr ⟨e, q.elim .inl fun q => .inr (q.elim (fun q => .inl ⟨q.1, q.2.mono k⟩) fun q => .inr ⟨q.1, q.2.mono k'⟩)⟩⟩
theorem PI.sub (h : PI a b u v E F dE dF rE rF mE mF) {mE' mF' : List Msg} (h1 : ∀ m ∈ mE', m ∈ mE) (h2 : ∀ m ∈ mF', m ∈ mF) : PI a b u v E F dE dF rE rF mE' mF' :=
  ⟨h.ea, h.eb, h.ef, h.fe, fun m hm => h.mf m (h2 m hm), fun m hm => h.me m (h1 m hm),
    fun hz => ⟨(h.ze hz).1, List.eq_nil_iff_forall_not_mem.2 (fun m hm => by have := h2 m hm; rw [(h.ze hz).2.1] at this; cases this), fun m hm => (h.ze hz).2.2 m (h1 m hm)⟩,
    fun hz => ⟨(h.zf hz).1, List.eq_nil_iff_forall_not_mem.2 (fun m hm => by have := h1 m hm; rw [(h.zf hz).2.1] at this; cases this), fun m hm => (h.zf hz).2.2 m (h2 m hm)⟩⟩
/-- The end E moves on and sends some messages. -/
theorem PI.go (h : PI a b u v E F dE dF rE rF mE mF) {E' : Edd} {d' r' : List Int} {out : List Msg} (ea : EI a b u E') (ef : Dn E'.w F.r d' rF) (fe : Dn F.w E'.r dF r') (l1 : Dle E.w F.r dE E'.w F.r d') (l2 : Dle F.w E.r dF F.w E'.r dF)
    (ho : ∀ m ∈ out, MsgOk a b E'.w F.r d' F.w E'.r m) (hst : E'.st = 0 → E.st = 0 ∧ out = []) (hp : F.st = 0 → E'.peer = 0 ∧ ∀ m ∈ out, m.1 = 1) : PI a b u v E' F d' dF r' rF mE (mF ++ out) :=
  ⟨ea, h.eb, ef, fe, fun m hm => (List.mem_append.1 hm).elim (fun k => (h.mf m k).mono l1 l2) (ho m), fun m hm => (h.me m hm).mono l2 l1,
    fun hz => ⟨(h.ze (hst hz).1).1, by rw [(h.ze (hst hz).1).2.1, (hst hz).2]; rfl, (h.ze (hst hz).1).2.2⟩,
    fun hz => ⟨(hp hz).1, (h.zf hz).2.1, fun m hm => (List.mem_append.1 hm).elim ((h.zf hz).2.2 m) ((hp hz).2 m)⟩⟩
theorem writeF_tmo (W : Wri) (l : List Int) : (writeF W l).2.tmo = W.tmo := by unfold writeF; split <;> rfl
theorem tick_tmo (W : Wri) (m : Int) : (tick W m).2.tmo = W.tmo := by
  have hI : (tickIdle W).2.tmo = W.tmo := by unfold tickIdle; (repeat' split) <;> rfl
  have hB : (tickB W).2.tmo = W.tmo := by unfold tickB; (repeat' split) <;> first | rfl | exact hI
  have hA : (tickA W).2.tmo = W.tmo := by unfold tickA; (repeat' split) <;> first | rfl | exact hB
  unfold tick; (repeat' split) <;> first | rfl | exact hA
theorem ackM_tmo (W : Wri) (o r : Int) (d : Bool) : (ackM W o r d).2.tmo = W.tmo := by unfold ackM; (repeat' split) <;> rfl
theorem ackM_win (W : Wri) (o r : Int) (d : Bool) : (ackM W o r d).2.win = W.win := by unfold ackM; (repeat' split) <;> rfl
theorem ackM_fin (W : Wri) (o r : Int) (d : Bool) (h : W.fin = true) : (ackM W o r d).2.fin = true := by
  unfold ackM
  (repeat' split) <;> first | exact h | (show (W.fin || d) = true; rw [h]; rfl)
theorem nil_msg {P : Msg → Prop} : ∀ m ∈ ([] : List Msg), P m := fun _ h => by cases h
theorem one_msg {P : Msg → Prop} {x : Msg} (h : P x) : ∀ m ∈ [x], P m := List.forall_mem_cons.2 ⟨h, nil_msg⟩
theorem two_msg {P : Msg → Prop} {x y : Msg} (h : P x) (k : P y) : ∀ m ∈ [x, y], P m := List.forall_mem_cons.2 ⟨h, one_msg k⟩
theorem PI.tick (h : PI a b u v E F dE dF rE rF mE mF) (m : Int) : PI a b u v (etkF E m).2 F dE dF rE rF mE (mF ++ (etkF E m).1.1) := by
  obtain ⟨t1, t2, t3⟩ := h.ef.tick m
  have t4 := (tick_fin E.w m)
  have t5 := tick_tmo E.w m
  obtain ⟨i1, i2, i3, i4, i5, ⟨i6, i7, i8, i9⟩, i10⟩ := id h.ea
  have hid := h.ef.self
  have hfe := h.fe.self
  have hz := h.zf
  have hc := h.fe.cfm
  have hpb : E.st = 2 ∨ E.st = 4 → E.peer = b := fun q => by omega
  have hq : E.st = 2 ∨ E.st = 4 → F.st = 0 → False := fun q hf => by have := hpb q; have := (hz hf).1; omega
  have hD : ∀ (hb : ((Go.Proofs.Ytldabjgegpmmiaa.tick E.w m).1.2.1 : Bool) = true) (q : E.st = 2), MsgOk a b (Go.Proofs.Ytldabjgegpmmiaa.tick E.w m).2 F.r dE F.w E.r (dataM E (Go.Proofs.Ytldabjgegpmmiaa.tick E.w m).1.1) := fun hb q => ⟨i1, .inr ⟨hpb (.inl q), .inr (.inl ⟨rfl, t3 hb⟩)⟩⟩
  have hA : ∀ (w : Wri) (q : E.st = 2 ∨ E.st = 4), MsgOk a b w F.r dE F.w E.r (cfmM E) := fun w q => ⟨i1, .inr ⟨hpb q, .inr (.inr ⟨rfl, hc⟩)⟩⟩
  unfold etkF
  split
  · rename_i c
    have hp0 : E.peer = 0 := by omega
    have hH : MsgOk a b E.w F.r dE F.w E.r (helloM E) := ⟨i1, .inl ⟨rfl, hp0⟩⟩
    split
    · exact h.go (out := [helloM E]) ⟨i1, i2, i3, i4, i5, ⟨i6, i7, by dsimp only; omega, by dsimp only; omega⟩, i10⟩ h.ef h.fe hid hfe (one_msg hH) (fun q => absurd (c.symm.trans q) (by decide)) (fun _ => ⟨hp0, one_msg rfl⟩)
    · exact h.go (out := []) ⟨i1, i2, i3, i4, i5, ⟨i6, i7, by dsimp only; omega, by dsimp only; omega⟩, i10⟩ h.ef h.fe hid hfe nil_msg (fun q => ⟨q, rfl⟩) (fun _ => ⟨hp0, nil_msg⟩)
  split
  · rename_i c
    have k1 : ∀ o : Bool, EI a b u { E with w := (Go.Proofs.Ytldabjgegpmmiaa.tick E.w m).2, owed := o } := fun o => ⟨i1, i2, i3, t4.2.trans i4, i5, ⟨i6, t5.trans i7, i8, i9⟩, fun q => absurd (c.symm.trans q) (by decide)⟩
    split
    · rename_i hb
      split
      · exact h.go (k1 _) t1 h.fe t2 hfe (two_msg (hD hb c) (hA _ (.inl c))) (fun q => absurd (c.symm.trans q) (by decide)) (fun q => (hq (.inl c) q).elim)
      · exact h.go (E' := { E with w := (Go.Proofs.Ytldabjgegpmmiaa.tick E.w m).2 }) (k1 _) t1 h.fe t2 hfe (one_msg (hD hb c)) (fun q => absurd (c.symm.trans q) (by decide)) (fun q => (hq (.inl c) q).elim)
    · split
      · exact h.go (k1 _) t1 h.fe t2 hfe (one_msg (hA _ (.inl c))) (fun q => absurd (c.symm.trans q) (by decide)) (fun q => (hq (.inl c) q).elim)
      · exact h.go (E' := { E with w := (Go.Proofs.Ytldabjgegpmmiaa.tick E.w m).2 }) (k1 _) t1 h.fe t2 hfe nil_msg (fun q => absurd (c.symm.trans q) (by decide)) (fun q => (hq (.inl c) q).elim)
  split
  · split
    · rename_i c
      exact h.go (E' := { E with owed := false }) ⟨i1, i2, i3, i4, i5, ⟨i6, i7, i8, i9⟩, i10⟩ h.ef h.fe hid hfe (one_msg (hA _ (.inr c))) (fun q => absurd (c.symm.trans q) (by decide)) (fun q => (hq (.inr c) q).elim)
    · show PI a b u v E F dE dF rE rF mE (mF ++ [])
      rw [List.append_nil]; exact h
  · show PI a b u v E F dE dF rE rF mE (mF ++ [])
    rw [List.append_nil]; exact h
theorem PI.read (h : PI a b u v E F dE dF rE rF mE mF) (m : Int) : PI a b u v (erdF E m).2 F dE dF (rE ++ (erdF E m).1.1) rF mE mF := by
  obtain ⟨t1, t2⟩ := h.fe.read m
  obtain ⟨i1, i2, i3, i4, i5, ⟨i6, i7, i8, i9⟩, i10⟩ := id h.ea
  have hid := h.ef.self
  have hw : (rdF E.r m).2.sto.win = u := by show (readF E.r.sto m).2.win = u; rw [read_win]; exact i5
  have key : ∀ (o n : Bool) (s : Int), (s = E.st ∧ (E.st = 4 → n = true)) ∨ (E.st = 2 ∧ s = 4 ∧ E.w.fin = true ∧ n = true) → PI a b u v (erdT E m o n s).2 F dE dF (rE ++ (rdF E.r m).1.1) rF mE mF := fun o n s hs => by
    have h1 := h.go (E' := (erdT E m o n s).2) (out := []) ⟨i1, by show (s = 0 ∨ s = 1) ∧ E.peer = 0 ∨ (s = 2 ∨ s = 4) ∧ E.peer = b; omega, i3, i4, hw, ⟨i6, i7, i8, i9⟩, fun q => by
      have q : s = 4 := q
      rcases hs with ⟨g1, g2⟩ | ⟨g1, g2, g3, g4⟩
      · exact ⟨(i10 (g1.symm.trans q)).1, g2 (g1.symm.trans q)⟩
      · exact ⟨g3, g4⟩⟩ h.ef t1 hid t2 nil_msg (fun q => ⟨by have q : s = 0 := q; omega, rfl⟩) (fun q => ⟨by show E.peer = 0; exact (h.zf q).1, nil_msg⟩)
    rwa [List.append_nil] at h1
  unfold erdF erdN erdS
  (repeat' split) <;> (refine key _ _ _ ?_)
  all_goals first
    | exact .inl ⟨rfl, fun _ => by first | rfl | assumption⟩
    | exact .inr ⟨by assumption, rfl, by assumption, by first | rfl | assumption⟩
    | (refine .inl ⟨rfl, fun q => ?_⟩; exfalso; first | omega | exact absurd (i10 q).2 (by assumption) | (rename_i c _; exact c (i10 q).1))
    | skip
theorem PI.write (h : PI a b u v E F dE dF rE rF mE mF) (l : List Int) : PI a b u v (ewrF E l).2 F (dE ++ l.take ((ewrF E l).1.1 : Int).toNat) dF rE rF mE mF := by
  obtain ⟨t1, t2⟩ := h.ef.write l
  have t4 := writeF_fin E.w l
  obtain ⟨i1, i2, i3, i4, i5, ⟨i6, i7, i8, i9⟩, i10⟩ := id h.ea
  unfold ewrF
  split
  · exfalso; omega
  · have h1 := h.go (E' := { E with w := (writeF E.w l).2 }) (out := []) ⟨i1, i2, i3, t4.2.trans i4, i5, ⟨i6, (writeF_tmo _ _).trans i7, i8, i9⟩, fun q => ⟨t4.1.trans (i10 q).1, (i10 q).2⟩⟩ t1 h.fe t2 h.fe.self nil_msg (fun q => ⟨q, rfl⟩) (fun q => ⟨(h.zf q).1, nil_msg⟩)
    rwa [List.append_nil] at h1
theorem PI.close (h : PI a b u v E F dE dF rE rF mE mF) : PI a b u v (eclF E).2 F dE dF rE rF mE mF := by
  obtain ⟨t1, t2⟩ := h.ef.close
  obtain ⟨i1, i2, i3, i4, i5, ⟨i6, i7, i8, i9⟩, i10⟩ := id h.ea
  unfold eclF
  split
  · exfalso; omega
  · have h1 := h.go (E' := { E with w := (closeF E.w).2 }) (out := []) ⟨i1, i2, i3, by rw [closeF_eq]; exact i4, i5, ⟨i6, by rw [closeF_eq]; exact i7, i8, i9⟩, fun q => ⟨by rw [closeF_eq]; exact (i10 q).1, (i10 q).2⟩⟩ t1 h.fe t2 h.fe.self nil_msg (fun q => ⟨q, rfl⟩) (fun q => ⟨(h.zf q).1, nil_msg⟩)
    rwa [List.append_nil] at h1
theorem erc_go (he : EI a b u E) {m : Msg} (hb : m.2.1 = b) (hk : 1 ≤ m.1 ∧ m.1 ≤ 4) (hy : 0 ≤ m.2.2.1 ∧ m.2.2.1 < 1099511627776) :
    ercF E m = if m.1 = 1 then (if E.peer = 0 then (([(2, a, b, (0, [], false), 0, 0, false)], 0, ()), { E with peer := b, st := 2 }) else (([(2, a, b, (0, [], false), 0, 0, false)], 0, ()), E)) else if m.2.2.1 = a then erc2 E m else refu a m.1 b 17 E := by
  obtain ⟨i1, i2, ⟨i3, i3'⟩, i4, i5, i6, i10⟩ := he
  have e1 : erc1 E m = if m.1 = 1 then (if E.peer = 0 then (([(2, a, b, (0, [], false), 0, 0, false)], 0, ()), { E with peer := b, st := 2 }) else (([(2, a, b, (0, [], false), 0, 0, false)], 0, ()), E)) else if m.2.2.1 = a then erc2 E m else refu a m.1 b 17 E := by
    unfold erc1
    rw [if_neg (show ¬ E.st = 3 by omega), i1, hb]
  unfold ercF
  rw [if_neg (by omega), if_neg (by omega), if_neg (by omega), if_neg (by omega), if_neg (by omega), if_neg (by omega), if_neg (by omega), e1]
  split
  · rfl
  · rw [if_neg (show ¬ E.peer < m.2.1 by omega)]
theorem erc2_tak (he : EI a b u E) {m : Msg} (hb : m.2.1 = b) (h5 : ¬ m.1 = 5) (h0 : ¬ E.st = 0) : ∃ s : Int, (s = 2 ∧ (E.st = 1 ∨ E.st = 2) ∨ s = 4 ∧ E.st = 4) ∧ erc2 E m = takE E s b m.1 m.2.2.2.1 m.2.2.2.2.1 m.2.2.2.2.2.1 m.2.2.2.2.2.2 := by
  have hs := he.st
  unfold erc2
  rw [if_neg h0, if_neg h5]
  split
  · exact ⟨2, .inl ⟨rfl, .inl (by assumption)⟩, by rw [hb]⟩
  · exact ⟨E.st, by omega, by rw [show E.peer = b by omega]⟩
theorem PI.recv (h : PI a b u v E F dE dF rE rF mE mF) {m : Msg} (hm : m ∈ mE) : PI a b u v (ercF E m).2 F dE dF rE rF mE (mF ++ (ercF E m).1.1) := by
  obtain ⟨k1, k2⟩ := h.me m hm
  have hF : ¬ F.st = 0 := fun q => by rw [(h.zf q).2.1] at hm; cases hm
  have hea := h.ea
  obtain ⟨i1, i2, i3, i4, i5, ⟨i6, i7, i8, i9⟩, i10⟩ := id hea
  have hW : MsgOk a b E.w F.r dE F.w E.r (2, a, b, (0, [], false), 0, 0, false) := ⟨rfl, .inr ⟨rfl, .inl rfl⟩⟩
  rw [erc_go hea k1 (by omega) (by omega)]
  split
  · split
    · exact h.go (E' := { E with peer := b, st := 2 }) ⟨i1, .inr ⟨.inl rfl, rfl⟩, i3, i4, i5, ⟨i6, i7, i8, i9⟩, fun q => absurd (show (2 : Int) = 4 from q) (by decide)⟩ h.ef h.fe h.ef.self h.fe.self (one_msg hW) (fun q => absurd (show (2 : Int) = 0 from q) (by decide)) (fun q => absurd q hF)
    · rename_i hp
      exact h.go (E' := E) hea h.ef h.fe h.ef.self h.fe.self (one_msg hW) (fun q => by omega) (fun q => absurd q hF)
  · rename_i hk1
    have k2 := k2.resolve_left (fun q => hk1 q.1)
    rw [if_pos k2.1]
    by_cases h0 : E.st = 0
    · exact absurd ((h.ze h0).2.2 m hm) hk1
    obtain ⟨s, hs, e⟩ := erc2_tak hea k1 (by omega) h0
    rw [e]
    have go0 : ∀ {E' : Edd} (ea : EI a b u E') (ef : Dn E'.w F.r dE rF) (fe : Dn F.w E'.r dF rE) (l1 : Dle E.w F.r dE E'.w F.r dE) (l2 : Dle F.w E.r dF F.w E'.r dF) (hz : ¬ E'.st = 0), PI a b u v E' F dE dF rE rF mE (mF ++ []) := fun ea ef fe l1 l2 hz =>
      h.go ea ef fe l1 l2 nil_msg (fun q => absurd q hz) (fun q => absurd q hF)
    unfold takE
    split
    · rename_i hk
      obtain ⟨p1, p2, p3⟩ := h.fe.put ((k2.2.resolve_left (by omega)).resolve_right (by omega)).2
      rw [if_pos p1]
      refine go0 (E' := { E with r := (rcvF E.r m.2.2.2.1.1 m.2.2.2.1.2.1 m.2.2.2.1.2.2).2, owed := true, st := s, peer := b }) ⟨i1, by dsimp only; omega, i3, i4, ?_, ⟨i6, i7, i8, i9⟩, fun q => i10 (by dsimp only at q; omega)⟩ h.ef p2 h.ef.self p3 (by dsimp only; omega)
      show (putF E.r.sto _ _ _).2.win = u
      rw [put_win]; exact i5
    · split
      · rename_i hk
        obtain ⟨p1, p2, p3, p4⟩ := h.ef.ack ((k2.2.resolve_left (by omega)).resolve_left (by omega)).2
        have q1 := ackM_tmo E.w m.2.2.2.2.1 m.2.2.2.2.2.1 m.2.2.2.2.2.2
        have q2 := ackM_win E.w m.2.2.2.2.1 m.2.2.2.2.2.1 m.2.2.2.2.2.2
        have q3 := ackM_fin E.w m.2.2.2.2.1 m.2.2.2.2.2.1 m.2.2.2.2.2.2
        rw [p4] at p1 p2 p3 ⊢
        generalize ackM E.w m.2.2.2.2.1 m.2.2.2.2.2.1 m.2.2.2.2.2.2 = W at p1 p2 p3 q1 q2 q3 ⊢
        have key : ∀ s' : Int, (s' = s ∨ s' = 4 ∧ W.2.fin = true ∧ E.ended = true) → PI a b u v { E with w := W.2, st := s', peer := b } F dE dF rE rF mE (mF ++ []) := fun s' hs' => by
          refine go0 (E' := { E with w := W.2, st := s', peer := b }) ⟨i1, by dsimp only; omega, i3, q2.trans i4, i5, ⟨i6, q1.trans i7, i8, i9⟩, fun q => ?_⟩ p2 h.fe p3 h.fe.self (by dsimp only; omega)
          rcases hs' with hs' | ⟨_, g1, g2⟩
          · have q : s' = 4 := q
            have := i10 (by omega)
            exact ⟨q3 this.1, this.2⟩
          · exact ⟨g1, g2⟩
        unfold setA
        (repeat' split) <;> first | exact key _ (.inl rfl) | exact key _ (.inr ⟨rfl, by assumption, by assumption⟩)
      · exact go0 (E' := { E with st := s, peer := b }) ⟨i1, by dsimp only; omega, i3, i4, i5, ⟨i6, i7, i8, i9⟩, fun q => i10 (by dsimp only at q; omega)⟩ h.ef h.fe h.ef.self h.fe.self (by dsimp only; omega)
/-- The pair. -/
def PP (u v : Int) (S : Pr) : Prop := PI 10 20 u v S.e0 S.e1 S.w0 S.w1 S.r0 S.r1 S.f0 S.f1
theorem PP.new (w o : Int) : PP (1 + w % 16) (1 + w / 16 % 16) (conP w o) := by
  have hE : ∀ (i z : Int) (c : Prop) [Decidable c] (b : Int), 1 ≤ z ∧ z ≤ 16 → 1 ≤ i ∧ i < 100 → 1 ≤ b ∧ b < 100 → EI i b z (cnE i z c) := fun i z c _ b hz hi hb => by
    unfold cnE
    split
    · exact ⟨rfl, .inl ⟨.inr rfl, rfl⟩, by omega, rfl, rfl, ⟨rfl, rfl, Int.le_refl _, (show (0 : Int) ≤ 2 by decide)⟩, fun q => absurd (show (1 : Int) = 4 from q) (by decide)⟩
    · exact ⟨rfl, .inl ⟨.inl rfl, rfl⟩, by omega, rfl, rfl, ⟨rfl, rfl, Int.le_refl _, (show (0 : Int) ≤ 2 by decide)⟩, fun q => absurd (show (0 : Int) = 4 from q) (by decide)⟩
  have hw : ∀ (i z : Int) (c : Prop) [Decidable c], (cnE i z c).w = newW z 3 ∧ (cnE i z c).r = ⟨newS z, z⟩ := fun i z c _ => by unfold cnE; split <;> exact ⟨rfl, rfl⟩
  have hp : ∀ (i z : Int) (c : Prop) [Decidable c], (cnE i z c).peer = 0 := fun i z c _ => by unfold cnE; split <;> rfl
  refine ⟨hE _ _ _ _ (by omega) (by omega) (by omega), hE _ _ _ _ (by omega) (by omega) (by omega), ?_, ?_, nil_msg, nil_msg, fun _ => ⟨hp _ _ _, rfl, nil_msg⟩, fun _ => ⟨hp _ _ _, rfl, nil_msg⟩⟩
  · show Dn (cnE 10 (1 + w % 16) (o % 2 = 1)).w (cnE 20 (1 + w / 16 % 16) (o / 2 % 2 = 1)).r [] []
    rw [(hw _ _ _).1, (hw _ _ _).2]
    exact Dn.new (by omega) (by omega) (by decide) (by decide) (by omega) (by omega)
  · show Dn (cnE 20 (1 + w / 16 % 16) (o / 2 % 2 = 1)).w (cnE 10 (1 + w % 16) (o % 2 = 1)).r [] []
    rw [(hw _ _ _).1, (hw _ _ _).2]
    exact Dn.new (by omega) (by omega) (by decide) (by decide) (by omega) (by omega)
variable {S : Pr}
theorem PP.tick (h : PP u v S) (m : Int) : PP u v (ptickF S m).2 := (PI.swap ((PI.swap (PI.tick h m)).tick m))
theorem PP.arr (h : PP u v S) (i k : Int) (keep : Bool) : PP u v (paF S i k keep).2 := by
  unfold paF
  split
  · unfold paF0
    split
    · exact h
    · rename_i h0
      have h1 := PI.recv h (atM_mem (k := k) h0)
      split
      · exact h1
      · exact h1.sub (fun m hm => cutM_mem hm) (fun m hm => hm)
  · unfold paF1
    split
    · exact h
    · rename_i h0
      have h1 := PI.recv (PI.swap h) (atM_mem (k := k) h0)
      split
      · exact h1.swap
      · exact (h1.sub (fun m hm => cutM_mem hm) (fun m hm => hm)).swap
theorem PP.rd (h : PP u v S) (i m : Int) : PP u v (prF S i m).2 := by
  have h0 := PI.read h m
  have h1 := (PI.read (PI.swap h) m).swap
  unfold prF
  split
  · unfold prF0; split <;> exact h0
  · unfold prF1; split <;> exact h1
theorem PP.wr (h : PP u v S) (i : Int) {l : List Int} {n k : Nat} (hg : GoodP S n k) (hl : inBytes l) : PP u v (pwF S i l).2 := by
  have h0 := PI.write h l
  have h1 := (PI.write (PI.swap h) l).swap
  unfold pwF
  split
  · obtain ⟨c, ⟨c1, c2⟩, c3, c4, c5⟩ := hg.e0.wr hl
    have q1 : ¬ ((ewrF S.e0 l).1.1 : Int) < 0 := fun hh => absurd (show c < 0 from lt_of_eq_left c3 hh) (Int.not_lt.2 c1)
    have q2 : ¬ (l.length : Int) < ((ewrF S.e0 l).1.1 : Int) := fun hh => absurd (show (l.length : Int) < c from lt_of_eq_right c3 hh) (Int.not_lt.2 c2)
    unfold pwF0
    rw [if_neg q1, if_neg q2]
    split
    · exact h0
    · rename_i hz
      rw [if_pos (c3.trans (c4.resolve_left hz))]
      exact h0
  · obtain ⟨c, ⟨c1, c2⟩, c3, c4, c5⟩ := hg.e1.wr hl
    have q1 : ¬ ((ewrF S.e1 l).1.1 : Int) < 0 := fun hh => absurd (show c < 0 from lt_of_eq_left c3 hh) (Int.not_lt.2 c1)
    have q2 : ¬ (l.length : Int) < ((ewrF S.e1 l).1.1 : Int) := fun hh => absurd (show (l.length : Int) < c from lt_of_eq_right c3 hh) (Int.not_lt.2 c2)
    unfold pwF1
    rw [if_neg q1, if_neg q2]
    split
    · exact h1
    · rename_i hz
      rw [if_pos (c3.trans (c4.resolve_left hz))]
      exact h1
theorem PP.los (h : PP u v S) (i : Int) : PP u v (losF S i) := by
  have k0 : PP u v { S with f0 := S.f0.drop 1 } := PI.sub h (fun m hm => List.mem_of_mem_drop hm) (fun m hm => hm)
  have k1 : PP u v { S with f1 := S.f1.drop 1 } := PI.sub h (fun m hm => hm) (fun m hm => List.mem_of_mem_drop hm)
  unfold losF
  (repeat' split) <;> first | exact k0 | exact k1 | exact h
theorem evB_in {S : Pr} {e : Int} (he : 0 ≤ e ∧ e ≤ 255) : inBytes (evB S e) := by
  intro x hx
  have := wrap_byte (evL S (andI e 1)); have := wrap_byte (e + 1)
  have hx := List.mem_of_mem_take hx
  simp only [List.mem_cons, List.not_mem_nil, or_false] at hx
  omega
theorem GoodP.los {n k : Nat} (h : GoodP S n k) (i : Int) : GoodP (losF S i) n k := by
  have hf := h.fl
  have l0 : (S.f0.drop 1).length ≤ S.f0.length := by rw [List.length_drop]; omega
  have l1 : (S.f1.drop 1).length ≤ S.f1.length := by rw [List.length_drop]; omega
  have k0 : GoodP { S with f0 := S.f0.drop 1 } n k := ⟨h.e0, h.e1, fun m hm => h.m0 m (List.mem_of_mem_drop hm), h.m1, by dsimp only; omega, h.r0, h.r1⟩
  have k1 : GoodP { S with f1 := S.f1.drop 1 } n k := ⟨h.e0, h.e1, h.m0, fun m hm => h.m1 m (List.mem_of_mem_drop hm), by dsimp only; omega, h.r0, h.r1⟩
  unfold losF
  (repeat' split) <;> first | exact k0 | exact k1 | exact h
theorem GoodP.evt {n k : Nat} (hg : GoodP S n k) {e : Int} (he : 0 ≤ e ∧ e ≤ 255) : GoodP (evtF S e).2 (n + 4) (k + 100) ∧ ((evtF S e).1.1 : Bool) = true := by
  have hb := evB_in (S := S) he
  unfold evtF ev1
  split; · exact ⟨(hg.wr _ hb).1.mono (by omega) (by omega), (hg.wr _ hb).2⟩
  split; · exact ⟨(hg.wr _ hb).1.mono (by omega) (by omega), (hg.wr _ hb).2⟩
  split; · exact ⟨(hg.rd _ _ (by have : e / 2 ^ (4 : Int).toNat = e / 16 := rfl; omega)).mono (by omega) (Nat.le_refl _), rfl⟩
  split; · exact ⟨(hg.arr _ _ _).mono (by split <;> omega) (by omega), rfl⟩
  split; · exact ⟨(hg.los _).mono (by omega) (by omega), rfl⟩
  exact ⟨(((hg.tick _).arr _ _ false).arr _ _ false).mono (Nat.le_refl _) (by omega), rfl⟩
theorem PP.evt (h : PP u v S) {n k : Nat} (hg : GoodP S n k) {e : Int} (he : 0 ≤ e ∧ e ≤ 255) : PP u v (evtF S e).2 := by
  have hb := evB_in (S := S) he
  unfold evtF ev1
  split; · exact h.wr _ hg hb
  split; · exact h.wr _ hg hb
  split; · exact h.rd _ _
  split; · exact h.arr _ _ _
  split; · exact h.los _
  exact ((h.tick _).arr _ _ _).arr _ _ _
end Go.Proofs.Ytldabjgegpmmiaa
