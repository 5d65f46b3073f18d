/-
  Layer 47: further invariants of a writer; two joined ends in a quiet round, field by field (plain).
-/
import Derived.Test.YtldabjgegpmmiaaLvb
namespace Go.Proofs.Ytldabjgegpmmiaa
set_option linter.all false
set_option linter.unusedVariables false
set_option linter.unusedSimpArgs false
set_option linter.unusedSectionVars false
open Go.RowKit Go.Sx
variable {a b u v : Int} {E F : Edd} {dE dF rE rF : List Int} {mE mF : List Msg} {S : Pr} {c : Bool}

structure Wx (c : Bool) (w : Wri) : Prop where
  cl : w.closed = c
  en : w.ended = true → w.closed = true ∧ w.next = w.taken
  fb : w.fin = true → w.base = w.taken
theorem Wx.write {w : Wri} (h : Wx c w) (l : List Int) : Wx c (writeF w l).2 ∨ w.fin = true := by
  by_cases hf : w.fin = true
  · exact .inr hf
  left
  unfold writeF
  split
  · exact h
  · rename_i hc
    exact ⟨h.cl, fun q => absurd (h.en q).1 hc, fun q => absurd q hf⟩
theorem Wx.write' {w : Wri} {r : Rdr} {d rd : List Int} (h : Wx c w) (hd : Dn w r d rd) (l : List Int) : Wx c (writeF w l).2 := by
  rcases h.write l with q | q
  · exact q
  · obtain ⟨g1, _⟩ := hd.fw q
    have := (hd.fin g1).1
    unfold writeF
    rw [if_pos this]
    exact h
theorem Wx.close {w : Wri} (h : Wx c w) : Wx true (closeF w).2 := by
  rw [closeF_eq]
  exact ⟨rfl, fun q => ⟨rfl, (h.en q).2⟩, h.fb⟩
theorem Wx.tick {w : Wri} (h : Wx c w) (m : Int) : Wx c (Go.Proofs.Ytldabjgegpmmiaa.tick w m).2 := by
  obtain ⟨h1, h2, h3⟩ := h
  have hI : Wx c (tickIdle w).2 := by
    unfold tickIdle
    split; · exact ⟨h1, h2, h3⟩
    split; · exact ⟨h1, (fun q => by cases q), h3⟩
    split; · exact ⟨h1, (fun q => by cases q), h3⟩
    exact ⟨h1, h2, h3⟩
  have hB : Wx c (tickB w).2 := by unfold tickB; (repeat' split) <;> first | exact ⟨h1, h2, h3⟩ | exact hI
  have hA : Wx c (tickA w).2 := by
    unfold tickA
    split
    · rename_i hc
      split
      · rename_i hn
        split
        · split
          · exact ⟨h1, fun _ => ⟨hc, by show w.next + 0 = w.taken; omega⟩, h3⟩
          · exact hB
        · exact hB
      · exact hB
    · exact hB
  unfold Go.Proofs.Ytldabjgegpmmiaa.tick
  split; · exact ⟨h1, h2, h3⟩
  split
  · rename_i hn
    have hx : ¬ w.ended = true := fun q => by have := (h2 q).2; omega
    split
    · split
      · rename_i hc
        split
        · rename_i hl; exact ⟨h1, fun _ => ⟨hc, hl⟩, h3⟩
        · exact ⟨h1, fun q => absurd (show w.ended = true from q) hx, h3⟩
      · exact ⟨h1, fun q => absurd (show w.ended = true from q) hx, h3⟩
    · exact hA
  · exact hA
theorem Wx.ack {w : Wri} {r : Rdr} {d rd : List Int} (h : Wx c w) (hd : Dn w r d rd) {o m : Int} {k : Bool} (ha : AckOk w r o m k) : Wx c (ackF w o m k).2 := by
  obtain ⟨_, _, _, e⟩ := hd.ack ha
  obtain ⟨h1, h2, h3⟩ := h
  have ht := hd.ok.top; have hn := hd.ok.next; have hs := hd.st.nxt; have hl := ha.lo
  have hf : (w.fin || k) = true → max w.base o = w.taken := fun q => by
    rcases (Bool.or_eq_true_iff.1 q) with q | q
    · have := h3 q; omega
    · have := (ha.dn q).2.2.1; have := hd.ok.next; omega
  rw [e]
  unfold ackM
  split; · exact ⟨h1, h2, h3⟩
  split
  · exact ⟨h1, h2, fun q => by have := hf q; dsimp only; omega⟩
  · refine ⟨h1, fun q => ⟨(h2 q).1, ?_⟩, fun q => ?_⟩
    · have := (h2 q).2; show max w.next o = w.taken; omega
    · have := hf q; show o = w.taken; omega
theorem ite_Q {α : Type} {P : α → Prop} {c : Prop} [Decidable c] {a b : α} (ha : c → P a) (hb : ¬ c → P b) : P (if c then a else b) := by
  by_cases h : c
  · rw [if_pos h]; exact ha h
  · rw [if_neg h]; exact hb h
theorem erc_w (E : Edd) (m : Msg) : (ercF E m).2.w = E.w ∨ m.1 = 4 ∧ (ercF E m).2.w = (ackF E.w m.2.2.2.2.1 m.2.2.2.2.2.1 m.2.2.2.2.2.2).2 := by
  show (fun y : TLI × Edd => y.2.w = E.w ∨ m.1 = 4 ∧ y.2.w = (ackF E.w m.2.2.2.2.1 m.2.2.2.2.2.1 m.2.2.2.2.2.2).2) (ercF E m)
  unfold ercF erc1 refuL refu erc2 takE setA noM
  repeat' (refine ite_Q (P := fun y : TLI × Edd => y.2.w = E.w ∨ m.1 = 4 ∧ y.2.w = (ackF E.w m.2.2.2.2.1 m.2.2.2.2.2.1 m.2.2.2.2.2.2).2) (fun _ => ?_) (fun _ => ?_))
  all_goals first | exact .inl rfl | exact .inr ⟨by assumption, rfl⟩
theorem PI.wx (h : PI a b u v E F dE dF rE rF mE mF) {m : Msg} (hm : m ∈ mE) (hx : Wx c E.w) : Wx c (ercF E m).2.w := by
  rcases erc_w E m with e | ⟨h4, e⟩
  · rw [e]; exact hx
  · rw [e]
    obtain ⟨k1, k2⟩ := h.me m hm
    exact hx.ack h.ef (((k2.resolve_left (by omega)).2.resolve_left (by omega)).resolve_left (by omega)).2
theorem etk_wx (hx : Wx c E.w) (m : Int) : Wx c (etkF E m).2.w := by
  have ht := hx.tick m
  unfold etkF
  (repeat' split) <;> first | exact hx | exact ht
theorem erd_w (E : Edd) (m : Int) : (erdF E m).2.w = E.w := by
  unfold erdF erdN erdS
  (repeat' split) <;> rfl
def QX (c : Bool) (S : Pr) : Prop := Wx c S.e0.w ∧ Wx c S.e1.w
theorem QX.new (w o : Int) : QX false (conP w o) := by
  have hw : ∀ (i z : Int) (p : Prop) [Decidable p], Wx false (cnE i z p).w := fun i z p _ => by
    unfold cnE
    split <;> exact ⟨rfl, fun q => (by cases q), fun q => by cases q⟩
  exact ⟨hw _ _ _, hw _ _ _⟩
theorem QX.tick (h : QX c S) (m : Int) : QX c (ptickF S m).2 := ⟨etk_wx h.1 m, etk_wx h.2 m⟩
theorem QX.arr (hp : PP u v S) (h : QX c S) (i k : Int) (keep : Bool) : QX c (paF S i k keep).2 := by
  unfold paF
  split
  · unfold paF0
    split
    · exact h
    · rename_i h0
      have h1 := PI.wx hp (atM_mem (k := k) h0) h.1
      split
      · exact ⟨h1, h.2⟩
      · exact ⟨h1, h.2⟩
  · unfold paF1
    split
    · exact h
    · rename_i h0
      have h1 := PI.wx (PI.swap hp) (atM_mem (k := k) h0) h.2
      split
      · exact ⟨h.1, h1⟩
      · exact ⟨h.1, h1⟩
theorem QX.rd (h : QX c S) (i m : Int) : QX c (prF S i m).2 := by
  have h0 : Wx c (erdF S.e0 m).2.w := by rw [erd_w]; exact h.1
  have h1 : Wx c (erdF S.e1 m).2.w := by rw [erd_w]; exact h.2
  unfold prF prF0 prF1
  (repeat' split) <;> first | exact ⟨h0, h.2⟩ | exact ⟨h.1, h1⟩
theorem QX.wr (hp : PP u v S) (h : QX c S) (i : Int) (l : List Int) : QX c (pwF S i l).2 := by
  have h0 : Wx c (ewrF S.e0 l).2.w := by
    unfold ewrF
    split
    · exact h.1
    · exact h.1.write' hp.ef l
  have h1 : Wx c (ewrF S.e1 l).2.w := by
    unfold ewrF
    split
    · exact h.2
    · exact h.2.write' hp.fe l
  unfold pwF pwF0 pwF1
  (repeat' split) <;> first | exact ⟨h0, h.2⟩ | exact ⟨h.1, h1⟩
theorem QX.evt (hp : PP u v S) (h : QX c S) (e : Int) : QX c (evtF S e).2 := by
  unfold evtF ev1
  split; · exact h.wr hp _ _
  split; · exact h.wr hp _ _
  split; · exact h.rd _ _
  split; · exact h.arr hp _ _ _
  split
  · unfold losF
    (repeat' split) <;> exact h
  · exact QX.arr ((hp.tick _).arr _ _ _) (QX.arr (hp.tick _) (h.tick _) _ _ _) _ _ _
theorem QX.calR (hp : PP u v S) (h : QX c S) : QX c (Go.Proofs.Ytldabjgegpmmiaa.calR S) :=
  ((calI_ind (P := fun T => QX c T) (fun T hT h => h.arr hT _ _ _) (fun T hT h => h.arr hT _ _ _) 400 (hp.tick 9) (h.tick 9)).2.rd 0 100).rd 1 100

theorem erd_fields (E : Edd) (hJ : Jd E) (m : Int) : (erdF E m).2.r = (rdF E.r m).2 ∧ ((erdF E m).2.owed = true ↔ E.owed = true ∨ 0 < (((rdF E.r m).1.1 : List Int).length : Int)) ∧ ((erdF E m).2.ended = true ↔ E.ended = true ∨ ((rdF E.r m).1.2.1 : Bool) = true) ∧
    (E.w.fin = true → (erdF E m).2.ended = true → (erdF E m).2.st = 4) ∧ ((erdF E m).1.2.1 : Bool) = (rdF E.r m).1.2.1 := by
  have h3 : ¬ E.st = 3 := by unfold Jd at hJ; omega
  have key : ∀ (o n : Bool) (s : Int), (o = true ↔ E.owed = true ∨ 0 < (((rdF E.r m).1.1 : List Int).length : Int)) → (n = true ↔ E.ended = true ∨ ((rdF E.r m).1.2.1 : Bool) = true) → (E.w.fin = true → n = true → s = 4) →
      (fun y : Tup [DT.lst (.int .u8), .cell .bool] × Edd => y.2.r = (rdF E.r m).2 ∧ (y.2.owed = true ↔ E.owed = true ∨ 0 < (((rdF E.r m).1.1 : List Int).length : Int)) ∧ (y.2.ended = true ↔ E.ended = true ∨ ((rdF E.r m).1.2.1 : Bool) = true) ∧ (E.w.fin = true → y.2.ended = true → y.2.st = 4) ∧ (y.1.2.1 : Bool) = (rdF E.r m).1.2.1) (erdT E m o n s) :=
    fun o n s h1 h2 h4 => ⟨rfl, h1, h2, h4, rfl⟩
  show (fun y : Tup [DT.lst (.int .u8), .cell .bool] × Edd => y.2.r = (rdF E.r m).2 ∧ (y.2.owed = true ↔ E.owed = true ∨ 0 < (((rdF E.r m).1.1 : List Int).length : Int)) ∧ (y.2.ended = true ↔ E.ended = true ∨ ((rdF E.r m).1.2.1 : Bool) = true) ∧ (E.w.fin = true → y.2.ended = true → y.2.st = 4) ∧ (y.1.2.1 : Bool) = (rdF E.r m).1.2.1) (erdF E m)
  have hS : ∀ (o n : Bool), (o = true ↔ E.owed = true ∨ 0 < (((rdF E.r m).1.1 : List Int).length : Int)) → (n = true ↔ E.ended = true ∨ ((rdF E.r m).1.2.1 : Bool) = true) →
      (fun y : Tup [DT.lst (.int .u8), .cell .bool] × Edd => y.2.r = (rdF E.r m).2 ∧ (y.2.owed = true ↔ E.owed = true ∨ 0 < (((rdF E.r m).1.1 : List Int).length : Int)) ∧ (y.2.ended = true ↔ E.ended = true ∨ ((rdF E.r m).1.2.1 : Bool) = true) ∧ (E.w.fin = true → y.2.ended = true → y.2.st = 4) ∧ (y.1.2.1 : Bool) = (rdF E.r m).1.2.1) (erdS E m o n) := fun o n h1 h2 => by
    unfold erdS
    split
    · split
      · split
        · exact key _ _ _ h1 h2 (fun _ _ => rfl)
        · rename_i hn; exact key _ _ _ h1 h2 (fun _ q => absurd q hn)
      · rename_i hf; exact key _ _ _ h1 h2 (fun q _ => absurd q hf)
    · exact key _ _ _ h1 h2 (fun _ _ => by unfold Jd at hJ; omega)
  have hN : ∀ o : Bool, (o = true ↔ E.owed = true ∨ 0 < (((rdF E.r m).1.1 : List Int).length : Int)) →
      (fun y : Tup [DT.lst (.int .u8), .cell .bool] × Edd => y.2.r = (rdF E.r m).2 ∧ (y.2.owed = true ↔ E.owed = true ∨ 0 < (((rdF E.r m).1.1 : List Int).length : Int)) ∧ (y.2.ended = true ↔ E.ended = true ∨ ((rdF E.r m).1.2.1 : Bool) = true) ∧ (E.w.fin = true → y.2.ended = true → y.2.st = 4) ∧ (y.1.2.1 : Bool) = (rdF E.r m).1.2.1) (erdN E m o) := fun o h1 => by
    unfold erdN
    split
    · rename_i he; exact hS _ _ h1 ⟨fun _ => .inl he, fun _ => rfl⟩
    · rename_i he; exact hS _ _ h1 ⟨fun q => .inr q, fun q => q.resolve_left he⟩
  unfold erdF
  by_cases hl : 0 < (((rdF E.r m).1.1 : List Int).length : Int)
  · rw [if_pos hl, if_neg h3]
    exact hN _ ⟨fun _ => .inr hl, fun _ => rfl⟩
  · rw [if_neg hl]
    exact hN _ ⟨fun q => .inl q, fun q => q.resolve_right hl⟩
/-- The messages of a joined end arrive at a joined end. -/
theorem rcvs_out (h : PI a b u v E F dE dF rE rF mE mF) (hJ : Jd E) {p q : Prop} [Decidable p] [Decidable q] {md ma : Msg} (h3 : md.1 = 3) (h4 : ma.1 = 4) (hl : ∀ m ∈ ((if p then [md] else []) ++ (if q then [ma] else [])), m ∈ mE) :
    ∃ s : Int, (s = E.st ∨ s = 4) ∧ rcvs E ((if p then [md] else []) ++ (if q then [ma] else [])) = { E with w := if q then (ackM E.w ma.2.2.2.2.1 ma.2.2.2.2.2.1 ma.2.2.2.2.2.2).2 else E.w, r := if p then (rcvF E.r md.2.2.2.1.1 md.2.2.2.1.2.1 md.2.2.2.1.2.2).2 else E.r, owed := if p then true else E.owed, st := s } := by
  by_cases hp : p
  · rw [if_pos hp] at hl
    have hd := erc_dat h hJ (hl md (List.mem_append_left _ (List.mem_singleton.2 rfl))) h3
    by_cases hq : q
    · rw [if_pos hq] at hl
      have h' := h.recv (hl md (List.mem_append_left _ (List.mem_singleton.2 rfl)))
      obtain ⟨s, hs, e⟩ := erc_cfm h' (PI.ans h (hl md (List.mem_append_left _ (List.mem_singleton.2 rfl)))).2.1 (hl ma (List.mem_append_right _ (List.mem_singleton.2 rfl))) h4
      refine ⟨s, by rw [hd] at hs; exact hs, ?_⟩
      rw [if_pos hp, if_pos hq, if_pos hp, if_pos hp, if_pos hq]
      show (ercF (ercF E md).2 ma).2 = _
      rw [e, hd]
    · refine ⟨E.st, .inl rfl, ?_⟩
      rw [if_pos hp, if_neg hq, if_pos hp, if_pos hp, if_neg hq]
      exact hd
  · by_cases hq : q
    · rw [if_pos hq] at hl
      obtain ⟨s, hs, e⟩ := erc_cfm h hJ (hl ma (List.mem_append_right _ (List.mem_singleton.2 rfl))) h4
      refine ⟨s, hs, ?_⟩
      rw [if_neg hp, if_pos hq, if_neg hp, if_neg hp, if_pos hq]
      exact e
    · refine ⟨E.st, .inl rfl, ?_⟩
      rw [if_neg hp, if_neg hq, if_neg hp, if_neg hp, if_neg hq]
      rfl
/-- What a quiet round does to the direction from E to F. -/
structure Qd (E F E' F' : Edd) : Prop where
  w : E'.w = if F.owed = true then (ackM (wtk E) (rackF F.r).1 (rackF F.r).2.1 (rackF F.r).2.2.1).2 else wtk E
  r : F'.r = (rdF (if snt E = true then (rcvF F.r (sgm E).1 (sgm E).2.1 (sgm E).2.2).2 else F.r) 100).2
  ow : F'.owed = true ↔ snt E = true ∨ 0 < (((rdF (if snt E = true then (rcvF F.r (sgm E).1 (sgm E).2.1 (sgm E).2.2).2 else F.r) 100).1.1 : List Int).length : Int)
  en : ((rdF (if snt E = true then (rcvF F.r (sgm E).1 (sgm E).2.1 (sgm E).2.2).2 else F.r) 100).1.2.1 : Bool) = true → F'.ended = true
theorem quiet (h : PP u v S) (h0 : S.f0 = []) (h1 : S.f1 = []) (j0 : Jd S.e0) (j1 : Jd S.e1) :
    Qd S.e0 S.e1 (calR S).e0 (calR S).e1 ∧ Qd S.e1 S.e0 (calR S).e1 (calR S).e0 ∧
    ((calR S).e0.w.fin = true → (calR S).e0.ended = true → (calR S).e0.st = 4) ∧ ((calR S).e1.w.fin = true → (calR S).e1.ended = true → (calR S).e1.st = 4) ∧
    (((rdF (if snt S.e1 = true then (rcvF S.e0.r (sgm S.e1).1 (sgm S.e1).2.1 (sgm S.e1).2.2).2 else S.e0.r) 100).1.2.1 : Bool) = true → (calR S).n0 = true) ∧
    (((rdF (if snt S.e0 = true then (rcvF S.e1.r (sgm S.e0).1 (sgm S.e0).2.1 (sgm S.e0).2.2).2 else S.e1.r) 100).1.2.1 : Bool) = true → (calR S).n1 = true) := by
  have ht := h.tick 9
  have t0 := etk_jd j0; have t1 := etk_jd j1
  have e0 : (ptickF S 9).2.e0 = { S.e0 with w := wtk S.e0, owed := false } := by show (etkF S.e0 9).2 = _; rw [t0]
  have e1 : (ptickF S 9).2.e1 = { S.e1 with w := wtk S.e1, owed := false } := by show (etkF S.e1 9).2 = _; rw [t1]
  have f0 : (ptickF S 9).2.f0 = (if snt S.e1 = true then [dataM S.e1 (sgm S.e1)] else []) ++ (if S.e1.owed = true then [cfmM S.e1] else []) := by show S.f0 ++ (etkF S.e1 9).1.1 = _; rw [h0, t1]; rfl
  have f1 : (ptickF S 9).2.f1 = (if snt S.e0 = true then [dataM S.e0 (sgm S.e0)] else []) ++ (if S.e0.owed = true then [cfmM S.e0] else []) := by show S.f1 ++ (etkF S.e0 9).1.1 = _; rw [h1, t0]; rfl
  have kd : ∀ X : Edd, (∀ m ∈ (if snt X = true then [dataM X (sgm X)] else []) ++ (if X.owed = true then [cfmM X] else []), ¬ m.1 = 1) ∧ ((if snt X = true then [dataM X (sgm X)] else []) ++ (if X.owed = true then [cfmM X] else [])).length ≤ 400 := fun X => by
    constructor
    · intro m hm
      rcases List.mem_append.1 hm with hm | hm
      · split at hm
        · rw [List.mem_singleton.1 hm]; show ¬ (3 : Int) = 1; decide
        · cases hm
      · split at hm
        · rw [List.mem_singleton.1 hm]; show ¬ (4 : Int) = 1; decide
        · cases hm
    · (repeat' split) <;> exact Nat.le_of_ble_eq_true rfl
  have hc := calI_fold 400 ht (by rw [f0]; exact (kd _).1) (by rw [f1]; exact (kd _).1) (by rw [f0]; exact (kd _).2) (by rw [f1]; exact (kd _).2)
  have jt0 : Jd (ptickF S 9).2.e0 := by rw [e0]; exact j0
  have jt1 : Jd (ptickF S 9).2.e1 := by rw [e1]; exact j1
  obtain ⟨s0, hs0, r0⟩ := rcvs_out ht jt0 (p := snt S.e1 = true) (q := S.e1.owed = true) (md := dataM S.e1 (sgm S.e1)) (ma := cfmM S.e1) rfl rfl (by rw [← f0]; exact fun m hm => hm)
  obtain ⟨s1, hs1, r1⟩ := rcvs_out (PI.swap ht) jt1 (p := snt S.e0 = true) (q := S.e0.owed = true) (md := dataM S.e0 (sgm S.e0)) (ma := cfmM S.e0) rfl rfl (by rw [← f1]; exact fun m hm => hm)
  rw [f0, f1, r0, r1] at hc
  rw [e0] at hs0 hc jt0
  rw [e1] at hs1 hc jt1
  dsimp only at hs0 hs1 hc
  obtain ⟨d1, d2, d3, d4, d5, d6, d7, d8⟩ := rd2_eq (calI 400 (ptickF S 9).2)
  have x0 : (calR S).e0 = (erdF (calI 400 (ptickF S 9).2).e0 100).2 := d1
  have x1 : (calR S).e1 = (erdF (calI 400 (ptickF S 9).2).e1 100).2 := d2
  have y0 : (erdF (calI 400 (ptickF S 9).2).e0 100).1.2.1 = true → (calR S).n0 = true := fun q => d7.2 (.inr q)
  have y1 : (erdF (calI 400 (ptickF S 9).2).e1 100).1.2.1 = true → (calR S).n1 = true := fun q => d8.2 (.inr q)
  have g0 := congrArg Pr.e0 hc
  have g1 := congrArg Pr.e1 hc
  dsimp only at g0 g1
  have k0 : Jd (calI 400 (ptickF S 9).2).e0 := by rw [g0]; show s0 = 2 ∨ s0 = 4; unfold Jd at j0; omega
  have k1 : Jd (calI 400 (ptickF S 9).2).e1 := by rw [g1]; show s1 = 2 ∨ s1 = 4; unfold Jd at j1; omega
  obtain ⟨a1, a2, a3, a4, a5⟩ := erd_fields _ k0 100
  obtain ⟨b1, b2, b3, b4, b5⟩ := erd_fields _ k1 100
  have w0 := erd_w (calI 400 (ptickF S 9).2).e0 100
  have w1 := erd_w (calI 400 (ptickF S 9).2).e1 100
  rw [← x0] at a1 a2 a3 a4 w0
  rw [← x1] at b1 b2 b3 b4 w1
  have z0 : (calR S).e0.w.fin = true → (calR S).e0.ended = true → (calR S).e0.st = 4 := fun q => a4 (by rw [← w0]; exact q)
  have z1 : (calR S).e1.w.fin = true → (calR S).e1.ended = true → (calR S).e1.st = 4 := fun q => b4 (by rw [← w1]; exact q)
  rw [a5] at y0
  rw [b5] at y1
  rw [g0] at a1 a2 a3 w0 y0
  rw [g1] at b1 b2 b3 w1 y1
  dsimp only at a1 a2 a3 w0 b1 b2 b3 w1 y0 y1
  refine ⟨⟨w0, b1, ?_, fun q => b3.2 (.inr q)⟩, ⟨w1, a1, ?_, fun q => a3.2 (.inr q)⟩, z0, z1, y0, y1⟩
  · rw [b2]
    by_cases hq : snt S.e0 = true
    · rw [if_pos hq]; exact ⟨fun _ => .inl hq, fun _ => .inl rfl⟩
    · rw [if_neg hq]; exact ⟨fun q => .inr (q.resolve_left Bool.false_ne_true), fun q => .inr (q.resolve_left hq)⟩
  · rw [a2]
    by_cases hq : snt S.e1 = true
    · rw [if_pos hq]; exact ⟨fun _ => .inl hq, fun _ => .inl rfl⟩
    · rw [if_neg hq]; exact ⟨fun q => .inr (q.resolve_left Bool.false_ne_true), fun q => .inr (q.resolve_left hq)⟩
end Go.Proofs.Ytldabjgegpmmiaa
