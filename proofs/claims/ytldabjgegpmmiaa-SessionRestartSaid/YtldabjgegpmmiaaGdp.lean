/-
  Layer 47: what stays true of an end and of a pair (plain).
-/
import Derived.Test.YtldabjgegpmmiaaPaw
import Derived.Test.YtldabjgegpmmiaaArv
import Derived.Test.YtldabjgegpmmiaaCmp
namespace Go.Proofs.Ytldabjgegpmmiaa
set_option linter.all false
set_option linter.unusedVariables false
set_option linter.unusedSimpArgs false
set_option linter.unusedSectionVars false
open Go.RowKit Go.Sx

/-- A writer that has taken the bytes d. -/
def HasW (W : Wri) (d : List Int) : Prop := ∃ M : RW, OkM M ∧ M.data = d ∧ W = wOf M
theorem HasW.ok {W : Wri} {d : List Int} (h : HasW W d) : OkW W := by
  obtain ⟨M, h1, _, rfl⟩ := h; exact h1.w
theorem HasW.len {W : Wri} {d : List Int} (h : HasW W d) : d.length ≤ 1048576 := by
  obtain ⟨M, h1, rfl, rfl⟩ := h; exact h1.taken
theorem HasW.taken {W : Wri} {d : List Int} (h : HasW W d) : W.taken = d.length := by
  obtain ⟨M, h1, rfl, rfl⟩ := h; rfl
theorem tick_segl {M : RW} (m : Int) : (refTick M m).2.1.2.1.length ≤ M.data.length := by
  have hi : (rtI M).2.1.2.1 = [] := by unfold rtI; (repeat' split) <;> rfl
  have hB : (rtB M).2.1.2.1 = [] := by unfold rtB; (repeat' split) <;> first | rfl | exact hi
  have hA : (rtA M).2.1.2.1 = [] := by unfold rtA; (repeat' split) <;> first | rfl | exact hB
  unfold refTick
  (repeat' split) <;> first | exact Nat.zero_le _ | (rw [hA]; exact Nat.zero_le _) | (dsimp only; simp only [List.length_take, List.length_drop]; omega)
theorem HasW.tick {W : Wri} {d : List Int} (h : HasW W d) (m : Int) : HasW (tick W m).2 d ∧ (∀ x ∈ (tick W m).1.1.2.1, x ∈ d) ∧ (tick W m).1.1.2.1.length ≤ d.length := by
  obtain ⟨M, h1, rfl, rfl⟩ := h
  rw [tick_cmp h1 m]
  exact ⟨⟨_, tick_ok2 h1 m, tick_data m, rfl⟩, tick_seg m, tick_segl m⟩
theorem HasW.ack {W : Wri} {d : List Int} (h : HasW W d) (o r : Int) (b : Bool) : HasW (ackF W o r b).2 d := by
  obtain ⟨M, h1, rfl, rfl⟩ := h
  rw [ack_cmp h1 o r b]
  exact ⟨_, ack_ok2 h1 o r b, ack_data o r b, rfl⟩
theorem HasW.close {W : Wri} {d : List Int} (h : HasW W d) : HasW (closeF W).2 d := by
  obtain ⟨M, h1, rfl, rfl⟩ := h
  rw [close_cmp]
  exact ⟨_, close_ok2 h1, rfl, rfl⟩
/-- What a write takes. -/
theorem HasW.write {W : Wri} {d : List Int} (h : HasW W d) (l : List Int) : ∃ n : Int, (0 ≤ n ∧ n ≤ l.length) ∧ ((writeF W l).1.1 : Int) = n ∧ (((writeF W l).1.2.1 : Int) = 0 ∨ n = 0) ∧ HasW (writeF W l).2 (d ++ l.take n.toNat) := by
  obtain ⟨M, h1, rfl, rfl⟩ := h
  rw [write_cmp h1 l]
  have h2 := write_ok2 h1 l
  unfold refWrite at h2 ⊢
  split
  · exact ⟨0, ⟨Int.le_refl _, by omega⟩, rfl, .inr rfl, ⟨M, h1, by simp, rfl⟩⟩
  · rename_i hc
    rw [if_neg hc] at h2
    obtain ⟨⟨k1, k2⟩, ⟨k3, k4⟩, k5, k6, k7, ⟨k9, k10⟩, ⟨k11, k12⟩, ⟨k13, k14⟩, k15, k16⟩ := h1
    exact ⟨rwN M l, ⟨by dsimp only [rwN]; omega, by dsimp only [rwN]; omega⟩, rfl, .inl rfl, ⟨_, h2, rfl, rfl⟩⟩

structure GoodE (E : Edd) (d : List Int) : Prop where
  w : HasW E.w d
  b : inBytes d
  s : StO E.r.sto
  rw : E.r.win = E.r.sto.win
  tmo : 1 ≤ E.tmo ∧ E.tmo ≤ 1000
  wait : 0 ≤ E.wait ∧ E.wait ≤ 1000
theorem GoodE.ok {E : Edd} {d : List Int} (h : GoodE E d) : OkE E := ⟨h.w.ok, h.s.pre, h.rw, h.tmo, by have := h.wait; omega⟩
def GoodM (m : Msg) : Prop := m.2.2.2.1.2.1.length ≤ 1048576 ∧ inBytes m.2.2.2.1.2.1
theorem goodM0 (a b c d e : Int) (f : Bool) (o : Int) (l : Bool) : GoodM (a, b, c, (o, [], l), d, e, f) := ⟨Nat.zero_le _, fun x hx => by cases hx⟩
theorem hasW_new {w t : Int} (h1 : 1 ≤ w ∧ w ≤ 1048576) (h2 : 1 ≤ t ∧ t ≤ 1000) : HasW (newW w t) [] := by
  refine ⟨⟨w, t, 0, 0, 0, w, 0, [], false, false, false, false⟩, ⟨h1, h2, Int.le_refl _, ?_, Nat.zero_le _, ⟨Int.le_refl _, Int.le_refl _⟩, ⟨Int.le_refl _, Int.le_refl _⟩, ⟨?_, h1.2⟩, Int.le_refl _, ?_⟩, rfl, rfl⟩ <;> dsimp only [List.length_nil] <;> omega
theorem GoodE.new {i w t : Int} (h1 : 1 ≤ w ∧ w ≤ 1048576) (h2 : 1 ≤ t ∧ t ≤ 1000) : GoodE (newEd i w t) [] :=
  ⟨hasW_new h1 h2, fun x hx => (by cases hx), newS_ok h1.1 h1.2, rfl, h2, ⟨Int.le_refl _, by show (0 : Int) ≤ 1000; omega⟩⟩
theorem gl0 : ∀ x ∈ ([] : List Msg), GoodM x := fun x hx => by cases hx
theorem gl1 {a : Msg} (h : GoodM a) : ∀ x ∈ [a], GoodM x := List.forall_mem_cons.2 ⟨h, gl0⟩
theorem gl2 {a b : Msg} (h : GoodM a) (k : GoodM b) : ∀ x ∈ [a, b], GoodM x := List.forall_mem_cons.2 ⟨h, gl1 k⟩
theorem GoodE.tick {E : Edd} {d : List Int} (h : GoodE E d) (m : Int) : GoodE (etkF E m).2 d ∧ ∀ x ∈ ((etkF E m).1.1 : List Msg), GoodM x := by
  obtain ⟨t1, t2, t3⟩ := h.w.tick m
  have hl := h.w.len
  have hb := h.b
  have hs := h.s
  have hrw := h.rw
  have ht := h.tmo
  have hw := h.wait
  have hd : GoodM (dataM E (Go.Proofs.Ytldabjgegpmmiaa.tick E.w m).1.1) := ⟨Nat.le_trans t3 hl, fun x hx => hb x (t2 x hx)⟩
  have ha : GoodM (cfmM E) := goodM0 ..
  have hh : GoodM (helloM E) := goodM0 ..
  unfold etkF
  repeat' split
  all_goals (refine ⟨⟨by first | exact t1 | exact h.w, hb, hs, hrw, ht, by dsimp only; omega⟩, ?_⟩)
  all_goals first | exact gl0 | exact gl1 hd | exact gl1 ha | exact gl1 hh | exact gl2 hd ha
theorem put_win (S : Sto) (o : Int) (d : List Int) (l : Bool) : (putF S o d l).2.win = S.win := by
  unfold putF
  repeat' split
  all_goals rfl
theorem read_win (S : Sto) (m : Int) : (readF S m).2.win = S.win := by
  unfold readF
  split <;> rfl
theorem GoodE.rcv {E : Edd} {d : List Int} (h : GoodE E d) {m : Msg} (hm : GoodM m) : GoodE (ercF E m).2 d ∧ ∀ x ∈ ((ercF E m).1.1 : List Msg), GoodM x := by
  have hb := h.b
  have hs := h.s
  have hrw := h.rw
  have ht := h.tmo
  have hw := h.wait
  have hp : StO (putF E.r.sto m.2.2.2.1.1 m.2.2.2.1.2.1 m.2.2.2.1.2.2).2 := put_sto hs _ hm.2 hm.1
  have hpw : E.r.win = (putF E.r.sto m.2.2.2.1.1 m.2.2.2.1.2.1 m.2.2.2.1.2.2).2.win := by rw [put_win]; exact hrw
  have ha := h.w.ack m.2.2.2.2.1 m.2.2.2.2.2.1 m.2.2.2.2.2.2
  show (fun y : TLI × Edd => GoodE y.2 d ∧ ∀ x ∈ (y.1.1 : List Msg), GoodM x) (ercF E m)
  unfold ercF erc1 refuL refu erc2 takE setA noM
  repeat' (refine ite_P (P := fun y : TLI × Edd => GoodE y.2 d ∧ ∀ x ∈ (y.1.1 : List Msg), GoodM x) ?_ ?_)
  all_goals (refine ⟨⟨by first | exact h.w | exact ha, hb, by first | exact hs | exact hp, by first | exact hrw | exact hpw, ht, hw⟩, ?_⟩)
  all_goals first | exact gl0 | exact gl1 (goodM0 ..)
theorem GoodE.rd {E : Edd} {d : List Int} (h : GoodE E d) (m : Int) : GoodE (erdF E m).2 d := by
  have hw := h.w
  have hb := h.b
  have hs := read_sto h.s m
  have hrw : E.r.win = (readF E.r.sto m).2.win := by rw [read_win]; exact h.rw
  have ht := h.tmo
  have hwt := h.wait
  unfold erdF erdN erdS
  repeat' split
  all_goals exact ⟨hw, hb, hs, hrw, ht, hwt⟩
theorem GoodE.wr {E : Edd} {d : List Int} (h : GoodE E d) {l : List Int} (hl : inBytes l) : ∃ n : Int, (0 ≤ n ∧ n ≤ l.length) ∧ ((ewrF E l).1.1 : Int) = n ∧ (((ewrF E l).1.2.1 : Int) = 0 ∨ n = 0) ∧ GoodE (ewrF E l).2 (d ++ l.take n.toNat) := by
  unfold ewrF
  split
  · exact ⟨0, ⟨Int.le_refl _, by omega⟩, rfl, .inr rfl, by simpa using h⟩
  · obtain ⟨n, h1, h2, h3, h4⟩ := h.w.write l
    refine ⟨n, h1, h2, h3, ⟨h4, ?_, h.s, h.rw, h.tmo, h.wait⟩⟩
    intro x hx
    rcases List.mem_append.1 hx with hx | hx
    · exact h.b x hx
    · exact hl x (List.mem_of_mem_take hx)
theorem GoodE.cl {E : Edd} {d : List Int} (h : GoodE E d) : GoodE (eclF E).2 d := by
  unfold eclF
  split
  · exact h
  · exact ⟨h.w.close, h.b, h.s, h.rw, h.tmo, h.wait⟩
theorem GoodE.conn {E : Edd} {d : List Int} (h : GoodE E d) : GoodE (connF E).2 d := by
  unfold connF
  split <;> exact ⟨h.w, h.b, h.s, h.rw, h.tmo, h.wait⟩

/-- A pair: at most n messages are on the way, at most k bytes were read at each end. -/
structure GoodP (S : Pr) (n k : Nat) : Prop where
  e0 : GoodE S.e0 S.w0
  e1 : GoodE S.e1 S.w1
  m0 : ∀ m ∈ S.f0, GoodM m
  m1 : ∀ m ∈ S.f1, GoodM m
  fl : S.f0.length + S.f1.length ≤ n
  r0 : S.r0.length ≤ k
  r1 : S.r1.length ≤ k
theorem GoodP.mono {S : Pr} {n k n' k' : Nat} (h : GoodP S n k) (hn : n ≤ n') (hk : k ≤ k') : GoodP S n' k' :=
  ⟨h.e0, h.e1, h.m0, h.m1, Nat.le_trans h.fl hn, Nat.le_trans h.r0 hk, Nat.le_trans h.r1 hk⟩
theorem GoodP.tick {S : Pr} {n k : Nat} (h : GoodP S n k) (m : Int) : GoodP (ptickF S m).2 (n + 4) k := by
  obtain ⟨a1, a2⟩ := h.e0.tick m
  obtain ⟨b1, b2⟩ := h.e1.tick m
  have l0 := etk_len S.e0 m
  have l1 := etk_len S.e1 m
  have hf := h.fl
  refine ⟨a1, b1, fun x hx => ?_, fun x hx => ?_, ?_, h.r0, h.r1⟩
  · rcases List.mem_append.1 hx with hx | hx
    · exact h.m0 x hx
    · exact b2 x hx
  · rcases List.mem_append.1 hx with hx | hx
    · exact h.m1 x hx
    · exact a2 x hx
  · show (S.f0 ++ _).length + (S.f1 ++ _).length ≤ _
    rw [List.length_append, List.length_append]
    omega
theorem cutM_mem {l : List Msg} {k : Int} {x : Msg} (h : x ∈ cutM l k) : x ∈ l := by
  rcases List.mem_append.1 h with h | h
  · exact List.mem_of_mem_take h
  · exact List.mem_of_mem_drop h
theorem cutM_len {l : List Msg} {k : Int} (h : ¬ (l.length : Int) = 0) : (cutM l k).length + 1 = l.length := by
  have := mod_f (k := k) h
  show (_ ++ _ : List Msg).length + 1 = _
  rw [List.length_append, List.length_take, List.length_drop]
  omega
theorem len_app {α : Type} (a b : List α) : (a ++ b).length = a.length + b.length := List.length_append
theorem GoodP.arr {S : Pr} {n k : Nat} (h : GoodP S n k) (i a : Int) (keep : Bool) : GoodP (paF S i a keep).2 (if keep = true then n + 1 else n) k := by
  have hn : n ≤ (if keep = true then n + 1 else n) := by split <;> omega
  have hf := h.fl
  unfold paF
  split
  · unfold paF0
    split
    · exact h.mono hn (Nat.le_refl _)
    · rename_i h0
      obtain ⟨a1, a2⟩ := h.e0.rcv (h.m0 _ (atM_mem (k := a) h0))
      have hl := erc_len S.e0 (atM S.f0 a)
      split
      · refine ⟨a1, h.e1, h.m0, fun x hx => ?_, ?_, h.r0, h.r1⟩
        · rcases List.mem_append.1 hx with hx | hx
          · exact h.m1 x hx
          · exact a2 x hx
        · show S.f0.length + (S.f1 ++ _).length ≤ _
          rw [List.length_append]; omega
      · have hc := cutM_len (k := a) h0
        refine ⟨a1, h.e1, fun x hx => h.m0 x (cutM_mem hx), fun x hx => ?_, ?_, h.r0, h.r1⟩
        · rcases List.mem_append.1 hx with hx | hx
          · exact h.m1 x hx
          · exact a2 x hx
        · show (cutM S.f0 a).length + (S.f1 ++ (ercF S.e0 (atM S.f0 a)).1.1 : List Msg).length ≤ _
          rw [len_app S.f1]; omega
  · unfold paF1
    split
    · exact h.mono hn (Nat.le_refl _)
    · rename_i h0
      obtain ⟨a1, a2⟩ := h.e1.rcv (h.m1 _ (atM_mem (k := a) h0))
      have hl := erc_len S.e1 (atM S.f1 a)
      split
      · refine ⟨h.e0, a1, fun x hx => ?_, h.m1, ?_, h.r0, h.r1⟩
        · rcases List.mem_append.1 hx with hx | hx
          · exact h.m0 x hx
          · exact a2 x hx
        · show (S.f0 ++ _).length + S.f1.length ≤ _
          rw [List.length_append]; omega
      · have hc := cutM_len (k := a) h0
        refine ⟨h.e0, a1, fun x hx => ?_, fun x hx => h.m1 x (cutM_mem hx), ?_, h.r0, h.r1⟩
        · rcases List.mem_append.1 hx with hx | hx
          · exact h.m0 x hx
          · exact a2 x hx
        · show (S.f0 ++ (ercF S.e1 (atM S.f1 a)).1.1 : List Msg).length + (cutM S.f1 a).length ≤ _
          rw [len_app S.f0]; omega
theorem GoodP.rd {S : Pr} {n k : Nat} (h : GoodP S n k) (i m : Int) (hm : m ≤ 100) : GoodP (prF S i m).2 n (k + 100) := by
  have l0 := erd_len S.e0 m
  have l1 := erd_len S.e1 m
  have h0 := h.r0
  have h1 := h.r1
  unfold prF
  split
  · unfold prF0
    split <;> exact ⟨h.e0.rd m, h.e1, h.m0, h.m1, h.fl, by show (S.r0 ++ _).length ≤ _; rw [List.length_append]; omega, by show S.r1.length ≤ _; omega⟩
  · unfold prF1
    split <;> exact ⟨h.e0, h.e1.rd m, h.m0, h.m1, h.fl, by show S.r0.length ≤ _; omega, by show (S.r1 ++ _).length ≤ _; rw [List.length_append]; omega⟩
theorem lt_of_eq_left {a c b : Int} (e : a = c) (h : a < b) : c < b := e ▸ h
theorem lt_of_eq_right {a c b : Int} (e : a = c) (h : b < a) : b < c := e ▸ h
theorem GoodP.wr {S : Pr} {n k : Nat} (h : GoodP S n k) (i : Int) {l : List Int} (hl : inBytes l) : GoodP (pwF S i l).2 n k ∧ ((pwF S i l).1.1 : Bool) = true := by
  unfold pwF
  split
  · obtain ⟨c, ⟨c1, c2⟩, c3, c4, c5⟩ := h.e0.wr hl
    have q1 : ¬ ((ewrF S.e0 l).1.1 : Int) < 0 := fun hh => absurd (show c < 0 from lt_of_eq_left c3 hh) (Int.not_lt.2 c1)
    have q2 : ¬ (l.length : Int) < ((ewrF S.e0 l).1.1 : Int) := fun hh => absurd (show (l.length : Int) < c from lt_of_eq_right c3 hh) (Int.not_lt.2 c2)
    unfold pwF0
    rw [if_neg q1, if_neg q2, c3]
    have e : (l.take c.toNat).drop (0 : Int).toNat = l.take c.toNat := rfl
    split
    · exact ⟨⟨by rw [e]; exact c5, h.e1, h.m0, h.m1, h.fl, h.r0, h.r1⟩, rfl⟩
    · rename_i hz
      rw [if_pos (c4.resolve_left hz)]
      exact ⟨⟨by rw [e]; exact c5, h.e1, h.m0, h.m1, h.fl, h.r0, h.r1⟩, rfl⟩
  · obtain ⟨c, ⟨c1, c2⟩, c3, c4, c5⟩ := h.e1.wr hl
    have q1 : ¬ ((ewrF S.e1 l).1.1 : Int) < 0 := fun hh => absurd (show c < 0 from lt_of_eq_left c3 hh) (Int.not_lt.2 c1)
    have q2 : ¬ (l.length : Int) < ((ewrF S.e1 l).1.1 : Int) := fun hh => absurd (show (l.length : Int) < c from lt_of_eq_right c3 hh) (Int.not_lt.2 c2)
    unfold pwF1
    rw [if_neg q1, if_neg q2, c3]
    have e : (l.take c.toNat).drop (0 : Int).toNat = l.take c.toNat := rfl
    split
    · exact ⟨⟨h.e0, by rw [e]; exact c5, h.m0, h.m1, h.fl, h.r0, h.r1⟩, rfl⟩
    · rename_i hz
      rw [if_pos (c4.resolve_left hz)]
      exact ⟨⟨h.e0, by rw [e]; exact c5, h.m0, h.m1, h.fl, h.r0, h.r1⟩, rfl⟩
end Go.Proofs.Ytldabjgegpmmiaa
