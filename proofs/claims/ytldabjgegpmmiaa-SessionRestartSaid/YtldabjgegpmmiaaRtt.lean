/-
  Layer 47: SessionRestart, plain: an end whose peer has restarted.
-/
import Derived.Test.YtldabjgegpmmiaaLve
import Derived.Test.YtldabjgegpmmiaaStl
namespace Go.Proofs.Ytldabjgegpmmiaa
set_option linter.all false
set_option linter.unusedVariables false
set_option linter.unusedSimpArgs false
set_option linter.unusedSectionVars false
open Go.RowKit Go.Sx
variable {u v N : Int} {S : Pr} {E F : Edd} {d : List Int}
/-- A message to the old end, to the fresh end. -/
structure M0 (N : Int) (m : Msg) : Prop where
  g : GoodM m
  k : m.2.1 = 20 ∧ (m.1 = 1 ∧ m.2.2.1 = 0 ∨ (2 ≤ m.1 ∧ m.1 ≤ 4) ∧ m.2.2.1 = 10) ∨ m.2.1 = N ∧ (1 ≤ m.1 ∧ m.1 ≤ 5) ∧ 0 ≤ m.2.2.1 ∧ m.2.2.1 < 1099511627776
structure M1 (N : Int) (m : Msg) : Prop where
  g : GoodM m
  k : m.2.1 = 10 ∧ (1 ≤ m.1 ∧ m.1 ≤ 5) ∧ (0 ≤ m.2.2.1 ∧ m.2.2.1 < 1099511627776) ∧ (m.2.2.1 = N → m.1 = 5)
abbrev Pk (x : Msg) (i : Int) (P : Int → Int → Prop) : Prop := x.2.1 = i ∧ P x.1 x.2.2.1
structure O0 (N : Int) (E : Edd) (d : List Int) : Prop where
  g : GoodE E d
  i : E.inc = 10
  s : E.peer = 20 ∧ E.st = 2 ∨ E.peer = N ∧ E.st = 3
  cf : E.w.closed = false ∧ E.w.fin = false
structure O1 (N : Int) (F : Edd) : Prop where
  g : GoodE F []
  i : F.inc = N
  s : F.peer = 0 ∧ F.st = 1 ∨ F.peer = 10 ∧ (F.st = 2 ∨ F.st = 3)
  r : F.r = ⟨newS 4, 4⟩
  w : F.w = newW 4 3
  o : F.owed = false
theorem tick_cl (W : Wri) (m : Int) : (tick W m).2.closed = W.closed := by
  have hI : (tickIdle W).2.closed = W.closed := by unfold tickIdle; (repeat' split) <;> rfl
  have hB : (tickB W).2.closed = W.closed := by unfold tickB; (repeat' split) <;> first | rfl | exact hI
  have hA : (tickA W).2.closed = W.closed := by unfold tickA; (repeat' split) <;> first | rfl | exact hB
  unfold tick; (repeat' split) <;> first | rfl | exact hA
theorem ack_cf {W : Wri} (h : W.closed = false ∧ W.fin = false) (o r : Int) (b : Bool) : (ackF W o r b).2.closed = false ∧ (ackF W o r b).2.fin = false := by
  obtain ⟨h1, h2⟩ := h
  have hm : b = false → (ackM W o r b).2.closed = false ∧ (ackM W o r b).2.fin = false := fun hb => by
    unfold ackM
    (repeat' split) <;> exact ⟨h1, by first | exact h2 | (show (W.fin || b) = false; rw [h2, hb]; rfl)⟩
  cases b with
  | false =>
    unfold ackF
    rw [if_neg (c := false = true) Bool.false_ne_true]
    (repeat' split) <;> first | exact ⟨h1, h2⟩ | exact hm rfl
  | true =>
    unfold ackF
    rw [if_pos (c := true = true) rfl, if_pos h1]
    (repeat' split) <;> exact ⟨h1, h2⟩
theorem etk_cf (h : E.w.closed = false ∧ E.w.fin = false) (m : Int) : (etkF E m).2.w.closed = false ∧ (etkF E m).2.w.fin = false := by
  have ht : (tick E.w m).2.closed = false ∧ (tick E.w m).2.fin = false := ⟨(tick_cl _ _).trans h.1, (tick_fin _ _).1.trans h.2⟩
  unfold etkF
  (repeat' split) <;> first | exact h | exact ht
theorem O0.tick (hN : 21 ≤ N) (h : O0 N E d) (m : Int) : O0 N (etkF E m).2 d ∧ (∀ x ∈ ((etkF E m).1.1 : List Msg), M1 N x) ∧ (etkF E m).2.st = E.st := by
  obtain ⟨h1, h2, h3, h4⟩ := h
  obtain ⟨g1, g2⟩ := h1.tick m
  have hst := etk_st E m
  have hcf := etk_cf h4 m
  have hk : (etkF E m).2.inc = E.inc ∧ (etkF E m).2.peer = E.peer ∧ ∀ x ∈ ((etkF E m).1.1 : List Msg), Pk x E.inc (fun k y => (k = 1 ∧ E.st = 1 ∨ (k = 3 ∨ k = 4) ∧ (E.st = 2 ∨ E.st = 4)) ∧ y = E.peer) := by
    unfold etkF
    (repeat' split) <;> refine ⟨rfl, rfl, ?_⟩ <;> first | exact nil_msg | skip
    · rename_i q _; exact one_msg ⟨rfl, .inl ⟨rfl, q⟩, rfl⟩
    · rename_i q _ _; exact two_msg ⟨rfl, .inr ⟨.inl rfl, .inl q⟩, rfl⟩ ⟨rfl, .inr ⟨.inr rfl, .inl q⟩, rfl⟩
    · rename_i q _ _; exact one_msg ⟨rfl, .inr ⟨.inl rfl, .inl q⟩, rfl⟩
    · rename_i q _ _; exact one_msg ⟨rfl, .inr ⟨.inr rfl, .inl q⟩, rfl⟩
    · rename_i q; exact one_msg ⟨rfl, .inr ⟨.inr rfl, .inr q⟩, rfl⟩
  obtain ⟨k1, k2, k3⟩ := hk
  refine ⟨⟨g1, k1.trans h2, by rw [k2, hst]; exact h3, hcf⟩, fun x hx => ⟨g2 x hx, ?_⟩, hst⟩
  have q : Pk x E.inc (fun k y => (k = 1 ∧ E.st = 1 ∨ (k = 3 ∨ k = 4) ∧ (E.st = 2 ∨ E.st = 4)) ∧ y = E.peer) := k3 x hx
  dsimp only [Pk] at q
  omega
theorem etk_rR (E : Edd) (m : Int) : (etkF E m).2.r = E.r := by unfold etkF; (repeat' split) <;> rfl
theorem tick_new : tick (newW 4 3) 9 = (((0, [], false), false, ()), newW 4 3) := by rfl
theorem O1.tick (hN : 21 ≤ N ∧ N < 1000) (h : O1 N F) : O1 N (etkF F 9).2 ∧ (∀ x ∈ ((etkF F 9).1.1 : List Msg), M0 N x) := by
  obtain ⟨h1, h2, h3, h4, h5, h6⟩ := h
  obtain ⟨g1, g2⟩ := h1.tick 9
  have key : (etkF F 9).2.inc = F.inc ∧ (etkF F 9).2.peer = F.peer ∧ (etkF F 9).2.st = F.st ∧ (etkF F 9).2.r = F.r ∧ (etkF F 9).2.w = newW 4 3 ∧ (etkF F 9).2.owed = false ∧ ∀ x ∈ ((etkF F 9).1.1 : List Msg), Pk x F.inc (fun k y => k = 1 ∧ y = F.peer) := by
    refine ⟨?_, ?_, etk_st F 9, etk_rR F 9, ?_, ?_, ?_⟩
    · unfold etkF; (repeat' split) <;> rfl
    · unfold etkF; (repeat' split) <;> rfl
    · have e := h5; unfold etkF; rw [h5, tick_new]; (repeat' split) <;> first | exact e | rfl
    · unfold etkF; (repeat' split) <;> first | exact h6 | rfl
    · unfold etkF
      rw [h5, tick_new, h6]
      (repeat' split) <;> first | exact nil_msg | exact one_msg ⟨rfl, rfl, rfl⟩ | (rename_i q; exact absurd q Bool.false_ne_true) | (rename_i q _; exact absurd q Bool.false_ne_true)
  obtain ⟨k1, k2, k3, k4, k5, k6, k7⟩ := key
  refine ⟨⟨g1, k1.trans h2, by rw [k2, k3]; exact h3, k4.trans h4, k5, k6⟩, fun x hx => ⟨g2 x hx, .inr ?_⟩⟩
  have q : Pk x F.inc (fun k y => k = 1 ∧ y = F.peer) := k7 x hx
  dsimp only [Pk] at q
  rw [k1] at *
  omega
theorem O0.rcv (hN : 21 ≤ N ∧ N < 1000) (h : O0 N E d) {m : Msg} (hm : M0 N m) : O0 N (ercF E m).2 d ∧ (∀ x ∈ ((ercF E m).1.1 : List Msg), M1 N x) ∧ (E.st = 3 ∨ m.2.1 = N → (ercF E m).2.st = 3) := by
  obtain ⟨h1, h2, h3, h4⟩ := h
  obtain ⟨g1, g2⟩ := h1.rcv hm.g
  have hk := hm.k
  have hcf := ack_cf h4 m.2.2.2.2.1 m.2.2.2.2.2.1 m.2.2.2.2.2.2
  have key : ((ercF E m).2.inc = 10 ∧ ((ercF E m).2.peer = 20 ∧ (ercF E m).2.st = 2 ∨ (ercF E m).2.peer = N ∧ (ercF E m).2.st = 3) ∧ (ercF E m).2.w.closed = false ∧ (ercF E m).2.w.fin = false) ∧ (∀ x ∈ ((ercF E m).1.1 : List Msg), Pk x 10 (fun k y => k = 2 ∧ y = 20 ∨ k = 5 ∧ y = N)) ∧ (E.st = 3 ∨ m.2.1 = N → (ercF E m).2.st = 3) := by
    unfold ercF
    rw [if_neg (by omega), if_neg (by omega), if_neg (by omega), if_neg (by omega), if_neg (by omega), if_neg (by omega)]
    by_cases c1 : m.2.1 < E.peer
    · rw [if_pos c1]
      exact ⟨⟨h2, h3, h4⟩, nil_msg, fun q => by show E.st = 3; omega⟩
    rw [if_neg c1, if_neg (show ¬ E.peer = 0 by omega)]
    by_cases c2 : E.peer < m.2.1
    · rw [if_pos c2]
      unfold refuL refu
      rw [if_neg (show ¬ E.st = 4 by omega)]
      split
      · exact ⟨⟨h2, .inr ⟨by show m.2.1 = N; omega, rfl⟩, h4⟩, nil_msg, fun _ => rfl⟩
      · exact ⟨⟨h2, .inr ⟨by show m.2.1 = N; omega, rfl⟩, h4⟩, one_msg ⟨h2, .inr ⟨rfl, by show m.2.1 = N; omega⟩⟩, fun _ => rfl⟩
    rw [if_neg c2]
    unfold erc1
    by_cases c3 : E.st = 3
    · rw [if_pos c3]
      unfold refu
      split
      · exact ⟨⟨h2, h3, h4⟩, nil_msg, fun _ => c3⟩
      · exact ⟨⟨h2, h3, h4⟩, one_msg ⟨h2, .inr ⟨rfl, by show m.2.1 = N; omega⟩⟩, fun _ => c3⟩
    rw [if_neg c3]
    have c4 : m.2.1 = 20 := by omega
    by_cases c5 : m.1 = 1
    · rw [if_pos c5, if_neg (show ¬ E.peer = 0 by omega)]
      exact ⟨⟨h2, h3, h4⟩, one_msg ⟨h2, .inl ⟨rfl, c4⟩⟩, fun q => by show E.st = 3; omega⟩
    rw [if_neg c5, if_pos (show m.2.2.1 = E.inc by omega)]
    unfold erc2
    rw [if_neg (show ¬ E.st = 0 by omega), if_neg (show ¬ m.1 = 5 by omega), if_neg (show ¬ E.st = 1 by omega)]
    unfold takE setA
    have hs2 : E.peer = 20 ∧ E.st = 2 := by omega
    split
    · split
      · exact ⟨⟨h2, .inl hs2, h4⟩, nil_msg, fun q => by show E.st = 3; omega⟩
      · exact ⟨⟨h2, .inl hs2, h4⟩, nil_msg, fun q => by show E.st = 3; omega⟩
    · split
      · rw [if_pos hs2.2, if_neg (by rw [hcf.2]; exact Bool.false_ne_true)]
        exact ⟨⟨h2, .inl hs2, hcf⟩, nil_msg, fun q => by show E.st = 3; omega⟩
      · exact ⟨⟨h2, .inl hs2, h4⟩, nil_msg, fun q => by show E.st = 3; omega⟩
  obtain ⟨⟨k1, k2, k3⟩, k4, k5⟩ := key
  refine ⟨⟨g1, k1, k2, k3⟩, fun x hx => ⟨g2 x hx, ?_⟩, k5⟩
  have q : Pk x 10 (fun k y => k = 2 ∧ y = 20 ∨ k = 5 ∧ y = N) := k4 x hx
  dsimp only [Pk] at q
  omega
theorem O1.rcv (hN : 21 ≤ N ∧ N < 1000) (h : O1 N F) {m : Msg} (hm : M1 N m) : O1 N (ercF F m).2 ∧ (∀ x ∈ ((ercF F m).1.1 : List Msg), M0 N x) := by
  obtain ⟨h1, h2, h3, h4, h5, h6⟩ := h
  obtain ⟨g1, g2⟩ := h1.rcv hm.g
  have hk := hm.k
  have key : ((ercF F m).2.inc = N ∧ ((ercF F m).2.peer = 0 ∧ (ercF F m).2.st = 1 ∨ (ercF F m).2.peer = 10 ∧ ((ercF F m).2.st = 2 ∨ (ercF F m).2.st = 3)) ∧ (ercF F m).2.r = F.r ∧ (ercF F m).2.w = F.w ∧ (ercF F m).2.owed = F.owed) ∧ (∀ x ∈ ((ercF F m).1.1 : List Msg), Pk x N (fun k y => (k = 2 ∨ k = 5) ∧ y = 10)) := by
    unfold ercF
    rw [if_neg (by omega), if_neg (by omega), if_neg (by omega), if_neg (by omega), if_neg (by omega), if_neg (by omega), if_neg (by omega)]
    have e1 : ((erc1 F m).2.inc = N ∧ ((erc1 F m).2.peer = 0 ∧ (erc1 F m).2.st = 1 ∨ (erc1 F m).2.peer = 10 ∧ ((erc1 F m).2.st = 2 ∨ (erc1 F m).2.st = 3)) ∧ (erc1 F m).2.r = F.r ∧ (erc1 F m).2.w = F.w ∧ (erc1 F m).2.owed = F.owed) ∧ (∀ x ∈ ((erc1 F m).1.1 : List Msg), Pk x N (fun k y => (k = 2 ∨ k = 5) ∧ y = 10)) := by
      unfold erc1
      by_cases c3 : F.st = 3
      · rw [if_pos c3]
        unfold refu
        split
        · exact ⟨⟨h2, h3, rfl, rfl, rfl⟩, nil_msg⟩
        · exact ⟨⟨h2, h3, rfl, rfl, rfl⟩, one_msg ⟨h2, .inr rfl, hk.1⟩⟩
      rw [if_neg c3]
      by_cases c5 : m.1 = 1
      · rw [if_pos c5]
        split
        · exact ⟨⟨h2, .inr ⟨hk.1, .inl rfl⟩, rfl, rfl, rfl⟩, one_msg ⟨h2, .inl rfl, hk.1⟩⟩
        · exact ⟨⟨h2, h3, rfl, rfl, rfl⟩, one_msg ⟨h2, .inl rfl, hk.1⟩⟩
      rw [if_neg c5]
      by_cases c6 : m.2.2.1 = F.inc
      · rw [if_pos c6]
        unfold erc2 noM
        rw [if_neg (show ¬ F.st = 0 by omega), if_pos (hk.2.2.2 (c6.trans h2)), if_neg (show ¬ F.st = 4 by omega)]
        exact ⟨⟨h2, .inr ⟨hk.1, .inr rfl⟩, rfl, rfl, rfl⟩, nil_msg⟩
      · rw [if_neg c6]
        unfold refu
        split
        · exact ⟨⟨h2, h3, rfl, rfl, rfl⟩, nil_msg⟩
        · exact ⟨⟨h2, h3, rfl, rfl, rfl⟩, one_msg ⟨h2, .inr rfl, hk.1⟩⟩
    split
    · exact e1
    · rw [if_neg (show ¬ F.peer < m.2.1 by omega)]; exact e1
  obtain ⟨⟨k1, k2, k3, k4, k5⟩, k6⟩ := key
  refine ⟨⟨g1, k1, k2, k3.trans h4, k4.trans h5, k5.trans h6⟩, fun x hx => ⟨g2 x hx, .inr ?_⟩⟩
  have q : Pk x N (fun k y => (k = 2 ∨ k = 5) ∧ y = 10) := k6 x hx
  dsimp only [Pk] at q
  omega
/-- The rounds behind the restart: w0 is what was written at the old end. -/
structure RR (N : Int) (S : Pr) (n : Nat) : Prop where
  e0 : O0 N S.e0 S.w0
  e1 : O1 N S.e1
  m0 : ∀ m ∈ S.f0, M0 N m
  m1 : ∀ m ∈ S.f1, M1 N m
  fl : S.f0.length + S.f1.length ≤ n
/-- The old end is broken, or a message of the fresh end is near. -/
def Br (N : Int) (S : Pr) (k : Int) : Prop := S.e0.st = 3 ∨ ∃ pre m post, S.f0 = pre ++ m :: post ∧ m.2.1 = N ∧ (pre.length : Int) < k
theorem RR.tick (hN : 21 ≤ N ∧ N < 1000) {n : Nat} (h : RR N S n) : RR N (ptickF S 9).2 (n + 4) ∧ (∀ k, Br N S k → Br N (ptickF S 9).2 k) := by
  obtain ⟨a1, a2, a3⟩ := h.e0.tick hN.1 9
  obtain ⟨b1, b2⟩ := h.e1.tick hN
  have l0 := etk_len S.e0 9
  have l1 := etk_len S.e1 9
  have hf := h.fl
  refine ⟨⟨a1, b1, fun x hx => ?_, fun x hx => ?_, ?_⟩, fun k hb => ?_⟩
  · rcases List.mem_append.1 hx with hx | hx
    · exact h.m0 x hx
    · exact b2 x hx
  · rcases List.mem_append.1 hx with hx | hx
    · exact h.m1 x hx
    · exact a2 x hx
  · show (S.f0 ++ _).length + (S.f1 ++ _).length ≤ _
    rw [List.length_append, List.length_append]
    omega
  · rcases hb with q | ⟨pre, m, post, q1, q2, q3⟩
    · exact .inl (a3.trans q)
    · exact .inr ⟨pre, m, post ++ (etkF S.e1 9).1.1, by show S.f0 ++ _ = _; rw [q1, List.append_assoc]; rfl, q2, q3⟩
theorem RR.arrA (hN : 21 ≤ N ∧ N < 1000) {n : Nat} (h : RR N S n) : RR N (paF S 0 0 false).2 n ∧ (paF S 0 0 false).2.w0 = S.w0 ∧ (∀ k, Br N S k → Br N (paF S 0 0 false).2 (k - 1)) := by
  cases hf : S.f0 with
  | nil =>
    rw [arrA_nil hf]
    refine ⟨h, rfl, fun k hb => hb.imp_right ?_⟩
    rintro ⟨pre, m, post, q1, _⟩
    rw [hf] at q1
    cases pre <;> cases q1
  | cons x l =>
    obtain ⟨a1, a2, a3⟩ := h.e0.rcv hN (h.m0 x (by rw [hf]; exact List.mem_cons_self ..))
    have hl := erc_len S.e0 x
    have hn := h.fl
    rw [hf, List.length_cons] at hn
    rw [arrA_cons hf]
    refine ⟨⟨a1, h.e1, fun y hy => h.m0 y (by rw [hf]; exact List.mem_cons_of_mem _ hy), fun y hy => ?_, ?_⟩, rfl, fun k hb => ?_⟩
    · rcases List.mem_append.1 hy with hy | hy
      · exact h.m1 y hy
      · exact a2 y hy
    · show l.length + (S.f1 ++ _).length ≤ n
      rw [List.length_append]; omega
    · rcases hb with q | ⟨pre, m, post, q1, q2, q3⟩
      · exact .inl (a3 (.inl q))
      · rw [hf] at q1
        cases pre with
        | nil => cases q1; exact .inl (a3 (.inr q2))
        | cons z pre => cases q1; exact .inr ⟨pre, m, post, rfl, q2, by rw [List.length_cons] at q3; omega⟩
theorem RR.arrB (hN : 21 ≤ N ∧ N < 1000) {n : Nat} (h : RR N S n) : RR N (paF S 1 0 false).2 n ∧ (paF S 1 0 false).2.w0 = S.w0 ∧ (∀ k, Br N S k → Br N (paF S 1 0 false).2 k) := by
  cases hf : S.f1 with
  | nil => rw [arrB_nil hf]; exact ⟨h, rfl, fun k hb => hb⟩
  | cons x l =>
    obtain ⟨a1, a2⟩ := h.e1.rcv hN (h.m1 x (by rw [hf]; exact List.mem_cons_self ..))
    have hl := erc_len S.e1 x
    have hn := h.fl
    rw [hf, List.length_cons] at hn
    rw [arrB_cons hf]
    refine ⟨⟨h.e0, a1, fun y hy => ?_, fun y hy => h.m1 y (by rw [hf]; exact List.mem_cons_of_mem _ hy), ?_⟩, rfl, fun k hb => ?_⟩
    · rcases List.mem_append.1 hy with hy | hy
      · exact h.m0 y hy
      · exact a2 y hy
    · show (S.f0 ++ _).length + l.length ≤ n
      rw [List.length_append]; omega
    · rcases hb with q | ⟨pre, m, post, q1, q2, q3⟩
      · exact .inl q
      · exact .inr ⟨pre, m, post ++ (ercF S.e1 x).1.1, by show S.f0 ++ _ = _; rw [q1, List.append_assoc]; rfl, q2, q3⟩
theorem Br.zero (h : Br N S 0) : S.e0.st = 3 := h.resolve_right fun ⟨pre, _, _, _, _, q⟩ => by omega
/-- The state behind the restart. -/
def rstP (S : Pr) (N : Int) : Pr := { S with e1 := (connF (newEd N 4 3)).2, r1 := [] }
theorem rstP_rr (hN : 21 ≤ N ∧ N < 1000) (h : PP u v S) {n k : Nat} (hg : GoodP S n k) (hq : QX false S) (hs : S.e0.st = 2) : RR N (rstP S N) n := by
  have hpe : S.e0.peer = 20 := by have := h.ea.st; omega
  have hcf : S.e0.w.closed = false ∧ S.e0.w.fin = false := by
    refine ⟨hq.1.cl, ?_⟩
    cases hf : S.e0.w.fin with
    | false => rfl
    | true =>
      have h1 := (h.ef.fin (h.ef.fw hf).1).1
      rw [hq.1.cl] at h1; cases h1
  refine ⟨⟨hg.e0, h.ea.inc, .inl ⟨hpe, hs⟩, hcf⟩, ⟨(GoodE.new (by decide) (by decide)).conn, rfl, .inl ⟨rfl, rfl⟩, rfl, rfl, rfl⟩, fun m hm => ⟨hg.m0 m hm, .inl ?_⟩, fun m hm => ⟨hg.m1 m hm, ?_⟩, hg.fl⟩
  · obtain ⟨k1, k2⟩ := h.me m hm
    refine ⟨k1, ?_⟩
    rcases k2 with k2 | ⟨q1, q2⟩
    · exact .inl k2
    · refine .inr ⟨?_, q1⟩
      rcases q2 with q | q | q
      · omega
      · have := q.1; omega
      · have := q.1; omega
  · obtain ⟨k1, k2⟩ := h.mf m hm
    refine ⟨k1, ?_⟩
    rcases k2 with k2 | ⟨q1, q2⟩
    · omega
    · rcases q2 with q | q | q
      · omega
      · have := q.1; omega
      · have := q.1; omega
theorem rstP_br (hN : 21 ≤ N ∧ N < 1000) {n : Nat} (h : RR N S n) (hn : n ≤ 300) (h1 : S.e1.st = 1 ∧ S.e1.wait = 0) : Br N (ptickF S 9).2 320 := by
  have hf := h.fl
  refine .inr ⟨S.f0, helloM S.e1, [], ?_, h.e1.i, by omega⟩
  show S.f0 ++ (etkF S.e1 9).1.1 = S.f0 ++ [helloM S.e1]
  rw [(etk_ask h1.1).1 h1.2]
/-- What the law asks for. -/
structure RtE (S : Pr) : Prop where
  st : S.e0.st = 3
  tk : S.e0.w.taken = S.w0.length
  bs : 0 ≤ S.e0.w.base ∧ S.e0.w.base ≤ S.e0.w.taken
  dt : ((erdF S.e1 100).1.1 : List Int) = []
theorem RR.fin {n : Nat} (h : RR N S n) (hb : Br N S 0) : RtE S := by
  have hk := h.e0.g.w.ok
  refine ⟨hb.zero, h.e0.g.w.taken, ⟨hk.base, by have := hk.next; omega⟩, ?_⟩
  have e : ∀ m : Int, ((erdF S.e1 m).1.1 : List Int) = (rdF S.e1.r m).1.1 := fun m => by unfold erdF erdN erdS; (repeat' split) <;> rfl
  rw [e, h.e1.r]
  decide +kernel
theorem RR.okE {n : Nat} (h : RR N S n) : OkE S.e0 ∧ OkE S.e1 := ⟨h.e0.g.ok, h.e1.g.ok⟩
theorem RR.preT {n : Nat} (h : RR N S n) (hn : n ≤ 1000000) : ptickSpec.pre S (9, ()) := ⟨h.okE, by have := h.fl; omega, by have := h.fl; omega⟩
theorem RR.preA {n : Nat} (h : RR N S n) (hn : n ≤ 1000000) {i : Int} (hi : i = 0 ∨ i = 1) : parSpec.pre S (i, 0, false, ()) :=
  ⟨hi, h.okE, ⟨by have := h.fl; omega, by have := h.fl; omega⟩, ⟨Int.le_refl _, (show (0 : Int) ≤ 1000000 by decide)⟩, fun m hm => (h.m0 m hm).g.1, fun m hm => (h.m1 m hm).g.1⟩
/-! ### before the restart -/
theorem st_not4 {a b : Int} {r d : List Int} (hd : Dn E.w F.r d r) (he : EI a b u E) (hq : Wx false E.w) : ¬ E.st = 4 := fun h => by
  have h1 := (he.fin h).1
  have h2 := (hd.fin (hd.fw h1).1).1
  rw [hq.cl] at h2; cases h2

theorem calR_ask (h : PP u v S) (h0 : S.f0 = []) (h1 : S.f1 = []) (ha : S.e0.st = 1 ∧ S.e0.wait = 0) : Jb (calR S) := by
  have hst0 : (ptickF S 9).2.e0.st = S.e0.st := etk_st _ _
  have hf1 : (ptickF S 9).2.f1 = (etkF S.e0 9).1.1 := by show S.f1 ++ _ = _; rw [h1]; rfl
  refine calR_both h h0 h1 ⟨.inr (.inr ⟨by omega, helloM S.e0, ?_, rfl⟩), .inr (.inl ⟨helloM S.e0, ?_, .inl rfl⟩)⟩
  · rw [hf1, (etk_ask ha.1).1 ha.2]; exact List.mem_singleton.2 rfl
  · rw [hf1, (etk_ask ha.1).1 ha.2]; exact List.mem_singleton.2 rfl
theorem calN3 (S : Pr) : calN 3 S = calR (calR (calR S)) := rfl
theorem joined3 (w : Int) : Jb (calN 3 (conP w 1)) := by
  have pp := PP.new w 1
  have hc : ∀ (i z : Int) (p : Prop) [Decidable p], p → cnE i z p = { newEd i z 3 with st := 1 } := fun i z p _ h => by
    unfold cnE; rw [if_pos h]; rfl
  have e0 : (conP w 1).e0 = { newEd 10 (1 + w % 16) 3 with st := 1 } := hc 10 (1 + w % 16) ((1 : Int) % 2 = 1) (by decide)
  have h1 : Jb (calR (conP w 1)) := calR_ask pp rfl rfl (by rw [e0]; exact ⟨rfl, rfl⟩)
  have h2 : Jb (calR (calR (conP w 1))) := ⟨(calR_jd pp.calR).1 h1.1, (calR_jd pp.calR).2 h1.2⟩
  rw [calN3]
  exact ⟨(calR_jd pp.calR.calR).1 h2.1, (calR_jd pp.calR.calR).2 h2.2⟩
theorem erd_jd (E : Edd) (m : Int) (h : Jd E) : Jd (erdF E m).2 := (erd_keep E m).1 h
theorem Jb.arr (h : PP u v S) (hj : Jb S) (i k : Int) (keep : Bool) : Jb (paF S i k keep).2 := by
  unfold paF
  split
  · unfold paF0
    split
    · exact hj
    · rename_i h0
      have h1 := (PI.ans h (atM_mem (k := k) h0)).2.1
      split <;> exact ⟨h1, hj.2⟩
  · unfold paF1
    split
    · exact hj
    · rename_i h0
      have h1 := (PI.ans (PI.swap h) (atM_mem (k := k) h0)).2.1
      split <;> exact ⟨hj.1, h1⟩
theorem Jb.tick (hj : Jb S) (m : Int) : Jb (ptickF S m).2 := ⟨by unfold Jd; show (etkF S.e0 m).2.st = 2 ∨ (etkF S.e0 m).2.st = 4; rw [etk_st]; exact hj.1, by unfold Jd; show (etkF S.e1 m).2.st = 2 ∨ (etkF S.e1 m).2.st = 4; rw [etk_st]; exact hj.2⟩
theorem Jb.evt (h : PP u v S) (hj : Jb S) (e : Int) : Jb (evtF S e).2 := by
  have hw : ∀ i l, Jb (pwF S i l).2 := fun i l => by
    have q0 : Jd (ewrF S.e0 l).2 := by unfold Jd; rw [ewr_st]; exact hj.1
    have q1 : Jd (ewrF S.e1 l).2 := by unfold Jd; rw [ewr_st]; exact hj.2
    unfold pwF pwF0 pwF1
    (repeat' split) <;> first | exact ⟨q0, hj.2⟩ | exact ⟨hj.1, q1⟩
  have hr : ∀ i m, Jb (prF S i m).2 := fun i m => by
    have q0 := erd_jd S.e0 m hj.1
    have q1 := erd_jd S.e1 m hj.2
    unfold prF prF0 prF1
    (repeat' split) <;> first | exact ⟨q0, hj.2⟩ | exact ⟨hj.1, q1⟩
  unfold evtF ev1
  split; · exact hw _ _
  split; · exact hw _ _
  split; · exact hr _ _
  split; · exact Jb.arr h hj _ _ _
  split
  · unfold losF
    (repeat' split) <;> exact hj
  · exact Jb.arr ((h.tick _).arr _ _ _) (Jb.arr (h.tick _) (Jb.tick hj _) _ _ _) _ _ _
end Go.Proofs.Ytldabjgegpmmiaa
