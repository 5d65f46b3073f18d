/-
  One direction in quiet rounds, in numbers: a measure that falls with each round (plain).
-/
import Derived.Test.YtldabjgegpmmiaaDrn
namespace Go.Proofs.Ytldabjgegpmmiaa
set_option linter.all false
set_option linter.unusedVariables false
set_option linter.unusedSimpArgs false
set_option linter.unusedSectionVars false
set_option maxHeartbeats 16000000

/-- Writer: base, next, taken, room, idle, ended; reader: contiguous, window, end known, confirmation owed. -/
structure NS where
  b : Int
  x : Int
  t : Int
  p : Int
  i : Int
  en : Int
  n : Int
  v : Int
  kn : Int
  ow : Int
structure NOk (s : NS) : Prop where
  bn : 0 ≤ s.b ∧ s.b ≤ s.n ∧ s.n ≤ s.t
  bx : s.b ≤ s.x ∧ s.x ≤ s.t
  p0 : 0 ≤ s.p
  i0 : 0 ≤ s.i ∧ s.i ≤ 2
  v1 : 1 ≤ s.v
  tb : s.t - s.b ≤ 16
  en : (s.en = 0 ∨ s.en = 1 ∧ s.x = s.t)
  kn : s.kn = 0 ∨ s.kn = 1
  ow : s.ow = 0 ∨ s.ow = 1
/-- The writer's tick: next, idle, ended behind it; whether a segment was sent (1), its offset, length, last. -/
def TkR (s : NS) (x i en sent o k l : Int) : Prop :=
  (s.x < s.t ∧ s.x < s.b + s.p ∧ 1 ≤ k ∧ s.x + k ≤ s.t ∧ s.x + k ≤ s.b + s.p ∧ o = s.x ∧ x = s.x + k ∧ i = 0 ∧ sent = 1 ∧ (s.x + k = s.t ∧ l = 1 ∧ en = 1 ∨ s.x + k < s.t ∧ l = 0 ∧ en = 0)) ∨
  (s.x = s.t ∧ s.en = 0 ∧ o = s.t ∧ k = 0 ∧ l = 1 ∧ x = s.x ∧ i = 0 ∧ en = 1 ∧ sent = 1) ∨
  ((¬ (s.x < s.t ∧ s.x < s.b + s.p) ∧ ¬ (s.x = s.t ∧ s.en = 0)) ∧
    ((s.i + 1 < 3 ∧ x = s.x ∧ i = s.i + 1 ∧ en = s.en ∧ sent = 0 ∧ o = 0 ∧ k = 0 ∧ l = 0) ∨
     (3 ≤ s.i + 1 ∧ (s.b < s.x ∨ s.en = 1) ∧ x = s.b ∧ i = 0 ∧ en = 0 ∧ sent = 0 ∧ o = 0 ∧ k = 0 ∧ l = 0) ∨
     (3 ≤ s.i + 1 ∧ s.b = s.x ∧ s.en = 0 ∧ x = s.x ∧ i = 0 ∧ en = 0 ∧ sent = 1 ∧ o = s.b ∧ k = 0 ∧ l = 0)))
/-- One round; f: the end was confirmed. -/
structure Rnd (s s' : NS) (f : Prop) : Prop where
  ex : ∃ x i en sent o k l : Int, TkR s x i en sent o k l ∧ s'.t = s.t ∧ s'.v = s.v ∧ s'.en = en ∧ s'.ow = sent ∧
    (s.n ≤ s'.n ∧ s'.n ≤ s.t) ∧ (sent = 1 → o ≤ s.n → o + k ≤ s'.n ∨ s.n + s.v ≤ s'.n) ∧ (sent = 0 → s'.n = s.n) ∧
    (s'.kn = 1 ∧ (s.kn = 1 ∨ sent = 1 ∧ l = 1) ∨ s'.kn = 0 ∧ s.kn = 0 ∧ l = 0) ∧
    (s.ow = 0 ∧ s'.b = s.b ∧ s'.p = s.p ∧ s'.x = x ∧ s'.i = i ∨
      s.ow = 1 ∧ (s.kn = 1 → s.n = s.t → f) ∧ (s.b = s.n ∧ s'.b = s.b ∧ s'.x = x ∧ s'.i = i ∧ (s'.p = s.p ∧ s.v ≤ s.p ∨ s'.p = s.v ∧ s.p ≤ s.v) ∨ s.b < s.n ∧ s'.b = s.n ∧ s'.p = s.v ∧ s'.i = 0 ∧ (s'.x = x ∧ s.n ≤ x ∨ s'.x = s.n ∧ x ≤ s.n)))
abbrev stG (s : NS) : Int := 2 * (s.t - s.x) + s.ow + (if s.x < s.t then 5 else if s.ow = 1 then (if s.kn = 1 then 0 else 2) else if s.en = 0 then 2 else 2 + (3 - s.i))
abbrev stC (s : NS) : Int :=
  if s.en = 1 ∧ s.kn = 0 then 50 + (3 - s.i) + 3 * s.ow
  else if 1 ≤ s.p ∧ (s.b = s.n ∨ s.ow = 1) then stG s
  else if s.ow = 1 then 40
  else 41 + (3 - s.i) + (if s.b < s.x ∨ s.en = 1 then 4 else 0)
abbrev stB (s : NS) : Int := 60 + 5 * (s.t - s.n) + 3 * (s.t - s.x) + 3 * (1 - s.en) + (3 - s.i) + (if s.b < s.n then 4 else 0)
abbrev stA (s : NS) : Int :=
  if s.ow = 1 ∧ s.kn = 1 ∧ s.n = s.t then 200
  else if s.b < s.n then (if s.ow = 1 then 200 else if s.x < s.t ∧ s.x < s.b + s.p ∨ s.x = s.t ∧ s.en = 0 then 201 else 201 + (3 - s.i))
  else if s.x = s.b ∧ s.en = 0 then 206 else 207 + 3 * (s.t - s.x) + 3 * (1 - s.en) + (3 - s.i)
def msr (s : NS) : Int := if s.n + s.v < s.b + s.p then stA s else if s.n < s.x then stB s else stC s
theorem NOk.next {s s' : NS} {f : Prop} (h : NOk s) (r : Rnd s s' f) : NOk s' := by
  obtain ⟨⟨h1, h2, h3⟩, ⟨h4, h5⟩, h6, ⟨h7, h8⟩, h9, h10, h11, h12, h13⟩ := h
  obtain ⟨x, i, en, sent, o, k, l, ht, q1, q2, q3, q4, ⟨q5, q6⟩, q7, q8, q9, q10⟩ := r.ex
  unfold TkR at ht
  refine ⟨?_, ?_, ?_, ?_, ?_, ?_, ?_, ?_, ?_⟩ <;> rcases ht with ht | ht | ⟨⟨hn1, hn2⟩, ht | ht | ht⟩ <;> omega
theorem stG_b {s : NS} (h : NOk s) : 0 ≤ stG s ∧ stG s ≤ 38 := by
  obtain ⟨⟨h1, h2, h3⟩, ⟨h4, h5⟩, h6, ⟨h7, h8⟩, h9, h10, h11, h12, h13⟩ := h
  unfold stG
  (repeat' split) <;> omega
theorem stC_b {s : NS} (h : NOk s) : 0 ≤ stC s ∧ stC s ≤ 56 := by
  have hG := stG_b h
  obtain ⟨⟨h1, h2, h3⟩, ⟨h4, h5⟩, h6, ⟨h7, h8⟩, h9, h10, h11, h12, h13⟩ := h
  unfold stC
  (repeat' split) <;> omega
theorem stB_b {s : NS} (h : NOk s) : 60 ≤ stB s ∧ stB s ≤ 198 := by
  obtain ⟨⟨h1, h2, h3⟩, ⟨h4, h5⟩, h6, ⟨h7, h8⟩, h9, h10, h11, h12, h13⟩ := h
  unfold stB
  split <;> omega
theorem stA_b {s : NS} (h : NOk s) : 200 ≤ stA s ∧ stA s ≤ 300 := by
  obtain ⟨⟨h1, h2, h3⟩, ⟨h4, h5⟩, h6, ⟨h7, h8⟩, h9, h10, h11, h12, h13⟩ := h
  unfold stA
  (repeat' split) <;> omega
theorem msr_b {s : NS} (h : NOk s) : 0 ≤ msr s ∧ msr s ≤ 300 := by
  have := stA_b h; have := stB_b h; have := stC_b h
  unfold msr
  (repeat' split) <;> omega
theorem msr_C {s s' : NS} {f : Prop} (h : NOk s) (r : Rnd s s' f) (hf : ¬ f) (h0 : ¬ s.n + s.v < s.b + s.p) (hx : ¬ s.n < s.x) : ¬ s'.n + s'.v < s'.b + s'.p ∧ ¬ s'.n < s'.x ∧ stC s' < stC s := by
  obtain ⟨⟨h1, h2, h3⟩, ⟨h4, h5⟩, h6, ⟨h7, h8⟩, h9, h10, h11, h12, h13⟩ := h
  obtain ⟨x, i, en, sent, o, k, l, ht, q1, q2, q3, q4, ⟨q5, q6⟩, q7, q8, q9, q10⟩ := r.ex
  have hnf : ¬ (s.ow = 1 ∧ s.kn = 1 ∧ s.n = s.t) := fun w => q10.elim (fun q => by omega) fun q => hf (q.2.1 w.2.1 w.2.2)
  have q20 := q10.imp_right fun q => And.intro q.1 q.2.2
  clear q10
  unfold TkR at ht
  refine ⟨?_, ?_, ?_⟩
  · rcases ht with ht | ht | ⟨⟨hn1, hn2⟩, ht | ht | ht⟩ <;> omega
  · rcases ht with ht | ht | ⟨⟨hn1, hn2⟩, ht | ht | ht⟩ <;> omega
  obtain ⟨b, x0, t, p, i0, en0, n, v, kn, ow⟩ := s
  obtain ⟨b', x', t', p', i', en', n', v', kn', ow'⟩ := s'
  dsimp only at *
  subst q1 q2 q3 q4
  unfold stC stG
  dsimp only
  have hen : en0 = 0 ∨ en0 = 1 := h11.imp_right And.left
  rcases hen with rfl | rfl <;> rcases h12 with rfl | rfl <;> rcases h13 with rfl | rfl
  all_goals
    (rcases ht with ⟨t1, t2, t3, t4, t5, rfl, rfl, rfl, rfl, ⟨t6, rfl, rfl⟩ | ⟨t6, rfl, rfl⟩⟩ | ⟨t1, t2, rfl, rfl, rfl, rfl, rfl, rfl, rfl⟩ | ⟨⟨hn1, hn2⟩, ⟨t1, rfl, rfl, rfl, rfl, rfl, rfl, rfl⟩ | ⟨t1, t2, rfl, rfl, rfl, rfl, rfl, rfl, rfl⟩ | ⟨t1, t2, t3, rfl, rfl, rfl, rfl, rfl, rfl, rfl⟩⟩)
  all_goals (try (exfalso; omega))
  all_goals
    (obtain ⟨q9, q9'⟩ | ⟨q9, q9', q9''⟩ := q9)
  all_goals (try (exfalso; omega))
  all_goals subst q9
  all_goals
    (obtain ⟨q10, rfl, rfl, rfl, rfl⟩ | ⟨q10, ⟨q12, rfl, rfl, rfl, ⟨rfl, q13⟩ | ⟨rfl, q13⟩⟩ | ⟨q12, rfl, rfl, rfl, ⟨rfl, q13⟩ | ⟨rfl, q13⟩⟩⟩ := q20)
  all_goals (try (exfalso; omega))
  all_goals (simp only [Int.reduceEq, reduceIte, true_and, and_true, false_and, and_false, or_true, true_or, or_false, false_or, if_true, if_false])
  all_goals ((repeat' split) <;> omega)
theorem msr_B {s s' : NS} {f : Prop} (h : NOk s) (r : Rnd s s' f) (hf : ¬ f) (h0 : ¬ s.n + s.v < s.b + s.p) (hx : s.n < s.x) : ¬ s'.n + s'.v < s'.b + s'.p ∧ (s'.n < s'.x → stB s' < stB s) := by
  obtain ⟨⟨h1, h2, h3⟩, ⟨h4, h5⟩, h6, ⟨h7, h8⟩, h9, h10, h11, h12, h13⟩ := h
  obtain ⟨x, i, en, sent, o, k, l, ht, q1, q2, q3, q4, ⟨q5, q6⟩, q7, q8, q9, q10⟩ := r.ex
  have q20 := q10.imp_right fun q => And.intro q.1 q.2.2
  clear q10
  unfold TkR at ht
  refine ⟨?_, fun hx' => ?_⟩
  · rcases ht with ht | ht | ⟨⟨hn1, hn2⟩, ht | ht | ht⟩ <;> omega
  unfold stB
  (repeat' split) <;> (rcases ht with ht | ht | ⟨⟨hn1, hn2⟩, ht | ht | ht⟩ <;> omega)
theorem msr_A {s s' : NS} {f : Prop} (h : NOk s) (r : Rnd s s' f) (hf : ¬ f) (h0 : s.n + s.v < s.b + s.p) (h0' : s'.n + s'.v < s'.b + s'.p) : stA s' < stA s := by
  obtain ⟨⟨h1, h2, h3⟩, ⟨h4, h5⟩, h6, ⟨h7, h8⟩, h9, h10, h11, h12, h13⟩ := h
  obtain ⟨x, i, en, sent, o, k, l, ht, q1, q2, q3, q4, ⟨q5, q6⟩, q7, q8, q9, q10⟩ := r.ex
  have hnf : ¬ (s.ow = 1 ∧ s.kn = 1 ∧ s.n = s.t) := fun w => q10.elim (fun q => by omega) fun q => hf (q.2.1 w.2.1 w.2.2)
  have q20 := q10.imp_right fun q => And.intro q.1 q.2.2
  clear q10
  unfold TkR at ht
  obtain ⟨b, x0, t, p, i0, en0, n, v, kn, ow⟩ := s
  obtain ⟨b', x', t', p', i', en', n', v', kn', ow'⟩ := s'
  dsimp only at *
  subst q1 q2 q3 q4
  unfold stA
  dsimp only
  have hen : en0 = 0 ∨ en0 = 1 := h11.imp_right And.left
  rcases hen with rfl | rfl <;> rcases h12 with rfl | rfl <;> rcases h13 with rfl | rfl
  all_goals
    (rcases ht with ⟨t1, t2, t3, t4, t5, rfl, rfl, rfl, rfl, ⟨t6, rfl, rfl⟩ | ⟨t6, rfl, rfl⟩⟩ | ⟨t1, t2, rfl, rfl, rfl, rfl, rfl, rfl, rfl⟩ | ⟨⟨hn1, hn2⟩, ⟨t1, rfl, rfl, rfl, rfl, rfl, rfl, rfl⟩ | ⟨t1, t2, rfl, rfl, rfl, rfl, rfl, rfl, rfl⟩ | ⟨t1, t2, t3, rfl, rfl, rfl, rfl, rfl, rfl, rfl⟩⟩)
  all_goals (try (exfalso; omega))
  all_goals
    (obtain ⟨q9, q9'⟩ | ⟨q9, q9', q9''⟩ := q9)
  all_goals (try (exfalso; omega))
  all_goals subst q9
  all_goals
    (obtain ⟨q10, rfl, rfl, rfl, rfl⟩ | ⟨q10, ⟨q12, rfl, rfl, rfl, ⟨rfl, q13⟩ | ⟨rfl, q13⟩⟩ | ⟨q12, rfl, rfl, rfl, ⟨rfl, q13⟩ | ⟨rfl, q13⟩⟩⟩ := q20)
  all_goals (try (exfalso; omega))
  all_goals (simp only [Int.reduceEq, reduceIte, true_and, and_true, false_and, and_false, or_true, true_or, or_false, false_or, if_true, if_false])
  all_goals ((repeat' split) <;> omega)
theorem msr_lt {s s' : NS} {f : Prop} (h : NOk s) (r : Rnd s s' f) (hf : ¬ f) : msr s' < msr s := by
  have h' := h.next r
  have a1 := stA_b h; have a2 := stB_b h'; have a3 := stC_b h'; have a4 := stB_b h
  unfold msr
  by_cases h0 : s.n + s.v < s.b + s.p
  · rw [if_pos h0]
    split
    · exact msr_A h r hf h0 (by assumption)
    · split <;> omega
  · rw [if_neg h0]
    by_cases hx : s.n < s.x
    · obtain ⟨k1, k2⟩ := msr_B h r hf h0 hx
      rw [if_pos hx, if_neg k1]
      split
      · exact k2 (by assumption)
      · omega
    · obtain ⟨k1, k2, k3⟩ := msr_C h r hf h0 hx
      rw [if_neg hx, if_neg k1, if_neg k2]
      exact k3
end Go.Proofs.Ytldabjgegpmmiaa
