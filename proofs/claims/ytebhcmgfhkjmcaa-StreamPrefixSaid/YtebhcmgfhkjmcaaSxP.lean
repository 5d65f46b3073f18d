/-
  Symbolic execution: a region that draws its order: in whatever order, the same state.
-/
import Derived.Test.YtebhcmgfhkjmcaaSxO
import Derived.StillTailTactics
namespace Go.Sx
set_option linter.all false
set_option linter.unusedVariables false
set_option linter.unusedSimpArgs false
set_option linter.unusedSectionVars false
open Go.RowKit

variable {A : Type} {AI : Abs A} {G : Fr} {s : SS A} {ρ : Ev} {a : Act} {w : World} {P : Program}

/-- The state behind those operations (the first is number k) that are listed. -/
def stL : List (Eff A) → Nat → (Nat → Bool) → SS A → SS A
  | [], _, _, s => s
  | e :: r, k, L, s => stL r (k + 1) L (if L k then applyE e s else s)

theorem look_apply (e : Eff A) (s : SS A) (t : Nat) : look (applyE e s).tm t = if e.dst = some t then some e.v else look s.tm t := by
  unfold applyE putT
  cases hd : e.dst with
  | none => simp
  | some q =>
    simp only [look]
    by_cases hq : q = t
    · subst hq; simp
    · rw [show beqN q t = false by cases hb : beqN q t; rfl; exact absurd (beq_eq hb) hq]
      simp [hq]

theorem getC_putCs_out : ∀ (ids : List Nat) (H : List (Chunk A)) (cs : List (Chunk A)) (c : Nat), c ∉ ids → getC (putCs H ids cs) c = getC H c
  | [], H, cs, c, _ => by simp [putCs]
  | i :: r, H, [], c, _ => by simp [putCs]
  | i :: r, H, x :: cs, c, h => by
    simp only [List.mem_cons, not_or] at h
    simp only [putCs]
    rw [getC_putCs_out r _ cs c h.2, getC_putC, if_neg h.1]
theorem getC_putCs_congr : ∀ (ids : List Nat) (H H' : List (Chunk A)) (cs : List (Chunk A)) (c : Nat), getC H c = getC H' c → getC (putCs H ids cs) c = getC (putCs H' ids cs) c
  | [], H, H', cs, c, h => by simpa [putCs] using h
  | i :: r, H, H', [], c, h => by simpa [putCs] using h
  | i :: r, H, H', x :: cs, c, h => by
    simp only [putCs]
    refine getC_putCs_congr r _ _ cs c ?_
    rw [getC_putC, getC_putC, h]

theorem stL_slot (t : Nat) : ∀ (l : List (Eff A)) (k : Nat) (L L' : Nat → Bool) (s s' : SS A), look s.tm t = look s'.tm t → (∀ j e, l[j]? = some e → e.dst = some t → L (k + j) = L' (k + j)) → look (stL l k L s).tm t = look (stL l k L' s').tm t
  | [], _, _, _, _, _, h, _ => h
  | e :: r, k, L, L', s, s', h, hL => by
    simp only [stL]
    refine stL_slot t r (k + 1) L L' _ _ ?_ fun j e' hj hd => by have := hL (j + 1) e' (by simpa using hj) hd; rwa [show k + (j + 1) = k + 1 + j by omega] at this
    by_cases hd : e.dst = some t
    · have := hL 0 e rfl hd
      simp only [Nat.add_zero] at this
      rw [this]
      split
      · rw [look_apply, look_apply, if_pos hd, if_pos hd]
      · exact h
    · have h1 : ∀ b : Bool, ∀ s : SS A, look (if b = true then applyE e s else s).tm t = look s.tm t := by
        intro b s
        split
        · rw [look_apply, if_neg hd]
        · rfl
      rw [h1, h1]; exact h

theorem stL_chunk (c : Nat) : ∀ (l : List (Eff A)) (k : Nat) (L L' : Nat → Bool) (s s' : SS A), getC s.H c = getC s'.H c → (∀ j e, l[j]? = some e → c ∈ e.ids → L (k + j) = L' (k + j)) → getC (stL l k L s).H c = getC (stL l k L' s').H c
  | [], _, _, _, _, _, h, _ => h
  | e :: r, k, L, L', s, s', h, hL => by
    simp only [stL]
    refine stL_chunk c r (k + 1) L L' _ _ ?_ fun j e' hj hd => by have := hL (j + 1) e' (by simpa using hj) hd; rwa [show k + (j + 1) = k + 1 + j by omega] at this
    by_cases hd : c ∈ e.ids
    · have := hL 0 e rfl hd
      simp only [Nat.add_zero] at this
      rw [this]
      split
      · exact getC_putCs_congr _ _ _ _ _ h
      · exact h
    · have h1 : ∀ b : Bool, ∀ s : SS A, getC (if b = true then applyE e s else s).H c = getC s.H c := by
        intro b s
        split
        · exact getC_putCs_out _ _ _ _ hd
        · rfl
      rw [h1, h1]; exact h

/-- One more is listed: it may be carried out last, where none behind it that is listed writes what it writes. -/
theorem stL_add : ∀ (l : List (Eff A)) (k : Nat) (L : Nat → Bool) (s : SS A) (i : Nat) (e : Eff A), l[i]? = some e → L (k + i) = false →
    (∀ j e', i < j → l[j]? = some e' → L (k + j) = true → (∀ t, e.dst = some t → e'.dst ≠ some t) ∧ ∀ c ∈ e.ids, c ∉ e'.ids) →
    Same (stL l k (fun j => L j || beqN j (k + i)) s) (applyE e (stL l k L s))
  | [], _, _, _, _, _, h, _, _ => by cases h
  | x :: r, k, L, s, 0, e, h, hn, hc => by
    simp at h
    subst h
    simp only [Nat.add_zero] at hn
    simp only [stL, Nat.add_zero, hn]
    rw [if_pos (by simp), if_neg (by simp)]
    -- behind: the same listing
    have hsame : ∀ j, L (k + 1 + j) = ((fun j => L j || beqN j k) (k + 1 + j)) := by
      intro j
      have : beqN (k + 1 + j) k = false := by cases hb : beqN (k + 1 + j) k; rfl; have := beq_eq hb; omega
      simp only [this, Bool.or_false]
    have key : ∀ (q : List (Eff A)) (m : Nat) (L L' : Nat → Bool) (s : SS A), (∀ j, L (m + j) = L' (m + j)) →
        (∀ j e', q[j]? = some e' → L (m + j) = true → (∀ t, x.dst = some t → e'.dst ≠ some t) ∧ ∀ c ∈ x.ids, c ∉ e'.ids) → Same (stL q m L' (applyE x s)) (applyE x (stL q m L s)) := by
      intro q
      induction q with
      | nil => intro m L L' s _ _; exact ⟨fun _ => rfl, fun _ => rfl⟩
      | cons y q ih =>
        intro m L L' s hLL hq
        simp only [stL]
        have h0 := hLL 0
        simp only [Nat.add_zero] at h0
        rw [← h0]
        have ih' := fun s => ih (m + 1) L L' s (fun j => by have := hLL (j + 1); rwa [show m + (j + 1) = m + 1 + j by omega] at this)
          (fun j e' hj hl => hq (j + 1) e' (by simpa using hj) (by rwa [show m + (j + 1) = m + 1 + j by omega]))
        split
        · rename_i hl
          obtain ⟨h1, h2⟩ := hq 0 y rfl (by simpa using hl)
          have e1 : Same (stL q (m + 1) L' (applyE y (applyE x s))) (stL q (m + 1) L' (applyE x (applyE y s))) := by
            refine ⟨fun t => stL_slot t q _ _ _ _ _ ?_ fun _ _ _ _ => rfl, fun c => stL_chunk c q _ _ _ _ _ ?_ fun _ _ _ _ => rfl⟩
            · rw [look_apply, look_apply, look_apply, look_apply]
              by_cases hx : x.dst = some t
              · simp [h1 t hx, hx]
              · simp only [if_neg hx]
            · show getC (putCs (putCs s.H x.ids x.cs) y.ids y.cs) c = getC (putCs (putCs s.H y.ids y.cs) x.ids x.cs) c
              by_cases hx : c ∈ x.ids
              · rw [getC_putCs_out y.ids _ _ _ (h2 c hx)]
                exact getC_putCs_congr _ _ _ _ _ (getC_putCs_out y.ids _ _ _ (h2 c hx)).symm
              · rw [getC_putCs_out x.ids (putCs s.H y.ids y.cs) _ _ hx]
                exact getC_putCs_congr _ _ _ _ _ (getC_putCs_out x.ids _ _ _ hx)
          have e2 := ih' (applyE y s)
          exact ⟨fun t => (e1.1 t).trans (e2.1 t), fun c => (e1.2 c).trans (e2.2 c)⟩
        · exact ih' s
    exact key r (k + 1) L _ s hsame fun j e' hj hl => hc (j + 1) e' (by omega) (by simpa using hj) (by rwa [show k + (j + 1) = k + 1 + j by omega])
  | x :: r, k, L, s, i + 1, e, h, hn, hc => by
    simp only [stL]
    have hb : beqN k (k + (i + 1)) = false := by cases hb : beqN k (k + (i + 1)); rfl; have := beq_eq hb; omega
    simp only [hb, Bool.or_false]
    rw [show k + (i + 1) = k + 1 + i by omega]
    exact stL_add r (k + 1) L _ i e (by simpa using h) (by rw [show k + 1 + i = k + (i + 1) by omega]; exact hn) fun j e' hij hj hl => hc (j + 1) e' (by omega) (by simpa using hj) (by rwa [show k + (j + 1) = k + 1 + j by omega])

theorem stL_take : ∀ (l : List (Eff A)) (k i : Nat) (s : SS A), stL l k (fun j => bltN j (k + i)) s = runE (l.take i) s
  | [], k, i, s => by simp [stL, runE]
  | e :: r, k, 0, s => by
    have : ∀ (l : List (Eff A)) (m : Nat), k ≤ m → stL l m (fun j => bltN j (k + 0)) s = s := by
      intro l
      induction l with
      | nil => intro m _; rfl
      | cons e r ih =>
        intro m hm
        simp only [stL]
        have hb : bltN m (k + 0) = false := by
          cases hb : bltN m (k + 0); rfl; have := leN hb; omega
        rw [if_neg (by rw [hb]; simp)]
        exact ih (m + 1) (by omega)
    rw [this _ _ (Nat.le_refl _)]
    rfl
  | e :: r, k, i + 1, s => by
    simp only [stL]
    have hb : bltN k (k + (i + 1)) = true := geN (by omega)
    rw [if_pos hb]
    have := stL_take r (k + 1) i (applyE e s)
    rw [show k + 1 + i = k + (i + 1) by omega] at this
    simpa [runE] using this

/-! ### the static part -/
theorem maskOf_mem : ∀ {l : List Nat} {x : Nat}, x ∈ l → (maskOf l).testBit x = true
  | [], x, h => by cases h
  | i :: r, x, h => by
    simp only [maskOf, Nat.testBit_or, Bool.or_eq_true]
    rcases List.mem_cons.1 h with rfl | h
    · left; simp [Nat.testBit_shiftLeft]
    · right; exact maskOf_mem h
theorem ancO_bit {acc : List Nat} : ∀ {l : List Edge} {k : Nat}, (ancO acc l).testBit k = true → ∃ e ∈ l, Region.binds .any e = true ∧ (k = e.on ∨ ∃ q, acc[e.on]? = some q ∧ q.testBit k = true)
  | [], k, h => by simp [ancO] at h
  | e :: r, k, h => by
    simp only [ancO] at h
    split at h
    · rename_i hb
      simp only [Nat.testBit_or, Bool.or_eq_true] at h
      rcases h with (h | h) | h
      · refine ⟨e, by simp, hb, .inl ?_⟩
        simp only [Nat.testBit_shiftLeft, Bool.and_eq_true, decide_eq_true_eq] at h
        have h2 : k - e.on = 0 := by
          have := h.2
          rcases Nat.eq_zero_or_pos (k - e.on) with h0 | h0
          · exact h0
          · rw [Nat.testBit_eq_decide_div_mod_eq, Nat.div_eq_of_lt (Nat.one_lt_two_pow (by omega))] at this; simp at this
        have := h.1
        omega
      · split at h
        · rename_i q hq; rw [nth_eq] at hq; exact ⟨e, by simp, hb, .inr ⟨q, hq, h⟩⟩
        · simp at h
      · obtain ⟨e', h1, h2, h3⟩ := ancO_bit h
        exact ⟨e', by simp [h1], h2, h3⟩
    · obtain ⟨e', h1, h2, h3⟩ := ancO_bit h
      exact ⟨e', by simp [h1], h2, h3⟩

/-- Whoever waits for what is listed, all ahead of it are listed. -/
theorem ancs_listed {L : Nat → Bool} : ∀ (l : List Oper) (acc : List Nat), (∀ i (an : Nat), acc[i]? = some an → L i = true → ∀ k, an.testBit k = true → L k = true) →
    (∀ i o, l[i]? = some o → L (acc.length + i) = true → ∀ e ∈ o.after, Region.binds .any e = true → L e.on = true) →
    ∀ i (an : Nat), (ancs l acc)[i]? = some an → L i = true → ∀ k, an.testBit k = true → L k = true
  | [], acc, hacc, _ => fun i an h hl k hk => hacc i an h hl k hk
  | o :: r, acc, hacc, hl => by
    simp only [ancs]
    refine ancs_listed r _ (fun i an h hli k hk => ?_) (fun i o' h hli => ?_)
    · by_cases hi : i < acc.length
      · rw [List.getElem?_append_left hi] at h
        exact hacc i an h hli k hk
      · rw [List.getElem?_append_right (by omega)] at h
        have h0 : i - acc.length = 0 := by
          have := (List.getElem?_eq_some_iff.1 h).1; simp at this; omega
        rw [h0] at h
        simp at h
        subst h
        have hi' : i = acc.length := by omega
        subst hi'
        have h0 := hl 0 o rfl (by simpa using hli)
        obtain ⟨e, he, hb, h3⟩ := ancO_bit hk
        have h1 := h0 e (by simpa using he) hb
        rcases h3 with rfl | ⟨q, hq, h4⟩
        · exact h1
        · exact hacc _ q hq h1 k h4
    · refine hl (i + 1) o' (by simpa using h) ?_
      rw [← hli]; congr 1; simp; omega

theorem okRec_spec {an : Nat} {b : Rec} : ∀ {l : List Rec} {k : Nat}, okRec an b k l = true → ∀ i a, l[i]? = some a → an.testBit (k + i) = true ∨ clash a b = false
  | [], _, _, _, _, h => by simp at h
  | x :: r, k, h, i, a, hi => by
    simp only [okRec, Bool.and_eq_true, Bool.or_eq_true, Bool.not_eq_true'] at h
    cases i with
    | zero =>
      simp at hi
      subst hi
      exact h.1
    | succ i =>
      have := okRec_spec h.2 i a (by simpa using hi)
      rwa [show k + 1 + i = k + (i + 1) by omega] at this

theorem okRecs_spec : ∀ {ans : List Nat} {bs before : List Rec}, okRecs ans bs before = true → ∀ j b, bs[j]? = some b → ∃ an, ans[j]? = some an ∧ ∀ i a, i < before.length + j → (before ++ bs)[i]? = some a → an.testBit i = true ∨ clash a b = false
  | _, [], _, _, j, b, h => by simp at h
  | [], _ :: _, _, h, _, _, _ => by simp [okRecs] at h
  | an :: ans, x :: bs, before, h, j, b, hj => by
    simp only [okRecs, Bool.and_eq_true] at h
    cases j with
    | zero =>
      simp at hj
      subst hj
      refine ⟨an, rfl, fun i a hi ha => ?_⟩
      simp only [Nat.add_zero] at hi
      rw [List.getElem?_append_left hi] at ha
      have := okRec_spec h.1 i a ha
      rwa [Nat.zero_add] at this
    | succ j =>
      obtain ⟨an', h1, h2⟩ := okRecs_spec h.2 j b (by simpa using hj)
      refine ⟨an', by simpa using h1, fun i a hi ha => h2 i a (by simp; omega) ?_⟩
      simpa [List.append_assoc] using ha

theorem meets_false {a b : Nat} (h : meets a b = false) : ∀ x, a.testBit x = true → b.testBit x = false := by
  intro x hx
  unfold meets at h
  have h0 : a &&& b = 0 := beq_eq (by simpa using h)
  have h1 : (a &&& b).testBit x = false := by rw [h0]; simp
  rw [Nat.testBit_and, hx] at h1
  simpa using h1

/-- What two operations that do not clash leave to each other. -/
structure Apart (ops : List Oper) (o o' : Oper) (e e' : Eff A) : Prop where
  r1 : ∀ t, o.dst = some t → t ∉ readsOf ops o'
  r2 : ∀ t, o'.dst = some t → t ∉ readsOf ops o
  d : ∀ t, o.dst = some t → o'.dst ≠ some t
  c1 : ∀ c ∈ e.ids, c ∉ e'.looks
  c2 : ∀ c ∈ e'.ids, c ∉ e.looks

theorem recsOf_get : ∀ {ops l : List Oper} {q : List (List Nat × List Nat)} {i : Nat} {o : Oper} {x : List Nat × List Nat}, l[i]? = some o → q[i]? = some x → (recsOf ops l q)[i]? = some ⟨maskOf o.dst.toList, maskOf (readsOf ops o), maskOf x.1, maskOf x.2⟩
  | ops, [], q, i, o, x, h, _ => by simp at h
  | ops, y :: r, [], i, o, x, _, h => by simp at h
  | ops, y :: r, z :: q, 0, o, x, h, h' => by simp at h h'; subst h; subst h'; rfl
  | ops, y :: r, z :: q, i + 1, o, x, h, h' => by simpa [recsOf] using recsOf_get (ops := ops) (l := r) (q := q) (i := i) (by simpa using h) (by simpa using h')

theorem drawOk_apart {ops : List Oper} {effs : List (Eff A)} (h : drawOk ops (effs.map fun e => (e.ids, e.looks)) = true) {L : Nat → Bool} (hL : ∀ i o, ops[i]? = some o → L i = true → ∀ e ∈ o.after, Region.binds .any e = true → L e.on = true)
    {i j : Nat} {o o' : Oper} {e e' : Eff A} (hi : ops[i]? = some o) (hj : ops[j]? = some o') (hei : effs[i]? = some e) (hej : effs[j]? = some e') (hij : i < j) (hl : L i = false) (hlj : L j = true) : Apart ops o o' e e' := by
  unfold drawOk at h
  simp only [Bool.and_eq_true] at h
  obtain ⟨⟨⟨h1, h2⟩, h3⟩, h4⟩ := h
  have r1 := recsOf_get (ops := ops) hi (q := effs.map fun e => (e.ids, e.looks)) (x := (e.ids, e.looks)) (by simp [hei])
  have r2 := recsOf_get (ops := ops) hj (q := effs.map fun e => (e.ids, e.looks)) (x := (e'.ids, e'.looks)) (by simp [hej])
  obtain ⟨an, h5, h6⟩ := okRecs_spec h1 j _ r2
  have h7 := ancs_listed (L := L) ops [] (by simp) (fun i o h hl => hL i o h (by simpa using hl)) j an h5 hlj
  rcases h6 i _ (by simpa using hij) (by simpa using r1) with h8 | h8
  · have := h7 i h8; rw [hl] at this; cases this
  · simp only [clash, Bool.or_eq_false_iff] at h8
    obtain ⟨⟨⟨m1, m3⟩, m4⟩, m5⟩ := h8
    have no : ∀ {l : List Nat} {x : Nat}, (maskOf l).testBit x = false → x ∉ l := fun {l x} hb hx => by rw [maskOf_mem hx] at hb; cases hb
    have m1' : ∀ t, o.dst = some t → t ∉ readsOf ops o' ∧ t ∉ o'.dst.toList := fun t ht => by
      have h9 := meets_false m1 t (maskOf_mem (by simp [ht]))
      simp only [Nat.testBit_or, Bool.or_eq_false_iff] at h9
      exact ⟨no h9.1, no h9.2⟩
    refine ⟨fun t ht => (m1' t ht).1, fun t ht => no (meets_false m3 t (maskOf_mem (by simp [ht]))), fun t ht ht' => (m1' t ht).2 (by simp [ht']), fun c hc => no (meets_false m4 c (maskOf_mem hc)), fun c hc => no (meets_false m5 c (maskOf_mem hc))⟩

theorem ids_sub_looks {E : Env A} {ops : List Oper} {d : Dec} {s : SS A} {o : Oper} {j : Nat} {e : Eff A} {Ce : List (U Prop)} (h : OpDid E ops d s o j e Ce) : (∀ c ∈ e.ids, c ∈ e.looks) ∧ e.dst = o.dst := by
  cases h with
  | no => exact ⟨by simp, rfl⟩
  | yes p C v cs v' C2 => unfold mkEff; split <;> exact ⟨by simp, rfl⟩

/-- A region that draws its order. -/
theorem run_draw {E : Env A} (hE : EnvOk P AI E) {opsA : Array Oper} {d : Dec} {s : SS A} {effs : List (Eff A)} {Q : Exit → Act → World → Prop} (hlen : effs.length = opsA.toList.length)
    (hdid : ∀ i o, opsA.toList[i]? = some o → ∃ e Ce, effs[i]? = some e ∧ OpDid E opsA.toList d (runE (effs.take i) s) o i e Ce ∧ ∀ C ∈ Ce, C ())
    (hok : drawOk opsA.toList (effs.map fun e => (e.ids, e.looks)) = true) (hdst : ∀ o ∈ opsA.toList, ∀ t, o.dst = some t → t < G.size) (hK : Then AI G (runE effs s) (Q .normal)) :
    ∀ (fuel : Nat) (listed : Array Bool) (a : Act) (w : World), listed.size = opsA.size → (∀ i o, opsA.toList[i]? = some o → listed.getD i false = true → ∀ e ∈ o.after, Region.binds .any e = true → listed.getD e.on false = true) →
      opsA.size ≤ fuel + (listed.toList.filter id).length → Sat AI G (stL effs 0 (fun i => listed.getD i false) s) a w → wpAny P .any opsA Q fuel listed a w := by
  have hlt : ∀ i o, opsA.toList[i]? = some o → ∀ e ∈ o.after, Region.binds .any e = true → e.on < i := by
    intro i o ho e he hb
    unfold drawOk at hok
    simp only [Bool.and_eq_true] at hok
    have h1 := List.all_eq_true.1 hok.1.2 (o, i) (by rw [List.mem_zipIdx_iff_getElem?]; exact ho)
    have h2 := List.all_eq_true.1 h1 e (by simpa using he)
    simp only [hb, Bool.not_true, Bool.false_or] at h2
    exact leN h2
  -- where nobody is ready, all are listed
  have hall : ∀ listed : Array Bool, listed.size = opsA.size → Region.ready .any opsA listed = [] → ∀ i, i < opsA.size → listed.getD i false = true := by
    intro listed hsz hr i
    induction i using Nat.strongRecOn with
    | _ i ih =>
      intro hi
      cases hl : listed.getD i false with
      | true => rfl
      | false =>
        exfalso
        have ho : opsA[i]? = some opsA[i] := Array.getElem?_eq_getElem hi
        have hi' : i < listed.size := by omega
        have hgt : listed.getD i true = false := by simp [hi'] at hl ⊢; exact hl
        have hmem : i ∈ Region.ready .any opsA listed := mem_ready.2 ⟨hgt, _, ho, fun e he hb => ih e.on (hlt i opsA[i] (by simpa using ho) e he hb) (by have := hlt i opsA[i] (by simpa using ho) e he hb; omega)⟩
        rw [hr] at hmem; cases hmem
  have hend : ∀ (listed : Array Bool) (a : Act) (w : World), listed.size = opsA.size → Region.ready .any opsA listed = [] → Sat AI G (stL effs 0 (fun i => listed.getD i false) s) a w → Q .normal a w := by
    intro listed a w hsz hr hs
    have h1 := hall listed hsz hr
    have e1 : Same (stL effs 0 (fun i => listed.getD i false) s) (runE effs s) := by
      have h2 := stL_take effs 0 effs.length s
      rw [List.take_length] at h2
      rw [← h2]
      have h3 : ∀ j e, effs[j]? = some e → listed.getD (0 + j) false = bltN (0 + j) (0 + effs.length) := by
        intro j e hj
        have hj' := (List.getElem?_eq_some_iff.1 hj).1
        rw [Nat.zero_add, Nat.zero_add, h1 j (by rw [hlen] at hj'; simpa using hj')]
        exact (geN (by omega)).symm
      exact ⟨fun t => stL_slot t _ _ _ _ _ _ rfl fun j e hj _ => h3 j e hj, fun c => stL_chunk c _ _ _ _ _ _ rfl fun j e hj _ => h3 j e hj⟩
    obtain ⟨hd, ρ, hh⟩ := hs
    exact hK a w hd ⟨ρ, hh.same e1⟩
  intro fuel
  induction fuel with
  | zero =>
    intro listed a w hsz _ hf hs
    have hr : Region.ready .any opsA listed = [] := by
      cases hr : Region.ready .any opsA listed with
      | nil => rfl
      | cons i r =>
        exfalso
        have hi : i ∈ Region.ready .any opsA listed := by rw [hr]; simp
        obtain ⟨h1, o, h2, h3⟩ := mem_ready.1 hi
        have hi2 : i < listed.size := by have := (Array.getElem?_eq_some_iff.1 h2).1; omega
        have h4 : listed.toList[i]? = some false := by simp [hi2] at h1 ⊢; exact h1
        have h5 : (listed.toList.filter id).length < listed.toList.length := by
          rcases Nat.lt_or_ge (listed.toList.filter id).length listed.toList.length with h | h
          · exact h
          · exfalso
            have h6 := List.length_filter_le id listed.toList
            have h7 : listed.toList.filter id = listed.toList := (List.filter_sublist).eq_of_length (by omega)
            have h8 := List.filter_eq_self.1 h7 false (List.mem_of_getElem? h4)
            cases h8
        simp at h5 hf
        omega
    exact ⟨hr, hend listed a w hsz hr hs⟩
  | succ fuel ih =>
    intro listed a w hsz hcl hf hs
    refine ⟨fun hr => hend listed a w hsz hr hs, fun i hi => ?_⟩
    obtain ⟨hn, o, ho, hready⟩ := mem_ready.1 hi
    have hi1 : i < opsA.size := (Array.getElem?_eq_some_iff.1 ho).1
    have hi2 : i < listed.size := by omega
    have hnf : listed.getD i false = false := by simp [hi2] at hn ⊢; exact hn
    have hoL : opsA.toList[i]? = some o := by simpa using ho
    obtain ⟨e, Ce, he, hd, hCe⟩ := hdid i o hoL
    obtain ⟨hsub, hdste⟩ := ids_sub_looks hd
    obtain ⟨hdf, ρ, hh⟩ := hs
    have hset : ∀ j, (listed.setIfInBounds i true).getD j false = (listed.getD j false || beqN j (0 + i)) := by
      intro j
      by_cases hj : i = j
      · subst hj; simp [hi2]
      · rw [getD_set_ne false hj]
        have : beqN j (0 + i) = false := by cases hb : beqN j (0 + i); rfl; have := beq_eq hb; omega
        rw [this, Bool.or_false]
    have hcl' : ∀ k o', opsA.toList[k]? = some o' → (listed.setIfInBounds i true).getD k false = true → ∀ e' ∈ o'.after, Region.binds .any e' = true → (listed.setIfInBounds i true).getD e'.on false = true := by
      intro k o' hk hlk e' he' hb
      by_cases hki : i = k
      · subst hki
        rw [hoL] at hk
        cases hk
        exact getD_set_true (hready e' he' hb)
      · rw [getD_set_ne false hki] at hlk
        exact getD_set_true (hcl k o' hk hlk e' he' hb)
    -- two that are listed otherwise than the text has it do not clash
    have apart_after : ∀ j o' e', i < j → opsA.toList[j]? = some o' → effs[j]? = some e' → listed.getD j false = true → Apart opsA.toList o o' e e' := fun j o' e' hij hj hej hl =>
      drawOk_apart hok (L := fun k => listed.getD k false) hcl hoL hj he hej hij hnf hl
    have apart_before : ∀ j o' e', j < i → opsA.toList[j]? = some o' → effs[j]? = some e' → listed.getD j false = false → Apart opsA.toList o' o e' e := fun j o' e' hij hj hej hl =>
      drawOk_apart hok (L := fun k => (listed.setIfInBounds i true).getD k false) hcl' hj hoL hej he hij (by rw [getD_set_ne false (by omega)]; exact hl) (by simp [hi2])
    have hop : ∀ {j : Nat} {e' : Eff A}, effs[j]? = some e' → ∃ o', opsA.toList[j]? = some o' ∧ e'.dst = o'.dst ∧ ∀ c ∈ e'.ids, c ∈ e'.looks := by
      intro j e' hj
      have hj' := (List.getElem?_eq_some_iff.1 hj).1
      have h1 : opsA.toList[j]? = some (opsA.toList[j]'(by omega)) := List.getElem?_eq_getElem _
      obtain ⟨e2, Ce2, h2, h3, _⟩ := hdid j _ h1
      rw [hj] at h2
      cases h2
      obtain ⟨h4, h5⟩ := ids_sub_looks h3
      exact ⟨_, h1, h5, h4⟩
    have hslots : ∀ t ∈ readsOf opsA.toList o, look (stL effs 0 (fun i => listed.getD i false) s).tm t = look (runE (effs.take i) s).tm t := by
      intro t ht
      rw [← stL_take effs 0 i s]
      refine stL_slot t _ _ _ _ _ _ rfl fun j e' hj hdj => ?_
      obtain ⟨o', h1, h2, _⟩ := hop hj
      rw [h2] at hdj
      rw [Nat.zero_add, Nat.zero_add]
      rcases Nat.lt_trichotomy j i with hji | hji | hji
      · rw [show bltN j i = true from geN hji]
        cases hl : listed.getD j false with
        | true => rfl
        | false => exact absurd ht ((apart_before j o' e' hji h1 hj hl).r1 t hdj)
      · subst hji
        rw [hnf]
        cases hb : bltN j j with
        | false => rfl
        | true => have := leN hb; omega
      · have : bltN j i = false := by cases hb : bltN j i; rfl; have := leN hb; omega
        rw [this]
        cases hl : listed.getD j false with
        | false => rfl
        | true => exact absurd ht ((apart_after j o' e' hji h1 hj hl).r2 t hdj)
    have hchunks : ∀ c ∈ e.looks, getC (stL effs 0 (fun i => listed.getD i false) s).H c = getC (runE (effs.take i) s).H c := by
      intro c hc
      rw [← stL_take effs 0 i s]
      refine stL_chunk c _ _ _ _ _ _ rfl fun j e' hj hdj => ?_
      obtain ⟨o', h1, _, _⟩ := hop hj
      rw [Nat.zero_add, Nat.zero_add]
      rcases Nat.lt_trichotomy j i with hji | hji | hji
      · rw [show bltN j i = true from geN hji]
        cases hl : listed.getD j false with
        | true => rfl
        | false => exact absurd hc ((apart_before j o' e' hji h1 hj hl).c1 c hdj)
      · subst hji
        rw [hnf]
        cases hb : bltN j j with
        | false => rfl
        | true => have := leN hb; omega
      · have : bltN j i = false := by cases hb : bltN j i; rfl; have := leN hb; omega
        rw [this]
        cases hl : listed.getD j false with
        | false => rfl
        | true => exact absurd hc ((apart_after j o' e' hji h1 hj hl).c2 c hdj)
    have hadd := stL_add effs 0 (fun i => listed.getD i false) s i e he (by rw [Nat.zero_add]; exact hnf) (fun j e' hij hj hl => by
      rw [Nat.zero_add] at hl
      obtain ⟨o', h1, h2, h3⟩ := hop hj
      have hap := apart_after j o' e' hij h1 hj hl
      exact ⟨fun t ht => by rw [h2]; exact hap.d t (hdste ▸ ht), fun c hc hc' => hap.c1 c hc (h3 c hc')⟩)
    have hres := did_sound hE hh hdf hd hCe hslots hchunks (hdst o (List.mem_of_getElem? hoL)) (Q := Q) (K := wpAny P .any opsA Q fuel (listed.setIfInBounds i true)) (fun a' w' hdf' ⟨ρ', hh'⟩ => by
      refine ih (listed.setIfInBounds i true) a' w' (by simpa using hsz) hcl' ?_ ⟨hdf', ρ', ?_⟩
      · have : ((listed.setIfInBounds i true).toList.filter id).length = (listed.toList.filter id).length + 1 := by
          have h4 : listed.toList[i]? = some false := by simp [hi2] at hn ⊢; exact hn
          simp only [Array.toList_setIfInBounds]
          have key : ∀ (l : List Bool) (i : Nat), l[i]? = some false → ((l.set i true).filter id).length = (l.filter id).length + 1 := by
            intro l
            induction l with
            | nil => intro i h; simp at h
            | cons x r ih =>
              intro i h
              cases i with
              | zero => simp at h; subst h; simp
              | succ i =>
                have := ih i (by simpa using h)
                cases x <;> simp [this]
          exact key _ _ h4
        omega
      · have e2 : (fun k => (listed.setIfInBounds i true).getD k false) = fun k => listed.getD k false || beqN k (0 + i) := funext hset
        rw [e2]
        exact hh'.same ⟨fun t => (hadd.1 t).symm, fun c => (hadd.2 c).symm⟩)
    unfold wpOp
    rw [ho]
    dsimp only
    rw [show opsA.toList.toArray = opsA from by simp] at hres
    split
    · rename_i hw; rw [if_pos hw] at hres; exact .inl hres
    · rename_i hw; rw [if_neg hw] at hres; exact hres

end Go.Sx
