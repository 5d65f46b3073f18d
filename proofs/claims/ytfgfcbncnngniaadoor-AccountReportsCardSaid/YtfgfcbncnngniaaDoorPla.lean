/-
  Layer 50, plain: what a ledger keeps is what its bookings say.
-/
import Derived.Test.YtfgfcbncnngniaaDoorLec
namespace Go.Proofs.YtfgfcbncnngniaaDoor
set_option linter.all false
set_option linter.unusedVariables false
set_option linter.unusedSimpArgs false
set_option linter.unusedSectionVars false
open Go.RowKit Go.Sx
def dE (e : Fv) (c a : Int) : Int := (if e.2.1 = c ∧ e.2.2.1 = a then -e.2.2.2.2 else 0) + (if e.2.1 = c ∧ e.2.2.2.1 = a then e.2.2.2.2 else 0)
def balR : List Fv → Int → Int → Int
  | [], _, _ => 0
  | e :: l, c, a => dE e c a + balR l c a
theorem balR_app (c a : Int) : ∀ l m : List Fv, balR (l ++ m) c a = balR l c a + balR m c a
  | [], m => by simp [balR]
  | e :: l, m => by simp only [List.cons_append, balR, balR_app c a l m]; omega
theorem balR_snoc (l : List Fv) (e : Fv) (c a : Int) : balR (l ++ [e]) c a = balR l c a + dE e c a := by rw [balR_app]; simp [balR]
structure OkE (e : Fv) : Prop where
  c : 0 ≤ e.2.1 ∧ e.2.1 < 1000
  ft : (e.2.2.1 = 0 ∧ e.2.2.2.1 = 1) ∨ (e.2.2.1 = 1 ∧ (e.2.2.2.1 = 2 ∨ e.2.2.2.1 = 4)) ∨ (e.2.2.1 = 2 ∧ (e.2.2.2.1 = 1 ∨ e.2.2.2.1 = 3 ∨ e.2.2.2.1 = 4))
  n : 1 ≤ e.2.2.2.2 ∧ e.2.2.2.2 ≤ 1048576
  t : 0 ≤ e.1 ∧ e.1 ≤ 1073741824
theorem okE_of {e : Fv} (h : inrB e = true) (g : prmB e.2.2.1 e.2.2.2.1 = true) : OkE e := by
  obtain ⟨a, b, _, _, c, d⟩ := inr_facts h
  exact ⟨⟨a, b⟩, prm_facts g, c, d⟩
theorem dE_bnd {e : Fv} (h : OkE e) (c a : Int) : -1048576 ≤ dE e c a ∧ dE e c a ≤ 1048576 := by
  have h1 := h.n
  unfold dE
  split <;> split <;> omega
theorem balR_bnd {l : List Fv} (h : ∀ e ∈ l, OkE e) (c a : Int) : -(1048576 * (l.length : Int)) ≤ balR l c a ∧ balR l c a ≤ 1048576 * (l.length : Int) := by
  induction l with
  | nil => simp [balR]
  | cons e l ih =>
    have h1 := dE_bnd (h e (List.mem_cons_self ..)) c a
    have h2 := ih fun x hx => h x (List.mem_cons_of_mem _ hx)
    simp only [balR, List.length_cons]
    omega
theorem cases5 {a : Int} (h0 : 0 ≤ a) (h5 : a < 5) : a = 0 ∨ a = 1 ∨ a = 2 ∨ a = 3 ∨ a = 4 := by omega
theorem upd_nth {b e : Fv} (h : OkE e) {a : Int} (h0 : 0 ≤ a) (h5 : a < 5) : nth5 (updB b e.2.2.1 e.2.2.2.1 e.2.2.2.2) a = nth5 b a + dE e e.2.1 a := by
  obtain ⟨tk, c, f, t, n⟩ := e
  have hf := h.ft
  dsimp only at hf ⊢
  unfold dE
  dsimp only
  rcases hf with ⟨rfl, rfl⟩ | ⟨rfl, rfl | rfl⟩ | ⟨rfl, rfl | rfl | rfl⟩ <;> rcases cases5 h0 h5 with rfl | rfl | rfl | rfl | rfl <;> simp [nth5, updB] <;> omega
theorem get_put (c : Int) (v : Fv) (k : Int) : ∀ D : BL, getB (putB D c v) k = if c = k then some v else getB D k
  | [] => by
    show (if c = k then some v else getA [] k) = _
    rfl
  | (a, x) :: D => by
    show getA (if a = c then (c, v) :: D else (a, x) :: putA D c v) k = if c = k then some v else (if a = k then some x else getA D k)
    have ih : getA (putA D c v) k = if c = k then some v else getA D k := get_put c v k D
    by_cases h : a = c
    · rw [if_pos h]
      show (if c = k then some v else getA D k) = _
      by_cases h2 : c = k
      · rw [if_pos h2, if_pos h2]
      · rw [if_neg h2, if_neg h2, if_neg (by omega)]
    · rw [if_neg h]
      show (if a = k then some x else getA (putA D c v) k) = _
      rw [ih]
      by_cases h2 : a = k
      · rw [if_pos h2, if_neg (by omega), if_pos h2]
      · rw [if_neg h2, if_neg h2]
theorem balAt_put (D : BL) (c : Int) (v : Fv) (k : Int) : balAt (putB D c v) k = if c = k then v else balAt D k := by
  unfold balAt
  rw [get_put]
  split <;> rfl
theorem keys_put (c : Int) (v : Fv) : ∀ D : BL, keysI (putB D c v) = if c ∈ keysI D then keysI D else keysI D ++ [c]
  | [] => by simp [keysI, putA]
  | (a, x) :: D => by
    have ih : keysI (putA D c v) = if c ∈ keysI D then keysI D else keysI D ++ [c] := keys_put c v D
    show keysI (if a = c then (c, v) :: D else (a, x) :: putA D c v) = _
    by_cases h : a = c
    · rw [if_pos h]
      have : c ∈ keysI ((a, x) :: D) := by simp [keysI, h]
      rw [if_pos this, h]; rfl
    · rw [if_neg h]
      show a :: keysI (putA D c v) = _
      rw [ih]
      by_cases h2 : c ∈ keysI D
      · rw [if_pos h2, if_pos (show c ∈ keysI ((a, x) :: D) from List.mem_cons_of_mem _ h2)]; rfl
      · rw [if_neg h2, if_neg (show ¬ c ∈ keysI ((a, x) :: D) from fun h3 => by rcases List.mem_cons.1 h3 with e | e; exact h e.symm; exact h2 e)]; rfl
theorem len_put (D : BL) (c : Int) (v : Fv) : (putB D c v).length ≤ D.length + 1 := by
  have h := congrArg List.length (keys_put c v D)
  have e1 : (keysI (putB D c v)).length = (putB D c v).length := List.length_map _
  have e2 : (keysI D).length = D.length := List.length_map _
  split at h
  · omega
  · rw [List.length_append, List.length_singleton] at h; omega
theorem getB_of {D : BL} (hn : (keysI D).Nodup) {c : Int} {v : Fv} (h : (c, v) ∈ D) : getB D c = some v := by
  induction D with
  | nil => cases h
  | cons p D ih =>
    obtain ⟨a, x⟩ := p
    obtain ⟨h1, h2⟩ := List.nodup_cons.1 (show (a :: keysI D).Nodup from hn)
    show (if a = c then some x else getA D c) = _
    rcases List.mem_cons.1 h with e | e
    · cases e; rw [if_pos rfl]
    · rw [if_neg (fun e2 => h1 (by rw [e2]; exact List.mem_map.2 ⟨_, e, rfl⟩))]
      exact ih h2 e
structure OkB (S : Led) : Prop where
  ent : ∀ e ∈ S.ents, OkE e
  bal : ∀ c a, 0 ≤ a → a < 5 → nth5 (balAt S.bals c) a = balR S.ents c a
  nd : (keysI S.bals).Nodup
  key : ∀ c, c ∈ keysI S.bals ↔ ∃ e ∈ S.ents, e.2.1 = c
  len : S.ents.length ≤ 10000
  blen : S.bals.length ≤ S.ents.length
  pos : ∀ c a, 1 ≤ a → a < 5 → 0 ≤ balR S.ents c a
theorem OkB.okL {S : Led} (h : OkB S) : OkL S := by
  have hl := h.len
  have hb := h.blen
  refine ⟨by omega, fun p hp => ?_, by omega⟩
  obtain ⟨c, v⟩ := p
  have e : balAt S.bals c = v := by unfold balAt; rw [getB_of h.nd hp]; rfl
  have key : ∀ a, 0 ≤ a → a < 5 → -1099511627776 ≤ nth5 v a ∧ nth5 v a ≤ 1099511627776 := fun a h0 h5 => by
    have h1 := h.bal c a h0 h5
    rw [e] at h1
    have h2 := balR_bnd h.ent c a
    rw [h1]; omega
  exact ⟨key 0 (by decide) (by decide), key 1 (by decide) (by decide), key 2 (by decide) (by decide), key 3 (by decide) (by decide), key 4 (by decide) (by decide)⟩
theorem OkB.preK {S : Led} (h : OkB S) : PreK S := by
  have hl := h.len
  have hb := h.blen
  refine ⟨h.nd, fun x hx => ?_, by omega⟩
  obtain ⟨e, he, rfl⟩ := (h.key x).1 hx
  exact (h.ent e he).c
def refR (l : List Fv) (e : Fv) : Int :=
  if 10000 ≤ (l.length : Int) then 5 else if 0 < e.2.2.1 then (if balR l e.2.1 e.2.2.1 < e.2.2.2.2 then 6 else 0) else 0
def refF (l : List Fv) (e : Fv) : Int :=
  if inrB e = true then
    (if prmB e.2.2.1 e.2.2.2.1 = true then
      (if 0 < (l.length : Int) then (if e.1 < (l.getD ((l.length : Int) - 1).toNat z5).1 then 15 else refR l e) else refR l e)
    else 16)
  else 2
theorem book_refR {S : Led} (h : OkB S) {e : Fv} (he : OkE e) : bkR S e = if refR S.ents e = 0 then bkD S e else bkN S (refR S.ents e) := by
  unfold bkR refR
  by_cases c : 10000 ≤ (S.ents.length : Int)
  · rw [if_pos c, if_pos c, if_neg (by decide)]
  · rw [if_neg c, if_neg c]
    have hf := he.ft
    by_cases c0 : e.2.2.1 = 0
    · rw [if_pos c0, if_neg (show ¬ 0 < e.2.2.1 by omega), if_pos rfl]
    · rw [if_neg c0, if_pos (show 0 < e.2.2.1 by omega)]
      have hb1 := h.bal e.2.1 1 (by decide) (by decide)
      have hb2 := h.bal e.2.1 2 (by decide) (by decide)
      have e1 : nth5 (balAt S.bals e.2.1) 1 = (balAt S.bals e.2.1).2.1 := rfl
      have e2 : nth5 (balAt S.bals e.2.1) 2 = (balAt S.bals e.2.1).2.2.1 := rfl
      rw [e1] at hb1
      rw [e2] at hb2
      by_cases c1 : e.2.2.1 = 1
      · rw [if_pos c1, c1, hb1]
        by_cases c2 : balR S.ents e.2.1 1 < e.2.2.2.2
        · rw [if_pos c2, if_pos c2, if_neg (by decide)]
        · rw [if_neg c2, if_neg c2, if_pos rfl]
      · have c2 : e.2.2.1 = 2 := by omega
        rw [if_neg c1, c2, hb2]
        by_cases c3 : balR S.ents e.2.1 2 < e.2.2.2.2
        · rw [if_pos c3, if_pos c3, if_neg (by decide)]
        · rw [if_neg c3, if_neg c3, if_pos rfl]
theorem book_ref {S : Led} (h : OkB S) (e : Fv) : bookF S e = if refF S.ents e = 0 then bkD S e else bkN S (refF S.ents e) := by
  unfold bookF refF
  by_cases c1 : inrB e = true
  · rw [if_pos c1, if_pos c1]
    by_cases c2 : prmB e.2.2.1 e.2.2.2.1 = true
    · rw [if_pos c2, if_pos c2]
      by_cases c3 : 0 < (S.ents.length : Int)
      · rw [if_pos c3, if_pos c3]
        by_cases c4 : e.1 < (S.ents.getD ((S.ents.length : Int) - 1).toNat z5).1
        · rw [if_pos c4, if_pos c4, if_neg (by decide)]
        · rw [if_neg c4, if_neg c4]; exact book_refR h (okE_of c1 c2)
      · rw [if_neg c3, if_neg c3]; exact book_refR h (okE_of c1 c2)
    · rw [if_neg c2, if_neg c2, if_neg (by decide)]
  · rw [if_neg c1, if_neg c1, if_neg (by decide)]
theorem ref0R {l : List Fv} {e : Fv} (h : refR l e = 0) : l.length < 10000 ∧ (0 < e.2.2.1 → e.2.2.2.2 ≤ balR l e.2.1 e.2.2.1) := by
  unfold refR at h
  split at h
  · cases h
  · split at h
    · split at h
      · cases h
      · exact ⟨by omega, fun _ => by omega⟩
    · exact ⟨by omega, fun _ => by omega⟩
theorem ref0 {l : List Fv} {e : Fv} (h : refF l e = 0) : OkE e ∧ l.length < 10000 ∧ (0 < e.2.2.1 → e.2.2.2.2 ≤ balR l e.2.1 e.2.2.1) := by
  unfold refF at h
  split at h
  · rename_i c1
    split at h
    · rename_i c2
      refine ⟨okE_of c1 c2, ?_⟩
      split at h
      · split at h
        · cases h
        · exact ref0R h
      · exact ref0R h
    · cases h
  · cases h
theorem okB_step {S : Led} (h : OkB S) {e : Fv} (hr : refF S.ents e = 0) : OkB (bkD S e).2 := by
  obtain ⟨he, hl, hb⟩ := ref0 hr
  refine ⟨fun x hx => ?_, fun c a h0 h5 => ?_, ?_, fun c => ?_, ?_, ?_, fun c a h1 h5 => ?_⟩
  · rcases List.mem_append.1 hx with hx | hx
    · exact h.ent x hx
    · rw [List.mem_singleton.1 hx]; exact he
  · show nth5 (balAt (putB S.bals e.2.1 _) c) a = balR (S.ents ++ [e]) c a
    rw [balAt_put, balR_snoc]
    split
    · rename_i e1
      subst e1
      rw [upd_nth he h0 h5, h.bal _ _ h0 h5]
    · rename_i e1
      rw [h.bal _ _ h0 h5]
      unfold dE
      rw [if_neg (fun e2 => e1 e2.1), if_neg (fun e2 => e1 e2.1)]; omega
  · show (keysI (putB S.bals e.2.1 _)).Nodup
    rw [keys_put]
    split
    · exact h.nd
    · rename_i hn
      exact List.nodup_append.2 ⟨h.nd, by simp, fun a ha b hb2 e2 => hn (by rw [List.mem_singleton.1 hb2] at e2; rw [← e2]; exact ha)⟩
  · show c ∈ keysI (putB S.bals e.2.1 _) ↔ ∃ x ∈ S.ents ++ [e], x.2.1 = c
    rw [keys_put]
    constructor
    · intro hc
      split at hc
      · obtain ⟨x, hx, rfl⟩ := (h.key c).1 hc
        exact ⟨x, List.mem_append_left _ hx, rfl⟩
      · rcases List.mem_append.1 hc with hc | hc
        · obtain ⟨x, hx, rfl⟩ := (h.key c).1 hc
          exact ⟨x, List.mem_append_left _ hx, rfl⟩
        · exact ⟨e, List.mem_append_right _ (List.mem_singleton.2 rfl), (List.mem_singleton.1 hc).symm⟩
    · rintro ⟨x, hx, rfl⟩
      rcases List.mem_append.1 hx with hx | hx
      · have := (h.key x.2.1).2 ⟨x, hx, rfl⟩
        split
        · exact this
        · exact List.mem_append_left _ this
      · rw [List.mem_singleton.1 hx]
        split
        · assumption
        · exact List.mem_append_right _ (List.mem_singleton.2 rfl)
  · show (S.ents ++ [e]).length ≤ 10000
    rw [List.length_append, List.length_singleton]; omega
  · show (putB S.bals e.2.1 _).length ≤ (S.ents ++ [e]).length
    have := len_put S.bals e.2.1 (updB (balAt S.bals e.2.1) e.2.2.1 e.2.2.2.1 e.2.2.2.2)
    have := h.blen
    rw [List.length_append, List.length_singleton]; omega
  · show 0 ≤ balR (S.ents ++ [e]) c a
    rw [balR_snoc]
    have h2 := h.pos c a h1 h5
    have h3 := he.n
    unfold dE
    by_cases e1 : e.2.1 = c ∧ e.2.2.1 = a
    · have h4 := hb (by omega)
      rw [e1.1, e1.2] at h4
      rw [if_pos e1]
      split <;> omega
    · rw [if_neg e1]
      split <;> omega
theorem okB_0 : OkB ⟨[], []⟩ := by
  refine ⟨fun e he => (by cases he), fun c a h0 h5 => ?_, .nil, fun c => ⟨fun h => (by cases h), fun ⟨_, h, _⟩ => (by cases h)⟩, Nat.zero_le _, Nat.le_refl _, fun c a _ _ => Int.le_refl _⟩
  rcases cases5 h0 h5 with rfl | rfl | rfl | rfl | rfl <;> rfl
theorem okB_book {S : Led} (h : OkB S) (e : Fv) : OkB (bookF S e).2 := by
  rw [book_ref h]
  split
  · exact okB_step h (by assumption)
  · exact h
def bookAll (l : List Fv) : Led := l.foldl (fun S e => (bookF S e).2) ⟨[], []⟩
theorem bookAll_snoc (l : List Fv) (e : Fv) : bookAll (l ++ [e]) = (bookF (bookAll l) e).2 := by unfold bookAll; rw [List.foldl_append]; rfl
theorem okB_fold : ∀ (l : List Fv) {S : Led}, OkB S → OkB (l.foldl (fun S e => (bookF S e).2) S)
  | [], _, h => h
  | e :: l, _, h => okB_fold l (okB_book h e)
theorem okB_all (l : List Fv) : OkB (bookAll l) := okB_fold l okB_0
theorem take_next {l : List Fv} {i : Int} (h0 : 0 ≤ i) (h : i < (l.length : Int)) : l.take (i + 1).toNat = l.take i.toNat ++ [l.getD i.toNat z5] := by
  have hlt : i.toNat < l.length := by omega
  rw [show (i + 1).toNat = i.toNat + 1 by omega, List.take_succ, List.getD_eq_getElem?_getD, List.getElem?_eq_getElem hlt]
  rfl
end Go.Proofs.YtfgfcbncnngniaaDoor
