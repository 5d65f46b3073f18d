/-
  What a store does, seen as a function from offsets to bytes (plain).
-/
import Derived.Test.YtgdiepbjdpmfbaaKv
namespace Go.Proofs.Ytgdiepbjdpmfbaa
set_option linter.all false
set_option linter.unusedVariables false
set_option linter.unusedSimpArgs false
set_option linter.unusedSectionVars false
open Go.RowKit Go.Sx

theorem getI_cons {k u b : Int} {K : List KV} : getI ((k, u) :: K) b = if k = b then some u else getI K b := rfl
theorem getI_putI {K : List KV} {a v b : Int} : getI (putI K a v) b = if b = a then some v else getI K b := by
  induction K with
  | nil =>
    show (if a = b then some v else none) = if b = a then some v else none
    by_cases e : b = a
    · rw [if_pos e, if_pos e.symm]
    · rw [if_neg e, if_neg (Ne.symm e)]
  | cons q K ih =>
    obtain ⟨k, u⟩ := q
    show getI (putA ((k, u) :: K) a v) b = if b = a then some v else getI ((k, u) :: K) b
    simp only [putA, getI_cons]
    by_cases e : k = a
    · subst e
      rw [if_pos rfl, getI_cons]
      by_cases e2 : b = k
      · rw [if_pos e2.symm, if_pos e2]
      · rw [if_neg (Ne.symm e2), if_neg e2, if_neg (Ne.symm e2)]
    · rw [if_neg e, getI_cons]
      by_cases e2 : k = b
      · rw [if_pos e2, if_neg (fun h => e (e2.trans h)), if_pos e2]
      · rw [if_neg e2, if_neg e2]; exact ih
theorem putI_same {K : List KV} {a v : Int} (h : getI K a = some v) : putI K a v = K := by
  induction K with
  | nil => cases h
  | cons q K ih =>
    obtain ⟨k, u⟩ := q
    rw [getI_cons] at h
    show putA ((k, u) :: K) a v = _
    simp only [putA]
    by_cases e : k = a
    · rw [if_pos e] at h ⊢
      cases h; rw [e]
    · rw [if_neg e] at h ⊢
      exact congrArg _ (ih h)
theorem putI_new {K : List KV} {a v : Int} (h : getI K a = none) : putI K a v = K ++ [(a, v)] := by
  induction K with
  | nil => rfl
  | cons q K ih =>
    obtain ⟨k, u⟩ := q
    rw [getI_cons] at h
    show putA ((k, u) :: K) a v = _
    simp only [putA]
    split at h
    · cases h
    · rename_i e
      rw [if_neg e]
      exact congrArg _ (ih h)
theorem get_ins {d : List Int} {o : Int} : ∀ (n : Nat) (K : List KV) (a k : Int), getI (ins d o K a n) k = if a ≤ k ∧ k < a + n then some (d.getD (k - o).toNat 0) else getI K k
  | 0, K, a, k => by rw [if_neg (by omega)]; rfl
  | n + 1, K, a, k => by
    show getI (ins d o (putI K a (d.getD (a - o).toNat 0)) (a + 1) n) k = _
    rw [get_ins n, getI_putI]
    by_cases e : k = a
    · subst e
      rw [if_neg (by omega), if_pos rfl, if_pos (by omega)]
    · by_cases h : a + 1 ≤ k ∧ k < a + 1 + n
      · rw [if_pos h, if_pos (by omega)]
      · rw [if_neg h, if_neg e, if_neg (by omega)]
theorem ins_same {d : List Int} {o : Int} : ∀ (n : Nat) (K : List KV) (a : Int), (∀ k, a ≤ k → k < a + n → getI K k = some (d.getD (k - o).toNat 0)) → ins d o K a n = K
  | 0, K, a, _ => rfl
  | n + 1, K, a, h => by
    show ins d o (putI K a (d.getD (a - o).toNat 0)) (a + 1) n = K
    rw [putI_same (h a (Int.le_refl _) (by omega))]
    exact ins_same n K (a + 1) fun k h1 h2 => h k (by omega) (by omega)
theorem confl_iff {K : List KV} {d : List Int} {o : Int} : ∀ (n : Nat) (a : Int), confl K d o a n = true ↔ ∃ k v, a ≤ k ∧ k < a + n ∧ getI K k = some v ∧ v ≠ d.getD (k - o).toNat 0
  | 0, a => ⟨fun h => (by cases h), fun ⟨k, v, h1, h2, _⟩ => by omega⟩
  | n + 1, a => by
    unfold confl
    split
    · rename_i h
      refine ⟨fun _ => ?_, fun _ => rfl⟩
      cases hg : getI K a with
      | none => rw [hg] at h; cases h.1
      | some v => exact ⟨a, v, Int.le_refl _, by omega, hg, by have := h.2; rw [hg] at this; exact this⟩
    · rename_i h
      rw [confl_iff n]
      constructor
      · rintro ⟨k, v, h1, h2, h3, h4⟩; exact ⟨k, v, by omega, by omega, h3, h4⟩
      · rintro ⟨k, v, h1, h2, h3, h4⟩
        by_cases e : k = a
        · subst e
          exact absurd ⟨by rw [h3]; rfl, by rw [h3]; exact h4⟩ h
        · exact ⟨k, v, by omega, by omega, h3, h4⟩
theorem adv_non {K : List KV} {x : Int} (h : x ∉ K.map Prod.fst) : ∀ n, adv K x n = x
  | 0 => rfl
  | n + 1 => by rw [adv, if_neg (fun hs => h (key_of hs))]
theorem get_none {K : List KV} {a : Int} : getI K a = none ↔ a ∉ K.map Prod.fst := by
  constructor
  · intro h hm; have := getI_some hm; rw [h] at this; cases this
  · intro h
    cases hg : getI K a with
    | none => rfl
    | some v => exact absurd (key_of (by rw [hg]; rfl)) h
theorem get_mem {K : List KV} {a : Int} : a ∈ K.map Prod.fst ↔ ∃ v, getI K a = some v := by
  constructor
  · intro h; have := getI_some h; cases hg : getI K a with
    | none => rw [hg] at this; cases this
    | some v => exact ⟨v, rfl⟩
  · rintro ⟨v, h⟩; exact key_of (by rw [h]; rfl)
theorem mem_get {K : List KV} (hn : (K.map Prod.fst).Nodup) {p : KV} (h : p ∈ K) : getI K p.1 = some p.2 := by
  induction K with
  | nil => cases h
  | cons q K ih =>
    obtain ⟨k, u⟩ := q
    obtain ⟨h1, h2⟩ := List.nodup_cons.1 hn
    rw [getI_cons]
    rcases List.mem_cons.1 h with rfl | h
    · rw [if_pos rfl]
    · rw [if_neg (fun e => h1 (by have h3 := mem_key h; rw [← e] at h3; exact h3))]; exact ih h2 h
theorem anyGe_iff {K : List KV} {e : Int} : anyGe K e = true ↔ ∃ k, k ∈ K.map Prod.fst ∧ e ≤ k := by
  unfold anyGe
  rw [List.any_eq_true]
  constructor
  · rintro ⟨p, h1, h2⟩; exact ⟨p.1, mem_key h1, by simpa using h2⟩
  · rintro ⟨k, h1, h2⟩
    obtain ⟨p, hp, rfl⟩ := List.mem_map.1 h1
    exact ⟨p, hp, by simpa using h2⟩

/-! ### Put -/
abbrev putS (S : Sto) (o : Int) (d : List Int) (l : Bool) : Sto :=
  { S with kept := putK S o d, fin := if l = true then o + (d.length : Int) else S.fin, known := if l = true then true else S.known, next := adv (putK S o d) S.next (S.off + S.win - S.next).toNat }
structure PutOk (S : Sto) (o : Int) (d : List Int) (l : Bool) : Prop where
  o0 : 0 ≤ o
  o1 : o ≤ 1099511627776
  mis : mis S (o + (d.length : Int)) l = false
  confl : confl S.kept d o (pFr S o) (pN S o d) = false
theorem put_ok_eq {S : Sto} {o : Int} {d : List Int} {l : Bool} (h : PutOk S o d l) : putF S o d l = (((((putK S o d).length : Int) - (S.kept.length : Int), 0, ()) : II), putS S o d l) := by
  unfold putF
  have := h.o0; have := h.o1
  rw [if_neg (by omega), if_neg (by omega), if_neg (by rw [h.mis]; exact Bool.false_ne_true), if_neg (by rw [h.confl]; exact Bool.false_ne_true)]
  cases l
  · rfl
  · rfl
theorem put_cases (S : Sto) (o : Int) (d : List Int) (l : Bool) : ((¬ (0 ≤ o ∧ o ≤ 1099511627776)) ∧ putF S o d l = ((0, 2, ()), S)) ∨ ((0 ≤ o ∧ o ≤ 1099511627776) ∧ ¬ PutOk S o d l ∧ putF S o d l = ((0, 3, ()), S)) ∨ PutOk S o d l := by
  by_cases h1 : o < 0
  · exact .inl ⟨by omega, by unfold putF; rw [if_pos h1]⟩
  by_cases h2 : 1099511627776 < o
  · exact .inl ⟨by omega, by unfold putF; rw [if_neg h1, if_pos h2]⟩
  by_cases h3 : mis S (o + (d.length : Int)) l = true
  · exact .inr (.inl ⟨by omega, fun h => (by rw [h.mis] at h3; cases h3), by unfold putF; rw [if_neg h1, if_neg h2, if_pos h3]⟩)
  by_cases h4 : confl S.kept d o (pFr S o) (pN S o d) = true
  · exact .inr (.inl ⟨by omega, fun h => (by rw [h.confl] at h4; cases h4), by unfold putF; rw [if_neg h1, if_neg h2, if_neg h3, if_pos h4]⟩)
  exact .inr (.inr ⟨by omega, by omega, by simpa using h3, by simpa using h4⟩)
theorem put_err {S : Sto} {o : Int} {d : List Int} {l : Bool} (h : ¬ ((putF S o d l).1.2.1 : Int) = 0) : ((putF S o d l).1.1 : Int) = 0 ∧ (putF S o d l).2 = S := by
  rcases put_cases S o d l with ⟨_, e⟩ | ⟨_, _, e⟩ | h1
  · rw [e]; exact ⟨rfl, rfl⟩
  · rw [e]; exact ⟨rfl, rfl⟩
  · rw [put_ok_eq h1] at h; exact absurd rfl h
theorem put_okB {S : Sto} {o : Int} {d : List Int} {l : Bool} (h : ((putF S o d l).1.2.1 : Int) = 0) : PutOk S o d l := by
  rcases put_cases S o d l with ⟨_, e⟩ | ⟨_, _, e⟩ | h1
  · rw [e] at h; exact absurd h (by show ¬ (2 : Int) = 0; omega)
  · rw [e] at h; exact absurd h (by show ¬ (3 : Int) = 0; omega)
  · exact h1
theorem get_put {S : Sto} {o : Int} {d : List Int} {k : Int} : getI (putK S o d) k = if pFr S o ≤ k ∧ k < pTo S o d then some (d.getD (k - o).toNat 0) else getI S.kept k := by
  show getI (ins d o S.kept (pFr S o) (pN S o d)) k = _
  rw [get_ins]
  by_cases h : pFr S o ≤ k ∧ k < pTo S o d
  · rw [if_pos h, if_pos (by dsimp only [pN]; omega)]
  · rw [if_neg h, if_neg (by dsimp only [pN]; omega)]
theorem confl_no2 {S : Sto} {o : Int} {d : List Int} (h : confl S.kept d o (pFr S o) (pN S o d) = false) {k v : Int} (h1 : pFr S o ≤ k) (h2 : k < pTo S o d) (h3 : getI S.kept k = some v) : v = d.getD (k - o).toNat 0 := by
  refine Classical.byContradiction fun hv => ?_
  have := (confl_iff (K := S.kept) (d := d) (o := o) (pN S o d) (pFr S o)).2 ⟨k, v, h1, by dsimp only [pN]; omega, h3, hv⟩
  rw [h] at this; cases this
/-- Putting the same again. -/
theorem put_again {S : Sto} (hS : StO S) {o : Int} {d : List Int} {l : Bool} (hd : ∀ x ∈ d, 0 ≤ x ∧ x < 256) (hl : d.length ≤ 1048576) : putF (putF S o d l).2 o d l = ((0, (putF S o d l).1.2.1, ()), (putF S o d l).2) := by
  rcases put_cases S o d l with ⟨_, e⟩ | ⟨_, _, e⟩ | h
  · rw [e]; exact e
  · rw [e]; exact e
  have h1 := put_sto hS l hd hl (o := o)
  have e := put_ok_eq h
  rw [e] at h1 ⊢
  have hk : ∀ k, pFr S o ≤ k → k < pTo S o d → getI (putK S o d) k = some (d.getD (k - o).toNat 0) := fun k h1 h2 => by rw [get_put, if_pos ⟨h1, h2⟩]
  have hok : PutOk (putS S o d l) o d l := by
    refine ⟨h.o0, h.o1, ?_, ?_⟩
    · have hm := h.mis
      cases l
      · unfold Go.Proofs.Ytgdiepbjdpmfbaa.mis at hm ⊢
        simp only [Bool.false_eq_true, if_false] at hm ⊢
        exact hm
      · unfold Go.Proofs.Ytgdiepbjdpmfbaa.mis
        simp
    · cases hc : Go.Proofs.Ytgdiepbjdpmfbaa.confl (putS S o d l).kept d o (pFr (putS S o d l) o) (pN (putS S o d l) o d) with
      | false => rfl
      | true =>
        obtain ⟨k, v, k1, k2, k3, k4⟩ := (confl_iff _ _).1 hc
        have k1 : pFr S o ≤ k := k1
        have k2 : k < pFr S o + (pN S o d : Int) := k2
        have := hk k k1 (by dsimp only [pN] at k2; omega)
        have k3 : getI (putK S o d) k = some v := k3
        rw [this] at k3; cases k3; exact absurd rfl k4
  have hsame : putK (putS S o d l) o d = putK S o d := ins_same _ _ _ fun k k1 k2 => hk k k1 (by
    have k1 : pFr S o ≤ k := k1
    have k2 : k < pFr S o + (pN S o d : Int) := k2
    dsimp only [pN] at k2; omega)
  rw [put_ok_eq hok]
  have hnon : adv (putK S o d) (putS S o d l).next ((putS S o d l).off + (putS S o d l).win - (putS S o d l).next).toNat = (putS S o d l).next := adv_non h1.non _
  have e2 : putS (putS S o d l) o d l = putS S o d l := by
    have e3 : putS (putS S o d l) o d l = { putS S o d l with kept := putK (putS S o d l) o d, fin := if l = true then o + (d.length : Int) else (putS S o d l).fin, known := if l = true then true else (putS S o d l).known, next := adv (putK (putS S o d l) o d) (putS S o d l).next ((putS S o d l).off + (putS S o d l).win - (putS S o d l).next).toNat } := rfl
    rw [e3, hsame, hnon]
    cases l <;> rfl
  rw [e2, hsame]
  show (((((putK S o d).length : Int) - ((putK S o d).length : Int)), (0 : Int), ()), _) = _
  rw [Int.sub_self]
/-! ### Read -/
theorem get_del {K : List KV} {a b : Int} (h : b ≠ a) : getI (delI K a) b = getI K b := by
  induction K with
  | nil => rfl
  | cons q K ih =>
    obtain ⟨k, v⟩ := q
    show getI (delA ((k, v) :: K) a) b = (if k = b then some v else getI K b)
    simp only [delA]
    split
    · rename_i e; rw [if_neg (by rintro rfl; exact h e)]
    · show (if k = b then some v else getI (delI K a) b) = _
      split
      · rfl
      · exact ih
theorem rdB_get : ∀ (n : Nat) (K : List KV) (a : Int) (i : Nat), i < n → (rdB K a n).getD i 0 = (getI K (a + i)).getD 0
  | 0, _, _, i, h => absurd h (Nat.not_lt_zero i)
  | n + 1, K, a, 0, _ => by
    show (getI K a).getD 0 = (getI K (a + ((0 : Nat) : Int))).getD 0
    rw [show a + ((0 : Nat) : Int) = a by omega]
  | n + 1, K, a, i + 1, h => by
    show (rdB (delI K a) (a + 1) n).getD i 0 = _
    rw [rdB_get n (delI K a) (a + 1) i (by omega), get_del (by omega), show a + 1 + (i : Int) = a + ((i + 1 : Nat) : Int) by omega]
theorem get_rdK {K : List KV} (h : (K.map Prod.fst).Nodup) (n : Nat) (a k : Int) : getI (rdK K a n) k = if a ≤ k ∧ k < a + n then none else getI K k := by
  obtain ⟨r1, r2, r3⟩ := rdK_facts n K a h
  split
  · rename_i hk
    exact get_none.2 fun hm => ((r3 k).1 hm).2 hk
  · rename_i hk
    cases hg : getI K k with
    | none => exact get_none.2 fun hm => (get_none.1 hg) ((r3 k).1 hm).1
    | some v =>
      obtain ⟨v', hv'⟩ := get_mem.1 ((r3 k).2 ⟨get_mem.2 ⟨v, hg⟩, hk⟩)
      have := mem_get h (r2 _ (getI_mem hv'))
      rw [hg] at this; rw [hv']; exact this.symm
/-- What is read where n bytes are there. -/
theorem rdB_eq {K : List KV} {a : Int} {n : Nat} {l : List Int} (hl : l.length = n) (h : ∀ i : Nat, i < n → getI K (a + i) = some (l.getD i 0)) : rdB K a n = l := by
  refine List.ext_getElem (by rw [rdB_len, hl]) fun i h1 h2 => ?_
  have := rdB_get n K a i (by omega)
  rw [h i (by omega)] at this
  rw [List.getD_eq_getElem?_getD, List.getElem?_eq_getElem h1, List.getD_eq_getElem?_getD, List.getElem?_eq_getElem h2] at this
  exact this
theorem nil_of_get {K : List KV} (h : ∀ k, getI K k = none) : K = [] := by
  cases K with
  | nil => rfl
  | cons q K => obtain ⟨k, v⟩ := q; have := h k; rw [getI_cons, if_pos rfl] at this; cases this
/-- Where the contiguous offset of a store lies. -/
theorem next_eq {S : Sto} (h : StO S) {x : Int} (h0 : S.off ≤ x) (h1 : ∀ k, S.off ≤ k → k < x → getI S.kept k ≠ none) (h2 : getI S.kept x = none) : S.next = x := by
  have hoff := h.off
  rcases Int.lt_trichotomy S.next x with hlt | he | hgt
  · exact absurd (get_none.2 h.non) (h1 _ hoff.2 hlt)
  · exact he
  · exact absurd (h.ctg x h0 hgt) (get_none.1 h2)
end Go.Proofs.Ytgdiepbjdpmfbaa
