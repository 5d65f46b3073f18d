/-
  Layer 50: the reference's Conns, the plain part.
-/
import Derived.Test.YtfgfcbncnngniaaDoorBlw
namespace Go.Proofs.YtfgfcbncnngniaaDoor
set_option linter.all false
set_option linter.unusedVariables false
set_option linter.unusedSimpArgs false
set_option linter.unusedSectionVars false
open Go.RowKit Go.Sx
set_option maxRecDepth 100000
set_option maxHeartbeats 16000000
abbrev hasC (l : List Fv) (c : Int) : Bool := l.any fun e => decide (e.2.1 = c)
def connsTo (l : List Fv) : Nat → List Int
  | 0 => []
  | k + 1 => connsTo l k ++ (if hasC l k = true then [(k : Int)] else [])
theorem connsTo_len (l : List Fv) : ∀ k, (connsTo l k).length ≤ k
  | 0 => Nat.le_refl _
  | k + 1 => by
    have := connsTo_len l k
    simp only [connsTo, List.length_append]
    split <;> simp <;> omega
theorem connsTo_mem (l : List Fv) (c : Int) : ∀ k, c ∈ connsTo l k ↔ 0 ≤ c ∧ c < (k : Int) ∧ hasC l c = true
  | 0 => by simp [connsTo]; omega
  | k + 1 => by
    have ih := connsTo_mem l c k
    simp only [connsTo, List.mem_append, ih]
    by_cases e : c = (k : Int)
    · subst e
      constructor
      · rintro (h | h)
        · omega
        · split at h
          · exact ⟨by omega, by omega, by assumption⟩
          · cases h
      · rintro ⟨_, _, h⟩
        exact .inr (by rw [if_pos h]; exact List.mem_singleton.2 rfl)
    · constructor
      · rintro (h | h)
        · exact ⟨h.1, by omega, h.2.2⟩
        · split at h
          · exact absurd (List.mem_singleton.1 h) e
          · cases h
      · rintro ⟨h1, h2, h3⟩; exact .inl ⟨h1, by omega, h3⟩
theorem connsTo_asc (l : List Fv) : ∀ k, (connsTo l k).Pairwise (· < ·)
  | 0 => .nil
  | k + 1 => by
    simp only [connsTo]
    refine List.pairwise_append.2 ⟨connsTo_asc l k, by split <;> simp, fun a ha b hb => ?_⟩
    split at hb
    · rw [List.mem_singleton.1 hb]; exact ((connsTo_mem l a k).1 ha).2.1
    · cases hb
theorem nodup_perm {α : Type} [DecidableEq α] : ∀ {l m : List α}, l.Nodup → m.Nodup → (∀ a, a ∈ l ↔ a ∈ m) → l.Perm m
  | [], m, _, _, h => by
    cases m with
    | nil => exact .refl _
    | cons a m => exact absurd ((h a).2 (List.mem_cons_self ..)) (by simp)
  | a :: l, m, hl, hm, h => by
    obtain ⟨h1, h2⟩ := List.nodup_cons.1 hl
    have ha : a ∈ m := (h a).1 (List.mem_cons_self ..)
    have hp := List.perm_cons_erase ha
    refine (List.Perm.cons a (nodup_perm h2 (hm.erase a) fun b => ?_)).trans hp.symm
    rw [List.Nodup.mem_erase_iff hm]
    constructor
    · intro hb
      exact ⟨fun e => h1 (e ▸ hb), (h b).1 (List.mem_cons_of_mem _ hb)⟩
    · rintro ⟨hne, hb⟩
      rcases List.mem_cons.1 ((h b).2 hb) with e | e
      · exact absurd e hne
      · exact e
theorem conns_eq {S : Led} (h : OkB S) : connsTo S.ents 1000 = keysL S := by
  have h1 := connsTo_asc S.ents 1000
  have n1 : (connsTo S.ents 1000).Nodup := h1.imp fun {a b} q => by omega
  refine asc_eq ?_ (h1.imp fun q => by omega) (sortI_asc _)
  refine (nodup_perm n1 h.nd fun c => ?_).trans (sortI_perm _).symm
  rw [connsTo_mem, h.key]
  constructor
  · rintro ⟨_, _, h3⟩
    obtain ⟨e, he, h4⟩ := List.any_eq_true.1 h3
    exact ⟨e, he, of_decide_eq_true h4⟩
  · rintro ⟨e, he, rfl⟩
    have := (h.ent e he).c
    exact ⟨this.1, by omega, List.any_eq_true.2 ⟨e, he, decide_eq_true rfl⟩⟩
structure LCo (l : List Fv) where
  c : Int
  o : List Int
  lo : 0 ≤ c
  hi : c ≤ 1000
  eq : o = connsTo l c.toNat
theorem LCo.len {l : List Fv} (x : LCo l) : x.o.length ≤ 1000 := by
  have := connsTo_len l x.c.toNat; have := x.hi; rw [x.eq]; omega
structure LCi (l : List Fv) (c : Int) where
  i : Int
  f : Bool
  lo : 0 ≤ i
  hi : i ≤ (l.length : Int)
  eq : f = hasC (l.take i.toNat) c
theorem LCi.step {l : List Fv} {c : Int} (z : LCi l c) (h : z.i < (l.length : Int)) : ∃ (e : Fv) (y : LCi l c), l.getD z.i.toNat (0, 0, 0, 0, 0) = e ∧ y.i = z.i + 1 ∧ y.f = (z.f || decide (e.2.1 = c)) := by
  obtain ⟨e, he⟩ : ∃ e, l.getD z.i.toNat z5 = e := ⟨_, rfl⟩
  refine ⟨e, ⟨z.i + 1, z.f || decide (e.2.1 = c), by have := z.lo; omega, by omega, ?_⟩, he, rfl, rfl⟩
  rw [take_next z.lo h, he, z.eq]
  simp [hasC]
theorem LCi.done {l : List Fv} {c : Int} (z : LCi l c) (h : ¬ z.i < (l.length : Int)) : z.f = hasC l c := by
  rw [z.eq, List.take_of_length_le (by have := z.hi; omega)]
theorem LCo.next {l : List Fv} (x : LCo l) (h : x.c < 1000) : (hasC l x.c = true → ∃ y : LCo l, y.c = x.c + 1 ∧ y.o = x.o ++ [x.c]) ∧ (hasC l x.c = false → ∃ y : LCo l, y.c = x.c + 1 ∧ y.o = x.o) := by
  have h0 := x.lo
  have e0 : ((x.c.toNat : Nat) : Int) = x.c := by omega
  have e1 : connsTo l (x.c + 1).toNat = connsTo l x.c.toNat ++ (if hasC l x.c = true then [x.c] else []) := by
    rw [show (x.c + 1).toNat = x.c.toNat + 1 by omega]
    simp only [connsTo, e0]
  refine ⟨fun g => ⟨⟨x.c + 1, _, by omega, by omega, rfl⟩, rfl, ?_⟩, fun g => ⟨⟨x.c + 1, _, by omega, by omega, rfl⟩, rfl, ?_⟩⟩
  · show connsTo l (x.c + 1).toNat = _
    rw [e1, if_pos g, ← x.eq]
  · show connsTo l (x.c + 1).toNat = _
    rw [e1, if_neg (by rw [g]; decide), ← x.eq, List.append_nil]
theorem LCo.next1 {l : List Fv} (x : LCo l) (h : x.c < 1000) (z : LCi l x.c) (hz : ¬ z.i < (l.length : Int)) (hf : z.f = true) : ∃ y : LCo l, y.c = x.c + 1 ∧ y.o = x.o ++ [x.c] := (x.next h).1 ((z.done hz).symm.trans hf)
theorem LCo.next2 {l : List Fv} (x : LCo l) (h : x.c < 1000) (z : LCi l x.c) (hz : ¬ z.i < (l.length : Int)) (hf : z.f = false) : ∃ y : LCo l, y.c = x.c + 1 ∧ y.o = x.o := (x.next h).2 ((z.done hz).symm.trans hf)
theorem LCo.done {l : List Fv} (x : LCo l) (h : ¬ x.c < 1000) : x.o = connsTo l 1000 := by
  rw [x.eq, show x.c.toNat = 1000 by have := x.hi; omega]
end Go.Proofs.YtfgfcbncnngniaaDoor
