/-
  Layer 44: what stays true of a writer and a reader with everything that was ever sent between them (plain).
-/
import Derived.Test.YtebhcmgfhkjmcaaWld
namespace Go.Proofs.Ytebhcmgfhkjmcaa
set_option linter.all false
set_option linter.unusedVariables false
set_option linter.unusedSimpArgs false
set_option linter.unusedSectionVars false
open Go.RowKit Go.Sx

/-! ### lists of keys and values -/
theorem getI_mem {K : List KV} {a v : Int} (h : getI K a = some v) : (a, v) ∈ K := by
  induction K with
  | nil => cases h
  | cons q K ih =>
    obtain ⟨k, u⟩ := q
    have h : (if k = a then some u else getI K a) = some v := h
    split at h
    · rename_i e; cases h; rw [e]; exact List.mem_cons_self ..
    · exact List.mem_cons_of_mem _ (ih h)
theorem getI_some {K : List KV} {a : Int} (h : a ∈ K.map Prod.fst) : (getI K a).isSome = true := by
  induction K with
  | nil => cases h
  | cons q K ih =>
    obtain ⟨k, u⟩ := q
    show (if k = a then some u else getI K a).isSome = true
    split
    · rfl
    · rename_i e
      rcases List.mem_cons.1 h with h | h
      · exact absurd h.symm e
      · exact ih h
theorem key_of {K : List KV} {a : Int} (h : (getI K a).isSome = true) : a ∈ K.map Prod.fst := by
  cases hg : getI K a with
  | none => rw [hg] at h; cases h
  | some v => exact List.mem_map.2 ⟨_, getI_mem hg, rfl⟩
theorem putI_mem {K : List KV} {a v : Int} : ∀ p ∈ putI K a v, p = (a, v) ∨ p ∈ K := by
  induction K with
  | nil => intro p hp; exact .inl (by simpa [putI, putA] using hp)
  | cons q K ih =>
    intro p hp
    simp only [putI, putA] at hp
    split at hp
    · rcases List.mem_cons.1 hp with h | h
      · exact .inl h
      · exact .inr (List.mem_cons_of_mem _ h)
    · rcases List.mem_cons.1 hp with h | h
      · exact .inr (h ▸ List.mem_cons_self ..)
      · rcases ih p h with h | h
        · exact .inl h
        · exact .inr (List.mem_cons_of_mem _ h)
theorem putI_keys_eq {K : List KV} {a v : Int} : (putI K a v).map Prod.fst = if a ∈ K.map Prod.fst then K.map Prod.fst else K.map Prod.fst ++ [a] := by
  induction K with
  | nil => rfl
  | cons q K ih =>
    obtain ⟨k, u⟩ := q
    show (putA ((k, u) :: K) a v).map Prod.fst = _
    simp only [putA]
    split
    · rename_i e
      subst e
      rw [if_pos (by simp)]; rfl
    · rename_i e
      have e' : ¬ a = k := fun h => e h.symm
      simp only [List.map_cons, List.mem_cons]
      have ih' : (putA K a v).map Prod.fst = if a ∈ K.map Prod.fst then K.map Prod.fst else K.map Prod.fst ++ [a] := ih
      rw [ih']
      by_cases h : a ∈ K.map Prod.fst
      · rw [if_pos h, if_pos (.inr h)]
      · rw [if_neg h, if_neg (fun hh => hh.elim e' h)]; rfl
theorem putI_nd {K : List KV} {a v : Int} (h : (K.map Prod.fst).Nodup) : ((putI K a v).map Prod.fst).Nodup := by
  rw [putI_keys_eq]
  split
  · exact h
  · rename_i hn
    rw [List.nodup_append]
    exact ⟨h, by simp, fun x hx y hy => by simp at hy; rw [hy]; rintro rfl; exact hn hx⟩
theorem putI_key {K : List KV} {a v b : Int} : b ∈ (putI K a v).map Prod.fst ↔ b = a ∨ b ∈ K.map Prod.fst := by
  rw [putI_keys_eq]
  split
  · rename_i h
    exact ⟨.inr, fun h2 => h2.elim (fun e => e ▸ h) id⟩
  · rw [List.mem_append]
    simp only [List.mem_singleton]
    exact ⟨fun h => h.symm, fun h => h.symm⟩
theorem delI_mem {K : List KV} {a : Int} : ∀ p ∈ delI K a, p ∈ K := by
  induction K with
  | nil => intro p hp; cases hp
  | cons q K ih =>
    intro p hp
    simp only [delI, delA] at hp
    split at hp
    · exact List.mem_cons_of_mem _ hp
    · rcases List.mem_cons.1 hp with h | h
      · exact h ▸ List.mem_cons_self ..
      · exact List.mem_cons_of_mem _ (ih p h)
theorem delI_sub {K : List KV} {a : Int} : ((delI K a).map Prod.fst).Sublist (K.map Prod.fst) := by
  induction K with
  | nil => exact List.Sublist.slnil
  | cons q K ih =>
    simp only [delI, delA]
    split
    · exact List.sublist_cons_self _ _
    · exact List.Sublist.cons₂ _ ih
theorem delI_key {K : List KV} {a b : Int} (h : (K.map Prod.fst).Nodup) : b ∈ (delI K a).map Prod.fst ↔ b ≠ a ∧ b ∈ K.map Prod.fst := by
  induction K with
  | nil => simp [delI, delA]
  | cons q K ih =>
    obtain ⟨k, u⟩ := q
    have h1 := (List.nodup_cons.1 h).1
    have h2 := (List.nodup_cons.1 h).2
    show b ∈ (delA ((k, u) :: K) a).map Prod.fst ↔ _
    simp only [delA]
    split
    · rename_i e
      subst e
      simp only [List.map_cons, List.mem_cons]
      exact ⟨fun hb => ⟨fun e => h1 (e ▸ hb), .inr hb⟩, fun hb => hb.2.resolve_left hb.1⟩
    · rename_i e
      have ih' : b ∈ (delA K a).map Prod.fst ↔ b ≠ a ∧ b ∈ K.map Prod.fst := ih h2
      simp only [List.map_cons, List.mem_cons]
      rw [ih']
      constructor
      · rintro (hb | hb)
        · exact ⟨fun h => e (hb ▸ h), .inl hb⟩
        · exact ⟨hb.1, .inr hb.2⟩
      · rintro ⟨hb, hc | hc⟩
        · exact .inl hc
        · exact .inr ⟨hb, hc⟩
theorem nd_len : ∀ (w : Nat) (a : Int) (l : List Int), l.Nodup → (∀ x ∈ l, a ≤ x ∧ x < a + w) → l.length ≤ w
  | 0, a, l, _, h => by
    cases l with
    | nil => exact Nat.le_refl _
    | cons x l => have := h x (List.mem_cons_self ..); omega
  | w + 1, a, l, hn, h => by
    by_cases hm : a + w ∈ l
    · have h1 := nd_len w a (l.erase (a + w)) (hn.erase _) fun x hx => by
        have h2 := (hn.mem_erase_iff).1 hx
        have h3 := h x h2.2
        have h4 := h2.1
        omega
      rw [List.length_erase_of_mem hm] at h1
      omega
    · have h1 := nd_len w a l hn fun x hx => by
        have h3 := h x hx
        have h4 : x ≠ a + w := fun e => hm (e ▸ hx)
        omega
      omega

/-! ### the store and a stream -/
structure StI (S : Sto) (d : List Int) (top : Int) : Prop where
  win : 1 ≤ S.win ∧ S.win ≤ 1048576
  off : 0 ≤ S.off ∧ S.off ≤ S.next
  nxt : S.next ≤ S.off + S.win ∧ S.next ≤ top
  nd : (S.kept.map Prod.fst).Nodup
  rng : ∀ p ∈ S.kept, S.off ≤ p.1 ∧ p.1 < S.off + S.win ∧ p.1 < top
  val : ∀ p ∈ S.kept, d.getD p.1.toNat 0 = p.2
  ctg : ∀ k, S.off ≤ k → k < S.next → k ∈ S.kept.map Prod.fst
theorem StI.len {S : Sto} {d : List Int} {top : Int} (h : StI S d top) : S.kept.length ≤ 1048576 := by
  have h1 := nd_len S.win.toNat S.off _ h.nd (fun x hx => by
    obtain ⟨p, hp, rfl⟩ := List.mem_map.1 hx
    have := h.rng p hp
    have := h.win
    omega)
  rw [List.length_map] at h1
  have := h.win
  omega
theorem StI.pre {S : Sto} {d : List Int} {top : Int} (h : StI S d top) (ht : top ≤ 1048576) : PreS S :=
  ⟨h.win, ⟨h.off.1, by have := h.off; have := h.nxt; omega⟩, ⟨h.off.2, h.nxt.1⟩, fun p hp => (h.rng p hp).2.1, h.len⟩

/-- A part of the stream. -/
structure Part (d : List Int) (top : Int) (s : Seg) : Prop where
  lo : 0 ≤ s.1
  hi : s.1 + (s.2.1.length : Int) ≤ top
  eq : ∀ i : Nat, i < s.2.1.length → s.2.1.getD i 0 = d.getD (s.1.toNat + i) 0

theorem confl_no {K : List KV} {d dd : List Int} {o top : Int} (hv : ∀ p ∈ K, d.getD p.1.toNat 0 = p.2) (hs : Part d top (o, dd, false)) : ∀ (n : Nat) (a : Int), o ≤ a → a + n ≤ o + dd.length → confl K dd o a n = false
  | 0, _, _, _ => rfl
  | n + 1, a, h1, h2 => by
    rw [confl, if_neg]
    · exact confl_no hv hs n (a + 1) (by omega) (by omega)
    · rintro ⟨h3, h4⟩
      cases hg : getI K a with
      | none => rw [hg] at h3; cases h3
      | some v =>
        rw [hg] at h4
        have h5 := hv _ (getI_mem hg)
        have h6 := hs.eq (a - o).toNat (by show _ < dd.length; omega)
        have h7 := hs.lo
        dsimp only at h5 h6 h7
        rw [show o.toNat + (a - o).toNat = a.toNat by omega, h5] at h6
        exact h4 h6.symm
structure InsI (S : Sto) (d : List Int) (top : Int) (K : List KV) : Prop where
  nd : (K.map Prod.fst).Nodup
  rng : ∀ p ∈ K, S.off ≤ p.1 ∧ p.1 < S.off + S.win ∧ p.1 < top
  val : ∀ p ∈ K, d.getD p.1.toNat 0 = p.2
theorem ins_ok {S : Sto} {d dd : List Int} {o top : Int} (hs : Part d top (o, dd, false)) : ∀ (n : Nat) (K : List KV) (a : Int), InsI S d top K → o ≤ a → S.off ≤ a → a + n ≤ o + dd.length → a + n ≤ S.off + S.win →
    InsI S d top (ins dd o K a n) ∧ ∀ k, k ∈ K.map Prod.fst → k ∈ (ins dd o K a n).map Prod.fst
  | 0, K, a, hK, _, _, _, _ => ⟨hK, fun _ h => h⟩
  | n + 1, K, a, hK, h1, h2, h3, h4 => by
    have h6 := hs.eq (a - o).toNat (by show _ < dd.length; omega)
    have h7 := hs.lo
    have h8 := hs.hi
    dsimp only at h6 h7 h8
    rw [show o.toNat + (a - o).toNat = a.toNat by omega] at h6
    have hK' : InsI S d top (putI K a (dd.getD (a - o).toNat 0)) := ⟨putI_nd hK.nd, fun p hp => by
      rcases putI_mem p hp with rfl | hp
      · dsimp only; omega
      · exact hK.rng p hp, fun p hp => by
      rcases putI_mem p hp with rfl | hp
      · exact h6.symm
      · exact hK.val p hp⟩
    obtain ⟨h9, h10⟩ := ins_ok hs n _ (a + 1) hK' (by omega) (by omega) (by omega) (by omega)
    exact ⟨h9, fun k hk => h10 k (putI_key.2 (.inr hk))⟩
theorem adv_ok {K : List KV} : ∀ (n : Nat) (x : Int), x ≤ adv K x n ∧ adv K x n ≤ x + n ∧ ∀ k, x ≤ k → k < adv K x n → k ∈ K.map Prod.fst
  | 0, x => ⟨Int.le_refl _, by simp [adv], fun k h1 h2 => by simp [adv] at h2; omega⟩
  | n + 1, x => by
    unfold adv
    split
    · rename_i h
      obtain ⟨h1, h2, h3⟩ := adv_ok (K := K) n (x + 1)
      refine ⟨by omega, by omega, fun k hk1 hk2 => ?_⟩
      by_cases e : k = x
      · rw [e]; exact key_of h
      · exact h3 k (by omega) hk2
    · exact ⟨Int.le_refl _, by omega, fun k h1 h2 => by omega⟩

/-- A segment of the stream is taken. -/
theorem put_part {S : Sto} {d : List Int} {top : Int} (h : StI S d top) {s : Seg} (hs : Part d top s) (ht : top ≤ 1048576) (hf : S.known = true → s.1 + (s.2.1.length : Int) ≤ S.fin ∧ (s.2.2 = true → s.1 + (s.2.1.length : Int) = S.fin)) (hl : s.2.2 = true → top ≤ s.1 + (s.2.1.length : Int)) :
    (putF S s.1 s.2.1 s.2.2).1.2.1 = (0 : Int) ∧ StI (putF S s.1 s.2.1 s.2.2).2 d top ∧ (putF S s.1 s.2.1 s.2.2).2.off = S.off ∧ (putF S s.1 s.2.1 s.2.2).2.win = S.win ∧ S.next ≤ (putF S s.1 s.2.1 s.2.2).2.next ∧
      ((putF S s.1 s.2.1 s.2.2).2.known = true → (S.known = true ∧ (putF S s.1 s.2.1 s.2.2).2.fin = S.fin) ∨ (s.2.2 = true ∧ (putF S s.1 s.2.1 s.2.2).2.fin = s.1 + (s.2.1.length : Int))) := by
  obtain ⟨o, dd, l⟩ := s
  have hs' : Part d top (o, dd, false) := ⟨hs.lo, hs.hi, hs.eq⟩
  have h1 := hs.lo
  have h2 := hs.hi
  dsimp only at h1 h2 hf hl ⊢
  have hmis : mis S (o + (dd.length : Int)) l = false := by
    unfold mis
    split
    · rename_i hk
      obtain ⟨a, b⟩ := hf hk
      rw [if_neg (by omega)]
      split
      · rename_i hl'
        simp [b hl']
      · rfl
    · split
      · rename_i hl'
        rw [anyGe_nil (fun p hp => by have := (h.rng p hp).2.2; have := hl hl'; omega), if_neg (by simp)]
        have := h.off; have := h.nxt; have := hl hl'
        simp; omega
      · rfl
  have hlen : ∀ x, pFr S o ≤ x → x + (pTo S o dd - x).toNat ≤ o + dd.length ∨ (pTo S o dd - x).toNat = 0 := fun x hx => by dsimp only [pFr, pTo] at hx ⊢; omega
  have hc : confl S.kept dd o (pFr S o) (pN S o dd) = false := by
    by_cases e : pN S o dd = 0
    · rw [e]; rfl
    · exact confl_no h.val hs' _ _ (by dsimp only [pFr]; omega) (by dsimp only [pN, pFr, pTo] at e ⊢; omega)
  have hi : InsI S d top (putK S o dd) ∧ ∀ k, k ∈ S.kept.map Prod.fst → k ∈ (putK S o dd).map Prod.fst := by
    by_cases e : pN S o dd = 0
    · dsimp only [putK]; rw [e]; exact ⟨⟨h.nd, h.rng, h.val⟩, fun _ h => h⟩
    · exact ins_ok hs' _ _ _ ⟨h.nd, h.rng, h.val⟩ (by dsimp only [pFr]; omega) (by dsimp only [pFr]; omega) (by dsimp only [pN, pFr, pTo] at e ⊢; omega) (by dsimp only [pN, pFr, pTo] at e ⊢; omega)
  obtain ⟨i1, i2⟩ := hi
  obtain ⟨a1, a2, a3⟩ := adv_ok (K := putK S o dd) (S.off + S.win - S.next).toNat S.next
  have hoff := h.off
  have hnxt := h.nxt
  have hwin := h.win
  have hnx : S.next ≤ adv (putK S o dd) S.next (S.off + S.win - S.next).toNat ∧ adv (putK S o dd) S.next (S.off + S.win - S.next).toNat ≤ S.off + S.win ∧ adv (putK S o dd) S.next (S.off + S.win - S.next).toNat ≤ top := by
    refine ⟨a1, by omega, ?_⟩
    by_cases e : adv (putK S o dd) S.next (S.off + S.win - S.next).toNat = S.next
    · omega
    · obtain ⟨p, hp, hp1⟩ := List.mem_map.1 (a3 (adv (putK S o dd) S.next (S.off + S.win - S.next).toNat - 1) (by omega) (by omega))
      have := (i1.rng p hp).2.2
      omega
  have hctg : ∀ k, S.off ≤ k → k < adv (putK S o dd) S.next (S.off + S.win - S.next).toNat → k ∈ (putK S o dd).map Prod.fst := by
    intro k hk1 hk2
    by_cases e : k < S.next
    · exact i2 k (h.ctg k hk1 e)
    · exact a3 k (by omega) hk2
  unfold putF
  rw [if_neg (by omega), if_neg (by omega), if_neg (by rw [hmis]; exact Bool.false_ne_true), if_neg (by rw [hc]; exact Bool.false_ne_true)]
  by_cases e : l = true
  · rw [if_pos e]
    exact ⟨rfl, ⟨hwin, ⟨hoff.1, by dsimp only; omega⟩, ⟨hnx.2.1, hnx.2.2⟩, i1.nd, i1.rng, i1.val, hctg⟩, rfl, rfl, hnx.1, fun _ => .inr ⟨e, rfl⟩⟩
  · rw [if_neg e]
    exact ⟨rfl, ⟨hwin, ⟨hoff.1, by dsimp only; omega⟩, ⟨hnx.2.1, hnx.2.2⟩, i1.nd, i1.rng, i1.val, hctg⟩, rfl, rfl, hnx.1, fun hk => .inl ⟨hk, rfl⟩⟩
end Go.Proofs.Ytebhcmgfhkjmcaa
