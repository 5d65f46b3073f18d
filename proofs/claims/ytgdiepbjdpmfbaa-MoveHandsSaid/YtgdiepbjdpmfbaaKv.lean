/-
  Lists of keys and values; what stays true of a store (plain).
-/
import Derived.Test.YtgdiepbjdpmfbaaSto
namespace Go.Proofs.Ytgdiepbjdpmfbaa
set_option linter.all false
set_option linter.unusedVariables false
set_option linter.unusedSimpArgs false
set_option linter.unusedSectionVars false
open Go.RowKit Go.Sx

/-! ### lists of keys and values -/
theorem getI_mem {K : List KV} {a v : Int} (h : getI K a = some v) : (a, v) ∈ K := by
  induction K with
  | nil => cases h
  | cons q K ih =>
    obtain ⟨k, u⟩ := q
    have h : (if k = a then some u else getI K a) = some v := h
    split at h
    · rename_i e; cases h; rw [e]; exact List.mem_cons_self ..
    · exact List.mem_cons_of_mem _ (ih h)
theorem getI_some {K : List KV} {a : Int} (h : a ∈ K.map Prod.fst) : (getI K a).isSome = true := by
  induction K with
  | nil => cases h
  | cons q K ih =>
    obtain ⟨k, u⟩ := q
    show (if k = a then some u else getI K a).isSome = true
    split
    · rfl
    · rename_i e
      rcases List.mem_cons.1 h with h | h
      · exact absurd h.symm e
      · exact ih h
theorem key_of {K : List KV} {a : Int} (h : (getI K a).isSome = true) : a ∈ K.map Prod.fst := by
  cases hg : getI K a with
  | none => rw [hg] at h; cases h
  | some v => exact List.mem_map.2 ⟨_, getI_mem hg, rfl⟩
theorem putI_mem {K : List KV} {a v : Int} : ∀ p ∈ putI K a v, p = (a, v) ∨ p ∈ K := by
  induction K with
  | nil => intro p hp; exact .inl (by simpa [putI, putA] using hp)
  | cons q K ih =>
    intro p hp
    simp only [putI, putA] at hp
    split at hp
    · rcases List.mem_cons.1 hp with h | h
      · exact .inl h
      · exact .inr (List.mem_cons_of_mem _ h)
    · rcases List.mem_cons.1 hp with h | h
      · exact .inr (h ▸ List.mem_cons_self ..)
      · rcases ih p h with h | h
        · exact .inl h
        · exact .inr (List.mem_cons_of_mem _ h)
theorem putI_keys_eq {K : List KV} {a v : Int} : (putI K a v).map Prod.fst = if a ∈ K.map Prod.fst then K.map Prod.fst else K.map Prod.fst ++ [a] := by
  induction K with
  | nil => rfl
  | cons q K ih =>
    obtain ⟨k, u⟩ := q
    show (putA ((k, u) :: K) a v).map Prod.fst = _
    simp only [putA]
    split
    · rename_i e
      subst e
      rw [if_pos (by simp)]; rfl
    · rename_i e
      have e' : ¬ a = k := fun h => e h.symm
      simp only [List.map_cons, List.mem_cons]
      have ih' : (putA K a v).map Prod.fst = if a ∈ K.map Prod.fst then K.map Prod.fst else K.map Prod.fst ++ [a] := ih
      rw [ih']
      by_cases h : a ∈ K.map Prod.fst
      · rw [if_pos h, if_pos (.inr h)]
      · rw [if_neg h, if_neg (fun hh => hh.elim e' h)]; rfl
theorem putI_nd {K : List KV} {a v : Int} (h : (K.map Prod.fst).Nodup) : ((putI K a v).map Prod.fst).Nodup := by
  rw [putI_keys_eq]
  split
  · exact h
  · rename_i hn
    rw [List.nodup_append]
    exact ⟨h, by simp, fun x hx y hy => by simp at hy; rw [hy]; rintro rfl; exact hn hx⟩
theorem putI_key {K : List KV} {a v b : Int} : b ∈ (putI K a v).map Prod.fst ↔ b = a ∨ b ∈ K.map Prod.fst := by
  rw [putI_keys_eq]
  split
  · rename_i h
    exact ⟨.inr, fun h2 => h2.elim (fun e => e ▸ h) id⟩
  · rw [List.mem_append]
    simp only [List.mem_singleton]
    exact ⟨fun h => h.symm, fun h => h.symm⟩
theorem delI_mem {K : List KV} {a : Int} : ∀ p ∈ delI K a, p ∈ K := by
  induction K with
  | nil => intro p hp; cases hp
  | cons q K ih =>
    intro p hp
    simp only [delI, delA] at hp
    split at hp
    · exact List.mem_cons_of_mem _ hp
    · rcases List.mem_cons.1 hp with h | h
      · exact h ▸ List.mem_cons_self ..
      · exact List.mem_cons_of_mem _ (ih p h)
theorem delI_sub {K : List KV} {a : Int} : ((delI K a).map Prod.fst).Sublist (K.map Prod.fst) := by
  induction K with
  | nil => exact List.Sublist.slnil
  | cons q K ih =>
    simp only [delI, delA]
    split
    · exact List.sublist_cons_self _ _
    · exact List.Sublist.cons₂ _ ih
theorem delI_key {K : List KV} {a b : Int} (h : (K.map Prod.fst).Nodup) : b ∈ (delI K a).map Prod.fst ↔ b ≠ a ∧ b ∈ K.map Prod.fst := by
  induction K with
  | nil => simp [delI, delA]
  | cons q K ih =>
    obtain ⟨k, u⟩ := q
    have h1 := (List.nodup_cons.1 h).1
    have h2 := (List.nodup_cons.1 h).2
    show b ∈ (delA ((k, u) :: K) a).map Prod.fst ↔ _
    simp only [delA]
    split
    · rename_i e
      subst e
      simp only [List.map_cons, List.mem_cons]
      exact ⟨fun hb => ⟨fun e => h1 (e ▸ hb), .inr hb⟩, fun hb => hb.2.resolve_left hb.1⟩
    · rename_i e
      have ih' : b ∈ (delA K a).map Prod.fst ↔ b ≠ a ∧ b ∈ K.map Prod.fst := ih h2
      simp only [List.map_cons, List.mem_cons]
      rw [ih']
      constructor
      · rintro (hb | hb)
        · exact ⟨fun h => e (hb ▸ h), .inl hb⟩
        · exact ⟨hb.1, .inr hb.2⟩
      · rintro ⟨hb, hc | hc⟩
        · exact .inl hc
        · exact .inr ⟨hb, hc⟩
theorem nd_len : ∀ (w : Nat) (a : Int) (l : List Int), l.Nodup → (∀ x ∈ l, a ≤ x ∧ x < a + w) → l.length ≤ w
  | 0, a, l, _, h => by
    cases l with
    | nil => exact Nat.le_refl _
    | cons x l => have := h x (List.mem_cons_self ..); omega
  | w + 1, a, l, hn, h => by
    by_cases hm : a + w ∈ l
    · have h1 := nd_len w a (l.erase (a + w)) (hn.erase _) fun x hx => by
        have h2 := (hn.mem_erase_iff).1 hx
        have h3 := h x h2.2
        have h4 := h2.1
        omega
      rw [List.length_erase_of_mem hm] at h1
      omega
    · have h1 := nd_len w a l hn fun x hx => by
        have h3 := h x hx
        have h4 : x ≠ a + w := fun e => hm (e ▸ hx)
        omega
      omega

theorem adv_ok {K : List KV} : ∀ (n : Nat) (x : Int), x ≤ adv K x n ∧ adv K x n ≤ x + n ∧ ∀ k, x ≤ k → k < adv K x n → k ∈ K.map Prod.fst
  | 0, x => ⟨Int.le_refl _, by simp [adv], fun k h1 h2 => by simp [adv] at h2; omega⟩
  | n + 1, x => by
    unfold adv
    split
    · rename_i h
      obtain ⟨h1, h2, h3⟩ := adv_ok (K := K) n (x + 1)
      refine ⟨by omega, by omega, fun k hk1 hk2 => ?_⟩
      by_cases e : k = x
      · rw [e]; exact key_of h
      · exact h3 k (by omega) hk2
    · exact ⟨Int.le_refl _, by omega, fun k h1 h2 => by omega⟩

theorem list_eq_take {l d : List Int} {a : Nat} (h : ∀ i : Nat, i < l.length → l.getD i 0 = d.getD (a + i) 0) (hl : a + l.length ≤ d.length) : l = (d.drop a).take l.length := by
  refine List.ext_getElem (by rw [List.length_take, List.length_drop]; omega) fun i h1 h2 => ?_
  have := h i h1
  rw [List.getD_eq_getElem?_getD, List.getD_eq_getElem?_getD, List.getElem?_eq_getElem h1, List.getElem?_eq_getElem (show a + i < d.length by omega)] at this
  simpa using this
theorem rdB_len (K : List KV) (a : Int) : ∀ n, (rdB K a n).length = n := by
  intro n
  induction n generalizing K a with
  | zero => rfl
  | succ n ih => simp only [rdB, List.length_cons, ih]
theorem readF_len (S : Sto) (m : Int) : ((readF S m).1.1 : List Int).length ≤ m.toNat := by
  unfold readF
  split
  · exact Nat.zero_le _
  · show (rdB S.kept S.off (rdN S m).toNat).length ≤ _
    rw [rdB_len]; dsimp only [rdN]; omega

/-! ### a store -/
abbrev topK : Int := 1099513724928
structure StO (S : Sto) : Prop where
  win : 1 ≤ S.win ∧ S.win ≤ 1048576
  off : 0 ≤ S.off ∧ S.off ≤ S.next
  nxt : S.next ≤ S.off + S.win ∧ S.next ≤ topK
  nd : (S.kept.map Prod.fst).Nodup
  rng : ∀ p ∈ S.kept, S.off ≤ p.1 ∧ p.1 < S.off + S.win ∧ p.1 < topK
  ctg : ∀ k, S.off ≤ k → k < S.next → k ∈ S.kept.map Prod.fst
  non : S.next ∉ S.kept.map Prod.fst
  fin : S.known = true → 0 ≤ S.fin ∧ S.fin ≤ topK ∧ S.off ≤ S.fin ∧ ∀ p ∈ S.kept, p.1 < S.fin
  byt : ∀ p ∈ S.kept, 0 ≤ p.2 ∧ p.2 < 256
theorem StO.len {S : Sto} (h : StO S) : (S.kept.length : Int) ≤ S.win := by
  have h1 := nd_len S.win.toNat S.off _ h.nd (fun x hx => by
    obtain ⟨p, hp, rfl⟩ := List.mem_map.1 hx
    have := h.rng p hp
    have := h.win
    omega)
  rw [List.length_map] at h1
  have := h.win
  omega
theorem StO.pre {S : Sto} (h : StO S) : PreS S :=
  ⟨h.win, ⟨h.off.1, by have := h.off; have := h.nxt; dsimp only [topK] at *; omega⟩, ⟨h.off.2, h.nxt.1⟩, fun p hp => (h.rng p hp).2.1, by have := h.len; have := h.win; omega⟩
theorem newS_ok {w : Int} (h1 : 1 ≤ w) (h2 : w ≤ 1048576) : StO (newS w) := by
  refine ⟨⟨h1, h2⟩, ⟨Int.le_refl _, Int.le_refl _⟩, ⟨by show (0 : Int) ≤ 0 + w; omega, by show (0 : Int) ≤ topK; decide⟩, List.nodup_nil, fun p hp => (by cases hp), fun k k1 k2 => ?_, List.not_mem_nil, fun h => (by cases h), fun p hp => (by cases hp)⟩
  have k1 : (0 : Int) ≤ k := k1
  have k2 : k < 0 := k2
  omega
theorem mem_key {K : List KV} {p : KV} (h : p ∈ K) : p.1 ∈ K.map Prod.fst := List.mem_map.2 ⟨p, h, rfl⟩
/-- Entries that are put. -/
theorem ins_facts {d : List Int} {o : Int} (hd : ∀ x ∈ d, 0 ≤ x ∧ x < 256) : ∀ (n : Nat) (K : List KV) (a : Int), o ≤ a → a + n ≤ o + d.length →
    ((K.map Prod.fst).Nodup → ((ins d o K a n).map Prod.fst).Nodup) ∧ (∀ k, k ∈ (ins d o K a n).map Prod.fst ↔ k ∈ K.map Prod.fst ∨ (a ≤ k ∧ k < a + n)) ∧ ((∀ p ∈ K, 0 ≤ p.2 ∧ p.2 < 256) → ∀ p ∈ ins d o K a n, 0 ≤ p.2 ∧ p.2 < 256)
  | 0, K, a, _, _ => ⟨id, fun k => ⟨.inl, fun h => h.elim id (fun h => absurd h (by omega))⟩, id⟩
  | n + 1, K, a, h1, h2 => by
    obtain ⟨r1, r2, r3⟩ := ins_facts (o := o) hd n (putI K a (d.getD (a - o).toNat 0)) (a + 1) (by omega) (by omega)
    refine ⟨fun h => r1 (putI_nd h), fun k => ?_, fun h => r3 fun p hp => ?_⟩
    · show k ∈ (ins d o (putI K a (d.getD (a - o).toNat 0)) (a + 1) n).map Prod.fst ↔ _
      rw [r2, putI_key]
      constructor
      · rintro ((h | h) | h)
        · exact .inr (by omega)
        · exact .inl h
        · exact .inr (by omega)
      · rintro (h | h)
        · exact .inl (.inr h)
        · by_cases e : k = a
          · exact .inl (.inl e)
          · exact .inr (by omega)
    · rcases putI_mem p hp with rfl | hp
      · have hl : (a - o).toNat < d.length := by omega
        dsimp only
        rw [List.getD_eq_getElem?_getD, List.getElem?_eq_getElem hl]
        exact hd _ (List.getElem_mem hl)
      · exact h p hp
theorem put_sto {S : Sto} (h : StO S) {o : Int} {d : List Int} (l : Bool) (hd : ∀ x ∈ d, 0 ≤ x ∧ x < 256) (hl : d.length ≤ 1048576) : StO (putF S o d l).2 := by
  unfold putF
  split
  · exact h
  split
  · exact h
  split
  · exact h
  rename_i g1 g2 g3
  split
  · exact h
  have hwin := h.win; have hoff := h.off; have hnxt := h.nxt
  have hi : ((putK S o d).map Prod.fst).Nodup ∧ (∀ k, k ∈ (putK S o d).map Prod.fst ↔ k ∈ S.kept.map Prod.fst ∨ (pFr S o ≤ k ∧ k < pTo S o d)) ∧ ∀ p ∈ putK S o d, 0 ≤ p.2 ∧ p.2 < 256 := by
    by_cases e : pN S o d = 0
    · dsimp only [putK]
      rw [e]
      exact ⟨h.nd, fun k => ⟨.inl, fun hh => hh.elim id fun hh => absurd hh (by dsimp only [pN] at e; omega)⟩, h.byt⟩
    · obtain ⟨r1, r2, r3⟩ := ins_facts (o := o) hd (pN S o d) S.kept (pFr S o) (by dsimp only [pFr]; omega) (by dsimp only [pN, pFr, pTo] at e ⊢; omega)
      exact ⟨r1 h.nd, fun k => by rw [r2]; dsimp only [pN] at e ⊢; constructor <;> (rintro (hh | hh) <;> first | exact .inl hh | exact .inr (by omega)), r3 h.byt⟩
  obtain ⟨i1, i2, i3⟩ := hi
  have hr : ∀ p ∈ putK S o d, S.off ≤ p.1 ∧ p.1 < S.off + S.win ∧ p.1 < topK ∧ (p ∈ S.kept ∨ p.1 < o + d.length ∨ p.1 ∈ S.kept.map Prod.fst) := fun p hp => by
    rcases (i2 p.1).1 (mem_key hp) with hk | hk
    · obtain ⟨q, hq, e⟩ := List.mem_map.1 hk
      have := h.rng q hq
      rw [e] at this
      exact ⟨this.1, this.2.1, this.2.2, .inr (.inr hk)⟩
    · dsimp only [pFr, pTo, topK] at *
      exact ⟨by omega, by omega, by omega, .inr (.inl (by omega))⟩
  obtain ⟨a1, a2, a3⟩ := adv_ok (K := putK S o d) (S.off + S.win - S.next).toNat S.next
  have hstop : ∀ (n : Nat) (x : Int), adv (putK S o d) x n < x + n → adv (putK S o d) x n ∉ (putK S o d).map Prod.fst := by
    intro n
    induction n with
    | zero => intro x hx; simp [adv] at hx
    | succ n ih =>
      intro x hx
      unfold adv at hx ⊢
      split at hx
      · rename_i hs; rw [if_pos hs]; exact ih (x + 1) (by omega)
      · rename_i hs; rw [if_neg hs]; exact fun hm => hs (getI_some hm)
  have hnon : adv (putK S o d) S.next (S.off + S.win - S.next).toNat ∉ (putK S o d).map Prod.fst := by
    by_cases e : adv (putK S o d) S.next (S.off + S.win - S.next).toNat < S.next + ((S.off + S.win - S.next).toNat : Int)
    · exact hstop _ _ e
    · intro hm
      obtain ⟨p, hp, he⟩ := List.mem_map.1 hm
      have := hr p hp
      omega
  have htop : adv (putK S o d) S.next (S.off + S.win - S.next).toNat ≤ topK := by
    by_cases e : adv (putK S o d) S.next (S.off + S.win - S.next).toNat = S.next
    · rw [e]; exact hnxt.2
    · obtain ⟨p, hp, he⟩ := List.mem_map.1 (a3 (adv (putK S o d) S.next (S.off + S.win - S.next).toNat - 1) (by omega) (by omega))
      have := hr p hp
      omega
  have hctg : ∀ k, S.off ≤ k → k < adv (putK S o d) S.next (S.off + S.win - S.next).toNat → k ∈ (putK S o d).map Prod.fst := by
    intro k hk1 hk2
    by_cases e : k < S.next
    · exact (i2 k).2 (.inl (h.ctg k hk1 e))
    · exact a3 k (by omega) hk2
  have hmis : mis S (o + (d.length : Int)) l = false := by simpa using g3
  unfold mis at hmis
  split
  · rename_i hlt
    refine ⟨hwin, ⟨hoff.1, by dsimp only; omega⟩, ⟨by dsimp only; omega, htop⟩, i1, fun p hp => ⟨(hr p hp).1, (hr p hp).2.1, (hr p hp).2.2.1⟩, hctg, hnon, fun _ => ?_, i3⟩
    dsimp only [topK]
    by_cases hk : S.known = true
    · rw [if_pos hk] at hmis
      split at hmis
      · cases hmis
      · (try rw [if_pos hlt] at hmis)
        have e : o + (d.length : Int) = S.fin := by simpa using hmis
        obtain ⟨f1, f2, f3, f4⟩ := h.fin hk
        refine ⟨by omega, by omega, by omega, fun p hp => ?_⟩
        rcases (hr p hp).2.2.2 with hh | hh | hh
        · have := f4 p hh; omega
        · exact hh
        · obtain ⟨q, hq, e2⟩ := List.mem_map.1 hh
          have := f4 q hq; omega
    · rw [if_neg hk] at hmis
      (try rw [if_pos hlt] at hmis)
      split at hmis
      · cases hmis
      · rename_i hany
        have e : ¬ o + (d.length : Int) < S.off := by simpa using hmis
        refine ⟨by omega, by omega, by omega, fun p hp => ?_⟩
        have hall : ∀ q ∈ S.kept, q.1 < o + (d.length : Int) := fun q hq => Int.not_le.1 fun hle => hany (anyGe_mem hq hle)
        rcases (hr p hp).2.2.2 with hh | hh | hh
        · exact hall p hh
        · exact hh
        · obtain ⟨q, hq, e2⟩ := List.mem_map.1 hh
          have := hall q hq; omega
  · rename_i hlt
    refine ⟨hwin, ⟨hoff.1, by dsimp only; omega⟩, ⟨by dsimp only; omega, htop⟩, i1, fun p hp => ⟨(hr p hp).1, (hr p hp).2.1, (hr p hp).2.2.1⟩, hctg, hnon, fun hk => ?_, i3⟩
    have hk : S.known = true := hk
    rw [if_pos hk] at hmis
    obtain ⟨f1, f2, f3, f4⟩ := h.fin hk
    split at hmis
    · cases hmis
    · refine ⟨f1, f2, f3, fun p hp => ?_⟩
      dsimp only
      rcases (hr p hp).2.2.2 with hh | hh | hh
      · exact f4 p hh
      · omega
      · obtain ⟨q, hq, e2⟩ := List.mem_map.1 hh
        have := f4 q hq; omega
theorem rdK_facts : ∀ (n : Nat) (K : List KV) (a : Int), (K.map Prod.fst).Nodup → ((rdK K a n).map Prod.fst).Nodup ∧ (∀ p ∈ rdK K a n, p ∈ K) ∧ ∀ k, k ∈ (rdK K a n).map Prod.fst ↔ k ∈ K.map Prod.fst ∧ ¬ (a ≤ k ∧ k < a + n)
  | 0, K, a, h => ⟨h, fun _ h => h, fun k => ⟨fun hk => ⟨hk, by omega⟩, fun hk => hk.1⟩⟩
  | n + 1, K, a, h => by
    obtain ⟨r1, r2, r3⟩ := rdK_facts n (delI K a) (a + 1) (h.sublist delI_sub)
    refine ⟨r1, fun p hp => delI_mem p (r2 p hp), fun k => ?_⟩
    show k ∈ (rdK (delI K a) (a + 1) n).map Prod.fst ↔ _
    rw [r3, delI_key h]
    constructor
    · rintro ⟨⟨h1, h2⟩, h3⟩; exact ⟨h2, by omega⟩
    · rintro ⟨h1, h2⟩; exact ⟨⟨by omega, h1⟩, by omega⟩
theorem read_sto {S : Sto} (h : StO S) (m : Int) : StO (readF S m).2 := by
  unfold readF
  split
  · exact h
  have hwin := h.win; have hoff := h.off; have hnxt := h.nxt
  have hn : 0 ≤ rdN S m ∧ rdN S m ≤ S.next - S.off := by dsimp only [rdN]; omega
  obtain ⟨r1, r2, r3⟩ := rdK_facts (rdN S m).toNat S.kept S.off h.nd
  refine ⟨hwin, ⟨by dsimp only; omega, by dsimp only; omega⟩, ⟨by dsimp only; omega, hnxt.2⟩, r1, fun p hp => ?_, fun k k1 k2 => ?_, fun hm => ?_, fun hk => ?_, fun p hp => h.byt p (r2 p hp)⟩
  · have h1 := h.rng p (r2 p hp)
    have h2 := ((r3 p.1).1 (mem_key hp)).2
    dsimp only at *
    omega
  · dsimp only at k1 k2
    exact (r3 k).2 ⟨h.ctg k (by omega) k2, by omega⟩
  · exact h.non ((r3 _).1 hm).1
  · obtain ⟨f1, f2, f3, f4⟩ := h.fin hk
    refine ⟨f1, f2, ?_, fun p hp => f4 p (r2 p hp)⟩
    dsimp only
    by_cases e : S.next = S.off
    · omega
    · obtain ⟨p, hp, he⟩ := List.mem_map.1 (h.ctg (S.next - 1) (by omega) (by omega))
      have := f4 p hp
      omega
/-- The contiguous offset. -/
theorem adv_next {S : Sto} (h : StO S) : adv S.kept S.off S.win.toNat = S.next := by
  have hwin := h.win; have hoff := h.off; have hnxt := h.nxt
  have key : ∀ (n : Nat) (x : Int), S.off ≤ x → x ≤ S.next → S.next ≤ x + n → adv S.kept x n = S.next := by
    intro n
    induction n with
    | zero => intro x h1 h2 h3; show x = S.next; omega
    | succ n ih =>
      intro x h1 h2 h3
      by_cases e : x = S.next
      · subst e
        rw [adv, if_neg (fun hs => h.non (key_of hs))]
      · rw [adv, if_pos (getI_some (h.ctg x h1 (by omega)))]
        exact ih (x + 1) (by omega) (by omega) (by omega)
  exact key _ _ (Int.le_refl _) hoff.2 (by omega)
end Go.Proofs.Ytgdiepbjdpmfbaa
