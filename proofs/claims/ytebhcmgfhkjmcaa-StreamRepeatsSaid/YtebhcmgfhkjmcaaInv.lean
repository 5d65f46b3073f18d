/-
  Layer 44: what stays true of a writer and a reader with everything that was ever sent between them (plain).
-/
import Derived.Test.YtebhcmgfhkjmcaaWld
namespace Go.Proofs.Ytebhcmgfhkjmcaa
set_option linter.all false
set_option linter.unusedVariables false
set_option linter.unusedSimpArgs false
set_option linter.unusedSectionVars false
open Go.RowKit Go.Sx

/-! ### the store and a stream -/
structure StI (S : Sto) (d : List Int) (top : Int) : Prop where
  win : 1 ≤ S.win ∧ S.win ≤ 1048576
  off : 0 ≤ S.off ∧ S.off ≤ S.next
  nxt : S.next ≤ S.off + S.win ∧ S.next ≤ top
  nd : (S.kept.map Prod.fst).Nodup
  rng : ∀ p ∈ S.kept, S.off ≤ p.1 ∧ p.1 < S.off + S.win ∧ p.1 < top
  val : ∀ p ∈ S.kept, d.getD p.1.toNat 0 = p.2
  ctg : ∀ k, S.off ≤ k → k < S.next → k ∈ S.kept.map Prod.fst
theorem StI.len {S : Sto} {d : List Int} {top : Int} (h : StI S d top) : S.kept.length ≤ 1048576 := by
  have h1 := nd_len S.win.toNat S.off _ h.nd (fun x hx => by
    obtain ⟨p, hp, rfl⟩ := List.mem_map.1 hx
    have := h.rng p hp
    have := h.win
    omega)
  rw [List.length_map] at h1
  have := h.win
  omega
theorem StI.pre {S : Sto} {d : List Int} {top : Int} (h : StI S d top) (ht : top ≤ 1048576) : PreS S :=
  ⟨h.win, ⟨h.off.1, by have := h.off; have := h.nxt; omega⟩, ⟨h.off.2, h.nxt.1⟩, fun p hp => (h.rng p hp).2.1, h.len⟩

/-- A part of the stream. -/
structure Part (d : List Int) (top : Int) (s : Seg) : Prop where
  lo : 0 ≤ s.1
  hi : s.1 + (s.2.1.length : Int) ≤ top
  eq : ∀ i : Nat, i < s.2.1.length → s.2.1.getD i 0 = d.getD (s.1.toNat + i) 0

theorem confl_no {K : List KV} {d dd : List Int} {o top : Int} (hv : ∀ p ∈ K, d.getD p.1.toNat 0 = p.2) (hs : Part d top (o, dd, false)) : ∀ (n : Nat) (a : Int), o ≤ a → a + n ≤ o + dd.length → confl K dd o a n = false
  | 0, _, _, _ => rfl
  | n + 1, a, h1, h2 => by
    rw [confl, if_neg]
    · exact confl_no hv hs n (a + 1) (by omega) (by omega)
    · rintro ⟨h3, h4⟩
      cases hg : getI K a with
      | none => rw [hg] at h3; cases h3
      | some v =>
        rw [hg] at h4
        have h5 := hv _ (getI_mem hg)
        have h6 := hs.eq (a - o).toNat (by show _ < dd.length; omega)
        have h7 := hs.lo
        dsimp only at h5 h6 h7
        rw [show o.toNat + (a - o).toNat = a.toNat by omega, h5] at h6
        exact h4 h6.symm
structure InsI (S : Sto) (d : List Int) (top : Int) (K : List KV) : Prop where
  nd : (K.map Prod.fst).Nodup
  rng : ∀ p ∈ K, S.off ≤ p.1 ∧ p.1 < S.off + S.win ∧ p.1 < top
  val : ∀ p ∈ K, d.getD p.1.toNat 0 = p.2
theorem ins_ok {S : Sto} {d dd : List Int} {o top : Int} (hs : Part d top (o, dd, false)) : ∀ (n : Nat) (K : List KV) (a : Int), InsI S d top K → o ≤ a → S.off ≤ a → a + n ≤ o + dd.length → a + n ≤ S.off + S.win →
    InsI S d top (ins dd o K a n) ∧ ∀ k, k ∈ K.map Prod.fst → k ∈ (ins dd o K a n).map Prod.fst
  | 0, K, a, hK, _, _, _, _ => ⟨hK, fun _ h => h⟩
  | n + 1, K, a, hK, h1, h2, h3, h4 => by
    have h6 := hs.eq (a - o).toNat (by show _ < dd.length; omega)
    have h7 := hs.lo
    have h8 := hs.hi
    dsimp only at h6 h7 h8
    rw [show o.toNat + (a - o).toNat = a.toNat by omega] at h6
    have hK' : InsI S d top (putI K a (dd.getD (a - o).toNat 0)) := ⟨putI_nd hK.nd, fun p hp => by
      rcases putI_mem p hp with rfl | hp
      · dsimp only; omega
      · exact hK.rng p hp, fun p hp => by
      rcases putI_mem p hp with rfl | hp
      · exact h6.symm
      · exact hK.val p hp⟩
    obtain ⟨h9, h10⟩ := ins_ok hs n _ (a + 1) hK' (by omega) (by omega) (by omega) (by omega)
    exact ⟨h9, fun k hk => h10 k (putI_key.2 (.inr hk))⟩
/-- A segment of the stream is taken. -/
theorem put_part {S : Sto} {d : List Int} {top : Int} (h : StI S d top) {s : Seg} (hs : Part d top s) (ht : top ≤ 1048576) (hf : S.known = true → s.1 + (s.2.1.length : Int) ≤ S.fin ∧ (s.2.2 = true → s.1 + (s.2.1.length : Int) = S.fin)) (hl : s.2.2 = true → top ≤ s.1 + (s.2.1.length : Int)) :
    (putF S s.1 s.2.1 s.2.2).1.2.1 = (0 : Int) ∧ StI (putF S s.1 s.2.1 s.2.2).2 d top ∧ (putF S s.1 s.2.1 s.2.2).2.off = S.off ∧ (putF S s.1 s.2.1 s.2.2).2.win = S.win ∧ S.next ≤ (putF S s.1 s.2.1 s.2.2).2.next ∧
      ((putF S s.1 s.2.1 s.2.2).2.known = true → (S.known = true ∧ (putF S s.1 s.2.1 s.2.2).2.fin = S.fin) ∨ (s.2.2 = true ∧ (putF S s.1 s.2.1 s.2.2).2.fin = s.1 + (s.2.1.length : Int))) := by
  obtain ⟨o, dd, l⟩ := s
  have hs' : Part d top (o, dd, false) := ⟨hs.lo, hs.hi, hs.eq⟩
  have h1 := hs.lo
  have h2 := hs.hi
  dsimp only at h1 h2 hf hl ⊢
  have hmis : mis S (o + (dd.length : Int)) l = false := by
    unfold mis
    split
    · rename_i hk
      obtain ⟨a, b⟩ := hf hk
      rw [if_neg (by omega)]
      split
      · rename_i hl'
        simp [b hl']
      · rfl
    · split
      · rename_i hl'
        rw [anyGe_nil (fun p hp => by have := (h.rng p hp).2.2; have := hl hl'; omega), if_neg (by simp)]
        have := h.off; have := h.nxt; have := hl hl'
        simp; omega
      · rfl
  have hlen : ∀ x, pFr S o ≤ x → x + (pTo S o dd - x).toNat ≤ o + dd.length ∨ (pTo S o dd - x).toNat = 0 := fun x hx => by dsimp only [pFr, pTo] at hx ⊢; omega
  have hc : confl S.kept dd o (pFr S o) (pN S o dd) = false := by
    by_cases e : pN S o dd = 0
    · rw [e]; rfl
    · exact confl_no h.val hs' _ _ (by dsimp only [pFr]; omega) (by dsimp only [pN, pFr, pTo] at e ⊢; omega)
  have hi : InsI S d top (putK S o dd) ∧ ∀ k, k ∈ S.kept.map Prod.fst → k ∈ (putK S o dd).map Prod.fst := by
    by_cases e : pN S o dd = 0
    · dsimp only [putK]; rw [e]; exact ⟨⟨h.nd, h.rng, h.val⟩, fun _ h => h⟩
    · exact ins_ok hs' _ _ _ ⟨h.nd, h.rng, h.val⟩ (by dsimp only [pFr]; omega) (by dsimp only [pFr]; omega) (by dsimp only [pN, pFr, pTo] at e ⊢; omega) (by dsimp only [pN, pFr, pTo] at e ⊢; omega)
  obtain ⟨i1, i2⟩ := hi
  obtain ⟨a1, a2, a3⟩ := adv_ok (K := putK S o dd) (S.off + S.win - S.next).toNat S.next
  have hoff := h.off
  have hnxt := h.nxt
  have hwin := h.win
  have hnx : S.next ≤ adv (putK S o dd) S.next (S.off + S.win - S.next).toNat ∧ adv (putK S o dd) S.next (S.off + S.win - S.next).toNat ≤ S.off + S.win ∧ adv (putK S o dd) S.next (S.off + S.win - S.next).toNat ≤ top := by
    refine ⟨a1, by omega, ?_⟩
    by_cases e : adv (putK S o dd) S.next (S.off + S.win - S.next).toNat = S.next
    · omega
    · obtain ⟨p, hp, hp1⟩ := List.mem_map.1 (a3 (adv (putK S o dd) S.next (S.off + S.win - S.next).toNat - 1) (by omega) (by omega))
      have := (i1.rng p hp).2.2
      omega
  have hctg : ∀ k, S.off ≤ k → k < adv (putK S o dd) S.next (S.off + S.win - S.next).toNat → k ∈ (putK S o dd).map Prod.fst := by
    intro k hk1 hk2
    by_cases e : k < S.next
    · exact i2 k (h.ctg k hk1 e)
    · exact a3 k (by omega) hk2
  unfold putF
  rw [if_neg (by omega), if_neg (by omega), if_neg (by rw [hmis]; exact Bool.false_ne_true), if_neg (by rw [hc]; exact Bool.false_ne_true)]
  by_cases e : l = true
  · rw [if_pos e]
    exact ⟨rfl, ⟨hwin, ⟨hoff.1, by dsimp only; omega⟩, ⟨hnx.2.1, hnx.2.2⟩, i1.nd, i1.rng, i1.val, hctg⟩, rfl, rfl, hnx.1, fun _ => .inr ⟨e, rfl⟩⟩
  · rw [if_neg e]
    exact ⟨rfl, ⟨hwin, ⟨hoff.1, by dsimp only; omega⟩, ⟨hnx.2.1, hnx.2.2⟩, i1.nd, i1.rng, i1.val, hctg⟩, rfl, rfl, hnx.1, fun hk => .inl ⟨hk, rfl⟩⟩
end Go.Proofs.Ytebhcmgfhkjmcaa
