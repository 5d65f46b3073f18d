/-
  A store and its reference do the same: Put, Read (plain).
-/
import Derived.Test.YtgdiepbjdpmfbaaRfb
import Derived.Test.YtgdiepbjdpmfbaaSem
namespace Go.Proofs.Ytgdiepbjdpmfbaa
set_option linter.all false
set_option linter.unusedVariables false
set_option linter.unusedSimpArgs false
set_option linter.unusedSectionVars false
open Go.RowKit Go.Sx

abbrev mof (S : Sto) : TS := (S.win, S.off, if S.known = true then S.fin else -1, S.kept)
abbrev mfin (S : Sto) : Int := if S.known = true then S.fin else -1
theorem mof_fin {S : Sto} (h : StO S) : (S.known = true ∧ (if S.known = true then S.fin else -1) = S.fin ∧ 0 ≤ S.fin ∧ S.fin ≤ topK) ∨ (S.known = false ∧ (if S.known = true then S.fin else -1) = -1) := by
  cases hk : S.known
  · exact .inr ⟨rfl, rfl⟩
  · obtain ⟨f1, f2, _⟩ := h.fin hk
    exact .inl ⟨rfl, rfl, f1, f2⟩
theorem preR_of {S : Sto} (h : StO S) : PreT (mof S) := by
  have hf := mof_fin h
  have h1 := h.win; have h2 := h.off; have h3 := h.nxt; have h4 := h.len
  refine ⟨h1, ⟨h2.1, ?_⟩, ?_, ?_, fun p hp => (h.rng p hp).2.1⟩
  · show S.off ≤ _; dsimp only [topK] at h3; omega
  · show -1 ≤ (if S.known = true then S.fin else -1) ∧ (if S.known = true then S.fin else -1) ≤ 4398046511104
    rcases hf with ⟨_, e, e2, e3⟩ | ⟨_, e⟩
    · rw [e]; dsimp only [topK] at e3; omega
    · rw [e]; decide
  · show S.kept.length ≤ _; omega
theorem ctg_cmp {S : Sto} (h : StO S) : rctg (mof S) = S.next := adv_next h

/-! ### Put -/
theorem fnd_neg {K : List KV} {a : Int} : fnd K a 0 < 0 ↔ getI K a = none := by
  have := fnd_some (K := K) (a := a) (Int.le_refl 0)
  constructor
  · intro h
    cases hg : getI K a with
    | none => rfl
    | some v => have := this.2 (by rw [hg]; rfl); omega
  · intro h
    refine Int.not_le.1 fun hle => ?_
    have := this.1 hle
    rw [h] at this; cases this
theorem fnd_val {K : List KV} {a v : Int} (h : getI K a = some v) : 0 ≤ fnd K a 0 ∧ (K.getD (fnd K a 0).toNat (0, 0)).2 = v := by
  have h0 : 0 ≤ fnd K a 0 := (fnd_some (Int.le_refl 0)).2 (by rw [h]; rfl)
  obtain ⟨h1, h2, h3, h4⟩ := fnd_at (Int.le_refl 0) h0
  rw [Int.sub_zero] at h3
  exact ⟨h0, by rw [h3, h]; rfl⟩
/-- The scan of the reference: whether something contradicts. -/
theorem rscan_ok (M : TS) (o : Int) (d : List Int) : ∀ (n : Nat) (K : List KV) (f i : Int), 0 ≤ i → ((rscan M o d K f i n).1 = true ↔ ∀ j, i ≤ j → j < i + n → M.2.1 ≤ o + j → o + j < M.2.1 + M.1 → ∀ v, getI M.2.2.2 (o + j) = some v → v = d.getD j.toNat 0)
  | 0, K, f, i, h0 => ⟨fun _ j h1 h2 => by omega, fun _ => rfl⟩
  | n + 1, K, f, i, h0 => by
    have step : ∀ (K' : List KV) (f' : Int), (M.2.1 ≤ o + i → o + i < M.2.1 + M.1 → ∀ v, getI M.2.2.2 (o + i) = some v → v = d.getD i.toNat 0) → ((rscan M o d K' f' (i + 1) n).1 = true ↔ ∀ j, i ≤ j → j < i + ((n + 1 : Nat) : Int) → M.2.1 ≤ o + j → o + j < M.2.1 + M.1 → ∀ v, getI M.2.2.2 (o + j) = some v → v = d.getD j.toNat 0) := by
      intro K' f' hi
      rw [rscan_ok M o d n K' f' (i + 1) (by omega)]
      constructor
      · intro h j h1 h2 h3 h4 v hv
        by_cases e : j = i
        · subst e; exact hi h3 h4 v hv
        · exact h j (by omega) (by omega) h3 h4 v hv
      · intro h j h1 h2 h3 h4 v hv
        exact h j (by omega) (by omega) h3 h4 v hv
    unfold rscan
    split
    · exact step _ _ (fun h => by omega)
    split
    · exact step _ _ (fun _ h => by omega)
    rename_i g1 g2
    cases hg : getI M.2.2.2 (o + i) with
    | none =>
      rw [if_neg (by have := fnd_neg.2 hg; omega)]
      exact step _ _ (fun _ _ v hv => by rw [hg] at hv; cases hv)
    | some v =>
      obtain ⟨e1, e2⟩ := fnd_val hg
      rw [if_pos e1, e2]
      split
      · rename_i e; exact step _ _ (fun _ _ u hu => by rw [hg] at hu; cases hu; exact e)
      · rename_i e
        exact ⟨fun h => (by cases h), fun h => absurd (h i (Int.le_refl _) (by omega) (by omega) (by omega) v hg) e⟩
theorem rscan_eq (M : TS) (o : Int) (d : List Int) : ∀ (n : Nat) (K : List KV) (f i : Int), 0 ≤ i → (∀ k, o + i ≤ k → getI K k = getI M.2.2.2 k) → (rscan M o d K f i n).1 = true →
    (rscan M o d K f i n).2 = (ins d o K (max (o + i) M.2.1) (min (o + i + n) (M.2.1 + M.1) - max (o + i) M.2.1).toNat, f + ((ins d o K (max (o + i) M.2.1) (min (o + i + n) (M.2.1 + M.1) - max (o + i) M.2.1).toNat).length - K.length : Int))
  | 0, K, f, i, h0, hK, h => by
    rw [show (min (o + i + ((0 : Nat) : Int)) (M.2.1 + M.1) - max (o + i) M.2.1).toNat = 0 by omega]
    show (K, f) = (K, f + ((K.length : Int) - K.length))
    rw [Int.sub_self, Int.add_zero]
  | n + 1, K, f, i, h0, hK, h => by
    unfold rscan at h ⊢
    split at h
    · rename_i g
      rw [if_pos g, rscan_eq M o d n K f (i + 1) (by omega) (fun k hk => hK k (by omega)) h]
      rw [show max (o + (i + 1)) M.2.1 = max (o + i) M.2.1 by omega, show o + (i + 1) + (n : Int) = o + i + ((n + 1 : Nat) : Int) by omega]
    rename_i g1
    rw [if_neg g1]
    split at h
    · rename_i g
      rw [if_pos g, rscan_eq M o d n K f (i + 1) (by omega) (fun k hk => hK k (by omega)) h]
      rw [show (min (o + (i + 1) + (n : Int)) (M.2.1 + M.1) - max (o + (i + 1)) M.2.1).toNat = 0 by omega, show (min (o + i + ((n + 1 : Nat) : Int)) (M.2.1 + M.1) - max (o + i) M.2.1).toNat = 0 by omega]
      rfl
    rename_i g2
    rw [if_neg g2]
    obtain ⟨m, hm⟩ : ∃ m, (min (o + i + ((n + 1 : Nat) : Int)) (M.2.1 + M.1) - max (o + i) M.2.1).toNat = m + 1 := ⟨(min (o + i + ((n + 1 : Nat) : Int)) (M.2.1 + M.1) - max (o + i) M.2.1).toNat - 1, by omega⟩
    have hm2 : (min (o + (i + 1) + (n : Int)) (M.2.1 + M.1) - max (o + (i + 1)) M.2.1).toNat = m := by omega
    have ha : max (o + i) M.2.1 = o + i := by omega
    have ha2 : max (o + (i + 1)) M.2.1 = o + i + 1 := by omega
    have hx : (o + i - o).toNat = i.toNat := by omega
    have hins : ∀ K' : List KV, K' = putI K (o + i) (d.getD i.toNat 0) → ins d o K (o + i) (m + 1) = ins d o K' (o + i + 1) m := fun K' e => by rw [e, ins, hx]
    rw [hm, ha]
    split at h
    · rename_i g3
      rw [if_pos g3]
      split at h
      · rename_i g4
        rw [if_pos g4, rscan_eq M o d n K f (i + 1) (by omega) (fun k hk => hK k (by omega)) h, hm2, ha2]
        have hg : getI K (o + i) = some (d.getD i.toNat 0) := by
          rw [hK _ (Int.le_refl _)]
          cases hg : getI M.2.2.2 (o + i) with
          | none => have := fnd_neg.2 hg; omega
          | some v => rw [(fnd_val hg).2] at g4; rw [g4]
        rw [hins K (putI_same hg).symm]
      · cases h
    · rename_i g3
      rw [if_neg g3]
      have hg : getI K (o + i) = none := by
        rw [hK _ (Int.le_refl _)]; exact fnd_neg.1 (by omega)
      have hp := putI_new (v := d.getD i.toNat 0) hg
      rw [rscan_eq M o d n (K ++ [(o + i, d.getD i.toNat 0)]) (f + 1) (i + 1) (by omega) (fun k hk => by
        rw [← hp, getI_putI, if_neg (by omega)]; exact hK k (by omega)) h, hm2, ha2, hins _ hp.symm]
      congr 1
      rw [List.length_append, List.length_singleton]
      omega
theorem rsc_cmp {S : Sto} {o : Int} {d : List Int} (ho : 0 ≤ o) : ((rsc (mof S) o d).1 = true ↔ confl S.kept d o (pFr S o) (pN S o d) = false) ∧ ((rsc (mof S) o d).1 = true → (rsc (mof S) o d).2 = (putK S o d, ((putK S o d).length : Int) - S.kept.length)) := by
  refine ⟨?_, fun h => ?_⟩
  · rw [rscan_ok (mof S) o d d.length S.kept 0 0 (Int.le_refl _)]
    constructor
    · intro h
      cases hc : confl S.kept d o (pFr S o) (pN S o d) with
      | false => rfl
      | true =>
        obtain ⟨k, v, k1, k2, k3, k4⟩ := (confl_iff _ _).1 hc
        exfalso; apply k4
        have e : o + (k - o) = k := by omega
        dsimp only [pFr, pN, pTo] at k1 k2
        have := h (k - o) (by omega) (by omega) (by show S.off ≤ _; omega) (by show _ < S.off + S.win; omega) v (by rw [e]; exact k3)
        exact this
    · intro hc j j1 j2 j3 j4 v hv
      have j3 : S.off ≤ o + j := j3
      have j4 : o + j < S.off + S.win := j4
      have := confl_no2 hc (k := o + j) (v := v) (by dsimp only [pFr]; omega) (by dsimp only [pTo]; omega) hv
      rw [this]; congr 1; omega
  · have := rscan_eq (mof S) o d d.length S.kept 0 0 (Int.le_refl _) (fun _ _ => rfl) h
    rw [this]
    have e1 : max (o + 0) (mof S).2.1 = pFr S o := by dsimp only [pFr]; omega
    have e2 : (min (o + 0 + (d.length : Int)) ((mof S).2.1 + (mof S).1) - max (o + 0) (mof S).2.1).toNat = pN S o d := by dsimp only [pN, pTo, pFr]; rw [Int.add_zero]
    rw [e2, e1, Int.zero_add]
theorem put_cmp {S : Sto} (h : StO S) (o : Int) (d : List Int) (l : Bool) : rputF (mof S) (o, d, l) = (mof (putF S o d l).2, (putF S o d l).1.1, (putF S o d l).1.2.1, ()) := by
  unfold rputF putF
  dsimp only
  by_cases g1 : o < 0
  · rw [if_pos g1, if_pos g1]
  rw [if_neg g1, if_neg g1]
  by_cases g2 : 1099511627776 < o
  · rw [if_pos g2, if_pos g2]
  rw [if_neg g2, if_neg g2]
  obtain ⟨c1, c2⟩ := rsc_cmp (S := S) (o := o) (d := d) (by omega)
  -- rp4 where nothing misfits
  have r4 : mis S (o + (d.length : Int)) l = false → rp4 (mof S) o d l = (mof (if confl S.kept d o (pFr S o) (pN S o d) = true then (((0, 3, ()), S) : II × Sto) else if l = true then (((putK S o d).length - S.kept.length, 0, ()), { S with kept := putK S o d, fin := o + (d.length : Int), known := true, next := adv (putK S o d) S.next (S.off + S.win - S.next).toNat }) else (((putK S o d).length - S.kept.length, 0, ()), { S with kept := putK S o d, next := adv (putK S o d) S.next (S.off + S.win - S.next).toNat })).2,
      (if confl S.kept d o (pFr S o) (pN S o d) = true then (((0, 3, ()), S) : II × Sto) else if l = true then (((putK S o d).length - S.kept.length, 0, ()), { S with kept := putK S o d, fin := o + (d.length : Int), known := true, next := adv (putK S o d) S.next (S.off + S.win - S.next).toNat }) else (((putK S o d).length - S.kept.length, 0, ()), { S with kept := putK S o d, next := adv (putK S o d) S.next (S.off + S.win - S.next).toNat })).1.1,
      (if confl S.kept d o (pFr S o) (pN S o d) = true then (((0, 3, ()), S) : II × Sto) else if l = true then (((putK S o d).length - S.kept.length, 0, ()), { S with kept := putK S o d, fin := o + (d.length : Int), known := true, next := adv (putK S o d) S.next (S.off + S.win - S.next).toNat }) else (((putK S o d).length - S.kept.length, 0, ()), { S with kept := putK S o d, next := adv (putK S o d) S.next (S.off + S.win - S.next).toNat })).1.2.1, ()) := by
    intro _
    unfold rp4
    cases hc : confl S.kept d o (pFr S o) (pN S o d) with
    | true =>
      rw [if_neg (fun hh => by have := c1.1 hh; rw [hc] at this; cases this), if_pos rfl]
    | false =>
      have hr := c1.2 hc
      rw [if_pos hr, c2 hr, if_neg Bool.false_ne_true]
      cases l
      · rfl
      · rfl
  have hmf := mof_fin h
  cases hm : mis S (o + (d.length : Int)) l with
  | true =>
    rw [if_pos rfl]
    unfold mis at hm
    rcases hmf with ⟨k1, k2, k3, k4⟩ | ⟨k1, k2⟩
    · rw [if_pos k1] at hm
      rw [if_pos (by rw [k2]; exact k3)]
      split at hm
      · rename_i g; rw [if_pos (by rw [k2]; exact g)]
      · rename_i g
        rw [if_neg (by rw [k2]; exact g)]
        split at hm
        · rename_i gl
          rw [if_pos gl, if_neg (by rw [k2]; simpa using hm)]
        · cases hm
    · rw [if_neg (by rw [k1]; exact Bool.false_ne_true)] at hm
      rw [if_neg (by rw [k2]; decide)]
      split at hm
      · rename_i gl
        unfold rp2
        rw [if_pos gl]
        split at hm
        · rename_i ga
          split <;> first | rfl | (rw [if_pos ga]; rfl) | (rw [if_pos ga])
        · have : o + (d.length : Int) < S.off := by simpa using hm
          rw [if_pos this]
      · cases hm
  | false =>
    rw [if_neg Bool.false_ne_true, ← r4 hm]
    unfold mis at hm
    rcases hmf with ⟨k1, k2, k3, k4⟩ | ⟨k1, k2⟩
    · rw [if_pos k1] at hm
      rw [if_pos (by rw [k2]; exact k3)]
      split at hm
      · cases hm
      · rename_i g
        rw [if_neg (by rw [k2]; exact g)]
        split at hm
        · rename_i gl
          have he : o + (d.length : Int) = S.fin := by simpa using hm
          rw [if_pos gl, if_pos (by rw [k2]; exact he)]
          unfold rp2
          obtain ⟨f1, f2, f3, f4⟩ := h.fin k1
          rw [if_pos gl, if_neg (by show ¬ _ < S.off; omega), if_neg]
          show ¬ anyGe S.kept (o + (d.length : Int)) = true
          rw [anyGe_nil (fun p hp => by have := f4 p hp; omega)]; exact Bool.false_ne_true
        · rename_i gl
          rw [if_neg gl]
          unfold rp2
          rw [if_neg gl]
    · rw [if_neg (by rw [k1]; exact Bool.false_ne_true)] at hm
      rw [if_neg (by rw [k2]; decide)]
      unfold rp2
      split at hm
      · rename_i gl
        rw [if_pos gl]
        split at hm
        · cases hm
        · rename_i ga
          have : ¬ o + (d.length : Int) < S.off := by simpa using hm
          rw [if_neg this, if_neg ga]
      · rename_i gl
        rw [if_neg gl]
theorem read_cmp {S : Sto} (h : StO S) (m : Int) : rreadF (mof S) m = (mof (readF S m).2, ((readF S m).1.1 : List Int), ()) := by
  have hn := ctg_cmp h
  have ho := h.off
  unfold rreadF
  by_cases hm : m < 1
  · have e : readF S m = (([], ()), S) := by unfold readF; rw [if_pos hm]
    have e0 : rrN (mof S) m = 0 := by dsimp only [rrN]; rw [hn]; show max (min m (S.next - S.off)) 0 = 0; omega
    rw [e, e0]
    show ((S.win, S.off + 0, _, _), _) = _
    rw [Int.add_zero]; rfl
  · have e : readF S m = ((rdB S.kept S.off (rdN S m).toNat, ()), { S with kept := rdK S.kept S.off (rdN S m).toNat, off := S.off + rdN S m }) := by unfold readF; rw [if_neg hm]
    have e0 : rrN (mof S) m = rdN S m := by dsimp only [rrN]; rw [hn]; show max (min m (S.next - S.off)) 0 = min m (S.next - S.off); omega
    rw [e, e0]
end Go.Proofs.Ytgdiepbjdpmfbaa
