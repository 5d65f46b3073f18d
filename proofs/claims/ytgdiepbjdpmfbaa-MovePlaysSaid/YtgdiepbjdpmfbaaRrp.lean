/-
  Layer 48: the loops of the reference's Runs (plain).
-/
import Derived.Test.YtgdiepbjdpmfbaaRnn
import Derived.Test.YtgdiepbjdpmfbaaRfb
namespace Go.Proofs.Ytgdiepbjdpmfbaa
set_option linter.all false
set_option linter.unusedVariables false
set_option linter.unusedSimpArgs false
set_option linter.unusedSectionVars false
open Go.RowKit Go.Sx

theorem keysI_mem {K : List KV} {k : Int} : k ∈ sortI (keysI K) ↔ getI K k ≠ none := keysS_mem (S := ⟨0, 0, 0, K, 0, false⟩)
structure RunK (K : List KV) : Prop where
  nd : (K.map Prod.fst).Nodup
  rng : ∀ p ∈ K, 0 ≤ p.1 ∧ p.1 ≤ 8796093022208
  len : K.length ≤ 1048576
  srt : (sortI (keysI K)).Pairwise (· < ·)
  sln : (sortI (keysI K)).length = K.length
theorem runK {S : Sto} (h : StO S) : RunK S.kept :=
  ⟨h.nd, fun p hp => by have := h.rng p hp; have := h.off; dsimp only [topK] at *; omega, by have := h.len; have := h.win; omega, keysS_lt h, keysS_len S⟩
theorem kv_len {K : List KV} (h : RunK K) : (kvS K).length = K.length := by rw [List.length_map]; exact h.sln
theorem kv_fst (K : List KV) : (kvS K).map Prod.fst = sortI (keysI K) := by
  rw [List.map_map]
  exact List.map_id _
theorem kv_get {K : List KV} {x : KV} (h : x ∈ kvS K) : getI K x.1 = some x.2 := by
  obtain ⟨k, hk, rfl⟩ := List.mem_map.1 h
  cases e : getI K k with
  | none => exact absurd e (keysI_mem.1 hk)
  | some v => rfl
abbrev kAt (K : List KV) (i : Int) : KV := K.getD i.toNat (0, 0)
theorem kAt_mem {K : List KV} {i : Int} (h0 : 0 ≤ i) (hi : i < (K.length : Int)) : kAt K i ∈ K := by
  unfold kAt
  rw [List.getD_eq_getElem?_getD, List.getElem?_eq_getElem (by omega)]
  exact List.getElem_mem _
/-- The rounds. -/
structure LO (K : List KV) where
  n : Int
  l : List Seg
  at_ : Int
  lo : 0 ≤ n
  hi : n ≤ (K.length : Int)
  eq : mrgT ((kvS K).drop n.toNat) l at_ = mrgT (kvS K) [] (-1)
  aft : ∀ x ∈ (kvS K).drop n.toNat, at_ < x.1
  cov : ∀ k, at_ < k → getI K k ≠ none → k ∈ ((kvS K).drop n.toNat).map Prod.fst
  len : (l.length : Int) ≤ n
  ats : -1 ≤ at_ ∧ at_ ≤ 8796093022208
  dln : ∀ s ∈ l, (s.2.1.length : Int) ≤ n
theorem LO.zero {K : List KV} (h : RunK K) : ∃ x : LO K, x.n = 0 ∧ x.l = [] ∧ x.at_ = -1 :=
  ⟨⟨0, [], -1, Int.le_refl _, by omega, rfl, fun x hx => by
      have hx : x ∈ kvS K := hx
      have := h.rng _ (getI_mem (kv_get hx)); dsimp only at this; omega, fun k _ hg => by
      show k ∈ (kvS K).map Prod.fst
      rw [kv_fst]; exact keysI_mem.2 hg, Int.le_refl _, by decide, fun s hs => by cases hs⟩, rfl, rfl, rfl⟩
/-- The search for the next byte. -/
structure LI (K : List KV) (at_ : Int) where
  i : Int
  b : Int
  lo : 0 ≤ i
  hi : i ≤ (K.length : Int)
  ok : (b = -1 ∧ ∀ j : Int, 0 ≤ j → j < i → ¬ at_ < (kAt K j).1) ∨ (0 ≤ b ∧ b < i ∧ at_ < (kAt K b).1 ∧ ∀ j : Int, 0 ≤ j → j < i → at_ < (kAt K j).1 → (kAt K b).1 ≤ (kAt K j).1)
theorem LI.zero (K : List KV) (at_ : Int) : ∃ x : LI K at_, x.i = 0 ∧ x.b = -1 := ⟨⟨0, -1, Int.le_refl _, by omega, .inl ⟨rfl, fun j j0 j1 => by omega⟩⟩, rfl, rfl⟩
theorem LI.keep {K : List KV} {at_ : Int} (x : LI K at_) (h : x.i < (K.length : Int)) (hc : ¬ at_ < (kAt K x.i).1 ∨ (¬ x.b < 0 ∧ ¬ (kAt K x.i).1 < (kAt K x.b).1)) : ∃ y : LI K at_, y.i = x.i + 1 ∧ y.b = x.b := by
  have hlo := x.lo
  refine ⟨⟨x.i + 1, x.b, by omega, by omega, ?_⟩, rfl, rfl⟩
  rcases x.ok with ⟨h1, h2⟩ | ⟨h1, h2, h3, h4⟩
  · rcases hc with hc | hc
    · refine .inl ⟨h1, fun j j0 j1 => ?_⟩
      by_cases e : j = x.i
      · subst e; exact hc
      · exact h2 j j0 (by omega)
    · omega
  · refine .inr ⟨h1, by omega, h3, fun j j0 j1 ja => ?_⟩
    by_cases e : j = x.i
    · subst e
      rcases hc with hc | hc
      · exact absurd ja hc
      · omega
    · exact h4 j j0 (by omega) ja
theorem LI.take {K : List KV} {at_ : Int} (x : LI K at_) (h : x.i < (K.length : Int)) (ha : at_ < (kAt K x.i).1) (hc : x.b < 0 ∨ (kAt K x.i).1 < (kAt K x.b).1) : ∃ y : LI K at_, y.i = x.i + 1 ∧ y.b = x.i := by
  have hlo := x.lo
  refine ⟨⟨x.i + 1, x.i, by omega, by omega, .inr ⟨hlo, by omega, ha, fun j j0 j1 ja => ?_⟩⟩, rfl, rfl⟩
  by_cases e : j = x.i
  · subst e; exact Int.le_refl _
  · rcases x.ok with ⟨h1, h2⟩ | ⟨h1, h2, h3, h4⟩
    · exact absurd ja (h2 j j0 (by omega))
    · have := h4 j j0 (by omega) ja
      rcases hc with hc | hc
      · omega
      · omega
theorem LI.rng {K : List KV} {at_ : Int} (x : LI K at_) (h : ¬ x.b < 0) : 0 ≤ x.b ∧ x.b < (K.length : Int) := by
  have := x.hi
  rcases x.ok with ⟨h1, h2⟩ | ⟨h1, h2, h3, h4⟩ <;> omega
theorem LI.done {K : List KV} (hK : RunK K) (o : LO K) (hn : o.n < (K.length : Int)) (x : LI K o.at_) (h : ¬ x.i < (K.length : Int)) : (0 ≤ x.b ∧ x.b < (K.length : Int)) ∧ ∃ y : LO K, y.n = o.n + 1 ∧ y.l = mrgO o.l o.at_ (kAt K x.b) ∧ y.at_ = (kAt K x.b).1 := by
  have hlo := o.lo
  have hhi := x.hi
  have hlt : o.n.toNat < (kvS K).length := by rw [kv_len hK]; omega
  have ed : (kvS K).drop o.n.toNat = (kvS K)[o.n.toNat] :: (kvS K).drop (o.n.toNat + 1) := List.drop_eq_getElem_cons hlt
  have hm : (kvS K)[o.n.toNat] ∈ kvS K := List.getElem_mem hlt
  have haft := o.aft ((kvS K)[o.n.toNat]) (by rw [ed]; exact List.mem_cons_self ..)
  have hget := kv_get hm
  have hpw : (((kvS K).drop o.n.toNat).map Prod.fst).Pairwise (· < ·) := by
    have := hK.srt
    rw [← kv_fst] at this
    rw [List.map_drop]
    exact this.sublist (List.drop_sublist _ _)
  have hcov := o.cov
  have heq := o.eq
  have haf := o.aft
  rw [ed] at hpw hcov heq haf
  generalize (kvS K)[o.n.toNat] = X at *
  obtain ⟨p1, p2⟩ := List.pairwise_cons.1 hpw
  -- X lies in K
  obtain ⟨j, hj, ej⟩ := List.mem_iff_getElem.1 (getI_mem hget)
  have ej2 : kAt K (j : Int) = (X.1, X.2) := by
    unfold kAt
    rw [Int.toNat_natCast, List.getD_eq_getElem?_getD, List.getElem?_eq_getElem hj]; exact ej
  rcases x.ok with ⟨h1, h2⟩ | ⟨h1, h2, h3, h4⟩
  · exact absurd (by rw [ej2]; exact haft) (h2 (j : Int) (by omega) (by omega))
  · have hb : x.b < (K.length : Int) := by omega
    have hmem := kAt_mem h1 hb
    have hg := mem_get hK.nd hmem
    have hle := h4 (j : Int) (by omega) (by omega) (by rw [ej2]; exact haft)
    rw [ej2] at hle
    have hle : (kAt K x.b).1 ≤ X.1 := hle
    have hge : X.1 ≤ (kAt K x.b).1 := by
      rcases List.mem_cons.1 (hcov _ h3 (by rw [hg]; exact fun h => by cases h)) with h5 | h5
      · omega
      · have := p1 _ h5; omega
    have e1 : (kAt K x.b).1 = X.1 := by omega
    have e2 : kAt K x.b = X := by
      refine Prod.ext e1 ?_
      rw [e1, hget] at hg
      exact (Option.some.inj hg).symm
    have hr := hK.rng _ hmem
    refine ⟨⟨h1, hb⟩, ⟨o.n + 1, mrgO o.l o.at_ (kAt K x.b), (kAt K x.b).1, by omega, by omega, ?_, fun y hy => ?_, fun k hk hg => ?_, ?_, by omega, fun s hs => ?_⟩, rfl, rfl, rfl⟩
    · rw [show (o.n + 1).toNat = o.n.toNat + 1 by omega, e2]
      exact heq
    · rw [show (o.n + 1).toNat = o.n.toNat + 1 by omega] at hy
      have := p1 y.1 (List.mem_map.2 ⟨y, hy, rfl⟩)
      omega
    · rw [show (o.n + 1).toNat = o.n.toNat + 1 by omega]
      rcases List.mem_cons.1 (hcov k (by omega) hg) with h5 | h5
      · omega
      · exact h5
    · have := o.len
      unfold mrgO
      split
      · split
        · rw [List.length_set]; omega
        · rw [List.length_append]; simp; omega
      · rw [List.length_append]; simp; omega
    · have hd := o.dln
      have happ : ∀ s ∈ o.l ++ [((kAt K x.b).1, [(kAt K x.b).2], false)], (s.2.1.length : Int) ≤ o.n + 1 := fun s hs => by
        rcases List.mem_append.1 hs with h5 | h5
        · have := hd s h5; omega
        · rw [List.mem_singleton.1 h5]; simp; omega
      unfold mrgO at hs
      split at hs
      · split at hs
        · rcases List.mem_or_eq_of_mem_set hs with h5 | h5
          · have := hd s h5; omega
          · rw [h5]
            have : (((lastS o.l).2.1 ++ [(kAt K x.b).2]).length : Int) = ((lastS o.l).2.1.length : Int) + 1 := by rw [List.length_append]; simp
            rw [this]
            have hl : (lastS o.l) ∈ o.l := by
              unfold lastS
              rw [List.getD_eq_getElem?_getD, List.getElem?_eq_getElem (by omega)]
              exact List.getElem_mem _
            have := hd _ hl; omega
        · exact happ s hs
      · exact happ s hs
theorem LO.last_len {K : List KV} (x : LO K) : ((lastS x.l).2.1.length : Int) ≤ x.n := by
  have hlo := x.lo
  unfold lastS
  rw [List.getD_eq_getElem?_getD]
  cases e : x.l[((x.l.length : Int) - 1).toNat]? with
  | none => exact hlo
  | some s => exact x.dln s (List.mem_of_getElem? e)
theorem LO.done {K : List KV} (x : LO K) (hK : RunK K) (h : ¬ x.n < (K.length : Int)) : mrgT (kvS K) [] (-1) = (x.l, x.at_) := by
  rw [← x.eq, List.drop_eq_nil_of_le (by rw [kv_len hK]; omega)]
  rfl
/-- The segment of the end. -/
abbrev closeR (e : Int) (l : List Seg) (at_ : Int) : List Seg :=
  if e < 0 then l else if 0 < (l.length : Int) then (if at_ + 1 = e then l.set ((l.length : Int) - 1).toNat ((lastS l).1, (lastS l).2.1, true) else l ++ [(e, [], true)]) else l ++ [(e, [], true)]
def rrunL (M : TS) : List Seg := closeR M.2.2.1 (mrgT (kvS M.2.2.2) [] (-1)).1 (mrgT (kvS M.2.2.2) [] (-1)).2
end Go.Proofs.Ytgdiepbjdpmfbaa
