/-
  Layer 48: the runs of a store: they are determined by what it keeps (plain).
-/
import Derived.Test.YtgdiepbjdpmfbaaHan
namespace Go.Proofs.Ytgdiepbjdpmfbaa
set_option linter.all false
set_option linter.unusedVariables false
set_option linter.unusedSimpArgs false
set_option linter.unusedSectionVars false
open Go.RowKit Go.Sx

/-- The runs of what g holds from a on. -/
inductive Rn (g : Int → Option Int) : Int → List Seg → Prop
  | nil {a : Int} (h : ∀ k, a ≤ k → g k = none) : Rn g a []
  | cons {a o : Int} {d : List Int} {l : List Seg} (h1 : a ≤ o) (h2 : ∀ k, a ≤ k → k < o → g k = none) (h3 : d ≠ []) (h4 : ∀ i : Nat, i < d.length → g (o + i) = some (d.getD i 0)) (h5 : g (o + (d.length : Int)) = none) (h6 : Rn g (o + (d.length : Int)) l) : Rn g a ((o, d, false) :: l)
theorem pos_of {d : List Int} (h : d ≠ []) : 0 < d.length := List.length_pos_iff.2 h
theorem Rn.uniq {g : Int → Option Int} {a : Int} {l : List Seg} (h : Rn g a l) : ∀ {l' : List Seg}, Rn g a l' → l = l' := by
  induction h with
  | nil h =>
    intro l' h'
    cases h' with
    | nil _ => rfl
    | cons h1 h2 h3 h4 h5 h6 =>
      have e1 := h4 0 (pos_of h3)
      rw [h _ (by omega)] at e1; cases e1
  | @cons a o d l h1 h2 h3 h4 h5 h6 ih =>
    intro l' h'
    cases h' with
    | nil h =>
      have e1 := h4 0 (pos_of h3)
      rw [h _ (by omega)] at e1; cases e1
    | @cons _ o' d' l'' k1 k2 k3 k4 k5 k6 =>
      have p := pos_of h3
      have p' := pos_of k3
      have eo : o = o' := by
        rcases Int.lt_trichotomy o o' with c | c | c
        · have e1 := h4 0 p
          rw [k2 _ (by omega) (by omega)] at e1; cases e1
        · exact c
        · have e1 := k4 0 p'
          rw [h2 _ (by omega) (by omega)] at e1; cases e1
      subst eo
      have el : d.length = d'.length := by
        rcases Nat.lt_trichotomy d.length d'.length with c | c | c
        · have e1 := k4 d.length c
          rw [h5] at e1; cases e1
        · exact c
        · have e1 := h4 d'.length c
          rw [k5] at e1; cases e1
      have ed : d = d' := by
        apply List.ext_getElem el
        intro i i1 i2
        have e1 := h4 i i1
        have e2 := k4 i i2
        rw [e1] at e2
        rw [List.getD_eq_getElem?_getD, List.getD_eq_getElem?_getD, List.getElem?_eq_getElem i1, List.getElem?_eq_getElem i2] at e2
        exact Option.some.inj e2
      subst ed
      rw [ih k6]
theorem Rn.low {g : Int → Option Int} {a b : Int} {l : List Seg} (hab : a ≤ b) (hn : ∀ k, a ≤ k → k < b → g k = none) (h : Rn g b l) : Rn g a l := by
  cases h with
  | nil h =>
    exact .nil fun k hk => by
      by_cases c : k < b
      · exact hn k hk c
      · exact h k (by omega)
  | cons h1 h2 h3 h4 h5 h6 =>
    exact .cons (by omega) (fun k k1 k2 => by
      by_cases c : k < b
      · exact hn k k1 c
      · exact h2 k (by omega) k2) h3 h4 h5 h6
/-- l is the runs up to b. -/
def Pf (g : Int → Option Int) (a : Int) (l : List Seg) (b : Int) : Prop := ∀ t, Rn g b t → Rn g a (l ++ t)
theorem Pf.nil {g : Int → Option Int} {a : Int} : Pf g a [] a := fun t h => h
theorem Pf.gap {g : Int → Option Int} {a b c : Int} {l : List Seg} (h : Pf g a l b) (hbc : b ≤ c) (hn : ∀ k, b ≤ k → k < c → g k = none) : Pf g a l c := fun t ht => h t (ht.low hbc hn)
theorem Pf.run {g : Int → Option Int} {a b o : Int} {l : List Seg} {d : List Int} (h : Pf g a l b) (h1 : b ≤ o) (h2 : ∀ k, b ≤ k → k < o → g k = none) (h3 : d ≠ []) (h4 : ∀ i : Nat, i < d.length → g (o + i) = some (d.getD i 0)) (h5 : g (o + (d.length : Int)) = none) : Pf g a (l ++ [(o, d, false)]) (o + (d.length : Int)) := fun t ht => by
  rw [List.append_assoc]
  exact h _ (.cons h1 h2 h3 h4 h5 ht)
theorem Pf.done {g : Int → Option Int} {a b : Int} {l : List Seg} (h : Pf g a l b) (hn : ∀ k, b ≤ k → g k = none) : Rn g a l := by
  have := h [] (.nil hn)
  rwa [List.append_nil] at this

/-! ### the runs that the program makes -/
theorem rd_run {S T : Sto} (hc : Cut S T) {n : Int} (hn : 0 < n) (hx : n ≤ T.next - T.off) : ((readF T n).1.1 : List Int).length = n.toNat ∧ ∀ i : Nat, i < n.toNat → getI S.kept (T.off + i) = some (((readF T n).1.1 : List Int).getD i 0) := by
  have e : ((readF T n).1.1 : List Int) = rdB T.kept T.off n.toNat := by
    unfold readF
    rw [if_neg (by omega)]
    show rdB T.kept T.off (rdN T n).toNat = _
    rw [show rdN T n = n by dsimp only [rdN]; omega]
  rw [e]
  refine ⟨rdB_len _ _ _, fun i hi => ?_⟩
  rw [rdB_get _ _ _ _ hi]
  have hk := hc.ok.ctg (T.off + i) (by omega) (by omega)
  obtain ⟨v, hv⟩ := get_mem.1 hk
  have hg := hc.get (T.off + i)
  rw [if_pos (by omega), hv] at hg
  rw [← hg, hv]; rfl
theorem ne_of_len {d : List Int} {n : Nat} (h : d.length = n) (hn : 0 < n) : d ≠ [] := fun e => by rw [e] at h; rw [← h] at hn; exact absurd hn (Nat.lt_irrefl 0)
theorem rdTo_pf {S T : Sto} {l : List Seg} (hc : Cut S T) {n : Int} (hx : n ≤ T.next - T.off) (h0 : 0 ≤ n) (hP : Pf (getI S.kept) S.off l T.off) (hg : getI S.kept (T.off + n) = none) : Pf (getI S.kept) S.off (rdTo l T n).1 (T.off + n) := by
  unfold rdTo
  by_cases c : 0 < n
  · rw [if_pos c]
    obtain ⟨e1, e2⟩ := rd_run hc c hx
    have e3 : T.off + n = T.off + (((readF T n).1.1 : List Int).length : Int) := by rw [e1]; omega
    show Pf _ _ (l ++ [(T.off, (readF T n).1.1, false)]) (T.off + n)
    rw [e3]
    refine hP.run (Int.le_refl _) (fun k k1 k2 => by omega) (ne_of_len e1 (by omega)) (fun i hi => ?_) (by rw [← e3]; exact hg)
    exact e2 i (by rw [e1] at hi; exact hi)
  · rw [if_neg c]
    rw [show T.off + n = T.off by omega]
    exact hP
theorem kept0 {S T : Sto} (hc : Cut S T) (h : (T.kept.length : Int) = 0) : ∀ k, T.off ≤ k → getI S.kept k = none := by
  intro k hk
  have := hc.get k
  rw [if_pos hk] at this
  rw [← this]
  have e : T.kept = [] := List.length_eq_zero_iff.1 (by omega)
  rw [e]; rfl
theorem runs_rn {S : Sto} (h : PreR S) : Rn (getI S.kept) S.off (runsF S).1 := by
  obtain ⟨gp, gk⟩ := gapP h.ok
  have key : ∀ (m : Nat) (x : LR S), ((gapsL S).length - x.i).toNat = m → Pf (getI S.kept) S.off x.l x.T.off → Rn (getI S.kept) S.off (runsF S).1 := by
    intro m
    induction m with
    | zero =>
      intro x hm hl
      have hhi := x.hi; have hlo := x.lo
      have hall : (gapsL S).take x.i.toNat = gapsL S := List.take_of_length_le (by omega)
      have hend : gEnd S ≤ x.T.next := by
        refine Int.not_lt.1 fun hlt => ?_
        have ho := x.cut.ok.off.2
        rcases gp.cov x.T.next (by have := x.cut.off; omega) hlt with h1 | ⟨g', h1, h2, h3⟩
        · have e := get_none.2 x.cut.ok.non
          rw [x.cut.get, if_pos ho] at e
          exact keysS_mem.1 h1 e
        · have := x.bef g' (by rw [hall]; exact h1); omega
      have hnone : ∀ k, x.T.next ≤ k → getI S.kept k = none := fun k hk => by
        cases e : getI S.kept k with
        | none => rfl
        | some v =>
          have := gk k (keysS_mem.2 (by rw [e]; exact fun h => by cases h)); omega
      have hw : x.T.next = x.T.off + (x.T.kept.length : Int) := by
        refine whole x.cut.ok x.cut.ok.off.2 fun k => ⟨fun hk => ?_, fun hk => ?_⟩
        · rw [x.cut.get] at hk
          split at hk
          · refine ⟨by assumption, Int.not_le.1 fun hle => hk (hnone k hle)⟩
          · exact absurd rfl hk
        · obtain ⟨v, hv⟩ := get_mem.1 (x.cut.ok.ctg k hk.1 hk.2)
          rw [hv]; exact fun h => by cases h
      rw [← ru_done x (by omega)]
      refine (rdTo_pf x.cut (by omega) (by omega) hl (hnone _ (by omega))).done fun k hk => hnone k (by omega)
    | succ m ih =>
      intro x hm hl
      have hlo := x.lo
      have F := ruF h x (by omega)
      have hgg := F.gg
      have hnx : (gAt S x.i).1 ≤ x.T.next := by
        refine Int.not_lt.1 fun hlt => ?_
        have h0 := x.cut.ok.off.2
        have e := get_none.2 x.cut.ok.non
        rw [x.cut.get, if_pos h0] at e
        exact F.cov _ h0 hlt e
      have hl2 := rdTo_pf x.cut (n := (gAt S x.i).1 - x.T.off) (by omega) (by omega) hl (by rw [show x.T.off + ((gAt S x.i).1 - x.T.off) = (gAt S x.i).1 by omega]; exact F.gn _ (Int.le_refl _) hgg.2.1)
      rw [show x.T.off + ((gAt S x.i).1 - x.T.off) = (gAt S x.i).1 by omega] at hl2
      by_cases c : ((rdTo x.l x.T ((gAt S x.i).1 - x.T.off)).2.kept.length : Int) = 0
      · rw [← F.end_ c]
        refine hl2.done fun k hk => kept0 F.cut c k ?_
        rw [F.off]; exact hk
      · obtain ⟨y, y1, y2, y3⟩ := F.nx c
        refine ih y (by omega) ?_
        rw [y2, y3, F.no c]
        exact hl2.gap (by omega) F.gn
  obtain ⟨x0, _, hx1, hx2⟩ := lr0 h.ok
  refine key _ x0 rfl ?_
  rw [hx1, hx2]
  exact .nil

/-! ### the runs that the reference makes -/
abbrev lastS (l : List Seg) : Seg := l.getD ((l.length : Int) - 1).toNat (0, [], false)
abbrev mrgO (l : List Seg) (at_ : Int) (x : KV) : List Seg := if 0 < (l.length : Int) then (if x.1 = at_ + 1 then l.set ((l.length : Int) - 1).toNat ((lastS l).1, (lastS l).2.1 ++ [x.2], (lastS l).2.2) else l ++ [(x.1, [x.2], false)]) else l ++ [(x.1, [x.2], false)]
def mrgT : List KV → List Seg → Int → List Seg × Int
  | [], l, a => (l, a)
  | x :: r, l, a => mrgT r (mrgO l a x) x.1
/-- Where the merging stands. -/
structure Mg (g : Int → Option Int) (a : Int) (l : List Seg) (at_ : Int) : Prop where
  h : (l = [] ∧ ∀ k, a ≤ k → k ≤ at_ → g k = none) ∨ ∃ (l' : List Seg) (b o : Int) (d : List Int), l = l' ++ [(o, d, false)] ∧ Pf g a l' b ∧ a ≤ b ∧ b ≤ o ∧ (∀ k, b ≤ k → k < o → g k = none) ∧ d ≠ [] ∧ (∀ i : Nat, i < d.length → g (o + i) = some (d.getD i 0)) ∧ o + (d.length : Int) = at_ + 1
theorem last_app (l : List Seg) (s : Seg) : lastS (l ++ [s]) = s ∧ ((l ++ [s]).length : Int) = l.length + 1 ∧ (((l ++ [s]).length : Int) - 1).toNat = l.length := by
  have e : ((l ++ [s]).length : Int) = l.length + 1 := by rw [List.length_append]; rfl
  have e2 : (((l ++ [s]).length : Int) - 1).toNat = l.length := by omega
  refine ⟨?_, e, e2⟩
  unfold lastS
  rw [e2, List.getD_eq_getElem?_getD, List.getElem?_append_right (Nat.le_refl _), Nat.sub_self]
  rfl
theorem Mg.step {g : Int → Option Int} {a at_ : Int} {l : List Seg} (h : Mg g a l at_) {x : KV} (hx : g x.1 = some x.2) (ha : a ≤ x.1) (hat : at_ < x.1) (hn : ∀ k, a ≤ k → at_ < k → k < x.1 → g k = none) : Mg g a (mrgO l at_ x) x.1 := by
  obtain ⟨k, v⟩ := x
  have hx : g k = some v := hx
  have ha : a ≤ k := ha
  have hat : at_ < k := hat
  have hn : ∀ j, a ≤ j → at_ < j → j < k → g j = none := hn
  have one : ∀ i : Nat, i < [v].length → g (k + i) = some ([v].getD i 0) := fun i hi => by
    have : i = 0 := by simp at hi; omega
    subst this
    show g (k + 0) = some v
    rw [Int.add_zero]; exact hx
  rcases h.h with ⟨rfl, h0⟩ | ⟨l', b, o, d, rfl, hP, h7, h1, h2, h3, h4, h5⟩
  · refine ⟨.inr ⟨[], a, k, [v], rfl, .nil, Int.le_refl _, ha, fun j j1 j2 => ?_, by simp, one, rfl⟩⟩
    by_cases c : j ≤ at_
    · exact h0 j j1 c
    · exact hn j j1 (by omega) j2
  · obtain ⟨e1, e2, e3⟩ := last_app l' (o, d, false)
    have hp := pos_of h3
    unfold mrgO
    rw [if_pos (by rw [e2]; omega)]
    by_cases c : k = at_ + 1
    · rw [if_pos c, e1, e3]
      have es : (l' ++ [(o, d, false)]).set l'.length (o, d ++ [v], false) = l' ++ [(o, d ++ [v], false)] := by
        rw [List.set_append_right _ _ (Nat.le_refl _), Nat.sub_self]; rfl
      refine ⟨.inr ⟨l', b, o, d ++ [v], es, hP, h7, h1, h2, by simp, fun i hi => ?_, by rw [List.length_append]; show o + ((d.length + 1 : Nat) : Int) = k + 1; omega⟩⟩
      by_cases ci : i < d.length
      · rw [h4 i ci, List.getD_eq_getElem?_getD, List.getD_eq_getElem?_getD, List.getElem?_append_left ci]
      · have : i = d.length := by rw [List.length_append] at hi; simp at hi; omega
        subst this
        have ek : o + (d.length : Int) = k := by omega
        rw [ek, List.getD_eq_getElem?_getD, List.getElem?_append_right (Nat.le_refl _), Nat.sub_self]
        exact hx
    · rw [if_neg c]
      refine ⟨.inr ⟨l' ++ [(o, d, false)], at_ + 1, k, [v], rfl, ?_, by omega, by omega, fun j j1 j2 => hn j (by omega) (by omega) j2, by simp, one, rfl⟩⟩
      rw [← h5]
      refine hP.run h1 h2 h3 h4 ?_
      rw [h5]
      exact hn _ (by omega) (by omega) (by omega)
theorem Mg.done {g : Int → Option Int} {a at_ : Int} {l : List Seg} (h : Mg g a l at_) (hn : ∀ k, a ≤ k → at_ < k → g k = none) : Rn g a l := by
  rcases h.h with ⟨rfl, h0⟩ | ⟨l', b, o, d, rfl, hP, h7, h1, h2, h3, h4, h5⟩
  · refine .nil fun k hk => ?_
    by_cases c : k ≤ at_
    · exact h0 k hk c
    · exact hn k hk (by omega)
  · have hp := pos_of h3
    have := hP.run h1 h2 h3 h4 (by rw [h5]; exact hn _ (by omega) (by omega))
    refine this.done fun k hk => hn k (by omega) (by omega)
/-- What the reference keeps, in ascending order. -/
abbrev kvS (K : List KV) : List KV := (sortI (keysI K)).map fun k => (k, (getI K k).getD 0)
theorem mrgT_rn {K : List KV} {a : Int} (hK : ∀ k, getI K k ≠ none → a ≤ k) : ∀ (r : List KV) (l : List Seg) (at_ : Int), Mg (getI K) a l at_ → (r.map Prod.fst).Pairwise (· < ·) → (∀ x ∈ r, getI K x.1 = some x.2 ∧ at_ < x.1) → (∀ k, at_ < k → getI K k ≠ none → k ∈ r.map Prod.fst) → Mg (getI K) a (mrgT r l at_).1 (mrgT r l at_).2 ∧ ∀ k, (mrgT r l at_).2 < k → getI K k = none
  | [], l, at_, h, _, _, hc => ⟨h, fun k hk => by
      cases e : getI K k with
      | none => rfl
      | some v => have := hc k hk (by rw [e]; exact fun h => by cases h); cases this⟩
  | x :: r, l, at_, h, hp, hx, hc => by
    obtain ⟨p1, p2⟩ := List.pairwise_cons.1 hp
    obtain ⟨x1, x2⟩ := hx x (List.mem_cons_self ..)
    have hno : ∀ k, at_ < k → k < x.1 → getI K k = none := fun k k1 k2 => by
      cases e : getI K k with
      | none => rfl
      | some v =>
        have := hc k k1 (by rw [e]; exact fun h => by cases h)
        rcases List.mem_cons.1 this with h1 | h1
        · omega
        · have := p1 k h1; omega
    refine mrgT_rn hK r (mrgO l at_ x) x.1 (h.step x1 (hK _ (by rw [x1]; exact fun h => by cases h)) x2 fun k _ k1 k2 => hno k k1 k2) p2 (fun y hy => ⟨(hx y (List.mem_cons_of_mem _ hy)).1, p1 _ (List.mem_map.2 ⟨y, hy, rfl⟩)⟩) fun k hk hg => ?_
    rcases List.mem_cons.1 (hc k (by omega) hg) with h1 | h1
    · omega
    · exact h1
end Go.Proofs.Ytgdiepbjdpmfbaa
