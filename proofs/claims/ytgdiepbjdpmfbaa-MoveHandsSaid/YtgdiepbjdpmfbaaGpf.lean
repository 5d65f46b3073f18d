/-
  Layer 43: what the gaps of a store are, and what filling them does (plain).
-/
import Derived.Test.YtgdiepbjdpmfbaaPfs
import Derived.Test.YtgdiepbjdpmfbaaFig
namespace Go.Proofs.Ytgdiepbjdpmfbaa
set_option linter.all false
set_option linter.unusedVariables false
set_option linter.unusedSimpArgs false
set_option linter.unusedSectionVars false
open Go.RowKit Go.Sx

theorem addGap_app (l : GL) (a b : Int) : addGap l a b = l ++ addGap [] a b := by
  unfold addGap
  split
  · rfl
  · rw [List.append_nil]
theorem gapsTo_app : ∀ (ks : List Int) (l : GL) (a : Int), gapsTo l a ks = l ++ gapsTo [] a ks
  | [], l, a => (List.append_nil l).symm
  | k :: r, l, a => by
    show gapsTo (addGap l a k) (k + 1) r = l ++ gapsTo (addGap [] a k) (k + 1) r
    rw [gapsTo_app r (addGap l a k), gapsTo_app r (addGap [] a k), addGap_app l, List.append_assoc]
theorem mem_addGap {a b : Int} {g : Int × Int} : g ∈ addGap [] a b ↔ a < b ∧ g = (a, b) := by
  unfold addGap
  split
  · rename_i h
    rw [List.nil_append, List.mem_singleton]
    exact ⟨fun e => ⟨h, e⟩, fun e => e.2⟩
  · rename_i h
    exact ⟨fun e => (by cases e), fun e => absurd e.1 h⟩
structure GapP (ks : List Int) (a e : Int) (G : GL) : Prop where
  cov : ∀ k, a ≤ k → k < e → k ∈ ks ∨ ∃ g ∈ G, g.1 ≤ k ∧ k < g.2
  el : ∀ g ∈ G, a ≤ g.1 ∧ g.1 < g.2 ∧ g.2 ≤ e ∧ ∀ k, g.1 ≤ k → k < g.2 → k ∉ ks
  asc : G.Pairwise fun g g' => g.2 < g'.1
theorem gapP0 : ∀ (ks : List Int) (a : Int), (∀ k ∈ ks, a ≤ k) → ks.Pairwise (· < ·) → GapP ks a (gapsEnd a ks) (gapsTo [] a ks) ∧ ∀ g ∈ gapsTo [] a ks, g.2 ∈ ks
  | [], a, _, _ => ⟨⟨fun k h1 h2 => by have h2 : k < a := h2; omega, fun g h => (by cases h), List.Pairwise.nil⟩, fun g h => (by cases h)⟩
  | k :: r, a, h, hp => by
    obtain ⟨p1, p2⟩ := List.pairwise_cons.1 hp
    obtain ⟨ih, ih2⟩ := gapP0 r (k + 1) (fun x hx => p1 x hx) p2
    have hT := gapsEnd_le r (k + 1) (fun x hx => p1 x hx) p2
    have hk := h k (List.mem_cons_self ..)
    have e : gapsTo [] a (k :: r) = addGap [] a k ++ gapsTo [] (k + 1) r := gapsTo_app r (addGap [] a k) (k + 1)
    have eE : gapsEnd a (k :: r) = gapsEnd (k + 1) r := rfl
    rw [e, eE]
    refine ⟨⟨fun x x1 x2 => ?_, fun g hg => ?_, ?_⟩, fun g hg => ?_⟩
    · by_cases c : x < k
      · exact .inr ⟨(a, k), List.mem_append.2 (.inl (mem_addGap.2 ⟨by omega, rfl⟩)), x1, c⟩
      · by_cases c2 : x = k
        · exact .inl (c2 ▸ List.mem_cons_self ..)
        · rcases ih.cov x (by omega) x2 with h1 | ⟨g, hg, h1⟩
          · exact .inl (List.mem_cons_of_mem _ h1)
          · exact .inr ⟨g, List.mem_append.2 (.inr hg), h1⟩
    · rcases List.mem_append.1 hg with hg | hg
      · obtain ⟨h1, rfl⟩ := mem_addGap.1 hg
        refine ⟨Int.le_refl _, h1, by show k ≤ _; omega, fun y y1 y2 hy => ?_⟩
        have y2 : y < k := y2
        rcases List.mem_cons.1 hy with rfl | hy
        · omega
        · have := p1 y hy; omega
      · obtain ⟨h1, h2, h3, h4⟩ := ih.el g hg
        refine ⟨by omega, h2, h3, fun y y1 y2 hy => ?_⟩
        rcases List.mem_cons.1 hy with rfl | hy
        · omega
        · exact h4 y y1 y2 hy
    · refine List.pairwise_append.2 ⟨?_, ih.asc, fun g hg g' hg' => ?_⟩
      · unfold addGap; split <;> simp
      · obtain ⟨h1, rfl⟩ := mem_addGap.1 hg
        have := (ih.el g' hg').1
        show k < g'.1; omega
    · rcases List.mem_append.1 hg with hg | hg
      · obtain ⟨h1, rfl⟩ := mem_addGap.1 hg; exact List.mem_cons_self ..
      · exact List.mem_cons_of_mem _ (ih2 g hg)
/-- Where the last gap, or the last byte, ends. -/
abbrev gEnd (S : Sto) : Int := if S.known = true then max (gapsEnd S.off (keysS S)) S.fin else gapsEnd S.off (keysS S)
abbrev gapsL (S : Sto) : GL := (gapsF S).1
theorem gapP {S : Sto} (h : StO S) : GapP (keysS S) S.off (gEnd S) (gapsL S) ∧ (∀ k ∈ keysS S, k < gEnd S) := by
  obtain ⟨h0, h1⟩ := gapP0 (keysS S) S.off (fun k hk => (keysS_rng h hk).1) (keysS_lt h)
  obtain ⟨g1, g2⟩ := gapsEnd_le (keysS S) S.off (fun k hk => (keysS_rng h hk).1) (keysS_lt h)
  dsimp only [gapsL, gEnd]
  unfold gapsF
  split
  · rename_i hk
    have e := addGap_app (gapsTo [] S.off (keysS S)) (gapsEnd S.off (keysS S)) S.fin
    refine ⟨⟨fun x x1 x2 => ?_, fun g hg => ?_, ?_⟩, fun k hk => by have := g2 k hk; omega⟩
    · by_cases c : x < gapsEnd S.off (keysS S)
      · rcases h0.cov x x1 c with h2 | ⟨g, hg, h2⟩
        · exact .inl h2
        · refine .inr ⟨g, ?_, h2⟩
          rw [e]; exact List.mem_append.2 (.inl hg)
      · refine .inr ⟨(gapsEnd S.off (keysS S), S.fin), ?_, by show _ ≤ x; omega, by show x < S.fin; omega⟩
        rw [e]; exact List.mem_append.2 (.inr (mem_addGap.2 ⟨by omega, rfl⟩))
    · rw [e] at hg
      rcases List.mem_append.1 hg with hg | hg
      · obtain ⟨c1, c2, c3, c4⟩ := h0.el g hg
        exact ⟨c1, c2, by omega, c4⟩
      · obtain ⟨c1, rfl⟩ := mem_addGap.1 hg
        exact ⟨g1, c1, by show S.fin ≤ _; omega, fun y y1 y2 hy => by have := g2 y hy; have y1 : gapsEnd S.off (keysS S) ≤ y := y1; omega⟩
    · show List.Pairwise _ (addGap (gapsTo [] S.off (keysS S)) (gapsEnd S.off (keysS S)) S.fin)
      rw [e]
      refine List.pairwise_append.2 ⟨h0.asc, by unfold addGap; split <;> simp, fun g hg g' hg' => ?_⟩
      obtain ⟨c1, rfl⟩ := mem_addGap.1 hg'
      have := g2 g.2 (h1 g hg)
      show g.2 < gapsEnd S.off (keysS S); omega
  · exact ⟨h0, fun k hk => by have := g2 k hk; omega⟩
theorem gEnd_rng {S : Sto} (h : StO S) : S.off ≤ gEnd S ∧ gEnd S ≤ topK := by
  obtain ⟨g1, _⟩ := gapsEnd_le (keysS S) S.off (fun k hk => (keysS_rng h hk).1) (keysS_lt h)
  have g3 := gapsEnd_at (keysS S) S.off
  have hoff := h.off; have hn := h.nxt
  have hT : gapsEnd S.off (keysS S) ≤ topK := by
    rcases g3 with g3 | ⟨k, hk, g3⟩
    · omega
    · obtain ⟨p, hp, rfl⟩ := List.mem_map.1 ((sortI_perm _).mem_iff.1 hk)
      have := (h.rng p hp).2.2
      omega
  dsimp only [gEnd]
  split
  · rename_i hk
    have := (h.fin hk).2.1
    omega
  · omega
/-- Where keys end, within the window. -/
theorem gEnd_win {S : Sto} (h : StO S) : gapsEnd S.off (keysS S) ≤ S.off + S.win := by
  have g3 := gapsEnd_at (keysS S) S.off
  have hw := h.win
  rcases g3 with g3 | ⟨k, hk, g3⟩
  · omega
  · have := keysS_rng h hk; omega
theorem first_gap {S : Sto} (h : StO S) {g : Int × Int} {r : GL} (e : gapsL S = g :: r) : g.1 = S.next := by
  obtain ⟨hp, _⟩ := gapP h
  rw [e] at hp
  obtain ⟨c1, c2, c3, c4⟩ := hp.el g (List.mem_cons_self ..)
  obtain ⟨a1, _⟩ := List.pairwise_cons.1 hp.asc
  refine (next_eq h c1 (fun k k1 k2 => ?_) ?_).symm
  · rcases hp.cov k k1 (by omega) with hk | ⟨g', hg', h1⟩
    · exact keysS_mem.1 hk
    · rcases List.mem_cons.1 hg' with rfl | hg'
      · omega
      · have := a1 g' hg'; omega
  · have := c4 g.1 (Int.le_refl _) c2
    cases hv : getI S.kept g.1 with
    | none => rfl
    | some v => exact absurd (keysS_mem.2 (by rw [hv]; exact fun h => by cases h)) this
/-- Keys without holes. -/
theorem whole {S : Sto} (h : StO S) {e : Int} (h0 : S.off ≤ e) (hg : ∀ k, getI S.kept k ≠ none ↔ S.off ≤ k ∧ k < e) : S.next = S.off + (S.kept.length : Int) := by
  have hg2 : ∀ k, getI S.kept k ≠ none ↔ S.off ≤ k ∧ k < S.off + ((e - S.off).toNat : Int) := fun k => by
    rw [hg k]
    constructor <;> (intro hk; omega)
  have hl := (keys_range h hg2).2
  have hn : S.next = e := next_eq h h0 (fun k k1 k2 => (hg k).2 ⟨k1, k2⟩) (by
    cases hv : getI S.kept e with
    | none => rfl
    | some v => exact absurd ((hg e).1 (by rw [hv]; exact fun h => by cases h)).2 (by omega))
  omega
theorem no_gaps {S : Sto} (h : StO S) (e : gapsL S = []) : S.next = S.off + (S.kept.length : Int) := by
  obtain ⟨hp, hk⟩ := gapP h
  have hr := gEnd_rng h
  refine whole h (e := gEnd S) hr.1 fun k => ⟨fun hh => ?_, fun hh => ?_⟩
  · have := keysS_mem.2 hh
    exact ⟨(keysS_rng h this).1, hk k this⟩
  · rcases hp.cov k hh.1 hh.2 with h1 | ⟨g, hg, _⟩
    · exact keysS_mem.1 h1
    · rw [e] at hg; cases hg

/-! ### filling -/
theorem ins_len_new {d : List Int} {o : Int} : ∀ (n : Nat) (K : List KV) (a : Int), (∀ k, a ≤ k → k < a + n → getI K k = none) → (ins d o K a n).length = K.length + n
  | 0, K, a, _ => rfl
  | n + 1, K, a, h => by
    show (ins d o (putI K a (d.getD (a - o).toNat 0)) (a + 1) n).length = _
    rw [ins_len_new n _ (a + 1) (fun k k1 k2 => by rw [getI_putI, if_neg (by omega)]; exact h k (by omega) (by omega)), putI_new (h a (Int.le_refl _) (by omega)), List.length_append, List.length_singleton]
    omega
/-- The first j gaps are filled. -/
structure Fl (S0 S : Sto) (j : Nat) : Prop where
  ok : StO S
  win : S.win = S0.win
  off : S.off = S0.off
  known : S.known = S0.known
  fin : S.fin = S0.fin
  get : ∀ k, getI S.kept k ≠ none ↔ getI S0.kept k ≠ none ∨ (k < S0.off + S0.win ∧ ∃ g ∈ (gapsL S0).take j, g.1 ≤ k ∧ k < g.2)
theorem fl_step {S0 S : Sto} {j : Nat} (h0 : StO S0) (hs : S0.off ≤ 100000) (h : Fl S0 S j) (hj : j < (gapsL S0).length) (hg : ((gapsL S0).getD j (0, 0)).2 - ((gapsL S0).getD j (0, 0)).1 ≤ 1000) (hw : S0.win ≤ 100) :
    putF S ((gapsL S0).getD j (0, 0)).1 (List.replicate (((gapsL S0).getD j (0, 0)).2 - ((gapsL S0).getD j (0, 0)).1).toNat 0) false = ((max (min ((gapsL S0).getD j (0, 0)).2 (S0.off + S0.win) - ((gapsL S0).getD j (0, 0)).1) 0, 0, ()), (putF S ((gapsL S0).getD j (0, 0)).1 (List.replicate (((gapsL S0).getD j (0, 0)).2 - ((gapsL S0).getD j (0, 0)).1).toNat 0) false).2) ∧
    Fl S0 (putF S ((gapsL S0).getD j (0, 0)).1 (List.replicate (((gapsL S0).getD j (0, 0)).2 - ((gapsL S0).getD j (0, 0)).1).toNat 0) false).2 (j + 1) ∧
    ((putF S ((gapsL S0).getD j (0, 0)).1 (List.replicate (((gapsL S0).getD j (0, 0)).2 - ((gapsL S0).getD j (0, 0)).1).toNat 0) false).2.kept.length : Int) = S.kept.length + max (min ((gapsL S0).getD j (0, 0)).2 (S0.off + S0.win) - ((gapsL S0).getD j (0, 0)).1) 0 := by
  have hgj : (gapsL S0)[j] = (gapsL S0).getD j (0, 0) := by rw [List.getD_eq_getElem?_getD, List.getElem?_eq_getElem hj]; rfl
  generalize hge : (gapsL S0).getD j (0, 0) = g at *
  have hgm : g ∈ gapsL S0 := hgj ▸ List.getElem_mem hj
  obtain ⟨hp, _⟩ := gapP h0
  obtain ⟨c1, c2, c3, c4⟩ := hp.el g hgm
  have hok0 := h0.off
  have hwin := h0.win
  have hnone : ∀ k, g.1 ≤ k → k < g.2 → getI S.kept k = none := fun k k1 k2 => by
    cases hv : getI S.kept k with
    | none => rfl
    | some v =>
      rcases (h.get k).1 (by rw [hv]; exact fun h => by cases h) with h1 | ⟨_, g', hg', h1, h2⟩
      · exact absurd (keysS_mem.2 h1) (c4 k k1 k2)
      · obtain ⟨i, hi, rfl⟩ := List.getElem_of_mem hg'
        rw [List.length_take] at hi
        rw [List.getElem_take] at h1 h2
        have := List.pairwise_iff_getElem.1 hp.asc i j (by omega) hj (by omega)
        rw [hgj] at this
        omega
  have hE : g.2 ≤ gEnd S0 := c3
  -- where it begins
  have hT := gEnd_win h0
  have hgo : g.1 ≤ 1000000 := by
    refine Int.not_lt.1 fun hlt => ?_
    have hf := gEnd_win h0
    dsimp only [gEnd] at hE
    -- a gap begins at most where the keys end
    have : g.1 ≤ gapsEnd S0.off (keysS S0) := by
      have hm : g ∈ (gapsF S0).1 := hgm
      unfold gapsF at hm
      obtain ⟨q, _⟩ := gapP0 (keysS S0) S0.off (fun k hk => (keysS_rng h0 hk).1) (keysS_lt h0)
      split at hm
      · have hm : g ∈ addGap (gapsTo [] S0.off (keysS S0)) (gapsEnd S0.off (keysS S0)) S0.fin := hm
        rw [addGap_app] at hm
        rcases List.mem_append.1 hm with hm | hm
        · have := q.el g hm; omega
        · obtain ⟨_, rfl⟩ := mem_addGap.1 hm; exact Int.le_refl _
      · have := q.el g hm; omega
    omega
  have hdl : ((List.replicate (g.2 - g.1).toNat (0 : Int)).length : Int) = g.2 - g.1 := by rw [List.length_replicate]; omega
  have hPok : PutOk S g.1 (List.replicate (g.2 - g.1).toNat 0) false := by
    refine ⟨by omega, by omega, ?_, ?_⟩
    · unfold mis
      by_cases hk : S.known = true
      · rw [if_pos hk, if_neg, if_neg Bool.false_ne_true]
        rw [hdl, h.fin]
        have hk0 : S0.known = true := h.known ▸ hk
        have hkf := (h0.fin hk0)
        dsimp only [gEnd] at hE
        rw [if_pos hk0] at hE
        have hTf : gapsEnd S0.off (keysS S0) ≤ S0.fin := by
          rcases gapsEnd_at (keysS S0) S0.off with e | ⟨k, hkm, e⟩
          · rw [e]; exact hkf.2.2.1
          · obtain ⟨p, hp2, rfl⟩ := List.mem_map.1 ((sortI_perm _).mem_iff.1 hkm)
            have := hkf.2.2.2 p hp2
            omega
        omega
      · rw [if_neg hk, if_neg Bool.false_ne_true]
    · cases hc : confl S.kept (List.replicate (g.2 - g.1).toNat 0) g.1 (pFr S g.1) (pN S g.1 (List.replicate (g.2 - g.1).toNat 0)) with
      | false => rfl
      | true =>
        obtain ⟨k, v, k1, k2, k3, _⟩ := (confl_iff _ _).1 hc
        have := hnone k (by dsimp only [pFr] at k1; omega) (by dsimp only [pN, pTo, pFr] at k1 k2; omega)
        rw [this] at k3; cases k3
  have hput := put_ok_eq hPok
  have hfs := put_fs h.ok (o := g.1) (d := List.replicate (g.2 - g.1).toNat 0) false (fun x hx => by rw [(List.mem_replicate.1 hx).2]; omega) (by rw [List.length_replicate]; omega)
  have eF : pFr S g.1 = g.1 := by dsimp only [pFr]; rw [h.off]; omega
  have eT : pTo S g.1 (List.replicate (g.2 - g.1).toNat 0) = min g.2 (S0.off + S0.win) := by dsimp only [pTo]; rw [hdl, h.off, h.win]; omega
  have hlen : ((putK S g.1 (List.replicate (g.2 - g.1).toNat 0)).length : Int) = S.kept.length + max (min g.2 (S0.off + S0.win) - g.1) 0 := by
    have eN : pN S g.1 (List.replicate (g.2 - g.1).toNat 0) = (min g.2 (S0.off + S0.win) - g.1).toNat := by dsimp only [pN]; rw [eT, eF]
    show ((ins _ g.1 S.kept (pFr S g.1) (pN S g.1 _)).length : Int) = _
    rw [eN, eF, ins_len_new _ _ _ (fun k k1 k2 => hnone k k1 (by omega))]
    omega
  rw [hput] at hfs ⊢
  refine ⟨?_, ⟨hfs.ok, h.win, h.off, ?_, ?_, fun k => ?_⟩, hlen⟩
  · rw [hlen]
    show (((S.kept.length : Int) + max (min g.2 (S0.off + S0.win) - g.1) 0 - S.kept.length, (0 : Int), ()), _) = _
    rw [show (S.kept.length : Int) + max (min g.2 (S0.off + S0.win) - g.1) 0 - S.kept.length = max (min g.2 (S0.off + S0.win) - g.1) 0 by omega]
  · show (if false = true then true else S.known) = S0.known
    rw [if_neg Bool.false_ne_true]; exact h.known
  · exact h.fin
  · show getI (putK S g.1 (List.replicate (g.2 - g.1).toNat 0)) k ≠ none ↔ _
    rw [get_put, eF, eT, List.take_succ_eq_append_getElem hj, hgj]
    split
    · rename_i hk
      exact ⟨fun _ => .inr ⟨by omega, g, List.mem_append.2 (.inr (List.mem_singleton.2 rfl)), hk.1, by omega⟩, fun _ h => by cases h⟩
    · rename_i hk
      rw [h.get]
      constructor
      · rintro (h1 | ⟨h1, g', h2, h3⟩)
        · exact .inl h1
        · exact .inr ⟨h1, g', List.mem_append.2 (.inl h2), h3⟩
      · rintro (h1 | ⟨h1, g', h2, h3⟩)
        · exact .inl h1
        · rcases List.mem_append.1 h2 with h2 | h2
          · exact .inr ⟨h1, g', h2, h3⟩
          · rw [List.mem_singleton.1 h2] at h3
            exact absurd ⟨h3.1, by omega⟩ hk
theorem fl_done {S0 S : Sto} (h0 : StO S0) (h : Fl S0 S (gapsL S0).length) : S.next = S.off + (S.kept.length : Int) := by
  obtain ⟨hp, hk⟩ := gapP h0
  have hr := gEnd_rng h0
  have hT := gEnd_win h0
  have hw := h0.win
  refine whole h.ok (e := min (gEnd S0) (S0.off + S0.win)) (by rw [h.off]; omega) fun k => ?_
  rw [h.get, List.take_length, h.off]
  constructor
  · rintro (h1 | ⟨h1, g, hg, h2, h3⟩)
    · have hm := keysS_mem.2 h1
      have := keysS_rng h0 hm; have := hk k hm
      omega
    · have := hp.el g hg; omega
  · intro hh
    rcases hp.cov k hh.1 (by omega) with h1 | ⟨g, hg, h1⟩
    · exact .inl (keysS_mem.1 h1)
    · exact .inr ⟨by omega, g, hg, h1⟩
end Go.Proofs.Ytgdiepbjdpmfbaa
