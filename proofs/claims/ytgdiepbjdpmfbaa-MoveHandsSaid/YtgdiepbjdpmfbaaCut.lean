/-
  What a store keeps from an offset on; reading all runs of a store (plain).
-/
import Derived.Test.YtgdiepbjdpmfbaaGpf
import Derived.Test.YtgdiepbjdpmfbaaEmp
namespace Go.Proofs.Ytgdiepbjdpmfbaa
set_option linter.all false
set_option linter.unusedVariables false
set_option linter.unusedSimpArgs false
set_option linter.unusedSectionVars false
open Go.RowKit Go.Sx

/-- T is S from T's offset on. -/
structure Cut (S T : Sto) : Prop where
  ok : StO T
  win : T.win = S.win
  fin : T.fin = S.fin
  known : T.known = S.known
  off : S.off ≤ T.off
  get : ∀ k, getI T.kept k = if T.off ≤ k then getI S.kept k else none
theorem sto_low {S : Sto} (h : StO S) {k : Int} (hk : k < S.off) : getI S.kept k = none := by
  cases e : getI S.kept k with
  | none => rfl
  | some v => have := h.rng _ (getI_mem e); dsimp only at this; omega
theorem cut_self {S : Sto} (h : StO S) : Cut S S := ⟨h, rfl, rfl, rfl, Int.le_refl _, fun k => by
  split
  · rfl
  · exact sto_low h (by omega)⟩
abbrev rdQ (T : Sto) (m : Int) : Int := if m < 1 then 0 else min m (T.next - T.off)
theorem cut_read {S T : Sto} (h : Cut S T) (m : Int) : Cut S (readF T m).2 ∧ (readF T m).2.off = T.off + rdQ T m ∧ (readF T m).2.next = T.next := by
  have hs := read_sto h.ok m
  have hn := h.ok.off
  by_cases c : m < 1
  · have e : readF T m = (([], ()), T) := by unfold readF; rw [if_pos c]
    dsimp only [rdQ]
    rw [e, if_pos c, Int.add_zero]; exact ⟨h, rfl, rfl⟩
  · have e : (readF T m).2 = { T with kept := rdK T.kept T.off (rdN T m).toNat, off := T.off + rdN T m } := by unfold readF; rw [if_neg c]
    have eo : (readF T m).2.off = T.off + rdN T m := by rw [e]
    refine ⟨⟨hs, by rw [e]; exact h.win, by rw [e]; exact h.fin, by rw [e]; exact h.known, by rw [eo]; have := h.off; dsimp only [rdN]; omega, fun k => ?_⟩, by rw [eo]; dsimp only [rdQ]; rw [if_neg c], by rw [e]⟩
    rw [eo]
    have ek : (readF T m).2.kept = rdK T.kept T.off (rdN T m).toNat := by rw [e]
    rw [ek, get_rdK h.ok.nd, h.get]
    have hr : 0 ≤ rdN T m := by dsimp only [rdN]; omega
    by_cases c1 : T.off ≤ k ∧ k < T.off + ((rdN T m).toNat : Int)
    · rw [if_pos c1, if_neg (by omega)]
    · rw [if_neg c1]
      by_cases c2 : T.off ≤ k
      · rw [if_pos c2, if_pos (by omega)]
      · rw [if_neg c2, if_neg (by omega)]
/-- A gap at the offset is filled and read. -/
theorem cut_fill {S T : Sto} (h : Cut S T) {n : Int} (hn : 0 < n) (hw : n ≤ T.win) (h40 : T.off ≤ 1099511627776) (hf : T.known = true → T.off + n ≤ T.fin) (hno : ∀ k, T.off ≤ k → k < T.off + n → getI T.kept k = none) :
    StO (putF T T.off (zer n) false).2 ∧ Cut S (readF (putF T T.off (zer n) false).2 n).2 ∧ (readF (putF T T.off (zer n) false).2 n).2.off = T.off + n := by
  have hz : ((zer n).length : Int) = n := by rw [List.length_replicate]; omega
  have hoff := h.ok.off; have hwin := h.ok.win
  have e1 : pFr T T.off = T.off := by dsimp only [pFr]; omega
  have e2 : pTo T T.off (zer n) = T.off + n := by dsimp only [pTo]; rw [hz]; omega
  have hok : PutOk T T.off (zer n) false := by
    refine ⟨by omega, h40, ?_, ?_⟩
    · unfold mis
      split
      · rename_i hk
        have := hf hk
        rw [hz]; simp; omega
      · simp
    · cases hc : confl T.kept (zer n) T.off (pFr T T.off) (pN T T.off (zer n)) with
      | false => rfl
      | true =>
        obtain ⟨x, v, h1, h2, h3, _⟩ := (confl_iff _ _).1 hc
        have h2 : x < pFr T T.off + (pTo T T.off (zer n) - pFr T T.off).toNat := h2
        rw [e1, e2] at h2
        rw [e1] at h1
        rw [hno x h1 (by omega)] at h3; cases h3
  have hput := put_ok_eq hok
  have hT := put_sto h.ok (o := T.off) false (zer_byt n) (by omega : (zer n).length ≤ 1048576)
  rw [hput] at hT ⊢
  have hgT : ∀ x, getI (putK T T.off (zer n)) x = if T.off ≤ x ∧ x < T.off + n then some ((zer n).getD (x - T.off).toNat 0) else getI T.kept x := by
    intro x; rw [get_put, e1, e2]
  have hnx : T.off + n ≤ (putS T T.off (zer n) false).next := by
    rcases Int.lt_or_le (putS T T.off (zer n) false).next (T.off + n) with hlt | hle
    · have h0 : T.off ≤ (putS T T.off (zer n) false).next := hT.off.2
      have := get_none.2 hT.non
      have this : getI (putK T T.off (zer n)) (putS T T.off (zer n) false).next = none := this
      rw [hgT, if_pos ⟨h0, hlt⟩] at this; cases this
    · exact hle
  have hr : rdN (putS T T.off (zer n) false) n = n := by
    show min n ((putS T T.off (zer n) false).next - T.off) = n
    omega
  have hs := read_sto hT n
  have e : (readF (putS T T.off (zer n) false) n).2 = { putS T T.off (zer n) false with kept := rdK (putK T T.off (zer n)) T.off n.toNat, off := T.off + n } := by
    unfold readF; rw [if_neg (by omega), hr]
  have eo : (readF (putS T T.off (zer n) false) n).2.off = T.off + n := by rw [e]
  refine ⟨hT, ⟨hs, by rw [e]; exact h.win, by rw [e]; exact h.fin, by rw [e]; exact h.known, by have := h.off; show S.off ≤ (readF (putS T T.off (zer n) false) n).2.off; rw [eo]; omega, fun k => ?_⟩, eo⟩
  show getI (readF (putS T T.off (zer n) false) n).2.kept k = if (readF (putS T T.off (zer n) false) n).2.off ≤ k then _ else _
  rw [eo]
  have ek : (readF (putS T T.off (zer n) false) n).2.kept = rdK (putK T T.off (zer n)) T.off n.toNat := by rw [e]
  rw [ek, get_rdK hT.nd, hgT, h.get]
  by_cases c1 : T.off ≤ k ∧ k < T.off + n
  · rw [if_pos (by omega), if_neg (by omega)]
  · rw [if_neg (by omega), if_neg c1]
    by_cases c2 : T.off ≤ k
    · rw [if_pos c2, if_pos (by omega)]
    · rw [if_neg c2, if_neg (by omega)]

/-! ### the runs -/
abbrev Seg := Int × List Int × Bool
def rdTo (l : List Seg) (T : Sto) (n : Int) : List Seg × Sto := if 0 < n then (l ++ [(T.off, (readF T n).1.1, false)], (readF T n).2) else (l, T)
def runGo : GL → List Seg → Sto → List Seg × Sto
  | [], l, T => rdTo l T T.kept.length
  | g :: r, l, T => if ((rdTo l T (g.1 - T.off)).2.kept.length : Int) = 0 then rdTo l T (g.1 - T.off)
    else runGo r (rdTo l T (g.1 - T.off)).1 (readF (putF (rdTo l T (g.1 - T.off)).2 g.1 (zer (g.2 - g.1)) false).2 (g.2 - g.1)).2
def runsF (S : Sto) : List Seg × Sto := runGo (gapsL S) [] S
theorem gapsTo_len : ∀ (ks : List Int) (l : GL) (a : Int), (gapsTo l a ks).length ≤ l.length + ks.length
  | [], l, a => Nat.le_refl _
  | k :: r, l, a => by
    have h := gapsTo_len r (addGap l a k) (k + 1)
    have : (addGap l a k).length ≤ l.length + 1 := by unfold addGap; split <;> simp
    show (gapsTo (addGap l a k) (k + 1) r).length ≤ _
    rw [List.length_cons]; omega
theorem gapsL_len (S : Sto) : (gapsL S).length ≤ S.kept.length + 1 := by
  have h := gapsTo_len (keysS S) [] S.off
  rw [keysS_len] at h
  have h0 : ([] : GL).length = 0 := rfl
  rw [h0] at h
  dsimp only [gapsL, gapsF]
  split
  · unfold addGap; split
    · rw [List.length_append]; simp; omega
    · omega
  · omega
structure PreR (S : Sto) : Prop where
  ok : StO S
  top : S.off + S.win ≤ 1099511627776
structure LR (S : Sto) where
  i : Int
  l : List Seg
  T : Sto
  lo : 0 ≤ i
  hi : i ≤ (gapsL S).length
  cut : Cut S T
  eq : runGo ((gapsL S).drop i.toNat) l T = runsF S
  bef : ∀ g ∈ (gapsL S).take i.toNat, g.2 ≤ T.off
  aft : ∀ g ∈ (gapsL S).drop i.toNat, T.off ≤ g.1
  len : (l.length : Int) ≤ i
abbrev gAt (S : Sto) (i : Int) : Int × Int := (gapsL S).getD i.toNat (0, 0)
structure RuF (S T : Sto) (i : Int) (g : Int × Int) (q : List Seg × Sto) : Prop where
  gg : T.off ≤ g.1 ∧ g.1 < g.2 ∧ g.2 ≤ topK
  cut : Cut S q.2
  off : q.2.off = g.1
  end_ : (q.2.kept.length : Int) = 0 → q = runsF S
  n : ¬ (q.2.kept.length : Int) = 0 → g.2 - g.1 ≤ 1048576
  sto : ¬ (q.2.kept.length : Int) = 0 → StO (putF q.2 g.1 (zer (g.2 - g.1)) false).2
  no : ¬ (q.2.kept.length : Int) = 0 → (readF (putF q.2 g.1 (zer (g.2 - g.1)) false).2 (g.2 - g.1)).2.off = g.2
  cov : ∀ k, T.off ≤ k → k < g.1 → getI S.kept k ≠ none
  gn : ∀ k, g.1 ≤ k → k < g.2 → getI S.kept k = none
  nx : ¬ (q.2.kept.length : Int) = 0 → ∃ y : LR S, y.i = i + 1 ∧ y.l = q.1 ∧ y.T = (readF (putF q.2 g.1 (zer (g.2 - g.1)) false).2 (g.2 - g.1)).2
theorem ruF {S : Sto} (h : PreR S) (x : LR S) (hi : x.i < ((gapsL S).length : Int)) : RuF S x.T x.i (gAt S x.i) (rdTo x.l x.T ((gAt S x.i).1 - x.T.off)) := by
  obtain ⟨gp, gk⟩ := gapP h.ok
  have hlo := x.lo
  have hlt : x.i.toNat < (gapsL S).length := by omega
  have eg : gAt S x.i = (gapsL S)[x.i.toNat] := by rw [gAt, List.getD_eq_getElem?_getD, List.getElem?_eq_getElem hlt]; rfl
  have ed : (gapsL S).drop x.i.toNat = gAt S x.i :: (gapsL S).drop (x.i.toNat + 1) := by rw [eg]; exact List.drop_eq_getElem_cons hlt
  have hm : gAt S x.i ∈ gapsL S := by rw [eg]; exact List.getElem_mem hlt
  obtain ⟨g1, g2, g3, g4⟩ := gp.el _ hm
  have haft := x.aft (gAt S x.i) (by rw [ed]; exact List.mem_cons_self ..)
  have hasc : ∀ g ∈ (gapsL S).drop (x.i.toNat + 1), (gAt S x.i).2 < g.1 := by
    have hp := gp.asc
    rw [← List.take_append_drop x.i.toNat (gapsL S), ed] at hp
    exact (List.pairwise_cons.1 (List.pairwise_append.1 hp).2.1).1
  generalize hg : gAt S x.i = g at *
  have hcov : ∀ k, x.T.off ≤ k → k < g.1 → getI S.kept k ≠ none := by
    intro k k1 k2
    rcases gp.cov k (by have := x.cut.off; omega) (by omega) with h1 | ⟨g', h1, h2, h3⟩
    · exact keysS_mem.1 h1
    · exfalso
      rw [← List.take_append_drop x.i.toNat (gapsL S)] at h1
      rcases List.mem_append.1 h1 with h1 | h1
      · have := x.bef g' h1; omega
      · rw [ed] at h1
        rcases List.mem_cons.1 h1 with rfl | h1
        · omega
        · have := hasc g' h1; omega
  have htop : g.2 ≤ topK := by
    have hE : gEnd S ≤ topK := by
      have hk : gapsEnd S.off (keysS S) ≤ topK := by
        rcases gapsEnd_at (keysS S) S.off with e | ⟨k, hk, e⟩
        · rw [e]; have := h.ok.off; have := h.ok.nxt; omega
        · rw [e]
          have := keysS_rng h.ok hk
          have := h.top
          dsimp only [topK]; omega
      dsimp only [gEnd]
      split
      · rename_i hkn; have := (h.ok.fin hkn).2.1; omega
      · exact hk
    omega
  have hstep : Cut S (rdTo x.l x.T (g.1 - x.T.off)).2 ∧ (rdTo x.l x.T (g.1 - x.T.off)).2.off = g.1 := by
    unfold rdTo
    by_cases c : 0 < g.1 - x.T.off
    · rw [if_pos c]
      obtain ⟨r1, r2, _⟩ := cut_read x.cut (g.1 - x.T.off)
      refine ⟨r1, ?_⟩
      show (readF x.T (g.1 - x.T.off)).2.off = _
      rw [r2]
      have hn : g.1 ≤ x.T.next := by
        rcases Int.lt_or_le x.T.next g.1 with hlt' | hle
        · have h0 := x.cut.ok.off.2
          have h1 := get_none.2 x.cut.ok.non
          rw [x.cut.get, if_pos h0] at h1
          exact absurd h1 (hcov _ h0 hlt')
        · exact hle
      dsimp only [rdQ]
      rw [if_neg (by omega)]; omega
    · rw [if_neg c]; exact ⟨x.cut, by show x.T.off = _; omega⟩
  obtain ⟨s1, s2⟩ := hstep
  have hll : ((rdTo x.l x.T (g.1 - x.T.off)).1.length : Int) ≤ x.i + 1 := by
    have := x.len
    unfold rdTo
    split
    · show ((x.l ++ [_]).length : Int) ≤ _
      rw [List.length_append]; simp; omega
    · show (x.l.length : Int) ≤ _; omega
  have heq := x.eq
  rw [ed] at heq
  have heq : (if ((rdTo x.l x.T (g.1 - x.T.off)).2.kept.length : Int) = 0 then rdTo x.l x.T (g.1 - x.T.off)
    else runGo ((gapsL S).drop (x.i.toNat + 1)) (rdTo x.l x.T (g.1 - x.T.off)).1 (readF (putF (rdTo x.l x.T (g.1 - x.T.off)).2 g.1 (zer (g.2 - g.1)) false).2 (g.2 - g.1)).2) = runsF S := heq
  generalize rdTo x.l x.T (g.1 - x.T.off) = q at *
  have hkey : ¬ (q.2.kept.length : Int) = 0 → g.2 - g.1 ≤ q.2.win ∧ g.1 ≤ 1099511627776 ∧ (q.2.known = true → g.2 ≤ q.2.fin) := by
    intro hne
    cases hk : q.2.kept with
    | nil => rw [hk] at hne; simp at hne
    | cons p K =>
      have hp : p ∈ q.2.kept := by rw [hk]; exact List.mem_cons_self ..
      have hr := s1.ok.rng p hp
      have hgp := mem_get s1.ok.nd hp
      rw [s1.get, if_pos hr.1] at hgp
      have hpk : p.1 ∈ keysS S := keysS_mem.2 (by rw [hgp]; exact fun h => by cases h)
      have h2 : g.2 ≤ p.1 := by
        rcases Int.lt_or_le p.1 g.2 with hlt' | hle
        · exact absurd hpk (g4 p.1 (by omega) hlt')
        · exact hle
      have h3 := keysS_rng h.ok hpk
      have := h.top
      refine ⟨by omega, by omega, fun hkn => ?_⟩
      have := (s1.ok.fin hkn).2.2.2 p hp
      omega
  have hfill : ¬ (q.2.kept.length : Int) = 0 → StO (putF q.2 g.1 (zer (g.2 - g.1)) false).2 ∧ Cut S (readF (putF q.2 g.1 (zer (g.2 - g.1)) false).2 (g.2 - g.1)).2 ∧ (readF (putF q.2 g.1 (zer (g.2 - g.1)) false).2 (g.2 - g.1)).2.off = g.2 := by
    intro hne
    obtain ⟨k1, k2, k3⟩ := hkey hne
    have := cut_fill s1 (n := g.2 - g.1) (by omega) k1 (by omega) (fun hk => by have := k3 hk; omega) (fun k h1 h2 => by
      rw [s1.get]
      split
      · cases e : getI S.kept k with
        | none => rfl
        | some v => exact absurd (keysS_mem.2 (by rw [e]; exact fun h => by cases h)) (g4 k (by omega) (by omega))
      · omega)
    rw [s2] at this
    exact ⟨this.1, this.2.1, by rw [this.2.2]; omega⟩
  refine ⟨⟨haft, g2, htop⟩, s1, s2, fun h0 => ?_, fun hne => ?_, fun hne => (hfill hne).1, fun hne => (hfill hne).2.2, hcov, fun k k1 k2 => ?_, fun hne => ?_⟩
  · rw [if_pos h0] at heq; exact heq
  · have := (hkey hne).1; have := s1.ok.win; omega
  · cases e : getI S.kept k with
    | none => rfl
    | some v => exact absurd (keysS_mem.2 (by rw [e]; exact fun h => by cases h)) (g4 k k1 k2)
  · rw [if_neg hne] at heq
    obtain ⟨f1, f2, f3⟩ := hfill hne
    refine ⟨⟨x.i + 1, q.1, _, by omega, by omega, f2, ?_, fun g' hg' => ?_, fun g' hg' => ?_, hll⟩, rfl, rfl, rfl⟩
    · rw [show (x.i + 1).toNat = x.i.toNat + 1 by omega]; exact heq
    · rw [f3]
      rw [show (x.i + 1).toNat = x.i.toNat + 1 by omega, List.take_succ_eq_append_getElem hlt] at hg'
      rcases List.mem_append.1 hg' with h1 | h1
      · have := x.bef g' h1; omega
      · rw [← eg, List.mem_singleton] at h1; rw [h1]; exact Int.le_refl _
    · rw [f3]
      rw [show (x.i + 1).toNat = x.i.toNat + 1 by omega] at hg'
      have := hasc g' hg'; omega
theorem ru_done {S : Sto} (x : LR S) (h : ¬ x.i < ((gapsL S).length : Int)) : rdTo x.l x.T x.T.kept.length = runsF S := by
  have heq := x.eq
  rw [List.drop_eq_nil_of_le (by omega)] at heq
  exact heq
theorem lr0 {S : Sto} (h : StO S) : ∃ x : LR S, x.i = 0 ∧ x.l = [] ∧ x.T = S :=
  ⟨⟨0, [], S, Int.le_refl _, by omega, cut_self h, rfl, fun g hg => (by cases hg), fun g hg => by
    have := ((gapP h).1.el g hg).1; omega, by simp⟩, rfl, rfl, rfl⟩
end Go.Proofs.Ytgdiepbjdpmfbaa
