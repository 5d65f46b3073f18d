/-
  Layer 48: the segments that are handed over (plain).
-/
import Derived.Test.YtgdiepbjdpmfbaaRnn
import Derived.Test.YtgdiepbjdpmfbaaMfp
namespace Go.Proofs.Ytgdiepbjdpmfbaa
set_option linter.all false
set_option linter.unusedVariables false
set_option linter.unusedSimpArgs false
set_option linter.unusedSectionVars false
open Go.RowKit Go.Sx

/-- Segments behind b: those with bytes begin at a or later, and behind b; one without bytes is the last one. -/
def HsL (d : List Int) (a : Int) : Int → List Seg → Prop
  | _, [] => True
  | b, s :: r => (0 < s.2.1.length → a ≤ s.1 ∧ b < s.1) ∧ (s.2.1.length = 0 → r = [] ∧ s.2.2 = true) ∧ IsPart d s ∧ HsL d a (s.1 + (s.2.1.length : Int)) r
theorem rn_hsl {g : Int → Option Int} {d : List Int} {a o : Int} {l : List Seg} (h : Rn g o l) : ∀ {b : Int}, (∀ s ∈ l, IsPart d s) → a ≤ o → (b < o ∨ (b = o ∧ g o = none)) → HsL d a b l ∧ ∀ s ∈ l, s.2.1 ≠ [] := by
  induction h with
  | nil h => intro b _ _ _; exact ⟨trivial, fun s hs => by cases hs⟩
  | @cons a0 o d' l h1 h2 h3 h4 h5 h6 ih =>
    intro b hp ha hb
    have hpos := pos_of h3
    have hgo : g o ≠ none := fun e => by
      have := h4 0 hpos
      rw [show o + ((0 : Nat) : Int) = o by omega, e] at this; cases this
    obtain ⟨i1, i2⟩ := ih (b := o + (d'.length : Int)) (fun s hs => hp s (List.mem_cons_of_mem _ hs)) (by omega) (.inr ⟨rfl, h5⟩)
    refine ⟨⟨fun _ => ⟨by show a ≤ o; omega, ?_⟩, fun e => ?_, hp _ (List.mem_cons_self ..), i1⟩, fun s hs => ?_⟩
    · show b < o
      rcases hb with hb | ⟨rfl, hb⟩
      · omega
      · have : b ≠ o := fun e => hgo (e ▸ hb)
        omega
    · have e : d'.length = 0 := e
      omega
    · rcases List.mem_cons.1 hs with rfl | hs
      · exact h3
      · exact i2 s hs
theorem end_part {d : List Int} {e : Int} (he : e = d.length) : IsPart d (e, [], true) :=
  ⟨by show (0 : Int) ≤ e; omega, by show e + ((0 : Nat) : Int) ≤ _; omega, rfl, fun _ => by show e + ((0 : Nat) : Int) = _; omega⟩
theorem hsl_app {d : List Int} {a e : Int} (he : e = d.length) : ∀ {R : List Seg} {b : Int}, HsL d a b R → (∀ s ∈ R, s.2.1 ≠ []) → HsL d a b (R ++ [(e, [], true)])
  | [], b, _, _ => ⟨fun h => absurd h (Nat.lt_irrefl 0), fun _ => ⟨rfl, rfl⟩, end_part he, trivial⟩
  | s :: r, b, ⟨h1, h2, h3, h4⟩, hn => ⟨h1, fun e => absurd (List.eq_nil_of_length_eq_zero e) (hn s (List.mem_cons_self ..)), h3, hsl_app he h4 fun x hx => hn x (List.mem_cons_of_mem _ hx)⟩
theorem hsl_set {d : List Int} {a : Int} {x : Seg} : ∀ {R : List Seg} {b : Int} {n : Nat}, HsL d a b R → (∀ s ∈ R, s.2.1 ≠ []) → (∀ s, R[n]? = some s → x.1 = s.1 ∧ x.2.1 = s.2.1 ∧ IsPart d x) → HsL d a b (R.set n x)
  | [], _, _, _, _, _ => trivial
  | s :: r, b, 0, ⟨h1, h2, h3, h4⟩, hn, hx => by
    obtain ⟨e1, e2, e3⟩ := hx s rfl
    show HsL d a b (x :: r)
    exact ⟨by rw [e1, e2]; exact h1, fun e => by rw [e2] at e; exact absurd (List.eq_nil_of_length_eq_zero e) (hn s (List.mem_cons_self ..)), e3, by rw [e1, e2]; exact h4⟩
  | s :: r, b, n + 1, ⟨h1, h2, h3, h4⟩, hn, hx => ⟨h1, fun e => absurd (List.eq_nil_of_length_eq_zero e) (hn s (List.mem_cons_self ..)), h3, hsl_set h4 (fun x hx => hn x (List.mem_cons_of_mem _ hx)) fun t ht => hx t (by simpa using ht)⟩
theorem close_hsl {d : List Int} {a b e : Int} {R : List Seg} (he : e = d.length) (h : HsL d a b R) (hn : ∀ s ∈ R, s.2.1 ≠ []) (hp : ∀ s ∈ R, IsPart d s) : HsL d a b (closeL R e) := by
  unfold closeL
  split
  · rename_i hc
    refine hsl_set h hn fun s hs => ?_
    have hlt := (List.getElem?_eq_some_iff.1 hs).1
    have e1 : R.getD ((R.length : Int) - 1).toNat (0, [], false) = s := by rw [List.getD_eq_getElem?_getD, hs]; rfl
    rw [e1] at hc ⊢
    have hm := hp s (List.mem_of_getElem? hs)
    exact ⟨rfl, rfl, hm.o, hm.e, hm.dat, fun _ => hc.2.trans he⟩
  · exact hsl_app he h hn
theorem hand_hsl {S : Sto} {d : List Int} (h : Fits S d) (hP : PreR S) : HsL d S.off (-1) (handL S) := by
  have hr : ∀ s ∈ (runsF S).1, IsPart d s := runs_all2 hP (IsPart d) fun T n hc hn hk => read_part (fits_cut h hc hk) n
  have ho := h.ok.off
  obtain ⟨h1, h2⟩ := rn_hsl (b := -1) (runs_rn hP) hr (Int.le_refl _) (.inl (by omega))
  unfold handL
  split
  · rename_i hk
    exact close_hsl (h.fin hk) h1 h2 hr
  · exact h1
theorem ins0 {d : List Int} {o : Int} {K : List KV} {a : Int} {n : Nat} (h : n = 0) : ins d o K a n = K := by subst h; rfl
theorem put0_kept (S : Sto) (o : Int) (l : Bool) : (putF S o [] l).2.kept = S.kept := by
  have e : putK S o [] = S.kept := ins0 (by dsimp only [pN, pTo, pFr]; simp; omega)
  unfold putF
  repeat' split
  all_goals first | rfl | exact e
theorem handA_kept {w : Int} {S : Sto} {d : List Int} (h : Fits S d) (hd : d.length ≤ 1048576) : (handA w S).kept = [] := by
  unfold handA
  split
  · rename_i hk
    have e : zer (S.fin - endA S.fin) = [] := by
      rw [h.fin hk]
      have : ((d.length : Int) - endA (d.length : Int)).toNat = 0 := by dsimp only [endA]; omega
      dsimp only [zer]
      rw [this]; rfl
    rw [e, put0_kept]
  · rfl
theorem hand2_nil {w : Int} {S : Sto} {d : List Int} (h : Fits S d) (h1 : 1 ≤ w) (h2 : w ≤ 1048576) (hd : d.length ≤ 1048576) (hb : inBytes d) : ∀ s ∈ handL (handA w S), s.2.1 = [] := by
  obtain ⟨f1, f2, f3⟩ := handA_part h h1 h2 hd hb
  have hP : PreR (handA w S) := ⟨f1.ok, by have := f1.off; rw [f2]; omega⟩
  have hr := runs_rn hP
  rw [handA_kept h hd] at hr
  have e : (runsF (handA w S)).1 = [] := hr.uniq (.nil fun k _ => rfl)
  unfold handL
  rw [e]
  split
  · unfold closeL
    split
    · rename_i hc; have := hc.1; simp at this
    · intro s hs
      have hs : s ∈ [((handA w S).fin, ([] : List Int), true)] := hs
      rw [List.mem_singleton.1 hs]
  · intro s hs; cases hs
end Go.Proofs.Ytgdiepbjdpmfbaa
