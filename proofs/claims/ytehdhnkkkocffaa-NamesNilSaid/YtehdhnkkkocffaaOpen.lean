/-
  The arguments of the laws of layer 40, opened: an act, a slice of acts.
-/
import Derived.Test.YtehdhnkkkocffaaVer
import Derived.Deep.Slices
import Derived.ChangeOld
namespace Go.Proofs.Ytehdhnkkkocffaa
set_option linter.unusedSimpArgs false
set_option linter.unusedVariables false
set_option linter.unusedSectionVars false
open Go.RowKit Go.Maps Go.WideMaps Go.ChangeShapes Go.WideShapes Go.ChangeAt Go.Deep

theorem add_flat (b off n : Nat) : (⟨b, off, none⟩ : Addr).add n = ⟨b, off + n, none⟩ := by
  unfold Addr.add
  split
  · rename_i h; have : n = 0 := by simpa using h
    subst this; rfl
  · rfl

theorem list_of {α : Type} (n : Nat) (p : Nat → α → Prop) (h : ∀ i, i < n → ∃ x, p i x) : ∃ l : List α, l.length = n ∧ ∀ i (hi : i < l.length), p i l[i] := by
  induction n with
  | zero => exact ⟨[], rfl, fun i hi => absurd hi (by simp)⟩
  | succ n ih =>
    obtain ⟨l, hl, hp⟩ := ih (fun i hi => h i (by omega))
    obtain ⟨x, hx⟩ := h n (by omega)
    refine ⟨l ++ [x], by simp [hl], fun i hi => ?_⟩
    by_cases e : i < l.length
    · rw [List.getElem_append_left e]; exact hp i e
    · have : i = l.length := by simp at hi; omega
      subst this
      simp only [List.getElem_append_right (Nat.le_refl _), Nat.sub_self, List.getElem_cons_zero]
      rw [hl]; exact hx

section
variable {H : Type} {enc : TypeId × Value → H} {W : World} {sp : Nat → Bool} {held : Bool} {fuel : Nat}

set_option maxRecDepth 100000 in
theorem act_of_trod {cs : List Value} {x : DataW H × List MemPlace} (h : DataW.trod enc Try.prog W 0 sp held fuel 28 cs = some x) : ∃ a : AC, cs = a.cells ∧ a.name.size ≤ maxLen := by
  obtain ⟨xs, n, _, _, hlen, _, hf⟩ := DataW.trod_struct Try.underlying28 h
  have hlen7 : cs.length = 7 := hlen.trans (by kernel_rfl)
  match cs, hlen7 with
  | [v0, v1, v2, v3, v4, v5, v6], _ =>
    have ci : Try.prog.cellsOf 3 = 1 := by kernel_rfl
    have cS : Try.prog.cellsOf 9 = 1 := by kernel_rfl
    rename_i hx _
    have some_ : ∀ i, i < 7 → ∃ y, xs[i]? = some y := fun i hi => ⟨xs[i]'(by rw [hx]; simpa using hi), by simp⟩
    obtain ⟨y0, z0⟩ := some_ 0 (by omega)
    have g0 := hf 0 _ rfl
    rw [z0] at g0
    have h0 : DataW.trod enc Try.prog W 0 sp held n 3 [v0] = some y0 := by rw [← g0]; simp [ci, cS]
    obtain ⟨y1, z1⟩ := some_ 1 (by omega)
    have g1 := hf 1 _ rfl
    rw [z1] at g1
    have h1 : DataW.trod enc Try.prog W 0 sp held n 9 [v1] = some y1 := by rw [← g1]; simp [ci, cS]
    obtain ⟨y2, z2⟩ := some_ 2 (by omega)
    have g2 := hf 2 _ rfl
    rw [z2] at g2
    have h2 : DataW.trod enc Try.prog W 0 sp held n 3 [v2] = some y2 := by rw [← g2]; simp [ci, cS]
    obtain ⟨y3, z3⟩ := some_ 3 (by omega)
    have g3 := hf 3 _ rfl
    rw [z3] at g3
    have h3 : DataW.trod enc Try.prog W 0 sp held n 3 [v3] = some y3 := by rw [← g3]; simp [ci, cS]
    obtain ⟨y4, z4⟩ := some_ 4 (by omega)
    have g4 := hf 4 _ rfl
    rw [z4] at g4
    have h4 : DataW.trod enc Try.prog W 0 sp held n 3 [v4] = some y4 := by rw [← g4]; simp [ci, cS]
    obtain ⟨y5, z5⟩ := some_ 5 (by omega)
    have g5 := hf 5 _ rfl
    rw [z5] at g5
    have h5 : DataW.trod enc Try.prog W 0 sp held n 3 [v5] = some y5 := by rw [← g5]; simp [ci, cS]
    obtain ⟨y6, z6⟩ := some_ 6 (by omega)
    have g6 := hf 6 _ rfl
    rw [z6] at g6
    have h6 : DataW.trod enc Try.prog W 0 sp held n 3 [v6] = some y6 := by rw [← g6]; simp [ci, cS]
    obtain ⟨n0, e0, _, _⟩ := DataW.trod_int Try.underlying3 h0
    obtain ⟨s1, e1, _, hs⟩ := DataW.trod_string Try.underlying9 h1
    obtain ⟨n2, e2, _, _⟩ := DataW.trod_int Try.underlying3 h2
    obtain ⟨n3, e3, _, _⟩ := DataW.trod_int Try.underlying3 h3
    obtain ⟨n4, e4, _, _⟩ := DataW.trod_int Try.underlying3 h4
    obtain ⟨n5, e5, _, _⟩ := DataW.trod_int Try.underlying3 h5
    obtain ⟨n6, e6, _, _⟩ := DataW.trod_int Try.underlying3 h6
    cases e0; cases e1; cases e2; cases e3; cases e4; cases e5; cases e6
    exact ⟨⟨n0, s1, n2, n3, n4, n5, n6⟩, rfl, hs⟩

theorem act_val_of_trod {v : Value} {x : DataW H × List MemPlace} (h : DataW.trod enc Try.prog W 0 sp held fuel 28 v.cells.toList = some x) :
    ∃ a : AC, v = .agg #[.int .i64 a.kind, .string a.name, .int .i64 a.node, .int .i64 a.port, .int .i64 a.ver, .int .i64 a.tick, .int .i64 a.long] ∧ a.name.size ≤ maxLen := by
  obtain ⟨a, ha, hs⟩ := act_of_trod h
  refine ⟨a, ?_, hs⟩
  cases v with
  | agg cs =>
    have e : cs.toList = a.cells := by simpa [Value.cells] using ha
    have : cs = a.cells.toArray := by rw [← e]
    rw [this]; rfl
  | _ => simp [Value.cells, AC.cells] at ha

set_option maxRecDepth 100000 in
theorem acts_of_trod {a : Option Addr} {len cap : Nat} {x : DataW H × List MemPlace} (h : DataW.trod enc Try.prog W 0 sp held fuel 22 [.slice a len cap] = some x) : ∃ l : List AC, IsActs W a len l := by
  rcases open_slice Try.underlying22 h with ⟨hcs, _⟩ | ⟨ad, len', cap', m, n, D, Pl, hcs, hb, hl, hm, hmm, _, hx⟩
  · simp only [List.cons.injEq, Value.slice.injEq, and_true] at hcs
    obtain ⟨rfl, rfl, rfl⟩ := hcs
    exact ⟨[], rfl, Nat.zero_le _, by simp, Or.inl rfl⟩
  · simp only [List.cons.injEq, Value.slice.injEq, and_true] at hcs
    obtain ⟨rfl, rfl, rfl⟩ := hcs
    have hlm : len ≤ m := by rw [hmm]; split <;> omega
    have c7 : Try.prog.cellsOf 28 = 7 := by kernel_rfl
    have each : ∀ i, i < len → ∃ ac : AC, ac.name.size ≤ maxLen ∧ ∀ j v, (AC.cells ac)[j]? = some v → W.cell? (ad.add (i * 7 + j)) = some v := by
      intro i hi
      obtain ⟨cs', h1, h2⟩ := hx i (by omega)
      obtain ⟨ac, rfl, hs⟩ := act_of_trod h2
      rw [c7] at h1
      obtain ⟨_, hlen, hcell⟩ := World.cells?_some h1
      refine ⟨ac, hs, fun j v hj => ?_⟩
      have hj7 : j < 7 := by
        have := (List.getElem?_eq_some_iff.1 hj).1
        rw [hlen] at this; exact this
      have := hcell j hj7
      rw [add_add] at this
      rw [this, hj]
    obtain ⟨l, hll, hp⟩ := list_of len _ each
    refine ⟨l, hll, by omega, fun y hy => ?_, ?_⟩
    · obtain ⟨i, hi, rfl⟩ := List.getElem_of_mem hy
      exact (hp i hi).1
    · by_cases h0 : len = 0
      · exact Or.inl h0
      · right
        obtain ⟨b, off, spot⟩ := ad
        have c0 := (hp 0 (by omega)).2 0 _ rfl
        have hspot : spot = none := by simpa [Addr.add] using World.cell?_spot c0
        subst hspot
        refine ⟨b, off, rfl, ?_, fun i hi j v hj => ?_⟩
        · have := World.block_lt_of_cell? W _ c0
          simpa [Addr.add] using this
        · have := (hp i hi).2 j v hj
          rw [← this]
          rw [add_flat, Nat.add_assoc]
end
end Go.Proofs.Ytehdhnkkkocffaa
