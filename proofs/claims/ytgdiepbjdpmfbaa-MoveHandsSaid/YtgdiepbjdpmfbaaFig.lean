/-
  Gaps of stores (plain).
-/
import Derived.Test.YtgdiepbjdpmfbaaFit
import Derived.Test.YtgdiepbjdpmfbaaGap
namespace Go.Proofs.Ytgdiepbjdpmfbaa
set_option linter.all false
set_option linter.unusedVariables false
set_option linter.unusedSimpArgs false
set_option linter.unusedSectionVars false
open Go.RowKit Go.Sx

theorem SameS.gaps {a b : Sto} (h : SameS a b) (ha : StO a) (hb : StO b) : gapsF a = gapsF b := by
  have hk : keysS a = keysS b := sortI_congr (h.keys ha hb)
  unfold gapsF
  rw [hk, h.off, ← h.known]
  split
  · rename_i hk2; rw [h.fin hk2]
  · rfl
theorem gapsEnd_le : ∀ (ks : List Int) (a : Int), (∀ k ∈ ks, a ≤ k) → ks.Pairwise (· < ·) → a ≤ gapsEnd a ks ∧ ∀ k ∈ ks, k + 1 ≤ gapsEnd a ks
  | [], a, _, _ => ⟨Int.le_refl _, fun k h => by cases h⟩
  | k :: r, a, h, hp => by
    obtain ⟨p1, p2⟩ := List.pairwise_cons.1 hp
    obtain ⟨h1, h2⟩ := gapsEnd_le r (k + 1) (fun x hx => p1 x hx) p2
    have hk := h k (List.mem_cons_self ..)
    refine ⟨?_, fun x hx => ?_⟩
    · show a ≤ gapsEnd (k + 1) r; omega
    · show x + 1 ≤ gapsEnd (k + 1) r
      rcases List.mem_cons.1 hx with rfl | hx
      · exact h1
      · exact h2 x hx
theorem gapsEnd_at : ∀ (ks : List Int) (a : Int), gapsEnd a ks = a ∨ ∃ k ∈ ks, gapsEnd a ks = k + 1
  | [], a => .inl rfl
  | k :: r, a => by
    rcases gapsEnd_at r (k + 1) with h | ⟨x, hx, h⟩
    · exact .inr ⟨k, List.mem_cons_self .., h⟩
    · exact .inr ⟨x, List.mem_cons_of_mem _ hx, h⟩
theorem keysS_mem {S : Sto} {k : Int} : k ∈ keysS S ↔ getI S.kept k ≠ none := by
  rw [(sortI_perm _).mem_iff]
  constructor
  · intro h hn; exact (get_none.1 hn) h
  · intro h
    cases hv : getI S.kept k with
    | none => exact absurd hv h
    | some v => exact get_mem.2 ⟨v, hv⟩
theorem keysS_lt {S : Sto} (h : StO S) : (keysS S).Pairwise (· < ·) := by
  have h1 := sortI_asc (keysI S.kept)
  have h2 : (keysS S).Nodup := (sortI_perm _).nodup_iff.2 h.nd
  exact (h1.and h2).imp fun ⟨h, hne⟩ => by omega
theorem keysS_rng {S : Sto} (h : StO S) {k : Int} (hk : k ∈ keysS S) : S.off ≤ k ∧ k < S.off + S.win := by
  obtain ⟨p, hp, rfl⟩ := List.mem_map.1 ((sortI_perm _).mem_iff.1 hk)
  have := h.rng p hp
  exact ⟨this.1, this.2.1⟩
/-! ### stores without holes -/
theorem keys_perm {S : Sto} (h : StO S) {a : Int} {n : Nat} (hg : ∀ k, getI S.kept k ≠ none ↔ a ≤ k ∧ k < a + n) : (keysI S.kept).Perm (List.map (fun i : Nat => a + (i : Int)) (List.range n)) := by
  refine (List.perm_ext_iff_of_nodup h.nd ?_).2 fun x => ?_
  · exact List.Pairwise.map _ (fun x y h e => h (by omega)) List.nodup_range
  · have hx : x ∈ keysI S.kept ↔ a ≤ x ∧ x < a + n := by
      rw [← hg]
      constructor
      · intro hx hn; exact (get_none.1 hn) hx
      · intro hx
        cases hv : getI S.kept x with
        | none => exact absurd hv hx
        | some v => exact get_mem.2 ⟨v, hv⟩
    show x ∈ keysI S.kept ↔ _
    rw [hx]
    constructor
    · intro hx
      exact List.mem_map.2 ⟨(x - a).toNat, List.mem_range.2 (by omega), by omega⟩
    · intro hx
      obtain ⟨i, hi, rfl⟩ := List.mem_map.1 hx
      have hi := List.mem_range.1 hi
      omega
theorem range_asc (a : Int) (n : Nat) : (List.map (fun i : Nat => a + (i : Int)) (List.range n)).Pairwise (· ≤ ·) :=
  List.Pairwise.map _ (fun x y h => by have h : x < y := h; show a + (x : Int) ≤ a + (y : Int); omega) List.pairwise_lt_range
theorem keys_range {S : Sto} (h : StO S) {a : Int} {n : Nat} (hg : ∀ k, getI S.kept k ≠ none ↔ a ≤ k ∧ k < a + n) : keysS S = List.map (fun i : Nat => a + (i : Int)) (List.range n) ∧ S.kept.length = n := by
  have hp := keys_perm h hg
  refine ⟨(sortI_congr hp).trans (sortI_of (range_asc a n)), ?_⟩
  have := hp.length_eq
  unfold keysI at this
  rwa [List.length_map, List.length_map, List.length_range] at this
theorem gapsTo_range : ∀ (n : Nat) (a : Int) (l : GL), gapsTo l a (List.map (fun i : Nat => a + (i : Int)) (List.range n)) = l ∧ gapsEnd a (List.map (fun i : Nat => a + (i : Int)) (List.range n)) = a + n
  | 0, a, l => ⟨rfl, (Int.add_zero a).symm⟩
  | n + 1, a, l => by
    rw [List.range_succ_eq_map, List.map_cons, List.map_map]
    have e : (fun i : Nat => a + (i : Int)) ∘ Nat.succ = fun i : Nat => (a + 1) + (i : Int) := by
      funext i; simp only [Function.comp]; omega
    rw [e, show a + ((0 : Nat) : Int) = a by omega]
    obtain ⟨h1, h2⟩ := gapsTo_range n (a + 1) l
    refine ⟨?_, ?_⟩
    · show gapsTo (addGap l a a) (a + 1) _ = l
      unfold addGap
      rw [if_neg (by omega)]; exact h1
    · show gapsEnd (a + 1) _ = _
      rw [h2]; omega
/-- No gaps. -/
theorem gaps_none {S : Sto} (h : StO S) {n : Nat} (hg : ∀ k, getI S.kept k ≠ none ↔ S.off ≤ k ∧ k < S.off + n) (hf : S.known = true → S.fin ≤ S.off + n) : gapsF S = ([], ()) := by
  obtain ⟨h1, h2⟩ := gapsTo_range n S.off []
  unfold gapsF
  rw [(keys_range h hg).1, h1, h2]
  split
  · rename_i hk
    have := hf hk
    unfold addGap; rw [if_neg (by omega)]
  · rfl
end Go.Proofs.Ytgdiepbjdpmfbaa
