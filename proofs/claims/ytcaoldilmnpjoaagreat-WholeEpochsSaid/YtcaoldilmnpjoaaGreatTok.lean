/-
  Plain: what is known of the tables of routes.
-/
import Derived.Test.YtcaoldilmnpjoaaGreatRtb
namespace Go.Proofs.YtcaoldilmnpjoaaGreat
set_option linter.all false
open Go.RowKit Go.Sx
/-- An entry of node k, phase ph, destination t. -/
def okE (p : PlanT) (L : List Int) (k t ph : Nat) (e : Int) : Prop :=
  (k = t ∧ e = -2) ∨ (k ≠ t ∧ (e = -1 ∨ ∃ i : Nat, i < p.2.length ∧ e = (i : Int) ∧ (acF (p.2.getD i z6) (k : Int)).2.1 = true ∧ (ph = 1 → (aboveF (L, ()) (acF (p.2.getD i z6) (k : Int)).1 (k : Int)).1 = false)))
theorem chb_ac {S : ChS} {node left : Int} {may : Bool} {i : Nat} (h : chB S node left may i = true) : (acF (S.p2.getD i z6) node).2.1 = true ∧ (may = false → (aboveF (S.L, ()) (acF (S.p2.getD i z6) node).1 node).1 = false) := by
  unfold chB at h
  split at h
  · cases h
  · split at h
    · rename_i h2
      refine ⟨h2, fun hm => ?_⟩
      split at h
      · split at h
        · rw [hm] at h; cases h
        · rename_i h4
          cases hx : (aboveF (S.L, ()) (acF (S.p2.getD i z6) node).1 node).1 with
          | false => rfl
          | true => exact absurd hx h4
      · cases h
    · cases h
theorem ent_ok (p : PlanT) (o : OrdT) (up : List Bool) (k t ph : Nat) (hph : ph < 2) : okE p o.1 k t ph (entF p o up (2 * k + ph) t) := by
  have e1 : (2 * k + ph) / 2 = k := by omega
  have e2 : (2 * k + ph) % 2 = ph := by omega
  unfold okE entF
  rw [e1, e2]
  by_cases hk : k = t
  · rw [if_pos hk]; exact .inl ⟨hk, rfl⟩
  · rw [if_neg hk]
    refine .inr ⟨hk, ?_⟩
    by_cases h0 : ph = 0
    · rw [if_pos h0]
      rcases chR_fact (chB (chS p o up t) (k : Int) (lat (chS p o up t).R (k : Int)) true) p.2.length 0 with h | ⟨i, _, h2, h3, h4⟩
      · exact .inl h
      · exact .inr ⟨i, by omega, h4, (chb_ac h3).1, fun h => by omega⟩
    · rw [if_neg h0]
      rcases chR_fact (chB (chS p o up t) (k : Int) (lat (chS p o up t).F (k : Int)) false) p.2.length 0 with h | ⟨i, _, h2, h3, h4⟩
      · exact .inl h
      · exact .inr ⟨i, by omega, h4, (chb_ac h3).1, fun _ => (chb_ac h3).2 rfl⟩
/-- A table of routes. -/
structure TbOk (p : PlanT) (L : List Int) (T : TabT) : Prop where
  len : T.1.length = p.1.length
  r0 : ∀ k : Nat, k < p.1.length → (T.1.getD k ([], [])).1.length = p.1.length
  r1 : ∀ k : Nat, k < p.1.length → (T.1.getD k ([], [])).2.length = p.1.length
  e0 : ∀ k t : Nat, k < p.1.length → t < p.1.length → okE p L k t 0 ((T.1.getD k ([], [])).1.getD t 0)
  e1 : ∀ k t : Nat, k < p.1.length → t < p.1.length → okE p L k t 1 ((T.1.getD k ([], [])).2.getD t 0)
theorem getD_map {α : Type} (f : Nat → α) (d : α) {n k : Nat} (h : k < n) : ((List.range n).map f).getD k d = f k := by
  rw [List.getD_eq_getElem?_getD, List.getElem?_map, List.getElem?_range h]; rfl
theorem tab_ok (p : PlanT) (o : OrdT) (up : List Bool) : TbOk p o.1 (tabL (entF p o up) p.1.length, ()) := by
  have hk : ∀ k, k < p.1.length → (tabL (entF p o up) p.1.length).getD k ([], []) = ((List.range p.1.length).map (entF p o up (2 * k)), (List.range p.1.length).map (entF p o up (2 * k + 1))) := fun k h => getD_map _ _ h
  refine ⟨by show (tabL _ _).length = _; unfold tabL; rw [List.length_map, List.length_range], fun k h => ?_, fun k h => ?_, fun k t h ht => ?_, fun k t h ht => ?_⟩
  · dsimp only; rw [hk k h]; simp
  · dsimp only; rw [hk k h]; simp
  · dsimp only; rw [hk k h]; dsimp only; rw [getD_map _ _ ht]; exact ent_ok p o up k t 0 (by omega)
  · dsimp only; rw [hk k h]; dsimp only; rw [getD_map _ _ ht]; exact ent_ok p o up k t 1 (by omega)
end Go.Proofs.YtcaoldilmnpjoaaGreat
