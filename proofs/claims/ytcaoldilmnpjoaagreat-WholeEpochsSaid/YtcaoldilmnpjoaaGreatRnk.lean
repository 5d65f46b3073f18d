/-
  Plain: a rank of channels that rises along every dependency of a table of routes.
-/
import Derived.Test.YtcaoldilmnpjoaaGreatDpp
import Derived.Test.YtcaoldilmnpjoaaGreatLft
import Derived.Test.YtcaoldilmnpjoaaGreatCyc
namespace Go.Proofs.YtcaoldilmnpjoaaGreat
set_option linter.all false
open Go.RowKit Go.Sx
def posL (L : List Int) (u : Int) : Nat := if lat L u < 0 then 5000 else (lat L u).toNat * 16 + u.toNat
def rkC (p : PlanT) (L : List Int) (c : Int) : Nat :=
  if 0 ≤ c ∧ c < 2 * (p.2.length : Int) then (if (aboveF (L, ()) (endsF p c).2.1 (endsF p c).1).1 = true then 1000 - posL L (endsF p c).1 else 2000 + posL L (endsF p c).2.1) else 0
theorem posL_le {n : Nat} {C : List CabT} {L : List Int} (h : LvOk C n L) (hn : n ≤ 16) {u : Int} (h0 : 0 ≤ u) (h1 : u < (n : Int)) : posL L u ≤ 5000 ∧ (0 ≤ lat L u → posL L u ≤ 300) := by
  have h2 := h.at h0 h1
  unfold posL
  split
  · exact ⟨Nat.le_refl _, fun h3 => by omega⟩
  · exact ⟨by omega, fun _ => by omega⟩
theorem above_iff {n : Nat} {L : List Int} (hl : L.length = n) {a b : Int} (ha : 0 ≤ a ∧ a < (n : Int)) (hb : 0 ≤ b ∧ b < (n : Int)) : (aboveF (L, ()) a b).1 = true ↔ 0 ≤ lat L a ∧ 0 ≤ lat L b ∧ (lat L a < lat L b ∨ (lat L a = lat L b ∧ a < b)) := by
  unfold aboveF
  rw [if_pos ha.1, if_pos (show a < (L.length : Int) by rw [hl]; exact ha.2)]
  dsimp only
  by_cases h1 : 0 ≤ lat L a
  · rw [if_pos h1, if_pos hb.1, if_pos (show b < (L.length : Int) by rw [hl]; exact hb.2)]
    by_cases h2 : 0 ≤ lat L b
    · rw [if_pos h2]
      show abv L a b = true ↔ _
      rw [abv_iff]
      exact ⟨fun h => ⟨h1, h2, h⟩, fun h => h.2.2⟩
    · rw [if_neg h2]
      exact ⟨fun h => (by cases h), fun h => absurd h.2.1 h2⟩
  · rw [if_neg h1]
    exact ⟨fun h => (by cases h), fun h => absurd h.1 h1⟩
/-- The channel on which a cable leaves a node. -/
theorem leav_ends {p : PlanT} {e v : Int} (h0 : 0 ≤ e) (h : (acF (p.2.getD e.toNat z6) v).2.1 = true) : (endsF p (leavF p e v).1).1 = v ∧ (endsF p (leavF p e v).1).2.1 = (acF (p.2.getD e.toNat z6) v).1 := by
  unfold acF at h ⊢
  unfold leavF
  by_cases h1 : (p.2.getD e.toNat z6).1 = v
  · rw [if_pos h1, if_pos h1.symm]
    have e1 : ((2 * e + 0 : Int) / 2) = e := by omega
    have e2 : ((2 * e + 0 : Int) % 2) = 0 := by omega
    unfold endsF
    show (if (2 * e + 0 : Int) % 2 = 0 then _ else _ : Tup [DT.cell Ii, DT.cell Ii]).1 = v ∧ (if (2 * e + 0 : Int) % 2 = 0 then _ else _ : Tup [DT.cell Ii, DT.cell Ii]).2.1 = _
    rw [if_pos e2, e1]
    exact ⟨h1, rfl⟩
  · rw [if_neg h1, if_neg fun h => h1 h.symm]
    rw [if_neg fun h => h1 h.symm] at h
    have e1 : ((2 * e + 1 : Int) / 2) = e := by omega
    have e2 : ¬ ((2 * e + 1 : Int) % 2) = 0 := by omega
    unfold endsF
    show (if (2 * e + 1 : Int) % 2 = 0 then _ else _ : Tup [DT.cell Ii, DT.cell Ii]).1 = v ∧ (if (2 * e + 1 : Int) % 2 = 0 then _ else _ : Tup [DT.cell Ii, DT.cell Ii]).2.1 = _
    rw [if_neg e2, e1]
    by_cases h2 : v = (p.2.getD e.toNat z6).2.2.1
    · rw [if_pos h2]; exact ⟨h2.symm, rfl⟩
    · rw [if_neg h2] at h; cases h
theorem leav_rng {p : PlanT} {e v : Int} (h0 : 0 ≤ e) (h1 : e < (p.2.length : Int)) : 0 ≤ (leavF p e v).1 ∧ (leavF p e v).1 < 2 * (p.2.length : Int) := by
  unfold leavF
  split
  · exact ⟨show (0 : Int) ≤ 2 * e + 0 by omega, show (2 * e + 0 : Int) < _ by omega⟩
  · exact ⟨show (0 : Int) ≤ 2 * e + 1 by omega, show (2 * e + 1 : Int) < _ by omega⟩
theorem cT_mem {p : PlanT} {o : OrdT} {T : TabT} {c : Int} {ph t : Nat} {d : DepT} (h : d ∈ cT p o T c ph t) : ∃ to, to < t ∧ dpE p o T c ph to = some d := by
  unfold cT at h
  obtain ⟨to, h1, h2⟩ := List.mem_filterMap.1 h
  exact ⟨to, List.mem_range.1 h1, h2⟩
theorem row_ok {p : PlanT} {L : List Int} {T : TabT} (h : TbOk p L T) {k : Int} (h0 : 0 ≤ k) (h1 : k < (p.1.length : Int)) {ph to : Nat} (hph : ph = 0 ∨ ph = 1) (ht : to < p.1.length) : okE p L k.toNat to ph ((rowT T k ph).getD to 0) := by
  have hk : k.toNat < p.1.length := by omega
  rcases hph with rfl | rfl
  · exact h.e0 _ _ hk ht
  · exact h.e1 _ _ hk ht
theorem tri7 {a b x y : Int} (h : ¬ (0 ≤ a ∧ 0 ≤ b ∧ (a < b ∨ (a = b ∧ x < y)))) (ha : 0 ≤ a) (hb : 0 ≤ b) (hn : x ≠ y) : b < a ∨ (b = a ∧ y < x) := by omega
/-- What is known of a dependency. -/
theorem dep_fact {p : PlanT} {o : OrdT} {T : TabT} (h : DpP p o T) {d : DepT} (hd : d ∈ depsL p o T) :
    (0 ≤ d.1 ∧ d.1 < 2 * (p.2.length : Int)) ∧ (0 ≤ d.2.1 ∧ d.2.1 < 2 * (p.2.length : Int)) ∧ (0 ≤ d.2.2 ∧ d.2.2 < 16) ∧ rkC p o.1 d.1 < rkC p o.1 d.2.1 := by
  have hn := h.lv.pl.n
  have hE : EndsOk p.2 p.1.length := valid_ends h.lv.ok
  obtain ⟨c, hc, hm⟩ := deps_mem hd
  have hc0 : (0 : Int) ≤ (c : Int) := by omega
  have hc1 : (c : Int) < 2 * (p.2.length : Int) := by omega
  obtain ⟨hu, hv, hne⟩ := ends_in hE hc0 hc1
  unfold cP at hm
  split at hm
  · cases hm
  rename_i hlu
  split at hm
  · cases hm
  rename_i hlv
  have hph : ∃ ph to, (ph = 0 ∨ ph = 1) ∧ to < p.1.length ∧ dpE p o T (c : Int) ph to = some d := by
    rcases List.mem_append.1 hm with hm | hm
    · obtain ⟨to, h1, h2⟩ := cT_mem hm; exact ⟨0, to, .inl rfl, h1, h2⟩
    · obtain ⟨to, h1, h2⟩ := cT_mem hm; exact ⟨1, to, .inr rfl, h1, h2⟩
  obtain ⟨ph, to, hph, hto, he⟩ := hph
  unfold dpE at he
  split at he <;> (try (cases he; done))
  split at he <;> cases he
  rename_i hx
  have haft : aftI p o (c : Int) ph = 0 ∨ aftI p o (c : Int) ph = 1 := by unfold aftI; split; split; exact .inl rfl; exact .inr rfl; exact .inr rfl
  have hok := row_ok h.tb hv.1 hv.2 haft hto
  obtain ⟨k1, k2, k3⟩ := okE_lt hok hx
  have hvv : (((endsF p (c : Int)).2.1.toNat : Nat) : Int) = (endsF p (c : Int)).2.1 := Int.toNat_of_nonneg hv.1
  rw [hvv] at k2 k3
  obtain ⟨w1, w2⟩ := leav_ends hx k2
  have hl := leav_rng (p := p) (v := (endsF p (c : Int)).2.1) hx k1
  refine ⟨⟨hc0, hc1⟩, hl, ⟨hv.1, Int.lt_of_lt_of_le hv.2 (by omega)⟩, ?_⟩
  have hw := ends_in hE hl.1 hl.2
  dsimp only
  unfold rkC
  rw [if_pos ⟨hc0, hc1⟩, if_pos hl, w1, w2]
  rw [w1, w2] at hw
  generalize (acF (p.2.getD ((rowT T (endsF p (c : Int)).2.1 (aftI p o (c : Int) ph)).getD to 0).toNat z6) (endsF p (c : Int)).2.1).1 = w at *
  obtain ⟨L, ou⟩ := o
  have hLv := h.lv.lv
  have hlen := hLv.len
  dsimp only at hLv hlen hlu hlv k3 ⊢
  have pu := posL_le hLv hn hu.1 hu.2
  have pv := posL_le hLv hn hv.1 hv.2
  have pw := posL_le hLv hn hw.2.1.1 hw.2.1.2
  have lu := hLv.at hu.1 hu.2
  have lv := hLv.at hv.1 hv.2
  have lw := hLv.at hw.2.1.1 hw.2.1.2
  have au := above_iff hlen hv hu
  have aw := above_iff hlen hw.2.1 hv
  have hout : ¬ (aboveF (L, ()) (endsF p (c : Int)).2.1 (endsF p (c : Int)).1).1 = true → aftI p (L, ou) (c : Int) ph = 1 := fun h => by
    unfold aftI
    by_cases h0 : ph = 0
    · rw [if_pos h0, if_neg h]
    · rw [if_neg h0]
  have kk : ¬ (aboveF (L, ()) (endsF p (c : Int)).2.1 (endsF p (c : Int)).1).1 = true → ¬ (aboveF (L, ()) w (endsF p (c : Int)).2.1).1 = true := fun h => by rw [k3 (hout h)]; decide
  have hwne : w ≠ (endsF p (c : Int)).2.1 := fun e => hw.2.2 e.symm
  have hu16 := Int.lt_of_lt_of_le hu.2 (show (p.1.length : Int) ≤ 16 by omega)
  have hv16 := Int.lt_of_lt_of_le hv.2 (show (p.1.length : Int) ≤ 16 by omega)
  have hw16 := Int.lt_of_lt_of_le hw.2.1.2 (show (p.1.length : Int) ≤ 16 by omega)
  clear hout k3
  generalize (endsF p (c : Int)).2.1 = v at *
  generalize (endsF p (c : Int)).1 = u at *
  have key : ∀ x y : Int, 0 ≤ x → 0 ≤ y → x < 16 → y < 16 → 0 ≤ lat L x → (lat L x < lat L y ∨ (lat L x = lat L y ∧ x < y)) → posL L x < posL L y := fun x y x0 y0 x1 y1 hx h => by
    unfold posL
    rw [if_neg (by omega), if_neg (by omega)]
    omega
  have hlu0 : 0 ≤ lat L u := by omega
  have hlv0 : 0 ≤ lat L v := by omega
  by_cases ha : (aboveF (L, ()) v u).1 = true
  · rw [if_pos ha]
    have h5 := key v u hv.1 hu.1 hv16 hu16 hlv0 (au.1 ha).2.2
    have h6 := pu.2 hlu0
    by_cases hb : (aboveF (L, ()) w v).1 = true
    · rw [if_pos hb]; omega
    · rw [if_neg hb]; omega
  · rw [if_neg ha, if_neg (kk ha)]
    have h7 := kk ha
    rw [aw] at h7
    by_cases hw0 : 0 ≤ lat L w
    · have h5 := key v w hv.1 hw.2.1.1 hv16 hw16 hlv0 (tri7 h7 hw0 hlv0 hwne)
      omega
    · have h6 := pv.2 hlv0
      have h8 : posL L w = 5000 := if_pos (by omega)
      omega
theorem rkC_le {p : PlanT} {o : OrdT} {T : TabT} (h : DpP p o T) (c : Int) : rkC p o.1 c ≤ 7000 := by
  have hn := h.lv.pl.n
  have hE : EndsOk p.2 p.1.length := valid_ends h.lv.ok
  unfold rkC
  split
  · rename_i hc
    obtain ⟨hu, hv, _⟩ := ends_in hE hc.1 hc.2
    have h1 := (posL_le h.lv.lv hn hv.1 hv.2).1
    split <;> omega
  · omega
end Go.Proofs.YtcaoldilmnpjoaaGreat
