/-
  Plain: the dependencies of a table.
-/
import Derived.Test.YtcaoldilmnpjoaaGreatChn
import Derived.Test.YtcaoldilmnpjoaaGreatRvl
import Derived.Test.YtcaoldilmnpjoaaGreatUni
namespace Go.Proofs.YtcaoldilmnpjoaaGreat
set_option linter.all false
open Go.RowKit Go.Sx
structure DpP (p : PlanT) (o : OrdT) (T : TabT) : Prop where
  lv : LvP p o
  tb : TbOk p o.1 T
theorem DpP.rt {p : PlanT} {o : OrdT} {T : TabT} (h : DpP p o T) : RtP p T := ⟨h.lv.pl, h.lv.ok, o.1, h.tb⟩
abbrev zR : List Int × List Int := ([], [])
def rowT (T : TabT) (k : Int) (ph : Nat) : List Int := if ph = 0 then (T.1.getD k.toNat zR).1 else (T.1.getD k.toNat zR).2
def aftI (p : PlanT) (o : OrdT) (c : Int) (ph : Nat) : Nat := if ph = 0 then (if (aboveF o (endsF p c).2.1 (endsF p c).1).1 = true then 0 else 1) else 1
/-- The dependency at a channel, a phase, a destination. -/
def dpE (p : PlanT) (o : OrdT) (T : TabT) (c : Int) (ph to : Nat) : Option DepT :=
  if (rowT T (endsF p c).1 ph).getD to 0 = c / 2 then
    (if 0 ≤ (rowT T (endsF p c).2.1 (aftI p o c ph)).getD to 0 then some (c, (leavF p ((rowT T (endsF p c).2.1 (aftI p o c ph)).getD to 0) (endsF p c).2.1).1, (endsF p c).2.1) else none)
  else none
def cT (p : PlanT) (o : OrdT) (T : TabT) (c : Int) (ph t : Nat) : List DepT := (List.range t).filterMap (dpE p o T c ph)
def cP (p : PlanT) (o : OrdT) (T : TabT) (c : Int) : List DepT :=
  if lat o.1 (endsF p c).1 < 0 then [] else if lat o.1 (endsF p c).2.1 < 0 then [] else cT p o T c 0 p.1.length ++ cT p o T c 1 p.1.length
def cC (p : PlanT) (o : OrdT) (T : TabT) (k : Nat) : List DepT := (List.range k).flatMap fun c : Nat => cP p o T (c : Int)
def depsL (p : PlanT) (o : OrdT) (T : TabT) : List DepT := sortD (keysD (addsD [] (cC p o T (2 * p.2.length))))
theorem cT_succ (p : PlanT) (o : OrdT) (T : TabT) (c : Int) (ph t : Nat) : cT p o T c ph (t + 1) = cT p o T c ph t ++ (dpE p o T c ph t).toList := by
  unfold cT
  rw [List.range_succ, List.filterMap_append]
  cases h : dpE p o T c ph t <;> simp [h]
theorem cC_succ (p : PlanT) (o : OrdT) (T : TabT) (k : Nat) : cC p o T (k + 1) = cC p o T k ++ cP p o T (k : Int) := by
  unfold cC
  rw [List.range_succ, List.flatMap_append]; simp
theorem addsD_append (L : FdT) (l m : List DepT) : addsD L (l ++ m) = addsD (addsD L l) m := List.foldl_append ..
theorem deps_mem {p : PlanT} {o : OrdT} {T : TabT} {d : DepT} (h : d ∈ depsL p o T) : ∃ c : Nat, c < 2 * p.2.length ∧ d ∈ cP p o T (c : Int) := by
  unfold depsL at h
  rw [(sortD_perm _).mem_iff, addsD_mem] at h
  rcases h with h | h
  · cases h
  · unfold cC at h
    obtain ⟨c, h1, h2⟩ := List.mem_flatMap.1 h
    exact ⟨c, List.mem_range.1 h1, h2⟩
theorem cT_len (p : PlanT) (o : OrdT) (T : TabT) (c : Int) (ph t : Nat) : (cT p o T c ph t).length ≤ t := by
  unfold cT
  refine Nat.le_trans (List.length_filterMap_le _ _) ?_
  simp
theorem cP_len (p : PlanT) (o : OrdT) (T : TabT) (c : Int) : (cP p o T c).length ≤ 2 * p.1.length := by
  unfold cP
  split
  · simp
  · split
    · simp
    · rw [List.length_append]
      have h1 := cT_len p o T c 0 p.1.length
      have h2 := cT_len p o T c 1 p.1.length
      omega
theorem cC_len (p : PlanT) (o : OrdT) (T : TabT) : ∀ k : Nat, (cC p o T k).length ≤ k * (2 * p.1.length)
  | 0 => by simp [cC]
  | k + 1 => by
    rw [cC_succ, List.length_append]
    have h1 := cC_len p o T k
    have h2 := cP_len p o T (k : Int)
    rw [Nat.add_mul]; omega
theorem ends_in {p : PlanT} (hE : EndsOk p.2 p.1.length) {c : Int} (h0 : 0 ≤ c) (h1 : c < 2 * (p.2.length : Int)) : (0 ≤ (endsF p c).1 ∧ (endsF p c).1 < (p.1.length : Int)) ∧ (0 ≤ (endsF p c).2.1 ∧ (endsF p c).2.1 < (p.1.length : Int)) ∧ (endsF p c).1 ≠ (endsF p c).2.1 := by
  have h2 := hE _ (getD_mem (show (c / 2).toNat < p.2.length by omega))
  unfold endsF
  split
  · exact h2
  · exact ⟨h2.2.1, h2.1, fun e => h2.2.2 e.symm⟩
/-- What an entry that is a cable says. -/
theorem okE_lt {p : PlanT} {L : List Int} {k t ph : Nat} {e : Int} (h : okE p L k t ph e) (h0 : 0 ≤ e) : e < (p.2.length : Int) ∧ (acF (p.2.getD e.toNat z6) (k : Int)).2.1 = true ∧ (ph = 1 → (aboveF (L, ()) (acF (p.2.getD e.toNat z6) (k : Int)).1 (k : Int)).1 = false) := by
  rcases h with ⟨_, h⟩ | ⟨_, h | ⟨i, h1, rfl, h2, h3⟩⟩
  · omega
  · omega
  · exact ⟨by omega, h2, h3⟩
def cPf (p : PlanT) (o : OrdT) (T : TabT) (c : Int) : Nat → List DepT
  | 0 => []
  | 1 => cT p o T c 0 p.1.length
  | _ => cT p o T c 0 p.1.length ++ cT p o T c 1 p.1.length
section
variable {p : PlanT} {o : OrdT} {T : TabT} {c : Int} {ph a t : Nat}
theorem cP_neg1 (h : lat o.1 (endsF p c).1 < 0) : cP p o T c = [] := if_pos h
theorem cP_neg2 (h : lat o.1 (endsF p c).2.1 < 0) : cP p o T c = [] := by
  unfold cP
  by_cases h1 : lat o.1 (endsF p c).1 < 0
  · rw [if_pos h1]
  · rw [if_neg h1, if_pos h]
theorem cP_all (h1 : ¬ lat o.1 (endsF p c).1 < 0) (h2 : ¬ lat o.1 (endsF p c).2.1 < 0) : cP p o T c = cPf p o T c 2 := by unfold cP; rw [if_neg h1, if_neg h2]; rfl
theorem aft_up (h : (aboveF o (endsF p c).2.1 (endsF p c).1).1 = true) : aftI p o c 0 = 0 := by unfold aftI; rw [if_pos rfl, if_pos h]
theorem aft_dn (h : (aboveF o (endsF p c).2.1 (endsF p c).1).1 = false) : aftI p o c 0 = 1 := by unfold aftI; rw [if_pos rfl, if_neg (by rw [h]; decide)]
theorem aft_1 : aftI p o c 1 = 1 := if_neg (by decide)
theorem ct_no1 (h : ¬ (rowT T (endsF p c).1 ph).getD t 0 = c / 2) : cT p o T c ph (t + 1) = cT p o T c ph t := by
  rw [cT_succ]; unfold dpE; rw [if_neg h]; simp
theorem ct_no2 (ha : aftI p o c ph = a) (h : ¬ 0 ≤ (rowT T (endsF p c).2.1 a).getD t 0) : cT p o T c ph (t + 1) = cT p o T c ph t := by
  subst ha
  rw [cT_succ]; unfold dpE
  by_cases h1 : (rowT T (endsF p c).1 ph).getD t 0 = c / 2
  · rw [if_pos h1, if_neg h]; simp
  · rw [if_neg h1]; simp
theorem ct_yes (ha : aftI p o c ph = a) (h : (rowT T (endsF p c).1 ph).getD t 0 = c / 2) (h2 : 0 ≤ (rowT T (endsF p c).2.1 a).getD t 0) :
    cT p o T c ph (t + 1) = cT p o T c ph t ++ [(c, (leavF p ((rowT T (endsF p c).2.1 a).getD t 0) (endsF p c).2.1).1, (endsF p c).2.1)] := by
  subst ha
  rw [cT_succ]; unfold dpE; rw [if_pos h, if_pos h2]; rfl
end
theorem addsD_snoc (L : FdT) (l m : List DepT) (d : DepT) : addsD L (l ++ (m ++ [d])) = addD (addsD L (l ++ m)) d := by
  rw [← List.append_assoc, addsD_append]; rfl
theorem addsD_snoc3 (L : FdT) (a b m : List DepT) (d : DepT) : addsD L (a ++ (b ++ (m ++ [d]))) = addD (addsD L (a ++ (b ++ m))) d := by
  rw [← List.append_assoc b, addsD_snoc]
theorem leav_in {p : PlanT} {c n : Int} (hc : p.2.length ≤ 32) (h0 : 0 ≤ c) (h1 : c < (p.2.length : Int)) : 0 ≤ (leavF p c n).1 ∧ (leavF p c n).1 < 64 := by
  unfold leavF
  split
  · exact ⟨show (0 : Int) ≤ 2 * c + 0 by omega, show (2 * c + 0 : Int) < 64 by omega⟩
  · exact ⟨show (0 : Int) ≤ 2 * c + 1 by omega, show (2 * c + 1 : Int) < 64 by omega⟩
theorem key3 {a b c : Int} (ha : 0 ≤ a ∧ a < 64) (hb : 0 ≤ b ∧ b < 64) (hc : 0 ≤ c ∧ c < 64) : DepE.keyIn (a, b, c) :=
  ⟨show -9223372036854775808 ≤ a ∧ a ≤ 9223372036854775807 by omega, show -9223372036854775808 ≤ b ∧ b ≤ 9223372036854775807 by omega, show -9223372036854775808 ≤ c ∧ c ≤ 9223372036854775807 by omega⟩
end Go.Proofs.YtcaoldilmnpjoaaGreat
