/-
  Part Own31 of the proof.
-/
import Derived.Test.YtcaoldilmnpjoaaGreatOwn9
import Derived.Test.YtcaoldilmnpjoaaGreatOwn18
import Derived.Test.YtcaoldilmnpjoaaGreatOwn25
import Derived.Test.YtcaoldilmnpjoaaGreatEng3
import Derived.Test.YtcaoldilmnpjoaaGreatOwn5
namespace Go.Proofs.YtcaoldilmnpjoaaGreat
set_option linter.all false
open Go.RowKit Go.Sx
structure DpP (p : a8) (o : ab) (T : dw) : Prop where
 lv : LvP p o
 tb : TbOk p o.1 T
theorem DpP.rt {p : a8} {o : ab} {T : dw} (h : DpP p o T) : RtP p T := ⟨h.lv.pl, h.lv.ok, o.1, h.tb⟩
abbrev zR : List Int × List Int := ([], [])
def j1 (T : dw) (k : Int) (ph : Nat) : List Int := if ph = 0 then (T.1.getD k.toNat zR).1 else (T.1.getD k.toNat zR).2
def gk (p : a8) (o : ab) (c : Int) (ph : Nat) : Nat := if ph = 0 then (if (ae o (aM p c).2.1 (aM p c).1).1 = true then 0 else 1) else 1
def dpE (p : a8) (o : ab) (T : dw) (c : Int) (ph to : Nat) : Option aT :=
 if (j1 T (aM p c).1 ph).getD to 0 = c / 2 then
  (if 0 ≤ (j1 T (aM p c).2.1 (gk p o c ph)).getD to 0 then some (c, (cG p ((j1 T (aM p c).2.1 (gk p o c ph)).getD to 0) (aM p c).2.1).1, (aM p c).2.1) else none)
 else none
def cT (p : a8) (o : ab) (T : dw) (c : Int) (ph t : Nat) : List aT := (List.range t).filterMap (dpE p o T c ph)
def cP (p : a8) (o : ab) (T : dw) (c : Int) : List aT :=
 if lat o.1 (aM p c).1 < 0 then [] else if lat o.1 (aM p c).2.1 < 0 then [] else cT p o T c 0 p.1.length ++ cT p o T c 1 p.1.length
def cC (p : a8) (o : ab) (T : dw) (k : Nat) : List aT := (List.range k).flatMap fun c : Nat => cP p o T (c : Int)
def qX (p : a8) (o : ab) (T : dw) : List aT := fD (bS (al [] (cC p o T (2 * p.2.length))))
theorem tw (p : a8) (o : ab) (T : dw) (c : Int) (ph t : Nat) : cT p o T c ph (t + 1) = cT p o T c ph t ++ (dpE p o T c ph t).toList := by
 unfold cT
 rw [List.range_succ, List.filterMap_append]
 cases h : dpE p o T c ph t <;> simp [h]
theorem oi (p : a8) (o : ab) (T : dw) (k : Nat) : cC p o T (k + 1) = cC p o T k ++ cP p o T (k : Int) := by
 unfold cC
 rw [List.range_succ, List.flatMap_append]; simp
theorem uB (L : FdT) (l m : List aT) : al L (l ++ m) = al (al L l) m := List.foldl_append ..
theorem vk {p : a8} {o : ab} {T : dw} {d : aT} (h : d ∈ qX p o T) : ∃ c : Nat, c < 2 * p.2.length ∧ d ∈ cP p o T (c : Int) := by
 unfold qX at h
 rw [(e7 _).mem_iff, jv] at h
 rcases h with h | h
 · cases h
 · unfold cC at h
   obtain ⟨c, h1, h2⟩ := List.mem_flatMap.1 h
   exact ⟨c, List.mem_range.1 h1, h2⟩
theorem C5 (p : a8) (o : ab) (T : dw) (c : Int) (ph t : Nat) : (cT p o T c ph t).length ≤ t := by
 unfold cT
 refine Nat.le_trans (List.length_filterMap_le _ _) ?_
 simp
theorem cP_len (p : a8) (o : ab) (T : dw) (c : Int) : (cP p o T c).length ≤ 2 * p.1.length := by
 unfold cP
 split
 · simp
 · split
   · simp
   · rw [List.length_append]
     have h1 := C5 p o T c 0 p.1.length
     have h2 := C5 p o T c 1 p.1.length
     omega
theorem xN (p : a8) (o : ab) (T : dw) : ∀ k : Nat, (cC p o T k).length ≤ k * (2 * p.1.length)
 | 0 => by simp [cC]
 | k + 1 => by
   rw [oi, List.length_append]
   have h1 := xN p o T k
   have h2 := cP_len p o T (k : Int)
   rw [Nat.add_mul]; omega
theorem jm {p : a8} (hE : bd p.2 p.1.length) {c : Int} (h0 : 0 ≤ c) (h1 : c < 2 * (p.2.length : Int)) : (0 ≤ (aM p c).1 ∧ (aM p c).1 < (p.1.length : Int)) ∧ (0 ≤ (aM p c).2.1 ∧ (aM p c).2.1 < (p.1.length : Int)) ∧ (aM p c).1 ≠ (aM p c).2.1 := by
 have h2 := hE _ (eU (show (c / 2).toNat < p.2.length by omega))
 unfold aM
 split
 · exact h2
 · exact ⟨h2.2.1, h2.1, fun e => h2.2.2 e.symm⟩
theorem pT {p : a8} {L : List Int} {k t ph : Nat} {e : Int} (h : okE p L k t ph e) (h0 : 0 ≤ e) : e < (p.2.length : Int) ∧ (acF (p.2.getD e.toNat z6) (k : Int)).2.1 = true ∧ (ph = 1 → (ae (L, ()) (acF (p.2.getD e.toNat z6) (k : Int)).1 (k : Int)).1 = false) := by
 rcases h with ⟨_, h⟩ | ⟨_, h | ⟨i, h1, rfl, h2, h3⟩⟩
 · omega
 · omega
 · exact ⟨by omega, h2, h3⟩
def cPf (p : a8) (o : ab) (T : dw) (c : Int) : Nat → List aT
 | 0 => []
 | 1 => cT p o T c 0 p.1.length
 | _ => cT p o T c 0 p.1.length ++ cT p o T c 1 p.1.length
section
variable {p : a8} {o : ab} {T : dw} {c : Int} {ph a t : Nat}
theorem cP_neg1 (h : lat o.1 (aM p c).1 < 0) : cP p o T c = [] := if_pos h
theorem cP_neg2 (h : lat o.1 (aM p c).2.1 < 0) : cP p o T c = [] := by
 unfold cP
 by_cases h1 : lat o.1 (aM p c).1 < 0
 · rw [if_pos h1]
 · rw [if_neg h1, if_pos h]
theorem cP_all (h1 : ¬ lat o.1 (aM p c).1 < 0) (h2 : ¬ lat o.1 (aM p c).2.1 < 0) : cP p o T c = cPf p o T c 2 := by unfold cP; rw [if_neg h1, if_neg h2]; rfl
theorem aft_up (h : (ae o (aM p c).2.1 (aM p c).1).1 = true) : gk p o c 0 = 0 := by unfold gk; rw [if_pos rfl, if_pos h]
theorem aft_dn (h : (ae o (aM p c).2.1 (aM p c).1).1 = false) : gk p o c 0 = 1 := by unfold gk; rw [if_pos rfl, if_neg (by rw [h]; decide)]
theorem aft_1 : gk p o c 1 = 1 := if_neg (by decide)
theorem xG (h : ¬ (j1 T (aM p c).1 ph).getD t 0 = c / 2) : cT p o T c ph (t + 1) = cT p o T c ph t := by
 rw [tw]; unfold dpE; rw [if_neg h]; simp
theorem xF (ha : gk p o c ph = a) (h : ¬ 0 ≤ (j1 T (aM p c).2.1 a).getD t 0) : cT p o T c ph (t + 1) = cT p o T c ph t := by
 subst ha
 rw [tw]; unfold dpE
 by_cases h1 : (j1 T (aM p c).1 ph).getD t 0 = c / 2
 · rw [if_pos h1, if_neg h]; simp
 · rw [if_neg h1]; simp
theorem xE (ha : gk p o c ph = a) (h : (j1 T (aM p c).1 ph).getD t 0 = c / 2) (h2 : 0 ≤ (j1 T (aM p c).2.1 a).getD t 0) :
 cT p o T c ph (t + 1) = cT p o T c ph t ++ [(c, (cG p ((j1 T (aM p c).2.1 a).getD t 0) (aM p c).2.1).1, (aM p c).2.1)] := by
 subst ha
 rw [tw]; unfold dpE; rw [if_pos h, if_pos h2]; rfl
end
theorem xR (L : FdT) (l m : List aT) (d : aT) : al L (l ++ (m ++ [d])) = mW (al L (l ++ m)) d := by
 rw [← List.append_assoc, uB]; rfl
theorem de (L : FdT) (a b m : List aT) (d : aT) : al L (a ++ (b ++ (m ++ [d]))) = mW (al L (a ++ (b ++ m))) d := by
 rw [← List.append_assoc b, xR]
theorem tO {p : a8} {c n : Int} (hc : p.2.length ≤ 32) (h0 : 0 ≤ c) (h1 : c < (p.2.length : Int)) : 0 ≤ (cG p c n).1 ∧ (cG p c n).1 < 64 := by
 unfold cG
 split
 · exact ⟨show (0 : Int) ≤ 2 * c + 0 by omega, show (2 * c + 0 : Int) < 64 by omega⟩
 · exact ⟨show (0 : Int) ≤ 2 * c + 1 by omega, show (2 * c + 1 : Int) < 64 by omega⟩
theorem key3 {a b c : Int} (ha : 0 ≤ a ∧ a < 64) (hb : 0 ≤ b ∧ b < 64) (hc : 0 ≤ c ∧ c < 64) : br.bW (a, b, c) :=
 ⟨show -9223372036854775808 ≤ a ∧ a ≤ 9223372036854775807 by omega, show -9223372036854775808 ≤ b ∧ b ≤ 9223372036854775807 by omega, show -9223372036854775808 ≤ c ∧ c ≤ 9223372036854775807 by omega⟩
set_option maxRecDepth 100000
set_option maxHeartbeats 16000000
end Go.Proofs.YtcaoldilmnpjoaaGreat
