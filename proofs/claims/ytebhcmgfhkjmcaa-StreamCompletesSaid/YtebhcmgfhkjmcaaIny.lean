/-
  Layer 44: every act keeps the invariant, is not refused, and what it does to the edge (plain).
-/
import Derived.Test.YtebhcmgfhkjmcaaInx
namespace Go.Proofs.Ytebhcmgfhkjmcaa
set_option linter.all false
set_option linter.unusedVariables false
set_option linter.unusedSimpArgs false
set_option linter.unusedSectionVars false
open Go.RowKit Go.Sx

theorem act7_ok {x : WS} (h : Inv x) (a : Int) : (act7 x a).1 = true ∧ Inv (act7 x a).2 ∧ (act7 x a).2.r = x.r ∧ (act7 x a).2.data = x.data ∧ (act7 x a).2.segs = x.segs ∧ (act7 x a).2.acks = x.acks ∧ (act7 x a).2.read = x.read ∧ (act7 x a).2.fin = x.fin ∧ (act7 x a).2.w.closed = x.w.closed ∧
    (act7 x a).2.w.base + (act7 x a).2.w.room = (if 0 < (x.acks.length : Int) then (if x.w.base < (ackAt x a).1 then (ackAt x a).1 + (ackAt x a).2 else if x.w.base = (ackAt x a).1 then max (x.w.base + x.w.room) ((ackAt x a).1 + (ackAt x a).2) else x.w.base + x.w.room) else x.w.base + x.w.room) := by
  unfold act7
  split
  · rename_i hp
    have hlt : (a / 8 % (x.acks.length : Int)).toNat < x.acks.length := by have := modAt_lt (k := a / 8) hp; omega
    obtain ⟨⟨c1, c2⟩, ⟨c3, c4⟩, c5⟩ := h.ack _ hlt
    have c1 : 0 ≤ (ackAt x a).1 := c1
    have c2 : (ackAt x a).1 ≤ x.r.sto.next := c2
    have c3 : 0 ≤ (ackAt x a).2 := c3
    have c4 : (ackAt x a).2 ≤ 1048576 := c4
    have htop := h.ok.top
    have hnx := h.st.nxt
    have e : ackF x.w (ackAt x a).1 (ackAt x a).2 (dnAt x a) = ackM x.w (ackAt x a).1 (ackAt x a).2 (dnAt x a) := by
      unfold ackF
      rw [if_neg (show ¬ (ackAt x a).1 < 0 by omega), if_neg (show ¬ x.w.top < (ackAt x a).1 by omega), if_neg (show ¬ (ackAt x a).2 < 0 by omega), if_neg (show ¬ 1048576 < (ackAt x a).2 by omega)]
      split
      · rename_i hd
        obtain ⟨g1, g2, g3⟩ := c5 hd
        rw [if_neg (by rw [g1]; exact Bool.noConfusion), if_neg (fun hh => hh g3), if_neg (by rw [g2]; exact Bool.noConfusion)]
      · rfl
    obtain ⟨m1, m2, m3, m4, m5, m6, m7, m8, m9⟩ := ackM_ok h.ok (d := dnAt x a) c1 (show (ackAt x a).1 ≤ x.w.top by omega) c3 c4
    rw [e, if_pos m1]
    have hb := h.base
    have hbase := h.ok.base
    have hi := Inv.step h (w := (ackM x.w (ackAt x a).1 (ackAt x a).2 (dnAt x a)).2) (e := []) (ss := []) m2 (by rw [m3]; simp) (by
      rw [m8, h.wd, List.append_nil, List.drop_drop, m7]; congr 1; omega) (by rw [m7]; omega) (by rw [m4]; exact Int.le_refl _) (fun hh => m5.trans hh) (fun hh => m6.trans hh) (fun _ => rfl) (by simp)
    simp only [List.append_nil] at hi
    exact ⟨rfl, hi, rfl, rfl, rfl, rfl, rfl, rfl, m5, m9⟩
  · exact ⟨rfl, h, rfl, rfl, rfl, rfl, rfl, rfl, rfl, rfl⟩

/-- What is said of an act in all laws. -/
structure ActOk (x y : WS) (a : Int) : Prop where
  inv : Inv y
  data : x.data.length ≤ y.data.length ∧ y.data.length ≤ x.data.length + 4
  segs : y.segs = x.segs ∨ ∃ s : Seg, y.segs = x.segs ++ [s] ∧ Part y.data y.w.top s ∧ x.w.base ≤ s.1 ∧ (s.2.1.length : Int) ≤ max (1 + a / 8 % 5) 0 ∧ (0 < s.2.1.length → s.1 + (s.2.1.length : Int) ≤ x.w.base + x.w.room)
  acks : x.acks.length ≤ y.acks.length ∧ y.acks.length ≤ x.acks.length + 1
  closed : y.w.closed = x.w.closed
  edge : y.w.base + y.w.room = (if a % 8 = 7 ∧ 0 < (x.acks.length : Int) then (if x.w.base < (ackAt x a).1 then (ackAt x a).1 + (ackAt x a).2 else if x.w.base = (ackAt x a).1 then max (x.w.base + x.w.room) ((ackAt x a).1 + (ackAt x a).2) else x.w.base + x.w.room) else x.w.base + x.w.room)
  same7 : a % 8 = 7 → y.acks = x.acks ∧ y.segs = x.segs
theorem actF_ok {x : WS} (h : Inv x) {a : Int} (h0 : 0 ≤ a) : (actF x a).1 = true ∧ ActOk x (actF x a).2 a := by
  unfold actF
  have hm := modAt_lt (k := a) (n := 8) (by decide)
  have ne : ∀ {k : Int}, a % 8 = k → k ≠ 7 → ¬ (a % 8 = 7 ∧ 0 < (x.acks.length : Int)) := fun e hk hh => hk (e.symm.trans hh.1)
  split
  · rename_i e
    obtain ⟨k1, k2, k3, k4, k5, k6, k7, k8, k9, k10, k11⟩ := act0_ok h a
    have hd : x.data.length ≤ (act0 x a).2.data.length := by
      have := k2.tk; have := h.tk; have := k2.ok.data
      unfold act0
      (repeat' split) <;> first | exact Nat.le_refl _ | (show x.data.length ≤ (x.data ++ _).length; rw [List.length_append]; omega)
    exact ⟨k1, k2, ⟨hd, k8⟩, .inl k4, by rw [k5]; omega, k11, by rw [if_neg (ne e (by decide)), k9, k10], fun e7 => by omega⟩
  split
  · rename_i e
    obtain ⟨k1, k2, k3, k4, k5, k6, k7, k8, k9, k10, k11⟩ := act1_ok h a
    exact ⟨k1, k2, by rw [k4]; omega, by rw [k4]; exact k11, by rw [k5]; omega, k10, by rw [if_neg (ne e (by decide)), k8, k9], fun e7 => by omega⟩
  split
  · rename_i e
    obtain ⟨k1, k2, k3, k4, k5, k6, k7, k8, k9, k10, k11⟩ := act1_ok h a
    exact ⟨k1, k2, by rw [k4]; omega, by rw [k4]; exact k11, by rw [k5]; omega, k10, by rw [if_neg (ne e (by decide)), k8, k9], fun e7 => by omega⟩
  split
  · rename_i e
    obtain ⟨k1, k2, k3, k4, k5, k6, k7, k8⟩ := act3_ok h a
    exact ⟨k1, k2, by rw [k4]; omega, .inl k5, by rw [k6]; omega, by rw [k3], by rw [if_neg (ne e (by decide)), k3], fun e7 => by omega⟩
  split
  · rename_i e
    obtain ⟨k1, k2, k3, k4, k5, k6, k7, k8⟩ := act3_ok h a
    exact ⟨k1, k2, by rw [k4]; omega, .inl k5, by rw [k6]; omega, by rw [k3], by rw [if_neg (ne e (by decide)), k3], fun e7 => by omega⟩
  split
  · rename_i e
    obtain ⟨k1, k2, k3, k4, k5, k6⟩ := act5_ok h a
    exact ⟨k1, k2, by rw [k4]; omega, .inl k5, by rw [k6]; omega, by rw [k3], by rw [if_neg (ne e (by decide)), k3], fun e7 => by omega⟩
  split
  · rename_i e
    obtain ⟨k1, k2, k3, k4, k5, k6, k7⟩ := act6_ok h
    have hl : (act6 x).2.acks.length = x.acks.length + 1 := by show (x.acks ++ [_]).length = _; rw [List.length_append]; rfl
    exact ⟨k1, k2, by rw [k4]; omega, .inl k5, by omega, by rw [k3], by rw [if_neg (ne e (by decide)), k3], fun e7 => by omega⟩
  · obtain ⟨k1, k2, k3, k4, k5, k6, k7, k8, k9, k10⟩ := act7_ok h a
    have e : a % 8 = 7 := by omega
    refine ⟨k1, k2, by rw [k4]; omega, .inl k5, by rw [k6]; omega, k9, ?_, fun _ => ⟨k6, k5⟩⟩
    rw [k10]
    by_cases hp : 0 < (x.acks.length : Int)
    · rw [if_pos hp, if_pos (show a % 8 = 7 ∧ 0 < (x.acks.length : Int) from ⟨e, hp⟩)]
    · rw [if_neg hp, if_neg (show ¬ (a % 8 = 7 ∧ 0 < (x.acks.length : Int)) from fun hh => hp hh.2)]
def newX (w t v : Int) : WS := ⟨newW w t, ⟨newS v, v⟩, [], [], [], [], [], false⟩
theorem newX_inv {w t v : Int} (h1 : 1 ≤ w) (h2 : w ≤ 1048576) (h3 : 1 ≤ t) (h4 : t ≤ 1000) (h5 : 1 ≤ v) (h6 : v ≤ 1048576) : Inv (newX w t v) := by
  refine ⟨⟨⟨h1, h2⟩, ⟨h3, h4⟩, Int.le_refl _, rfl, ?_, ?_, ⟨Int.le_refl _, Int.le_refl _⟩, ⟨Int.le_refl _, Int.le_refl _⟩, ⟨?_, h2⟩, Int.le_refl _, ?_⟩, rfl, rfl, Int.le_refl _, fun s hs => (by cases hs), ⟨⟨h5, h6⟩, ⟨Int.le_refl _, Int.le_refl _⟩, ⟨?_, Int.le_refl _⟩, List.nodup_nil, fun p hp => (by cases hp), fun p hp => (by cases hp), fun k k1 k2 => ?_⟩, rfl, fun hk => (by cases hk), rfl, rfl, fun i hi => absurd hi (Nat.not_lt_zero i)⟩
  · show (0 : Int) - 0 ≤ w; omega
  · show (0 : Int) ≤ 1048576; omega
  · show (0 : Int) ≤ w; omega
  · show (0 : Int) < t; omega
  · show (0 : Int) ≤ 0 + v; omega
  · have k1 : (0 : Int) ≤ k := k1
    have k2 : k < 0 := k2
    omega
end Go.Proofs.Ytebhcmgfhkjmcaa
