/-
  What a Put does (plain).
-/
import Derived.Test.YtgdiepbjdpmfbaaSem
namespace Go.Proofs.Ytgdiepbjdpmfbaa
set_option linter.all false
set_option linter.unusedVariables false
set_option linter.unusedSimpArgs false
set_option linter.unusedSectionVars false
open Go.RowKit Go.Sx

/-- What a Put does: n, e its results, T the store behind it. -/
structure PutFs (S T : Sto) (n e : Int) (o : Int) (d : List Int) (l : Bool) : Prop where
  ok : StO T
  err : ¬ e = 0 → n = 0 ∧ T = S
  rng : 0 ≤ n ∧ n ≤ 1048576
  held : e = 0 → (T.kept.length : Int) = S.kept.length + n
  fin : S.known = true → T.known = true ∧ T.fin = S.fin
  last : e = 0 → l = true → T.known = true ∧ T.fin = o + (d.length : Int)
  off : e = 0 → 0 ≤ o ∧ o ≤ 1099511627776 ∧ T.off = S.off
  bad : e = 0 → T.off < T.next → 0 ≤ T.off - o → T.off - o < (d.length : Int) → ∀ v, ¬ v = d.getD (T.off - o).toNat 0 → putF T o (d.set (T.off - o).toNat v) false = ((0, 3, ()), T)
theorem putI_grow (K : List KV) (a v : Int) : K.length ≤ (putI K a v).length := by
  induction K with
  | nil => exact Nat.zero_le _
  | cons q K ih => simp only [putI, putA] at ih ⊢; split <;> simp only [List.length_cons] <;> omega
theorem ins_grow {d : List Int} {o : Int} : ∀ (n : Nat) (K : List KV) (a : Int), K.length ≤ (ins d o K a n).length
  | 0, K, a => Nat.le_refl _
  | n + 1, K, a => Nat.le_trans (putI_grow K a _) (ins_grow n _ _)
theorem put_fs {S : Sto} (hS : StO S) {o : Int} {d : List Int} (l : Bool) (hd : ∀ x ∈ d, 0 ≤ x ∧ x < 256) (hl : d.length ≤ 1048576) : PutFs S (putF S o d l).2 (putF S o d l).1.1 (putF S o d l).1.2.1 o d l := by
  have h1 := put_sto hS l hd hl (o := o)
  have n2 : ¬ (2 : Int) = 0 := by decide
  have n3 : ¬ (3 : Int) = 0 := by decide
  rcases put_cases S o d l with ⟨_, e⟩ | ⟨_, _, e⟩ | h
  · rw [e]
    exact ⟨hS, fun _ => ⟨rfl, rfl⟩, ⟨Int.le_refl _, by show (0 : Int) ≤ 1048576; decide⟩, fun h => absurd h n2, fun h => ⟨h, rfl⟩, fun h => absurd h n2, fun h => absurd h n2, fun h => absurd h n2⟩
  · rw [e]
    exact ⟨hS, fun _ => ⟨rfl, rfl⟩, ⟨Int.le_refl _, by show (0 : Int) ≤ 1048576; decide⟩, fun h => absurd h n3, fun h => ⟨h, rfl⟩, fun h => absurd h n3, fun h => absurd h n3, fun h => absurd h n3⟩
  rw [put_ok_eq h] at h1 ⊢
  have hlen := h1.len
  have hwin := h1.win
  have hg := ins_grow (d := d) (o := o) (pN S o d) S.kept (pFr S o)
  have hm := h.mis
  refine ⟨h1, fun hh => absurd rfl hh, ⟨?_, ?_⟩, fun _ => ?_, fun hk => ?_, fun _ hl => ?_, fun _ => ⟨h.o0, h.o1, rfl⟩, fun _ k1 k2 k3 v hv => ?_⟩
  · show (0 : Int) ≤ (putK S o d).length - S.kept.length
    have hg : S.kept.length ≤ (putK S o d).length := hg
    omega
  · show ((putK S o d).length : Int) - S.kept.length ≤ 1048576
    have e1 : ((putK S o d).length : Int) ≤ S.win := hlen
    have e2 : S.win ≤ 1048576 := hwin.2
    omega
  · show ((putK S o d).length : Int) = S.kept.length + ((putK S o d).length - S.kept.length)
    omega
  · cases l
    · exact ⟨hk, rfl⟩
    · refine ⟨rfl, ?_⟩
      unfold Go.Proofs.Ytgdiepbjdpmfbaa.mis at hm
      rw [if_pos hk] at hm
      split at hm
      · cases hm
      · have : o + (d.length : Int) = S.fin := by simpa using hm
        exact this
  · subst hl
    exact ⟨rfl, rfl⟩
  · have k1 : (putS S o d l).off < (putS S o d l).next := k1
    have k2 : 0 ≤ (putS S o d l).off - o := k2
    have k3 : (putS S o d l).off - o < (d.length : Int) := k3
    have hv : ¬ v = d.getD ((putS S o d l).off - o).toNat 0 := hv
    show putF (putS S o d l) o (d.set ((putS S o d l).off - o).toNat v) false = ((0, 3, ()), putS S o d l)
    generalize hT : putS S o d l = T at *
    have hTo : T.off = S.off := by rw [← hT]
    have hTw : T.win = S.win := by rw [← hT]
    have hTk : T.kept = putK S o d := by rw [← hT]
    have w0 := hS.win
    have hlen2 : (d.set (T.off - o).toNat v).length = d.length := List.length_set
    have hb : (T.off - o).toNat < d.length := by omega
    have hget : getI T.kept T.off = some (d.getD (T.off - o).toNat 0) := by
      rw [hTk, get_put, hTo, if_pos]
      dsimp only [pFr, pTo]
      omega
    have hbad : ¬ PutOk T o (d.set (T.off - o).toNat v) false := by
      intro hp
      have := confl_no2 hp.confl (k := T.off) (v := d.getD (T.off - o).toNat 0) (by dsimp only [pFr]; omega) (by dsimp only [pTo]; rw [hlen2]; omega) hget
      apply hv
      rw [this, List.getD_eq_getElem?_getD, List.getElem?_set_self hb]
      rfl
    rcases put_cases T o (d.set (T.off - o).toNat v) false with ⟨hn, _⟩ | ⟨_, _, e⟩ | hp
    · exact absurd ⟨h.o0, h.o1⟩ hn
    · exact e
    · exact absurd hp hbad
end Go.Proofs.Ytgdiepbjdpmfbaa
