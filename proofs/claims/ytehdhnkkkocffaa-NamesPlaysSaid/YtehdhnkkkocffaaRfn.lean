/-
  Layer 40: the reference's Names.
-/
import Derived.Test.YtehdhnkkkocffaaAgr
namespace Go.Proofs.Ytehdhnkkkocffaa
set_option linter.all false
set_option linter.unusedVariables false
set_option linter.unusedSimpArgs false
set_option linter.unusedSectionVars false
open Go.RowKit Go.Sx
set_option maxRecDepth 100000
set_option maxHeartbeats 16000000
abbrev leU (a b : List Int) : Prop := u8s a ≤ u8s b
abbrev lvR (t : Int) (e : RE) : Bool := e.2.2.1 && decide (t < e.2.2.2.2.2.2)
def liveR (t : Int) (l : RL) : SL := (l.filter (lvR t)).map Prod.fst
theorem liveR_app (t : Int) (a b : RL) : liveR t (a ++ b) = liveR t a ++ liveR t b := by simp [liveR]
theorem liveR_dir (t : Int) : ∀ D : DirL, liveR t (dirR D) = liveK t D
  | [] => rfl
  | p :: D => by
    have ih := liveR_dir t D
    unfold liveR liveK at ih ⊢
    show ((toR p :: dirR D).filter (lvR t)).map Prod.fst = _
    rw [List.filter_cons, List.filter_cons]
    show (if (p.2.2.1 && decide (t < p.2.2.2.2)) = true then _ else _ : List RE).map _ = (if (p.2.2.1 && decide (t < p.2.2.2.2)) = true then _ else _ : DirL).map _
    by_cases c : (p.2.2.1 && decide (t < p.2.2.2.2)) = true
    · rw [if_pos c, if_pos c]; exact congrArg (p.1 :: ·) ih
    · rw [if_neg c, if_neg c]; exact ih
theorem asc_sort {Q M : SL} (h : Q.Pairwise leU) (hp : Q.Perm M) (hb : ∀ x ∈ Q, inBytes x) : Q = sortS M := by
  rw [← sortS_congr hp hb]
  refine List.Perm.eq_of_pairwise (le := leU) (fun a b ha hb2 h1 h2 => ?_) h (sortS_asc Q) (sortS_perm Q).symm
  exact u8s_inj (hb a ha) (hb b ((sortS_perm Q).subset hb2)) (List.le_antisymm h1 h2)
/-- An insertion: the row is A ++ y :: B, all but y in order, y below all of B. -/
structure LIn (R : SL) where
  Q : SL
  k : Int
  A : SL
  y : List Int
  B : SL
  eq : Q = A ++ y :: B
  len : (A.length : Int) = k
  asc : (A ++ B).Pairwise leU
  low : ∀ b ∈ B, leU y b
  perm : Q.Perm R
theorem LIn.qlen {R : SL} (x : LIn R) : x.Q.length = R.length := x.perm.length_eq
theorem LIn.bnd {R : SL} (x : LIn R) : 0 ≤ x.k ∧ x.k < (R.length : Int) := by
  have h1 := x.len; have h2 := x.qlen; rw [x.eq] at h2
  simp only [List.length_append, List.length_cons] at h2
  omega
theorem LIn.byt {R : SL} (x : LIn R) (hb : ∀ y ∈ R, inBytes y) : ∀ y ∈ x.Q, inBytes y := fun y hy => hb y (x.perm.subset hy)
theorem LIn.new {R : SL} {n : List Int} (h : R.Pairwise leU) : ∃ x : LIn (R ++ [n]), x.Q = R ++ [n] ∧ x.k = R.length :=
  ⟨⟨R ++ [n], R.length, R, n, [], rfl, rfl, by simpa using h, fun b hb => (by cases hb), .refl _⟩, rfl, rfl⟩
theorem LIn.top {R : SL} (x : LIn R) (h : ¬ 0 < x.k) : x.Q.Pairwise leU := by
  have h1 := x.len
  have hA : x.A = [] := List.length_eq_zero_iff.1 (by omega)
  have h2 := x.asc
  rw [x.eq, hA] at *
  exact List.pairwise_cons.2 ⟨x.low, by simpa [hA] using h2⟩
theorem leU_of {a b : List Int} (h : ¬ u8s a < u8s b) : leU b a := List.not_lt.1 h
theorem leU_lt {a b : List Int} (h : u8s a < u8s b) : leU a b := List.le_of_lt h
theorem leU_tr {a b c : List Int} (h : leU a b) (h2 : leU b c) : leU a c := List.le_trans h h2
theorem at_last {A C : SL} {z y : List Int} {k : Nat} (h : (A ++ [z]).length = k) : ((A ++ [z]) ++ y :: C).getD k [] = y ∧ ((A ++ [z]) ++ y :: C).getD (k - 1) [] = z := by
  have e : (A ++ [z]).length = A.length + 1 := by simp
  constructor
  · rw [List.getD_eq_getElem?_getD, List.getElem?_append_right (by omega), h, Nat.sub_self]; rfl
  · rw [List.getD_eq_getElem?_getD, List.getElem?_append_left (by omega), List.getElem?_append_right (by omega), show k - 1 - A.length = 0 by omega]; rfl
theorem snoc_of {A : SL} (h : A ≠ []) : ∃ A' z, A = A' ++ [z] := ⟨A.dropLast, A.getLast h, (List.dropLast_concat_getLast h).symm⟩
theorem LIn.split {R : SL} (x : LIn R) (h : 0 < x.k) : ∃ A' z, x.A = A' ++ [z] ∧ x.Q.getD x.k.toNat [] = x.y ∧ x.Q.getD (x.k - 1).toNat [] = z := by
  have h1 := x.len
  obtain ⟨A', z, hA⟩ := snoc_of (A := x.A) (fun e => by rw [e] at h1; simp at h1; omega)
  have h2 := at_last (C := x.B) (y := x.y) (A := A') (z := z) (k := x.k.toNat) (by rw [← hA]; omega)
  rw [← hA, ← x.eq] at h2
  refine ⟨A', z, hA, h2.1, ?_⟩
  rw [show (x.k - 1).toNat = x.k.toNat - 1 by omega]; exact h2.2
theorem LIn.stop {R : SL} (x : LIn R) (h : 0 < x.k) (hl : ¬ u8s (x.Q.getD x.k.toNat []) < u8s (x.Q.getD (x.k - 1).toNat [])) : x.Q.Pairwise leU := by
  obtain ⟨A', z, hA, h1, h2⟩ := x.split h
  rw [h1, h2] at hl
  have hl := leU_of hl
  have ha := x.asc
  rw [hA] at ha
  obtain ⟨p1, p2, p3⟩ := List.pairwise_append.1 ha
  rw [x.eq, hA]
  refine List.pairwise_append.2 ⟨p1, List.pairwise_cons.2 ⟨x.low, p2⟩, fun a hm b hb => ?_⟩
  rcases List.mem_cons.1 hb with rfl | hb
  · rcases List.mem_append.1 hm with hm | hm
    · exact leU_tr ((List.pairwise_append.1 p1).2.2 a hm z (List.mem_singleton.2 rfl)) hl
    · rw [List.mem_singleton.1 hm]; exact hl
  · exact p3 a hm b hb
theorem LIn.step {R : SL} (x : LIn R) (h : 0 < x.k) (hl : u8s (x.Q.getD x.k.toNat []) < u8s (x.Q.getD (x.k - 1).toNat [])) :
    ∃ y : LIn R, y.k = x.k - 1 ∧ y.Q = (x.Q.set x.k.toNat (x.Q.getD (x.k - 1).toNat [])).set (x.k - 1).toNat (x.Q.getD x.k.toNat []) := by
  obtain ⟨A', z, hA, h1, h2⟩ := x.split h
  rw [h1, h2] at hl ⊢
  have hn := x.len
  rw [hA] at hn
  simp only [List.length_append, List.length_cons, List.length_nil] at hn
  have ha := x.asc
  rw [hA, List.append_assoc] at ha
  have hs : (x.Q.set x.k.toNat z).set (x.k - 1).toNat x.y = A' ++ x.y :: z :: x.B := by
    rw [x.eq, hA, show x.k.toNat = A'.length + 1 by omega, show (x.k - 1).toNat = A'.length by omega, List.append_assoc]
    rw [List.set_append_right _ _ (by omega), show A'.length + 1 - A'.length = 1 by omega, List.set_append_right _ _ (Nat.le_refl _), Nat.sub_self]
    rfl
  refine ⟨⟨A' ++ x.y :: z :: x.B, x.k - 1, A', x.y, z :: x.B, rfl, by omega, ha, fun b hb => ?_, ?_⟩, rfl, hs.symm⟩
  · rcases List.mem_cons.1 hb with rfl | hb
    · exact leU_lt hl
    · exact x.low b hb
  · refine List.Perm.trans ?_ x.perm
    rw [x.eq, hA, List.append_assoc]
    exact List.Perm.append_left _ (List.Perm.swap _ _ _)
structure LNr (l : RL) (t : Int) where
  i : Int
  R : SL
  lo : 0 ≤ i
  hi : i ≤ l.length
  asc : R.Pairwise leU
  perm : R.Perm (liveR t (l.take i.toNat))
theorem take_one (l : RL) {i : Int} (h0 : 0 ≤ i) (h : i < (l.length : Int)) : l.take (i + 1).toNat = l.take i.toNat ++ [l.getD i.toNat re0] := by
  have hlt : i.toNat < l.length := by omega
  rw [show (i + 1).toNat = i.toNat + 1 by omega, List.take_add_one, List.getD_eq_getElem?_getD, List.getElem?_eq_getElem hlt]; rfl
theorem liveR_one {t : Int} {e : RE} (h1 : e.2.2.1 = true) (h2 : t < e.2.2.2.2.2.2) : liveR t [e] = [e.1] := by
  unfold liveR; rw [List.filter_cons, if_pos (by rw [lvR, h1, decide_eq_true h2]; rfl)]; rfl
theorem liveR_no {t : Int} {e : RE} (h : ¬ (e.2.2.1 = true ∧ t < e.2.2.2.2.2.2)) : liveR t [e] = [] := by
  unfold liveR; rw [List.filter_cons, if_neg (by simpa using h)]; rfl
theorem LNr.dead {l : RL} {t : Int} (x : LNr l t) (h : x.i < (l.length : Int)) (hd : ¬ ((l.getD x.i.toNat re0).2.2.1 = true ∧ t < (l.getD x.i.toNat re0).2.2.2.2.2.2)) : ∃ y : LNr l t, y.i = x.i + 1 ∧ y.R = x.R :=
  ⟨⟨x.i + 1, x.R, by have := x.lo; omega, by omega, x.asc, by rw [take_one l x.lo h, liveR_app, liveR_no hd, List.append_nil]; exact x.perm⟩, rfl, rfl⟩
theorem LNr.dead1 {l : RL} {t : Int} (x : LNr l t) (h : x.i < (l.length : Int)) (hd : (l.getD x.i.toNat re0).2.2.1 = false) : ∃ y : LNr l t, y.i = x.i + 1 ∧ y.R = x.R := x.dead h (fun e => by rw [hd] at e; cases e.1)
theorem LNr.dead2 {l : RL} {t : Int} (x : LNr l t) (h : x.i < (l.length : Int)) (hd : ¬ t < (l.getD x.i.toNat re0).2.2.2.2.2.2) : ∃ y : LNr l t, y.i = x.i + 1 ∧ y.R = x.R := x.dead h (fun e => hd e.2)
theorem LNr.live {l : RL} {t : Int} (x : LNr l t) (h : x.i < (l.length : Int)) (h1 : (l.getD x.i.toNat re0).2.2.1 = true) (h2 : t < (l.getD x.i.toNat re0).2.2.2.2.2.2) {Q : SL} (hq : Q.Pairwise leU) (hp : Q.Perm (x.R ++ [(l.getD x.i.toNat re0).1])) : ∃ y : LNr l t, y.i = x.i + 1 ∧ y.R = Q :=
  ⟨⟨x.i + 1, Q, by have := x.lo; omega, by omega, hq, by rw [take_one l x.lo h, liveR_app, liveR_one h1 h2]; exact hp.trans (List.Perm.append_right _ x.perm)⟩, rfl, rfl⟩
theorem liveR_mem {l : RL} {t : Int} {n : List Int} (h : n ∈ liveR t l) : ∃ e ∈ l, e.1 = n := by
  obtain ⟨e, he, rfl⟩ := List.mem_map.1 h
  exact ⟨e, (List.mem_filter.1 he).1, rfl⟩
theorem LNr.byt {l : RL} {t : Int} (x : LNr l t) (hl : OkR l) : ∀ y ∈ x.R, inBytes y := fun y hy => by
  obtain ⟨e, he, rfl⟩ := liveR_mem (x.perm.subset hy)
  exact hl.byt e (List.mem_of_mem_take he)
theorem LNr.sz {l : RL} {t : Int} (x : LNr l t) : (x.R.length : Int) ≤ x.i := by
  have h := x.perm.length_eq
  have h2 : (liveR t (l.take x.i.toNat)).length ≤ (l.take x.i.toNat).length := by unfold liveR; rw [List.length_map]; exact List.length_filter_le _ _
  rw [List.length_take] at h2
  have := x.lo; omega
theorem LNr.done {l : RL} {t : Int} (x : LNr l t) (hl : OkR l) (h : ¬ x.i < (l.length : Int)) : x.R = sortS (liveR t l) := by
  have hp := x.perm
  rw [List.take_of_length_le (by have := x.lo; omega)] at hp
  exact asc_sort x.asc hp (x.byt hl)
def rnamesF (l : RL) (t : Int) : Tup [DT.lst .str] := if 0 ≤ t ∧ t ≤ 1073741824 then (sortS (liveR t l), ()) else ([], ())
theorem agr_names (D : DirL) (t : Int) : rnamesF (dirR D) t = namesF D t := by
  unfold rnamesF namesF; rw [liveR_dir]
end Go.Proofs.Ytehdhnkkkocffaa
