/-
  Part Own10 of the proof.
-/
import Derived.Test.YtcaoldilmnpjoaaGreatOwn9
namespace Go.Proofs.YtcaoldilmnpjoaaGreat
set_option linter.all false
open Go.RowKit Go.Sx
set_option maxRecDepth 100000
set_option maxHeartbeats 16000000
structure Lr (n r : Nat) where
 i : Int
 c : Int
 lo : 0 ≤ i
 hi : i ≤ (n : Int)
 ok : c = if (r : Int) < i then 1 else 0
theorem Lr.zero (n r : Nat) : ∃ x : Lr n r, x.i = 0 ∧ x.c = 0 := ⟨⟨0, 0, Int.le_refl _, by omega, by rw [if_neg (by omega)]⟩, rfl, rfl⟩
theorem Lr.hit {n r : Nat} (x : Lr n r) (h : x.i < (n : Int)) (hr : x.i = (r : Int)) : ∃ y : Lr n r, y.i = x.i + 1 ∧ y.c = x.c + 1 := by
 have h0 := x.lo; have h1 := x.ok
 rw [if_neg (by omega)] at h1
 exact ⟨⟨x.i + 1, x.c + 1, by omega, by omega, by rw [if_pos (by omega)]; omega⟩, rfl, rfl⟩
theorem Lr.miss {n r : Nat} (x : Lr n r) (h : x.i < (n : Int)) (hr : ¬ x.i = (r : Int)) : ∃ y : Lr n r, y.i = x.i + 1 ∧ y.c = x.c := by
 have h0 := x.lo; have h1 := x.ok
 refine ⟨⟨x.i + 1, x.c, by omega, by omega, ?_⟩, rfl, rfl⟩
 rw [h1]; split <;> split <;> omega
theorem Lr.c01 {n r : Nat} (x : Lr n r) : 0 ≤ x.c ∧ x.c ≤ 1 := by have := x.ok; split at this <;> omega
theorem xZ.at {C : List aY} {n : Nat} {L : List Int} (h : xZ C n L) {k : Int} (h0 : 0 ≤ k) (h1 : k < (n : Int)) : -1 ≤ lat L k ∧ lat L k < (n : Int) := ⟨h.lo k.toNat (by omega), h.hi k.toNat (by omega)⟩
structure Ll (C : List aY) (n : Nat) (L : List Int) where
 j : Int
 M : List Bool
 lo : 0 ≤ j
 hi : j ≤ (C.length : Int)
 len : M.length = n
 ok : ∀ k : Nat, (k : Int) < j → (lat L (C.getD k z6).1 = lat L (C.getD k z6).2.2.1 - 1 → M.getD (C.getD k z6).2.2.1.toNat false = true) ∧ (lat L (C.getD k z6).2.2.1 = lat L (C.getD k z6).1 - 1 → M.getD (C.getD k z6).1.toNat false = true)
theorem Ll.zero (C : List aY) (n : Nat) (L : List Int) : ∃ x : Ll C n L, x.j = 0 ∧ x.M = List.replicate n false := ⟨⟨0, List.replicate n false, Int.le_refl _, by omega, by simp, fun k h => by omega⟩, rfl, rfl⟩
theorem lF {M : List Bool} {k j : Nat} (h : M.getD j false = true) : (M.set k true).getD j false = true := by
 rw [List.getD_eq_getElem?_getD] at h ⊢
 rw [List.getElem?_set]
 split
 · rename_i e
   subst e
   split
   · rfl
   · rename_i h2; rw [List.getElem?_eq_none (by omega)] at h; cases h
 · exact h
theorem ud {M : List Bool} {k : Nat} (h : k < M.length) : (M.set k true).getD k false = true := by
 rw [List.getD_eq_getElem?_getD, List.getElem?_set, if_pos rfl, if_pos h]; rfl
theorem Ll.stepB {C : List aY} {n : Nat} {L : List Int} (x : Ll C n L) (h : x.j < (C.length : Int)) (hb : 0 ≤ (C.getD x.j.toNat z6).2.2.1 ∧ (C.getD x.j.toNat z6).2.2.1 < (n : Int)) (h1 : lat L (C.getD x.j.toNat z6).1 = lat L (C.getD x.j.toNat z6).2.2.1 - 1) :
 ∃ y : Ll C n L, y.j = x.j + 1 ∧ y.M = x.M.set (C.getD x.j.toNat z6).2.2.1.toNat true := by
 have h0 := x.lo; have hl := x.len
 refine ⟨⟨x.j + 1, x.M.set (C.getD x.j.toNat z6).2.2.1.toNat true, by omega, by omega, by simpa using hl, fun k hk => ?_⟩, rfl, rfl⟩
 by_cases e : (k : Int) < x.j
 · exact ⟨fun h => lF ((x.ok k e).1 h), fun h => lF ((x.ok k e).2 h)⟩
 · obtain rfl : k = x.j.toNat := by omega
   exact ⟨fun _ => ud (by omega), fun h2 => by omega⟩
theorem Ll.stepA {C : List aY} {n : Nat} {L : List Int} (x : Ll C n L) (h : x.j < (C.length : Int)) (hb : 0 ≤ (C.getD x.j.toNat z6).1 ∧ (C.getD x.j.toNat z6).1 < (n : Int)) (h1 : lat L (C.getD x.j.toNat z6).2.2.1 = lat L (C.getD x.j.toNat z6).1 - 1) :
 ∃ y : Ll C n L, y.j = x.j + 1 ∧ y.M = x.M.set (C.getD x.j.toNat z6).1.toNat true := by
 have h0 := x.lo; have hl := x.len
 refine ⟨⟨x.j + 1, x.M.set (C.getD x.j.toNat z6).1.toNat true, by omega, by omega, by simpa using hl, fun k hk => ?_⟩, rfl, rfl⟩
 by_cases e : (k : Int) < x.j
 · exact ⟨fun h => lF ((x.ok k e).1 h), fun h => lF ((x.ok k e).2 h)⟩
 · obtain rfl : k = x.j.toNat := by omega
   exact ⟨fun h2 => by omega, fun _ => ud (by omega)⟩
theorem Ll.step0 {C : List aY} {n : Nat} {L : List Int} (x : Ll C n L) (h : x.j < (C.length : Int)) (h1 : ¬ lat L (C.getD x.j.toNat z6).1 = lat L (C.getD x.j.toNat z6).2.2.1 - 1) (h2 : ¬ lat L (C.getD x.j.toNat z6).2.2.1 = lat L (C.getD x.j.toNat z6).1 - 1) :
 ∃ y : Ll C n L, y.j = x.j + 1 ∧ y.M = x.M := by
 have h0 := x.lo
 refine ⟨⟨x.j + 1, x.M, by omega, by omega, x.len, fun k hk => ?_⟩, rfl, rfl⟩
 by_cases e : (k : Int) < x.j
 · exact x.ok k e
 · obtain rfl : k = x.j.toNat := by omega
   exact ⟨fun h => absurd h h1, fun h => absurd h h2⟩
theorem Ll.done {C : List aY} {n : Nat} {L : List Int} (x : Ll C n L) (h : ¬ x.j < (C.length : Int)) (hL : xZ C n L) {k : Int} (h0 : 0 ≤ k) (h1 : k < (n : Int)) (h2 : 0 < lat L k) : x.M.getD k.toNat false = true := by
 obtain ⟨u, hu1, ⟨c, hc, hc2⟩, hu3⟩ := hL.led k.toNat (by omega) h2
 obtain ⟨m, hm, rfl⟩ := List.getElem_of_mem hc
 have e : C.getD m z6 = C[m] := by rw [List.getD_eq_getElem?_getD, List.getElem?_eq_getElem hm]; rfl
 have ho := x.ok m (by omega)
 rw [e] at ho
 rcases hc2 with ⟨h3, h4⟩ | ⟨h3, h4⟩
 · rw [h4, h3] at ho
   have := ho.1 (by show L.getD (u : Int).toNat 0 = L.getD ((k.toNat : Nat) : Int).toNat 0 - 1; exact hu3)
   exact this
 · rw [h4, h3] at ho
   have := ho.2 (by show L.getD (u : Int).toNat 0 = L.getD ((k.toNat : Nat) : Int).toNat 0 - 1; exact hu3)
   exact this
structure LvP (p : a8) (o : ab) : Prop where
 pl : wA p
 ok : bh p = 0
 lv : xZ p.2 p.1.length o.1
def aF (p : a8) (o : ab) : Tup [DT.cell .bool] := (true, ())
theorem ivx {α : Type} {M : List α} {n : Nat} {o : Int} (h : M.length = n) (ho : 0 ≤ o ∧ o < (n : Int)) : 0 ≤ o ∧ o < (M.length : Int) := by rw [h]; exact ho
theorem ivs {n : Nat} {v : Int} (hn : n ≤ 16) (h : -1 ≤ v ∧ v < (n : Int)) : b5 (v - 1) := by unfold b5; omega
noncomputable abbrev Eo3 : Env Ab := ⟨tis, [(20, bE.con)] ++ E0.con⟩
theorem eo3Ok : aU Tryz.prog AI Eo3 := (ai.add cR)
def dE : aB := ⟨[.cell bT, .cell iq], fun (x : a8 × ab × Unit) => LvP x.1 x.2.1, [.cell .bool], fun (x : a8 × ab × Unit) => aF x.1 x.2.1⟩
theorem orv_ok (p : a8) (o : ab) (h : dE.pre (p, o, ())) : PTk Tryz.prog AI 36 dE (p, o, ()) := by
 dsimp only [PTk, dE] at h ⊢
 generalize hr : aF p o = r
 obtain ⟨p1, p2⟩ := p; obtain ⟨L, ou⟩ := o; obtain ⟨hP, hok, hL⟩ := h; have hE := bD hok; have hl := hL.len; have hn := hP.n; have hc := hP.c; dsimp only at hL hE hl hn hc
 dsimp only [aF] at hr
 refine Tb eo3Ok mixed (fn := Tryz.f36) ?_
 refine Pr ?_
 (try (conv in (SS.mk _ _) => dsimp only [aA]))
 refine Nx ?_
 with_reducible repeat' (first | exact True.intro | refine Ca ?_ | refine Cb ?_ | refine Cd ?_ | (refine Ce ?_; (try ((repeat (first | rw [ifP] at hr | rw [ifM] at hr | rw [if_pos rfl] at hr)); subst hr))) | refine Cm ?_ ?_ | (first | refine Bo (fun hk h => ?_) fun hk h => ?_ | refine Al (fun hk h => ?_) fun hk h => ?_) <;> (try dsimp only [aA] at h) <;> (try simp only [natCast_eq] at h) <;> (try (have hb : (_ : Bool) = _ := h; clear h; subst hb)) <;> (try replace hr := hri hr) <;> first | exact Dd | refine Nx ?_)
 all_goals first | with_reducible refine Ez ?_ | exact Cl1 | (dsimp only [aA]; exact Cl1) | (dsimp only [bE]; simp only [aH, aJ]; exact hP) | (exfalso; exact h hok) | exact Cl2 | (dsimp only [aA]; exact Cl2) | (dsimp only [aA] at *; exact Cl2) | skip
 obtain ⟨r, hr1, hr2⟩ := hL.rt
 obtain ⟨x0, hx0, hx1⟩ := Lr.zero p1.length r
 refine ⟨⟨Lr p1.length r, fun x => ⟨[(2, Sx.one (.ptr 0 0)), (3, Sx.one (.ptr 1 0)), (5, Sx.one (.int .i64 (fun _ => x.c))), (26, Sx.one (.ro Ii (fun _ => L))), (27, Sx.one (.int .i64 (fun _ => L.length))), (28, Sx.one (.int .i64 (fun _ => x.i)))],
  [.cells 25 [.ro ah (fun _ => p1), .ro az (fun _ => p2)], .cells 32 [.ro Ii (fun _ => L)]]⟩, fun x => (L.length - x.i).toNat, x0⟩, ?_, fun (x : Lr p1.length r) => ?_⟩
 · refine Pr ?_
   (try (conv in (SS.mk _ _) => dsimp only [aA]))
   refine Nx ?_
   with_reducible repeat' first | exact True.intro | refine Ca ?_ | refine Cb ?_ | refine Cd ?_ | refine Ce ?_ | refine Cm ?_ ?_
   all_goals first | with_reducible refine Ez ?_ | exact Cl1 | (dsimp only [aA]; exact Cl1) | exact hx0.symm | exact hx1.symm | exact Cl2 | (dsimp only [aA]; exact Cl2) | (dsimp only [aA] at *; exact Cl2) | skip
 have hlo := x.lo
 have hhi := x.hi
 have hc01 := x.c01
 have hlv : x.i < (L.length : Int) → -1 ≤ L.getD x.i.toNat 0 ∧ L.getD x.i.toNat 0 < (p1.length : Int) := fun (h : x.i < (L.length : Int)) => hL.at hlo (by omega)
 have hc1 : ¬ x.i < (L.length : Int) → x.c = 1 := fun h => by have h1 := x.ok; rw [if_pos (by omega)] at h1; exact h1
 have hrt := fun (h : x.i < (L.length : Int)) => hr2 x.i.toNat (by omega)
 refine Pr ?_
 (try (conv in (SS.mk _ _) => dsimp only [aA]))
 refine Nx ?_
 with_reducible repeat' (first | exact True.intro | refine Ca ?_ | refine Cb ?_ | refine Cd ?_ | refine Ce ?_ | refine Cm ?_ ?_ | (first | refine Bo (fun hk h => ?_) fun hk h => ?_ | refine Al (fun hk h => ?_) fun hk h => ?_) <;> (try dsimp only [aA] at h) <;> (try simp only [natCast_eq] at h) <;> (try (have hb : (_ : Bool) = _ := h; clear h; subst hb)) <;> (try replace hr := hri hr) <;> first | exact Dd | refine Nx ?_)
 all_goals first | with_reducible refine Ez ?_ | exact Cl1 | (dsimp only [aA]; exact Cl1) | (exfalso; have h9 := hlv (by assumption); omega) | (exfalso; exact h (hc1 (by assumption))) | exact Cl2 | (dsimp only [aA]; exact Cl2) | (dsimp only [aA] at *; exact Cl2) | skip
 · obtain ⟨y, hy1, hy2⟩ := x.hit (by omega) (by have := (hrt (by assumption)).1 h; omega)
   refine ⟨y, dF (by assumption) hy1, ?_⟩
   refine Pr ?_
   (try (conv in (SS.mk _ _) => dsimp only [aA]))
   refine Nx ?_
   with_reducible repeat' first | exact True.intro | refine Ca ?_ | refine Cb ?_ | refine Cd ?_ | refine Ce ?_ | refine Cm ?_ ?_
   all_goals first | with_reducible refine Ez ?_ | exact Cl1 | (dsimp only [aA]; exact Cl1) | exact hy1.symm | exact hy2.symm | exact Cl2 | (dsimp only [aA]; exact Cl2) | (dsimp only [aA] at *; exact Cl2) | skip
 · obtain ⟨y, hy1, hy2⟩ := x.miss (by omega) (fun e => h ((hrt (by assumption)).2 (by omega)))
   refine ⟨y, dF (by assumption) hy1, ?_⟩
   refine Pr ?_
   (try (conv in (SS.mk _ _) => dsimp only [aA]))
   refine Nx ?_
   with_reducible repeat' first | exact True.intro | refine Ca ?_ | refine Cb ?_ | refine Cd ?_ | refine Ce ?_ | refine Cm ?_ ?_
   all_goals first | with_reducible refine Ez ?_ | exact Cl1 | (dsimp only [aA]; exact Cl1) | exact hy1.symm | exact hy2.symm | exact Cl2 | (dsimp only [aA]; exact Cl2) | (dsimp only [aA] at *; exact Cl2) | skip
 clear hx0 hx1 x0 hlo hhi hlv hrt hc01 hc1
 obtain ⟨x0, hx0, hx1⟩ := Ll.zero p2 p1.length L
 refine ⟨⟨Ll p2 p1.length L, fun x => ⟨[(2, Sx.one (.ptr 0 0)), (3, Sx.one (.ptr 1 0)), (8, Sx.one (.hd 2 0)), (53, Sx.one (.ro az (fun _ => p2))), (54, Sx.one (.int .i64 (fun _ => p2.length))), (55, Sx.one (.int .i64 (fun _ => x.j)))],
  [.cells 25 [.ro ah (fun _ => p1), .ro az (fun _ => p2)], .cells 32 [.ro Ii (fun _ => L)], .row 4 .bool 0 (fun _ => x.M)]⟩, fun x => (p2.length - x.j).toNat, x0⟩, ?_, fun (x : Ll p2 p1.length L) => ?_⟩
 · refine Pr ?_
   (try (conv in (SS.mk _ _) => dsimp only [aA]))
   refine Nx ?_
   with_reducible repeat' first | exact True.intro | refine Ca ?_ | refine Cb ?_ | refine Cd ?_ | refine Ce ?_ | refine Cm ?_ ?_
   all_goals first | with_reducible refine Ez ?_ | exact Cl1 | (dsimp only [aA]; exact Cl1) | exact hx0.symm | exact hx1.symm | exact Cl2 | (dsimp only [aA]; exact Cl2) | (dsimp only [aA] at *; exact Cl2) | skip
 have hlo := x.lo
 have hhi := x.hi
 have hxl := x.len
 have hcb := fun h : x.j < (p2.length : Int) => hE _ (eU (show x.j.toNat < p2.length by omega))
 have hA := fun h : x.j < (p2.length : Int) => ivx hl (hcb h).1
 have hB := fun h : x.j < (p2.length : Int) => ivx hl (hcb h).2.1
 have hA2 := fun h : x.j < (p2.length : Int) => ivx hxl (hcb h).1
 have hB2 := fun h : x.j < (p2.length : Int) => ivx hxl (hcb h).2.1
 have hA3 := fun h : x.j < (p2.length : Int) => ivs hn (hL.at (hcb h).1.1 (hcb h).1.2)
 have hB3 := fun h : x.j < (p2.length : Int) => ivs hn (hL.at (hcb h).2.1.1 (hcb h).2.1.2)
 refine Pr ?_
 (try (conv in (SS.mk _ _) => dsimp only [aA]))
 refine Nx ?_
 with_reducible repeat' (first | exact True.intro | refine Ca ?_ | refine Cb ?_ | refine Cd ?_ | refine Ce ?_ | refine Cm ?_ ?_ | (first | refine Bo (fun hk h => ?_) fun hk h => ?_ | refine Al (fun hk h => ?_) fun hk h => ?_) <;> (try dsimp only [aA] at h) <;> (try simp only [natCast_eq] at h) <;> (try (have hb : (_ : Bool) = _ := h; clear h; subst hb)) <;> (try replace hr := hri hr) <;> first | exact Dd | refine Nx ?_)
 all_goals first | with_reducible refine Ez ?_ | exact Cl1 | (dsimp only [aA]; exact Cl1) | exact hA (by assumption) | exact hB (by assumption) | exact hA2 (by assumption) | exact hB2 (by assumption) | exact hA3 (by assumption) | exact hB3 (by assumption) | exact Cl2 | (dsimp only [aA]; exact Cl2) | (dsimp only [aA] at *; exact Cl2) | skip
 · obtain ⟨y, hy1, hy2⟩ := x.stepB (by assumption) (hcb (by assumption)).2.1 h
   refine ⟨y, dF (by assumption) hy1, ?_⟩
   refine Pr ?_
   (try (conv in (SS.mk _ _) => dsimp only [aA]))
   refine Nx ?_
   with_reducible repeat' first | exact True.intro | refine Ca ?_ | refine Cb ?_ | refine Cd ?_ | refine Ce ?_ | refine Cm ?_ ?_
   all_goals first | with_reducible refine Ez ?_ | exact Cl1 | (dsimp only [aA]; exact Cl1) | exact hy1.symm | exact hy2.symm | exact Cl2 | (dsimp only [aA]; exact Cl2) | (dsimp only [aA] at *; exact Cl2) | skip
 · obtain ⟨y, hy1, hy2⟩ := x.stepA (by assumption) (hcb (by assumption)).1 h
   refine ⟨y, dF (by assumption) hy1, ?_⟩
   refine Pr ?_
   (try (conv in (SS.mk _ _) => dsimp only [aA]))
   refine Nx ?_
   with_reducible repeat' first | exact True.intro | refine Ca ?_ | refine Cb ?_ | refine Cd ?_ | refine Ce ?_ | refine Cm ?_ ?_
   all_goals first | with_reducible refine Ez ?_ | exact Cl1 | (dsimp only [aA]; exact Cl1) | exact hy1.symm | exact hy2.symm | exact Cl2 | (dsimp only [aA]; exact Cl2) | (dsimp only [aA] at *; exact Cl2) | skip
 · obtain ⟨y, hy1, hy2⟩ := x.step0 (by assumption) (by assumption) h
   refine ⟨y, dF (by assumption) hy1, ?_⟩
   refine Pr ?_
   (try (conv in (SS.mk _ _) => dsimp only [aA]))
   refine Nx ?_
   with_reducible repeat' first | exact True.intro | refine Ca ?_ | refine Cb ?_ | refine Cd ?_ | refine Ce ?_ | refine Cm ?_ ?_
   all_goals first | with_reducible refine Ez ?_ | exact Cl1 | (dsimp only [aA]; exact Cl1) | exact hy1.symm | exact hy2.symm | exact Cl2 | (dsimp only [aA]; exact Cl2) | (dsimp only [aA] at *; exact Cl2) | skip
 have hdn := fun (k : Int) => x.done (by assumption) hL (k := k)
 clear hx0 hx1 x0 hlo hhi hcb hA hB hA2 hB2 hA3 hB3
 obtain ⟨x0, hx0⟩ := La.zero L (fun _ => true)
 refine ⟨⟨La L (fun _ => true), fun y => ⟨[(8, Sx.one (.hd 2 0)), (99, Sx.one (.ro Ii (fun _ => L))), (100, Sx.one (.int .i64 (fun _ => L.length))), (101, Sx.one (.int .i64 (fun _ => y.i)))],
  [.gone, .gone, .row 4 .bool 0 (fun _ => x.M)]⟩, fun y => (L.length - y.i).toNat, x0⟩, ?_, fun (y : La L (fun _ => true)) => ?_⟩
 · refine Pr ?_
   (try (conv in (SS.mk _ _) => dsimp only [aA]))
   refine Nx ?_
   with_reducible repeat' first | exact True.intro | refine Ca ?_ | refine Cb ?_ | refine Cd ?_ | refine Ce ?_ | refine Cm ?_ ?_
   all_goals first | with_reducible refine Ez ?_ | exact Cl1 | (dsimp only [aA]; exact Cl1) | exact hx0.symm | exact Cl2 | (dsimp only [aA]; exact Cl2) | (dsimp only [aA] at *; exact Cl2) | skip
 have hlo := y.lo
 have hhi := y.hi
 have hld : y.i < (L.length : Int) → 0 < L.getD y.i.toNat 0 → x.M.getD y.i.toNat false = true := fun h1 h2 => hdn _ hlo (by omega) h2
 have hix := fun h : y.i < (L.length : Int) => ivx hxl (n := p1.length) (o := y.i) ⟨hlo, by omega⟩
 refine Pr ?_
 (try (conv in (SS.mk _ _) => dsimp only [aA]))
 refine Nx ?_
 with_reducible repeat' (first | exact True.intro | refine Ca ?_ | refine Cb ?_ | refine Cd ?_ | refine Ce ?_ | refine Cm ?_ ?_ | (first | refine Bo (fun hk h => ?_) fun hk h => ?_ | refine Al (fun hk h => ?_) fun hk h => ?_) <;> (try dsimp only [aA] at h) <;> (try simp only [natCast_eq] at h) <;> (try (have hb : (_ : Bool) = _ := h; clear h; subst hb)) <;> (try replace hr := hri hr) <;> first | exact Dd | refine Nx ?_)
 all_goals first | with_reducible refine Ez ?_ | exact Cl1 | (dsimp only [aA]; exact Cl1) | exact hix (by assumption) | (exfalso; have h9 := hld (by assumption) (by assumption); rw [h9] at h; cases h) | (subst hr; rfl) | exact Cl2 | (dsimp only [aA]; exact Cl2) | (dsimp only [aA] at *; exact Cl2) | skip
 all_goals
  (obtain ⟨z, hz⟩ := y.step 0 (by assumption) rfl
   refine ⟨z, dF (by assumption) hz, ?_⟩
   refine Pr ?_
   (try (conv in (SS.mk _ _) => dsimp only [aA]))
   refine Nx ?_
   with_reducible repeat' first | exact True.intro | refine Ca ?_ | refine Cb ?_ | refine Cd ?_ | refine Ce ?_ | refine Cm ?_ ?_
   all_goals first | with_reducible refine Ez ?_ | exact Cl1 | (dsimp only [aA]; exact Cl1) | exact hz.symm | exact Cl2 | (dsimp only [aA]; exact Cl2) | (dsimp only [aA] at *; exact Cl2) | skip)
theorem eB : aE Tryz.prog AI 36 dE.con := aB.sound Tryz.call36 (fun x h => orv_ok x.1 x.2.1 h)
end Go.Proofs.YtcaoldilmnpjoaaGreat
