/-
  NamesStale (layer 40): the walk.
-/
import Derived.Test.YtehdhnkkkocffaaSt
namespace Go.Proofs.Ytehdhnkkkocffaa
set_option linter.unusedSimpArgs false
set_option linter.unusedVariables false
set_option linter.unusedSectionVars false
open Go.RowKit Go.Maps Go.WideMaps

abbrev x1 : ByteArray := { data := #[120, 45, 49] }
theorem x1_valid : validB x1 = true := by decide
theorem x1_small : x1.size ≤ maxLen := by unfold maxLen; decide
theorem vTick0 : vTick 0 = true := by decide
theorem vTick1 : vTick 1 = true := by decide
theorem vTick2 : vTick 2 = true := by decide
theorem vPlace_mk {n p : Int} (h1 : 0 ≤ n) (h2 : n < 16) (h3 : 0 ≤ p) (h4 : p < 8) : vPlace n p = true := by simp [vPlace, h1, h2, h3, h4]

section
variable {w : World} {db mb : Nat} {n p : Int}
theorem ss_bind1 (h : St w db mb 0 x1.data.toList zeroEnt) (n p : Int) (hp : vPlace n p = true) :
    Calls Try.prog 15 #[.pointer (some ⟨db, 0, none⟩), .string x1, .int .i64 n, .int .i64 p, .int .i64 0, .int .i64 100] w fun r w' =>
      r = .returned (.tuple #[.agg #[.int .i64 n, .int .i64 p, .int .i64 1], .int .i64 0]) ∧ St w' db mb 1 x1.data.toList ⟨n, p, 1, true, 100, 100⟩ ∧ Kept [mb] w w' :=
  st_bind h x1_small x1_valid n p 0 100 (by simp [bindOkB, hp, vTick0]) (by decide) (by omega)
theorem ss_bind2 (h : St w db mb 2 x1.data.toList ⟨0, 0, 1, false, 0, 0⟩) (n p : Int) (hp : vPlace n p = true) :
    Calls Try.prog 15 #[.pointer (some ⟨db, 0, none⟩), .string x1, .int .i64 n, .int .i64 p, .int .i64 1, .int .i64 100] w fun r w' =>
      r = .returned (.tuple #[.agg #[.int .i64 n, .int .i64 p, .int .i64 2], .int .i64 0]) ∧ St w' db mb 3 x1.data.toList ⟨n, p, 2, true, 100, 101⟩ ∧ Kept [mb] w w' :=
  st_bind h x1_small x1_valid n p 1 100 (by simp [bindOkB, hp, vTick1]) (by decide) (by omega)
theorem ss_move (h : St w db mb 1 x1.data.toList ⟨n, p, 1, true, 100, 100⟩) (k : Int) (hp : vPlace k p = true) :
    Calls Try.prog 18 #[.pointer (some ⟨db, 0, none⟩), .string x1, .int .i64 1, .int .i64 k, .int .i64 p, .int .i64 1] w fun r w' =>
      r = .returned (.tuple #[.agg #[.int .i64 k, .int .i64 p, .int .i64 2], .int .i64 0]) ∧ St w' db mb 2 x1.data.toList ⟨k, p, 2, true, 100, 100⟩ ∧ Kept [mb] w w' :=
  st_move h x1_small x1_valid k p 1 hp vTick1 (by simp [liveE]) (by omega)
theorem ss_move_stale {k f : Int} {N : Nat} (h : St w db mb N x1.data.toList ⟨k, p, 2, true, 100, f⟩) (n p' : Int) (hp : vPlace n p' = true) (hf : 2 < f) :
    Calls Try.prog 18 #[.pointer (some ⟨db, 0, none⟩), .string x1, .int .i64 1, .int .i64 n, .int .i64 p', .int .i64 2] w fun r w' =>
      r = .returned (.tuple #[.agg #[.int .i64 0, .int .i64 0, .int .i64 0], .int .i64 17]) ∧ St w' db mb N x1.data.toList ⟨k, p, 2, true, 100, f⟩ ∧ Kept [mb] w w' :=
  st_move_stale h x1_small x1_valid 1 n p' 2 hp vTick2 (by simp [liveE, hf]) (by simp)
theorem ss_look {k f : Int} {N : Nat} (h : St w db mb N x1.data.toList ⟨k, p, 2, true, 100, f⟩) (hf : 2 < f) :
    Calls Try.prog 17 #[.pointer (some ⟨db, 0, none⟩), .string x1, .int .i64 2] w fun r w' =>
      r = .returned (.tuple #[.agg #[.int .i64 k, .int .i64 p, .int .i64 2], .int .i64 0]) ∧ St w' db mb N x1.data.toList ⟨k, p, 2, true, 100, f⟩ ∧ Kept [mb] w w' :=
  st_look h x1_small x1_valid 2 vTick2 (by simp [liveE, hf])
theorem ss_renew {k f : Int} {N : Nat} (h : St w db mb N x1.data.toList ⟨k, p, 2, true, 100, f⟩) (hf : 2 < f) :
    Calls Try.prog 19 #[.pointer (some ⟨db, 0, none⟩), .string x1, .int .i64 1, .int .i64 2] w fun r w' =>
      r = .returned (.int .i64 17) ∧ St w' db mb N x1.data.toList ⟨k, p, 2, true, 100, f⟩ ∧ Kept [mb] w w' :=
  st_renew_bad h x1_small x1_valid 1 2 17 vTick2 (Or.inr ⟨by simp [liveE, hf], by simp, rfl⟩)
theorem ss_drop_stale {k f : Int} {N : Nat} (h : St w db mb N x1.data.toList ⟨k, p, 2, true, 100, f⟩) :
    Calls Try.prog 16 #[.pointer (some ⟨db, 0, none⟩), .string x1, .int .i64 1] w fun r w' =>
      r = .returned (.int .i64 17) ∧ St w' db mb N x1.data.toList ⟨k, p, 2, true, 100, f⟩ ∧ Kept [mb] w w' :=
  st_drop_bad h x1_small x1_valid 1 17 (Or.inr ⟨rfl, by simp, rfl⟩)
theorem ss_drop1 (h : St w db mb 1 x1.data.toList ⟨n, p, 1, true, 100, 100⟩) :
    Calls Try.prog 16 #[.pointer (some ⟨db, 0, none⟩), .string x1, .int .i64 1] w fun r w' =>
      r = .returned (.int .i64 0) ∧ St w' db mb 2 x1.data.toList ⟨0, 0, 1, false, 0, 0⟩ ∧ Kept [mb] w w' :=
  st_drop h x1_small x1_valid rfl (by omega)
theorem ss_look1 (h : St w db mb 2 x1.data.toList ⟨0, 0, 1, false, 0, 0⟩) :
    Calls Try.prog 17 #[.pointer (some ⟨db, 0, none⟩), .string x1, .int .i64 1] w fun r w' =>
      r = .returned (.tuple #[.agg #[.int .i64 0, .int .i64 0, .int .i64 0], .int .i64 7]) ∧ St w' db mb 2 x1.data.toList ⟨0, 0, 1, false, 0, 0⟩ ∧ Kept [mb] w w' :=
  st_look_none h x1_small x1_valid 1 vTick1 (by simp [liveE])
theorem ss_drop2 (h : St w db mb 2 x1.data.toList ⟨0, 0, 1, false, 0, 0⟩) :
    Calls Try.prog 16 #[.pointer (some ⟨db, 0, none⟩), .string x1, .int .i64 1] w fun r w' =>
      r = .returned (.int .i64 7) ∧ St w' db mb 2 x1.data.toList ⟨0, 0, 1, false, 0, 0⟩ ∧ Kept [mb] w w' :=
  st_drop_bad h x1_small x1_valid 1 7 (Or.inl ⟨rfl, rfl⟩)
end

set_option maxRecDepth 100000 in
set_option maxHeartbeats 4000000 in
theorem stale_walk (a0 a1 a2 : Int) (drop : Bool) (w : World) (w0 : (Lit.int .u8 a0).wf = true) (w1 : (Lit.int .u8 a1).wf = true) (w2 : (Lit.int .u8 a2).wf = true) :
    Calls Try.prog 5 #[.int .u8 a0, .int .u8 a1, .int .u8 a2, .bool drop] w fun r w' => r = .returned (.bool true) ∧ Below w.heap.size w w' := by
  have b0 := bounds_u8 w0
  have b1 := bounds_u8 w1
  have b2 := bounds_u8 w2
  have hpn : vPlace (a0 % 16) (a1 % 8) = true := vPlace_mk (by omega) (by omega) (by omega) (by omega)
  have hpk : vPlace (a2 % 16) (a1 % 8) = true := vPlace_mk (by omega) (by omega) (by omega) (by omega)
  clear w0 w1 w2
  cases drop
  · skip
    go_enter Try.func5, Try.ntmps5
    go_wp2_with fail
    refine (awake_any _).mono ?_
    rintro r v0 ⟨rfl, hk0⟩
    have K0 := Lib.hid hk0; clear hk0
    go_wp2_with fail
    refine (new_any _).mono ?_
    rintro r v1 ⟨rfl, hd1, hk1, hz1⟩
    have S1 := Lib.hid (St.new hd1 x1.data.toList); clear hd1
    have K1 := Lib.hid hk1; clear hk1
    have z1 : v1.heap.size ≥ v0.heap.size + 2 := by omega
    clear hz1
    go_wp2_with fail
    generalize a0 % 16 = n at *
    generalize a1 % 8 = p at *
    generalize a2 % 16 = k at *
    refine (ss_bind1 S1.out n p hpn).mono ?_
    rintro r v2 ⟨rfl, hs, hk⟩
    have S2 := Lib.hid hs; clear hs
    have K2 := Lib.hid hk
    have z2 := hk.size
    clear hk
    go_wp2_with fail
    refine (ss_move (S2.out.kept (S := []) (by repeat (first | exact Kept.refl _ _ | refine Kept.alloc ?_ _ | refine Kept.drew ?_ | refine Kept.setCell ?_ (Or.inr (by first | exact Nat.le_refl _ | (simp; done) | (simp; omega) | omega)) _)) (by simp) (by simp)) k hpk).mono ?_
    rintro r v3 ⟨rfl, hs, hk⟩
    have S3 := Lib.hid hs; clear hs
    have nb := hk.blk (heap_alloc_new (v2.alloc _) _) (by simp; omega)
    simp only [World.size_alloc] at nb
    have NB := Lib.hid nb; clear nb
    have o2 := hk.cv (cv_alloc (cell_of_block (heap_alloc_new v2 _) 2) _) (by simp; omega)
    have K3 := Lib.hid hk
    have z3 := hk.size
    simp only [World.size_alloc] at z3
    clear hk
    have c0 : v3.cell? ⟨v2.heap.size + 1, 0, none⟩ = some (.int .i64 0) := cell_of_block NB.out 0
    have c1 : v3.cell? ⟨v2.heap.size + 1, 1, none⟩ = some (.int .i64 0) := cell_of_block NB.out 1
    have c2 : v3.cell? ⟨v2.heap.size + 1, 2, none⟩ = some (.int .i64 0) := cell_of_block NB.out 2
    have f0 := free_of_block NB.out 0
    have f1 := free_of_block NB.out 1
    have f2 := free_of_block NB.out 2
    obtain ⟨k0, k1, k2⟩ := cells3_set (w := v3) (b := v2.heap.size + 1) c0 c1 c2 (.int .i64 k) (.int .i64 p) (.int .i64 2)
    have o2' := cv_set (cv_set (cv_set o2 (b' := v2.heap.size + 1) (o' := 0) (.int .i64 k) (by omega)) (b' := v2.heap.size + 1) (o' := 1) (.int .i64 p) (by omega)) (b' := v2.heap.size + 1) (o' := 2) (.int .i64 2) (by omega)
    go_wp2_with fail
    refine (ss_move_stale (S3.out.kept (S := [v2.heap.size + 1]) ((((Kept.refl _ _).setCell (p := ⟨v2.heap.size + 1, 0, none⟩) (Or.inl (by simp)) _).setCell (p := ⟨v2.heap.size + 1, 1, none⟩) (Or.inl (by simp)) _).setCell (p := ⟨v2.heap.size + 1, 2, none⟩) (Or.inl (by simp)) _) (by simp; omega) (by simp; omega)) n p hpn (by decide)).mono ?_
    rintro r v4 ⟨rfl, hs, hk⟩
    have S4 := Lib.hid hs; clear hs o2
    have o2 := hk.cv o2' (by simp; omega)
    have m0 := hk.cv k0 (by simp; omega)
    have m1 := hk.cv k1 (by simp; omega)
    have m2 := hk.cv k2 (by simp; omega)
    have K4 := Lib.hid hk
    have z4 := hk.size
    simp only [World.size_setCell] at z4
    have y4 : v2.heap.size < v4.heap.size := by omega
    have yy4 : v2.heap.size + 1 < v4.heap.size := by omega
    clear hk o2' k0 k1 k2
    go_wp2_with fail
    refine (ss_look (S4.out.kept (S := []) (by repeat (first | exact Kept.refl _ _ | refine Kept.alloc ?_ _ | refine Kept.drew ?_ | refine Kept.setCell ?_ (Or.inr (by first | exact Nat.le_refl _ | (simp; done) | (simp; omega) | omega)) _)) (by simp) (by simp)) (by decide)).mono ?_
    rintro r v5 ⟨rfl, hs, hk⟩
    have S5 := Lib.hid hs; clear hs
    have o2 := hk.cv (cv_alloc o2 _) (by simp; omega)
    have m0 := hk.cv (cv_alloc m0 _) (by simp; omega)
    have m1 := hk.cv (cv_alloc m1 _) (by simp; omega)
    have m2 := hk.cv (cv_alloc m2 _) (by simp; omega)
    have K5 := Lib.hid hk
    have z5 := hk.size
    simp only [World.size_alloc] at z5
    have y5 : v2.heap.size < v5.heap.size := by omega
    have yy5 : v2.heap.size + 1 < v5.heap.size := by omega
    clear hk
    go_wp2_with fail
    refine (ss_renew (S5.out.kept (S := []) (by repeat (first | exact Kept.refl _ _ | refine Kept.alloc ?_ _ | refine Kept.drew ?_ | refine Kept.setCell ?_ (Or.inr (by first | exact Nat.le_refl _ | (simp; done) | (simp; omega) | omega)) _)) (by simp) (by simp)) (by decide)).mono ?_
    rintro r v6 ⟨rfl, hs, hk⟩
    have S6 := Lib.hid hs; clear hs
    have P := hk.blk (heap_alloc_new v5 _) (by simp; omega)
    have o2 := hk.cv (cv_alloc o2 _) (by simp; omega)
    have m0 := hk.cv (cv_alloc m0 _) (by simp; omega)
    have m1 := hk.cv (cv_alloc m1 _) (by simp; omega)
    have m2 := hk.cv (cv_alloc m2 _) (by simp; omega)
    have K6 := Lib.hid hk
    have z6 := hk.size
    simp only [World.size_alloc] at z6
    clear hk
    go_wp2_with fail
    refine (ss_drop_stale S6.out).mono ?_
    rintro r v7 ⟨rfl, hs, hk⟩
    have P := hk.blk P (by simp; omega)
    have o2 := hk.cv o2 (by simp; omega)
    have m0 := hk.cv m0 (by simp; omega)
    have m1 := hk.cv m1 (by simp; omega)
    have m2 := hk.cv m2 (by simp; omega)
    have p0 := cell_of_block P 0
    have p1 := cell_of_block P 1
    have p2 := cell_of_block P 2
    have K7 := Lib.hid hk
    have z7 := hk.size
    clear hk hs
    simp only [List.getElem?_toArray, List.getElem?_cons_zero, List.getElem?_cons_succ] at p0 p1 p2
    have PP := Lib.hid P; clear P
    go_wp2
    go_ret
    have s0 := K0.out.size
    refine ⟨rfl, ?_⟩
    have B2 : Kept [] w v2 := ((K0.out.trans K1.out).step K2.out (fun i hi => Or.inr (by simp at hi; omega)))
    have B3 : Kept [] w v3 := ((B2.alloc _).alloc _).step K3.out (fun i hi => Or.inr (by simp at hi; omega))
    have B4 := (((B3.setCell (p := ⟨v2.heap.size + 1, 0, none⟩) (Or.inr (by simp; omega)) (.int .i64 k)).setCell (p := ⟨v2.heap.size + 1, 1, none⟩) (Or.inr (by simp; omega)) (.int .i64 p)).setCell (p := ⟨v2.heap.size + 1, 2, none⟩) (Or.inr (by simp; omega)) (.int .i64 2)).step K4.out (fun i hi => Or.inr (by simp at hi; omega))
    have B5 := (B4.alloc _).step K5.out (fun i hi => Or.inr (by simp at hi; omega))
    have B6 := (B5.alloc _).step K6.out (fun i hi => Or.inr (by simp at hi; omega))
    have B7 := B6.step K7.out (fun i hi => Or.inr (by simp at hi; omega))
    exact B7.below (by simp) (Nat.le_refl _)
  · skip
    go_enter Try.func5, Try.ntmps5
    go_wp2_with fail
    refine (awake_any _).mono ?_
    rintro r v0 ⟨rfl, hk0⟩
    have K0 := Lib.hid hk0; clear hk0
    go_wp2_with fail
    refine (new_any _).mono ?_
    rintro r v1 ⟨rfl, hd1, hk1, hz1⟩
    have S1 := Lib.hid (St.new hd1 x1.data.toList); clear hd1
    have K1 := Lib.hid hk1; clear hk1
    have z1 : v1.heap.size ≥ v0.heap.size + 2 := by omega
    clear hz1
    go_wp2_with fail
    generalize a0 % 16 = n at *
    generalize a1 % 8 = p at *
    generalize a2 % 16 = k at *
    refine (ss_bind1 S1.out n p hpn).mono ?_
    rintro r v2 ⟨rfl, hs, hk⟩
    have S2 := Lib.hid hs; clear hs
    have K2 := Lib.hid hk
    have z2 := hk.size
    clear hk
    go_wp2_with fail
    refine (ss_drop1 (S2.out.kept (S := []) (by repeat (first | exact Kept.refl _ _ | refine Kept.alloc ?_ _ | refine Kept.drew ?_ | refine Kept.setCell ?_ (Or.inr (by first | exact Nat.le_refl _ | (simp; done) | (simp; omega) | omega)) _)) (by simp) (by simp))).mono ?_
    rintro r v3 ⟨rfl, hs, hk⟩
    have S3 := Lib.hid hs; clear hs
    have nb := hk.blk (heap_alloc_new (v2.alloc _) _) (by simp; omega)
    have o2 := hk.cv (cv_alloc (cell_of_block (heap_alloc_new v2 _) 2) _) (by simp; omega)
    have z3 := hk.size
    have K3 := Lib.hid hk; clear hk
    simp only [World.size_alloc] at z3 nb
    have NB := Lib.hid nb; clear nb
    go_wp2_with fail
    refine (ss_look1 (S3.out.kept (S := []) (by repeat (first | exact Kept.refl _ _ | refine Kept.alloc ?_ _ | refine Kept.drew ?_ | refine Kept.setCell ?_ (Or.inr (by first | exact Nat.le_refl _ | (simp; done) | (simp; omega) | omega)) _)) (by simp) (by simp))).mono ?_
    rintro r v4 ⟨rfl, hs, hk⟩
    have S4 := Lib.hid hs; clear hs
    have NB := Lib.hid (hk.blk NB.out (by simp; omega))
    have o2 := hk.cv o2 (by simp; omega)
    have z4 := hk.size
    have K4 := Lib.hid hk; clear hk
    have y4 : v2.heap.size < v4.heap.size := by omega
    go_wp2_with fail
    refine (ss_drop2 (S4.out.kept (S := []) (by repeat (first | exact Kept.refl _ _ | refine Kept.alloc ?_ _ | refine Kept.drew ?_ | refine Kept.setCell ?_ (Or.inr (by first | exact Nat.le_refl _ | (simp; done) | (simp; omega) | omega)) _)) (by simp) (by simp))).mono ?_
    rintro r v5 ⟨rfl, hs, hk⟩
    have S5 := Lib.hid hs; clear hs
    have NB := Lib.hid (hk.blk (blk_alloc NB.out _) (by simp; omega))
    have o2 := hk.cv (cv_alloc o2 _) (by simp; omega)
    have z5 := hk.size
    have K5 := Lib.hid hk; clear hk
    simp only [World.size_alloc] at z5
    go_wp2_with fail
    refine (ss_bind2 (S5.out.kept (S := []) (by repeat (first | exact Kept.refl _ _ | refine Kept.alloc ?_ _ | refine Kept.drew ?_ | refine Kept.setCell ?_ (Or.inr (by first | exact Nat.le_refl _ | (simp; done) | (simp; omega) | omega)) _)) (by simp) (by simp)) k p hpk).mono ?_
    rintro r v6 ⟨rfl, hs, hk⟩
    have S6 := Lib.hid hs; clear hs
    have NB := Lib.hid (hk.blk NB.out (by simp; omega))
    have o2 := hk.cv o2 (by simp; omega)
    have z6 := hk.size
    have K6 := Lib.hid hk; clear hk
    have c0 : v6.cell? ⟨v2.heap.size + 1, 0, none⟩ = some (.int .i64 0) := cell_of_block NB.out 0
    have c1 : v6.cell? ⟨v2.heap.size + 1, 1, none⟩ = some (.int .i64 0) := cell_of_block NB.out 1
    have c2 : v6.cell? ⟨v2.heap.size + 1, 2, none⟩ = some (.int .i64 0) := cell_of_block NB.out 2
    have f0 := free_of_block NB.out 0
    have f1 := free_of_block NB.out 1
    have f2 := free_of_block NB.out 2
    obtain ⟨k0, k1, k2⟩ := cells3_set (w := v6) (b := v2.heap.size + 1) c0 c1 c2 (.int .i64 k) (.int .i64 p) (.int .i64 2)
    have o2' := cv_set (cv_set (cv_set o2 (b' := v2.heap.size + 1) (o' := 0) (.int .i64 k) (by omega)) (b' := v2.heap.size + 1) (o' := 1) (.int .i64 p) (by omega)) (b' := v2.heap.size + 1) (o' := 2) (.int .i64 2) (by omega)
    go_wp2_with fail
    refine (ss_move_stale (S6.out.kept (S := [v2.heap.size + 1]) ((((Kept.refl _ _).setCell (p := ⟨v2.heap.size + 1, 0, none⟩) (Or.inl (by simp)) _).setCell (p := ⟨v2.heap.size + 1, 1, none⟩) (Or.inl (by simp)) _).setCell (p := ⟨v2.heap.size + 1, 2, none⟩) (Or.inl (by simp)) _) (by simp; omega) (by simp; omega)) n p hpn (by decide)).mono ?_
    rintro r v7 ⟨rfl, hs, hk⟩
    have S7 := Lib.hid hs; clear hs o2
    have o2 := hk.cv o2' (by simp; omega)
    have m0 := hk.cv k0 (by simp; omega)
    have m1 := hk.cv k1 (by simp; omega)
    have m2 := hk.cv k2 (by simp; omega)
    have K7 := Lib.hid hk
    have z7 := hk.size
    simp only [World.size_setCell] at z7
    have y7 : v2.heap.size < v7.heap.size := by omega
    have yy7 : v2.heap.size + 1 < v7.heap.size := by omega
    clear hk o2' k0 k1 k2
    go_wp2_with fail
    refine (ss_look (S7.out.kept (S := []) (by repeat (first | exact Kept.refl _ _ | refine Kept.alloc ?_ _ | refine Kept.drew ?_ | refine Kept.setCell ?_ (Or.inr (by first | exact Nat.le_refl _ | (simp; done) | (simp; omega) | omega)) _)) (by simp) (by simp)) (by decide)).mono ?_
    rintro r v8 ⟨rfl, hs, hk⟩
    have S8 := Lib.hid hs; clear hs
    have o2 := hk.cv (cv_alloc o2 _) (by simp; omega)
    have m0 := hk.cv (cv_alloc m0 _) (by simp; omega)
    have m1 := hk.cv (cv_alloc m1 _) (by simp; omega)
    have m2 := hk.cv (cv_alloc m2 _) (by simp; omega)
    have K8 := Lib.hid hk
    have z8 := hk.size
    simp only [World.size_alloc] at z8
    have y8 : v2.heap.size < v8.heap.size := by omega
    have yy8 : v2.heap.size + 1 < v8.heap.size := by omega
    clear hk
    go_wp2_with fail
    refine (ss_renew (S8.out.kept (S := []) (by repeat (first | exact Kept.refl _ _ | refine Kept.alloc ?_ _ | refine Kept.drew ?_ | refine Kept.setCell ?_ (Or.inr (by first | exact Nat.le_refl _ | (simp; done) | (simp; omega) | omega)) _)) (by simp) (by simp)) (by decide)).mono ?_
    rintro r v9 ⟨rfl, hs, hk⟩
    have S9 := Lib.hid hs; clear hs
    have P := hk.blk (heap_alloc_new v8 _) (by simp; omega)
    have o2 := hk.cv (cv_alloc o2 _) (by simp; omega)
    have m0 := hk.cv (cv_alloc m0 _) (by simp; omega)
    have m1 := hk.cv (cv_alloc m1 _) (by simp; omega)
    have m2 := hk.cv (cv_alloc m2 _) (by simp; omega)
    have K9 := Lib.hid hk
    have z9 := hk.size
    simp only [World.size_alloc] at z9
    clear hk
    go_wp2_with fail
    refine (ss_drop_stale S9.out).mono ?_
    rintro r v10 ⟨rfl, hs, hk⟩
    have P := hk.blk P (by simp; omega)
    have o2 := hk.cv o2 (by simp; omega)
    have m0 := hk.cv m0 (by simp; omega)
    have m1 := hk.cv m1 (by simp; omega)
    have m2 := hk.cv m2 (by simp; omega)
    have p0 := cell_of_block P 0
    have p1 := cell_of_block P 1
    have p2 := cell_of_block P 2
    have K10 := Lib.hid hk
    have z10 := hk.size
    clear hk hs
    simp only [List.getElem?_toArray, List.getElem?_cons_zero, List.getElem?_cons_succ] at p0 p1 p2
    have PP := Lib.hid P; clear P
    go_wp2
    go_ret
    have s0 := K0.out.size
    refine ⟨rfl, ?_⟩
    have B2 : Kept [] w v2 := ((K0.out.trans K1.out).step K2.out (fun i hi => Or.inr (by simp at hi; omega)))
    have B3 : Kept [] w v3 := ((B2.alloc _).alloc _).step K3.out (fun i hi => Or.inr (by simp at hi; omega))
    have B3 : Kept [] w v4 := B3.step K4.out (fun i hi => Or.inr (by simp at hi; omega))
    have B3 : Kept [] w v5 := (B3.alloc _).step K5.out (fun i hi => Or.inr (by simp at hi; omega))
    have B3 : Kept [] w v6 := B3.step K6.out (fun i hi => Or.inr (by simp at hi; omega))
    have B4 := (((B3.setCell (p := ⟨v2.heap.size + 1, 0, none⟩) (Or.inr (by simp; omega)) (.int .i64 k)).setCell (p := ⟨v2.heap.size + 1, 1, none⟩) (Or.inr (by simp; omega)) (.int .i64 p)).setCell (p := ⟨v2.heap.size + 1, 2, none⟩) (Or.inr (by simp; omega)) (.int .i64 2)).step K7.out (fun i hi => Or.inr (by simp at hi; omega))
    have B5 := (B4.alloc _).step K8.out (fun i hi => Or.inr (by simp at hi; omega))
    have B6 := (B5.alloc _).step K9.out (fun i hi => Or.inr (by simp at hi; omega))
    have B7 := B6.step K10.out (fun i hi => Or.inr (by simp at hi; omega))
    exact B7.below (by simp) (Nat.le_refl _)
end Go.Proofs.Ytehdhnkkkocffaa
