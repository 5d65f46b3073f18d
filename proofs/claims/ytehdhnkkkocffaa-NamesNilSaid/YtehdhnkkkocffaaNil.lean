/-
  The methods of a nil directory (layer 40), and the walk of NamesNil.
-/
import Derived.Test.YtehdhnkkkocffaaAwake
namespace Go.Proofs.Ytehdhnkkkocffaa
set_option linter.unusedSimpArgs false
set_option linter.unusedVariables false
set_option linter.unusedSectionVars false
open Go.RowKit Go.Maps Go.WideMaps

set_option maxRecDepth 100000 in
set_option maxHeartbeats 2000000 in
theorem nil_bind (s : ByteArray) (n p t l : Int) (w : World) : Calls Try.prog 15 #[.pointer none, .string s, .int .i64 n, .int .i64 p, .int .i64 t, .int .i64 l] w fun r w' => r = .returned (.tuple #[.agg #[.int .i64 0, .int .i64 0, .int .i64 0], .int .i64 1]) ∧ Kept [] w w' := by
  go_enter Try.func15, Try.ntmps15
  go_wp2
  refine bodyPost_ret (v := .tuple #[.agg #[.int .i64 0, .int .i64 0, .int .i64 0], .int .i64 1]) (by simp [results, Try.results15, go_sem]) rfl ⟨rfl, ?_⟩
  exact (by repeat (first | exact Kept.refl _ _ | refine Kept.alloc ?_ _ | refine Kept.drew ?_ | refine Kept.setCell ?_ (Or.inr (by first | exact Nat.le_refl _ | (simp; done) | (simp; omega) | omega)) _))
set_option maxRecDepth 100000 in
set_option maxHeartbeats 2000000 in
theorem nil_move (s : ByteArray) (v n p t : Int) (w : World) : Calls Try.prog 18 #[.pointer none, .string s, .int .i64 v, .int .i64 n, .int .i64 p, .int .i64 t] w fun r w' => r = .returned (.tuple #[.agg #[.int .i64 0, .int .i64 0, .int .i64 0], .int .i64 1]) ∧ Kept [] w w' := by
  go_enter Try.func18, Try.ntmps18
  go_wp2
  refine bodyPost_ret (v := .tuple #[.agg #[.int .i64 0, .int .i64 0, .int .i64 0], .int .i64 1]) (by simp [results, Try.results18, go_sem]) rfl ⟨rfl, ?_⟩
  exact (by repeat (first | exact Kept.refl _ _ | refine Kept.alloc ?_ _ | refine Kept.drew ?_ | refine Kept.setCell ?_ (Or.inr (by first | exact Nat.le_refl _ | (simp; done) | (simp; omega) | omega)) _))
set_option maxRecDepth 100000 in
set_option maxHeartbeats 2000000 in
theorem nil_look (s : ByteArray) (t : Int) (w : World) : Calls Try.prog 17 #[.pointer none, .string s, .int .i64 t] w fun r w' => r = .returned (.tuple #[.agg #[.int .i64 0, .int .i64 0, .int .i64 0], .int .i64 1]) ∧ Kept [] w w' := by
  go_enter Try.func17, Try.ntmps17
  go_wp2
  refine bodyPost_ret (v := .tuple #[.agg #[.int .i64 0, .int .i64 0, .int .i64 0], .int .i64 1]) (by simp [results, Try.results17, go_sem]) rfl ⟨rfl, ?_⟩
  exact (by repeat (first | exact Kept.refl _ _ | refine Kept.alloc ?_ _ | refine Kept.drew ?_ | refine Kept.setCell ?_ (Or.inr (by first | exact Nat.le_refl _ | (simp; done) | (simp; omega) | omega)) _))
theorem nil_renew (s : ByteArray) (v t : Int) (w : World) : Calls Try.prog 19 #[.pointer none, .string s, .int .i64 v, .int .i64 t] w fun r w' => r = .returned (.int .i64 1) ∧ Kept [] w w' := by
  go_enter Try.func19, Try.ntmps19
  go_wp2
  go_ret
  exact ⟨rfl, (by repeat (first | exact Kept.refl _ _ | refine Kept.alloc ?_ _ | refine Kept.drew ?_ | refine Kept.setCell ?_ (Or.inr (by first | exact Nat.le_refl _ | (simp; done) | (simp; omega) | omega)) _))⟩
theorem nil_drop (s : ByteArray) (v : Int) (w : World) : Calls Try.prog 16 #[.pointer none, .string s, .int .i64 v] w fun r w' => r = .returned (.int .i64 1) ∧ Kept [] w w' := by
  go_enter Try.func16, Try.ntmps16
  go_wp2
  go_ret
  exact ⟨rfl, (by repeat (first | exact Kept.refl _ _ | refine Kept.alloc ?_ _ | refine Kept.drew ?_ | refine Kept.setCell ?_ (Or.inr (by first | exact Nat.le_refl _ | (simp; done) | (simp; omega) | omega)) _))⟩
theorem nil_names (t : Int) (w : World) : Calls Try.prog 23 #[.pointer none, .int .i64 t] w fun r w' => r = .returned (.slice none 0 0) ∧ Kept [] w w' := by
  go_enter Try.func23, Try.ntmps23
  go_wp2
  go_ret
  exact ⟨rfl, (by repeat (first | exact Kept.refl _ _ | refine Kept.alloc ?_ _ | refine Kept.drew ?_ | refine Kept.setCell ?_ (Or.inr (by first | exact Nat.le_refl _ | (simp; done) | (simp; omega) | omega)) _))⟩

def NilPost (w : World) (r : Ending) (w' : World) : Prop := r = .returned (.tuple #[.agg #[.int .i64 0, .int .i64 0, .int .i64 0], .int .i64 1]) ∧ Kept [] w w'

set_option maxRecDepth 100000 in
set_option maxHeartbeats 4000000 in
theorem nil_do (kind : Int) (name : ByteArray) (node port ver tick long : Int) (w : World) :
    Calls Try.prog 14 #[.pointer none, .agg #[.int .i64 kind, .string name, .int .i64 node, .int .i64 port, .int .i64 ver, .int .i64 tick, .int .i64 long]] w (NilPost w) := by
  have hc : kind = 0 ∨ (kind == 0) = false ∧ (kind = 1 ∨ (kind == 1) = false ∧ (kind = 2 ∨ (kind == 2) = false ∧ (kind = 3 ∨ (kind == 3) = false))) := by
    simp; omega
  rcases hc with rfl | ⟨k0, rfl | ⟨k1, rfl | ⟨k2, rfl | k3⟩⟩⟩
  all_goals
    go_enter Try.func14, Try.ntmps14
    go_wp2_with (first
      | (go_at_call 15; refine (nil_bind _ _ _ _ _ _).mono ?_; rintro r w1 ⟨rfl, hk1⟩; have c0 := hk1.cv (cell_of_block (heap_alloc_new (w.alloc _) _) 0) (by simp); have c1 := hk1.cv (cell_of_block (heap_alloc_new (w.alloc _) _) 1) (by simp); have c2 := hk1.cv (cell_of_block (heap_alloc_new (w.alloc _) _) 2) (by simp); have f0 := free_of_block (hk1.blk (heap_alloc_new (w.alloc _) _) (by simp)) 0; have f1 := free_of_block (hk1.blk (heap_alloc_new (w.alloc _) _) (by simp)) 1; have f2 := free_of_block (hk1.blk (heap_alloc_new (w.alloc _) _) (by simp)) 2; simp only [World.size_alloc, List.getElem?_toArray, List.getElem?_cons_zero, List.getElem?_cons_succ] at c0 c1 c2 f0 f1 f2; have HK1 := Lib.hid hk1; clear hk1)
      | (go_at_call 18; refine (nil_move _ _ _ _ _ _).mono ?_; rintro r w1 ⟨rfl, hk1⟩; have c0 := hk1.cv (cell_of_block (heap_alloc_new (w.alloc _) _) 0) (by simp); have c1 := hk1.cv (cell_of_block (heap_alloc_new (w.alloc _) _) 1) (by simp); have c2 := hk1.cv (cell_of_block (heap_alloc_new (w.alloc _) _) 2) (by simp); have f0 := free_of_block (hk1.blk (heap_alloc_new (w.alloc _) _) (by simp)) 0; have f1 := free_of_block (hk1.blk (heap_alloc_new (w.alloc _) _) (by simp)) 1; have f2 := free_of_block (hk1.blk (heap_alloc_new (w.alloc _) _) (by simp)) 2; simp only [World.size_alloc, List.getElem?_toArray, List.getElem?_cons_zero, List.getElem?_cons_succ] at c0 c1 c2 f0 f1 f2; have HK1 := Lib.hid hk1; clear hk1)
      | (go_at_call 17; refine (nil_look _ _ _).mono ?_; rintro r w1 ⟨rfl, hk1⟩; have c0 := hk1.cv (cell_of_block (heap_alloc_new (w.alloc _) _) 0) (by simp); have c1 := hk1.cv (cell_of_block (heap_alloc_new (w.alloc _) _) 1) (by simp); have c2 := hk1.cv (cell_of_block (heap_alloc_new (w.alloc _) _) 2) (by simp); have f0 := free_of_block (hk1.blk (heap_alloc_new (w.alloc _) _) (by simp)) 0; have f1 := free_of_block (hk1.blk (heap_alloc_new (w.alloc _) _) (by simp)) 1; have f2 := free_of_block (hk1.blk (heap_alloc_new (w.alloc _) _) (by simp)) 2; simp only [World.size_alloc, List.getElem?_toArray, List.getElem?_cons_zero, List.getElem?_cons_succ] at c0 c1 c2 f0 f1 f2; have HK1 := Lib.hid hk1; clear hk1)
      | (go_at_call 19; refine (nil_renew _ _ _ _).mono ?_; rintro r w1 ⟨rfl, hk1⟩; have c0 := hk1.cv (cell_of_block (heap_alloc_new (w.alloc _) _) 0) (by simp); have c1 := hk1.cv (cell_of_block (heap_alloc_new (w.alloc _) _) 1) (by simp); have c2 := hk1.cv (cell_of_block (heap_alloc_new (w.alloc _) _) 2) (by simp); have f0 := free_of_block (hk1.blk (heap_alloc_new (w.alloc _) _) (by simp)) 0; have f1 := free_of_block (hk1.blk (heap_alloc_new (w.alloc _) _) (by simp)) 1; have f2 := free_of_block (hk1.blk (heap_alloc_new (w.alloc _) _) (by simp)) 2; simp only [World.size_alloc, List.getElem?_toArray, List.getElem?_cons_zero, List.getElem?_cons_succ] at c0 c1 c2 f0 f1 f2; have HK1 := Lib.hid hk1; clear hk1)
      | (go_at_call 16; refine (nil_drop _ _ _).mono ?_; rintro r w1 ⟨rfl, hk1⟩; have c0 := hk1.cv (cell_of_block (heap_alloc_new (w.alloc _) _) 0) (by simp); have c1 := hk1.cv (cell_of_block (heap_alloc_new (w.alloc _) _) 1) (by simp); have c2 := hk1.cv (cell_of_block (heap_alloc_new (w.alloc _) _) 2) (by simp); have f0 := free_of_block (hk1.blk (heap_alloc_new (w.alloc _) _) (by simp)) 0; have f1 := free_of_block (hk1.blk (heap_alloc_new (w.alloc _) _) (by simp)) 1; have f2 := free_of_block (hk1.blk (heap_alloc_new (w.alloc _) _) (by simp)) 2; simp only [World.size_alloc, List.getElem?_toArray, List.getElem?_cons_zero, List.getElem?_cons_succ] at c0 c1 c2 f0 f1 f2; have HK1 := Lib.hid hk1; clear hk1))
    obtain ⟨k0, k1, k2⟩ := cells3_set (w := w1) (b := w.heap.size + 1) c0 c1 c2 (.int .i64 0) (.int .i64 0) (.int .i64 0)
    refine bodyPost_ret (v := .tuple #[.agg #[.int .i64 0, .int .i64 0, .int .i64 0], .int .i64 1]) (by simp [results, Try.results14, go_sem, k0, k1, k2]) rfl ⟨rfl, ?_⟩
    have K1 : Kept [] w w1 := (((Kept.refl [] w).alloc _).alloc _).trans HK1.out
    exact ((K1.setCell (Or.inr (by simp)) _).setCell (Or.inr (by simp)) _).setCell (Or.inr (by simp)) _

set_option maxRecDepth 100000 in
set_option maxHeartbeats 4000000 in
theorem nil_walk (a : AC) (w : World) : Calls Try.prog 9 #[.agg #[.int .i64 a.kind, .string a.name, .int .i64 a.node, .int .i64 a.port, .int .i64 a.ver, .int .i64 a.tick, .int .i64 a.long]] w fun r w' => r = .returned (.bool true) ∧ Below w.heap.size w w' := by
  go_enter Try.func9, Try.ntmps9
  go_wp2_with fail
  refine (awake_any _).mono ?_
  rintro r v0 ⟨rfl, hk0⟩
  have A0 := hk0.blk (heap_alloc_new w _) (by simp)
  have K0 := Lib.hid hk0; clear hk0
  have c0 := cell_of_block A0 0
  have c1 := cell_of_block A0 1
  have c2 := cell_of_block A0 2
  have c3 := cell_of_block A0 3
  have c4 := cell_of_block A0 4
  have c5 := cell_of_block A0 5
  have c6 := cell_of_block A0 6
  simp only [List.getElem?_toArray, List.getElem?_cons_zero, List.getElem?_cons_succ] at c0 c1 c2 c3 c4 c5 c6
  have HA0 := Lib.hid A0; clear A0
  go_wp2_with fail
  refine (nil_do _ _ _ _ _ _ _ _).mono ?_
  rintro r v1 ⟨rfl, hk1⟩
  have d5 := hk1.cv c5 (by simp)
  have s1 := blk_lt (hk1.blk HA0.out (by simp))
  have K1 := Lib.hid hk1; clear hk1
  go_wp2_with fail
  refine (nil_names _ _).mono ?_
  rintro r v2 ⟨rfl, hk2⟩
  have K2 := Lib.hid hk2; clear hk2
  go_wp2
  go_ret
  refine ⟨rfl, ?_⟩
  have B : Kept [] w v2 := ((((Kept.refl [] w).alloc _).trans K0.out).trans K1.out |>.alloc _).trans K2.out
  exact B.below (by simp) (Nat.le_refl _)
end Go.Proofs.Ytehdhnkkkocffaa
