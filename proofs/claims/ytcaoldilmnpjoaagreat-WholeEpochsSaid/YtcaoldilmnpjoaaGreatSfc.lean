/-
  The top: the order of dependencies (channel.compare), as slices.SortFunc wants it.
-/
import Derived.Test.YtcaoldilmnpjoaaGreatSrd
import Derived.Test.YtcaoldilmnpjoaaGreatSfk
import Derived.Deep.RegionHeld3
import Derived.LoopN
namespace Go.Proofs.YtcaoldilmnpjoaaGreat
set_option linter.all false
open Go.RowKit Go.Sx Go.Maps Go.Sort Go.Shelf
set_option maxRecDepth 100000
set_option maxHeartbeats 4000000
def or3 (a b c : Int) : Int := if a = 0 then (if b = 0 then c else b) else a
theorem or3_in (a b c : Int) (blk : Nat) (W : World) (h0 : W.cell? ⟨blk, 0, none⟩ = some (.int .i64 a)) (h1 : W.cell? ⟨blk, 1, none⟩ = some (.int .i64 b)) (h2 : W.cell? ⟨blk, 2, none⟩ = some (.int .i64 c)) :
    Calls Tryz.prog 50 #[.slice (some ⟨blk, 0, none⟩) 3 3] W fun e w' => e = .returned (.int .i64 (or3 a b c)) ∧ w' = W := by
  by_cases ha : a = 0
  · subst ha
    by_cases hb : b = 0
    · subst hb
      by_cases hc : c = 0
      · subst hc
        go_enter Tryz.func50, Tryz.ntmps50
        go_wp2
        refine wp_loop_rounds 4 ?_
        rw [rounds_succ]
        go_wp2
        rw [rounds_succ]
        go_wp2
        rw [rounds_succ]
        go_wp2
        rw [rounds_succ]
        go_wp2
        go_ret
        exact ⟨rfl, rfl⟩
      · have e : or3 0 0 c = c := rfl
        rw [e]
        go_enter Tryz.func50, Tryz.ntmps50
        go_wp2
        refine wp_loop_rounds 3 ?_
        rw [rounds_succ]
        go_wp2
        rw [rounds_succ]
        go_wp2
        rw [rounds_succ]
        go_wp2
        go_ret
        exact ⟨rfl, rfl⟩
    · have e : or3 0 b c = b := by unfold or3; rw [if_pos rfl, if_neg hb]
      rw [e]
      go_enter Tryz.func50, Tryz.ntmps50
      go_wp2
      refine wp_loop_rounds 2 ?_
      rw [rounds_succ]
      go_wp2
      rw [rounds_succ]
      go_wp2
      go_ret
      exact ⟨rfl, rfl⟩
  · have e : or3 a b c = a := if_neg ha
    rw [e]
    go_enter Tryz.func50, Tryz.ntmps50
    go_wp2
    refine wp_loop_rounds 1 ?_
    rw [rounds_succ]
    go_wp2
    go_ret
    exact ⟨rfl, rfl⟩
theorem cmp_in (x y : Int) (W : World) : Calls Tryz.prog 51 #[.int .i64 x, .int .i64 y] W fun e w' => e = .returned (.int .i64 (Lib.compareInt x y)) ∧ w' = W := AnyG.cmp_Compare_int cmpL x y W
theorem cells3 {w : World} {a b c : Value} {t : TypeId} {k : Nat} (h : w.heap[k]? = some (.cells #[a, b, c] t (0, 0))) : w.cell? ⟨k, 0, none⟩ = some a ∧ w.cell? ⟨k, 1, none⟩ = some b ∧ w.cell? ⟨k, 2, none⟩ = some c := by
  refine ⟨?_, ?_, ?_⟩ <;> (simp only [World.cell?, h]; rfl)
theorem alloc_grow_d (W1 : World) (o : Obj) {w : World} {p : GrownBy} (h : w = grow (W1.drewN p.n) p.os) : ∃ p : GrownBy, w.alloc o = grow (W1.drewN p.n) p.os := ⟨⟨p.n, p.os ++ #[o]⟩, by rw [h, alloc_eq_grow, grow_grow]⟩
theorem or3_new (a b c : Int) (w : World) (t : TypeId) : Calls Tryz.prog 50 #[.slice (some ⟨w.heap.size, 0, none⟩) 3 3] (w.alloc (Obj.cells #[.int .i64 a, .int .i64 b, .int .i64 c] t)).drew fun e w' => e = .returned (.int .i64 (or3 a b c)) ∧ w' = (w.alloc (Obj.cells #[.int .i64 a, .int .i64 b, .int .i64 c] t)).drew :=
  or3_in a b c w.heap.size _ (cells3 (World.alloc_heap_new _ _)).1 (cells3 (World.alloc_heap_new _ _)).2.1 (cells3 (World.alloc_heap_new _ _)).2.2
theorem cell_alloc_d {w : World} {a : Addr} {v : Value} (o : Obj) (h : w.cell? a = some v) : (w.alloc o).cell? a = some v := by
  have hb : a.block < w.heap.size := by
    unfold World.cell? at h
    split at h
    · rename_i c _ _ e; exact (Array.getElem?_eq_some_iff.1 e).1
    · cases h
  rw [← h]
  unfold World.cell?
  rw [Below.heap_alloc _ _ _ hb]
theorem drew_grow_d (W1 : World) {w : World} (h : ∃ p : GrownBy, w = grow (W1.drewN p.n) p.os) (m : Nat) : ∃ p : GrownBy, w.drewN m = grow (W1.drewN p.n) p.os := by
  obtain ⟨p, rfl⟩ := h
  exact ⟨⟨p.n + m, p.os⟩, by rw [← World.drewN_drewN]; rfl⟩
theorem alloc_grow_e (W1 : World) (o : Obj) {w : World} (h : ∃ p : GrownBy, w = grow (W1.drewN p.n) p.os) : ∃ p : GrownBy, w.alloc o = grow (W1.drewN p.n) p.os := by
  obtain ⟨p, hp⟩ := h
  exact alloc_grow_d W1 o hp
def cfD (x y : DepT) : Int := or3 (Lib.compareInt x.1 y.1) (Lib.compareInt x.2.1 y.2.1) (Lib.compareInt x.2.2 y.2.2)
theorem cmpD_in (x y : DepT) (W : World) : Calls Tryz.prog 26 #[aggD x, aggD y] W fun e w' => e = .returned (.int .i64 (cfD x y)) ∧ ∃ q os', w' = grow (W.drewN q) os' := by
  obtain ⟨x1, x2, x3⟩ := x
  obtain ⟨y1, y2, y3⟩ := y
  have hX := World.alloc_heap_new W (Obj.cells #[.int .i64 x1, .int .i64 x2, .int .i64 x3] 76)
  have hX2 := (Below.heap_alloc (W.alloc (Obj.cells #[.int .i64 x1, .int .i64 x2, .int .i64 x3] 76)) (Obj.cells #[.int .i64 y1, .int .i64 y2, .int .i64 y3] 76) W.heap.size (by simp)).trans hX
  have hY := World.alloc_heap_new (W.alloc (Obj.cells #[.int .i64 x1, .int .i64 x2, .int .i64 x3] 76)) (Obj.cells #[.int .i64 y1, .int .i64 y2, .int .i64 y3] 76)
  rw [World.size_alloc] at hY
  obtain ⟨a1, a2, a3⟩ := cells3 hX2
  obtain ⟨b1, b2, b3⟩ := cells3 hY
  have hg : ∃ p : GrownBy, (W.alloc (Obj.cells #[.int .i64 x1, .int .i64 x2, .int .i64 x3] 76)).alloc (Obj.cells #[.int .i64 y1, .int .i64 y2, .int .i64 y3] 76) = grow (W.drewN p.n) p.os := by
    obtain ⟨p, hp⟩ := alloc_grow_d W (Obj.cells #[.int .i64 x1, .int .i64 x2, .int .i64 x3] 76) (w := W) (p := ⟨0, #[]⟩) (by rw [grow_empty]; rfl)
    exact alloc_grow_d W _ hp
  show Calls Tryz.prog 26 #[.agg #[.int .i64 x1, .int .i64 x2, .int .i64 x3], .agg #[.int .i64 y1, .int .i64 y2, .int .i64 y3]] W fun e w' => e = .returned (.int .i64 (or3 (Lib.compareInt x1 y1) (Lib.compareInt x2 y2) (Lib.compareInt x3 y3))) ∧ ∃ q os', w' = grow (W.drewN q) os'
  have hc1 := cmp_in x1 y1
  have hc2 := cmp_in x2 y2
  have hc3 := cmp_in x3 y3
  generalize Lib.compareInt x1 y1 = r1 at *
  generalize Lib.compareInt x2 y2 = r2 at *
  generalize Lib.compareInt x3 y3 = r3 at *
  clear hX hX2 hY
  go_enter Tryz.func26, Tryz.ntmps26
  go_wp2
  generalize hW1 : (W.alloc (Obj.cells #[.int .i64 x1, .int .i64 x2, .int .i64 x3] 76)).alloc (Obj.cells #[.int .i64 y1, .int .i64 y2, .int .i64 y3] 76) = W1 at *
  clear hW1
  generalize W.heap.size = k at *
  go_region_held3 (fun w' => w'.cell? ⟨k, 0, none⟩ = some (.int .i64 x1) ∧ w'.cell? ⟨k, 1, none⟩ = some (.int .i64 x2) ∧ w'.cell? ⟨k, 2, none⟩ = some (.int .i64 x3) ∧ w'.cell? ⟨k + 1, 0, none⟩ = some (.int .i64 y1) ∧ w'.cell? ⟨k + 1, 1, none⟩ = some (.int .i64 y2) ∧ w'.cell? ⟨k + 1, 2, none⟩ = some (.int .i64 y3) ∧ ∃ p : GrownBy, w' = grow (W.drewN p.n) p.os)
    (first | assumption | (and_intros <;> first | assumption | exact cell_alloc_d _ (by assumption) | exact drew_grow_d W (by assumption) _ | exact alloc_grow_e W _ (by assumption) | exact drew_grow_d W (by assumption) 1 | exact drew_grow_d W (alloc_grow_e W _ (by assumption)) 1))
    (first
      | (go_at_call_of 51 (Value.int IntKind.i64 x1); refine (hc1 _).mono ?_; rintro e w' ⟨rfl, rfl⟩)
      | (go_at_call_of 51 (Value.int IntKind.i64 x2); refine (hc2 _).mono ?_; rintro e w' ⟨rfl, rfl⟩)
      | (go_at_call_of 51 (Value.int IntKind.i64 x3); refine (hc3 _).mono ?_; rintro e w' ⟨rfl, rfl⟩)
      | (go_at_call 50; refine (or3_new r1 r2 r3 _ _).mono ?_; rintro e w' ⟨rfl, rfl⟩))
  obtain ⟨p, hp⟩ := drew_grow_d W (alloc_grow_e W (Obj.cells #[.int .i64 r1, .int .i64 r2, .int .i64 r3] 3) (by assumption)) 1
  go_wp2
  go_ret
  exact ⟨rfl, p.n, p.os, hp⟩
theorem cmpLaysD (blk off size : Nat) (w : World) : CmpLays Tryz.prog 26 #[] cellsD 3 cfD blk off size w := fun _ _ _ _ x y => cmpD_in x y _
/-- The order of dependencies. -/
def ltD (x y : DepT) : Bool := decide (x.1 < y.1 ∨ (x.1 = y.1 ∧ (x.2.1 < y.2.1 ∨ (x.2.1 = y.2.1 ∧ x.2.2 < y.2.2))))
theorem cmpI_cases (a b : Int) : (a < b ∧ Lib.compareInt a b = -1) ∨ (a = b ∧ Lib.compareInt a b = 0) ∨ (b < a ∧ Lib.compareInt a b = 1) := by
  unfold Lib.compareInt
  rcases Int.lt_trichotomy a b with h | h | h
  · exact .inl ⟨h, by simp [h]⟩
  · subst h; exact .inr (.inl ⟨rfl, by simp⟩)
  · exact .inr (.inr ⟨h, by simp [h, Int.not_lt.2 (Int.le_of_lt h)]⟩)
theorem ltOf_D (x y : DepT) : ltOf cfD x y = ltD x y := by
  unfold ltOf cfD ltD or3
  rw [decide_eq_decide]
  rcases cmpI_cases x.1 y.1 with ⟨h1, e1⟩ | ⟨h1, e1⟩ | ⟨h1, e1⟩ <;> rcases cmpI_cases x.2.1 y.2.1 with ⟨h2, e2⟩ | ⟨h2, e2⟩ | ⟨h2, e2⟩ <;> rcases cmpI_cases x.2.2 y.2.2 with ⟨h3, e3⟩ | ⟨h3, e3⟩ | ⟨h3, e3⟩ <;> rw [e1, e2, e3] <;> simp <;> omega
theorem swoD : SWO (ltOf cfD) where
  irrefl x := by rw [ltOf_D]; simp [ltD]
  trans x y z h1 h2 := by rw [ltOf_D] at *; simp only [ltD, decide_eq_true_eq] at *; omega
  ntrans x y z h1 h2 := by rw [ltOf_D] at *; simp only [ltD, decide_eq_false_iff_not] at *; omega
theorem totD : ∀ x y : DepT, ltOf cfD x y = false → ltOf cfD y x = false → x = y := fun x y h1 h2 => by
  rw [ltOf_D] at *
  simp only [ltD, decide_eq_false_iff_not] at *
  exact Prod.ext (by omega) (Prod.ext (by omega) (by omega))
/-- In ascending order. -/
def sortD (l : List DepT) : List DepT := l.mergeSort fun x y => !ltD y x
theorem sortD_perm (l : List DepT) : (sortD l).Perm l := List.mergeSort_perm _ _
theorem sortD_congr {l m : List DepT} (h : l.Perm m) : sortD l = sortD m := by
  have tr : ∀ a b c : DepT, (!ltD b a) = true → (!ltD c b) = true → (!ltD c a) = true := fun a b c h1 h2 => by simp only [ltD, Bool.not_eq_true', decide_eq_false_iff_not] at *; omega
  have to : ∀ a b : DepT, ((!ltD b a) || (!ltD a b)) = true := fun a b => by simp only [ltD, Bool.or_eq_true, Bool.not_eq_true', decide_eq_false_iff_not]; omega
  refine List.Perm.eq_of_pairwise (le := fun a b => (!ltD b a) = true) (fun a b _ _ h1 h2 => ?_) (List.pairwise_mergeSort tr to l) (List.pairwise_mergeSort tr to m) (((List.mergeSort_perm l _).trans h).trans (List.mergeSort_perm m _).symm)
  simp only [ltD, Bool.not_eq_true', decide_eq_false_iff_not] at h1 h2
  exact Prod.ext (by omega) (Prod.ext (by omega) (by omega))
end Go.Proofs.YtcaoldilmnpjoaaGreat
