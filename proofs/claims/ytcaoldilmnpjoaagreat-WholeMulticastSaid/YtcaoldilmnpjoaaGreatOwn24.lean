/-
  Part Own24 of the proof.
-/
import Derived.Test.YtcaoldilmnpjoaaGreatOwn4
import Derived.Test.YtcaoldilmnpjoaaGreatOwn20
import Derived.Deep.RegionHeld3
import Derived.LoopN
import Derived.Test.YtcaoldilmnpjoaaGreatOwn21
namespace Go.Proofs.YtcaoldilmnpjoaaGreat
set_option linter.all false
open Go.RowKit Go.Sx Go.Maps Go.Sort Go.Shelf
set_option maxRecDepth 100000
set_option maxHeartbeats 4000000
def or3 (a b c : Int) : Int := if a = 0 then (if b = 0 then c else b) else a
theorem or3_in (a b c : Int) (blk : Nat) (W : World) (h0 : W.cell? ⟨blk, 0, none⟩ = some (.int .i64 a)) (h1 : W.cell? ⟨blk, 1, none⟩ = some (.int .i64 b)) (h2 : W.cell? ⟨blk, 2, none⟩ = some (.int .i64 c)) :
 Calls Tryz.prog 50 #[.slice (some ⟨blk, 0, none⟩) 3 3] W fun e w' => e = .returned (.int .i64 (or3 a b c)) ∧ w' = W := by
 by_cases ha : a = 0
 · subst ha
   by_cases hb : b = 0
   · subst hb
     by_cases hc : c = 0
     · subst hc
       go_enter Tryz.func50, Tryz.ntmps50
       go_wp2
       refine wp_loop_rounds 4 ?_
       rw [rounds_succ]
       go_wp2
       rw [rounds_succ]
       go_wp2
       rw [rounds_succ]
       go_wp2
       rw [rounds_succ]
       go_wp2
       go_ret
       exact ⟨rfl, rfl⟩
     · have e : or3 0 0 c = c := rfl
       rw [e]
       go_enter Tryz.func50, Tryz.ntmps50
       go_wp2
       refine wp_loop_rounds 3 ?_
       rw [rounds_succ]
       go_wp2
       rw [rounds_succ]
       go_wp2
       rw [rounds_succ]
       go_wp2
       go_ret
       exact ⟨rfl, rfl⟩
   · have e : or3 0 b c = b := by unfold or3; rw [if_pos rfl, if_neg hb]
     rw [e]
     go_enter Tryz.func50, Tryz.ntmps50
     go_wp2
     refine wp_loop_rounds 2 ?_
     rw [rounds_succ]
     go_wp2
     rw [rounds_succ]
     go_wp2
     go_ret
     exact ⟨rfl, rfl⟩
 · have e : or3 a b c = a := if_neg ha
   rw [e]
   go_enter Tryz.func50, Tryz.ntmps50
   go_wp2
   refine wp_loop_rounds 1 ?_
   rw [rounds_succ]
   go_wp2
   go_ret
   exact ⟨rfl, rfl⟩
theorem ko (x y : Int) (W : World) : Calls Tryz.prog 51 #[.int .i64 x, .int .i64 y] W fun e w' => e = .returned (.int .i64 (Lib.compareInt x y)) ∧ w' = W := AnyG.cmp_Compare_int cmpL x y W
theorem kp {w : World} {a b c : Value} {t : TypeId} {k : Nat} (h : w.heap[k]? = some (.cells #[a, b, c] t (0, 0))) : w.cell? ⟨k, 0, none⟩ = some a ∧ w.cell? ⟨k, 1, none⟩ = some b ∧ w.cell? ⟨k, 2, none⟩ = some c := by
 refine ⟨?_, ?_, ?_⟩ <;> (simp only [World.cell?, h]; rfl)
theorem dv (W1 : World) (o : Obj) {w : World} {p : GrownBy} (h : w = grow (W1.drewN p.n) p.os) : ∃ p : GrownBy, w.alloc o = grow (W1.drewN p.n) p.os := ⟨⟨p.n, p.os ++ #[o]⟩, by rw [h, alloc_eq_grow, grow_grow]⟩
theorem or3_new (a b c : Int) (w : World) (t : TypeId) : Calls Tryz.prog 50 #[.slice (some ⟨w.heap.size, 0, none⟩) 3 3] (w.alloc (Obj.cells #[.int .i64 a, .int .i64 b, .int .i64 c] t)).drew fun e w' => e = .returned (.int .i64 (or3 a b c)) ∧ w' = (w.alloc (Obj.cells #[.int .i64 a, .int .i64 b, .int .i64 c] t)).drew :=
 or3_in a b c w.heap.size _ (kp (World.alloc_heap_new _ _)).1 (kp (World.alloc_heap_new _ _)).2.1 (kp (World.alloc_heap_new _ _)).2.2
theorem iW {w : World} {a : Addr} {v : Value} (o : Obj) (h : w.cell? a = some v) : (w.alloc o).cell? a = some v := by
 have hb : a.block < w.heap.size := by
  unfold World.cell? at h
  split at h
  · rename_i c _ _ e; exact (Array.getElem?_eq_some_iff.1 e).1
  · cases h
 rw [← h]
 unfold World.cell?
 rw [Below.heap_alloc _ _ _ hb]
theorem bN (W1 : World) {w : World} (h : ∃ p : GrownBy, w = grow (W1.drewN p.n) p.os) (m : Nat) : ∃ p : GrownBy, w.drewN m = grow (W1.drewN p.n) p.os := by
 obtain ⟨p, rfl⟩ := h
 exact ⟨⟨p.n + m, p.os⟩, by rw [← World.drewN_drewN]; rfl⟩
theorem bZ (W1 : World) (o : Obj) {w : World} (h : ∃ p : GrownBy, w = grow (W1.drewN p.n) p.os) : ∃ p : GrownBy, w.alloc o = grow (W1.drewN p.n) p.os := by
 obtain ⟨p, hp⟩ := h
 exact dv W1 o hp
def cfD (x y : aT) : Int := or3 (Lib.compareInt x.1 y.1) (Lib.compareInt x.2.1 y.2.1) (Lib.compareInt x.2.2 y.2.2)
theorem cmpD_in (x y : aT) (W : World) : Calls Tryz.prog 26 #[eG x, eG y] W fun e w' => e = .returned (.int .i64 (cfD x y)) ∧ ∃ q os', w' = grow (W.drewN q) os' := by
 obtain ⟨x1, x2, x3⟩ := x
 obtain ⟨y1, y2, y3⟩ := y
 have hX := World.alloc_heap_new W (Obj.cells #[.int .i64 x1, .int .i64 x2, .int .i64 x3] 76)
 have hX2 := (Below.heap_alloc (W.alloc (Obj.cells #[.int .i64 x1, .int .i64 x2, .int .i64 x3] 76)) (Obj.cells #[.int .i64 y1, .int .i64 y2, .int .i64 y3] 76) W.heap.size (by simp)).trans hX
 have hY := World.alloc_heap_new (W.alloc (Obj.cells #[.int .i64 x1, .int .i64 x2, .int .i64 x3] 76)) (Obj.cells #[.int .i64 y1, .int .i64 y2, .int .i64 y3] 76)
 rw [World.size_alloc] at hY
 obtain ⟨a1, a2, a3⟩ := kp hX2
 obtain ⟨b1, b2, b3⟩ := kp hY
 have hg : ∃ p : GrownBy, (W.alloc (Obj.cells #[.int .i64 x1, .int .i64 x2, .int .i64 x3] 76)).alloc (Obj.cells #[.int .i64 y1, .int .i64 y2, .int .i64 y3] 76) = grow (W.drewN p.n) p.os := by
  obtain ⟨p, hp⟩ := dv W (Obj.cells #[.int .i64 x1, .int .i64 x2, .int .i64 x3] 76) (w := W) (p := ⟨0, #[]⟩) (by rw [grow_empty]; rfl)
  exact dv W _ hp
 show Calls Tryz.prog 26 #[.agg #[.int .i64 x1, .int .i64 x2, .int .i64 x3], .agg #[.int .i64 y1, .int .i64 y2, .int .i64 y3]] W fun e w' => e = .returned (.int .i64 (or3 (Lib.compareInt x1 y1) (Lib.compareInt x2 y2) (Lib.compareInt x3 y3))) ∧ ∃ q os', w' = grow (W.drewN q) os'
 have hc1 := ko x1 y1
 have hc2 := ko x2 y2
 have hc3 := ko x3 y3
 generalize Lib.compareInt x1 y1 = r1 at *
 generalize Lib.compareInt x2 y2 = r2 at *
 generalize Lib.compareInt x3 y3 = r3 at *
 clear hX hX2 hY
 go_enter Tryz.func26, Tryz.ntmps26
 go_wp2
 generalize hW1 : (W.alloc (Obj.cells #[.int .i64 x1, .int .i64 x2, .int .i64 x3] 76)).alloc (Obj.cells #[.int .i64 y1, .int .i64 y2, .int .i64 y3] 76) = W1 at *
 clear hW1
 generalize W.heap.size = k at *
 go_region_held3 (fun w' => w'.cell? ⟨k, 0, none⟩ = some (.int .i64 x1) ∧ w'.cell? ⟨k, 1, none⟩ = some (.int .i64 x2) ∧ w'.cell? ⟨k, 2, none⟩ = some (.int .i64 x3) ∧ w'.cell? ⟨k + 1, 0, none⟩ = some (.int .i64 y1) ∧ w'.cell? ⟨k + 1, 1, none⟩ = some (.int .i64 y2) ∧ w'.cell? ⟨k + 1, 2, none⟩ = some (.int .i64 y3) ∧ ∃ p : GrownBy, w' = grow (W.drewN p.n) p.os)
  (first | assumption | (and_intros <;> first | assumption | exact iW _ (by assumption) | exact bN W (by assumption) _ | exact bZ W _ (by assumption) | exact bN W (by assumption) 1 | exact bN W (bZ W _ (by assumption)) 1))
  (first
    | (go_at_call_of 51 (Value.int IntKind.i64 x1); refine (hc1 _).mono ?_; rintro e w' ⟨rfl, rfl⟩)
    | (go_at_call_of 51 (Value.int IntKind.i64 x2); refine (hc2 _).mono ?_; rintro e w' ⟨rfl, rfl⟩)
    | (go_at_call_of 51 (Value.int IntKind.i64 x3); refine (hc3 _).mono ?_; rintro e w' ⟨rfl, rfl⟩)
    | (go_at_call 50; refine (or3_new r1 r2 r3 _ _).mono ?_; rintro e w' ⟨rfl, rfl⟩))
 obtain ⟨p, hp⟩ := bN W (bZ W (Obj.cells #[.int .i64 r1, .int .i64 r2, .int .i64 r3] 3) (by assumption)) 1
 go_wp2
 go_ret
 exact ⟨rfl, p.n, p.os, hp⟩
theorem By (blk off size : Nat) (w : World) : CmpLays Tryz.prog 26 #[] cellsD 3 cfD blk off size w := fun _ _ _ _ x y => cmpD_in x y _
def ltD (x y : aT) : Bool := decide (x.1 < y.1 ∨ (x.1 = y.1 ∧ (x.2.1 < y.2.1 ∨ (x.2.1 = y.2.1 ∧ x.2.2 < y.2.2))))
theorem fY (a b : Int) : (a < b ∧ Lib.compareInt a b = -1) ∨ (a = b ∧ Lib.compareInt a b = 0) ∨ (b < a ∧ Lib.compareInt a b = 1) := by
 unfold Lib.compareInt
 rcases Int.lt_trichotomy a b with h | h | h
 · exact .inl ⟨h, by simp [h]⟩
 · subst h; exact .inr (.inl ⟨rfl, by simp⟩)
 · exact .inr (.inr ⟨h, by simp [h, Int.not_lt.2 (Int.le_of_lt h)]⟩)
theorem pz (x y : aT) : ltOf cfD x y = ltD x y := by
 unfold ltOf cfD ltD or3
 rw [decide_eq_decide]
 rcases fY x.1 y.1 with ⟨h1, e1⟩ | ⟨h1, e1⟩ | ⟨h1, e1⟩ <;> rcases fY x.2.1 y.2.1 with ⟨h2, e2⟩ | ⟨h2, e2⟩ | ⟨h2, e2⟩ <;> rcases fY x.2.2 y.2.2 with ⟨h3, e3⟩ | ⟨h3, e3⟩ | ⟨h3, e3⟩ <;> rw [e1, e2, e3] <;> simp <;> omega
theorem swoD : SWO (ltOf cfD) where
 irrefl x := by rw [pz]; simp [ltD]
 trans x y z h1 h2 := by rw [pz] at *; simp only [ltD, decide_eq_true_eq] at *; omega
 ntrans x y z h1 h2 := by rw [pz] at *; simp only [ltD, decide_eq_false_iff_not] at *; omega
theorem totD : ∀ x y : aT, ltOf cfD x y = false → ltOf cfD y x = false → x = y := fun x y h1 h2 => by
 rw [pz] at *
 simp only [ltD, decide_eq_false_iff_not] at *
 exact Prod.ext (by omega) (Prod.ext (by omega) (by omega))
def fD (l : List aT) : List aT := l.mergeSort fun x y => !ltD y x
theorem e7 (l : List aT) : (fD l).Perm l := List.mergeSort_perm _ _
theorem uW {l m : List aT} (h : l.Perm m) : fD l = fD m := by
 have tr : ∀ a b c : aT, (!ltD b a) = true → (!ltD c b) = true → (!ltD c a) = true := fun a b c h1 h2 => by simp only [ltD, Bool.not_eq_true', decide_eq_false_iff_not] at *; omega
 have to : ∀ a b : aT, ((!ltD b a) || (!ltD a b)) = true := fun a b => by simp only [ltD, Bool.or_eq_true, Bool.not_eq_true', decide_eq_false_iff_not]; omega
 refine List.Perm.eq_of_pairwise (le := fun a b => (!ltD b a) = true) (fun a b _ _ h1 h2 => ?_) (List.pairwise_mergeSort tr to l) (List.pairwise_mergeSort tr to m) (((List.mergeSort_perm l _).trans h).trans (List.mergeSort_perm m _).symm)
 simp only [ltD, Bool.not_eq_true', decide_eq_false_iff_not] at h1 h2
 exact Prod.ext (by omega) (Prod.ext (by omega) (by omega))
theorem qN : ∀ ts : List aT, (ts.flatMap cellsD).length = ts.length * 3
 | [] => rfl
 | x :: r => by rw [List.flatMap_cons, List.length_append, qN r, List.length_cons]; show 3 + _ = _; omega
theorem qO : ∀ (ts : List aT) (t : Nat), t < ts.length * 3 → (ts.flatMap cellsD)[t]? = (cellsD (ts.getD (t / 3) default))[t % 3]?
 | [], t, h => by simp at h
 | x :: r, t, h => by
   rw [List.flatMap_cons]
   by_cases h3 : t < 3
   · rw [List.getElem?_append_left (by exact h3), Nat.div_eq_of_lt h3, Nat.mod_eq_of_lt h3]; rfl
   · rw [List.getElem?_append_right (by show 3 ≤ t; omega), show (cellsD x).length = 3 from rfl, qO r (t - 3) (by simp only [List.length_cons] at h; omega)]
     have e1 : t / 3 = (t - 3) / 3 + 1 := by omega
     have e2 : t % 3 = (t - 3) % 3 := by omega
     rw [e1, e2]; rfl
theorem qP (ts : List aT) : (flatK cellsD 3 ts.toArray).toList = ts.flatMap cellsD := by
 have hs : (flatK cellsD 3 ts.toArray).size = ts.length * 3 := by simp
 refine List.ext_getElem? fun t => ?_
 by_cases ht : t < ts.length * 3
 · rw [qO ts t ht, Array.getElem?_toList]
   have h1 := get_flatK cellsD 3 ts.toArray t (by simpa using ht)
   have h3 : t % 3 < (cellsD (ts.getD (t / 3) default)).length := by show t % 3 < 3; omega
   rw [Array.getElem?_eq_getElem (by omega), List.getElem?_eq_getElem h3]
   rw [getElem!_pos _ t (by omega)] at h1
   rw [h1]
   have e : ts.toArray[t / 3]! = ts.getD (t / 3) default := by
    have hl : t / 3 < ts.length := by omega
    rw [getElem!_pos _ _ (by simpa using hl), List.getD_eq_getElem?_getD, List.getElem?_eq_getElem hl]; simp
   rw [e, getElem!_pos (cellsD (ts.getD (t / 3) default)) (t % 3) h3]
 · rw [List.getElem?_eq_none (by rw [Array.length_toList]; omega), List.getElem?_eq_none (by rw [qN]; omega)]
theorem tV {w : World} {g : Nat} {cur : Array Value} {e : TypeId} {ss : List aT} (hb : w.heap[g]? = some (.cells cur e (0, 0))) (ht : cur.toList.take (ss.length * 3) = ss.flatMap cellsD) : HoldsK cellsD 3 w g 0 ss.toArray := by
 intro j hj
 have hs : (flatK cellsD 3 ss.toArray).size = ss.length * 3 := by simp
 rw [hs] at hj
 refine ⟨?_, by simp [World.frozen?, hb]⟩
 have h1 : (cur.toList.take (ss.length * 3))[j]? = (ss.flatMap cellsD)[j]? := by rw [ht]
 rw [List.getElem?_take_of_lt hj, ← qP, Array.getElem?_toList, Array.getElem?_toList] at h1
 simp only [World.cell?, hb, Nat.zero_add]
 simp only [Option.isSome_none, Bool.false_eq_true, if_false]
 rw [h1, Array.getElem?_eq_getElem (by omega)]
 rw [getElem!_pos (flatK cellsD 3 ss.toArray) j (by omega)]; rfl
theorem tW {w : World} {g n : Nat} {os : Array Obj} {cur : Array Value} {e : TypeId} {fr : Nat × Nat} (d : Array aT) (hb : w.heap[g]? = some (.cells cur e fr)) :
 (sortWorldK cellsD 3 w g 0 n d os).heap[g]? = some (.cells (putCells id 0 (flatK cellsD 3 d) cur) e fr) := by
 have hg : g < w.heap.size := (Array.getElem?_eq_some_iff.1 hb).1
 show (grow (putRow id (Sort.ahead w n) g 0 (flatK cellsD 3 d)) os).heap[g]? = _
 rw [heap_grow_old _ _ (by simpa using hg)]
 simp [putRow, mapBlock, Sort.ahead, Array.getElem?_modify, hb, onCells]
theorem oO {w : World} {g n : Nat} {os : Array Obj} (d : Array aT) : w.grownBy (sortWorldK cellsD 3 w g 0 n d os) (some g) := by
 show w.grownBy (grow (putRow id (Sort.ahead w n) g 0 (flatK cellsD 3 d)) os) (some g)
 refine ⟨rfl, rfl, rfl, by simp, fun k hk hne => ?_⟩
 rw [heap_grow_old _ _ (by simpa using hk)]
 have : g ≠ k := fun e => hne (by rw [e])
 simp [putRow, mapBlock, Sort.ahead, Array.getElem?_modify, this]
theorem ow (cur F : Array Value) (h : F.size ≤ cur.size) : (putCells id 0 F cur).toList.take F.size = F.toList := by
 apply List.ext_getElem?
 intro j
 by_cases hj : j < F.size
 · rw [List.getElem?_take_of_lt hj, Array.getElem?_toList, Array.getElem?_toList]
   simp [putCells, hj, show j < cur.size by omega]
 · rw [List.getElem?_take_eq_none (by omega), List.getElem?_eq_none (by simp; omega)]
theorem oJ {w : World} {base g cap n : Nat} {e : TypeId} {os : Array Obj} {cur : Array Value} {ss ts : List aT} (hl : ts.length = ss.length) (hbase : base ≤ g) (hb : w.heap[g]? = some (.cells cur e (0, 0)))
 (h1 : ss.length ≤ cap) (h2 : cap ≤ maxLen) (h3 : cur.size = cap * 3) :
 (sortWorldK cellsD 3 w g 0 n ts.toArray os).ownsRow base e 3 (.slice (some ⟨g, 0, none⟩) ss.length cap) ss.length (ts.flatMap cellsD) := by
 refine ⟨by rw [qN, hl], .inr ⟨g, cap, _, rfl, hbase, tW _ hb, h1, h2, by simp [putCells, h3], ?_⟩⟩
 have hs : (flatK cellsD 3 ts.toArray).size = ss.length * 3 := by simp [hl]
 rw [← qP, ← hs]
 exact ow cur _ (by rw [hs, h3]; exact Nat.mul_le_mul_right 3 h1)
theorem yu (l : List aT) : (l.mergeSort fun x y => !(ltOf cfD) y x) = fD l := by
 unfold fD
 congr 1
 funext x y
 rw [pz]
theorem sorted_in (F : Fence) (n : Nat) (hro : F.round = none) (hfn : ∀ f, F.fn f) (hW : ∀ {f : FuncId} {args : Array Value} {w : World} {Q : Ending → World → Prop}, Calls Tryz.prog f args w Q → CallsIn F (n - 1) Tryz.prog f args w Q) (hn : 4 ≤ n) (g : Nat) (lb : Array Value) (eg : ∀ args w, (callFunc g args).run Tryz.prog w = .ok (.enter g args) w)
 (S : List aT → Prop) (N : Nat) (hN : N ≤ maxLen) (hNb : N * 24 ≤ 140737488355328) (w : World) (hseq : SeqGives F (n - 1 - 1 - 1) Tryz.prog g lb eG S N w) :
 CallsIn F n Tryz.prog 24 #[.func (.func g) #[] lb, .func (.func 26) #[] #[]] w fun e w' => ∃ (v : Value) (ss : List aT), e = .returned v ∧ S ss ∧ w'.ownsRow w.heap.size 76 3 v ss.length ((fD ss).flatMap cellsD) ∧ (v = .slice none 0 0 ↔ ss = []) ∧ Below w.heap.size w w' := by
 have h1 : 1 ≤ n := by omega
 have h48 := hfn 48
 have h74 := hfn 74
 have cN := fun W => (AnyF.slices_SortFunc_none srdL none 0 (.func (.func 26) #[] #[]) W)
 have cN : ∀ W, CallsIn F (n - 1) Tryz.prog 48 #[.slice none 0 0, .func (.func 26) #[] #[]] W fun e w' => e = .returned (.tuple #[]) ∧ w' = W := fun W => hW (cN W)
 refine callsIn_of_wp Tryz.func24 rfl (hfn _) ?_ hro
 simp only [Tryz.ntmps24, List.size_toArray, List.length_cons, List.length_nil, Nat.reduceAdd, Nat.reduceSub, Array.replicate_succ, Array.replicate_zero, List.push_toArray, List.append_toArray, List.nil_append, List.cons_append]
 gi_wp2_with (gi_at_call 74; refine (collect_in F (n - 1) (hfn _) (hfn _) hro (by omega) g lb (hfn _) eg _ N hN hNb _ hseq.bounded).mono ?_; rintro e W ⟨v, ss, rfl, ⟨hS, hlen⟩, hrow, hnil, hb⟩)
 rcases hrow.2 with ⟨rfl, hz⟩ | ⟨gb, cap, cur, rfl, hbase, hgb, r1, r2, r3, r4⟩
 · have hss : ss = [] := List.eq_nil_of_length_eq_zero hz
   subst hss
   gi_wp2_with (gi_at_call 48; refine (cN W).mono ?_; rintro e w' ⟨rfl, rfl⟩)
   go_ret
   exact ⟨.slice none 0 0, [], rfl, hS, by have e : fD [] = [] := by simp [fD]
                                           rw [e]; simpa using hrow, by simp, hb⟩
 · have hH : HoldsK cellsD 3 W gb 0 ss.toArray := tV hgb r4
   have hgl : gb < W.heap.size := (Array.getElem?_eq_some_iff.1 hgb).1
   have hsz : ss.toArray.size < 4611686018427387904 := by simp; omega
   have eg2 : ∀ args w, (callFunc 26 args).run Tryz.prog w = .ok (.enter 26 args) w := enters_of Tryz.func26 (by kernel_rfl) rfl
   have cS := AnyQ.slices_SortFunc_total srdL 3 (fun w => Tryz.isAgg76 w) (fun w => Tryz.sizeOf76 w) cellsD (fun _ => rfl) (fun x v hv => by simp [cellsD] at hv; rcases hv with rfl | rfl | rfl <;> rfl) cfD swoD 26 #[] gb 0 cap ss.toArray W eg2 (By gb 0 _ W) hH hgl hsz totD
   rw [yu] at cS
   change Calls Tryz.prog 48 _ _ _ at cS
   rw [List.size_toArray] at cS
   have cS := hW cS
   gi_wp2_with (gi_at_call 48; refine cS.mono ?_; rintro e w' ⟨rfl, nn, os, rfl⟩)
   go_ret
   exact ⟨_, ss, rfl, hS, oJ (e7 ss).length_eq hbase hgb r1 r2 r3, hnil, hb.grown (oO _) hb.size (fun j hj => by cases hj; exact hbase)⟩
end Go.Proofs.YtcaoldilmnpjoaaGreat
