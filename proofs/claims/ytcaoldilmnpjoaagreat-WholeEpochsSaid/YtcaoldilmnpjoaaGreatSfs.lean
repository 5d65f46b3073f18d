/-
  The top: slices.SortedFunc of the keys of a map of dependencies: the keys in ascending order.
-/
import Derived.Test.YtcaoldilmnpjoaaGreatSfa
import Derived.Test.YtcaoldilmnpjoaaGreatSfc
namespace Go.Proofs.YtcaoldilmnpjoaaGreat
set_option linter.all false
open Go.RowKit Go.Sx Go.Maps Go.Sort Go.Shelf
set_option maxRecDepth 100000
set_option maxHeartbeats 4000000
theorem flat_len : ∀ ts : List DepT, (ts.flatMap cellsD).length = ts.length * 3
  | [] => rfl
  | x :: r => by rw [List.flatMap_cons, List.length_append, flat_len r, List.length_cons]; show 3 + _ = _; omega
theorem flat_get : ∀ (ts : List DepT) (t : Nat), t < ts.length * 3 → (ts.flatMap cellsD)[t]? = (cellsD (ts.getD (t / 3) default))[t % 3]?
  | [], t, h => by simp at h
  | x :: r, t, h => by
    rw [List.flatMap_cons]
    by_cases h3 : t < 3
    · rw [List.getElem?_append_left (by exact h3), Nat.div_eq_of_lt h3, Nat.mod_eq_of_lt h3]; rfl
    · rw [List.getElem?_append_right (by show 3 ≤ t; omega), show (cellsD x).length = 3 from rfl, flat_get r (t - 3) (by simp only [List.length_cons] at h; omega)]
      have e1 : t / 3 = (t - 3) / 3 + 1 := by omega
      have e2 : t % 3 = (t - 3) % 3 := by omega
      rw [e1, e2]; rfl
theorem flatK_list (ts : List DepT) : (flatK cellsD 3 ts.toArray).toList = ts.flatMap cellsD := by
  have hs : (flatK cellsD 3 ts.toArray).size = ts.length * 3 := by simp
  refine List.ext_getElem? fun t => ?_
  by_cases ht : t < ts.length * 3
  · rw [flat_get ts t ht, Array.getElem?_toList]
    have h1 := get_flatK cellsD 3 ts.toArray t (by simpa using ht)
    have h3 : t % 3 < (cellsD (ts.getD (t / 3) default)).length := by show t % 3 < 3; omega
    rw [Array.getElem?_eq_getElem (by omega), List.getElem?_eq_getElem h3]
    rw [getElem!_pos _ t (by omega)] at h1
    rw [h1]
    have e : ts.toArray[t / 3]! = ts.getD (t / 3) default := by
      have hl : t / 3 < ts.length := by omega
      rw [getElem!_pos _ _ (by simpa using hl), List.getD_eq_getElem?_getD, List.getElem?_eq_getElem hl]; simp
    rw [e, getElem!_pos (cellsD (ts.getD (t / 3) default)) (t % 3) h3]
  · rw [List.getElem?_eq_none (by rw [Array.length_toList]; omega), List.getElem?_eq_none (by rw [flat_len]; omega)]
theorem holdsK_block {w : World} {g : Nat} {cur : Array Value} {e : TypeId} {ss : List DepT} (hb : w.heap[g]? = some (.cells cur e (0, 0))) (ht : cur.toList.take (ss.length * 3) = ss.flatMap cellsD) : HoldsK cellsD 3 w g 0 ss.toArray := by
  intro j hj
  have hs : (flatK cellsD 3 ss.toArray).size = ss.length * 3 := by simp
  rw [hs] at hj
  refine ⟨?_, by simp [World.frozen?, hb]⟩
  have h1 : (cur.toList.take (ss.length * 3))[j]? = (ss.flatMap cellsD)[j]? := by rw [ht]
  rw [List.getElem?_take_of_lt hj, ← flatK_list, Array.getElem?_toList, Array.getElem?_toList] at h1
  simp only [World.cell?, hb, Nat.zero_add]
  simp only [Option.isSome_none, Bool.false_eq_true, if_false]
  rw [h1, Array.getElem?_eq_getElem (by omega)]
  rw [getElem!_pos (flatK cellsD 3 ss.toArray) j (by omega)]; rfl
theorem heap_sortedD {w : World} {g n : Nat} {os : Array Obj} {cur : Array Value} {e : TypeId} {fr : Nat × Nat} (d : Array DepT) (hb : w.heap[g]? = some (.cells cur e fr)) :
    (sortWorldK cellsD 3 w g 0 n d os).heap[g]? = some (.cells (putCells id 0 (flatK cellsD 3 d) cur) e fr) := by
  have hg : g < w.heap.size := (Array.getElem?_eq_some_iff.1 hb).1
  show (grow (putRow id (Sort.ahead w n) g 0 (flatK cellsD 3 d)) os).heap[g]? = _
  rw [heap_grow_old _ _ (by simpa using hg)]
  simp [putRow, mapBlock, Sort.ahead, Array.getElem?_modify, hb, onCells]
theorem grownBy_sortedD {w : World} {g n : Nat} {os : Array Obj} (d : Array DepT) : w.grownBy (sortWorldK cellsD 3 w g 0 n d os) (some g) := by
  show w.grownBy (grow (putRow id (Sort.ahead w n) g 0 (flatK cellsD 3 d)) os) (some g)
  refine ⟨rfl, rfl, rfl, by simp, fun k hk hne => ?_⟩
  rw [heap_grow_old _ _ (by simpa using hk)]
  have : g ≠ k := fun e => hne (by rw [e])
  simp [putRow, mapBlock, Sort.ahead, Array.getElem?_modify, this]
theorem take_putCellsD (cur F : Array Value) (h : F.size ≤ cur.size) : (putCells id 0 F cur).toList.take F.size = F.toList := by
  apply List.ext_getElem?
  intro j
  by_cases hj : j < F.size
  · rw [List.getElem?_take_of_lt hj, Array.getElem?_toList, Array.getElem?_toList]
    simp [putCells, hj, show j < cur.size by omega]
  · rw [List.getElem?_take_eq_none (by omega), List.getElem?_eq_none (by simp; omega)]
theorem ownsRow_sortedD {w : World} {base g cap n : Nat} {e : TypeId} {os : Array Obj} {cur : Array Value} {ss ts : List DepT} (hl : ts.length = ss.length) (hbase : base ≤ g) (hb : w.heap[g]? = some (.cells cur e (0, 0)))
    (h1 : ss.length ≤ cap) (h2 : cap ≤ maxLen) (h3 : cur.size = cap * 3) :
    (sortWorldK cellsD 3 w g 0 n ts.toArray os).ownsRow base e 3 (.slice (some ⟨g, 0, none⟩) ss.length cap) ss.length (ts.flatMap cellsD) := by
  refine ⟨by rw [flat_len, hl], .inr ⟨g, cap, _, rfl, hbase, heap_sortedD _ hb, h1, h2, by simp [putCells, h3], ?_⟩⟩
  have hs : (flatK cellsD 3 ts.toArray).size = ss.length * 3 := by simp [hl]
  rw [← flatK_list, ← hs]
  exact take_putCellsD cur _ (by rw [hs, h3]; exact Nat.mul_le_mul_right 3 h1)
theorem sort_ltOf (l : List DepT) : (l.mergeSort fun x y => !(ltOf cfD) y x) = sortD l := by
  unfold sortD
  congr 1
  funext x y
  rw [ltOf_D]
theorem sorted_in (F : Fence) (n : Nat) (hro : F.round = none) (hfn : ∀ f, F.fn f) (hW : ∀ {f : FuncId} {args : Array Value} {w : World} {Q : Ending → World → Prop}, Calls Tryz.prog f args w Q → CallsIn F (n - 1) Tryz.prog f args w Q) (hn : 4 ≤ n) (g : Nat) (lb : Array Value) (eg : ∀ args w, (callFunc g args).run Tryz.prog w = .ok (.enter g args) w)
    (S : List DepT → Prop) (N : Nat) (hN : N ≤ maxLen) (hNb : N * 24 ≤ 140737488355328) (w : World) (hseq : SeqGives F (n - 1 - 1 - 1) Tryz.prog g lb aggD S N w) :
    CallsIn F n Tryz.prog 24 #[.func (.func g) #[] lb, .func (.func 26) #[] #[]] w fun e w' => ∃ (v : Value) (ss : List DepT), e = .returned v ∧ S ss ∧ w'.ownsRow w.heap.size 76 3 v ss.length ((sortD ss).flatMap cellsD) ∧ (v = .slice none 0 0 ↔ ss = []) ∧ Below w.heap.size w w' := by
  have h1 : 1 ≤ n := by omega
  have h48 := hfn 48
  have h74 := hfn 74
  have cN := fun W => (AnyF.slices_SortFunc_none srdL none 0 (.func (.func 26) #[] #[]) W)
  have cN : ∀ W, CallsIn F (n - 1) Tryz.prog 48 #[.slice none 0 0, .func (.func 26) #[] #[]] W fun e w' => e = .returned (.tuple #[]) ∧ w' = W := fun W => hW (cN W)
  refine callsIn_of_wp Tryz.func24 rfl (hfn _) ?_ hro
  simp only [Tryz.ntmps24, List.size_toArray, List.length_cons, List.length_nil, Nat.reduceAdd, Nat.reduceSub, Array.replicate_succ, Array.replicate_zero, List.push_toArray, List.append_toArray, List.nil_append, List.cons_append]
  gi_wp2_with (gi_at_call 74; refine (collect_in F (n - 1) (hfn _) (hfn _) hro (by omega) g lb (hfn _) eg _ N hN hNb _ hseq.bounded).mono ?_; rintro e W ⟨v, ss, rfl, ⟨hS, hlen⟩, hrow, hnil, hb⟩)
  rcases hrow.2 with ⟨rfl, hz⟩ | ⟨gb, cap, cur, rfl, hbase, hgb, r1, r2, r3, r4⟩
  · have hss : ss = [] := List.eq_nil_of_length_eq_zero hz
    subst hss
    gi_wp2_with (gi_at_call 48; refine (cN W).mono ?_; rintro e w' ⟨rfl, rfl⟩)
    go_ret
    exact ⟨.slice none 0 0, [], rfl, hS, by have e : sortD [] = [] := by simp [sortD]
                                            rw [e]; simpa using hrow, by simp, hb⟩
  · have hH : HoldsK cellsD 3 W gb 0 ss.toArray := holdsK_block hgb r4
    have hgl : gb < W.heap.size := (Array.getElem?_eq_some_iff.1 hgb).1
    have hsz : ss.toArray.size < 4611686018427387904 := by simp; omega
    have eg2 : ∀ args w, (callFunc 26 args).run Tryz.prog w = .ok (.enter 26 args) w := enters_of Tryz.func26 (by kernel_rfl) rfl
    have cS := AnyQ.slices_SortFunc_total srdL 3 (fun w => Tryz.isAgg76 w) (fun w => Tryz.sizeOf76 w) cellsD (fun _ => rfl) (fun x v hv => by simp [cellsD] at hv; rcases hv with rfl | rfl | rfl <;> rfl) cfD swoD 26 #[] gb 0 cap ss.toArray W eg2 (cmpLaysD gb 0 _ W) hH hgl hsz totD
    rw [sort_ltOf] at cS
    change Calls Tryz.prog 48 _ _ _ at cS
    rw [List.size_toArray] at cS
    have cS := hW cS
    gi_wp2_with (gi_at_call 48; refine cS.mono ?_; rintro e w' ⟨rfl, nn, os, rfl⟩)
    go_ret
    exact ⟨_, ss, rfl, hS, ownsRow_sortedD (sortD_perm ss).length_eq hbase hgb r1 r2 r3, hnil, hb.grown (grownBy_sortedD _) hb.size (fun j hj => by cases hj; exact hbase)⟩
end Go.Proofs.YtcaoldilmnpjoaaGreat
