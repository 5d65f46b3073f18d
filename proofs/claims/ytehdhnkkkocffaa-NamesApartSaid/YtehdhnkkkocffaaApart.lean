/-
  NamesApart (layer 40): the walk.
-/
import Derived.Test.YtehdhnkkkocffaaVer
namespace Go.Proofs.Ytehdhnkkkocffaa
set_option linter.unusedSimpArgs false
set_option linter.unusedVariables false
set_option linter.unusedSectionVars false
open Go.RowKit Go.Maps Go.WideMaps

theorem act_other (M : NMap) (cnt : Nat) (a : AC) (k' : List UInt8) (h : k' ≠ key a) : getE (actF M cnt a).m k' = getE M k' := by
  unfold actF bindF renewF moveF dropF lookF
  repeat' split
  all_goals first | rfl | exact getE_set_other _ h _

theorem act_local (M M' : NMap) (cnt cnt' : Nat) (a : AC) (h : getE M (key a) = getE M' (key a)) (h1 : cnt < 1000) (h2 : cnt' < 1000) :
    (actF M' cnt' a).node = (actF M cnt a).node ∧ (actF M' cnt' a).port = (actF M cnt a).port ∧ (actF M' cnt' a).ver = (actF M cnt a).ver ∧ (actF M' cnt' a).err = (actF M cnt a).err ∧ getE (actF M cnt a).m (key a) = getE (actF M' cnt' a).m (key a) := by
  have hf : ∀ b, findF M' a b = findF M a b := fun b => by unfold findF; rw [h]
  have n1 : ¬ (1000 ≤ cnt ∧ (M (key a)).isSome = false) := by omega
  have n2 : ¬ (1000 ≤ cnt' ∧ (M' (key a)).isSome = false) := by omega
  unfold actF
  split
  · unfold bindF
    rw [if_neg n1, if_neg n2, ← h]
    repeat' split
    all_goals simp_all [getE_set_same]
  split
  · unfold renewF
    rw [hf, ← h]
    split <;> simp_all [getE_set_same]
  split
  · unfold moveF
    rw [hf, ← h]
    split <;> simp_all [getE_set_same]
  split
  · unfold dropF
    rw [← h]
    repeat' split
    all_goals simp_all [getE_set_same]
  · unfold lookF
    rw [← h]
    repeat' split
    all_goals simp_all

theorem str_beq (a b : ByteArray) : (a.toList == b.toList) = decide (a = b) := by
  rw [Bool.eq_iff_iff, beq_iff_eq, decide_eq_true_eq, ByteArray.toList_eq, ByteArray.toList_eq]
  constructor
  · intro h; cases a; cases b; simp only [Array.toList_inj] at h; exact congrArg _ h
  · intro h; rw [h]

structure ARel (w wr : World) (db mb da ma : Nat) (k : Nat) (M M' : NMap) (cnt cnt' : Nat) (nm : List UInt8) : Prop where
  dir : IsDir wr db mb M cnt
  dir' : IsDir wr da ma M' cnt'
  ok : OkM k M cnt
  ok' : OkM k M' cnt'
  same : getE M nm = getE M' nm
  below : Below w.heap.size w wr
  h1 : w.heap.size ≤ mb
  h2 : w.heap.size ≤ ma
  n1 : da ≠ mb
  n2 : ma ≠ mb
  n3 : db ≠ ma
  n4 : w.heap.size ≤ db
  n5 : w.heap.size ≤ da

set_option maxRecDepth 100000 in
set_option maxHeartbeats 2000000 in
theorem apart_walk (a : Option Addr) (len cap : Nat) (l : List AC) (nm : ByteArray) (w : World) (ha : IsActs w a len l) (hnm : nm.size ≤ maxLen) :
    Calls Try.prog 4 #[.slice a len cap, .string nm] w fun r w' => r = .returned (.bool true) ∧ Below w.heap.size w w' := by
  have hm := ha.hmax
  unfold maxLen at hm
  by_cases hl : 40 < len
  · go_enter Try.func4, Try.ntmps4
    go_wp2_with (go_at_call 12; refine (awake_any _).mono ?_; rintro r w1 ⟨rfl, hk1⟩)
    go_ret
    exact ⟨rfl, hk1.below (by simp) (Nat.le_refl _)⟩
  have hl2 : len ≤ 40 := by omega
  go_enter Try.func4, Try.ntmps4
  go_wp2_with fail
  refine (awake_any _).mono ?_
  rintro r w0 ⟨rfl, hk0⟩
  have K0 := Lib.hid hk0; clear hk0
  go_wp2_with fail
  refine (new_any _).mono ?_
  rintro r w1 ⟨rfl, hd1, hk1, hz1⟩
  have HD1 := Lib.hid hd1; clear hd1
  have K1 := Lib.hid hk1; clear hk1
  have Z1 := Lib.hid hz1; clear hz1
  go_wp2_with fail
  refine (new_any _).mono ?_
  rintro r w2 ⟨rfl, hd2, hk2, hz2⟩
  have HD2 := Lib.hid hd2; clear hd2
  have K2 := Lib.hid hk2; clear hk2
  have Z2 := Lib.hid hz2; clear hz2
  go_wp2
  go_loopw [22] (fun i wr => ∃ k M M' cnt cnt', k ≤ len ∧ i = .int .i64 (k : Nat) ∧ ARel w wr (w0.heap.size + 1) w0.heap.size (w1.heap.size + 1) w1.heap.size k M M' cnt cnt' nm.data.toList) (fun i _ => len - (intOf i).toNat)
  case atStart =>
    refine ⟨0, fun _ => none, fun _ => none, 0, 0, Nat.zero_le _, rfl, ?_⟩
    have z := Z1.out
    have z2 := Z2.out
    have s0 := K0.out.size
    exact ⟨HD1.out.kept K2.out (by simp) (by simp), HD2.out, okM_empty, okM_empty, rfl, ((K0.out.trans K1.out).trans K2.out).below (by simp) (Nat.le_refl _), by omega, by omega, by omega, by omega, by omega, by omega, by omega⟩
  case round =>
    obtain ⟨k, M, M', cnt, cnt', hk, rfl, hrel⟩ := hrel
    have HR := Lib.hid hrel; clear hrel
    by_cases hlt : k < len
    · skip
      obtain ⟨b, off, rfl, hb, hcs⟩ : ∃ b off, a = some ⟨b, off, none⟩ ∧ b < w.heap.size ∧ ∀ i (h : i < l.length), ∀ j v, (AC.cells l[i])[j]? = some v → w.cell? ⟨b, off + i * 7 + j, none⟩ = some v := by
        rcases ha.cells with h | h
        · omega
        · exact h
      have hkl : k < l.length := by rw [ha.hlen]; exact hlt
      have hcell : ∀ j v, (AC.cells l[k])[j]? = some v → wr.cell? ⟨b, off + k * 7 + j, none⟩ = some v := fun j v h => (HR.out.below.cell hb).trans (hcs k hkl j v h)
      have hns := ha.small _ (List.getElem_mem hkl)
      generalize l[k] = x at hcell hns
      clear hcs
      have e0 := hcell 0 _ rfl
      have e1 := hcell 1 _ rfl
      have e2 := hcell 2 _ rfl
      have e3 := hcell 3 _ rfl
      have e4 := hcell 4 _ rfl
      have e5 := hcell 5 _ rfl
      have e6 := hcell 6 _ rfl
      clear hcell
      simp only [Nat.add_zero] at e0
      have ok2 := HR.out.ok.act (by omega) x
      have ok2' := HR.out.ok'.act (by omega) x
      have oth := act_other M cnt x nm.data.toList
      have loc := act_local M M' cnt cnt' x
      have DO := fun (w' : World) (h : IsDir w' (w0.heap.size + 1) w0.heap.size M cnt) => do_any h HR.out.ok x hns
      have DO' := fun (w' : World) (h : IsDir w' (w1.heap.size + 1) w1.heap.size M' cnt') => do_any h HR.out.ok' x hns
      have OK2 := Lib.hid ok2; clear ok2
      have OK2' := Lib.hid ok2'; clear ok2'
      have OTH := Lib.hid oth; clear oth
      have LOC := Lib.hid loc; clear loc
      have HDO := Lib.hid DO; clear DO
      have HDO' := Lib.hid DO'; clear DO'
      have hdl := HR.out.dir.lt
      have hdl' := HR.out.dir'.lt
      go_wp2_with fail
      refine (HDO.out _ (HR.out.dir.kept (S := []) (by repeat (first | exact Kept.refl _ _ | refine Kept.alloc ?_ _ | refine Kept.drew ?_ | refine Kept.setCell ?_ (Or.inr (by first | exact Nat.le_refl _ | (simp; done) | (simp; omega) | omega)) _)) (by simp) (by simp))).mono ?_
      generalize actF M cnt x = R at *
      rintro r w3 ⟨rfl, hd3, hk3⟩
      have B3 := Lib.hid (hk3.blk (heap_alloc_new wr _) (by simp; omega))
      have DA3 := Lib.hid ((HR.out.dir'.kept (S := []) (w' := wr.alloc _) (by repeat (first | exact Kept.refl _ _ | refine Kept.alloc ?_ _ | refine Kept.drew ?_ | refine Kept.setCell ?_ (Or.inr (by first | exact Nat.le_refl _ | (simp; done) | (simp; omega) | omega)) _)) (by simp) (by simp)).kept hk3 (by simp; exact HR.out.n1) (by simp; exact HR.out.n2))
      have s3 : wr.heap.size < w3.heap.size := by have := hk3.size; simp at this; omega
      have HB3 := Lib.hid (Below.kept (HR.out.below.alloc (HR.out.below.size) _) hk3 (by simp; exact HR.out.h1) (by simp; have := HR.out.below.size; omega))
      have HD3 := Lib.hid hd3; clear hd3 hk3
      have c0 := cell_of_block B3.out 0
      have c1 := cell_of_block B3.out 1
      have c2 := cell_of_block B3.out 2
      have c3 := cell_of_block B3.out 3
      have c4 := cell_of_block B3.out 4
      have c5 := cell_of_block B3.out 5
      have c6 := cell_of_block B3.out 6
      clear e0 e1 e2 e3 e4 e5 e6
      simp only [List.getElem?_toArray, List.getElem?_cons_zero, List.getElem?_cons_succ] at c0 c1 c2 c3 c4 c5 c6
      by_cases hn : x.name = nm
      · have b0 : (x.name.toList == nm.toList) = true := by rw [str_beq]; simpa using hn
        have b0' : (!(x.name.toList == nm.toList)) = false := by rw [b0]; rfl
        subst hn
        obtain ⟨l1, l2, l3, l4, l5⟩ := LOC.out HR.out.same (by have := HR.out.ok.cnt; omega) (by have := HR.out.ok'.cnt; omega)
        have L5 := Lib.hid l5; clear l5
        go_wp2_with fail
        refine (HDO'.out _ (DA3.out.kept (S := []) (by repeat (first | exact Kept.refl _ _ | refine Kept.alloc ?_ _ | refine Kept.drew ?_ | refine Kept.setCell ?_ (Or.inr (by first | exact Nat.le_refl _ | (simp; done) | (simp; omega) | omega)) _)) (by simp) (by simp))).mono ?_
        generalize actF M' cnt' x = R' at *
        rintro r w4 ⟨rfl, hd4, hk4⟩
        have B4 := Lib.hid (hk4.blk (heap_alloc_new w3 _) (by simp; have := DA3.out.lt; omega))
        have D4 := Lib.hid ((HD3.out.kept (S := []) (w' := w3.alloc _) (by repeat (first | exact Kept.refl _ _ | refine Kept.alloc ?_ _ | refine Kept.drew ?_ | refine Kept.setCell ?_ (Or.inr (by first | exact Nat.le_refl _ | (simp; done) | (simp; omega) | omega)) _)) (by simp) (by simp)).kept hk4 (by simp; exact HR.out.n3) (by simp; exact fun e => HR.out.n2 e.symm))
        have s4 : w3.heap.size < w4.heap.size := by have := hk4.size; simp at this; omega
        have HB4 := Lib.hid (Below.kept (HB3.out.alloc (HB3.out.size) _) hk4 (by simp; exact HR.out.h2) (by simp; have := HB3.out.size; omega))
        have HD4 := Lib.hid hd4; clear hd4 hk4
        have p0 := cell_of_block B4.out 0
        have p1 := cell_of_block B4.out 1
        have p2 := cell_of_block B4.out 2
        simp only [List.getElem?_toArray, List.getElem?_cons_zero, List.getElem?_cons_succ] at p0 p1 p2
        go_wp2
        go_roundw
        case rel => exact ⟨k + 1, R.m, R'.m, R.cnt, R'.cnt, by omega, by go_num, ⟨D4.out.kept (S := []) (by repeat (first | exact Kept.refl _ _ | refine Kept.alloc ?_ _ | refine Kept.drew ?_ | refine Kept.setCell ?_ (Or.inr (by first | exact Nat.le_refl _ | (simp; done) | (simp; omega) | omega)) _)) (by simp) (by simp), HD4.out.kept (S := []) (by repeat (first | exact Kept.refl _ _ | refine Kept.alloc ?_ _ | refine Kept.drew ?_ | refine Kept.setCell ?_ (Or.inr (by first | exact Nat.le_refl _ | (simp; done) | (simp; omega) | omega)) _)) (by simp) (by simp), OK2.out, OK2'.out, L5.out, HB4.out.alloc (HB4.out.size) _, HR.out.h1, HR.out.h2, HR.out.n1, HR.out.n2, HR.out.n3, HR.out.n4, HR.out.n5⟩⟩
        case measure => simp [intOf]; omega
      · have b0 : (x.name.toList == nm.toList) = false := by rw [str_beq]; simpa using hn
        have b0' : (!(x.name.toList == nm.toList)) = true := by rw [b0]; rfl
        have hkn : nm.data.toList ≠ key x := fun e => hn (by
          cases hx : x.name with | mk d => cases hy : nm with | mk d' => simp [key, hx, hy] at e; rw [e])
        have OT := Lib.hid (OTH.out hkn)
        clear hn hkn
        go_wp2
        go_roundw
        case rel => exact ⟨k + 1, R.m, M', R.cnt, cnt', by omega, by go_num, ⟨HD3.out.kept (S := []) (by repeat (first | exact Kept.refl _ _ | refine Kept.alloc ?_ _ | refine Kept.drew ?_ | refine Kept.setCell ?_ (Or.inr (by first | exact Nat.le_refl _ | (simp; done) | (simp; omega) | omega)) _)) (by simp) (by simp), DA3.out.kept (S := []) (by repeat (first | exact Kept.refl _ _ | refine Kept.alloc ?_ _ | refine Kept.drew ?_ | refine Kept.setCell ?_ (Or.inr (by first | exact Nat.le_refl _ | (simp; done) | (simp; omega) | omega)) _)) (by simp) (by simp), OK2.out, HR.out.ok'.mono (by omega) (by omega), OT.out.trans HR.out.same, HB3.out.alloc (HB3.out.size) _, HR.out.h1, HR.out.h2, HR.out.n1, HR.out.n2, HR.out.n3, HR.out.n4, HR.out.n5⟩⟩
        case measure => simp [intOf]; omega
    · have hke : k = len := by omega
      go_wp2
      go_ret
      exact ⟨rfl, HR.out.below⟩
end Go.Proofs.Ytehdhnkkkocffaa
