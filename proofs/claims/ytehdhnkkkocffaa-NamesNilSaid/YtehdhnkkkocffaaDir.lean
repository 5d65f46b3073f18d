/-
  The methods of a directory (layer 40): what Bind, Renew, Move, Drop, Look do.
-/
import Derived.Test.YtehdhnkkkocffaaNam
namespace Go.Proofs.Ytehdhnkkkocffaa
set_option linter.unusedSimpArgs false
set_option linter.unusedVariables false
set_option linter.unusedSectionVars false
open Go.RowKit Go.Maps Go.WideMaps

set_option maxRecDepth 100000 in
set_option maxHeartbeats 2000000 in
theorem bind_ok (w : World) (db mb cnt : Nat) (M : NMap) (hd : IsDir w db mb M cnt) (s : ByteArray) (hs : s.size ≤ maxLen) (n p t l : Int)
    (hv : validB s = true) (hp : vPlace n p = true) (ht : vTick t = true) (hl0 : 1 ≤ l) (hl1 : l ≤ 1073741824) (hlive : liveE (getE M s.data.toList) t = false)
    (hc : cnt < 1000 ∨ (M s.data.toList).isSome = true) (hcm : cnt < 1000000) (hver0 : 0 ≤ (getE M s.data.toList).ver) (hver1 : (getE M s.data.toList).ver < 4611686018427387904) :
    Calls Try.prog 15 #[.pointer (some ⟨db, 0, none⟩), .string s, .int .i64 n, .int .i64 p, .int .i64 t, .int .i64 l] w fun r w' =>
      r = .returned (.tuple #[placeV n p ((getE M s.data.toList).ver + 1), .int .i64 0]) ∧
      IsDir w' db mb (setE M s.data.toList ⟨n, p, (getE M s.data.toList).ver + 1, true, l, t + l⟩) (addE M s.data.toList cnt) ∧ Kept [mb] w w' := by
  have hkey : Hid (keyOf Try.prog 9 (.string s) = some (.string s.data.toList)) := keyOf_string_mk Try.underlying9 hs
  obtain ⟨D, hown, hrep, hsz, hget, hhas, c0, f0, hdb, hdb1, hdb2, hdb3, hdb4⟩ := hd.open s
  have HD := Lib.hid hd; clear hd
  generalize he : getE M s.data.toList = e at *
  have HE := Lib.hid he; clear he
  obtain ⟨ht0, ht1⟩ := vTick_t ht
  have hnil := fun (wx : World) (r : Option Nat) => run_eql_map_nil (P := Try.prog) wx 69 _ _ r Try.underlying69
  generalize hk : (M s.data.toList).isSome = kn at *
  have HK := Lib.hid hk; clear hk
  have hcc : kn = true ∨ (kn = false ∧ cnt < 1000) := by cases kn <;> simp_all
  clear hc
  rcases hcc with rfl | ⟨rfl, hc⟩
  all_goals
    go_enter Try.func15, Try.ntmps15
    go_wp2_with (first
      | (go_at_call 21; refine (valid_any _ _).mono ?_; rintro r w' ⟨rfl, rfl⟩)
      | (go_at_call 36; refine (vplace_any _ _ _).mono ?_; rintro r w' ⟨rfl, rfl⟩)
      | (go_at_call 37; refine (vtick_any _ _).mono ?_; rintro r w' ⟨rfl, rfl⟩)
      | (go_at_call 38; refine (live_any e _ _).mono ?_; rintro r w' ⟨rfl, rfl⟩)
      | (at_lookup; refine wpList_lookupV_ok _ rfl _ _ 69 rfl 9 74 law Try.underlying69 (zeroEnt_run _) mb cnt D rfl (hown.alloc _) _ _ rfl hkey.out (.agg #[.int .i64 e.node, .int .i64 e.port, .int .i64 e.ver, .bool e.bound, .int .i64 e.lease, .int .i64 e.fin]) _ hget.out hhas.out ?_)
      | (at_len; refine wpList_lenV _ rfl _ 69 rfl _ _ Try.underlying69 mb cnt D rfl (((hown.alloc _).alloc _).alloc _) cnt hsz ?_))
    (refine wp_region_tail 11 (by kernel_rfl) (by kernel_rfl) ?_; simp only [List.take_succ_cons, List.take_zero, List.drop_succ_cons, List.drop_zero]; (repeat (first | (refine wpStill_nilCheck _ rfl _ rfl rfl ?_; go_frame) | (refine wpStill_wp rfl rfl (fun K hK => ?_); go_step; refine hK _ _ ⟨rfl, ?_⟩; clear hK K) | (refine wpStill_skip rfl ?_; go_frame))); try refine wpStill_nil ?_)
    refine wpList_updateV _ rfl _ _ _ 69 rfl 9 74 law Try.underlying69 mb cnt D rfl ((((hown.alloc _).alloc _).alloc _).alloc _).drew (by unfold maxLen; omega) _ _ _ rfl rfl hkey.out ?_
    intro w1 hown1 hturn
    have hcl := turned_cell hturn
    have hfz := hturn.frozen
    have hsz1 := turned_size hturn
    have U := HD.out.update s.data.toList ⟨n, p, e.ver + 1, true, l, t + l⟩ D hrep.out hsz hown (((((Kept.refl [] w).alloc _).alloc _).alloc _).alloc _).drew hturn hown1
    clear hown1 hturn
    have U' := Lib.hid U; clear U
    go_wp2
    obtain ⟨U1, U2⟩ := U'.out
    refine bodyPost_ret (v := .tuple #[placeV n p (e.ver + 1), .int .i64 0]) ?_ rfl ⟨rfl, U1.kept (S := [w.heap.size]) ?_ ?_ ?_, ?_⟩
    · obtain ⟨k0, k1, k2⟩ := cells3_set (w := w1) (b := w.heap.size) (by rw [hcl]; simp [go_sem]; rfl) (by rw [hcl]; simp [go_sem]; rfl) (by rw [hcl]; simp [go_sem]; rfl) (.int .i64 n) (.int .i64 p) (.int .i64 (e.ver + 1))
      simp [results, Try.results15, go_sem, placeV, k0, k1, k2]
    · exact (((Kept.refl _ _).setCell (Or.inl (by simp)) _).setCell (Or.inl (by simp)) _).setCell (Or.inl (by simp)) _
    · have := HD.out.lt.1; simp; omega
    · have := HD.out.lt.2; simp; omega
    · exact ((U2.setCell (Or.inr (Nat.le_refl _)) _).setCell (Or.inr (Nat.le_refl _)) _).setCell (Or.inr (Nat.le_refl _)) _

def bindOkB (n p t l : Int) : Bool := vPlace n p && vTick t && decide (1 ≤ l) && decide (l ≤ 1073741824)

set_option maxRecDepth 100000 in
set_option maxHeartbeats 2000000 in
theorem bind_form (w : World) (db : Nat) (s : ByteArray) (n p t l : Int) (hv : validB s = false) :
    Calls Try.prog 15 #[.pointer (some ⟨db, 0, none⟩), .string s, .int .i64 n, .int .i64 p, .int .i64 t, .int .i64 l] w fun r w' =>
      r = .returned (.tuple #[placeV 0 0 0, .int .i64 3]) ∧ Kept [] w w' := by
  go_enter Try.func15, Try.ntmps15
  go_wp2_with (first
    | (go_at_call 21; refine (valid_any _ _).mono ?_; rintro r w' ⟨rfl, rfl⟩))
  refine bodyPost_ret (v := .tuple #[placeV 0 0 0, .int .i64 3]) (by simp [results, Try.results15, go_sem, placeV]) rfl ⟨rfl, ?_⟩
  exact (by repeat (first | exact Kept.refl _ _ | refine Kept.alloc ?_ _ | refine Kept.drew ?_ | refine Kept.setCell ?_ (Or.inr (by first | exact Nat.le_refl _ | (simp; done) | (simp; omega) | omega)) _))

set_option maxRecDepth 100000 in
set_option maxHeartbeats 2000000 in
theorem bind_range (w : World) (db : Nat) (s : ByteArray) (n p t l : Int) (hv : validB s = true) (hb : bindOkB n p t l = false) :
    Calls Try.prog 15 #[.pointer (some ⟨db, 0, none⟩), .string s, .int .i64 n, .int .i64 p, .int .i64 t, .int .i64 l] w fun r w' =>
      r = .returned (.tuple #[placeV 0 0 0, .int .i64 2]) ∧ Kept [] w w' := by
  have hcase : vPlace n p = false ∨ (vPlace n p = true ∧ vTick t = false) ∨ (vPlace n p = true ∧ vTick t = true ∧ l < 1) ∨ (vPlace n p = true ∧ vTick t = true ∧ 1 ≤ l ∧ 1073741824 < l) := by
    unfold bindOkB at hb
    cases h1 : vPlace n p <;> cases h2 : vTick t <;> simp [h1, h2] at hb ⊢
    omega
  clear hb
  rcases hcase with h1 | ⟨h1, h2⟩ | ⟨h1, h2, h3⟩ | ⟨h1, h2, h3, h4⟩
  all_goals
    go_enter Try.func15, Try.ntmps15
    go_wp2_with (first
      | (go_at_call 21; refine (valid_any _ _).mono ?_; rintro r w' ⟨rfl, rfl⟩)
      | (go_at_call 36; refine (vplace_any _ _ _).mono ?_; rintro r w' ⟨rfl, rfl⟩)
      | (go_at_call 37; refine (vtick_any _ _).mono ?_; rintro r w' ⟨rfl, rfl⟩))
    refine bodyPost_ret (v := .tuple #[placeV 0 0 0, .int .i64 2]) (by simp [results, Try.results15, go_sem, placeV]) rfl ⟨rfl, ?_⟩
    exact (by repeat (first | exact Kept.refl _ _ | refine Kept.alloc ?_ _ | refine Kept.drew ?_ | refine Kept.setCell ?_ (Or.inr (by first | exact Nat.le_refl _ | (simp; done) | (simp; omega) | omega)) _))

set_option maxRecDepth 100000 in
set_option maxHeartbeats 2000000 in
theorem bind_twice (w : World) (db mb cnt : Nat) (M : NMap) (hd : IsDir w db mb M cnt) (s : ByteArray) (hs : s.size ≤ maxLen) (n p t l : Int)
    (hv : validB s = true) (hp : vPlace n p = true) (ht : vTick t = true) (hl0 : 1 ≤ l) (hl1 : l ≤ 1073741824) (hlive : liveE (getE M s.data.toList) t = true) :
    Calls Try.prog 15 #[.pointer (some ⟨db, 0, none⟩), .string s, .int .i64 n, .int .i64 p, .int .i64 t, .int .i64 l] w fun r w' =>
      r = .returned (.tuple #[placeV 0 0 0, .int .i64 8]) ∧ Kept [] w w' := by
  have hkey : Hid (keyOf Try.prog 9 (.string s) = some (.string s.data.toList)) := keyOf_string_mk Try.underlying9 hs
  obtain ⟨D, hown, hrep, hsz, hget, hhas, c0, f0, hdb, hdb1, hdb2, hdb3, hdb4⟩ := hd.open s
  have HD := Lib.hid hd; clear hd
  generalize he : getE M s.data.toList = e at *
  have HE := Lib.hid he; clear he
  go_enter Try.func15, Try.ntmps15
  go_wp2_with (first
  | (go_at_call 21; refine (valid_any _ _).mono ?_; rintro r w' ⟨rfl, rfl⟩)
  | (go_at_call 36; refine (vplace_any _ _ _).mono ?_; rintro r w' ⟨rfl, rfl⟩)
  | (go_at_call 37; refine (vtick_any _ _).mono ?_; rintro r w' ⟨rfl, rfl⟩)
  | (go_at_call 38; refine (live_any e _ _).mono ?_; rintro r w' ⟨rfl, rfl⟩)
  | (at_lookup; refine wpList_lookupV_ok _ rfl _ _ 69 rfl 9 74 law Try.underlying69 (zeroEnt_run _) mb cnt D rfl (hown.alloc _) _ _ rfl hkey.out (.agg #[.int .i64 e.node, .int .i64 e.port, .int .i64 e.ver, .bool e.bound, .int .i64 e.lease, .int .i64 e.fin]) _ hget.out hhas.out ?_)
  | (at_lookup; refine wpList_lookupV _ rfl _ _ 69 rfl 9 74 law Try.underlying69 (zeroEnt_run _) mb cnt D rfl (by first | exact hown | exact hown.alloc _) _ _ rfl hkey.out (.agg #[.int .i64 e.node, .int .i64 e.port, .int .i64 e.ver, .bool e.bound, .int .i64 e.lease, .int .i64 e.fin]) hget.out ?_)
  | (at_len; refine wpList_lenV _ rfl _ 69 rfl _ _ Try.underlying69 mb cnt D rfl (((hown.alloc _).alloc _).alloc _) cnt hsz ?_))
  all_goals
    refine bodyPost_ret (v := .tuple #[placeV 0 0 0, .int .i64 8]) (by simp [results, Try.results15, go_sem, placeV]) rfl ⟨rfl, ?_⟩
    exact (by repeat (first | exact Kept.refl _ _ | refine Kept.alloc ?_ _ | refine Kept.drew ?_ | refine Kept.setCell ?_ (Or.inr (by first | exact Nat.le_refl _ | (simp; done) | (simp; omega) | omega)) _))

set_option maxRecDepth 100000 in
set_option maxHeartbeats 2000000 in
theorem bind_full (w : World) (db mb cnt : Nat) (M : NMap) (hd : IsDir w db mb M cnt) (s : ByteArray) (hs : s.size ≤ maxLen) (n p t l : Int)
    (hv : validB s = true) (hp : vPlace n p = true) (ht : vTick t = true) (hl0 : 1 ≤ l) (hl1 : l ≤ 1073741824) (hlive : liveE (getE M s.data.toList) t = false) (hc : 1000 ≤ cnt) (hk : (M s.data.toList).isSome = false) :
    Calls Try.prog 15 #[.pointer (some ⟨db, 0, none⟩), .string s, .int .i64 n, .int .i64 p, .int .i64 t, .int .i64 l] w fun r w' =>
      r = .returned (.tuple #[placeV 0 0 0, .int .i64 5]) ∧ Kept [] w w' := by
  have hkey : Hid (keyOf Try.prog 9 (.string s) = some (.string s.data.toList)) := keyOf_string_mk Try.underlying9 hs
  obtain ⟨D, hown, hrep, hsz, hget, hhas, c0, f0, hdb, hdb1, hdb2, hdb3, hdb4⟩ := hd.open s
  have HD := Lib.hid hd; clear hd
  generalize he : getE M s.data.toList = e at *
  have HE := Lib.hid he; clear he
  generalize (M s.data.toList).isSome = kn at *
  subst hk
  go_enter Try.func15, Try.ntmps15
  go_wp2_with (first
  | (go_at_call 21; refine (valid_any _ _).mono ?_; rintro r w' ⟨rfl, rfl⟩)
  | (go_at_call 36; refine (vplace_any _ _ _).mono ?_; rintro r w' ⟨rfl, rfl⟩)
  | (go_at_call 37; refine (vtick_any _ _).mono ?_; rintro r w' ⟨rfl, rfl⟩)
  | (go_at_call 38; refine (live_any e _ _).mono ?_; rintro r w' ⟨rfl, rfl⟩)
  | (at_lookup; refine wpList_lookupV_ok _ rfl _ _ 69 rfl 9 74 law Try.underlying69 (zeroEnt_run _) mb cnt D rfl (hown.alloc _) _ _ rfl hkey.out (.agg #[.int .i64 e.node, .int .i64 e.port, .int .i64 e.ver, .bool e.bound, .int .i64 e.lease, .int .i64 e.fin]) _ hget.out hhas.out ?_)
  | (at_lookup; refine wpList_lookupV _ rfl _ _ 69 rfl 9 74 law Try.underlying69 (zeroEnt_run _) mb cnt D rfl (by first | exact hown | exact hown.alloc _) _ _ rfl hkey.out (.agg #[.int .i64 e.node, .int .i64 e.port, .int .i64 e.ver, .bool e.bound, .int .i64 e.lease, .int .i64 e.fin]) hget.out ?_)
  | (at_len; refine wpList_lenV _ rfl _ 69 rfl _ _ Try.underlying69 mb cnt D rfl (((hown.alloc _).alloc _).alloc _) cnt hsz ?_))
  all_goals
    refine bodyPost_ret (v := .tuple #[placeV 0 0 0, .int .i64 5]) (by simp [results, Try.results15, go_sem, placeV]) rfl ⟨rfl, ?_⟩
    exact (by repeat (first | exact Kept.refl _ _ | refine Kept.alloc ?_ _ | refine Kept.drew ?_ | refine Kept.setCell ?_ (Or.inr (by first | exact Nat.le_refl _ | (simp; done) | (simp; omega) | omega)) _))

/-! ### find -/
set_option maxRecDepth 100000 in
set_option maxHeartbeats 2000000 in
theorem find_err (w : World) (db : Nat) (s : ByteArray) (v t : Int) (b : Bool) (code : Int) (hcase : (validB s = false ∧ code = 3) ∨ (validB s = true ∧ (b && vTick t) = false ∧ code = 2)) :
    Calls Try.prog 39 #[.pointer (some ⟨db, 0, none⟩), .string s, .int .i64 v, .int .i64 t, .bool b] w fun r w' =>
      r = .returned (.tuple #[zeroEnt.val, .int .i64 code]) ∧ Kept [] w w' := by
  rcases hcase with ⟨hv, rfl⟩ | ⟨hv, hb, rfl⟩
  · go_enter Try.func39, Try.ntmps39
    go_wp2_with (first
      | (go_at_call 21; refine (valid_any _ _).mono ?_; rintro r w' ⟨rfl, rfl⟩))
    refine bodyPost_ret (v := .tuple #[zeroEnt.val, .int .i64 3]) (by simp [results, Try.results39, go_sem, zeroEnt, Ent.val]) rfl ⟨rfl, ?_⟩
    exact (by repeat (first | exact Kept.refl _ _ | refine Kept.alloc ?_ _ | refine Kept.drew ?_ | refine Kept.setCell ?_ (Or.inr (by first | exact Nat.le_refl _ | (simp; done) | (simp; omega) | omega)) _))
  · cases b
    all_goals
      try simp only [Bool.true_and] at hb
      go_enter Try.func39, Try.ntmps39
      go_wp2_with (first
        | (go_at_call 21; refine (valid_any _ _).mono ?_; rintro r w' ⟨rfl, rfl⟩)
        | (go_at_call 37; refine (vtick_any _ _).mono ?_; rintro r w' ⟨rfl, rfl⟩))
      refine bodyPost_ret (v := .tuple #[zeroEnt.val, .int .i64 2]) (by simp [results, Try.results39, go_sem, zeroEnt, Ent.val]) rfl ⟨rfl, ?_⟩
      exact (by repeat (first | exact Kept.refl _ _ | refine Kept.alloc ?_ _ | refine Kept.drew ?_ | refine Kept.setCell ?_ (Or.inr (by first | exact Nat.le_refl _ | (simp; done) | (simp; omega) | omega)) _))

set_option maxRecDepth 100000 in
set_option maxHeartbeats 2000000 in
theorem find_on (w : World) (db mb cnt : Nat) (M : NMap) (hd : IsDir w db mb M cnt) (s : ByteArray) (hs : s.size ≤ maxLen) (v t : Int) (hv : validB s = true) (ht : vTick t = true) :
    Calls Try.prog 39 #[.pointer (some ⟨db, 0, none⟩), .string s, .int .i64 v, .int .i64 t, .bool true] w fun r w' =>
      r = (if liveE (getE M s.data.toList) t = false then .returned (.tuple #[zeroEnt.val, .int .i64 7]) else if (getE M s.data.toList).ver = v then .returned (.tuple #[(getE M s.data.toList).val, .int .i64 0]) else .returned (.tuple #[zeroEnt.val, .int .i64 17])) ∧ Kept [] w w' := by
  have hkey : Hid (keyOf Try.prog 9 (.string s) = some (.string s.data.toList)) := keyOf_string_mk Try.underlying9 hs
  obtain ⟨D, hown, hrep, hsz, hget, hhas, c0, f0, hdb, hdb1, hdb2, hdb3, hdb4⟩ := hd.open s
  have HD := Lib.hid hd; clear hd
  generalize he : getE M s.data.toList = e at *
  have HE := Lib.hid he; clear he
  by_cases hl : liveE e t = false
  · rw [if_pos hl]
    go_enter Try.func39, Try.ntmps39
    go_wp2_with (first
  | (go_at_call 21; refine (valid_any _ _).mono ?_; rintro r w' ⟨rfl, rfl⟩)
  | (go_at_call 36; refine (vplace_any _ _ _).mono ?_; rintro r w' ⟨rfl, rfl⟩)
  | (go_at_call 37; refine (vtick_any _ _).mono ?_; rintro r w' ⟨rfl, rfl⟩)
  | (go_at_call 38; refine (live_any e _ _).mono ?_; rintro r w' ⟨rfl, rfl⟩)
  | (at_lookup; refine wpList_lookupV_ok _ rfl _ _ 69 rfl 9 74 law Try.underlying69 (zeroEnt_run _) mb cnt D rfl (hown.alloc _) _ _ rfl hkey.out (.agg #[.int .i64 e.node, .int .i64 e.port, .int .i64 e.ver, .bool e.bound, .int .i64 e.lease, .int .i64 e.fin]) _ hget.out hhas.out ?_)
  | (at_lookup; refine wpList_lookupV _ rfl _ _ 69 rfl 9 74 law Try.underlying69 (zeroEnt_run _) mb cnt D rfl (by first | exact hown | exact hown.alloc _) _ _ rfl hkey.out (.agg #[.int .i64 e.node, .int .i64 e.port, .int .i64 e.ver, .bool e.bound, .int .i64 e.lease, .int .i64 e.fin]) hget.out ?_)
  | (at_len; refine wpList_lenV _ rfl _ 69 rfl _ _ Try.underlying69 mb cnt D rfl (((hown.alloc _).alloc _).alloc _) cnt hsz ?_))
    refine bodyPost_ret (v := .tuple #[zeroEnt.val, .int .i64 7]) (by simp [results, Try.results39, go_sem, zeroEnt, Ent.val]) rfl ⟨rfl, ?_⟩
    exact (by repeat (first | exact Kept.refl _ _ | refine Kept.alloc ?_ _ | refine Kept.drew ?_ | refine Kept.setCell ?_ (Or.inr (by first | exact Nat.le_refl _ | (simp; done) | (simp; omega) | omega)) _))
  · rw [if_neg hl]
    have hl' : liveE e t = true := by simpa using hl
    clear hl
    by_cases hve : e.ver = v
    · rw [if_pos hve]
      have HV := Lib.hid hve
      have hvb : (e.ver == v) = true := by simpa using hve
      have hvb' : (!(e.ver == v)) = false := by simpa using hve
      clear hve
      go_enter Try.func39, Try.ntmps39
      go_wp2_with (first
  | (go_at_call 21; refine (valid_any _ _).mono ?_; rintro r w' ⟨rfl, rfl⟩)
  | (go_at_call 36; refine (vplace_any _ _ _).mono ?_; rintro r w' ⟨rfl, rfl⟩)
  | (go_at_call 37; refine (vtick_any _ _).mono ?_; rintro r w' ⟨rfl, rfl⟩)
  | (go_at_call 38; refine (live_any e _ _).mono ?_; rintro r w' ⟨rfl, rfl⟩)
  | (at_lookup; refine wpList_lookupV_ok _ rfl _ _ 69 rfl 9 74 law Try.underlying69 (zeroEnt_run _) mb cnt D rfl (hown.alloc _) _ _ rfl hkey.out (.agg #[.int .i64 e.node, .int .i64 e.port, .int .i64 e.ver, .bool e.bound, .int .i64 e.lease, .int .i64 e.fin]) _ hget.out hhas.out ?_)
  | (at_lookup; refine wpList_lookupV _ rfl _ _ 69 rfl 9 74 law Try.underlying69 (zeroEnt_run _) mb cnt D rfl (by first | exact hown | exact hown.alloc _) _ _ rfl hkey.out (.agg #[.int .i64 e.node, .int .i64 e.port, .int .i64 e.ver, .bool e.bound, .int .i64 e.lease, .int .i64 e.fin]) hget.out ?_)
  | (at_len; refine wpList_lenV _ rfl _ 69 rfl _ _ Try.underlying69 mb cnt D rfl (((hown.alloc _).alloc _).alloc _) cnt hsz ?_))
      refine bodyPost_ret (v := .tuple #[e.val, .int .i64 0]) (by simp [results, Try.results39, go_sem, zeroEnt, Ent.val]) rfl ⟨rfl, ?_⟩
      exact (by repeat (first | exact Kept.refl _ _ | refine Kept.alloc ?_ _ | refine Kept.drew ?_ | refine Kept.setCell ?_ (Or.inr (by first | exact Nat.le_refl _ | (simp; done) | (simp; omega) | omega)) _))
    · rw [if_neg hve]
      have HV := Lib.hid hve
      have hvb : (e.ver == v) = false := by simpa using hve
      have hvb' : (!(e.ver == v)) = true := by simpa using hve
      clear hve
      go_enter Try.func39, Try.ntmps39
      go_wp2_with (first
  | (go_at_call 21; refine (valid_any _ _).mono ?_; rintro r w' ⟨rfl, rfl⟩)
  | (go_at_call 36; refine (vplace_any _ _ _).mono ?_; rintro r w' ⟨rfl, rfl⟩)
  | (go_at_call 37; refine (vtick_any _ _).mono ?_; rintro r w' ⟨rfl, rfl⟩)
  | (go_at_call 38; refine (live_any e _ _).mono ?_; rintro r w' ⟨rfl, rfl⟩)
  | (at_lookup; refine wpList_lookupV_ok _ rfl _ _ 69 rfl 9 74 law Try.underlying69 (zeroEnt_run _) mb cnt D rfl (hown.alloc _) _ _ rfl hkey.out (.agg #[.int .i64 e.node, .int .i64 e.port, .int .i64 e.ver, .bool e.bound, .int .i64 e.lease, .int .i64 e.fin]) _ hget.out hhas.out ?_)
  | (at_lookup; refine wpList_lookupV _ rfl _ _ 69 rfl 9 74 law Try.underlying69 (zeroEnt_run _) mb cnt D rfl (by first | exact hown | exact hown.alloc _) _ _ rfl hkey.out (.agg #[.int .i64 e.node, .int .i64 e.port, .int .i64 e.ver, .bool e.bound, .int .i64 e.lease, .int .i64 e.fin]) hget.out ?_)
  | (at_len; refine wpList_lenV _ rfl _ 69 rfl _ _ Try.underlying69 mb cnt D rfl (((hown.alloc _).alloc _).alloc _) cnt hsz ?_))
      refine bodyPost_ret (v := .tuple #[zeroEnt.val, .int .i64 17]) (by simp [results, Try.results39, go_sem, zeroEnt, Ent.val]) rfl ⟨rfl, ?_⟩
      exact (by repeat (first | exact Kept.refl _ _ | refine Kept.alloc ?_ _ | refine Kept.drew ?_ | refine Kept.setCell ?_ (Or.inr (by first | exact Nat.le_refl _ | (simp; done) | (simp; omega) | omega)) _))
end Go.Proofs.Ytehdhnkkkocffaa
