/-
  The methods of a directory (layer 40): Drop and Look.
-/
import Derived.Test.YtehdhnkkkocffaaDir
namespace Go.Proofs.Ytehdhnkkkocffaa
set_option linter.unusedSimpArgs false
set_option linter.unusedVariables false
set_option linter.unusedSectionVars false
open Go.RowKit Go.Maps Go.WideMaps

set_option maxRecDepth 100000 in
set_option maxHeartbeats 2000000 in
theorem drop_bad (w : World) (db mb cnt : Nat) (M : NMap) (hd : IsDir w db mb M cnt) (s : ByteArray) (hs : s.size ≤ maxLen) (v : Int) (code : Int)
    (hcase : (validB s = false ∧ code = 3) ∨ (validB s = true ∧ (getE M s.data.toList).bound = false ∧ code = 7) ∨ (validB s = true ∧ (getE M s.data.toList).bound = true ∧ (getE M s.data.toList).ver ≠ v ∧ code = 17)) :
    Calls Try.prog 16 #[.pointer (some ⟨db, 0, none⟩), .string s, .int .i64 v] w fun r w' =>
      r = .returned (.int .i64 code) ∧ Kept [] w w' := by
  have hkey : Hid (keyOf Try.prog 9 (.string s) = some (.string s.data.toList)) := keyOf_string_mk Try.underlying9 hs
  obtain ⟨D, hown, hrep, hsz, hget, hhas, c0, f0, hdb, hdb1, hdb2, hdb3, hdb4⟩ := hd.open s
  have HD := Lib.hid hd; clear hd
  generalize he : getE M s.data.toList = e at *
  have HE := Lib.hid he; clear he
  rcases hcase with ⟨h1, rfl⟩ | ⟨h1, h2, rfl⟩ | ⟨h1, h2, h3, rfl⟩
  · go_enter Try.func16, Try.ntmps16
    go_wp2_with (first
      | (go_at_call 21; refine (valid_any _ _).mono ?_; rintro r w' ⟨rfl, rfl⟩))
    go_ret
    exact ⟨rfl, (by repeat (first | exact Kept.refl _ _ | refine Kept.alloc ?_ _ | refine Kept.drew ?_ | refine Kept.setCell ?_ (Or.inr (by first | exact Nat.le_refl _ | (simp; done) | (simp; omega) | omega)) _))⟩
  · go_enter Try.func16, Try.ntmps16
    go_wp2_with (first
  | (go_at_call 21; refine (valid_any _ _).mono ?_; rintro r w' ⟨rfl, rfl⟩)
  | (go_at_call 36; refine (vplace_any _ _ _).mono ?_; rintro r w' ⟨rfl, rfl⟩)
  | (go_at_call 37; refine (vtick_any _ _).mono ?_; rintro r w' ⟨rfl, rfl⟩)
  | (go_at_call 38; refine (live_any e _ _).mono ?_; rintro r w' ⟨rfl, rfl⟩)
  | (at_lookup; refine wpList_lookupV_ok _ rfl _ _ 69 rfl 9 74 law Try.underlying69 (zeroEnt_run _) mb cnt D rfl (hown.alloc _) _ _ rfl hkey.out (.agg #[.int .i64 e.node, .int .i64 e.port, .int .i64 e.ver, .bool e.bound, .int .i64 e.lease, .int .i64 e.fin]) _ hget.out hhas.out ?_)
  | (at_lookup; refine wpList_lookupV _ rfl _ _ 69 rfl 9 74 law Try.underlying69 (zeroEnt_run _) mb cnt D rfl (by first | exact hown | exact hown.alloc _) _ _ rfl hkey.out (.agg #[.int .i64 e.node, .int .i64 e.port, .int .i64 e.ver, .bool e.bound, .int .i64 e.lease, .int .i64 e.fin]) hget.out ?_)
  | (at_len; refine wpList_lenV _ rfl _ 69 rfl _ _ Try.underlying69 mb cnt D rfl (((hown.alloc _).alloc _).alloc _) cnt hsz ?_))
    go_ret
    exact ⟨rfl, (by repeat (first | exact Kept.refl _ _ | refine Kept.alloc ?_ _ | refine Kept.drew ?_ | refine Kept.setCell ?_ (Or.inr (by first | exact Nat.le_refl _ | (simp; done) | (simp; omega) | omega)) _))⟩
  · have hvb : (e.ver == v) = false := by simpa using h3
    have hvb' : (!(e.ver == v)) = true := by simpa using h3
    clear h3
    go_enter Try.func16, Try.ntmps16
    go_wp2_with (first
  | (go_at_call 21; refine (valid_any _ _).mono ?_; rintro r w' ⟨rfl, rfl⟩)
  | (go_at_call 36; refine (vplace_any _ _ _).mono ?_; rintro r w' ⟨rfl, rfl⟩)
  | (go_at_call 37; refine (vtick_any _ _).mono ?_; rintro r w' ⟨rfl, rfl⟩)
  | (go_at_call 38; refine (live_any e _ _).mono ?_; rintro r w' ⟨rfl, rfl⟩)
  | (at_lookup; refine wpList_lookupV_ok _ rfl _ _ 69 rfl 9 74 law Try.underlying69 (zeroEnt_run _) mb cnt D rfl (hown.alloc _) _ _ rfl hkey.out (.agg #[.int .i64 e.node, .int .i64 e.port, .int .i64 e.ver, .bool e.bound, .int .i64 e.lease, .int .i64 e.fin]) _ hget.out hhas.out ?_)
  | (at_lookup; refine wpList_lookupV _ rfl _ _ 69 rfl 9 74 law Try.underlying69 (zeroEnt_run _) mb cnt D rfl (by first | exact hown | exact hown.alloc _) _ _ rfl hkey.out (.agg #[.int .i64 e.node, .int .i64 e.port, .int .i64 e.ver, .bool e.bound, .int .i64 e.lease, .int .i64 e.fin]) hget.out ?_)
  | (at_len; refine wpList_lenV _ rfl _ 69 rfl _ _ Try.underlying69 mb cnt D rfl (((hown.alloc _).alloc _).alloc _) cnt hsz ?_))
    go_ret
    exact ⟨rfl, (by repeat (first | exact Kept.refl _ _ | refine Kept.alloc ?_ _ | refine Kept.drew ?_ | refine Kept.setCell ?_ (Or.inr (by first | exact Nat.le_refl _ | (simp; done) | (simp; omega) | omega)) _))⟩

set_option maxRecDepth 100000 in
set_option maxHeartbeats 2000000 in
theorem drop_ok (w : World) (db mb cnt : Nat) (M : NMap) (hd : IsDir w db mb M cnt) (s : ByteArray) (hs : s.size ≤ maxLen) (v : Int)
    (hv : validB s = true) (hb : (getE M s.data.toList).bound = true) (hver : (getE M s.data.toList).ver = v) (hcm : cnt < 1000000) :
    Calls Try.prog 16 #[.pointer (some ⟨db, 0, none⟩), .string s, .int .i64 v] w fun r w' =>
      r = .returned (.int .i64 0) ∧ IsDir w' db mb (setE M s.data.toList ⟨0, 0, v, false, 0, 0⟩) (addE M s.data.toList cnt) ∧ Kept [mb] w w' := by
  have hkey : Hid (keyOf Try.prog 9 (.string s) = some (.string s.data.toList)) := keyOf_string_mk Try.underlying9 hs
  obtain ⟨D, hown, hrep, hsz, hget, hhas, c0, f0, hdb, hdb1, hdb2, hdb3, hdb4⟩ := hd.open s
  have HD := Lib.hid hd; clear hd
  generalize he : getE M s.data.toList = e at *
  have HE := Lib.hid he; clear he
  have hvb : (e.ver == v) = true := by simpa using hver
  have hvb' : (!(e.ver == v)) = false := by simpa using hver
  clear hver
  go_enter Try.func16, Try.ntmps16
  go_wp2_with (first
    | (go_at_call 21; refine (valid_any _ _).mono ?_; rintro r w' ⟨rfl, rfl⟩)
    | (at_lookup; refine wpList_lookupV _ rfl _ _ 69 rfl 9 74 law Try.underlying69 (zeroEnt_run _) mb cnt D rfl hown _ _ rfl hkey.out (.agg #[.int .i64 e.node, .int .i64 e.port, .int .i64 e.ver, .bool e.bound, .int .i64 e.lease, .int .i64 e.fin]) hget.out ?_)
    | (at_mapUpdate; refine wpList_updateV _ rfl _ _ _ 69 rfl 9 74 law Try.underlying69 mb cnt D rfl (hown.alloc _) (by unfold maxLen; omega) _ _ _ rfl rfl hkey.out ?_; intro w2 hown1 hturn; have U := HD.out.update s.data.toList ⟨0, 0, v, false, 0, 0⟩ D hrep.out hsz hown ((Kept.refl [] w).alloc _) hturn hown1; clear hown1 hturn; have U' := Lib.hid U; clear U))
  go_ret
  exact ⟨rfl, U'.out⟩

set_option maxRecDepth 100000 in
set_option maxHeartbeats 2000000 in
theorem look_bad (w : World) (db mb cnt : Nat) (M : NMap) (hd : IsDir w db mb M cnt) (s : ByteArray) (hs : s.size ≤ maxLen) (t : Int) (code : Int)
    (hcase : (validB s = false ∧ code = 3) ∨ (validB s = true ∧ vTick t = false ∧ code = 2) ∨ (validB s = true ∧ vTick t = true ∧ liveE (getE M s.data.toList) t = false ∧ code = 7)) :
    Calls Try.prog 17 #[.pointer (some ⟨db, 0, none⟩), .string s, .int .i64 t] w fun r w' =>
      r = .returned (.tuple #[placeV 0 0 0, .int .i64 code]) ∧ Kept [] w w' := by
  have hkey : Hid (keyOf Try.prog 9 (.string s) = some (.string s.data.toList)) := keyOf_string_mk Try.underlying9 hs
  obtain ⟨D, hown, hrep, hsz, hget, hhas, c0, f0, hdb, hdb1, hdb2, hdb3, hdb4⟩ := hd.open s
  have HD := Lib.hid hd; clear hd
  generalize he : getE M s.data.toList = e at *
  have HE := Lib.hid he; clear he
  rcases hcase with ⟨h1, rfl⟩ | ⟨h1, h2, rfl⟩ | ⟨h1, h2, h3, rfl⟩
  · go_enter Try.func17, Try.ntmps17
    go_wp2_with (first
  | (go_at_call 21; refine (valid_any _ _).mono ?_; rintro r w' ⟨rfl, rfl⟩)
  | (go_at_call 36; refine (vplace_any _ _ _).mono ?_; rintro r w' ⟨rfl, rfl⟩)
  | (go_at_call 37; refine (vtick_any _ _).mono ?_; rintro r w' ⟨rfl, rfl⟩)
  | (go_at_call 38; refine (live_any e _ _).mono ?_; rintro r w' ⟨rfl, rfl⟩)
  | (at_lookup; refine wpList_lookupV_ok _ rfl _ _ 69 rfl 9 74 law Try.underlying69 (zeroEnt_run _) mb cnt D rfl (hown.alloc _) _ _ rfl hkey.out (.agg #[.int .i64 e.node, .int .i64 e.port, .int .i64 e.ver, .bool e.bound, .int .i64 e.lease, .int .i64 e.fin]) _ hget.out hhas.out ?_)
  | (at_lookup; refine wpList_lookupV _ rfl _ _ 69 rfl 9 74 law Try.underlying69 (zeroEnt_run _) mb cnt D rfl (by first | exact hown | exact hown.alloc _) _ _ rfl hkey.out (.agg #[.int .i64 e.node, .int .i64 e.port, .int .i64 e.ver, .bool e.bound, .int .i64 e.lease, .int .i64 e.fin]) hget.out ?_)
  | (at_len; refine wpList_lenV _ rfl _ 69 rfl _ _ Try.underlying69 mb cnt D rfl (((hown.alloc _).alloc _).alloc _) cnt hsz ?_))
    refine bodyPost_ret (v := .tuple #[placeV 0 0 0, .int .i64 3]) (by simp [results, Try.results17, go_sem, placeV]) rfl ⟨rfl, ?_⟩
    exact (by repeat (first | exact Kept.refl _ _ | refine Kept.alloc ?_ _ | refine Kept.drew ?_ | refine Kept.setCell ?_ (Or.inr (by first | exact Nat.le_refl _ | (simp; done) | (simp; omega) | omega)) _))
  · go_enter Try.func17, Try.ntmps17
    go_wp2_with (first
  | (go_at_call 21; refine (valid_any _ _).mono ?_; rintro r w' ⟨rfl, rfl⟩)
  | (go_at_call 36; refine (vplace_any _ _ _).mono ?_; rintro r w' ⟨rfl, rfl⟩)
  | (go_at_call 37; refine (vtick_any _ _).mono ?_; rintro r w' ⟨rfl, rfl⟩)
  | (go_at_call 38; refine (live_any e _ _).mono ?_; rintro r w' ⟨rfl, rfl⟩)
  | (at_lookup; refine wpList_lookupV_ok _ rfl _ _ 69 rfl 9 74 law Try.underlying69 (zeroEnt_run _) mb cnt D rfl (hown.alloc _) _ _ rfl hkey.out (.agg #[.int .i64 e.node, .int .i64 e.port, .int .i64 e.ver, .bool e.bound, .int .i64 e.lease, .int .i64 e.fin]) _ hget.out hhas.out ?_)
  | (at_lookup; refine wpList_lookupV _ rfl _ _ 69 rfl 9 74 law Try.underlying69 (zeroEnt_run _) mb cnt D rfl (by first | exact hown | exact hown.alloc _) _ _ rfl hkey.out (.agg #[.int .i64 e.node, .int .i64 e.port, .int .i64 e.ver, .bool e.bound, .int .i64 e.lease, .int .i64 e.fin]) hget.out ?_)
  | (at_len; refine wpList_lenV _ rfl _ 69 rfl _ _ Try.underlying69 mb cnt D rfl (((hown.alloc _).alloc _).alloc _) cnt hsz ?_))
    refine bodyPost_ret (v := .tuple #[placeV 0 0 0, .int .i64 2]) (by simp [results, Try.results17, go_sem, placeV]) rfl ⟨rfl, ?_⟩
    exact (by repeat (first | exact Kept.refl _ _ | refine Kept.alloc ?_ _ | refine Kept.drew ?_ | refine Kept.setCell ?_ (Or.inr (by first | exact Nat.le_refl _ | (simp; done) | (simp; omega) | omega)) _))
  · go_enter Try.func17, Try.ntmps17
    go_wp2_with (first
  | (go_at_call 21; refine (valid_any _ _).mono ?_; rintro r w' ⟨rfl, rfl⟩)
  | (go_at_call 36; refine (vplace_any _ _ _).mono ?_; rintro r w' ⟨rfl, rfl⟩)
  | (go_at_call 37; refine (vtick_any _ _).mono ?_; rintro r w' ⟨rfl, rfl⟩)
  | (go_at_call 38; refine (live_any e _ _).mono ?_; rintro r w' ⟨rfl, rfl⟩)
  | (at_lookup; refine wpList_lookupV_ok _ rfl _ _ 69 rfl 9 74 law Try.underlying69 (zeroEnt_run _) mb cnt D rfl (hown.alloc _) _ _ rfl hkey.out (.agg #[.int .i64 e.node, .int .i64 e.port, .int .i64 e.ver, .bool e.bound, .int .i64 e.lease, .int .i64 e.fin]) _ hget.out hhas.out ?_)
  | (at_lookup; refine wpList_lookupV _ rfl _ _ 69 rfl 9 74 law Try.underlying69 (zeroEnt_run _) mb cnt D rfl (by first | exact hown | exact hown.alloc _) _ _ rfl hkey.out (.agg #[.int .i64 e.node, .int .i64 e.port, .int .i64 e.ver, .bool e.bound, .int .i64 e.lease, .int .i64 e.fin]) hget.out ?_)
  | (at_len; refine wpList_lenV _ rfl _ 69 rfl _ _ Try.underlying69 mb cnt D rfl (((hown.alloc _).alloc _).alloc _) cnt hsz ?_))
    refine bodyPost_ret (v := .tuple #[placeV 0 0 0, .int .i64 7]) (by simp [results, Try.results17, go_sem, placeV]) rfl ⟨rfl, ?_⟩
    exact (by repeat (first | exact Kept.refl _ _ | refine Kept.alloc ?_ _ | refine Kept.drew ?_ | refine Kept.setCell ?_ (Or.inr (by first | exact Nat.le_refl _ | (simp; done) | (simp; omega) | omega)) _))

set_option maxRecDepth 100000 in
set_option maxHeartbeats 2000000 in
theorem look_ok (w : World) (db mb cnt : Nat) (M : NMap) (hd : IsDir w db mb M cnt) (s : ByteArray) (hs : s.size ≤ maxLen) (t : Int)
    (hv : validB s = true) (ht : vTick t = true) (hl : liveE (getE M s.data.toList) t = true) :
    Calls Try.prog 17 #[.pointer (some ⟨db, 0, none⟩), .string s, .int .i64 t] w fun r w' =>
      r = .returned (.tuple #[placeV (getE M s.data.toList).node (getE M s.data.toList).port (getE M s.data.toList).ver, .int .i64 0]) ∧ Kept [] w w' := by
  have hkey : Hid (keyOf Try.prog 9 (.string s) = some (.string s.data.toList)) := keyOf_string_mk Try.underlying9 hs
  obtain ⟨D, hown, hrep, hsz, hget, hhas, c0, f0, hdb, hdb1, hdb2, hdb3, hdb4⟩ := hd.open s
  have HD := Lib.hid hd; clear hd
  generalize he : getE M s.data.toList = e at *
  have HE := Lib.hid he; clear he
  go_enter Try.func17, Try.ntmps17
  go_wp2_with (first
  | (go_at_call 21; refine (valid_any _ _).mono ?_; rintro r w' ⟨rfl, rfl⟩)
  | (go_at_call 36; refine (vplace_any _ _ _).mono ?_; rintro r w' ⟨rfl, rfl⟩)
  | (go_at_call 37; refine (vtick_any _ _).mono ?_; rintro r w' ⟨rfl, rfl⟩)
  | (go_at_call 38; refine (live_any e _ _).mono ?_; rintro r w' ⟨rfl, rfl⟩)
  | (at_lookup; refine wpList_lookupV_ok _ rfl _ _ 69 rfl 9 74 law Try.underlying69 (zeroEnt_run _) mb cnt D rfl (hown.alloc _) _ _ rfl hkey.out (.agg #[.int .i64 e.node, .int .i64 e.port, .int .i64 e.ver, .bool e.bound, .int .i64 e.lease, .int .i64 e.fin]) _ hget.out hhas.out ?_)
  | (at_lookup; refine wpList_lookupV _ rfl _ _ 69 rfl 9 74 law Try.underlying69 (zeroEnt_run _) mb cnt D rfl (by first | exact hown | exact hown.alloc _) _ _ rfl hkey.out (.agg #[.int .i64 e.node, .int .i64 e.port, .int .i64 e.ver, .bool e.bound, .int .i64 e.lease, .int .i64 e.fin]) hget.out ?_)
  | (at_len; refine wpList_lenV _ rfl _ 69 rfl _ _ Try.underlying69 mb cnt D rfl (((hown.alloc _).alloc _).alloc _) cnt hsz ?_))
  refine bodyPost_ret (v := .tuple #[placeV e.node e.port e.ver, .int .i64 0]) (by simp [results, Try.results17, go_sem, placeV]) rfl ⟨rfl, ?_⟩
  exact (by repeat (first | exact Kept.refl _ _ | refine Kept.alloc ?_ _ | refine Kept.drew ?_ | refine Kept.setCell ?_ (Or.inr (by first | exact Nat.le_refl _ | (simp; done) | (simp; omega) | omega)) _))
end Go.Proofs.Ytehdhnkkkocffaa
