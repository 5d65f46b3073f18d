/-
  The methods of a directory (layer 40): Renew and Move.
-/
import Derived.Test.YtehdhnkkkocffaaDir
namespace Go.Proofs.Ytehdhnkkkocffaa
set_option linter.unusedSimpArgs false
set_option linter.unusedVariables false
set_option linter.unusedSectionVars false
open Go.RowKit Go.Maps Go.WideMaps

theorem find_ok (w : World) (db mb cnt : Nat) (M : NMap) (hd : IsDir w db mb M cnt) (s : ByteArray) (hs : s.size ≤ maxLen) (v t : Int) (hv : validB s = true) (ht : vTick t = true) (e : Ent) (he : getE M s.data.toList = e) (hl : liveE e t = true) (hver : e.ver = v) :
    Calls Try.prog 39 #[.pointer (some ⟨db, 0, none⟩), .string s, .int .i64 v, .int .i64 t, .bool true] w fun r w' =>
      r = .returned (.tuple #[(.agg #[.int .i64 e.node, .int .i64 e.port, .int .i64 e.ver, .bool e.bound, .int .i64 e.lease, .int .i64 e.fin]), .int .i64 0]) ∧ IsDir w' db mb M cnt ∧ Kept [] w w' := by
  refine (find_on w db mb cnt M hd s hs v t hv ht).mono ?_
  rintro r w' ⟨hr, hk⟩
  rw [he, hl, if_neg (by simp), if_pos hver] at hr
  exact ⟨hr, hd.kept hk (by simp) (by simp), hk⟩

theorem find_bad (w : World) (db mb cnt : Nat) (M : NMap) (hd : IsDir w db mb M cnt) (s : ByteArray) (hs : s.size ≤ maxLen) (v t : Int) (b : Bool) (code : Int)
    (hcase : (validB s = false ∧ code = 3) ∨ (validB s = true ∧ (b && vTick t) = false ∧ code = 2) ∨ (validB s = true ∧ b = true ∧ vTick t = true ∧ liveE (getE M s.data.toList) t = false ∧ code = 7) ∨
      (validB s = true ∧ b = true ∧ vTick t = true ∧ liveE (getE M s.data.toList) t = true ∧ (getE M s.data.toList).ver ≠ v ∧ code = 17)) :
    Calls Try.prog 39 #[.pointer (some ⟨db, 0, none⟩), .string s, .int .i64 v, .int .i64 t, .bool b] w fun r w' =>
      r = .returned (.tuple #[.agg #[.int .i64 0, .int .i64 0, .int .i64 0, .bool false, .int .i64 0, .int .i64 0], .int .i64 code]) ∧ IsDir w' db mb M cnt ∧ Kept [] w w' := by
  rcases hcase with ⟨h1, h2⟩ | ⟨h1, h2, h3⟩ | ⟨h1, rfl, h3, h4, h5⟩ | ⟨h1, rfl, h3, h4, h5, h6⟩
  · exact (find_err w db s v t b code (Or.inl ⟨h1, h2⟩)).mono fun r w' ⟨hr, hk⟩ => ⟨hr, hd.kept hk (by simp) (by simp), hk⟩
  · exact (find_err w db s v t b code (Or.inr ⟨h1, h2, h3⟩)).mono fun r w' ⟨hr, hk⟩ => ⟨hr, hd.kept hk (by simp) (by simp), hk⟩
  · refine (find_on w db mb cnt M hd s hs v t h1 h3).mono ?_
    rintro r w' ⟨hr, hk⟩
    rw [if_pos h4] at hr
    exact ⟨by rw [h5]; exact hr, hd.kept hk (by simp) (by simp), hk⟩
  · refine (find_on w db mb cnt M hd s hs v t h1 h3).mono ?_
    rintro r w' ⟨hr, hk⟩
    rw [if_neg (by simp [h4]), if_neg h5] at hr
    exact ⟨by rw [h6]; exact hr, hd.kept hk (by simp) (by simp), hk⟩

set_option maxRecDepth 100000 in
set_option maxHeartbeats 2000000 in
theorem move_bad (w : World) (db mb cnt : Nat) (M : NMap) (hd : IsDir w db mb M cnt) (s : ByteArray) (hs : s.size ≤ maxLen) (v n p t : Int) (code : Int) (hcode : (code == 0) = false) (hcode' : (!(code == 0)) = true)
    (hcase : (validB s = false ∧ code = 3) ∨ (validB s = true ∧ (vPlace n p && vTick t) = false ∧ code = 2) ∨ (validB s = true ∧ vPlace n p = true ∧ vTick t = true ∧ liveE (getE M s.data.toList) t = false ∧ code = 7) ∨
      (validB s = true ∧ vPlace n p = true ∧ vTick t = true ∧ liveE (getE M s.data.toList) t = true ∧ (getE M s.data.toList).ver ≠ v ∧ code = 17)) :
    Calls Try.prog 18 #[.pointer (some ⟨db, 0, none⟩), .string s, .int .i64 v, .int .i64 n, .int .i64 p, .int .i64 t] w fun r w' =>
      r = .returned (.tuple #[placeV 0 0 0, .int .i64 code]) ∧ Kept [] w w' := by
  have HC := Lib.hid hcase; clear hcase
  have HD := Lib.hid hd; clear hd
  go_enter Try.func18, Try.ntmps18
  go_wp2_with (first
    | (go_at_call 36; refine (vplace_any _ _ _).mono ?_; rintro r w' ⟨rfl, rfl⟩)
    | (go_at_call 39; refine (find_bad _ db mb cnt M (HD.out.kept (S := []) (by repeat (first | exact Kept.refl _ _ | refine Kept.alloc ?_ _ | refine Kept.drew ?_ | refine Kept.setCell ?_ (Or.inr (by first | exact Nat.le_refl _ | (simp; done) | (simp; omega) | omega)) _)) (by simp) (by simp)) s hs v t _ code HC.out).mono ?_; rintro r w1 ⟨rfl, hd1, hk1⟩; have HD1 := Lib.hid hd1; clear hd1; have hcl := fun b o h => hk1.cell (p := ⟨b, o, none⟩) h (by simp); have hfl := fun b o h => hk1.frozen (p := ⟨b, o, none⟩) h (by simp); have hws : w.heap.size < w1.heap.size := (by have := hk1.size; simp at this; omega); have hws1 : w.heap.size < w1.heap.size + 1 := (by omega); have hws2 : w.heap.size < w1.heap.size + 1 + 1 := (by omega); have HK1 := Lib.hid hk1; clear hk1))
  obtain ⟨k0, k1, k2⟩ := cells3_set (w := w1) (b := w.heap.size) (by rw [hcl _ _ (by simp)]; simp [go_sem]; rfl) (by rw [hcl _ _ (by simp)]; simp [go_sem]; rfl) (by rw [hcl _ _ (by simp)]; simp [go_sem]; rfl) (.int .i64 0) (.int .i64 0) (.int .i64 0)
  have a0 := fun o => (World.cell?_alloc_lt _ o _ (by simp; exact hws)).trans k0
  have a1 := fun o => (World.cell?_alloc_lt _ o _ (by simp; exact hws)).trans k1
  have a2 := fun o => (World.cell?_alloc_lt _ o _ (by simp; exact hws)).trans k2
  refine bodyPost_ret (v := .tuple #[placeV 0 0 0, .int .i64 code]) (by simp [results, Try.results18, go_sem, placeV, a0, a1, a2]) rfl ⟨rfl, ?_⟩
  have K1 : Kept [] w w1 := ((Kept.refl [] w).alloc _).trans HK1.out
  exact ((((K1.setCell (Or.inr (Nat.le_refl _)) _).setCell (Or.inr (Nat.le_refl _)) _).setCell (Or.inr (Nat.le_refl _)) _).alloc _)

set_option maxRecDepth 100000 in
set_option maxHeartbeats 2000000 in
theorem move_ok (w : World) (db mb cnt : Nat) (M : NMap) (hd : IsDir w db mb M cnt) (s : ByteArray) (hs : s.size ≤ maxLen) (v n p t : Int)
    (hv : validB s = true) (hp : vPlace n p = true) (ht : vTick t = true) (hl : liveE (getE M s.data.toList) t = true) (hver : (getE M s.data.toList).ver = v) (hver0 : 0 ≤ v) (hver1 : v < 4611686018427387904)
    (hcm : cnt < 1000000) :
    Calls Try.prog 18 #[.pointer (some ⟨db, 0, none⟩), .string s, .int .i64 v, .int .i64 n, .int .i64 p, .int .i64 t] w fun r w' =>
      r = .returned (.tuple #[placeV n p (v + 1), .int .i64 0]) ∧
      IsDir w' db mb (setE M s.data.toList ⟨n, p, v + 1, (getE M s.data.toList).bound, (getE M s.data.toList).lease, (getE M s.data.toList).fin⟩) (addE M s.data.toList cnt) ∧ Kept [mb] w w' := by
  have hkey : Hid (keyOf Try.prog 9 (.string s) = some (.string s.data.toList)) := keyOf_string_mk Try.underlying9 hs
  have HD := Lib.hid hd; clear hd
  generalize he : getE M s.data.toList = e at *
  have HE := Lib.hid he; clear he
  have HL := Lib.hid hl; clear hl
  have HV := Lib.hid hver; clear hver
  go_enter Try.func18, Try.ntmps18
  go_wp2_with (first
    | (go_at_call 36; refine (vplace_any _ _ _).mono ?_; rintro r w' ⟨rfl, rfl⟩)
    | (go_at_call 39; refine (find_ok _ db mb cnt M (HD.out.kept (S := []) (by repeat (first | exact Kept.refl _ _ | refine Kept.alloc ?_ _ | refine Kept.drew ?_ | refine Kept.setCell ?_ (Or.inr (by first | exact Nat.le_refl _ | (simp; done) | (simp; omega) | omega)) _)) (by simp) (by simp)) s hs v t hv ht e HE.out HL.out HV.out).mono ?_; rintro r w1 ⟨rfl, hd1, hk1⟩; obtain ⟨D, hown, hrep, hsz, hget, hhas, c0, f0, hdb, hdb1, hdb2, hdb3, hdb4⟩ := hd1.open s; have HD1 := Lib.hid hd1; clear hd1; have hcl := fun b o h => hk1.cell (p := ⟨b, o, none⟩) h (by simp); have hfl := fun b o h => hk1.frozen (p := ⟨b, o, none⟩) h (by simp); have hws : w.heap.size < w1.heap.size := (by have := hk1.size; simp at this; omega); have hws1 : w.heap.size < w1.heap.size + 1 := (by omega); have hws2 : w.heap.size < w1.heap.size + 1 + 1 := (by omega); have HK1 := Lib.hid hk1; clear hk1))
  (refine wp_region_tail 6 (by kernel_rfl) (by kernel_rfl) ?_; simp only [List.take_succ_cons, List.take_zero, List.drop_succ_cons, List.drop_zero]; (repeat (first | (refine wpStill_nilCheck _ rfl _ rfl rfl ?_; go_frame) | (refine wpStill_wp rfl rfl (fun K hK => ?_); go_step; refine hK _ _ ⟨rfl, ?_⟩; clear hK K) | (refine wpStill_skip rfl ?_; go_frame))); try refine wpStill_nil ?_)
  refine wpList_updateV _ rfl _ _ _ 69 rfl 9 74 law Try.underlying69 mb cnt D rfl (hown.alloc _).drew (by unfold maxLen; omega) _ _ _ rfl rfl hkey.out ?_
  intro w2 hown1 hturn
  have hcl2 := turned_cell hturn
  have hfz2 := hturn.frozen
  have hsz2 := turned_size hturn
  have U := HD1.out.update s.data.toList ⟨n, p, v + 1, e.bound, e.lease, e.fin⟩ D hrep.out hsz hown ((Kept.refl [] w1).alloc _).drew hturn hown1
  clear hown1 hturn
  have U' := Lib.hid U; clear U
  go_wp2
  obtain ⟨U1, U2⟩ := U'.out
  have hd0 := HD.out.lt
  obtain ⟨k0, k1, k2⟩ := cells3_set (w := w2) (b := w.heap.size) (by rw [hcl2]; simp [go_sem, hws]; rw [hcl _ _ (by simp)]; simp [go_sem]; rfl) (by rw [hcl2]; simp [go_sem, hws]; rw [hcl _ _ (by simp)]; simp [go_sem]; rfl) (by rw [hcl2]; simp [go_sem, hws]; rw [hcl _ _ (by simp)]; simp [go_sem]; rfl) (.int .i64 n) (.int .i64 p) (.int .i64 (v + 1))
  refine bodyPost_ret (v := .tuple #[placeV n p (v + 1), .int .i64 0]) (by simp [results, Try.results18, go_sem, placeV, k0, k1, k2]) rfl ⟨rfl, U1.kept (S := [w.heap.size]) ?_ ?_ ?_, ?_⟩
  · exact (((Kept.refl _ _).setCell (Or.inl (by simp)) _).setCell (Or.inl (by simp)) _).setCell (Or.inl (by simp)) _
  · simp; omega
  · simp; omega
  · have K1 : Kept [mb] w w2 := (((Kept.refl [mb] w).alloc _).trans (HK1.out.mono (by simp))).trans U2
    exact ((K1.setCell (Or.inr (Nat.le_refl _)) _).setCell (Or.inr (Nat.le_refl _)) _).setCell (Or.inr (Nat.le_refl _)) _

/-! ### Renew -/
set_option maxRecDepth 100000 in
set_option maxHeartbeats 2000000 in
theorem renew_bad (w : World) (db mb cnt : Nat) (M : NMap) (hd : IsDir w db mb M cnt) (s : ByteArray) (hs : s.size ≤ maxLen) (v t : Int) (code : Int) (hcode : (code == 0) = false) (hcode' : (!(code == 0)) = true)
    (hcase : (validB s = false ∧ code = 3) ∨ (validB s = true ∧ (true && vTick t) = false ∧ code = 2) ∨ (validB s = true ∧ true = true ∧ vTick t = true ∧ liveE (getE M s.data.toList) t = false ∧ code = 7) ∨
      (validB s = true ∧ true = true ∧ vTick t = true ∧ liveE (getE M s.data.toList) t = true ∧ (getE M s.data.toList).ver ≠ v ∧ code = 17)) :
    Calls Try.prog 19 #[.pointer (some ⟨db, 0, none⟩), .string s, .int .i64 v, .int .i64 t] w fun r w' =>
      r = .returned (.int .i64 code) ∧ Kept [] w w' := by
  have HC := Lib.hid hcase; clear hcase
  have HD := Lib.hid hd; clear hd
  go_enter Try.func19, Try.ntmps19
  go_wp2_with (first
    | (go_at_call 39; refine (find_bad _ db mb cnt M HD.out s hs v t _ code HC.out).mono ?_; rintro r w1 ⟨rfl, hd1, hk1⟩; have HK1 := Lib.hid hk1; clear hk1 hd1))
  go_ret
  exact ⟨rfl, HK1.out.alloc _⟩

set_option maxRecDepth 100000 in
set_option maxHeartbeats 2000000 in
theorem renew_ok (w : World) (db mb cnt : Nat) (M : NMap) (hd : IsDir w db mb M cnt) (s : ByteArray) (hs : s.size ≤ maxLen) (v t : Int)
    (hv : validB s = true) (ht : vTick t = true) (hl : liveE (getE M s.data.toList) t = true) (hver : (getE M s.data.toList).ver = v) (hle0 : 0 ≤ (getE M s.data.toList).lease) (hle1 : (getE M s.data.toList).lease ≤ 1073741824)
    (hcm : cnt < 1000000) :
    Calls Try.prog 19 #[.pointer (some ⟨db, 0, none⟩), .string s, .int .i64 v, .int .i64 t] w fun r w' =>
      r = .returned (.int .i64 0) ∧
      IsDir w' db mb (setE M s.data.toList ⟨(getE M s.data.toList).node, (getE M s.data.toList).port, (getE M s.data.toList).ver, (getE M s.data.toList).bound, (getE M s.data.toList).lease, max (getE M s.data.toList).fin (t + (getE M s.data.toList).lease)⟩) (addE M s.data.toList cnt) ∧ Kept [mb] w w' := by
  have hkey : Hid (keyOf Try.prog 9 (.string s) = some (.string s.data.toList)) := keyOf_string_mk Try.underlying9 hs
  have HD := Lib.hid hd; clear hd
  obtain ⟨ht0, ht1⟩ := vTick_t ht
  generalize he : getE M s.data.toList = e at *
  have HE := Lib.hid he; clear he
  have HL := Lib.hid hl; clear hl
  have HV := Lib.hid hver; clear hver
  go_enter Try.func19, Try.ntmps19
  go_wp2_with (first
    | (go_at_call 39; refine (find_ok _ db mb cnt M HD.out s hs v t hv ht e HE.out HL.out HV.out).mono ?_; rintro r w1 ⟨rfl, hd1, hk1⟩; obtain ⟨D, hown, hrep, hsz, hget, hhas, c0, f0, hdb, hdb1, hdb2, hdb3, hdb4⟩ := hd1.open s; have HD1 := Lib.hid hd1; clear hd1; have HK1 := Lib.hid hk1; clear hk1))
  all_goals
    (refine wp_region_tail 6 (by kernel_rfl) (by kernel_rfl) ?_; simp only [List.take_succ_cons, List.take_zero, List.drop_succ_cons, List.drop_zero]; (repeat (first | (refine wpStill_nilCheck _ rfl _ rfl rfl ?_; go_frame) | (refine wpStill_wp rfl rfl (fun K hK => ?_); go_step; refine hK _ _ ⟨rfl, ?_⟩; clear hK K) | (refine wpStill_skip rfl ?_; go_frame))); try refine wpStill_nil ?_)
    refine wpList_updateV _ rfl _ _ _ 69 rfl 9 74 law Try.underlying69 mb cnt D rfl (hown.alloc _).drew (by unfold maxLen; omega) _ _ _ rfl rfl hkey.out ?_
    intro w2 hown1 hturn
    have U := HD1.out.update s.data.toList ⟨e.node, e.port, e.ver, e.bound, e.lease, max e.fin (t + e.lease)⟩ D hrep.out hsz hown ((Kept.refl [] w1).alloc _).drew hturn (by
      have hm : ∀ x : Int, x = max e.fin (t + e.lease) → w2.ownsMap Try.prog 9 RV mb (cnt + 1) (D.put (.string s.data.toList) (.held (.agg #[.int .i64 e.node, .int .i64 e.port, .int .i64 e.ver, .bool e.bound, .int .i64 e.lease, .int .i64 x]))) → w2.ownsMap Try.prog 9 RV mb (cnt + 1) (D.put (.string s.data.toList) (.held (Ent.val ⟨e.node, e.port, e.ver, e.bound, e.lease, max e.fin (t + e.lease)⟩))) := fun x hx h => by rw [← hx]; exact h
      exact hm _ (by omega) hown1)
    clear hown1 hturn
    have U' := Lib.hid U; clear U
    go_wp2
    obtain ⟨U1, U2⟩ := U'.out
    go_ret
    exact ⟨rfl, U1, (HK1.out.mono (by simp)).trans U2⟩
end Go.Proofs.Ytehdhnkkkocffaa
