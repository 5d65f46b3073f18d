/-
  'awake' of layer 40 returns true.
-/
import Derived.Test.YtehdhnkkkocffaaAct
namespace Go.Proofs.Ytehdhnkkkocffaa
set_option linter.unusedSimpArgs false
set_option linter.unusedVariables false
set_option linter.unusedSectionVars false
open Go.RowKit Go.Maps Go.WideMaps

abbrev pump : ByteArray := { data := #[112, 117, 109, 112] }
def pumpE (v t : Int) : Ent := ⟨2, 0, v, true, 5, t⟩
def M1 : NMap := setE (fun _ => none) pump.data.toList (pumpE 1 15)

theorem aw_bind1 {w : World} {db mb : Nat} (hd : IsDir w db mb (fun _ => none) 0) :
    Calls Try.prog 15 #[.pointer (some ⟨db, 0, none⟩), .string pump, .int .i64 2, .int .i64 0, .int .i64 10, .int .i64 5] w fun r w' =>
      r = .returned (.tuple #[.agg #[.int .i64 2, .int .i64 0, .int .i64 1], .int .i64 0]) ∧ IsDir w' db mb M1 1 ∧ Kept [mb] w w' := by
  have h := bind_any hd okM_empty ⟨0, pump, 2, 0, 0, 10, 5⟩ (by unfold maxLen; decide)
  have e : bindF (fun _ => none) 0 ⟨0, pump, 2, 0, 0, 10, 5⟩ = ⟨M1, 1, 2, 0, 1, 0⟩ := by
    have v : validB pump = true := by decide
    simp [bindF, v, bindOkB, vPlace, vTick, liveE, getE, zeroEnt, addE, M1, pumpE, key]
  rw [e] at h
  exact h

theorem okM1 : OkM 1 M1 1 := by
  have := okM_empty.act (by omega) ⟨0, pump, 2, 0, 0, 10, 5⟩
  have e : actF (fun _ => none) 0 ⟨0, pump, 2, 0, 0, 10, 5⟩ = ⟨M1, 1, 2, 0, 1, 0⟩ := by
    have v : validB pump = true := by decide
    simp [actF, bindF, v, bindOkB, vPlace, vTick, liveE, getE, zeroEnt, addE, M1, pumpE, key]
  rw [e] at this
  exact this

theorem aw_look1 {w : World} {db mb : Nat} (hd : IsDir w db mb M1 1) :
    Calls Try.prog 17 #[.pointer (some ⟨db, 0, none⟩), .string pump, .int .i64 14] w fun r w' =>
      r = .returned (.tuple #[.agg #[.int .i64 2, .int .i64 0, .int .i64 1], .int .i64 0]) ∧ IsDir w' db mb M1 1 ∧ Kept [mb] w w' := by
  have h := look_any hd ⟨4, pump, 2, 0, 0, 14, 5⟩ (by unfold maxLen; decide)
  have e : lookF M1 1 ⟨4, pump, 2, 0, 0, 14, 5⟩ = ⟨M1, 1, 2, 0, 1, 0⟩ := by
    have v : validB pump = true := by decide
    simp [lookF, v, vTick, liveE, getE, M1, pumpE, key, setE]
  rw [e] at h
  exact h

theorem aw_look2 {w : World} {db mb : Nat} (hd : IsDir w db mb M1 1) :
    Calls Try.prog 17 #[.pointer (some ⟨db, 0, none⟩), .string pump, .int .i64 15] w fun r w' =>
      r = .returned (.tuple #[.agg #[.int .i64 0, .int .i64 0, .int .i64 0], .int .i64 7]) ∧ IsDir w' db mb M1 1 ∧ Kept [mb] w w' := by
  have h := look_any hd ⟨4, pump, 2, 0, 0, 15, 5⟩ (by unfold maxLen; decide)
  have e : lookF M1 1 ⟨4, pump, 2, 0, 0, 15, 5⟩ = ⟨M1, 1, 0, 0, 0, 7⟩ := by
    have v : validB pump = true := by decide
    simp [lookF, v, vTick, liveE, getE, M1, pumpE, key, setE]
  rw [e] at h
  exact h

theorem aw_bind2 {w : World} {db mb : Nat} (hd : IsDir w db mb M1 1) :
    Calls Try.prog 15 #[.pointer (some ⟨db, 0, none⟩), .string pump, .int .i64 2, .int .i64 0, .int .i64 15, .int .i64 5] w fun r w' =>
      r = .returned (.tuple #[.agg #[.int .i64 2, .int .i64 0, .int .i64 2], .int .i64 0]) ∧ Kept [mb] w w' := by
  have h := bind_any hd okM1 ⟨0, pump, 2, 0, 0, 15, 5⟩ (by unfold maxLen; decide)
  have e : (bindF M1 1 ⟨0, pump, 2, 0, 0, 15, 5⟩).node = 2 ∧ (bindF M1 1 ⟨0, pump, 2, 0, 0, 15, 5⟩).port = 0 ∧ (bindF M1 1 ⟨0, pump, 2, 0, 0, 15, 5⟩).ver = 2 ∧ (bindF M1 1 ⟨0, pump, 2, 0, 0, 15, 5⟩).err = 0 := by
    have v : validB pump = true := by decide
    simp [bindF, v, bindOkB, vPlace, vTick, liveE, getE, M1, pumpE, key, setE]
  obtain ⟨e1, e2, e3, e4⟩ := e
  unfold PostR at h
  rw [e1, e2, e3, e4] at h
  exact h.mono fun _ _ ⟨h1, _, h3⟩ => ⟨h1, h3⟩

set_option maxRecDepth 100000 in
set_option maxHeartbeats 2000000 in
theorem awake_any (w : World) : Calls Try.prog 12 #[] w fun r w' => r = .returned (.bool true) ∧ Kept [] w w' := by
  go_enter Try.func12, Try.ntmps12
  go_wp2_with fail
  refine (new_any _).mono ?_
  rintro r w1 ⟨rfl, hd1, hk1, hz1⟩
  have HD1 := Lib.hid hd1; clear hd1
  have HK1 := Lib.hid hk1; clear hk1
  have HZ1 := Lib.hid hz1; clear hz1
  go_wp2_with fail
  refine (aw_bind1 HD1.out).mono ?_
  rintro r w2 ⟨rfl, hd2, hk2⟩
  have HD2 := Lib.hid hd2; clear hd2
  have HK2 := Lib.hid hk2; clear hk2
  go_wp2_with fail
  refine (aw_look1 (HD2.out.kept (S := []) (by repeat (first | exact Kept.refl _ _ | refine Kept.alloc ?_ _ | refine Kept.drew ?_ | refine Kept.setCell ?_ (Or.inr (by first | exact Nat.le_refl _ | (simp; done) | (simp; omega) | omega)) _)) (by simp) (by simp))).mono ?_
  rintro r w3 ⟨rfl, hd3, hk3⟩
  have HD3 := Lib.hid hd3; clear hd3
  have HK3 := Lib.hid hk3; clear hk3
  go_wp2_with fail
  refine (aw_look2 (HD3.out.kept (S := []) (by repeat (first | exact Kept.refl _ _ | refine Kept.alloc ?_ _ | refine Kept.drew ?_ | refine Kept.setCell ?_ (Or.inr (by first | exact Nat.le_refl _ | (simp; done) | (simp; omega) | omega)) _)) (by simp) (by simp))).mono ?_
  rintro r w4 ⟨rfl, hd4, hk4⟩
  have HD4 := Lib.hid hd4; clear hd4
  have HK4 := Lib.hid hk4; clear hk4
  go_wp2_with fail
  refine (aw_bind2 (HD4.out.kept (S := []) (by repeat (first | exact Kept.refl _ _ | refine Kept.alloc ?_ _ | refine Kept.drew ?_ | refine Kept.setCell ?_ (Or.inr (by first | exact Nat.le_refl _ | (simp; done) | (simp; omega) | omega)) _)) (by simp) (by simp))).mono ?_
  rintro r w5 ⟨rfl, hk5⟩
  have HK5 := Lib.hid hk5; clear hk5
  have z1 := HZ1.out
  have z2 := HK2.out.size
  have z3 := HK3.out.size
  have z4 := HK4.out.size
  have z5 := HK5.out.size
  simp only [World.size_alloc] at z3 z4 z5
  -- the blocks of p and q, in the last world
  have P5 := HK5.out.blk (blk_alloc (HK4.out.blk (blk_alloc (HK3.out.blk (heap_alloc_new w2 _) (by simp; omega)) _) (by simp; omega)) _) (by simp; omega)
  have Q5 := HK5.out.blk (blk_alloc (HK4.out.blk (heap_alloc_new w3 _) (by simp; omega)) _) (by simp; omega)
  have p0 := fun i => cell_of_block P5 i
  have q0 := fun i => cell_of_block Q5 i
  have y1 : w2.heap.size < w5.heap.size := by omega
  have y2 : w3.heap.size < w5.heap.size := by omega
  have hP := Lib.hid P5; clear P5
  have hQ := Lib.hid Q5; clear Q5
  clear z1 z2 z3 z4 z5
  go_wp2
  go_ret
  refine ⟨rfl, Kept.alloc ?_ _⟩
  have e1 : ∀ {S : List Nat} {a b c : World} (o : Obj), Kept [] w a → Kept [w.heap.size] (a.alloc o) b → Kept [] w b := fun {S a b c} o h k => (h.alloc o).step k (fun i hi => Or.inr (by simp at hi; omega))
  have K2 : Kept [] w w2 := HK1.out.step HK2.out (fun i hi => Or.inr (by simp at hi; omega))
  exact e1 (S := []) (c := w) _ (e1 (S := []) (c := w) _ (e1 (S := []) (c := w) _ K2 HK3.out) HK4.out) HK5.out
end Go.Proofs.Ytehdhnkkkocffaa
