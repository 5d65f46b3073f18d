/-
  The directory of layer 40: what its entries are, and the contracts of the small functions.
-/
import Derived.Test.YtehdhnkkkocffaaProg
import Derived.Test.YtehdhnkkkocffaaBase
import Derived.BigGuardPart
namespace Go.Proofs.Ytehdhnkkkocffaa
set_option linter.unusedSimpArgs false
set_option linter.unusedVariables false
set_option linter.unusedSectionVars false
open Go.RowKit Go.Maps Go.WideMaps

theorem ret_bool {a b : Bool} (h : a = b) : Ending.returned (.bool a) = .returned (.bool b) := by rw [h]
theorem ret_int {k : IntKind} {a b : Int} (h : a = b) : Ending.returned (.int k a) = .returned (.int k b) := by rw [h]

/-! ### names -/
def chOk (j : Nat) (c : Int) : Prop := (97 ≤ c ∧ c ≤ 122) ∨ (j ≠ 0 ∧ ((48 ≤ c ∧ c ≤ 57) ∨ c = 45))
instance (j : Nat) (c : Int) : Decidable (chOk j c) := by unfold chOk; infer_instance
def validB (s : ByteArray) : Bool := decide (1 ≤ s.size ∧ s.size ≤ 20 ∧ ∀ j, (h : j < s.size) → chOk j (s[j].toNat : Int))
theorem validB_false {s : ByteArray} {k : Nat} (h : k < s.size) (hn : ¬ chOk k (s[k].toNat : Int)) : validB s = false := by
  unfold validB; simp only [decide_eq_false_iff_not]; intro hh; exact hn (hh.2.2 k h)

set_option maxRecDepth 100000 in
set_option maxHeartbeats 1000000 in
theorem valid_no (s : ByteArray) (w : World) (h1 : s.size < 1 ∨ 20 < s.size) : Calls Try.prog 21 #[.string s] w fun e w' => e = .returned (.bool (validB s)) ∧ w = w' := by
  have hv : Hid (validB s = false) := by unfold Hid validB; simp; omega
  go_enter Try.func21, Try.ntmps21
  go_wp2
  all_goals first | (go_ret; exact ⟨ret_bool hv.out.symm, rfl⟩) | omega

set_option maxRecDepth 100000 in
set_option maxHeartbeats 1000000 in
theorem valid_any (s : ByteArray) (w : World) : Calls Try.prog 21 #[.string s] w fun e w' => e = .returned (.bool (validB s)) ∧ w = w' := by
  by_cases h1 : s.size < 1 ∨ 20 < s.size
  · exact valid_no s w h1
  have h3 : decide ((s.size : Int) < 1) = false := by simp; omega
  have h4 : decide (20 < (s.size : Int)) = false := by simp; omega
  go_enter Try.func21, Try.ntmps21
  go_wp2
  clear h3 h4
  go_loop [17] (fun i => ∃ k : Nat, k ≤ s.size ∧ i = .int .i64 k ∧ ∀ j, j < k → (h : j < s.size) → chOk j (s[j].toNat : Int)) (fun i => s.size - (intOf i).toNat)
  case atStart => exact ⟨0, Nat.zero_le _, rfl, fun j hj => by omega⟩
  case round =>
    obtain ⟨k, hk, rfl, hall⟩ := hrel
    have HA := Lib.hid hall; clear hall
    by_cases hlt : k < s.size
    · have next : chOk k (s[k].toNat : Int) → ∀ j, j < k + 1 → (h : j < s.size) → chOk j (s[j].toNat : Int) := fun hc j hj h => by
        by_cases e : j = k
        · subst e; exact hc
        · exact HA.out j (by omega) h
      have NX := Lib.hid next; clear next
      have no : ¬ chOk k (s[k].toNat : Int) → validB s = false := fun hc => validB_false hlt hc
      have NO := Lib.hid no; clear no
      rcases k with _ | k
      · go_wp2
        all_goals (try simp only [Bool.not_eq_true', Bool.not_eq_false', beq_iff_eq, beq_eq_false_iff_ne, bne_iff_ne, ne_eq, decide_eq_true_eq, decide_eq_false_iff_not, Bool.not_eq_true, Bool.not_eq_false] at *)
        all_goals first
          | (go_round
             case rel => exact ⟨0 + 1, by omega, by go_num, NX.out (by unfold chOk; omega)⟩
             case measure => simp [intOf]; omega)
          | (go_ret; exact ⟨ret_bool (NO.out (by unfold chOk; omega)).symm, rfl⟩)
          | omega
      · go_wp2
        all_goals (try simp only [Bool.not_eq_true', Bool.not_eq_false', beq_iff_eq, beq_eq_false_iff_ne, bne_iff_ne, ne_eq, decide_eq_true_eq, decide_eq_false_iff_not, Bool.not_eq_true, Bool.not_eq_false] at *)
        all_goals first
          | (go_round
             case rel => exact ⟨k + 1 + 1, by omega, by go_num, NX.out (by unfold chOk; omega)⟩
             case measure => simp [intOf]; omega)
          | (go_ret; exact ⟨ret_bool (NO.out (by unfold chOk; omega)).symm, rfl⟩)
          | omega
    · go_wp2
      go_ret
      exact ⟨ret_bool (by unfold validB; simp only [Eq.comm (a := true), decide_eq_true_eq]; exact ⟨by omega, by omega, fun j h => HA.out j (by omega) h⟩), rfl⟩

/-! ### places, ticks -/
def vPlace (n p : Int) : Bool := decide (0 ≤ n ∧ n < 16 ∧ 0 ≤ p ∧ p < 8)
def vTick (t : Int) : Bool := decide (0 ≤ t ∧ t ≤ 1073741824)
theorem vPlace_t {n p : Int} (h : vPlace n p = true) : 0 ≤ n ∧ n < 16 ∧ 0 ≤ p ∧ p < 8 := of_decide_eq_true h
theorem vTick_t {t : Int} (h : vTick t = true) : 0 ≤ t ∧ t ≤ 1073741824 := of_decide_eq_true h

theorem vplace_any (n p : Int) (w : World) : Calls Try.prog 36 #[.int .i64 n, .int .i64 p] w fun e w' => e = .returned (.bool (vPlace n p)) ∧ w = w' := by
  go_enter Try.func36, Try.ntmps36
  go_wp2
  all_goals (go_ret; exact ⟨ret_bool (by unfold vPlace; (rw [Bool.eq_iff_iff]; simp <;> omega)), rfl⟩)
theorem vtick_any (t : Int) (w : World) : Calls Try.prog 37 #[.int .i64 t] w fun e w' => e = .returned (.bool (vTick t)) ∧ w = w' := by
  go_enter Try.func37, Try.ntmps37
  go_wp2
  all_goals (go_ret; exact ⟨ret_bool (by unfold vTick; (rw [Bool.eq_iff_iff]; simp <;> omega)), rfl⟩)

/-! ### entries -/
structure Ent where
  node : Int
  port : Int
  ver : Int
  bound : Bool
  lease : Int
  fin : Int
def zeroEnt : Ent := ⟨0, 0, 0, false, 0, 0⟩
def placeV (n p v : Int) : Value := .agg #[.int .i64 n, .int .i64 p, .int .i64 v]
def Ent.val (e : Ent) : Value := .agg #[.int .i64 e.node, .int .i64 e.port, .int .i64 e.ver, .bool e.bound, .int .i64 e.lease, .int .i64 e.fin]
def liveE (e : Ent) (t : Int) : Bool := e.bound && decide (t < e.fin)

theorem live_any (e : Ent) (t : Int) (w : World) : Calls Try.prog 38 #[.agg #[.int .i64 e.node, .int .i64 e.port, .int .i64 e.ver, .bool e.bound, .int .i64 e.lease, .int .i64 e.fin], .int .i64 t] w
    fun r w' => r = .returned (.bool (liveE e t)) ∧ w' = w.alloc (.cells #[.int .i64 e.node, .int .i64 e.port, .int .i64 e.ver, .bool e.bound, .int .i64 e.lease, .int .i64 e.fin] 74) := by
  obtain ⟨n, p, v, b, l, f⟩ := e
  cases b
  all_goals
    go_enter Try.func38, Try.ntmps38
    go_wp2
    go_ret
    exact ⟨rfl, rfl⟩

/-! ### the map of a directory -/
abbrev NMap := List UInt8 → Option Ent
def getE (M : NMap) (k : List UInt8) : Ent := (M k).getD zeroEnt
def setE (M : NMap) (k : List UInt8) (e : Ent) : NMap := fun k' => if k' = k then some e else M k'
theorem getE_set_same (M : NMap) (k : List UInt8) (e : Ent) : getE (setE M k e) k = e := by simp [getE, setE]
theorem getE_set_other (M : NMap) {k k' : List UInt8} (h : k' ≠ k) (e : Ent) : getE (setE M k e) k' = getE M k' := by simp [getE, setE, h]
theorem some_set_same (M : NMap) (k : List UInt8) (e : Ent) : (setE M k e k).isSome = true := by simp [setE]
theorem some_set_other (M : NMap) {k k' : List UInt8} (h : k' ≠ k) (e : Ent) : setE M k e k' = M k' := by simp [setE, h]

structure Rep (M : NMap) (D : DataW Value) : Prop where
  isMap : IsMap D
  has : ∀ k, Maps.has D (.string k) = (M k).isSome
  at_ : ∀ k, D.atKey (.string k) (.held zeroEnt.val) = .held (getE M k).val

theorem rep_empty : Rep (fun _ => none) (.map []) := ⟨isMap_empty, fun _ => rfl, fun _ => rfl⟩
theorem Rep.put {M : NMap} {D : DataW Value} (h : Rep M D) (k : List UInt8) (e : Ent) : Rep (setE M k e) (D.put (.string k) (.held e.val)) := by
  refine ⟨h.isMap.put _ _, fun k' => ?_, fun k' => ?_⟩
  · by_cases hk : k' = k
    · subst hk; rw [has_put_same h.isMap (by trivial)]; simp [setE]
    · rw [has_put_other (by simpa using hk), h.has k']; simp [setE, hk]
  · by_cases hk : k' = k
    · subst hk; rw [atKey_put_same h.isMap (by trivial), getE_set_same]
    · rw [atKey_put_other (by simpa using hk), h.at_ k', getE_set_other _ hk]
theorem Rep.get {M : NMap} {D : DataW Value} (h : Rep M D) (k : List UInt8) : getV D (.string k) zeroEnt.val = (getE M k).val := getV_of (h.at_ k)

theorem law : Keyed Try.prog 9 := string_keyed Try.underlying9
theorem zeroEnt_run (w : World) : (zeroValue 74).run Try.prog w = .ok zeroEnt.val w := by kernel_rfl

/-- Block db is a directory whose map, block mb, reads as M; cnt names are known. -/
structure IsDir (w : World) (db mb : Nat) (M : NMap) (cnt : Nat) : Prop where
  cell : w.heap[db]? = some (.cells #[.map (some mb)] 71 (0, 0))
  rep : ∃ D : DataW Value, w.ownsMap Try.prog 9 RV mb cnt D ∧ Rep M D ∧ Maps.size D = cnt

theorem IsDir.kept {w w' : World} {db mb : Nat} {M : NMap} {cnt : Nat} {S : List Nat} (h : IsDir w db mb M cnt) (k : Kept S w w') (h1 : db ∉ S) (h2 : mb ∉ S) : IsDir w' db mb M cnt := by
  obtain ⟨hc, D, ho, r⟩ := h
  exact ⟨(k.block db ((Array.getElem?_eq_some_iff.1 hc).1) h1).trans hc, D, k.ownsMap ho h2, r⟩
theorem IsDir.lt {w : World} {db mb : Nat} {M : NMap} {cnt : Nat} (h : IsDir w db mb M cnt) : db < w.heap.size ∧ mb < w.heap.size := by
  obtain ⟨hc, D, ho, r⟩ := h
  exact ⟨(Array.getElem?_eq_some_iff.1 hc).1, ho.lt⟩
theorem IsDir.ne {w : World} {db mb : Nat} {M : NMap} {cnt : Nat} (h : IsDir w db mb M cnt) : db ≠ mb := by
  obtain ⟨hc, D, ⟨es, clock, hb, _⟩, r⟩ := h
  intro e; subst e; rw [hc] at hb; cases hb

def addE (M : NMap) (k : List UInt8) (cnt : Nat) : Nat := if (M k).isSome then cnt else cnt + 1

theorem IsDir.update {w W w1 : World} {db mb : Nat} {M : NMap} {cnt : Nat} (hd : IsDir w db mb M cnt) (k : List UInt8) (e : Ent) (D : DataW Value) (hrep : Rep M D) (hsz : Maps.size D = cnt) (hown : w.ownsMap Try.prog 9 RV mb cnt D)
    (h1 : Kept [] w W) (hturn : W.mapTurned w1 mb) (hown1 : w1.ownsMap Try.prog 9 RV mb (cnt + 1) (D.put (.string k) (.held e.val))) :
    IsDir w1 db mb (setE M k e) (addE M k cnt) ∧ Kept [mb] w w1 := by
  have hk : Kept [mb] w w1 := (h1.mono (by simp)).trans (Kept.of_turned hturn)
  refine ⟨⟨(hk.block db hd.lt.1 (by simpa using hd.ne)).trans hd.cell, _, ?_, hrep.put k e, ?_⟩, hk⟩
  · have h2 := ownsMap_tight hown1
    rw [size_put (hown.tidy law), hrep.has, hsz] at h2
    exact h2
  · rw [size_put (hown.tidy law), hrep.has, hsz]; rfl

theorem IsDir.open {w : World} {db mb : Nat} {M : NMap} {cnt : Nat} (hd : IsDir w db mb M cnt) (s : ByteArray) : ∃ D : DataW Value, w.ownsMap Try.prog 9 RV mb cnt D ∧ Hid (Rep M D) ∧ Maps.size D = cnt ∧
    Hid (getV D (.string s.data.toList) zeroEnt.val = (getE M s.data.toList).val) ∧ Hid (Maps.has D (.string s.data.toList) = (M s.data.toList).isSome) ∧
    w.cell? ⟨db, 0, none⟩ = some (.map (some mb)) ∧ w.frozen? ⟨db, 0, none⟩ = false ∧ db < w.heap.size ∧ db < w.heap.size + 1 ∧ db < w.heap.size + 1 + 1 ∧ db < w.heap.size + 1 + 1 + 1 ∧ db < w.heap.size + 1 + 1 + 1 + 1 := by
  obtain ⟨hcell, D, hown, hrep, hsz⟩ := hd
  have hdb := (Array.getElem?_eq_some_iff.1 hcell).1
  exact ⟨D, hown, hrep, hsz, hrep.get _, hrep.has _, cell_of_block hcell 0, free_of_block hcell 0, hdb, by omega, by omega, by omega, by omega⟩

theorem new_any (w : World) : Calls Try.prog 13 #[] w fun e w' => e = .returned (.pointer (some ⟨w.heap.size + 1, 0, none⟩)) ∧ IsDir w' (w.heap.size + 1) w.heap.size (fun _ => none) 0 ∧ Kept [] w w' ∧ w'.heap.size = w.heap.size + 2 := by
  have hmm := @run_makeMap Try.prog
  go_enter Try.func13, Try.ntmps13
  go_wp2
  go_ret
  refine ⟨rfl, ⟨?_, .map [], ?_, rep_empty, rfl⟩, ((Kept.refl _ _).alloc _).alloc _, by simp⟩
  · have := heap_alloc_new (w.alloc (.map #[] 0)) (.cells #[.map (some w.heap.size)] 71); simpa using this
  · exact (World.ownsMap_made _ _ _ _).alloc _
end Go.Proofs.Ytehdhnkkkocffaa
