/-
  What an act on a directory does, as a plain function; and the contract of 'do'.
-/
import Derived.Test.YtehdhnkkkocffaaDirb
import Derived.Test.YtehdhnkkkocffaaDirc
namespace Go.Proofs.Ytehdhnkkkocffaa
set_option linter.unusedSimpArgs false
set_option linter.unusedVariables false
set_option linter.unusedSectionVars false
open Go.RowKit Go.Maps Go.WideMaps

structure AC where
  kind : Int
  name : ByteArray
  node : Int
  port : Int
  ver : Int
  tick : Int
  long : Int
structure Res where
  m : NMap
  cnt : Nat
  node : Int
  port : Int
  ver : Int
  err : Int
abbrev key (a : AC) : List UInt8 := a.name.data.toList

def bindF (M : NMap) (cnt : Nat) (a : AC) : Res :=
  if validB a.name = false then ⟨M, cnt, 0, 0, 0, 3⟩
  else if bindOkB a.node a.port a.tick a.long = false then ⟨M, cnt, 0, 0, 0, 2⟩
  else if liveE (getE M (key a)) a.tick = true then ⟨M, cnt, 0, 0, 0, 8⟩
  else if 1000 ≤ cnt ∧ (M (key a)).isSome = false then ⟨M, cnt, 0, 0, 0, 5⟩
  else ⟨setE M (key a) ⟨a.node, a.port, (getE M (key a)).ver + 1, true, a.long, a.tick + a.long⟩, addE M (key a) cnt, a.node, a.port, (getE M (key a)).ver + 1, 0⟩

def findF (M : NMap) (a : AC) (b : Bool) : Int :=
  if validB a.name = false then 3
  else if (b && vTick a.tick) = false then 2
  else if liveE (getE M (key a)) a.tick = false then 7
  else if (getE M (key a)).ver = a.ver then 0 else 17

def renewF (M : NMap) (cnt : Nat) (a : AC) : Res :=
  if findF M a true = 0 then ⟨setE M (key a) ⟨(getE M (key a)).node, (getE M (key a)).port, (getE M (key a)).ver, (getE M (key a)).bound, (getE M (key a)).lease, max (getE M (key a)).fin (a.tick + (getE M (key a)).lease)⟩, addE M (key a) cnt, 0, 0, 0, 0⟩
  else ⟨M, cnt, 0, 0, 0, findF M a true⟩

def moveF (M : NMap) (cnt : Nat) (a : AC) : Res :=
  if findF M a (vPlace a.node a.port) = 0 then ⟨setE M (key a) ⟨a.node, a.port, a.ver + 1, (getE M (key a)).bound, (getE M (key a)).lease, (getE M (key a)).fin⟩, addE M (key a) cnt, a.node, a.port, a.ver + 1, 0⟩
  else ⟨M, cnt, 0, 0, 0, findF M a (vPlace a.node a.port)⟩

def dropF (M : NMap) (cnt : Nat) (a : AC) : Res :=
  if validB a.name = false then ⟨M, cnt, 0, 0, 0, 3⟩
  else if (getE M (key a)).bound = false then ⟨M, cnt, 0, 0, 0, 7⟩
  else if (getE M (key a)).ver = a.ver then ⟨setE M (key a) ⟨0, 0, a.ver, false, 0, 0⟩, addE M (key a) cnt, 0, 0, 0, 0⟩
  else ⟨M, cnt, 0, 0, 0, 17⟩

def lookF (M : NMap) (cnt : Nat) (a : AC) : Res :=
  if validB a.name = false then ⟨M, cnt, 0, 0, 0, 3⟩
  else if vTick a.tick = false then ⟨M, cnt, 0, 0, 0, 2⟩
  else if liveE (getE M (key a)) a.tick = false then ⟨M, cnt, 0, 0, 0, 7⟩
  else ⟨M, cnt, (getE M (key a)).node, (getE M (key a)).port, (getE M (key a)).ver, 0⟩

def actF (M : NMap) (cnt : Nat) (a : AC) : Res :=
  if a.kind = 0 then bindF M cnt a else if a.kind = 1 then renewF M cnt a else if a.kind = 2 then moveF M cnt a else if a.kind = 3 then dropF M cnt a else lookF M cnt a

theorem find_cases (M : NMap) (a : AC) (b : Bool) (h : findF M a b ≠ 0) : (validB a.name = false ∧ findF M a b = 3) ∨ (validB a.name = true ∧ (b && vTick a.tick) = false ∧ findF M a b = 2) ∨ (validB a.name = true ∧ b = true ∧ vTick a.tick = true ∧ liveE (getE M a.name.data.toList) a.tick = false ∧ findF M a b = 7) ∨
      (validB a.name = true ∧ b = true ∧ vTick a.tick = true ∧ liveE (getE M a.name.data.toList) a.tick = true ∧ (getE M a.name.data.toList).ver ≠ a.ver ∧ findF M a b = 17) := by
  unfold findF at h ⊢
  cases h1 : validB a.name
  · simp
  · cases h2 : (b && vTick a.tick)
    · simp
    · simp only [Bool.and_eq_true] at h2
      cases h3 : liveE (getE M (key a)) a.tick
      · simp [h2]
      · by_cases h4 : (getE M (key a)).ver = a.ver
        · simp [h1, h2.1, h2.2, h3, h4] at h
        · simp [h2, h4]
theorem find_zero {M : NMap} {a : AC} (b : Bool) (h : findF M a b = 0) : validB a.name = true ∧ b = true ∧ vTick a.tick = true ∧ liveE (getE M a.name.data.toList) a.tick = true ∧ (getE M a.name.data.toList).ver = a.ver := by
  unfold findF at h
  cases h1 : validB a.name
  · simp [h1] at h
  · cases h2 : (b && vTick a.tick)
    · simp [h1, h2] at h
    · cases h3 : liveE (getE M (key a)) a.tick
      · simp [h1, h2, h3] at h
      · by_cases h4 : (getE M (key a)).ver = a.ver
        · simp only [Bool.and_eq_true] at h2
          exact ⟨rfl, h2.1, h2.2, rfl, h4⟩
        · simp [h1, h2, h3, h4] at h

/-- What the walks ask of the entries: no number outgrows an int. -/
structure OkM (N : Nat) (M : NMap) (cnt : Nat) : Prop where
  small : N < 1000000
  cnt : cnt ≤ N
  ver0 : ∀ k, 0 ≤ (getE M k).ver
  ver1 : ∀ k, (getE M k).ver ≤ N
  lease0 : ∀ k, 0 ≤ (getE M k).lease
  lease1 : ∀ k, (getE M k).lease ≤ 1073741824

def PostR (w : World) (db mb : Nat) (R : Res) (r : Ending) (w' : World) : Prop :=
  r = .returned (.tuple #[.agg #[.int .i64 R.node, .int .i64 R.port, .int .i64 R.ver], .int .i64 R.err]) ∧ IsDir w' db mb R.m R.cnt ∧ Kept [mb] w w'
def PostE (w : World) (db mb : Nat) (R : Res) (r : Ending) (w' : World) : Prop :=
  r = .returned (.int .i64 R.err) ∧ IsDir w' db mb R.m R.cnt ∧ Kept [mb] w w'

section
variable {w : World} {db mb cnt : Nat} {M : NMap} (hd : IsDir w db mb M cnt) {N : Nat} (ok : OkM N M cnt) (a : AC) (hs : a.name.size ≤ maxLen)
include hd ok hs

theorem bind_any : Calls Try.prog 15 #[.pointer (some ⟨db, 0, none⟩), .string a.name, .int .i64 a.node, .int .i64 a.port, .int .i64 a.tick, .int .i64 a.long] w (PostR w db mb (bindF M cnt a)) := by
  have same : ∀ {c : Int} {r : Ending} {w' : World}, r = .returned (.tuple #[placeV 0 0 0, .int .i64 c]) ∧ Kept [] w w' → PostR w db mb ⟨M, cnt, 0, 0, 0, c⟩ r w' :=
    fun ⟨h1, h2⟩ => ⟨h1, hd.kept h2 (by simp) (by simp), h2.mono (by simp)⟩
  have o1 := ok.small
  have o2 := ok.cnt
  have o3 := ok.ver1 (key a)
  unfold bindF
  by_cases h1 : validB a.name = false
  · rw [if_pos h1]; exact (bind_form w db _ _ _ _ _ h1).mono fun _ _ h => same h
  rw [if_neg h1]
  by_cases h2 : bindOkB a.node a.port a.tick a.long = false
  · rw [if_pos h2]; exact (bind_range w db _ _ _ _ _ (by simpa using h1) h2).mono fun _ _ h => same h
  rw [if_neg h2]
  have h2' : bindOkB a.node a.port a.tick a.long = true := by simpa using h2
  simp only [bindOkB, Bool.and_eq_true, decide_eq_true_eq] at h2'
  obtain ⟨⟨⟨p1, p2⟩, p3⟩, p4⟩ := h2'
  by_cases h3 : liveE (getE M (key a)) a.tick = true
  · rw [if_pos h3]; exact (bind_twice w db mb cnt M hd _ hs _ _ _ _ (by simpa using h1) p1 p2 p3 p4 h3).mono fun _ _ h => same h
  rw [if_neg h3]
  by_cases h4 : 1000 ≤ cnt ∧ (M (key a)).isSome = false
  · rw [if_pos h4]; exact (bind_full w db mb cnt M hd _ hs _ _ _ _ (by simpa using h1) p1 p2 p3 p4 (by simpa using h3) h4.1 h4.2).mono fun _ _ h => same h
  rw [if_neg h4]
  exact (bind_ok w db mb cnt M hd _ hs _ _ _ _ (by simpa using h1) p1 p2 p3 p4 (by simpa using h3) (by
    by_cases h5 : cnt < 1000
    · exact Or.inl h5
    · refine Or.inr ?_
      cases h6 : (M a.name.data.toList).isSome
      · exact absurd ⟨by omega, h6⟩ h4
      · rfl) (by omega) (ok.ver0 _) (by unfold key at o3; omega)).mono fun _ _ h => h

theorem renew_any : Calls Try.prog 19 #[.pointer (some ⟨db, 0, none⟩), .string a.name, .int .i64 a.ver, .int .i64 a.tick] w (PostE w db mb (renewF M cnt a)) := by
  have o1 := ok.small
  have o2 := ok.cnt
  unfold renewF
  by_cases h : findF M a true = 0
  · rw [if_pos h]
    obtain ⟨f1, _, f3, f4, f5⟩ := find_zero true h
    exact (renew_ok w db mb cnt M hd _ hs _ _ f1 f3 f4 f5 (ok.lease0 _) (ok.lease1 _) (by omega)).mono fun _ _ h => h
  · rw [if_neg h]
    exact (renew_bad w db mb cnt M hd _ hs _ _ (findF M a true) (by simpa using h) (by simpa using h) (find_cases M a true h)).mono fun _ _ ⟨h1, h2⟩ => ⟨h1, hd.kept h2 (by simp) (by simp), h2.mono (by simp)⟩

theorem move_any : Calls Try.prog 18 #[.pointer (some ⟨db, 0, none⟩), .string a.name, .int .i64 a.ver, .int .i64 a.node, .int .i64 a.port, .int .i64 a.tick] w (PostR w db mb (moveF M cnt a)) := by
  have o1 := ok.small
  have o2 := ok.cnt
  have o3 := ok.ver1 (key a)
  have o4 := ok.ver0 (key a)
  unfold moveF
  by_cases h : findF M a (vPlace a.node a.port) = 0
  · rw [if_pos h]
    obtain ⟨f1, f2, f3, f4, f5⟩ := find_zero _ h
    exact (move_ok w db mb cnt M hd _ hs _ _ _ _ f1 f2 f3 f4 f5 (f5 ▸ o4) (by unfold key at o3; omega) (by omega)).mono fun _ _ h => h
  · rw [if_neg h]
    refine (move_bad w db mb cnt M hd _ hs _ _ _ _ (findF M a (vPlace a.node a.port)) (by simpa using h) (by simpa using h) ?_).mono fun _ _ ⟨h1, h2⟩ => ⟨h1, hd.kept h2 (by simp) (by simp), h2.mono (by simp)⟩
    exact find_cases M a _ h

theorem drop_any : Calls Try.prog 16 #[.pointer (some ⟨db, 0, none⟩), .string a.name, .int .i64 a.ver] w (PostE w db mb (dropF M cnt a)) := by
  have o1 := ok.small
  have o2 := ok.cnt
  have bad : ∀ {c : Int} {r : Ending} {w' : World}, r = .returned (.int .i64 c) ∧ Kept [] w w' → PostE w db mb ⟨M, cnt, 0, 0, 0, c⟩ r w' :=
    fun ⟨h1, h2⟩ => ⟨h1, hd.kept h2 (by simp) (by simp), h2.mono (by simp)⟩
  unfold dropF
  by_cases h1 : validB a.name = false
  · rw [if_pos h1]; exact (drop_bad w db mb cnt M hd _ hs _ 3 (Or.inl ⟨h1, rfl⟩)).mono fun _ _ h => bad h
  rw [if_neg h1]
  by_cases h2 : (getE M (key a)).bound = false
  · rw [if_pos h2]; exact (drop_bad w db mb cnt M hd _ hs _ 7 (Or.inr (Or.inl ⟨by simpa using h1, h2, rfl⟩))).mono fun _ _ h => bad h
  rw [if_neg h2]
  by_cases h3 : (getE M (key a)).ver = a.ver
  · rw [if_pos h3]; exact (drop_ok w db mb cnt M hd _ hs _ (by simpa using h1) (by simpa using h2) h3 (by omega)).mono fun _ _ h => h
  · rw [if_neg h3]; exact (drop_bad w db mb cnt M hd _ hs _ 17 (Or.inr (Or.inr ⟨by simpa using h1, by simpa using h2, h3, rfl⟩))).mono fun _ _ h => bad h

omit ok in
theorem look_any : Calls Try.prog 17 #[.pointer (some ⟨db, 0, none⟩), .string a.name, .int .i64 a.tick] w (PostR w db mb (lookF M cnt a)) := by
  have same : ∀ {x y z c : Int} {r : Ending} {w' : World}, r = .returned (.tuple #[placeV x y z, .int .i64 c]) ∧ Kept [] w w' → PostR w db mb ⟨M, cnt, x, y, z, c⟩ r w' :=
    fun ⟨h1, h2⟩ => ⟨h1, hd.kept h2 (by simp) (by simp), h2.mono (by simp)⟩
  unfold lookF
  by_cases h1 : validB a.name = false
  · rw [if_pos h1]; exact (look_bad w db mb cnt M hd _ hs _ 3 (Or.inl ⟨h1, rfl⟩)).mono fun _ _ h => same h
  rw [if_neg h1]
  by_cases h2 : vTick a.tick = false
  · rw [if_pos h2]; exact (look_bad w db mb cnt M hd _ hs _ 2 (Or.inr (Or.inl ⟨by simpa using h1, h2, rfl⟩))).mono fun _ _ h => same h
  rw [if_neg h2]
  by_cases h3 : liveE (getE M (key a)) a.tick = false
  · rw [if_pos h3]; exact (look_bad w db mb cnt M hd _ hs _ 7 (Or.inr (Or.inr ⟨by simpa using h1, by simpa using h2, h3, rfl⟩))).mono fun _ _ h => same h
  · rw [if_neg h3]; exact (look_ok w db mb cnt M hd _ hs _ (by simpa using h1) (by simpa using h2) (by simpa using h3)).mono fun _ _ h => same h
end

/-! ### what the acts keep -/
theorem okM_empty : OkM 0 (fun _ => none) 0 := ⟨by omega, Nat.le_refl _, fun _ => by simp [getE, zeroEnt], fun _ => by simp [getE, zeroEnt], fun _ => by simp [getE, zeroEnt], fun _ => by simp [getE, zeroEnt]⟩
theorem OkM.mono {N N' : Nat} {M : NMap} {cnt : Nat} (h : OkM N M cnt) (h1 : N ≤ N') (h2 : N' < 1000000) : OkM N' M cnt :=
  ⟨h2, Nat.le_trans h.cnt h1, h.ver0, fun k => by have := h.ver1 k; omega, h.lease0, h.lease1⟩
theorem addE_le (M : NMap) (k : List UInt8) (cnt : Nat) : addE M k cnt ≤ cnt + 1 := by unfold addE; split <;> omega
theorem OkM.set {N : Nat} {M : NMap} {cnt : Nat} (h : OkM N M cnt) (h2 : N + 1 < 1000000) (k : List UInt8) (e : Ent) (v0 : 0 ≤ e.ver) (v1 : e.ver ≤ N + 1) (l0 : 0 ≤ e.lease) (l1 : e.lease ≤ 1073741824) : OkM (N + 1) (setE M k e) (addE M k cnt) := by
  have hc := h.cnt
  have ha := addE_le M k cnt
  refine ⟨h2, by omega, fun k' => ?_, fun k' => ?_, fun k' => ?_, fun k' => ?_⟩
  all_goals
    by_cases hk : k' = k
    · subst hk; rw [getE_set_same]; first | assumption | (simpa using v1)
    · rw [getE_set_other _ hk]; first | exact h.ver0 _ | (have := h.ver1 k'; omega) | exact h.lease0 _ | exact h.lease1 _

theorem OkM.act {N : Nat} {M : NMap} {cnt : Nat} (h : OkM N M cnt) (h2 : N + 1 < 1000000) (a : AC) : OkM (N + 1) (actF M cnt a).m (actF M cnt a).cnt := by
  have same : OkM (N + 1) M cnt := h.mono (Nat.le_succ _) h2
  have e0 := h.ver0 (key a)
  have e1 := h.ver1 (key a)
  have e2 := h.lease0 (key a)
  have e3 := h.lease1 (key a)
  unfold actF
  split
  · unfold bindF
    split
    · exact same
    split
    · exact same
    split
    · exact same
    split
    · exact same
    · rename_i hb _ _
      have hb' : bindOkB a.node a.port a.tick a.long = true := by simpa using hb
      simp only [bindOkB, Bool.and_eq_true, decide_eq_true_eq] at hb'
      exact h.set h2 _ _ (by simp; omega) (by simp; omega) (by simp; omega) (by simp; omega)
  split
  · unfold renewF
    split
    · exact h.set h2 _ _ (by simp; omega) (by simp; omega) (by simp; omega) (by simp; omega)
    · exact same
  split
  · unfold moveF
    split
    · rename_i hf
      obtain ⟨_, _, _, _, f5⟩ := find_zero _ hf
      change (getE M (key a)).ver = a.ver at f5
      exact h.set h2 _ _ (by simp; omega) (by simp; omega) (by simp; omega) (by simp; omega)
    · exact same
  split
  · unfold dropF
    split
    · exact same
    split
    · exact same
    split
    · rename_i hf
      exact h.set h2 _ _ (by simp; omega) (by simp; omega) (by simp) (by simp)
    · exact same
  · unfold lookF
    split
    · exact same
    split
    · exact same
    split
    · exact same
    · exact same

/-! ### 'do' -/
def AC.val (a : AC) : Value := .agg #[.int .i64 a.kind, .string a.name, .int .i64 a.node, .int .i64 a.port, .int .i64 a.ver, .int .i64 a.tick, .int .i64 a.long]
abbrev doArgs (db : Nat) (a : AC) : Array Value := #[.pointer (some ⟨db, 0, none⟩), .agg #[.int .i64 a.kind, .string a.name, .int .i64 a.node, .int .i64 a.port, .int .i64 a.ver, .int .i64 a.tick, .int .i64 a.long]]

set_option maxRecDepth 100000 in
set_option maxHeartbeats 2000000 in
theorem do_0 {w : World} {db mb cnt : Nat} {M : NMap} (hd : IsDir w db mb M cnt) {N : Nat} (ok : OkM N M cnt) (a : AC) (hs : a.name.size ≤ maxLen) (hk : a.kind = 0) :
    Calls Try.prog 14 (doArgs db a) w (PostR w db mb (bindF M cnt a)) := by
  have HB := Lib.hid (fun (w' : World) (h : IsDir w' db mb M cnt) => bind_any h ok a hs)
  generalize bindF M cnt a = R at *
  obtain ⟨kind, name, node, port, ver, tick, long⟩ := a
  dsimp only at *
  have HD := Lib.hid hd; clear hd
  have hd0 := HD.out.lt
  subst hk
  go_enter Try.func14, Try.ntmps14
  go_wp2_with (first
    | (go_at_call 15; refine (HB.out _ (HD.out.kept (S := []) (by repeat (first | exact Kept.refl _ _ | refine Kept.alloc ?_ _ | refine Kept.drew ?_ | refine Kept.setCell ?_ (Or.inr (by first | exact Nat.le_refl _ | (simp; done) | (simp; omega) | omega)) _)) (by simp) (by simp))).mono ?_; rintro r w1 ⟨rfl, hd1, hk1⟩; have HD1 := Lib.hid hd1; clear hd1; have hcl := fun b o h h' => hk1.cell (p := ⟨b, o, none⟩) h h'; have hfl := fun b o h h' => hk1.frozen (p := ⟨b, o, none⟩) h h'; have hws : w.heap.size + 1 < w1.heap.size := (by have := hk1.size; simp at this; omega); have n1 : w.heap.size + 1 ≠ mb := (by omega); have HK1 := Lib.hid hk1; clear hk1))
  obtain ⟨k0, k1, k2⟩ := cells3_set (w := w1) (b := w.heap.size + 1) (by rw [hcl _ _ (by simp) (by simp; omega)]; simp [go_sem]; rfl) (by rw [hcl _ _ (by simp) (by simp; omega)]; simp [go_sem]; rfl) (by rw [hcl _ _ (by simp) (by simp; omega)]; simp [go_sem]; rfl) (.int .i64 R.node) (.int .i64 R.port) (.int .i64 R.ver)
  refine bodyPost_ret (v := .tuple #[.agg #[.int .i64 R.node, .int .i64 R.port, .int .i64 R.ver], .int .i64 R.err]) (by simp [results, Try.results14, go_sem, k0, k1, k2]) rfl ⟨rfl, HD1.out.kept (S := [w.heap.size + 1]) ?_ ?_ ?_, ?_⟩
  · exact (((Kept.refl _ _).setCell (Or.inl (by simp)) _).setCell (Or.inl (by simp)) _).setCell (Or.inl (by simp)) _
  · simp; omega
  · simp; omega
  · have K1 : Kept [mb] w w1 := (((Kept.refl [mb] w).alloc _).alloc _).trans HK1.out
    exact ((K1.setCell (Or.inr (by simp)) _).setCell (Or.inr (by simp)) _).setCell (Or.inr (by simp)) _

set_option maxRecDepth 100000 in
set_option maxHeartbeats 2000000 in
theorem do_1 {w : World} {db mb cnt : Nat} {M : NMap} (hd : IsDir w db mb M cnt) {N : Nat} (ok : OkM N M cnt) (a : AC) (hs : a.name.size ≤ maxLen) (hk : a.kind = 1) :
    Calls Try.prog 14 (doArgs db a) w (PostR w db mb ⟨(renewF M cnt a).m, (renewF M cnt a).cnt, 0, 0, 0, (renewF M cnt a).err⟩) := by
  have HB := Lib.hid (fun (w' : World) (h : IsDir w' db mb M cnt) => renew_any h ok a hs)
  generalize renewF M cnt a = R at *
  obtain ⟨kind, name, node, port, ver, tick, long⟩ := a
  dsimp only at *
  have HD := Lib.hid hd; clear hd
  have hd0 := HD.out.lt
  subst hk
  go_enter Try.func14, Try.ntmps14
  go_wp2_with (first
    | (go_at_call 19; refine (HB.out _ (HD.out.kept (S := []) (by repeat (first | exact Kept.refl _ _ | refine Kept.alloc ?_ _ | refine Kept.drew ?_ | refine Kept.setCell ?_ (Or.inr (by first | exact Nat.le_refl _ | (simp; done) | (simp; omega) | omega)) _)) (by simp) (by simp))).mono ?_; rintro r w1 ⟨rfl, hd1, hk1⟩; have HD1 := Lib.hid hd1; clear hd1; have hcl := fun b o h h' => hk1.cell (p := ⟨b, o, none⟩) h h'; have hfl := fun b o h h' => hk1.frozen (p := ⟨b, o, none⟩) h h'; have hws : w.heap.size + 1 < w1.heap.size := (by have := hk1.size; simp at this; omega); have n1 : w.heap.size + 1 ≠ mb := (by omega); have HK1 := Lib.hid hk1; clear hk1))
  obtain ⟨k0, k1, k2⟩ := cells3_set (w := w1) (b := w.heap.size + 1) (by rw [hcl _ _ (by simp) (by simp; omega)]; simp [go_sem]; rfl) (by rw [hcl _ _ (by simp) (by simp; omega)]; simp [go_sem]; rfl) (by rw [hcl _ _ (by simp) (by simp; omega)]; simp [go_sem]; rfl) (.int .i64 0) (.int .i64 0) (.int .i64 0)
  refine bodyPost_ret (v := .tuple #[.agg #[.int .i64 0, .int .i64 0, .int .i64 0], .int .i64 R.err]) (by simp [results, Try.results14, go_sem, k0, k1, k2]) rfl ⟨rfl, HD1.out.kept (S := [w.heap.size + 1]) ?_ ?_ ?_, ?_⟩
  · exact (((Kept.refl _ _).setCell (Or.inl (by simp)) _).setCell (Or.inl (by simp)) _).setCell (Or.inl (by simp)) _
  · simp; omega
  · simp; omega
  · have K1 : Kept [mb] w w1 := (((Kept.refl [mb] w).alloc _).alloc _).trans HK1.out
    exact ((K1.setCell (Or.inr (by simp)) _).setCell (Or.inr (by simp)) _).setCell (Or.inr (by simp)) _

set_option maxRecDepth 100000 in
set_option maxHeartbeats 2000000 in
theorem do_2 {w : World} {db mb cnt : Nat} {M : NMap} (hd : IsDir w db mb M cnt) {N : Nat} (ok : OkM N M cnt) (a : AC) (hs : a.name.size ≤ maxLen) (hk : a.kind = 2) :
    Calls Try.prog 14 (doArgs db a) w (PostR w db mb (moveF M cnt a)) := by
  have HB := Lib.hid (fun (w' : World) (h : IsDir w' db mb M cnt) => move_any h ok a hs)
  generalize moveF M cnt a = R at *
  obtain ⟨kind, name, node, port, ver, tick, long⟩ := a
  dsimp only at *
  have HD := Lib.hid hd; clear hd
  have hd0 := HD.out.lt
  subst hk
  go_enter Try.func14, Try.ntmps14
  go_wp2_with (first
    | (go_at_call 18; refine (HB.out _ (HD.out.kept (S := []) (by repeat (first | exact Kept.refl _ _ | refine Kept.alloc ?_ _ | refine Kept.drew ?_ | refine Kept.setCell ?_ (Or.inr (by first | exact Nat.le_refl _ | (simp; done) | (simp; omega) | omega)) _)) (by simp) (by simp))).mono ?_; rintro r w1 ⟨rfl, hd1, hk1⟩; have HD1 := Lib.hid hd1; clear hd1; have hcl := fun b o h h' => hk1.cell (p := ⟨b, o, none⟩) h h'; have hfl := fun b o h h' => hk1.frozen (p := ⟨b, o, none⟩) h h'; have hws : w.heap.size + 1 < w1.heap.size := (by have := hk1.size; simp at this; omega); have n1 : w.heap.size + 1 ≠ mb := (by omega); have HK1 := Lib.hid hk1; clear hk1))
  obtain ⟨k0, k1, k2⟩ := cells3_set (w := w1) (b := w.heap.size + 1) (by rw [hcl _ _ (by simp) (by simp; omega)]; simp [go_sem]; rfl) (by rw [hcl _ _ (by simp) (by simp; omega)]; simp [go_sem]; rfl) (by rw [hcl _ _ (by simp) (by simp; omega)]; simp [go_sem]; rfl) (.int .i64 R.node) (.int .i64 R.port) (.int .i64 R.ver)
  refine bodyPost_ret (v := .tuple #[.agg #[.int .i64 R.node, .int .i64 R.port, .int .i64 R.ver], .int .i64 R.err]) (by simp [results, Try.results14, go_sem, k0, k1, k2]) rfl ⟨rfl, HD1.out.kept (S := [w.heap.size + 1]) ?_ ?_ ?_, ?_⟩
  · exact (((Kept.refl _ _).setCell (Or.inl (by simp)) _).setCell (Or.inl (by simp)) _).setCell (Or.inl (by simp)) _
  · simp; omega
  · simp; omega
  · have K1 : Kept [mb] w w1 := (((Kept.refl [mb] w).alloc _).alloc _).trans HK1.out
    exact ((K1.setCell (Or.inr (by simp)) _).setCell (Or.inr (by simp)) _).setCell (Or.inr (by simp)) _

set_option maxRecDepth 100000 in
set_option maxHeartbeats 2000000 in
theorem do_3 {w : World} {db mb cnt : Nat} {M : NMap} (hd : IsDir w db mb M cnt) {N : Nat} (ok : OkM N M cnt) (a : AC) (hs : a.name.size ≤ maxLen) (hk : a.kind = 3) :
    Calls Try.prog 14 (doArgs db a) w (PostR w db mb ⟨(dropF M cnt a).m, (dropF M cnt a).cnt, 0, 0, 0, (dropF M cnt a).err⟩) := by
  have HB := Lib.hid (fun (w' : World) (h : IsDir w' db mb M cnt) => drop_any h ok a hs)
  generalize dropF M cnt a = R at *
  obtain ⟨kind, name, node, port, ver, tick, long⟩ := a
  dsimp only at *
  have HD := Lib.hid hd; clear hd
  have hd0 := HD.out.lt
  subst hk
  go_enter Try.func14, Try.ntmps14
  go_wp2_with (first
    | (go_at_call 16; refine (HB.out _ (HD.out.kept (S := []) (by repeat (first | exact Kept.refl _ _ | refine Kept.alloc ?_ _ | refine Kept.drew ?_ | refine Kept.setCell ?_ (Or.inr (by first | exact Nat.le_refl _ | (simp; done) | (simp; omega) | omega)) _)) (by simp) (by simp))).mono ?_; rintro r w1 ⟨rfl, hd1, hk1⟩; have HD1 := Lib.hid hd1; clear hd1; have hcl := fun b o h h' => hk1.cell (p := ⟨b, o, none⟩) h h'; have hfl := fun b o h h' => hk1.frozen (p := ⟨b, o, none⟩) h h'; have hws : w.heap.size + 1 < w1.heap.size := (by have := hk1.size; simp at this; omega); have n1 : w.heap.size + 1 ≠ mb := (by omega); have HK1 := Lib.hid hk1; clear hk1))
  obtain ⟨k0, k1, k2⟩ := cells3_set (w := w1) (b := w.heap.size + 1) (by rw [hcl _ _ (by simp) (by simp; omega)]; simp [go_sem]; rfl) (by rw [hcl _ _ (by simp) (by simp; omega)]; simp [go_sem]; rfl) (by rw [hcl _ _ (by simp) (by simp; omega)]; simp [go_sem]; rfl) (.int .i64 0) (.int .i64 0) (.int .i64 0)
  refine bodyPost_ret (v := .tuple #[.agg #[.int .i64 0, .int .i64 0, .int .i64 0], .int .i64 R.err]) (by simp [results, Try.results14, go_sem, k0, k1, k2]) rfl ⟨rfl, HD1.out.kept (S := [w.heap.size + 1]) ?_ ?_ ?_, ?_⟩
  · exact (((Kept.refl _ _).setCell (Or.inl (by simp)) _).setCell (Or.inl (by simp)) _).setCell (Or.inl (by simp)) _
  · simp; omega
  · simp; omega
  · have K1 : Kept [mb] w w1 := (((Kept.refl [mb] w).alloc _).alloc _).trans HK1.out
    exact ((K1.setCell (Or.inr (by simp)) _).setCell (Or.inr (by simp)) _).setCell (Or.inr (by simp)) _

set_option maxRecDepth 100000 in
set_option maxHeartbeats 2000000 in
theorem do_4 {w : World} {db mb cnt : Nat} {M : NMap} (hd : IsDir w db mb M cnt) (a : AC) (hs : a.name.size ≤ maxLen) (h0 : a.kind ≠ 0) (h1 : a.kind ≠ 1) (h2 : a.kind ≠ 2) (h3 : a.kind ≠ 3) :
    Calls Try.prog 14 (doArgs db a) w (PostR w db mb (lookF M cnt a)) := by
  have HB := Lib.hid (fun (w' : World) (h : IsDir w' db mb M cnt) => look_any h a hs)
  generalize lookF M cnt a = R at *
  obtain ⟨kind, name, node, port, ver, tick, long⟩ := a
  dsimp only at *
  have HD := Lib.hid hd; clear hd
  have hd0 := HD.out.lt
  have b0 : (kind == 0) = false := by simpa using h0
  have b1 : (kind == 1) = false := by simpa using h1
  have b2 : (kind == 2) = false := by simpa using h2
  have b3 : (kind == 3) = false := by simpa using h3
  clear h0 h1 h2 h3
  go_enter Try.func14, Try.ntmps14
  go_wp2_with (first
    | (go_at_call 17; refine (HB.out _ (HD.out.kept (S := []) (by repeat (first | exact Kept.refl _ _ | refine Kept.alloc ?_ _ | refine Kept.drew ?_ | refine Kept.setCell ?_ (Or.inr (by first | exact Nat.le_refl _ | (simp; done) | (simp; omega) | omega)) _)) (by simp) (by simp))).mono ?_; rintro r w1 ⟨rfl, hd1, hk1⟩; have HD1 := Lib.hid hd1; clear hd1; have hcl := fun b o h h' => hk1.cell (p := ⟨b, o, none⟩) h h'; have hfl := fun b o h h' => hk1.frozen (p := ⟨b, o, none⟩) h h'; have hws : w.heap.size + 1 < w1.heap.size := (by have := hk1.size; simp at this; omega); have n1 : w.heap.size + 1 ≠ mb := (by omega); have HK1 := Lib.hid hk1; clear hk1))
  obtain ⟨k0, k1, k2⟩ := cells3_set (w := w1) (b := w.heap.size + 1) (by rw [hcl _ _ (by simp) (by simp; omega)]; simp [go_sem]; rfl) (by rw [hcl _ _ (by simp) (by simp; omega)]; simp [go_sem]; rfl) (by rw [hcl _ _ (by simp) (by simp; omega)]; simp [go_sem]; rfl) (.int .i64 R.node) (.int .i64 R.port) (.int .i64 R.ver)
  refine bodyPost_ret (v := .tuple #[.agg #[.int .i64 R.node, .int .i64 R.port, .int .i64 R.ver], .int .i64 R.err]) (by simp [results, Try.results14, go_sem, k0, k1, k2]) rfl ⟨rfl, HD1.out.kept (S := [w.heap.size + 1]) ?_ ?_ ?_, ?_⟩
  · exact (((Kept.refl _ _).setCell (Or.inl (by simp)) _).setCell (Or.inl (by simp)) _).setCell (Or.inl (by simp)) _
  · simp; omega
  · simp; omega
  · have K1 : Kept [mb] w w1 := (((Kept.refl [mb] w).alloc _).alloc _).trans HK1.out
    exact ((K1.setCell (Or.inr (by simp)) _).setCell (Or.inr (by simp)) _).setCell (Or.inr (by simp)) _

theorem do_any {w : World} {db mb cnt : Nat} {M : NMap} (hd : IsDir w db mb M cnt) {N : Nat} (ok : OkM N M cnt) (a : AC) (hs : a.name.size ≤ maxLen) :
    Calls Try.prog 14 (doArgs db a) w (PostR w db mb (actF M cnt a)) := by
  unfold actF
  by_cases h0 : a.kind = 0
  · rw [if_pos h0]; exact do_0 hd ok a hs h0
  rw [if_neg h0]
  by_cases h1 : a.kind = 1
  · rw [if_pos h1]
    have e : renewF M cnt a = ⟨(renewF M cnt a).m, (renewF M cnt a).cnt, 0, 0, 0, (renewF M cnt a).err⟩ := by unfold renewF; split <;> rfl
    rw [e]; exact do_1 hd ok a hs h1
  rw [if_neg h1]
  by_cases h2 : a.kind = 2
  · rw [if_pos h2]; exact do_2 hd ok a hs h2
  rw [if_neg h2]
  by_cases h3 : a.kind = 3
  · rw [if_pos h3]
    have e : dropF M cnt a = ⟨(dropF M cnt a).m, (dropF M cnt a).cnt, 0, 0, 0, (dropF M cnt a).err⟩ := by unfold dropF; split <;> (try rfl) <;> split <;> (try rfl) <;> split <;> rfl
    rw [e]; exact do_3 hd ok a hs h3
  · rw [if_neg h3]; exact do_4 hd a hs h0 h1 h2 h3
end Go.Proofs.Ytehdhnkkkocffaa
