/-
  One name's entry, followed through the calls (layer 40).
-/
import Derived.Test.YtehdhnkkkocffaaAwake
namespace Go.Proofs.Ytehdhnkkkocffaa
set_option linter.unusedSimpArgs false
set_option linter.unusedVariables false
set_option linter.unusedSectionVars false
open Go.RowKit Go.Maps Go.WideMaps

/-- The directory's entry for the name k is e. -/
def St (w : World) (db mb N : Nat) (k : List UInt8) (e : Ent) : Prop := ∃ M cnt, IsDir w db mb M cnt ∧ OkM N M cnt ∧ getE M k = e

section
variable {w : World} {db mb N : Nat} {s : ByteArray} {e : Ent}

theorem St.kept {w' : World} {k : List UInt8} {S : List Nat} (h : St w db mb N k e) (hk : Kept S w w') (h1 : db ∉ S) (h2 : mb ∉ S) : St w' db mb N k e := by
  obtain ⟨M, cnt, hd, ok, he⟩ := h
  exact ⟨M, cnt, hd.kept hk h1 h2, ok, he⟩
theorem St.lt {k : List UInt8} (h : St w db mb N k e) : db < w.heap.size ∧ mb < w.heap.size := by
  obtain ⟨M, cnt, hd, ok, he⟩ := h
  exact hd.lt
theorem St.new {w : World} {db mb : Nat} (h : IsDir w db mb (fun _ => none) 0) (k : List UInt8) : St w db mb 0 k zeroEnt := ⟨_, 0, h, okM_empty, rfl⟩

theorem st_bind (h : St w db mb N s.data.toList e) (hs : s.size ≤ maxLen) (hv : validB s = true) (n p t l : Int) (hb : bindOkB n p t l = true) (hl : liveE e t = false) (hN : N < 900) :
    Calls Try.prog 15 #[.pointer (some ⟨db, 0, none⟩), .string s, .int .i64 n, .int .i64 p, .int .i64 t, .int .i64 l] w fun r w' =>
      r = .returned (.tuple #[.agg #[.int .i64 n, .int .i64 p, .int .i64 (e.ver + 1)], .int .i64 0]) ∧ St w' db mb (N + 1) s.data.toList ⟨n, p, e.ver + 1, true, l, t + l⟩ ∧ Kept [mb] w w' := by
  obtain ⟨M, cnt, hd, ok, rfl⟩ := h
  have hc := ok.cnt
  have h1 := bind_any hd ok ⟨0, s, n, p, 0, t, l⟩ hs
  have ok1 := ok.act (by omega) ⟨0, s, n, p, 0, t, l⟩
  have e1 : bindF M cnt ⟨0, s, n, p, 0, t, l⟩ = ⟨setE M s.data.toList ⟨n, p, (getE M s.data.toList).ver + 1, true, l, t + l⟩, addE M s.data.toList cnt, n, p, (getE M s.data.toList).ver + 1, 0⟩ := by
    unfold bindF
    rw [if_neg (by simp [hv]), if_neg (by simp [hb]), if_neg (by simp [key, hl]), if_neg (by omega)]
  have e2 : actF M cnt ⟨0, s, n, p, 0, t, l⟩ = bindF M cnt ⟨0, s, n, p, 0, t, l⟩ := by simp [actF]
  rw [e2, e1] at ok1
  rw [e1] at h1
  exact h1.mono fun r w' ⟨r1, r2, r3⟩ => ⟨r1, ⟨_, _, r2, ok1, getE_set_same _ _ _⟩, r3⟩

theorem st_move (h : St w db mb N s.data.toList e) (hs : s.size ≤ maxLen) (hv : validB s = true) (n p t : Int) (hp : vPlace n p = true) (ht : vTick t = true) (hl : liveE e t = true) (hN : N < 900) :
    Calls Try.prog 18 #[.pointer (some ⟨db, 0, none⟩), .string s, .int .i64 e.ver, .int .i64 n, .int .i64 p, .int .i64 t] w fun r w' =>
      r = .returned (.tuple #[.agg #[.int .i64 n, .int .i64 p, .int .i64 (e.ver + 1)], .int .i64 0]) ∧ St w' db mb (N + 1) s.data.toList ⟨n, p, e.ver + 1, e.bound, e.lease, e.fin⟩ ∧ Kept [mb] w w' := by
  obtain ⟨M, cnt, hd, ok, rfl⟩ := h
  have hc := ok.cnt
  have h1 := move_any hd ok ⟨2, s, n, p, (getE M s.data.toList).ver, t, 0⟩ hs
  have ok1 := ok.act (by omega) ⟨2, s, n, p, (getE M s.data.toList).ver, t, 0⟩
  have hf : findF M ⟨2, s, n, p, (getE M s.data.toList).ver, t, 0⟩ (vPlace n p) = 0 := by simp [findF, hv, hp, ht, hl, key]
  have e1 : moveF M cnt ⟨2, s, n, p, (getE M s.data.toList).ver, t, 0⟩ = ⟨setE M s.data.toList ⟨n, p, (getE M s.data.toList).ver + 1, (getE M s.data.toList).bound, (getE M s.data.toList).lease, (getE M s.data.toList).fin⟩, addE M s.data.toList cnt, n, p, (getE M s.data.toList).ver + 1, 0⟩ := by
    unfold moveF
    rw [if_pos hf]
  have e2 : actF M cnt ⟨2, s, n, p, (getE M s.data.toList).ver, t, 0⟩ = moveF M cnt ⟨2, s, n, p, (getE M s.data.toList).ver, t, 0⟩ := by simp [actF]
  rw [e2, e1] at ok1
  rw [e1] at h1
  exact h1.mono fun r w' ⟨r1, r2, r3⟩ => ⟨r1, ⟨_, _, r2, ok1, getE_set_same _ _ _⟩, r3⟩

theorem st_move_stale (h : St w db mb N s.data.toList e) (hs : s.size ≤ maxLen) (hv : validB s = true) (v n p t : Int) (hp : vPlace n p = true) (ht : vTick t = true) (hl : liveE e t = true) (hver : e.ver ≠ v) :
    Calls Try.prog 18 #[.pointer (some ⟨db, 0, none⟩), .string s, .int .i64 v, .int .i64 n, .int .i64 p, .int .i64 t] w fun r w' =>
      r = .returned (.tuple #[.agg #[.int .i64 0, .int .i64 0, .int .i64 0], .int .i64 17]) ∧ St w' db mb N s.data.toList e ∧ Kept [mb] w w' := by
  obtain ⟨M, cnt, hd, ok, rfl⟩ := h
  have h1 := move_any hd ok ⟨2, s, n, p, v, t, 0⟩ hs
  have hf : findF M ⟨2, s, n, p, v, t, 0⟩ (vPlace n p) = 17 := by simp [findF, hv, hp, ht, hl, key, hver]
  have e1 : moveF M cnt ⟨2, s, n, p, v, t, 0⟩ = ⟨M, cnt, 0, 0, 0, 17⟩ := by unfold moveF; rw [hf, if_neg (by decide)]
  rw [e1] at h1
  exact h1.mono fun r w' ⟨r1, r2, r3⟩ => ⟨r1, ⟨_, _, r2, ok, rfl⟩, r3⟩

theorem st_renew (h : St w db mb N s.data.toList e) (hs : s.size ≤ maxLen) (hv : validB s = true) (t : Int) (ht : vTick t = true) (hl : liveE e t = true) (hN : N < 900) :
    Calls Try.prog 19 #[.pointer (some ⟨db, 0, none⟩), .string s, .int .i64 e.ver, .int .i64 t] w fun r w' =>
      r = .returned (.int .i64 0) ∧ St w' db mb (N + 1) s.data.toList ⟨e.node, e.port, e.ver, e.bound, e.lease, max e.fin (t + e.lease)⟩ ∧ Kept [mb] w w' := by
  obtain ⟨M, cnt, hd, ok, rfl⟩ := h
  have h1 := renew_any hd ok ⟨1, s, 0, 0, (getE M s.data.toList).ver, t, 0⟩ hs
  have ok1 := ok.act (by omega) ⟨1, s, 0, 0, (getE M s.data.toList).ver, t, 0⟩
  have hf : findF M ⟨1, s, 0, 0, (getE M s.data.toList).ver, t, 0⟩ true = 0 := by simp [findF, hv, ht, hl, key]
  have e1 : renewF M cnt ⟨1, s, 0, 0, (getE M s.data.toList).ver, t, 0⟩ = ⟨setE M s.data.toList ⟨(getE M s.data.toList).node, (getE M s.data.toList).port, (getE M s.data.toList).ver, (getE M s.data.toList).bound, (getE M s.data.toList).lease, max (getE M s.data.toList).fin (t + (getE M s.data.toList).lease)⟩, addE M s.data.toList cnt, 0, 0, 0, 0⟩ := by
    unfold renewF
    rw [if_pos hf]
  have e2 : actF M cnt ⟨1, s, 0, 0, (getE M s.data.toList).ver, t, 0⟩ = renewF M cnt ⟨1, s, 0, 0, (getE M s.data.toList).ver, t, 0⟩ := by simp [actF]
  rw [e2, e1] at ok1
  rw [e1] at h1
  exact h1.mono fun r w' ⟨r1, r2, r3⟩ => ⟨r1, ⟨_, _, r2, ok1, getE_set_same _ _ _⟩, r3⟩

theorem st_renew_bad (h : St w db mb N s.data.toList e) (hs : s.size ≤ maxLen) (hv : validB s = true) (v t c : Int) (ht : vTick t = true) (hc : (liveE e t = false ∧ c = 7) ∨ (liveE e t = true ∧ e.ver ≠ v ∧ c = 17)) :
    Calls Try.prog 19 #[.pointer (some ⟨db, 0, none⟩), .string s, .int .i64 v, .int .i64 t] w fun r w' =>
      r = .returned (.int .i64 c) ∧ St w' db mb N s.data.toList e ∧ Kept [mb] w w' := by
  obtain ⟨M, cnt, hd, ok, rfl⟩ := h
  have h1 := renew_any hd ok ⟨1, s, 0, 0, v, t, 0⟩ hs
  have hf : findF M ⟨1, s, 0, 0, v, t, 0⟩ true = c ∧ c ≠ 0 := by
    rcases hc with ⟨hl, rfl⟩ | ⟨hl, hver, rfl⟩
    · simp [findF, hv, ht, hl, key]
    · simp [findF, hv, ht, hl, key, hver]
  have e1 : renewF M cnt ⟨1, s, 0, 0, v, t, 0⟩ = ⟨M, cnt, 0, 0, 0, c⟩ := by unfold renewF; rw [hf.1, if_neg hf.2]
  rw [e1] at h1
  exact h1.mono fun r w' ⟨r1, r2, r3⟩ => ⟨r1, ⟨_, _, r2, ok, rfl⟩, r3⟩

theorem st_drop (h : St w db mb N s.data.toList e) (hs : s.size ≤ maxLen) (hv : validB s = true) (hb : e.bound = true) (hN : N < 900) :
    Calls Try.prog 16 #[.pointer (some ⟨db, 0, none⟩), .string s, .int .i64 e.ver] w fun r w' =>
      r = .returned (.int .i64 0) ∧ St w' db mb (N + 1) s.data.toList ⟨0, 0, e.ver, false, 0, 0⟩ ∧ Kept [mb] w w' := by
  obtain ⟨M, cnt, hd, ok, rfl⟩ := h
  have h1 := drop_any hd ok ⟨3, s, 0, 0, (getE M s.data.toList).ver, 0, 0⟩ hs
  have ok1 := ok.act (by omega) ⟨3, s, 0, 0, (getE M s.data.toList).ver, 0, 0⟩
  have e1 : dropF M cnt ⟨3, s, 0, 0, (getE M s.data.toList).ver, 0, 0⟩ = ⟨setE M s.data.toList ⟨0, 0, (getE M s.data.toList).ver, false, 0, 0⟩, addE M s.data.toList cnt, 0, 0, 0, 0⟩ := by
    unfold dropF
    rw [if_neg (by simp [hv]), if_neg (by simp [key, hb]), if_pos rfl]
  have e2 : actF M cnt ⟨3, s, 0, 0, (getE M s.data.toList).ver, 0, 0⟩ = dropF M cnt ⟨3, s, 0, 0, (getE M s.data.toList).ver, 0, 0⟩ := by simp [actF]
  rw [e2, e1] at ok1
  rw [e1] at h1
  exact h1.mono fun r w' ⟨r1, r2, r3⟩ => ⟨r1, ⟨_, _, r2, ok1, getE_set_same _ _ _⟩, r3⟩

theorem st_drop_bad (h : St w db mb N s.data.toList e) (hs : s.size ≤ maxLen) (hv : validB s = true) (v c : Int) (hc : (e.bound = false ∧ c = 7) ∨ (e.bound = true ∧ e.ver ≠ v ∧ c = 17)) :
    Calls Try.prog 16 #[.pointer (some ⟨db, 0, none⟩), .string s, .int .i64 v] w fun r w' =>
      r = .returned (.int .i64 c) ∧ St w' db mb N s.data.toList e ∧ Kept [mb] w w' := by
  obtain ⟨M, cnt, hd, ok, rfl⟩ := h
  have h1 := drop_any hd ok ⟨3, s, 0, 0, v, 0, 0⟩ hs
  have e1 : dropF M cnt ⟨3, s, 0, 0, v, 0, 0⟩ = ⟨M, cnt, 0, 0, 0, c⟩ := by
    unfold dropF
    rcases hc with ⟨hl, rfl⟩ | ⟨hl, hver, rfl⟩
    · rw [if_neg (by simp [hv]), if_pos (by simp [key, hl])]
    · rw [if_neg (by simp [hv]), if_neg (by simp [key, hl]), if_neg (by simp [key, hver])]
  rw [e1] at h1
  exact h1.mono fun r w' ⟨r1, r2, r3⟩ => ⟨r1, ⟨_, _, r2, ok, rfl⟩, r3⟩

theorem st_look (h : St w db mb N s.data.toList e) (hs : s.size ≤ maxLen) (hv : validB s = true) (t : Int) (ht : vTick t = true) (hl : liveE e t = true) :
    Calls Try.prog 17 #[.pointer (some ⟨db, 0, none⟩), .string s, .int .i64 t] w fun r w' =>
      r = .returned (.tuple #[.agg #[.int .i64 e.node, .int .i64 e.port, .int .i64 e.ver], .int .i64 0]) ∧ St w' db mb N s.data.toList e ∧ Kept [mb] w w' := by
  obtain ⟨M, cnt, hd, ok, rfl⟩ := h
  have h1 := look_any hd ⟨4, s, 0, 0, 0, t, 0⟩ hs
  have e1 : lookF M cnt ⟨4, s, 0, 0, 0, t, 0⟩ = ⟨M, cnt, (getE M s.data.toList).node, (getE M s.data.toList).port, (getE M s.data.toList).ver, 0⟩ := by
    unfold lookF
    rw [if_neg (by simp [hv]), if_neg (by simp [ht]), if_neg (by simp [key, hl])]
  rw [e1] at h1
  exact h1.mono fun r w' ⟨r1, r2, r3⟩ => ⟨r1, ⟨_, _, r2, ok, rfl⟩, r3⟩

theorem st_look_none (h : St w db mb N s.data.toList e) (hs : s.size ≤ maxLen) (hv : validB s = true) (t : Int) (ht : vTick t = true) (hl : liveE e t = false) :
    Calls Try.prog 17 #[.pointer (some ⟨db, 0, none⟩), .string s, .int .i64 t] w fun r w' =>
      r = .returned (.tuple #[.agg #[.int .i64 0, .int .i64 0, .int .i64 0], .int .i64 7]) ∧ St w' db mb N s.data.toList e ∧ Kept [mb] w w' := by
  obtain ⟨M, cnt, hd, ok, rfl⟩ := h
  have h1 := look_any hd ⟨4, s, 0, 0, 0, t, 0⟩ hs
  have e1 : lookF M cnt ⟨4, s, 0, 0, 0, t, 0⟩ = ⟨M, cnt, 0, 0, 0, 7⟩ := by
    unfold lookF
    rw [if_neg (by simp [hv]), if_neg (by simp [ht]), if_pos (by simp [key, hl])]
  rw [e1] at h1
  exact h1.mono fun r w' ⟨r1, r2, r3⟩ => ⟨r1, ⟨_, _, r2, ok, rfl⟩, r3⟩
end
end Go.Proofs.Ytehdhnkkkocffaa
