/-
  Layer 44: the writer and the reference's writer say the same.
-/
import Derived.Test.YtldabjgegpmmiaaRef
import Derived.Test.YtldabjgegpmmiaaAwk
namespace Go.Proofs.Ytldabjgegpmmiaa
set_option linter.all false
set_option linter.unusedVariables false
set_option linter.unusedSimpArgs false
set_option linter.unusedSectionVars false
open Go.RowKit Go.Sx

def wOf (M : RW) : Wri := ⟨M.win, M.tmo, M.data.drop M.base.toNat, M.data.length, M.base, M.next, M.top, M.room, M.idle, M.closed, M.sent, M.ever, M.fin⟩
theorem OkM.w {M : RW} (h : OkM M) : OkW (wOf M) := by
  obtain ⟨⟨h1, h2⟩, ⟨h3, h4⟩, h5, h6, h7, ⟨h9, h10⟩, ⟨h11, h12⟩, ⟨h13, h14⟩, h15, h16⟩ := h
  refine ⟨⟨h1, h2⟩, ⟨h3, h4⟩, h5, ?_, h6, by show (M.data.length : Int) ≤ 1048576; omega, ⟨h9, h10⟩, ⟨h11, h12⟩, ⟨h13, h14⟩, h15, h16⟩
  dsimp only [wOf]
  rw [List.length_drop]
  omega
theorem write_cmp {M : RW} (h : OkM M) (l : List Int) : writeF (wOf M) l = (((refWrite M l).2.1, (refWrite M l).2.2, ()), wOf (refWrite M l).1) := by
  obtain ⟨⟨h1, h2⟩, ⟨h3, h4⟩, h5, h6, h7, ⟨h9, h10⟩, ⟨h11, h12⟩, ⟨h13, h14⟩, h15, h16⟩ := h
  unfold writeF refWrite
  by_cases hc : M.closed = true
  · rw [if_pos hc, if_pos (show (wOf M).closed = true from hc)]
  · rw [if_neg hc, if_neg (show ¬ (wOf M).closed = true from hc)]
    have e : wWrite (wOf M) l = rwN M l := rfl
    rw [e]
    have hn : 0 ≤ rwN M l := by dsimp only [rwN]; omega
    have hn2 : rwN M l ≤ l.length := by dsimp only [rwN]; omega
    dsimp only [wOf]
    rw [List.drop_append_of_le_length (by omega), List.length_append, List.length_take]
    have : (M.data.length : Int) + rwN M l = ((M.data.length + min (rwN M l).toNat l.length : Nat) : Int) := by omega
    rw [this]
theorem write_ok2 {M : RW} (h : OkM M) (l : List Int) : OkM (refWrite M l).1 := by
  unfold refWrite
  split
  · exact h
  · obtain ⟨⟨h1, h2⟩, ⟨h3, h4⟩, h5, h6, h7, ⟨h9, h10⟩, ⟨h11, h12⟩, ⟨h13, h14⟩, h15, h16⟩ := h
    have hl : ((M.data ++ l.take (rwN M l).toNat).length : Int) ≤ M.data.length + max 0 (rwN M l) ∧ (M.data.length : Int) ≤ (M.data ++ l.take (rwN M l).toNat).length := by
      rw [List.length_append, List.length_take]; omega
    generalize M.data ++ l.take (rwN M l).toNat = D at hl
    dsimp only [rwN] at hl
    refine ⟨⟨h1, h2⟩, ⟨h3, h4⟩, h5, ?_, ?_, ⟨h9, ?_⟩, ⟨h11, ?_⟩, ⟨h13, h14⟩, h15, h16⟩ <;> dsimp only <;> omega
theorem write_bytes {M : RW} (h : inBytes M.data) {l : List Int} (hl : inBytes l) : inBytes (refWrite M l).1.data := by
  unfold refWrite
  split
  · exact h
  · intro x hx
    rcases List.mem_append.1 hx with h1 | h1
    · exact h x h1
    · exact hl x (List.mem_of_mem_take h1)
theorem write_len {M : RW} (l : List Int) : (refWrite M l).1.data.length ≤ M.data.length + l.length := by
  unfold refWrite
  split
  · exact Nat.le_add_right _ _
  · show (M.data ++ _).length ≤ _
    rw [List.length_append, List.length_take]; omega

theorem rtI_eq {M : RW} : tickIdle (wOf M) = (((rtI M).2.1, (rtI M).2.2, ()), wOf (rtI M).1) := by
  unfold tickIdle rtI
  show (if M.idle + 1 < M.tmo then _ else if M.base < M.next then _ else if M.sent = true then _ else _) = _
  split; · rfl
  split; · rfl
  split <;> rfl
theorem rtB_eq {M : RW} : tickB (wOf M) = (((rtB M).2.1, (rtB M).2.2, ()), wOf (rtB M).1) := by
  unfold tickB rtB
  show (if M.base = M.next then (if M.next = M.data.length then (if M.sent = false then _ else if M.fin = true then _ else _) else _) else _) = _
  split
  · split
    · split; · rfl
      split; · rfl
      exact rtI_eq
    · exact rtI_eq
  · exact rtI_eq
theorem rtA_eq {M : RW} (h : OkM M) : tickA (wOf M) = (((rtA M).2.1, (rtA M).2.2, ()), wOf (rtA M).1) := by
  obtain ⟨⟨h1, h2⟩, ⟨h3, h4⟩, h5, h6, h7, ⟨h9, h10⟩, ⟨h11, h12⟩, ⟨h13, h14⟩, h15, h16⟩ := h
  unfold tickA rtA
  show (if M.closed = true then (if M.next = M.data.length then (if M.sent = false then (if M.fin = false then _ else _) else _) else _) else _) = _
  split
  · split
    · split
      · split
        · rename_i hn _ _
          dsimp only [segW, sendW, wOf]
          have e1 : M.next + 0 = M.next := by omega
          have e2 : max M.top M.next = M.top := by omega
          rw [e1, e2, if_pos rfl, if_pos rfl, hn, Int.toNat_zero, List.take_zero]
        · exact rtB_eq
      · exact rtB_eq
    · exact rtB_eq
  · exact rtB_eq
theorem tick_cmp {M : RW} (h : OkM M) (m : Int) : tick (wOf M) m = (((refTick M m).2.1, (refTick M m).2.2, ()), wOf (refTick M m).1) := by
  have hA := rtA_eq h
  obtain ⟨⟨h1, h2⟩, ⟨h3, h4⟩, h5, h6, h7, ⟨h9, h10⟩, ⟨h11, h12⟩, ⟨h13, h14⟩, h15, h16⟩ := h
  unfold tick refTick
  show (if m < 1 then _ else if M.next < M.data.length then (if M.next < M.base + M.room then (if M.closed = true then (if M.next + tickN (wOf M) m = M.data.length then _ else _) else _) else _) else _) = _
  have hn : tickN (wOf M) m = rtN M m := by dsimp only [tickN, rtN, wOf]; omega
  have hd : ∀ n : Nat, ((M.data.drop M.base.toNat).drop (M.next - M.base).toNat).take n = (M.data.drop M.next.toNat).take n := by
    intro n; rw [List.drop_drop]; congr 2; omega
  split; · rfl
  split
  · split
    · rw [hn]
      split
      · rename_i hc
        split
        · rename_i hl
          dsimp only [segW, sendW, wOf, rtLast]
          rw [hd, hc, hl]
          simp
        · rename_i hl
          dsimp only [segW, sendW, wOf, rtLast]
          rw [hd, hc, decide_eq_false hl]
          simp only [Bool.and_false, Bool.or_false, Bool.false_eq_true, if_false, Bool.true_and]
      · rename_i hc
        have hc : M.closed = false := by simpa using hc
        dsimp only [segW, sendW, wOf, rtLast]
        rw [hd, hc]
        simp
    · exact hA
  · exact hA
theorem tickI_ok {M : RW} (h : OkM M) : OkM (rtI M).1 := by
  obtain ⟨⟨h1, h2⟩, ⟨h3, h4⟩, h5, h6, h7, ⟨h9, h10⟩, ⟨h11, h12⟩, ⟨h13, h14⟩, h15, h16⟩ := h
  unfold rtI
  split; · exact ⟨⟨h1, h2⟩, ⟨h3, h4⟩, h5, h6, h7, ⟨h9, h10⟩, ⟨h11, h12⟩, ⟨h13, h14⟩, by dsimp only; omega, by dsimp only; omega⟩
  split; · exact ⟨⟨h1, h2⟩, ⟨h3, h4⟩, h5, h6, h7, ⟨Int.le_refl _, by dsimp only; omega⟩, ⟨by dsimp only; omega, h12⟩, ⟨h13, h14⟩, Int.le_refl _, by dsimp only; omega⟩
  split; · exact ⟨⟨h1, h2⟩, ⟨h3, h4⟩, h5, h6, h7, ⟨Int.le_refl _, by dsimp only; omega⟩, ⟨by dsimp only; omega, h12⟩, ⟨h13, h14⟩, Int.le_refl _, by dsimp only; omega⟩
  exact ⟨⟨h1, h2⟩, ⟨h3, h4⟩, h5, h6, h7, ⟨h9, h10⟩, ⟨h11, h12⟩, ⟨h13, h14⟩, Int.le_refl _, by dsimp only; omega⟩
theorem tickB_ok {M : RW} (h : OkM M) : OkM (rtB M).1 := by
  have hi := tickI_ok h
  unfold rtB
  split
  · split
    · split; · exact h
      split; · exact h
      exact hi
    · exact hi
  · exact hi
theorem tickA_ok {M : RW} (h : OkM M) : OkM (rtA M).1 := by
  have hi := tickB_ok h
  unfold rtA
  split
  · split
    · split
      · split
        · obtain ⟨⟨h1, h2⟩, ⟨h3, h4⟩, h5, h6, h7, ⟨h9, h10⟩, ⟨h11, h12⟩, ⟨h13, h14⟩, h15, h16⟩ := h
          exact ⟨⟨h1, h2⟩, ⟨h3, h4⟩, h5, h6, h7, ⟨h9, h10⟩, ⟨h11, h12⟩, ⟨h13, h14⟩, Int.le_refl _, by dsimp only; omega⟩
        · exact hi
      · exact hi
    · exact hi
  · exact hi
theorem tick_ok2 {M : RW} (h : OkM M) (m : Int) : OkM (refTick M m).1 := by
  have hi := tickA_ok h
  unfold refTick
  split; · exact h
  split
  · split
    · obtain ⟨⟨h1, h2⟩, ⟨h3, h4⟩, h5, h6, h7, ⟨h9, h10⟩, ⟨h11, h12⟩, ⟨h13, h14⟩, h15, h16⟩ := h
      have hb : 0 ≤ rtN M m ∧ rtN M m ≤ M.data.length - M.next := by dsimp only [rtN]; omega
      exact ⟨⟨h1, h2⟩, ⟨h3, h4⟩, h5, h6, h7, ⟨by dsimp only; omega, by dsimp only; omega⟩, ⟨by dsimp only; omega, by dsimp only; omega⟩, ⟨h13, h14⟩, Int.le_refl _, by dsimp only; omega⟩
    · exact hi
  · exact hi
theorem tick_data {M : RW} (m : Int) : (refTick M m).1.data = M.data := by
  have hi : (rtI M).1.data = M.data := by unfold rtI; (repeat' split) <;> rfl
  have hB : (rtB M).1.data = M.data := by unfold rtB; (repeat' split) <;> first | rfl | exact hi
  have hA : (rtA M).1.data = M.data := by unfold rtA; (repeat' split) <;> first | rfl | exact hB
  unfold refTick
  (repeat' split) <;> first | rfl | exact hA
theorem tick_seg {M : RW} (m : Int) : ∀ x ∈ (refTick M m).2.1.2.1, x ∈ M.data := by
  have hi : (rtI M).2.1.2.1 = [] := by unfold rtI; (repeat' split) <;> rfl
  have hB : (rtB M).2.1.2.1 = [] := by unfold rtB; (repeat' split) <;> first | rfl | exact hi
  have hA : (rtA M).2.1.2.1 = [] := by unfold rtA; (repeat' split) <;> first | rfl | exact hB
  unfold refTick
  (repeat' split) <;> first | (intro x hx; cases hx) | (rw [hA]; intro x hx; cases hx) | (intro x hx; exact List.mem_of_mem_drop (List.mem_of_mem_take hx))

theorem ack_cmp {M : RW} (h : OkM M) (o r : Int) (d : Bool) : ackF (wOf M) o r d = (((refAck M o r d).2, ()), wOf (refAck M o r d).1) := by
  obtain ⟨⟨h1, h2⟩, ⟨h3, h4⟩, h5, h6, h7, ⟨h9, h10⟩, ⟨h11, h12⟩, ⟨h13, h14⟩, h15, h16⟩ := h
  have key : ¬ o < 0 → (d = true → o = M.data.length) → ackM (wOf M) o r d = (((refAckM M o r d).2, ()), wOf (refAckM M o r d).1) := by
    intro h0 hd
    unfold ackM refAckM
    show (if o < M.base then _ else if o = M.base then _ else _) = _
    by_cases c1 : o < M.base
    · have hdf : d = false := by
        cases d
        · rfl
        · have := hd rfl; omega
      rw [if_pos c1, if_neg (by omega), if_neg (by omega), hdf]
      simp only [Bool.or_false]
    · rw [if_neg c1]
      by_cases c2 : o = M.base
      · rw [if_pos c2, if_pos c2]; rfl
      · rw [if_neg c2, if_neg c2, if_pos (by omega)]
        dsimp only [wOf]
        rw [List.drop_drop]
        have : M.base.toNat + (o - M.base).toNat = o.toNat := by omega
        rw [this]
  unfold ackF refAck
  show (if o < 0 then _ else if M.top < o then _ else if r < 0 then _ else if 1048576 < r then _ else if d = true then (if M.closed = false then _ else if ¬ o = M.data.length then _ else if M.ever = false then _ else _) else _) = _
  by_cases c0 : o < 0
  · rw [if_pos c0, if_pos c0]
  rw [if_neg c0, if_neg c0]
  split; · rfl
  split; · rfl
  split; · rfl
  split
  · split; · rfl
    by_cases c : o = M.data.length
    · rw [if_neg (by simpa using c), if_pos c]
      split; · rfl
      exact key c0 (fun _ => c)
    · rw [if_pos c, if_neg c]
  · rename_i hd
    exact key c0 (fun hh => absurd hh hd)
theorem ack_ok2 {M : RW} (h : OkM M) (o r : Int) (d : Bool) : OkM (refAck M o r d).1 := by
  have key : 0 ≤ o → o ≤ M.top → 0 ≤ r → r ≤ 1048576 → OkM (refAckM M o r d).1 := by
    obtain ⟨⟨h1, h2⟩, ⟨h3, h4⟩, h5, h6, h7, ⟨h9, h10⟩, ⟨h11, h12⟩, ⟨h13, h14⟩, h15, h16⟩ := h
    intro k1 k2 k3 k4
    unfold refAckM
    split; · exact ⟨⟨h1, h2⟩, ⟨h3, h4⟩, h5, h6, h7, ⟨h9, h10⟩, ⟨h11, h12⟩, ⟨by dsimp only; omega, by dsimp only; omega⟩, h15, h16⟩
    split; · exact ⟨⟨h1, h2⟩, ⟨h3, h4⟩, k1, by dsimp only; omega, h7, ⟨by dsimp only; omega, by dsimp only; omega⟩, ⟨by dsimp only; omega, h12⟩, ⟨k3, k4⟩, Int.le_refl _, by dsimp only; omega⟩
    exact ⟨⟨h1, h2⟩, ⟨h3, h4⟩, h5, h6, h7, ⟨h9, h10⟩, ⟨h11, h12⟩, ⟨h13, h14⟩, h15, h16⟩
  unfold refAck
  split; · exact h
  split; · exact h
  split; · exact h
  split; · exact h
  have k := key (by omega) (by omega) (by omega) (by omega)
  (repeat' split) <;> first | exact h | exact k
theorem ack_data {M : RW} (o r : Int) (d : Bool) : (refAck M o r d).1.data = M.data := by
  have hk : (refAckM M o r d).1.data = M.data := by unfold refAckM; (repeat' split) <;> rfl
  unfold refAck
  (repeat' split) <;> first | rfl | exact hk
theorem close_ok2 {M : RW} (h : OkM M) : OkM { M with closed := true } := by
  obtain ⟨⟨h1, h2⟩, ⟨h3, h4⟩, h5, h6, h7, ⟨h9, h10⟩, ⟨h11, h12⟩, ⟨h13, h14⟩, h15, h16⟩ := h
  exact ⟨⟨h1, h2⟩, ⟨h3, h4⟩, h5, h6, h7, ⟨h9, h10⟩, ⟨h11, h12⟩, ⟨h13, h14⟩, h15, h16⟩
theorem close_cmp {M : RW} : closeF (wOf M) = ((if M.closed = true then 13 else 0, ()), wOf { M with closed := true }) := by
  unfold closeF
  show (if M.closed = true then _ else _) = _
  split
  · rename_i h
    dsimp only [wOf]
    rw [h]
  · rfl
end Go.Proofs.Ytldabjgegpmmiaa
