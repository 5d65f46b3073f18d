/-
  Layer 44: the invariant of a writer and a reader with everything that was ever sent between them (plain).
-/
import Derived.Test.YtebhcmgfhkjmcaaInv
namespace Go.Proofs.Ytebhcmgfhkjmcaa
set_option linter.all false
set_option linter.unusedVariables false
set_option linter.unusedSimpArgs false
set_option linter.unusedSectionVars false
open Go.RowKit Go.Sx

structure Inv (x : WS) : Prop where
  ok : OkW x.w
  tk : x.w.taken = x.data.length
  wd : x.w.data = x.data.drop x.w.base.toNat
  base : x.w.base ≤ x.r.sto.next
  segs : ∀ s ∈ x.segs, Part x.data x.w.top s ∧ (s.2.2 = true → x.w.closed = true ∧ x.w.marked = true ∧ s.1 + (s.2.1.length : Int) = x.w.taken)
  st : StI x.r.sto x.data x.w.top
  rw : x.r.win = x.r.sto.win
  fin : x.r.sto.known = true → x.w.closed = true ∧ x.w.marked = true ∧ x.r.sto.fin = x.w.taken
  rd : x.read = x.data.take x.r.sto.off.toNat
  al : x.done.length = x.acks.length
  ack : ∀ i : Nat, i < x.acks.length → (0 ≤ (x.acks.getD i (0, 0)).1 ∧ (x.acks.getD i (0, 0)).1 ≤ x.r.sto.next) ∧ (0 ≤ (x.acks.getD i (0, 0)).2 ∧ (x.acks.getD i (0, 0)).2 ≤ 1048576) ∧ (x.done.getD i false = true → x.w.closed = true ∧ x.w.marked = true ∧ (x.acks.getD i (0, 0)).1 = x.w.taken)
theorem Inv.data {x : WS} (h : Inv x) : x.data.length ≤ 1048576 := by have := h.ok.taken; have := h.tk; omega
theorem Inv.topd {x : WS} (h : Inv x) : x.w.top ≤ x.data.length := by have := h.ok.top; have := h.tk; omega
theorem Inv.pre {x : WS} (h : Inv x) (hd : x.data.length ≤ 1000000) (hs : x.segs.length ≤ 1000000) (ha : x.acks.length ≤ 1000000) : PreX x :=
  ⟨h.ok, h.st.pre (by have := h.ok.top; have := h.ok.taken; omega), h.rw, hd, by rw [h.rd, List.length_take]; omega, hs, ha, h.al, fun s hs => by have h1 := (h.segs s hs).1.hi; have h2 := (h.segs s hs).1.lo; have := h.ok.top; have := h.ok.taken; omega⟩
/-- The reader and what was read are as before; the writer has moved on. -/
theorem Inv.step {x : WS} (h : Inv x) {w : Wri} {e : List Int} {ss : List Seg} (ok : OkW w) (tk : w.taken = x.w.taken + e.length) (wd : w.data = (x.data ++ e).drop w.base.toNat) (base : w.base ≤ x.r.sto.next) (top : x.w.top ≤ w.top) (cl : x.w.closed = true → w.closed = true) (mk : x.w.marked = true → w.marked = true) (ce : x.w.closed = true → e = [])
    (hs : ∀ s ∈ ss, Part (x.data ++ e) w.top s ∧ (s.2.2 = true → w.closed = true ∧ w.marked = true ∧ s.1 + (s.2.1.length : Int) = w.taken)) : Inv { x with w := w, data := x.data ++ e, segs := x.segs ++ ss } := by
  have hd := h.topd
  have htk := h.tk
  have hce : x.w.closed = true → w.taken = x.w.taken := fun hc => by rw [tk, ce hc]; simp
  refine ⟨ok, by dsimp only; rw [List.length_append]; omega, wd, base, fun s hs' => ?_, h.st.grow top hd, h.rw, fun hk => ?_, ?_, h.al, fun i hi => ?_⟩
  · rcases List.mem_append.1 hs' with h1 | h1
    · obtain ⟨a, b⟩ := h.segs s h1
      exact ⟨a.grow top hd, fun hl => ⟨cl (b hl).1, mk (b hl).2.1, by dsimp only; rw [hce (b hl).1]; exact (b hl).2.2⟩⟩
    · exact hs s h1
  · obtain ⟨a, b, c⟩ := h.fin hk
    exact ⟨cl a, mk b, by dsimp only; rw [hce a]; exact c⟩
  · have h1 := h.st.off
    have h2 := h.st.nxt
    show x.read = (x.data ++ e).take x.r.sto.off.toNat
    rw [h.rd, List.take_append_of_le_length (by omega)]
  · obtain ⟨a, b, c⟩ := h.ack i hi
    exact ⟨a, b, fun hk => ⟨cl (c hk).1, mk (c hk).2.1, by dsimp only; rw [hce (c hk).1]; exact (c hk).2.2⟩⟩
end Go.Proofs.Ytebhcmgfhkjmcaa
