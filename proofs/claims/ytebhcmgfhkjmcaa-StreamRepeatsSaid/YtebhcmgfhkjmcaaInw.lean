/-
  Layer 44: the invariant of a writer and a reader with everything that was ever sent between them (plain).
-/
import Derived.Test.YtebhcmgfhkjmcaaInv
namespace Go.Proofs.Ytebhcmgfhkjmcaa
set_option linter.all false
set_option linter.unusedVariables false
set_option linter.unusedSimpArgs false
set_option linter.unusedSectionVars false
open Go.RowKit Go.Sx

theorem rdK_ok {S : Sto} {d : List Int} {top : Int} : ∀ (n : Nat) (K : List KV) (a : Int), (K.map Prod.fst).Nodup → (∀ p ∈ K, a ≤ p.1 ∧ p.1 < S.off + S.win ∧ p.1 < top) → (∀ p ∈ K, d.getD p.1.toNat 0 = p.2) → (∀ k, a ≤ k → k < a + n → k ∈ K.map Prod.fst) → 0 ≤ a →
    ((rdK K a n).map Prod.fst).Nodup ∧ (∀ p ∈ rdK K a n, a + n ≤ p.1 ∧ p.1 < S.off + S.win ∧ p.1 < top) ∧ (∀ p ∈ rdK K a n, d.getD p.1.toNat 0 = p.2) ∧ (∀ k, a + n ≤ k → k ∈ K.map Prod.fst → k ∈ (rdK K a n).map Prod.fst) ∧ ∀ i : Nat, i < n → (rdB K a n).getD i 0 = d.getD (a.toNat + i) 0
  | 0, K, a, h1, h2, h3, _, _ => ⟨h1, fun p hp => by have := h2 p hp; simp; exact this, h3, fun _ _ h => h, fun i hi => by omega⟩
  | n + 1, K, a, h1, h2, h3, h4, h0 => by
    have k1 : ((delI K a).map Prod.fst).Nodup := h1.sublist delI_sub
    have k2 : ∀ p ∈ delI K a, a + 1 ≤ p.1 ∧ p.1 < S.off + S.win ∧ p.1 < top := fun p hp => by
      have := h2 p (delI_mem p hp)
      have h5 := ((delI_key h1).1 (List.mem_map.2 ⟨p, hp, rfl⟩)).1
      omega
    obtain ⟨r1, r2, r3, r4, r5⟩ := rdK_ok n (delI K a) (a + 1) k1 k2 (fun p hp => h3 p (delI_mem p hp)) (fun k hk1 hk2 => (delI_key h1).2 ⟨by omega, h4 k (by omega) (by omega)⟩) (by omega)
    have e : a + ((n + 1 : Nat) : Int) = a + 1 + (n : Int) := by omega
    refine ⟨r1, fun p hp => by rw [e]; exact r2 p hp, r3, fun k hk1 hk2 => r4 k (by omega) ((delI_key h1).2 ⟨by omega, hk2⟩), fun i hi => ?_⟩
    cases i with
    | zero =>
      show ((getI K a).getD 0 :: rdB (delI K a) (a + 1) n).getD 0 0 = _
      cases hg : getI K a with
      | none =>
        have := getI_some (h4 a (Int.le_refl _) (by omega))
        rw [hg] at this; cases this
      | some v => exact (h3 _ (getI_mem hg)).symm
    | succ i =>
      show (rdB (delI K a) (a + 1) n).getD i 0 = _
      rw [r5 i (by omega), show (a + 1).toNat + i = a.toNat + (i + 1) by omega]
/-- What is read is the next part of the stream. -/
theorem read_part {S : Sto} {d : List Int} {top : Int} (h : StI S d top) (ht : top ≤ d.length) (m : Int) :
    StI (readF S m).2 d top ∧ S.off ≤ (readF S m).2.off ∧ (readF S m).2.next = S.next ∧ (readF S m).2.win = S.win ∧ (readF S m).2.known = S.known ∧ (readF S m).2.fin = S.fin ∧
      d.take S.off.toNat ++ (readF S m).1.1 = d.take (readF S m).2.off.toNat := by
  unfold readF
  split
  · exact ⟨h, Int.le_refl _, rfl, rfl, rfl, rfl, List.append_nil _⟩
  · have hoff := h.off
    have hnx := h.nxt
    have hn : 0 ≤ rdN S m ∧ rdN S m ≤ S.next - S.off := by dsimp only [rdN]; omega
    obtain ⟨r1, r2, r3, r4, r5⟩ := rdK_ok (S := S) (d := d) (top := top) (rdN S m).toNat S.kept S.off h.nd h.rng h.val (fun k h1 h2 => h.ctg k h1 (by omega)) hoff.1
    refine ⟨⟨h.win, ⟨by dsimp only; omega, by dsimp only; omega⟩, ⟨by dsimp only; omega, hnx.2⟩, r1, fun p hp => by have := r2 p hp; dsimp only; omega, r3, fun k h1 h2 => r4 k (by dsimp only at h1; omega) (h.ctg k (by dsimp only at h1; omega) h2)⟩, by dsimp only; omega, rfl, rfl, rfl, rfl, ?_⟩
    have hl := rdB_len S.kept S.off (rdN S m).toNat
    have e := list_eq_take (l := rdB S.kept S.off (rdN S m).toNat) (d := d) (a := S.off.toNat) (fun i hi => r5 i (by omega)) (by omega)
    show d.take S.off.toNat ++ rdB S.kept S.off (rdN S m).toNat = d.take (S.off + rdN S m).toNat
    rw [e, hl, show (S.off + rdN S m).toNat = S.off.toNat + (rdN S m).toNat by omega, List.take_add]

/-- The stream grows at its end; the highest sent offset grows. -/
theorem Part.grow {d e : List Int} {top top' : Int} {s : Seg} (h : Part d top s) (ht : top ≤ top') (hd : top ≤ d.length) : Part (d ++ e) top' s :=
  ⟨h.lo, by have := h.hi; omega, fun i hi => by
    rw [h.eq i hi]
    have := h.hi; have := h.lo
    rw [List.getD_eq_getElem?_getD, List.getD_eq_getElem?_getD, List.getElem?_append_left (by omega)]⟩
theorem StI.grow {S : Sto} {d e : List Int} {top top' : Int} (h : StI S d top) (ht : top ≤ top') (hd : top ≤ d.length) : StI S (d ++ e) top' :=
  ⟨h.win, h.off, ⟨h.nxt.1, by have := h.nxt; omega⟩, h.nd, fun p hp => by have := h.rng p hp; omega, fun p hp => by
    have h1 := h.rng p hp
    have h2 := h.off
    rw [← h.val p hp, List.getD_eq_getElem?_getD, List.getD_eq_getElem?_getD, List.getElem?_append_left (by omega)], h.ctg⟩

structure Inv (x : WS) : Prop where
  ok : OkW x.w
  tk : x.w.taken = x.data.length
  wd : x.w.data = x.data.drop x.w.base.toNat
  base : x.w.base ≤ x.r.sto.next
  segs : ∀ s ∈ x.segs, Part x.data x.w.top s ∧ (s.2.2 = true → x.w.closed = true ∧ x.w.marked = true ∧ s.1 + (s.2.1.length : Int) = x.w.taken)
  st : StI x.r.sto x.data x.w.top
  rw : x.r.win = x.r.sto.win
  fin : x.r.sto.known = true → x.w.closed = true ∧ x.w.marked = true ∧ x.r.sto.fin = x.w.taken
  rd : x.read = x.data.take x.r.sto.off.toNat
  al : x.done.length = x.acks.length
  ack : ∀ i : Nat, i < x.acks.length → (0 ≤ (x.acks.getD i (0, 0)).1 ∧ (x.acks.getD i (0, 0)).1 ≤ x.r.sto.next) ∧ (0 ≤ (x.acks.getD i (0, 0)).2 ∧ (x.acks.getD i (0, 0)).2 ≤ 1048576) ∧ (x.done.getD i false = true → x.w.closed = true ∧ x.w.marked = true ∧ (x.acks.getD i (0, 0)).1 = x.w.taken)
theorem Inv.data {x : WS} (h : Inv x) : x.data.length ≤ 1048576 := by have := h.ok.taken; have := h.tk; omega
theorem Inv.topd {x : WS} (h : Inv x) : x.w.top ≤ x.data.length := by have := h.ok.top; have := h.tk; omega
theorem Inv.pre {x : WS} (h : Inv x) (hd : x.data.length ≤ 1000000) (hs : x.segs.length ≤ 1000000) (ha : x.acks.length ≤ 1000000) : PreX x :=
  ⟨h.ok, h.st.pre (by have := h.ok.top; have := h.ok.taken; omega), h.rw, hd, by rw [h.rd, List.length_take]; omega, hs, ha, h.al, fun s hs => by have h1 := (h.segs s hs).1.hi; have h2 := (h.segs s hs).1.lo; have := h.ok.top; have := h.ok.taken; omega⟩
/-- The reader and what was read are as before; the writer has moved on. -/
theorem Inv.step {x : WS} (h : Inv x) {w : Wri} {e : List Int} {ss : List Seg} (ok : OkW w) (tk : w.taken = x.w.taken + e.length) (wd : w.data = (x.data ++ e).drop w.base.toNat) (base : w.base ≤ x.r.sto.next) (top : x.w.top ≤ w.top) (cl : x.w.closed = true → w.closed = true) (mk : x.w.marked = true → w.marked = true) (ce : x.w.closed = true → e = [])
    (hs : ∀ s ∈ ss, Part (x.data ++ e) w.top s ∧ (s.2.2 = true → w.closed = true ∧ w.marked = true ∧ s.1 + (s.2.1.length : Int) = w.taken)) : Inv { x with w := w, data := x.data ++ e, segs := x.segs ++ ss } := by
  have hd := h.topd
  have htk := h.tk
  have hce : x.w.closed = true → w.taken = x.w.taken := fun hc => by rw [tk, ce hc]; simp
  refine ⟨ok, by dsimp only; rw [List.length_append]; omega, wd, base, fun s hs' => ?_, h.st.grow top hd, h.rw, fun hk => ?_, ?_, h.al, fun i hi => ?_⟩
  · rcases List.mem_append.1 hs' with h1 | h1
    · obtain ⟨a, b⟩ := h.segs s h1
      exact ⟨a.grow top hd, fun hl => ⟨cl (b hl).1, mk (b hl).2.1, by dsimp only; rw [hce (b hl).1]; exact (b hl).2.2⟩⟩
    · exact hs s h1
  · obtain ⟨a, b, c⟩ := h.fin hk
    exact ⟨cl a, mk b, by dsimp only; rw [hce a]; exact c⟩
  · have h1 := h.st.off
    have h2 := h.st.nxt
    show x.read = (x.data ++ e).take x.r.sto.off.toNat
    rw [h.rd, List.take_append_of_le_length (by omega)]
  · obtain ⟨a, b, c⟩ := h.ack i hi
    exact ⟨a, b, fun hk => ⟨cl (c hk).1, mk (c hk).2.1, by dsimp only; rw [hce (c hk).1]; exact (c hk).2.2⟩⟩
end Go.Proofs.Ytebhcmgfhkjmcaa
