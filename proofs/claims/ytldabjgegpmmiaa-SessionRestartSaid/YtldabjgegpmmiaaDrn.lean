/-
  One direction between a writer and a reader: what stays true, whatever segments and confirmations arrive (plain; for any seat with Sti and Rdr).
-/
import Derived.Test.YtldabjgegpmmiaaSti
import Derived.Test.YtldabjgegpmmiaaRdr
namespace Go.Proofs.Ytldabjgegpmmiaa
set_option linter.all false
set_option linter.unusedVariables false
set_option linter.unusedSimpArgs false
set_option linter.unusedSectionVars false
open Go.RowKit Go.Sx

/-- The writer w has taken the bytes d; of the reader r, rd was read. -/
structure Dn (w : Wri) (r : Rdr) (d rd : List Int) : Prop where
  ok : OkW w
  tk : w.taken = d.length
  wd : w.data = d.drop w.base.toNat
  base : w.base ≤ r.sto.next
  st : StI r.sto d w.top
  rw : r.win = r.sto.win
  fin : r.sto.known = true → w.closed = true ∧ w.marked = true ∧ r.sto.fin = w.taken
  rd : rd = d.take r.sto.off.toNat
  fw : w.fin = true → r.sto.known = true ∧ r.sto.fin = r.sto.next
/-- A segment that was sent. -/
structure SegOk (w : Wri) (d : List Int) (s : Seg) : Prop where
  part : Part d w.top s
  last : s.2.2 = true → w.closed = true ∧ w.marked = true ∧ s.1 + (s.2.1.length : Int) = w.taken
/-- A confirmation that was sent. -/
structure AckOk (w : Wri) (r : Rdr) (o m : Int) (b : Bool) : Prop where
  lo : 0 ≤ o ∧ o ≤ r.sto.next
  rm : 0 ≤ m ∧ m ≤ 1048576
  dn : b = true → w.closed = true ∧ w.marked = true ∧ o = w.taken ∧ r.sto.known = true ∧ r.sto.fin = r.sto.next
/-- What a step may change. -/
structure Dle (w : Wri) (r : Rdr) (d : List Int) (w' : Wri) (r' : Rdr) (d' : List Int) : Prop where
  ext : ∃ e, d' = d ++ e
  tkd : w.closed = true → w'.taken = w.taken
  topd : w.top ≤ d.length
  top : w.top ≤ w'.top
  cl : w.closed = true → w'.closed = true
  mkd : w.marked = true → w'.marked = true
  nx : r.sto.next ≤ r'.sto.next
  kn : r.sto.known = true ∧ r.sto.fin = r.sto.next → r'.sto.known = true ∧ r'.sto.fin = r'.sto.next
theorem SegOk.mono {w w' : Wri} {r r' : Rdr} {d d' : List Int} (h : Dle w r d w' r' d') {s : Seg} (k : SegOk w d s) : SegOk w' d' s := by
  obtain ⟨e, rfl⟩ := h.ext
  exact ⟨k.part.grow h.top h.topd, fun hl => ⟨h.cl (k.last hl).1, h.mkd (k.last hl).2.1, by rw [h.tkd (k.last hl).1]; exact (k.last hl).2.2⟩⟩
theorem AckOk.mono {w w' : Wri} {r r' : Rdr} {d d' : List Int} (h : Dle w r d w' r' d') {o m : Int} {b : Bool} (k : AckOk w r o m b) : AckOk w' r' o m b :=
  ⟨⟨k.lo.1, Int.le_trans k.lo.2 h.nx⟩, k.rm, fun hb => by
    obtain ⟨a, b, c, e⟩ := k.dn hb
    exact ⟨h.cl a, h.mkd b, by rw [h.tkd a]; exact c, h.kn e⟩⟩
theorem Dn.len {w : Wri} {r : Rdr} {d rd : List Int} (h : Dn w r d rd) : d.length ≤ 1048576 := by have := h.ok.taken; have := h.tk; omega
theorem Dn.topd {w : Wri} {r : Rdr} {d rd : List Int} (h : Dn w r d rd) : w.top ≤ d.length := by have := h.ok.top; have := h.tk; omega
theorem Dn.rdl {w : Wri} {r : Rdr} {d rd : List Int} (h : Dn w r d rd) : (rd.length : Int) = r.sto.off := by
  have h1 := h.st.off; have h2 := h.st.nxt; have h3 := h.ok.top; have h4 := h.tk
  rw [h.rd, List.length_take]; omega
theorem Dn.self {w : Wri} {r : Rdr} {d rd : List Int} (h : Dn w r d rd) : Dle w r d w r d :=
  ⟨⟨[], (List.append_nil d).symm⟩, fun _ => rfl, h.topd, Int.le_refl _, id, id, Int.le_refl _, id⟩
/-- The reader stays; the writer moves on. -/
theorem Dn.stepW {w w' : Wri} {r : Rdr} {d e rd : List Int} (h : Dn w r d rd) (ok : OkW w') (tk : w'.taken = w.taken + e.length) (wd : w'.data = (d ++ e).drop w'.base.toNat) (base : w'.base ≤ r.sto.next) (top : w.top ≤ w'.top) (cl : w.closed = true → w'.closed = true) (mk : w.marked = true → w'.marked = true) (ce : w.closed = true → e = []) (fw : w'.fin = true → r.sto.known = true ∧ r.sto.fin = r.sto.next) :
    Dn w' r (d ++ e) rd ∧ Dle w r d w' r (d ++ e) := by
  have hd := h.topd
  have htk := h.tk
  have hce : w.closed = true → w'.taken = w.taken := fun hc => by rw [tk, ce hc]; simp
  refine ⟨⟨ok, by rw [List.length_append]; omega, wd, base, h.st.grow top hd, h.rw, fun hk => ?_, ?_, fw⟩, ⟨e, rfl⟩, hce, hd, top, cl, mk, Int.le_refl _, id⟩
  · obtain ⟨a, b, c⟩ := h.fin hk
    exact ⟨cl a, mk b, by rw [hce a]; exact c⟩
  · have h1 := h.st.off
    have h2 := h.st.nxt
    rw [h.rd, List.take_append_of_le_length (by omega)]
theorem writeF_fin (W : Wri) (l : List Int) : (writeF W l).2.fin = W.fin ∧ (writeF W l).2.win = W.win := by
  unfold writeF; split <;> exact ⟨rfl, rfl⟩
theorem tick_fin (W : Wri) (m : Int) : (tick W m).2.fin = W.fin ∧ (tick W m).2.win = W.win := by
  have hI : (tickIdle W).2.fin = W.fin ∧ (tickIdle W).2.win = W.win := by unfold tickIdle; (repeat' split) <;> exact ⟨rfl, rfl⟩
  have hB : (tickB W).2.fin = W.fin ∧ (tickB W).2.win = W.win := by unfold tickB; (repeat' split) <;> first | exact ⟨rfl, rfl⟩ | exact hI
  have hA : (tickA W).2.fin = W.fin ∧ (tickA W).2.win = W.win := by unfold tickA; (repeat' split) <;> first | exact ⟨rfl, rfl⟩ | exact hB
  unfold tick; (repeat' split) <;> first | exact ⟨rfl, rfl⟩ | exact hA
theorem ackF_fin (W : Wri) (o r : Int) (d : Bool) : ((ackF W o r d).2.fin = true → W.fin = true ∨ d = true) ∧ (ackF W o r d).2.win = W.win := by
  have hM : ((ackM W o r d).2.fin = true → W.fin = true ∨ d = true) ∧ (ackM W o r d).2.win = W.win := by
    unfold ackM
    split; · exact ⟨.inl, rfl⟩
    split <;> exact ⟨fun hh => by simpa using hh, rfl⟩
  unfold ackF
  (repeat' split) <;> first | exact ⟨.inl, rfl⟩ | exact hM
theorem put_known {S : Sto} {o : Int} {d : List Int} {l : Bool} (h : S.known = true) : (putF S o d l).2.known = true := by
  unfold putF
  (repeat' split) <;> first | exact h | rfl
theorem Dn.write {w : Wri} {r : Rdr} {d rd : List Int} (h : Dn w r d rd) (l : List Int) :
    Dn (writeF w l).2 r (d ++ l.take ((writeF w l).1.1 : Int).toNat) rd ∧ Dle w r d (writeF w l).2 r (d ++ l.take ((writeF w l).1.1 : Int).toNat) := by
  rcases writeW_ok h.ok l with ⟨hc, e⟩ | ⟨hc, n, k2, k3, e, k1⟩
  · rw [e]
    have e2 : l.take (0 : Int).toNat = [] := rfl
    dsimp only
    rw [e2, List.append_nil]
    exact ⟨h, h.self⟩
  · have hf := (writeF_fin w l).1
    rw [e] at hf ⊢
    have hl : (l.take n.toNat).length = n.toNat := by rw [List.length_take]; omega
    refine h.stepW k1 (by dsimp only; omega) ?_ h.base (Int.le_refl _) id id (fun hh => by rw [hc] at hh; cases hh) (fun hh => h.fw hh)
    dsimp only
    have := h.ok.base; have := h.ok.next; have := h.ok.top; have := h.tk
    rw [h.wd, List.drop_append_of_le_length (by omega)]
theorem Dn.tick {w : Wri} {r : Rdr} {d rd : List Int} (h : Dn w r d rd) (m : Int) :
    Dn (Go.Proofs.Ytldabjgegpmmiaa.tick w m).2 r d rd ∧ Dle w r d (Go.Proofs.Ytldabjgegpmmiaa.tick w m).2 r d ∧ (((Go.Proofs.Ytldabjgegpmmiaa.tick w m).1.2.1 : Bool) = true → SegOk (Go.Proofs.Ytldabjgegpmmiaa.tick w m).2 d (Go.Proofs.Ytldabjgegpmmiaa.tick w m).1.1) := by
  have ht := tick_fact h.ok h.tk h.wd m
  have hf := (tick_fin w m).1
  generalize Go.Proofs.Ytldabjgegpmmiaa.tick w m = t at ht hf ⊢
  obtain ⟨⟨sg, b, ⟨⟩⟩, w'⟩ := t
  obtain ⟨k1, ⟨k2, k3, k4, k5, k6, k7⟩, k8, k9, k10⟩ := ht
  dsimp only at k1 k2 k3 k4 k5 k6 k7 k8 k9 k10 hf ⊢
  have hwd : w'.data = (d ++ []).drop w'.base.toNat := by rw [k2, k4, List.append_nil]; exact h.wd
  have hi := h.stepW (w' := w') (e := []) k1 (by rw [k3]; simp) hwd (by rw [k4]; exact h.base) k8 (fun hh => k6.trans hh) k9 (fun _ => rfl) (fun hh => h.fw (hf ▸ hh))
  simp only [List.append_nil] at hi
  refine ⟨hi.1, hi.2, fun hb => ?_⟩
  obtain ⟨q1, q2, q3, q4, q5⟩ := k10 hb
  exact ⟨q1, fun hh => ⟨k6.trans (q2 hh).1, (q2 hh).2.1, (q2 hh).2.2.trans k3.symm⟩⟩
theorem Dn.put {w : Wri} {r : Rdr} {d rd : List Int} (h : Dn w r d rd) {s : Seg} (hs : SegOk w d s) :
    ((rcvF r s.1 s.2.1 s.2.2).1.1 : Int) = 0 ∧ Dn w (rcvF r s.1 s.2.1 s.2.2).2 d rd ∧ Dle w r d w (rcvF r s.1 s.2.1 s.2.2).2 d := by
  obtain ⟨p1, p2⟩ := hs
  have htop := h.ok.top; have htk := h.ok.taken
  obtain ⟨q1, q2, q3, q4, q5, q6⟩ := put_part h.st p1 (by omega) (fun hk => by
    obtain ⟨_, _, c⟩ := h.fin hk
    have := p1.hi
    exact ⟨by omega, fun hl => by rw [c]; exact (p2 hl).2.2⟩) (fun hl => by have := (p2 hl).2.2; omega)
  have hf : (putF r.sto s.1 s.2.1 s.2.2).2.known = true → w.closed = true ∧ w.marked = true ∧ (putF r.sto s.1 s.2.1 s.2.2).2.fin = w.taken := fun hk => by
    rcases q6 hk with ⟨g1, g2⟩ | ⟨g1, g2⟩
    · obtain ⟨c1, c2, c3⟩ := h.fin g1
      exact ⟨c1, c2, g2.trans c3⟩
    · obtain ⟨c1, c2, c3⟩ := p2 g1
      exact ⟨c1, c2, g2.trans c3⟩
  have hkn : r.sto.known = true ∧ r.sto.fin = r.sto.next → (putF r.sto s.1 s.2.1 s.2.2).2.known = true ∧ (putF r.sto s.1 s.2.1 s.2.2).2.fin = (putF r.sto s.1 s.2.1 s.2.2).2.next := by
    rintro ⟨g1, g2⟩
    have c1 : (putF r.sto s.1 s.2.1 s.2.2).2.known = true := put_known g1
    obtain ⟨_, _, d1⟩ := h.fin g1
    obtain ⟨_, _, d2⟩ := hf c1
    have n2 := q2.nxt.2
    exact ⟨c1, by omega⟩
  refine ⟨q1, ⟨h.ok, h.tk, h.wd, Int.le_trans h.base q5, q2, ?_, hf, ?_, fun hh => hkn (h.fw hh)⟩, ⟨[], (List.append_nil d).symm⟩, fun _ => rfl, h.topd, Int.le_refl _, id, id, q5, hkn⟩
  · show r.win = (putF r.sto s.1 s.2.1 s.2.2).2.win
    rw [q4]; exact h.rw
  · show rd = d.take (putF r.sto s.1 s.2.1 s.2.2).2.off.toNat
    rw [q3]; exact h.rd
theorem Dn.read {w : Wri} {r : Rdr} {d rd : List Int} (h : Dn w r d rd) (m : Int) :
    Dn w (rdF r m).2 d (rd ++ (rdF r m).1.1) ∧ Dle w r d w (rdF r m).2 d := by
  obtain ⟨q1, q2, q3, q4, q5, q6, q7⟩ := read_part h.st h.topd m
  have hkn : r.sto.known = true ∧ r.sto.fin = r.sto.next → (readF r.sto m).2.known = true ∧ (readF r.sto m).2.fin = (readF r.sto m).2.next := fun hh => ⟨q5.trans hh.1, by rw [q6, q3]; exact hh.2⟩
  refine ⟨⟨h.ok, h.tk, h.wd, by show w.base ≤ (readF r.sto m).2.next; rw [q3]; exact h.base, q1, by show r.win = (readF r.sto m).2.win; rw [q4]; exact h.rw, fun hk => ?_, by
    show rd ++ (readF r.sto m).1.1 = d.take (readF r.sto m).2.off.toNat
    rw [h.rd]; exact q7, fun hh => hkn (h.fw hh)⟩, ⟨[], (List.append_nil d).symm⟩, fun _ => rfl, h.topd, Int.le_refl _, id, id, by show r.sto.next ≤ (readF r.sto m).2.next; rw [q3]; exact Int.le_refl _, hkn⟩
  have hk : (readF r.sto m).2.known = true := hk
  rw [q5] at hk
  obtain ⟨c1, c2, c3⟩ := h.fin hk
  exact ⟨c1, c2, q6.trans c3⟩
theorem Dn.cfm {w : Wri} {r : Rdr} {d rd : List Int} (h : Dn w r d rd) : AckOk w r (rackF r).1 (rackF r).2.1 (rackF r).2.2.1 := by
  have h1 := h.st.off; have h2 := h.st.nxt; have h3 := h.st.win; have h4 := h.rw
  show AckOk w r r.sto.next (r.sto.off + r.win - r.sto.next) (r.sto.known && decide (r.sto.fin = r.sto.next))
  refine ⟨⟨by omega, Int.le_refl _⟩, ⟨by omega, by omega⟩, fun hk => ?_⟩
  obtain ⟨k1, k2⟩ := Bool.and_eq_true_iff.1 hk
  obtain ⟨c1, c2, c3⟩ := h.fin k1
  have k3 := of_decide_eq_true k2
  exact ⟨c1, c2, by omega, k1, k3⟩
theorem Dn.ack {w : Wri} {r : Rdr} {d rd : List Int} (h : Dn w r d rd) {o m : Int} {b : Bool} (ha : AckOk w r o m b) :
    ((ackF w o m b).1.1 : Int) = 0 ∧ Dn (ackF w o m b).2 r d rd ∧ Dle w r d (ackF w o m b).2 r d ∧ ackF w o m b = ackM w o m b := by
  obtain ⟨⟨c1, c2⟩, ⟨c3, c4⟩, c5⟩ := ha
  have htop := h.ok.top
  have hnx := h.st.nxt
  have e : ackF w o m b = ackM w o m b := by
    unfold ackF
    rw [if_neg (show ¬ o < 0 by omega), if_neg (show ¬ w.top < o by omega), if_neg (show ¬ m < 0 by omega), if_neg (show ¬ 1048576 < m by omega)]
    split
    · rename_i hd
      obtain ⟨g1, g2, g3, g4⟩ := c5 hd
      rw [if_neg (by rw [g1]; exact Bool.noConfusion), if_neg (fun hh => hh g3), if_neg (by rw [g2]; exact Bool.noConfusion)]
    · rfl
  obtain ⟨m1, m2, m3, m4, m5, m6, m7, m8, m9⟩ := ackM_ok h.ok (d := b) c1 (show o ≤ w.top by omega) c3 c4
  have hf := (ackF_fin w o m b).1
  rw [e] at hf
  rw [e]
  have hb := h.base
  have hbase := h.ok.base
  have hi := h.stepW (w' := (ackM w o m b).2) (e := []) m2 (by rw [m3]; simp) (by
    rw [m8, h.wd, List.append_nil, List.drop_drop, m7]; congr 1; omega) (by rw [m7]; omega) (by rw [m4]; exact Int.le_refl _) (fun hh => m5.trans hh) (fun hh => m6.trans hh) (fun _ => rfl) (fun hh => (hf hh).elim h.fw (fun hd => (c5 hd).2.2.2))
  simp only [List.append_nil] at hi
  exact ⟨m1, hi.1, hi.2, rfl⟩
theorem closeF_eq (w : Wri) : (closeF w).2 = { w with closed := true } := by
  unfold closeF
  split
  · rename_i hc
    show w = { w with closed := true }
    rw [← hc]
  · rfl
theorem Dn.close {w : Wri} {r : Rdr} {d rd : List Int} (h : Dn w r d rd) : Dn (closeF w).2 r d rd ∧ Dle w r d (closeF w).2 r d := by
  rw [closeF_eq]
  have hk := h.ok
  have hi := h.stepW (w' := { w with closed := true }) (e := []) ⟨hk.win, hk.tmo, hk.base, hk.data, hk.fits, hk.taken, hk.next, hk.top, hk.room, hk.idle⟩ (by simp) (by rw [List.append_nil]; exact h.wd) h.base (Int.le_refl _) (fun _ => rfl) id (fun _ => rfl) h.fw
  simp only [List.append_nil] at hi
  exact hi
theorem Dn.new {w t v : Int} (h1 : 1 ≤ w) (h2 : w ≤ 1048576) (h3 : 1 ≤ t) (h4 : t ≤ 1000) (h5 : 1 ≤ v) (h6 : v ≤ 1048576) : Dn (newW w t) ⟨newS v, v⟩ [] [] := by
  refine ⟨⟨⟨h1, h2⟩, ⟨h3, h4⟩, Int.le_refl _, rfl, ?_, ?_, ⟨Int.le_refl _, Int.le_refl _⟩, ⟨Int.le_refl _, Int.le_refl _⟩, ⟨?_, h2⟩, Int.le_refl _, ?_⟩, rfl, rfl, Int.le_refl _, ⟨⟨h5, h6⟩, ⟨Int.le_refl _, Int.le_refl _⟩, ⟨?_, Int.le_refl _⟩, List.nodup_nil, fun p hp => (by cases hp), fun p hp => (by cases hp), fun k k1 k2 => ?_⟩, rfl, fun hk => (by cases hk), rfl, fun hk => by cases hk⟩
  · show (0 : Int) - 0 ≤ w; omega
  · show (0 : Int) ≤ 1048576; omega
  · show (0 : Int) ≤ w; omega
  · show (0 : Int) < t; omega
  · show (0 : Int) ≤ 0 + v; omega
  · have k1 : (0 : Int) ≤ k := k1
    have k2 : k < 0 := k2
    omega
end Go.Proofs.Ytldabjgegpmmiaa
