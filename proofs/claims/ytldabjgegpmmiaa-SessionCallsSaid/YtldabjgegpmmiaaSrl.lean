/-
  Layer 47: the end and the reference's end say the same (plain).
-/
import Derived.Test.YtldabjgegpmmiaaRgr
import Derived.Test.YtldabjgegpmmiaaRgf
import Derived.Test.YtldabjgegpmmiaaCmp
import Derived.Test.YtldabjgegpmmiaaCmpa
namespace Go.Proofs.Ytldabjgegpmmiaa
set_option linter.all false
set_option linter.unusedVariables false
set_option linter.unusedSimpArgs false
set_option linter.unusedSectionVars false
open Go.RowKit Go.Sx

structure Rel (E : Edd) (R : RE) : Prop where
  inc : E.inc = R.mine
  peer : E.peer = R.peer
  st : E.st = R.st
  tmo : E.tmo = R.tmo
  w : E.w = wOf R.w
  ok : OkM R.w
  s : R.s = mof E.r.sto
  so : StO E.r.sto
  rw : E.r.win = E.r.sto.win
  owed : E.owed = R.owed
  ended : E.ended = R.ended
  t1 : 1 ≤ R.tmo ∧ R.tmo ≤ 1000
  s0 : 0 ≤ R.sil ∧ R.sil ≤ R.tmo
  w0 : R.st = 0 → E.wait = 0
  w1 : R.st = 1 → E.wait = R.tmo - R.sil
  wt : 0 ≤ E.wait ∧ E.wait ≤ 1000
  p0 : R.st = 0 ∨ R.st = 1 → R.peer = 0
  p1 : R.peer = 0 → R.st = 0 ∨ R.st = 1
  f0 : R.peer = 0 → R.w.fin = false
  by_ : inBytes R.w.data
theorem Rel.okE {E : Edd} {R : RE} (h : Rel E R) : OkE E :=
  ⟨by rw [h.w]; exact h.ok.w, h.so.pre, h.rw, by rw [h.tmo]; exact h.t1, by have := h.wt; omega⟩
theorem Rel.pre {E : Edd} {R : RE} (h : Rel E R) : PreR R.s := by rw [h.s]; exact preR_of h.so
theorem Rel.sil {E : Edd} {R : RE} (h : Rel E R) : 0 ≤ R.sil ∧ R.sil ≤ 1000000 := by have := h.s0; have := h.t1; omega
theorem Rel.len {E : Edd} {R : RE} (h : Rel E R) : R.w.data.length ≤ 1048576 := by have := h.ok.taken; omega
abbrev newRE (i w t : Int) : RE := ⟨i, 0, 0, t, ⟨w, t, 0, 0, 0, w, 0, [], false, false, false, false⟩, (w, 0, -1, []), false, false, 0⟩
theorem Rel.new {i w t : Int} (h1 : 1 ≤ w ∧ w ≤ 1048576) (h2 : 1 ≤ t ∧ t ≤ 1000) : Rel (newEd i w t) (newRE i w t) := by
  refine ⟨rfl, rfl, rfl, rfl, rfl, ⟨h1, h2, Int.le_refl _, ?_, Nat.zero_le _, ⟨Int.le_refl _, Int.le_refl _⟩, ⟨Int.le_refl _, Int.le_refl _⟩, ⟨?_, h1.2⟩, Int.le_refl _, ?_⟩, rfl, newS_ok h1.1 h1.2, rfl, rfl, rfl, h2, ⟨Int.le_refl _, ?_⟩, fun _ => rfl, fun h => ?_, ⟨Int.le_refl _, ?_⟩, fun _ => rfl, fun _ => .inl rfl, fun _ => rfl, fun x hx => (by cases hx)⟩ <;> first | (dsimp only [newRE, newEd, List.length_nil] at *; omega) | skip
/-- A result and a state agree. -/
def Agr {α : Type} (y : α × Edd) (z : α × RE) : Prop := y.1 = z.1 ∧ Rel y.2 z.2
theorem agr_ite {α : Type} {y y' : α × Edd} {z z' : α × RE} {c d : Prop} [Decidable c] [Decidable d] (hc : c ↔ d) (h1 : d → Agr y z) (h2 : ¬ d → Agr y' z') : Agr (if c then y else y') (if d then z else z') := by
  by_cases h : d
  · rw [if_pos h, if_pos (hc.2 h)]; exact h1 h
  · rw [if_neg h, if_neg (fun hh => h (hc.1 hh))]; exact h2 h
theorem agr_pos {α : Type} {y : α × Edd} {z z' : α × RE} {d : Prop} [Decidable d] (h : d) (k : Agr y z) : Agr y (if d then z else z') := by rw [if_pos h]; exact k
theorem agr_neg {α : Type} {y : α × Edd} {z z' : α × RE} {d : Prop} [Decidable d] (h : ¬ d) (k : Agr y z') : Agr y (if d then z else z') := by rw [if_neg h]; exact k
theorem Rel.conn {E : Edd} {R : RE} (h : Rel E R) : Agr (connF E) (rconF R) := by
  unfold connF rconF
  refine agr_ite (by rw [h.st]) (fun hd => ⟨rfl, { h with st := rfl, s0 := ?_, w0 := ?_, w1 := ?_, p0 := ?_, p1 := ?_ }⟩) (fun _ => ⟨rfl, h⟩)
  · have := h.t1; exact ⟨by show 0 ≤ R.tmo; omega, Int.le_refl _⟩
  · intro h; cases h
  · intro _; have := h.w0 hd; show E.wait = R.tmo - R.tmo; omega
  · intro _; exact h.p0 (.inl hd)
  · intro _; exact .inr rfl
theorem Rel.wr {E : Edd} {R : RE} (h : Rel E R) {l : List Int} (hl : inBytes l) : Agr (ewrF E l) (rwrF R l) := by
  unfold ewrF rwrF
  refine agr_ite (by rw [h.st]) (fun hd => ⟨rfl, h⟩) (fun _ => ?_)
  rw [h.w, write_cmp h.ok l]
  refine ⟨rfl, { h with w := rfl, ok := write_ok2 h.ok l, f0 := ?_, by_ := write_bytes h.by_ hl }⟩
  intro hp
  have := h.f0 hp
  show (refWrite R.w l).1.fin = false
  unfold refWrite
  split <;> exact this
theorem Rel.cl {E : Edd} {R : RE} (h : Rel E R) : Agr (eclF E) (rcloF R) := by
  unfold eclF rcloF
  refine agr_ite (by rw [h.st]) (fun hd => ⟨rfl, h⟩) (fun _ => ?_)
  rw [h.w, close_cmp]
  by_cases hc : R.w.closed = true
  · rw [if_pos hc, if_pos hc]
    refine ⟨rfl, { h with w := ?_ }⟩
    show wOf { R.w with closed := true } = wOf R.w
    rw [← hc]
  · rw [if_neg hc, if_neg hc]
    exact ⟨rfl, { h with w := rfl, ok := close_ok2 h.ok }⟩
theorem Rel.rp {E : Edd} {R : RE} (h : Rel E R) : erpF E = (rrpF R).1 := by
  unfold erpF rrpF
  have e : decide (E.w.taken = E.w.base) = decide (R.w.base = (R.w.data.length : Int)) := by rw [decide_eq_decide, h.w]; exact eq_comm
  rw [e, h.st, h.w, h.s]
  rfl
theorem Rel.set2 {E : Edd} {R : RE} (h : Rel E R) {a b : Bool} {n : Int} (hp : ¬ R.peer = 0) (h2 : n ≠ 0) (h3 : n ≠ 1) : Rel { E with owed := a, ended := b, st := n } { R with owed := a, ended := b, st := n } :=
  { h with st := rfl, owed := rfl, ended := rfl, w0 := fun h => absurd h h2, w1 := fun h => absurd h h3, p0 := fun h => (h.elim (fun h => absurd h h2) (fun h => absurd h h3)), p1 := fun h => absurd h hp }
theorem Rel.set1 {E : Edd} {R : RE} (h : Rel E R) {a b : Bool} : Rel { E with owed := a, ended := b } { R with owed := a, ended := b } :=
  { h with owed := rfl, ended := rfl }
theorem Rel.rd {E : Edd} {R : RE} (h : Rel E R) (m : Int) : Agr (erdF E m) (rqdF R m) := by
  have k : Rel { E with r := (rdF E.r m).2 } { R with s := (rreadF R.s m).1 } := by
    have hc := read_cmp h.so m
    rw [← h.s] at hc
    rw [hc]
    refine { h with s := rfl, so := read_sto h.so m, rw := ?_ }
    show E.r.win = (readF E.r.sto m).2.win
    rw [h.rw]; unfold readF; split <;> rfl
  have hd : (rreadF R.s m).2.1 = ((rdF E.r m).1.1 : List Int) := by rw [h.s, read_cmp h.so m]; rfl
  have he : (rdF E.r m).1.2.1 = (if 0 ≤ (rreadF R.s m).1.2.2.1 then decide ((rreadF R.s m).1.2.1 = (rreadF R.s m).1.2.2.1) else false : Bool) := by
    rw [h.s, read_cmp h.so m]
    have hf := mof_fin (read_sto h.so m)
    have key : ∀ a : Int, a = (if (readF E.r.sto m).2.known = true then (readF E.r.sto m).2.fin else -1) → ((readF E.r.sto m).2.known && decide ((readF E.r.sto m).2.fin = (readF E.r.sto m).2.off)) = (if 0 ≤ a then decide ((readF E.r.sto m).2.off = a) else false : Bool) := by
      intro a ha
      rcases hf with ⟨h1, h2, h3, _⟩ | ⟨h1, h2⟩
      · rw [h2] at ha; subst ha
        rw [if_pos h3, h1, Bool.true_and, decide_eq_decide]
        exact eq_comm
      · rw [h2] at ha; subst ha
        rw [h1, Bool.false_and]; rfl
    exact key _ rfl
  generalize hx : (rdF E.r m).1.2.1 = e at he
  have hT : ∀ (o n : Bool) (s : Int), (s = R.st ∨ (¬ R.peer = 0 ∧ s ≠ 0 ∧ s ≠ 1)) → Agr (erdT E m o n s) (rqS R m o (rdF E.r m).1.2.1 n s) := by
    intro o n s hs
    refine ⟨by show (_, _, _) = (_, _, _); rw [hd], ?_⟩
    rcases hs with rfl | ⟨h1, h2, h3⟩
    · exact { k.set1 (a := o) (b := n) with st := rfl }
    · exact k.set2 (a := o) (b := n) h1 h2 h3
  have hS : ∀ (o n : Bool), Agr (erdS E m o n) (rqF R m o (rdF E.r m).1.2.1 n) := by
    intro o n
    refine agr_ite (by rw [h.st]) (fun hd => ?_) (fun _ => by rw [h.st]; exact hT _ _ _ (.inl rfl))
    refine agr_ite (by rw [h.w]; exact Iff.rfl) (fun hf => ?_) (fun _ => by rw [h.st]; exact hT _ _ _ (.inl rfl))
    refine agr_ite Iff.rfl (fun _ => hT _ _ _ (.inr ⟨fun hh => ?_, by decide, by decide⟩)) (fun _ => by rw [h.st]; exact hT _ _ _ (.inl rfl))
    have := h.p1 hh; omega
  have hN : ∀ (o : Bool), Agr (erdN E m o) (rqN R m o (rdF E.r m).1.2.1) := by
    intro o
    refine agr_ite (by rw [h.ended]) (fun _ => hS _ _) (fun _ => hS _ _)
  have hE : ∀ (o : Bool), Agr (erdN E m o) (rqE R m o) := by
    intro o
    have := hN o
    rw [hx, he] at this
    show Agr _ (if _ then _ else _)
    split at this
    · rename_i g; rw [if_pos g]; exact this
    · rename_i g; rw [if_neg g]; exact this
  unfold erdF rqdF
  rw [hd, h.st]
  by_cases ho : R.owed = true
  · rw [if_pos ho, show E.owed = true by rw [h.owed]; exact ho]
    split
    · split <;> exact hE true
    · exact hE true
  · have ho2 : E.owed = false := by rw [h.owed]; simpa using ho
    rw [if_neg ho, ho2]
    split
    · split
      · rename_i g; rw [decide_eq_true g]; exact hE false
      · rename_i g; rw [decide_eq_false g]; exact hE true
    · exact hE false
theorem Rel.tk {E : Edd} {R : RE} (h : Rel E R) (m : Int) : Agr (etkF E m) (rtkF R m) := by
  have hc : cfmM E = rcM R := by
    have hf := mof_fin h.so
    have hn := ctg_cmp h.so
    have key : ∀ a : Int, a = (if E.r.sto.known = true then E.r.sto.fin else -1) → (E.r.sto.known && decide (E.r.sto.fin = E.r.sto.next)) = (decide (0 ≤ a) && decide (a = E.r.sto.next)) := by
      intro a ha
      rcases hf with ⟨h1, h2, h3, _⟩ | ⟨h1, h2⟩
      · rw [h2] at ha; subst ha
        rw [h1, decide_eq_true h3]
      · rw [h2] at ha; subst ha
        rw [h1]; rfl
    have k := key _ rfl
    unfold cfmM rcM
    rw [h.s, h.inc, h.peer]
    unfold rackF confF
    rw [hn, h.rw, k]
  have hd : ∀ s, dataM E s = rdM R s := fun s => by dsimp only [dataM, rdM]; rw [h.inc, h.peer]
  have ht := tick_cmp h.ok m
  rw [← h.w] at ht
  have hfin : R.peer = 0 → (refTick R.w m).1.fin = false := fun hp => by
    have := h.f0 hp
    have hi : (rtI R.w).1.fin = R.w.fin := by unfold rtI; (repeat' split) <;> rfl
    have hB : (rtB R.w).1.fin = R.w.fin := by unfold rtB; (repeat' split) <;> first | rfl | exact hi
    have hA : (rtA R.w).1.fin = R.w.fin := by unfold rtA; (repeat' split) <;> first | rfl | exact hB
    rw [← this]
    unfold refTick
    (repeat' split) <;> first | rfl | exact hA
  have hw : Rel { E with w := (Go.Proofs.Ytldabjgegpmmiaa.tick E.w m).2 } { R with w := (refTick R.w m).1 } := by
    rw [ht]
    exact { h with w := rfl, ok := tick_ok2 h.ok m, f0 := hfin, by_ := by show inBytes (refTick R.w m).1.data; rw [tick_data]; exact h.by_ }
  have hwo : Rel { E with w := (Go.Proofs.Ytldabjgegpmmiaa.tick E.w m).2, owed := false } { R with w := (refTick R.w m).1, owed := false } := { hw with owed := rfl }
  have h1 : (Go.Proofs.Ytldabjgegpmmiaa.tick E.w m).1.1 = (refTick R.w m).2.1 := by rw [ht]
  have h2 : ((Go.Proofs.Ytldabjgegpmmiaa.tick E.w m).1.2.1 : Bool) = (refTick R.w m).2.2 := by rw [ht]
  unfold etkF rtkF
  refine agr_ite (by rw [h.st]) (fun g => ?_) (fun g1 => ?_)
  · have hw1 := h.w1 g
    have hs0 := h.s0
    have ht1 := h.t1
    have hp := h.p0 (.inr g)
    refine agr_ite (by constructor <;> intro <;> omega) (fun gs => ⟨?_, { h with s0 := ?_, w0 := ?_, w1 := ?_, wt := ?_ }⟩) (fun gs => ⟨rfl, { h with s0 := ?_, w0 := ?_, w1 := ?_, wt := ?_ }⟩)
    · show ([helloM E], ()) = ([rhM R], ())
      dsimp only [helloM, rhM]; rw [h.inc, h.peer, hp]
    · dsimp only; omega
    · intro h0; dsimp only at h0; omega
    · intro _; dsimp only; rw [h.tmo]; omega
    · dsimp only; rw [h.tmo]; omega
    · dsimp only; omega
    · intro h0; dsimp only at h0; omega
    · intro _; dsimp only; omega
    · dsimp only; omega
  refine agr_ite (by rw [h.st]) (fun g => ?_) (fun g2 => ?_)
  · refine agr_ite (by rw [h2]) (fun gs => ?_) (fun gs => ?_)
    · refine agr_ite (by rw [h.owed]) (fun _ => ⟨?_, hwo⟩) (fun _ => ⟨?_, hw⟩)
      · show ([_, _], ()) = ([_, _], ()); rw [hc, hd, h1]
      · show ([_], ()) = ([_], ()); rw [hd, h1]
    · refine agr_ite (by rw [h.owed]) (fun _ => ⟨?_, hwo⟩) (fun _ => ⟨rfl, hw⟩)
      show ([_], ()) = ([_], ()); rw [hc]
  · by_cases g4 : R.st = 4
    · refine agr_pos g4 (agr_ite (by rw [h.owed]) (fun _ => ?_) (fun _ => ⟨rfl, h⟩))
      rw [if_pos (by rw [h.st]; exact g4)]
      refine ⟨?_, { h with owed := rfl }⟩
      show ([_], ()) = ([_], ()); rw [hc]
    · refine agr_neg g4 ?_
      split
      · rw [if_neg (by rw [h.st]; exact g4)]; exact ⟨rfl, h⟩
      · exact ⟨rfl, h⟩
theorem Rel.mv {E : Edd} {R : RE} (h : Rel E R) {p n : Int} (h0 : p ≠ 0) (h2 : n ≠ 0) (h3 : n ≠ 1) : Rel { E with peer := p, st := n } { R with peer := p, st := n } :=
  { h with peer := rfl, st := rfl, w0 := fun h => absurd h h2, w1 := fun h => absurd h h3, p0 := fun h => (h.elim (fun h => absurd h h2) (fun h => absurd h h3)), p1 := fun h => absurd h h0, f0 := fun h => absurd h h0 }
theorem Rel.tak {E : Edd} {R : RE} (h : Rel E R) {s p k : Int} (h0 : p ≠ 0) (h2 : s ≠ 0) (h3 : s ≠ 1) {g : Seg} (hg : inBytes g.2.1) (hl : g.2.1.length ≤ 1048576) (o r : Int) (d : Bool) : Agr (takE E s p k g o r d) (vtk R s p k g o r d) := by
  obtain ⟨go, gd, gl⟩ := g
  have hp := put_cmp h.so go gd gl
  rw [← h.s] at hp
  have ha := ack_cmp h.ok o r d
  rw [← h.w] at ha
  have kp : Rel { E with r := (rcvF E.r go gd gl).2, st := s, peer := p } { R with s := (rputF R.s (go, gd, gl)).1, st := s, peer := p } := by
    rw [hp]
    have := h.mv h0 h2 h3
    refine { this with s := rfl, so := put_sto h.so _ hg hl, rw := ?_ }
    show E.r.win = (putF E.r.sto go gd gl).2.win
    rw [h.rw]; unfold putF; (repeat' split) <;> rfl
  have ka : ∀ n : Int, n ≠ 0 → n ≠ 1 → Rel { E with w := (ackF E.w o r d).2, st := n, peer := p } { R with w := (refAck R.w o r d).1, st := n, peer := p } := by
    intro n n0 n1
    rw [ha]
    have := h.mv h0 n0 n1
    exact { this with w := rfl, ok := ack_ok2 h.ok o r d, f0 := fun h => absurd h h0, by_ := by show inBytes (refAck R.w o r d).1.data; rw [ack_data]; exact h.by_ }
  have e1 : ((rcvF E.r go gd gl).1.1 : Int) = (rputF R.s (go, gd, gl)).2.2.1 := by rw [hp]; rfl
  have e2 : ((ackF E.w o r d).1.1 : Int) = (refAck R.w o r d).2 := by rw [ha]
  have e3 : (ackF E.w o r d).2.fin = (refAck R.w o r d).1.fin := by rw [ha]; rfl
  refine agr_ite Iff.rfl (fun _ => ?_) (fun _ => ?_)
  · refine agr_ite (by rw [e1]) (fun _ => ⟨?_, { kp with owed := rfl }⟩) (fun _ => ⟨?_, kp⟩)
    · show ([], _, ()) = ([], _, ()); rw [e1]
    · show ([], _, ()) = ([], _, ()); rw [e1]
  · refine agr_ite Iff.rfl (fun _ => ?_) (fun _ => ⟨rfl, h.mv h0 h2 h3⟩)
    refine agr_ite Iff.rfl (fun gs => ?_) (fun _ => ⟨?_, ka s h2 h3⟩)
    · refine agr_ite (by rw [e3]) (fun _ => ?_) (fun _ => ⟨?_, ka s h2 h3⟩)
      · refine agr_ite (by rw [h.ended]) (fun _ => ⟨?_, ka 4 (by decide) (by decide)⟩) (fun _ => ⟨?_, ka s h2 h3⟩)
        · show ([], _, ()) = ([], _, ()); rw [e2]
        · show ([], _, ()) = ([], _, ()); rw [e2]
      · show ([], _, ()) = ([], _, ()); rw [e2]
    · show ([], _, ()) = ([], _, ()); rw [e2]
theorem Rel.rfz {E : Edd} {R : RE} (h : Rel E R) {i j : Int} (hi : i = j) (k mi n : Int) : Agr (refu i k mi n E) (vrf j k mi n R) :=
  agr_ite Iff.rfl (fun _ => ⟨rfl, h⟩) (fun _ => ⟨by rw [hi], h⟩)
theorem Rel.rc {E : Edd} {R : RE} (h : Rel E R) {m : Msg} (hg : inBytes m.2.2.2.1.2.1) (hl : m.2.2.2.1.2.1.length ≤ 1048576) : Agr (ercF E m) (rrcF R m) := by
  obtain ⟨kd, mi, yo, ⟨so, sd, sl⟩, ao, ar, ad⟩ := m
  unfold ercF rrcF
  refine agr_ite Iff.rfl (fun _ => ⟨rfl, h⟩) (fun _ => ?_)
  refine agr_ite Iff.rfl (fun _ => ⟨rfl, h⟩) (fun _ => ?_)
  refine agr_ite Iff.rfl (fun _ => ⟨rfl, h⟩) (fun gm => ?_)
  refine agr_ite (by constructor <;> intro <;> omega) (fun _ => ⟨rfl, h⟩) (fun _ => ?_)
  refine agr_ite Iff.rfl (fun _ => ⟨rfl, h⟩) (fun _ => ?_)
  refine agr_ite (by constructor <;> intro <;> omega) (fun _ => ⟨rfl, h⟩) (fun _ => ?_)
  have hm : mi ≠ 0 := by intro e; apply gm; show mi < 1; omega
  refine agr_ite (by rw [h.peer]) (fun _ => ⟨rfl, h⟩) (fun _ => ?_)
  have key : Agr (erc1 E (kd, mi, yo, (so, sd, sl), ao, ar, ad)) (v1 R (kd, mi, yo, (so, sd, sl), ao, ar, ad)) := by
    refine agr_ite (by rw [h.st]) (fun _ => h.rfz h.inc ..) (fun g3 => ?_)
    refine agr_ite Iff.rfl (fun _ => ?_) (fun _ => ?_)
    · refine agr_ite (by rw [h.peer]) (fun gp => ?_) (fun gp => ⟨by rw [h.inc], h⟩)
      have := h.f0 gp
      refine agr_neg (by rw [this]; exact Bool.false_ne_true) ⟨by rw [h.inc], h.mv hm (by decide) (by decide)⟩
    · refine agr_ite (by rw [h.inc]) (fun _ => ?_) (fun _ => h.rfz h.inc ..)
      refine agr_ite (by rw [h.st]) (fun _ => ⟨rfl, h⟩) (fun g0 => ?_)
      refine agr_ite Iff.rfl (fun _ => ?_) (fun _ => ?_)
      · refine agr_ite (by rw [h.st]) (fun g4 => ⟨rfl, ?_⟩) (fun g4 => ⟨rfl, h.mv hm (by decide) (by decide)⟩)
        have := h.mv (p := mi) (n := 4) hm (by decide) (by decide)
        have e : E.st = 4 := by rw [h.st]; exact g4
        rw [← g4] at this
        exact { this with st := h.st }
      · refine agr_ite (by rw [h.st]) (fun g1 => h.tak hm (by decide) (by decide) hg hl ao ar ad) (fun g1 => ?_)
        rw [h.st, h.peer]
        refine h.tak (fun hp => ?_) g0 g1 hg hl ao ar ad
        rcases h.p1 hp with e | e
        · exact g0 e
        · exact g1 e
  refine agr_ite (by rw [h.peer]) (fun _ => key) (fun gp => ?_)
  refine agr_ite (by rw [h.peer]) (fun _ => ?_) (fun _ => key)
  refine agr_ite (by rw [h.st]) (fun g4 => ?_) (fun g4 => ?_)
  · have := h.mv (p := mi) (n := 4) hm (by decide) (by decide)
    rw [← g4] at this
    exact ({ this with st := h.st } : Rel { E with peer := mi } { R with peer := mi }).rfz h.inc ..
  · exact (h.mv (p := mi) (n := 3) hm (by decide) (by decide)).rfz h.inc ..
end Go.Proofs.Ytldabjgegpmmiaa
