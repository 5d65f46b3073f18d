/-
  Layer 44: StreamRepeats: receiving the same segment, confirming the same again changes nothing (plain).
-/
import Derived.Test.YtebhcmgfhkjmcaaIny
import Derived.Test.YtebhcmgfhkjmcaaSem
namespace Go.Proofs.Ytebhcmgfhkjmcaa
set_option linter.all false
set_option linter.unusedVariables false
set_option linter.unusedSimpArgs false
set_option linter.unusedSectionVars false
open Go.RowKit Go.Sx
theorem part_bytes {d : List Int} {top : Int} {s : Seg} (hp : Part d top s) (ht : top ≤ d.length) (hb : inBytes d) : inBytes s.2.1 := by
  intro y hy
  obtain ⟨i, hi, rfl⟩ := List.getElem_of_mem hy
  have h1 := hp.eq i hi
  have h2 := hp.lo; have h3 := hp.hi
  have hlt : s.1.toNat + i < d.length := by omega
  rw [List.getD_eq_getElem?_getD, List.getElem?_eq_getElem hi, List.getD_eq_getElem?_getD, List.getElem?_eq_getElem hlt] at h1
  have h1 : s.2.1[i] = d[s.1.toNat + i] := h1
  rw [h1]
  exact hb _ (List.getElem_mem _)
theorem Inv.segB {x : WS} (h : Inv x) (hb : inBytes x.data) {s : Seg} (hs : s ∈ x.segs) : inBytes s.2.1 ∧ s.2.1.length ≤ 1048576 := by
  obtain ⟨p, _⟩ := h.segs s hs
  have := p.hi; have := p.lo; have := h.ok.top; have := h.ok.taken
  exact ⟨part_bytes p h.topd hb, by omega⟩
theorem act_sto {x : WS} (h : Inv x) (hb : inBytes x.data) (hs : StO x.r.sto) (a : Int) : StO (actF x a).2.r.sto := by
  have h3 : StO (act3 x a).2.r.sto := by
    unfold act3
    split
    · rename_i hp
      have hB := h.segB hb (modAt_mem (k := a / 8) (d := (0, [], false)) hp)
      have hq : StO (putF x.r.sto (segAt x a).1 (segAt x a).2.1 (segAt x a).2.2).2 := put_sto hs _ hB.1 hB.2
      split <;> exact hq
    · exact hs
  have h5 : StO (act5 x a).2.r.sto := by
    have hq := read_sto hs (a / 8 % 6)
    unfold act5
    split <;> exact hq
  have h0 : (act0 x a).2.r = x.r := by unfold act0; (repeat' split) <;> rfl
  have h1 : (act1 x a).2.r = x.r := by unfold act1; (repeat' split) <;> rfl
  have h7 : (act7 x a).2.r = x.r := by unfold act7; (repeat' split) <;> rfl
  unfold actF
  split; · rw [h0]; exact hs
  split; · rw [h1]; exact hs
  split; · rw [h1]; exact hs
  split; · exact h3
  split; · exact h3
  split; · exact h5
  split; · exact hs
  rw [h7]; exact hs
theorem ackM_again (w : Wri) (o r : Int) (d : Bool) : (ackM (ackM w o r d).2 o r d).2 = (ackM w o r d).2 := by
  have hf : ∀ f : Bool, ((f || d) || d) = (f || d) := fun f => by cases f <;> cases d <;> rfl
  by_cases h1 : o < w.base
  · have e : (ackM w o r d).2 = w := by unfold ackM; rw [if_pos h1]
    rw [e, e]
  · by_cases h2 : o = w.base
    · have e : (ackM w o r d).2 = { w with room := max w.room r, fin := w.fin || d } := by unfold ackM; rw [if_neg h1, if_pos h2]
      rw [e]
      unfold ackM
      rw [if_neg (show ¬ o < w.base from h1), if_pos (show o = w.base from h2)]
      dsimp only
      rw [hf, show max (max w.room r) r = max w.room r by omega]
    · have e : (ackM w o r d).2 = { w with data := w.data.drop (o - w.base).toNat, base := o, room := r, next := max w.next o, idle := 0, fin := w.fin || d } := by unfold ackM; rw [if_neg h1, if_neg h2]
      rw [e]
      unfold ackM
      rw [if_neg (show ¬ o < o by omega), if_pos (show o = o from rfl)]
      dsimp only
      rw [hf, show max r r = r by omega]
theorem ack_again (w : Wri) (o r : Int) (d : Bool) : (ackF (ackF w o r d).2 o r d).2 = (ackF w o r d).2 := by
  have hs : (ackM w o r d).2.top = w.top ∧ (ackM w o r d).2.closed = w.closed ∧ (ackM w o r d).2.taken = w.taken ∧ (ackM w o r d).2.marked = w.marked := by
    unfold ackM; (repeat' split) <;> exact ⟨rfl, rfl, rfl, rfl⟩
  obtain ⟨s1, s2, s3, s4⟩ := hs
  by_cases c1 : o < 0
  · have e : ackF w o r d = ((2, ()), w) := if_pos c1
    rw [e]; exact congrArg Prod.snd e
  by_cases c2 : w.top < o
  · have e : ackF w o r d = ((2, ()), w) := by unfold ackF; rw [if_neg c1, if_pos c2]
    rw [e]; exact congrArg Prod.snd e
  by_cases c3 : r < 0
  · have e : ackF w o r d = ((2, ()), w) := by unfold ackF; rw [if_neg c1, if_neg c2, if_pos c3]
    rw [e]; exact congrArg Prod.snd e
  by_cases c4 : 1048576 < r
  · have e : ackF w o r d = ((2, ()), w) := by unfold ackF; rw [if_neg c1, if_neg c2, if_neg c3, if_pos c4]
    rw [e]; exact congrArg Prod.snd e
  have key : ackF w o r d = ackM w o r d → ackF (ackM w o r d).2 o r d = ackM (ackM w o r d).2 o r d → (ackF (ackF w o r d).2 o r d).2 = (ackF w o r d).2 := fun e1 e2 => by rw [e1, e2, ackM_again]
  by_cases c5 : d = true
  · by_cases c6 : w.closed = false
    · have e : ackF w o r d = ((3, ()), w) := by unfold ackF; rw [if_neg c1, if_neg c2, if_neg c3, if_neg c4, if_pos c5, if_pos c6]
      rw [e]; exact congrArg Prod.snd e
    by_cases c7 : o = w.taken
    · by_cases c8 : w.marked = false
      · have e : ackF w o r d = ((3, ()), w) := by unfold ackF; rw [if_neg c1, if_neg c2, if_neg c3, if_neg c4, if_pos c5, if_neg c6, if_neg (fun h => h c7), if_pos c8]
        rw [e]; exact congrArg Prod.snd e
      · exact key (by unfold ackF; rw [if_neg c1, if_neg c2, if_neg c3, if_neg c4, if_pos c5, if_neg c6, if_neg (fun h => h c7), if_neg c8])
          (by unfold ackF; rw [if_neg c1, if_neg (by rw [s1]; exact c2), if_neg c3, if_neg c4, if_pos c5, if_neg (by rw [s2]; exact c6), if_neg (by rw [s3]; exact fun h => h c7), if_neg (by rw [s4]; exact c8)])
    · have e : ackF w o r d = ((3, ()), w) := by unfold ackF; rw [if_neg c1, if_neg c2, if_neg c3, if_neg c4, if_pos c5, if_neg c6, if_pos c7]
      rw [e]; exact congrArg Prod.snd e
  · exact key (by unfold ackF; rw [if_neg c1, if_neg c2, if_neg c3, if_neg c4, if_neg c5]) (by unfold ackF; rw [if_neg c1, if_neg (by rw [s1]; exact c2), if_neg c3, if_neg c4, if_neg c5])
/-- What is repeated behind an act changes nothing. -/
theorem again_seg {x : WS} (h : Inv x) (hb : inBytes x.data) (hs : StO x.r.sto) {a : Int} (ha : a % 8 = 3 ∨ a % 8 = 4) (hp : 0 < ((actF x a).2.segs.length : Int)) :
    (rcvF (actF x a).2.r (segAt (actF x a).2 a).1 (segAt (actF x a).2 a).2.1 (segAt (actF x a).2 a).2.2).2 = (actF x a).2.r := by
  have e : actF x a = act3 x a := by
    unfold actF
    rcases ha with ha | ha
    · rw [if_neg (by omega), if_neg (by omega), if_neg (by omega), if_pos ha]
    · rw [if_neg (by omega), if_neg (by omega), if_neg (by omega), if_neg (by omega), if_pos ha]
  rw [e] at hp ⊢
  have es : (act3 x a).2.segs = x.segs := by unfold act3; (repeat' split) <;> rfl
  have hp : 0 < (x.segs.length : Int) := by rw [es] at hp; exact hp
  have hB := h.segB hb (modAt_mem (k := a / 8) (d := (0, [], false)) hp)
  have er : (act3 x a).2.r = (rcvF x.r (segAt x a).1 (segAt x a).2.1 (segAt x a).2.2).2 := by
    unfold act3
    rw [if_pos hp]
    split <;> rfl
  have eg : segAt (act3 x a).2 a = segAt x a := by dsimp only [segAt]; rw [es]
  rw [eg, er]
  show ({ x.r with sto := (putF (putF x.r.sto (segAt x a).1 (segAt x a).2.1 (segAt x a).2.2).2 (segAt x a).1 (segAt x a).2.1 (segAt x a).2.2).2 } : Rdr) = { x.r with sto := (putF x.r.sto (segAt x a).1 (segAt x a).2.1 (segAt x a).2.2).2 }
  rw [put_again hs hB.1 hB.2]
theorem again_ack {x : WS} (h : Inv x) {a : Int} (ha : a % 8 = 7) (hp : 0 < ((actF x a).2.acks.length : Int)) :
    (ackF (actF x a).2.w (ackAt (actF x a).2 a).1 (ackAt (actF x a).2 a).2 (dnAt (actF x a).2 a)).2 = (actF x a).2.w := by
  have e : actF x a = act7 x a := by
    unfold actF
    rw [if_neg (by omega), if_neg (by omega), if_neg (by omega), if_neg (by omega), if_neg (by omega), if_neg (by omega), if_neg (by omega)]
  rw [e] at hp ⊢
  have es : (act7 x a).2.acks = x.acks ∧ (act7 x a).2.done = x.done := by unfold act7; (repeat' split) <;> exact ⟨rfl, rfl⟩
  have hp : 0 < (x.acks.length : Int) := by rw [es.1] at hp; exact hp
  have er : (act7 x a).2.w = (ackF x.w (ackAt x a).1 (ackAt x a).2 (dnAt x a)).2 := by
    unfold act7
    rw [if_pos hp]
    split <;> rfl
  have eg : ackAt (act7 x a).2 a = ackAt x a := by dsimp only [ackAt]; rw [es.1]
  have ed : dnAt (act7 x a).2 a = dnAt x a := by dsimp only [dnAt]; rw [es.1, es.2]
  rw [eg, ed, er]
  exact ack_again _ _ _ _
end Go.Proofs.Ytebhcmgfhkjmcaa
