/-
  Layer 47: a quiet round in numbers (plain).
-/
import Derived.Test.YtldabjgegpmmiaaLvc
import Derived.Test.YtldabjgegpmmiaaNsp
namespace Go.Proofs.Ytldabjgegpmmiaa
set_option linter.all false
set_option linter.unusedVariables false
set_option linter.unusedSimpArgs false
set_option linter.unusedSectionVars false
open Go.RowKit Go.Sx
variable {a b u v : Int} {E F : Edd} {dE dF rE rF : List Int} {mE mF : List Msg} {S : Pr} {c : Bool}
def fl (b : Bool) : Int := if b = true then 1 else 0
theorem fl_t {b : Bool} (h : b = true) : fl b = 1 := if_pos h
theorem fl_f {b : Bool} (h : ¬ b = true) : fl b = 0 := if_neg h
theorem fl_01 (b : Bool) : fl b = 0 ∨ fl b = 1 := by
  cases b
  · exact .inl rfl
  · exact .inr rfl
def nsOf (w : Wri) (r : Rdr) (o : Bool) : NS := ⟨w.base, w.next, w.taken, w.room, w.idle, fl w.ended, r.sto.next, r.sto.win, fl r.sto.known, fl o⟩
/-- What a tick gives, in numbers. -/
structure TkN (s : NS) (w : Wri) (t : TickR) (x i en sent o k l : Int) : Prop where
  tk : TkR s x i en sent o k l
  nx : t.2.next = x
  id : t.2.idle = i
  en : fl t.2.ended = en
  sn : (t.1.2.1 : Bool) = true ∧ sent = 1 ∨ (t.1.2.1 : Bool) = false ∧ sent = 0
  sg : sent = 1 → (t.1.1.1 : Int) = o ∧ ((t.1.1.2.1 : List Int).length : Int) = k ∧ ((t.1.1.2.2 : Bool) = true ∧ l = 1 ∨ (t.1.1.2.2 : Bool) = false ∧ l = 0)
theorem tick_num {w : Wri} (ok : OkW w) (hx : Wx true w) (hf : ¬ w.fin = true) (ht : w.tmo = 3) (r : Rdr) (ob : Bool) : ∃ x i en sent o k l : Int, TkN (nsOf w r ob) w (tick w 9) x i en sent o k l ∧ (sent = 0 → o = 0 ∧ k = 0 ∧ l = 0) := by
  obtain ⟨⟨h1, h2⟩, ⟨h3, h4⟩, h5, h6, h7, h8, ⟨h9, h10⟩, ⟨h11, h12⟩, ⟨h13, h14⟩, h15, h16⟩ := id ok
  have hcl := hx.cl
  have hen := hx.en
  have hI : ¬ (w.next < w.taken ∧ w.next < w.base + w.room) → ¬ (w.next = w.taken ∧ fl w.ended = 0) → ∃ x i en sent o k l : Int, TkN (nsOf w r ob) w (tickIdle w) x i en sent o k l ∧ (sent = 0 → o = 0 ∧ k = 0 ∧ l = 0) := by
    intro n1 n2
    unfold tickIdle
    split
    · rename_i c
      exact ⟨w.next, w.idle + 1, fl w.ended, 0, 0, 0, 0, ⟨.inr (.inr ⟨⟨n1, n2⟩, .inl ⟨by show w.idle + 1 < 3; omega, rfl, rfl, rfl, rfl, rfl, rfl, rfl⟩⟩), rfl, rfl, rfl, .inr ⟨rfl, rfl⟩, fun q => absurd q (by decide)⟩, fun _ => ⟨rfl, rfl, rfl⟩⟩
    rename_i c
    split
    · rename_i c2
      exact ⟨w.base, 0, 0, 0, 0, 0, 0, ⟨.inr (.inr ⟨⟨n1, n2⟩, .inr (.inl ⟨by show 3 ≤ w.idle + 1; omega, .inl c2, rfl, rfl, rfl, rfl, rfl, rfl, rfl⟩)⟩), rfl, rfl, rfl, .inr ⟨rfl, rfl⟩, fun q => absurd q (by decide)⟩, fun _ => ⟨rfl, rfl, rfl⟩⟩
    rename_i c2
    split
    · rename_i c3
      exact ⟨w.base, 0, 0, 0, 0, 0, 0, ⟨.inr (.inr ⟨⟨n1, n2⟩, .inr (.inl ⟨by show 3 ≤ w.idle + 1; omega, .inr (fl_t c3), rfl, rfl, rfl, rfl, rfl, rfl, rfl⟩)⟩), rfl, rfl, rfl, .inr ⟨rfl, rfl⟩, fun q => absurd q (by decide)⟩, fun _ => ⟨rfl, rfl, rfl⟩⟩
    · rename_i c3
      exact ⟨w.next, 0, 0, 1, w.base, 0, 0, ⟨.inr (.inr ⟨⟨n1, n2⟩, .inr (.inr ⟨by show 3 ≤ w.idle + 1; omega, by show w.base = w.next; omega, fl_f c3, rfl, rfl, rfl, rfl, rfl, rfl, rfl⟩)⟩), rfl, rfl, fl_f c3, .inl ⟨rfl, rfl⟩, fun _ => ⟨rfl, rfl, .inr ⟨rfl, rfl⟩⟩⟩, fun q => absurd q (by decide)⟩
  have hB : ¬ (w.next < w.taken ∧ w.next < w.base + w.room) → ¬ (w.next = w.taken ∧ fl w.ended = 0) → ∃ x i en sent o k l : Int, TkN (nsOf w r ob) w (tickB w) x i en sent o k l ∧ (sent = 0 → o = 0 ∧ k = 0 ∧ l = 0) := by
    intro n1 n2
    have hi := hI n1 n2
    unfold tickB
    split
    · split
      · rename_i c2
        split
        · rename_i c3
          exact absurd ⟨c2, fl_f (by rw [c3]; exact Bool.false_ne_true)⟩ n2
        · first | (rw [if_neg hf]; exact hi) | exact hi
      · exact hi
    · exact hi
  have hA : ¬ (w.next < w.taken ∧ w.next < w.base + w.room) → ∃ x i en sent o k l : Int, TkN (nsOf w r ob) w (tickA w) x i en sent o k l ∧ (sent = 0 → o = 0 ∧ k = 0 ∧ l = 0) := by
    intro n1
    unfold tickA
    (try rw [if_pos hcl])
    split
    · rename_i c2
      split
      · rename_i c3
        (try rw [if_pos (by simpa using hf)])
        have e0 : fl w.ended = 0 := fl_f (by rw [c3]; exact Bool.false_ne_true)
        refine ⟨w.next, 0, 1, 1, w.taken, 0, 1, ⟨.inr (.inl ⟨c2, e0, rfl, rfl, rfl, rfl, rfl, rfl, rfl⟩), by show w.next + 0 = w.next; omega, rfl, rfl, .inl ⟨rfl, rfl⟩, fun _ => ⟨c2, ?_, .inl ⟨rfl, rfl⟩⟩⟩, fun q => absurd q (by decide)⟩
        show ((((w.data.drop (w.next - w.base).toNat).take (0 : Int).toNat).length : Nat) : Int) = 0
        rw [Int.toNat_zero, List.take_zero]; rfl
      · rename_i c3
        exact hB n1 (fun q => by
          have : w.ended = true := by simpa using c3
          rw [fl_t this] at q
          exact absurd q.2 (by decide))
    · rename_i c2
      exact hB n1 (fun q => c2 q.1)
  unfold tick
  rw [if_neg (by decide)]
  split
  · rename_i c1
    split
    · rename_i c2
      have hn : 1 ≤ tickN w 9 ∧ tickN w 9 ≤ w.taken - w.next ∧ w.next + tickN w 9 ≤ w.base + w.room := by dsimp only [tickN]; omega
      have hl : ∀ l : Bool, (((segW w (tickN w 9) l).2.1.length : Nat) : Int) = tickN w 9 := fun l => by
        show ((((w.data.drop (w.next - w.base).toNat).take (tickN w 9).toNat).length : Nat) : Int) = tickN w 9
        rw [List.length_take, List.length_drop]; omega
      have he : ¬ w.ended = true := fun q => by have := (hen q).2; omega
      (try rw [if_pos hcl])
      split
      · rename_i c3
        exact ⟨w.next + tickN w 9, 0, 1, 1, w.next, tickN w 9, 1, ⟨.inl ⟨c1, c2, hn.1, by show w.next + tickN w 9 ≤ w.taken; omega, hn.2.2, rfl, rfl, rfl, rfl, .inl ⟨c3, rfl, rfl⟩⟩, rfl, rfl, rfl, .inl ⟨rfl, rfl⟩, fun _ => ⟨rfl, hl true, .inl ⟨rfl, rfl⟩⟩⟩, fun q => absurd q (by decide)⟩
      · rename_i c3
        exact ⟨w.next + tickN w 9, 0, 0, 1, w.next, tickN w 9, 0, ⟨.inl ⟨c1, c2, hn.1, by show w.next + tickN w 9 ≤ w.taken; omega, hn.2.2, rfl, rfl, rfl, rfl, .inr ⟨by show w.next + tickN w 9 < w.taken; omega, rfl, rfl⟩⟩, rfl, rfl, fl_f he, .inl ⟨rfl, rfl⟩, fun _ => ⟨rfl, hl false, .inr ⟨rfl, rfl⟩⟩⟩, fun q => absurd q (by decide)⟩
    · rename_i c2
      exact hA (fun q => c2 q.2)
  · rename_i c1
    exact hA (fun q => c1 q.1)
/-- How far a segment brings the store. -/
theorem ins_keys {d : List Int} {o : Int} : ∀ (n : Nat) (K : List KV) (x : Int), (∀ k, x ≤ k → k < x + n → k ∈ (ins d o K x n).map Prod.fst) ∧ ∀ k, k ∈ K.map Prod.fst → k ∈ (ins d o K x n).map Prod.fst
  | 0, K, x => ⟨fun k h1 h2 => by omega, fun _ h => h⟩
  | n + 1, K, x => by
    obtain ⟨h1, h2⟩ := ins_keys (d := d) (o := o) n (putI K x (d.getD (x - o).toNat 0)) (x + 1)
    refine ⟨fun k k1 k2 => ?_, fun k hk => h2 k (putI_key.2 (.inr hk))⟩
    by_cases e : k = x
    · exact h2 k (putI_key.2 (.inl e))
    · exact h1 k (by omega) (by omega)
theorem adv_ge {K : List KV} : ∀ (n : Nat) (x y : Int), (∀ k, x ≤ k → k < y → k ∈ K.map Prod.fst) → y ≤ x + n → y ≤ adv K x n
  | 0, x, y, _, h => by unfold adv; omega
  | n + 1, x, y, hk, h => by
    unfold adv
    by_cases hxy : y ≤ x
    · split
      · have := (adv_ok (K := K) n (x + 1)).1; omega
      · omega
    · rw [if_pos (getI_some (hk x (Int.le_refl _) (by omega)))]
      exact adv_ge n (x + 1) y (fun k k1 k2 => hk k (by omega) k2) (by omega)
theorem put_num {w : Wri} {r : Rdr} {d rd : List Int} (h : Dn w r d rd) {s : Seg} (hs : SegOk w d s) :
    (s.1 ≤ r.sto.next → s.1 + (s.2.1.length : Int) ≤ (rcvF r s.1 s.2.1 s.2.2).2.sto.next ∨ r.sto.off + r.sto.win ≤ (rcvF r s.1 s.2.1 s.2.2).2.sto.next) ∧
    ((rcvF r s.1 s.2.1 s.2.2).2.sto.known = true ↔ r.sto.known = true ∨ s.2.2 = true) ∧ (rcvF r s.1 s.2.1 s.2.2).2.sto.win = r.sto.win ∧ (rcvF r s.1 s.2.1 s.2.2).2.sto.off = r.sto.off := by
  obtain ⟨p1, _⟩ := h.put hs
  have p1 : ((putF r.sto s.1 s.2.1 s.2.2).1.2.1 : Int) = 0 := p1
  show (s.1 ≤ r.sto.next → s.1 + (s.2.1.length : Int) ≤ (putF r.sto s.1 s.2.1 s.2.2).2.next ∨ r.sto.off + r.sto.win ≤ (putF r.sto s.1 s.2.1 s.2.2).2.next) ∧ ((putF r.sto s.1 s.2.1 s.2.2).2.known = true ↔ _) ∧ (putF r.sto s.1 s.2.1 s.2.2).2.win = _ ∧ (putF r.sto s.1 s.2.1 s.2.2).2.off = _
  obtain ⟨o, dd, l⟩ := s
  dsimp only at p1 ⊢
  have hoff := h.st.off; have hnx := h.st.nxt
  have key : o ≤ r.sto.next → o + (dd.length : Int) ≤ adv (putK r.sto o dd) r.sto.next (r.sto.off + r.sto.win - r.sto.next).toNat ∨ r.sto.off + r.sto.win ≤ adv (putK r.sto o dd) r.sto.next (r.sto.off + r.sto.win - r.sto.next).toNat := by
    intro ho
    have hk : ∀ k, r.sto.next ≤ k → k < min (o + (dd.length : Int)) (r.sto.off + r.sto.win) → k ∈ (putK r.sto o dd).map Prod.fst := fun k k1 k2 => by
      refine (ins_keys (d := dd) (o := o) (pN r.sto o dd) r.sto.kept (pFr r.sto o)).1 k ?_ ?_
      · dsimp only [pFr]; omega
      · dsimp only [pN, pFr, pTo]; omega
    have := adv_ge (r.sto.off + r.sto.win - r.sto.next).toNat r.sto.next (min (o + (dd.length : Int)) (r.sto.off + r.sto.win)) hk (by omega)
    omega
  unfold putF at p1 ⊢
  split at p1; · exact absurd (show (2 : Int) = 0 from p1) (by decide)
  rename_i c1
  split at p1; · exact absurd (show (2 : Int) = 0 from p1) (by decide)
  rename_i c2
  split at p1; · exact absurd (show (3 : Int) = 0 from p1) (by decide)
  rename_i c3
  split at p1; · exact absurd (show (3 : Int) = 0 from p1) (by decide)
  rename_i c4
  rw [if_neg c1, if_neg c2, if_neg c3, if_neg c4]
  by_cases hl : l = true
  · rw [if_pos hl]
    exact ⟨key, ⟨fun _ => .inr hl, fun _ => rfl⟩, rfl, rfl⟩
  · rw [if_neg hl]
    exact ⟨key, ⟨fun q => .inl q, fun q => q.resolve_right hl⟩, rfl, rfl⟩
theorem read_num (r : Rdr) (hw : r.sto.off ≤ r.sto.next ∧ r.sto.next ≤ r.sto.off + 16) : (rdF r 100).2.sto.next = r.sto.next ∧ (rdF r 100).2.sto.off = r.sto.next ∧ (rdF r 100).2.sto.win = r.sto.win ∧ (rdF r 100).2.sto.known = r.sto.known ∧ (rdF r 100).2.sto.fin = r.sto.fin ∧ (((rdF r 100).1.1 : List Int).length : Int) = r.sto.next - r.sto.off ∧ (((rdF r 100).1.2.1 : Bool) = true ↔ r.sto.known = true ∧ r.sto.fin = r.sto.next) := by
  have e : readF r.sto 100 = ((rdB r.sto.kept r.sto.off (rdN r.sto 100).toNat, ()), { r.sto with kept := rdK r.sto.kept r.sto.off (rdN r.sto 100).toNat, off := r.sto.off + rdN r.sto 100 }) := if_neg (by decide)
  have hn : rdN r.sto 100 = r.sto.next - r.sto.off := by dsimp only [rdN]; omega
  unfold rdF
  rw [e]
  dsimp only
  rw [rdB_len, hn]
  have e2 : r.sto.off + (r.sto.next - r.sto.off) = r.sto.next := by omega
  rw [e2]
  refine ⟨rfl, rfl, rfl, rfl, rfl, by omega, ?_⟩
  rw [Bool.and_eq_true_iff, decide_eq_true_iff]
/-- The state of a direction at the start of a quiet round. -/
structure Dq (E F : Edd) (dE rF : List Int) : Prop where
  dn : Dn E.w F.r dE rF
  wx : Wx true E.w
  tm : E.w.tmo = 3
  ww : E.w.win ≤ 16 ∧ F.r.sto.win ≤ 16
  st : E.st = 2 ∨ E.st = 4 ∧ E.w.fin = true
  off : F.r.sto.off = F.r.sto.next
theorem Dq.nok (h : Dq E F dE rF) : NOk (nsOf E.w F.r F.owed) := by
  have h1 := h.dn.ok; have h2 := h.dn.st; have h3 := h.dn.base; have h4 := h.tm; have h5 := h.ww; have h6 := h.wx.en
  obtain ⟨⟨a1, a2⟩, ⟨a3, a4⟩, a5, a6, a7, a8, ⟨a9, a10⟩, ⟨a11, a12⟩, ⟨a13, a14⟩, a15, a16⟩ := h1
  have b1 := h2.win; have b2 := h2.off; have b3 := h2.nxt
  refine ⟨⟨a5, h3, by show F.r.sto.next ≤ E.w.taken; omega⟩, ⟨a9, a10⟩, a13, ⟨a15, by show E.w.idle ≤ 2; omega⟩, b1.1, by show E.w.taken - E.w.base ≤ 16; omega, ?_, fl_01 _, fl_01 _⟩
  by_cases he : E.w.ended = true
  · exact .inr ⟨fl_t he, (h6 he).2⟩
  · exact .inl (fl_f he)
theorem Dq.rnd {E' F' : Edd} (h : Dq E F dE rF) (q : Qd E F E' F') (hf : ¬ E.w.fin = true) : Rnd (nsOf E.w F.r F.owed) (nsOf E'.w F'.r F'.owed) (E'.w.fin = true) := by
  have hst : E.st = 2 := h.st.resolve_right fun k => hf k.2
  obtain ⟨x, i, en, sent, o, k, l, ⟨tk, t1, t2, t3, t4, t5⟩, t6⟩ := tick_num h.dn.ok h.wx hf h.tm F.r F.owed
  obtain ⟨p1, p2, p3⟩ := h.dn.tick 9
  have hsame := (tick_fact h.dn.ok h.dn.tk h.dn.wd 9).same
  have hfin := (tick_fin E.w 9).1
  have hwt : wtk E = (tick E.w 9).2 := if_pos hst
  have hsn : snt E = (tick E.w 9).1.2.1 := by unfold snt; rw [decide_eq_true hst, Bool.true_and]
  obtain ⟨qw, qr, qo, _⟩ := q
  have hr16 := h.ww.2
  have hoff := h.off
  have hrw := h.dn.rw
  have hst2 := h.dn.st
  -- the reader behind the segment
  have hR : ∃ r1 : Rdr, (if snt E = true then (rcvF F.r (sgm E).1 (sgm E).2.1 (sgm E).2.2).2 else F.r) = r1 ∧ (F.r.sto.next ≤ r1.sto.next ∧ r1.sto.next ≤ E.w.taken) ∧ r1.sto.off = F.r.sto.off ∧ r1.sto.win = F.r.sto.win ∧ r1.sto.next ≤ r1.sto.off + r1.sto.win ∧
      (sent = 1 → o ≤ F.r.sto.next → o + k ≤ r1.sto.next ∨ F.r.sto.next + F.r.sto.win ≤ r1.sto.next) ∧ (sent = 0 → r1.sto.next = F.r.sto.next) ∧ (r1.sto.known = true ↔ F.r.sto.known = true ∨ sent = 1 ∧ l = 1) := by
    rw [hsn]
    rcases t4 with ⟨s1, s2⟩ | ⟨s1, s2⟩
    · rw [if_pos s1]
      obtain ⟨g1, g2, g3⟩ := p1.put (p3 s1)
      obtain ⟨n1, n2, n3, n4⟩ := put_num p1 (p3 s1)
      obtain ⟨u1, u2, u3⟩ := t5 s2
      have u1 : @Eq Int (tick E.w 9).1.1.1 o := u1
      have u2 : @Eq Int ((tick E.w 9).1.1.2.1 : List Int).length k := u2
      dsimp only [sgm]
      have k1 := g2.st.nxt; have k2 := g2.ok.top; have k3 := g3.nx; have k4 := hsame.2.1
      refine ⟨_, rfl, ⟨k3, by show _ ≤ E.w.taken; omega⟩, n4, n3, k1.1, fun _ ho => ?_, fun z => by omega, ?_⟩
      · have n1 := n1 (by rw [← u1] at ho; exact ho)
        rcases n1 with n1 | n1
        · left
          have n1 : ((tick E.w 9).1.1.1 : Int) + (((tick E.w 9).1.1.2.1 : List Int).length : Int) ≤ (rcvF F.r (tick E.w 9).1.1.1 (tick E.w 9).1.1.2.1 (tick E.w 9).1.1.2.2).2.sto.next := n1
          show o + k ≤ (rcvF F.r (tick E.w 9).1.1.1 (tick E.w 9).1.1.2.1 (tick E.w 9).1.1.2.2).2.sto.next
          omega
        · right; rw [← hoff]; exact n1
      · refine n2.trans (or_congr Iff.rfl ?_)
        rcases u3 with ⟨u3, u4⟩ | ⟨u3, u4⟩
        · exact ⟨fun _ => ⟨s2, u4⟩, fun _ => u3⟩
        · exact ⟨fun z => (by have z : ((tick E.w 9).1.1.2.2 : Bool) = true := z; rw [u3] at z; cases z), fun z => by omega⟩
    · rw [if_neg (by rw [s1]; exact Bool.false_ne_true)]
      have k1 := hst2.nxt; have k2 := h.dn.ok.top
      exact ⟨_, rfl, ⟨Int.le_refl _, by omega⟩, rfl, rfl, k1.1, fun z => by omega, fun _ => rfl, ⟨.inl, fun z => z.elim id fun z => by omega⟩⟩
  obtain ⟨r1, er, ⟨m1, m2⟩, m3, m4, m5, m6, m7, m8⟩ := hR
  rw [er] at qr qo
  obtain ⟨n1, n2, n3, n4, n5, n6, n7⟩ := read_num r1 ⟨by omega, by omega⟩
  have hn' : F'.r.sto.next = r1.sto.next := by rw [qr]; exact n1
  have hv' : F'.r.sto.win = F.r.sto.win := by rw [qr]; exact n3.trans m4
  have hk' : F'.r.sto.known = true ↔ F.r.sto.known = true ∨ sent = 1 ∧ l = 1 := by rw [qr, n4]; exact m8
  have ho' : fl F'.owed = sent := by
    rcases t4 with ⟨s1, s2⟩ | ⟨s1, s2⟩
    · rw [fl_t (qo.2 (.inl (hsn.trans s1))), s2]
    · have := m7 s2
      rw [fl_f (fun z => by
        rcases qo.1 z with z | z
        · rw [hsn, s1] at z; cases z
        · rw [n6] at z; omega), s2]
  have hW : E'.w.taken = E.w.taken ∧ fl E'.w.ended = en ∧ (fl F.owed = 0 ∧ E'.w.base = E.w.base ∧ E'.w.room = E.w.room ∧ E'.w.next = x ∧ E'.w.idle = i ∨
      fl F.owed = 1 ∧ (fl F.r.sto.known = 1 → F.r.sto.next = E.w.taken → E'.w.fin = true) ∧ (E.w.base = F.r.sto.next ∧ E'.w.base = E.w.base ∧ E'.w.next = x ∧ E'.w.idle = i ∧ (E'.w.room = E.w.room ∧ F.r.sto.win ≤ E.w.room ∨ E'.w.room = F.r.sto.win ∧ E.w.room ≤ F.r.sto.win) ∨
        E.w.base < F.r.sto.next ∧ E'.w.base = F.r.sto.next ∧ E'.w.room = F.r.sto.win ∧ E'.w.idle = 0 ∧ (E'.w.next = x ∧ F.r.sto.next ≤ x ∨ E'.w.next = F.r.sto.next ∧ x ≤ F.r.sto.next))) := by
    obtain ⟨w1, w2, w3, w4, w5, w6⟩ := hsame
    rw [hwt] at qw
    by_cases hw : F.owed = true
    · rw [if_pos hw] at qw
      have hb := h.dn.base
      have hfin' : F.r.sto.known = true → F.r.sto.next = E.w.taken → ((F.r.sto.known && decide (F.r.sto.fin = F.r.sto.next)) : Bool) = true := fun z1 z2 => by
        rw [z1, Bool.true_and]; exact decide_eq_true ((h.dn.fin z1).2.2.trans z2.symm)
      have qw : E'.w = (ackM (tick E.w 9).2 F.r.sto.next (F.r.sto.off + F.r.win - F.r.sto.next) (F.r.sto.known && decide (F.r.sto.fin = F.r.sto.next))).2 := qw
      have er : F.r.sto.off + F.r.win - F.r.sto.next = F.r.sto.win := by omega
      rw [er] at qw
      generalize ((F.r.sto.known && decide (F.r.sto.fin = F.r.sto.next)) : Bool) = dd at hfin' qw
      unfold ackM at qw
      rw [if_neg (show ¬ F.r.sto.next < (tick E.w 9).2.base by omega)] at qw
      have kn : fl F.r.sto.known = 1 → F.r.sto.known = true := fun z => by
        by_cases hk : F.r.sto.known = true
        · exact hk
        · rw [fl_f hk] at z; exact absurd z (by decide)
      by_cases hbn : F.r.sto.next = (tick E.w 9).2.base
      · rw [if_pos hbn] at qw
        rw [qw]
        refine ⟨w2, t3, .inr ⟨fl_t hw, fun z1 z2 => ?_, .inl ⟨by omega, w3, t1, t2, ?_⟩⟩⟩
        · show ((tick E.w 9).2.fin || dd) = true
          rw [hfin' (kn z1) z2, Bool.or_true]
        · show max (tick E.w 9).2.room F.r.sto.win = E.w.room ∧ _ ∨ max (tick E.w 9).2.room F.r.sto.win = F.r.sto.win ∧ _
          rw [w4]; omega
      · rw [if_neg hbn] at qw
        rw [qw]
        refine ⟨w2, t3, .inr ⟨fl_t hw, fun z1 z2 => ?_, .inr ⟨by omega, rfl, rfl, rfl, ?_⟩⟩⟩
        · show ((tick E.w 9).2.fin || dd) = true
          rw [hfin' (kn z1) z2, Bool.or_true]
        · show max (tick E.w 9).2.next F.r.sto.next = x ∧ _ ∨ max (tick E.w 9).2.next F.r.sto.next = F.r.sto.next ∧ _
          rw [t1]; omega
    · rw [if_neg hw] at qw
      rw [qw]
      exact ⟨w2, t3, .inl ⟨fl_f hw, w3, w4, t1, t2⟩⟩
  obtain ⟨z1, z2, z3⟩ := hW
  refine ⟨x, i, en, sent, o, k, l, tk, z1, hv', z2, ho', ⟨by show _ ≤ F'.r.sto.next; rw [hn']; exact m1, by show F'.r.sto.next ≤ _; rw [hn']; exact m2⟩, fun s1 s2 => ?_, fun s => hn'.trans (m7 s), ?_, z3⟩
  · show _ ≤ F'.r.sto.next ∨ _ ≤ F'.r.sto.next
    rw [hn']; exact m6 s1 s2
  · show fl F'.r.sto.known = 1 ∧ (fl F.r.sto.known = 1 ∨ _) ∨ fl F'.r.sto.known = 0 ∧ fl F.r.sto.known = 0 ∧ l = 0
    by_cases hk : F'.r.sto.known = true
    · left
      refine ⟨fl_t hk, ?_⟩
      rcases hk'.1 hk with q | q
      · exact .inl (fl_t q)
      · exact .inr q
    · right
      refine ⟨fl_f hk, fl_f fun q => hk (hk'.2 (.inl q)), ?_⟩
      rcases t4 with ⟨s1, s2⟩ | ⟨s1, s2⟩
      · rcases (t5 s2).2.2 with ⟨_, u⟩ | ⟨_, u⟩
        · exact absurd (hk'.2 (.inr ⟨s2, u⟩)) hk
        · exact u
      · exact (t6 s2).2.2
end Go.Proofs.Ytldabjgegpmmiaa
