/-
  Layer 44: StreamCompletes: a round in which everything arrives, in numbers, and a measure that falls with each round (plain).
-/
import Derived.Test.YtebhcmgfhkjmcaaIny
import Derived.Test.YtebhcmgfhkjmcaaDrn
namespace Go.Proofs.Ytebhcmgfhkjmcaa
set_option linter.all false
set_option linter.unusedVariables false
set_option linter.unusedSimpArgs false
set_option linter.unusedSectionVars false
open Go.RowKit Go.Sx
set_option maxHeartbeats 16000000
variable {c : Bool}
structure Wx (c : Bool) (w : Wri) : Prop where
  cl : w.closed = c
  en : w.ended = true → w.closed = true ∧ w.next = w.taken
  fb : w.fin = true → w.base = w.taken
theorem Wx.write {w : Wri} (h : Wx c w) (l : List Int) : Wx c (writeF w l).2 ∨ w.fin = true := by
  by_cases hf : w.fin = true
  · exact .inr hf
  left
  unfold writeF
  split
  · exact h
  · rename_i hc
    exact ⟨h.cl, fun q => absurd (h.en q).1 hc, fun q => absurd q hf⟩
theorem Wx.write' {w : Wri} {r : Rdr} {d rd : List Int} (h : Wx c w) (hd : Dn w r d rd) (l : List Int) : Wx c (writeF w l).2 := by
  rcases h.write l with q | q
  · exact q
  · obtain ⟨g1, _⟩ := hd.fw q
    have := (hd.fin g1).1
    unfold writeF
    rw [if_pos this]
    exact h
theorem Wx.close {w : Wri} (h : Wx c w) : Wx true (closeF w).2 := by
  rw [closeF_eq]
  exact ⟨rfl, fun q => ⟨rfl, (h.en q).2⟩, h.fb⟩
theorem Wx.tick {w : Wri} (h : Wx c w) (m : Int) : Wx c (Go.Proofs.Ytebhcmgfhkjmcaa.tick w m).2 := by
  obtain ⟨h1, h2, h3⟩ := h
  have hI : Wx c (tickIdle w).2 := by
    unfold tickIdle
    split; · exact ⟨h1, h2, h3⟩
    split; · exact ⟨h1, (fun q => by cases q), h3⟩
    split; · exact ⟨h1, (fun q => by cases q), h3⟩
    exact ⟨h1, h2, h3⟩
  have hB : Wx c (tickB w).2 := by unfold tickB; (repeat' split) <;> first | exact ⟨h1, h2, h3⟩ | exact hI
  have hA : Wx c (tickA w).2 := by
    unfold tickA
    split
    · rename_i hc
      split
      · rename_i hn
        split
        · split
          · exact ⟨h1, fun _ => ⟨hc, by show w.next + 0 = w.taken; omega⟩, h3⟩
          · exact hB
        · exact hB
      · exact hB
    · exact hB
  unfold Go.Proofs.Ytebhcmgfhkjmcaa.tick
  split; · exact ⟨h1, h2, h3⟩
  split
  · rename_i hn
    have hx : ¬ w.ended = true := fun q => by have := (h2 q).2; omega
    split
    · split
      · rename_i hc
        split
        · rename_i hl; exact ⟨h1, fun _ => ⟨hc, hl⟩, h3⟩
        · exact ⟨h1, fun q => absurd (show w.ended = true from q) hx, h3⟩
      · exact ⟨h1, fun q => absurd (show w.ended = true from q) hx, h3⟩
    · exact hA
  · exact hA
theorem Wx.ack {w : Wri} {r : Rdr} {d rd : List Int} (h : Wx c w) (hd : Dn w r d rd) {o m : Int} {k : Bool} (ha : AckOk w r o m k) : Wx c (ackF w o m k).2 := by
  obtain ⟨_, _, _, e⟩ := hd.ack ha
  obtain ⟨h1, h2, h3⟩ := h
  have ht := hd.ok.top; have hn := hd.ok.next; have hs := hd.st.nxt; have hl := ha.lo
  have hf : (w.fin || k) = true → max w.base o = w.taken := fun q => by
    rcases (Bool.or_eq_true_iff.1 q) with q | q
    · have := h3 q; omega
    · have := (ha.dn q).2.2.1; have := hd.ok.next; omega
  rw [e]
  unfold ackM
  split; · exact ⟨h1, h2, h3⟩
  split
  · exact ⟨h1, h2, fun q => by have := hf q; dsimp only; omega⟩
  · refine ⟨h1, fun q => ⟨(h2 q).1, ?_⟩, fun q => ?_⟩
    · have := (h2 q).2; show max w.next o = w.taken; omega
    · have := hf q; show o = w.taken; omega
def fl (b : Bool) : Int := if b = true then 1 else 0
theorem fl_t {b : Bool} (h : b = true) : fl b = 1 := if_pos h
theorem fl_f {b : Bool} (h : ¬ b = true) : fl b = 0 := if_neg h
theorem fl_01 (b : Bool) : fl b = 0 ∨ fl b = 1 := by
  cases b
  · exact .inl rfl
  · exact .inr rfl
/-- What a tick does, in numbers: next, idle, ended behind it; whether a segment was sent (1), its offset, length, last. -/
def TkR (b x t p T i0 e0 : Int) (x' i en sent o k l : Int) : Prop :=
  (x < t ∧ x < b + p ∧ 1 ≤ k ∧ x + k ≤ t ∧ x + k ≤ b + p ∧ o = x ∧ x' = x + k ∧ i = 0 ∧ sent = 1 ∧ (x + k = t ∧ l = 1 ∧ en = 1 ∨ x + k < t ∧ l = 0 ∧ en = 0)) ∨
  (x = t ∧ e0 = 0 ∧ o = t ∧ k = 0 ∧ l = 1 ∧ x' = x ∧ i = 0 ∧ en = 1 ∧ sent = 1) ∨
  ((¬ (x < t ∧ x < b + p) ∧ ¬ (x = t ∧ e0 = 0)) ∧
    ((i0 + 1 < T ∧ x' = x ∧ i = i0 + 1 ∧ en = e0 ∧ sent = 0 ∧ o = 0 ∧ k = 0 ∧ l = 0) ∨
     (T ≤ i0 + 1 ∧ (b < x ∨ e0 = 1) ∧ x' = b ∧ i = 0 ∧ en = 0 ∧ sent = 0 ∧ o = 0 ∧ k = 0 ∧ l = 0) ∨
     (T ≤ i0 + 1 ∧ b = x ∧ e0 = 0 ∧ x' = x ∧ i = 0 ∧ en = 0 ∧ sent = 1 ∧ o = b ∧ k = 0 ∧ l = 0)))
structure TkN (w : Wri) (t : TickR) (x i en sent o k l : Int) : Prop where
  tk : TkR w.base w.next w.taken w.room w.tmo w.idle (fl w.ended) x i en sent o k l
  nx : t.2.next = x
  id : t.2.idle = i
  en : fl t.2.ended = en
  sn : (t.1.2.1 : Bool) = true ∧ sent = 1 ∨ (t.1.2.1 : Bool) = false ∧ sent = 0
  sg : sent = 1 → (t.1.1.1 : Int) = o ∧ ((t.1.1.2.1 : List Int).length : Int) = k ∧ ((t.1.1.2.2 : Bool) = true ∧ l = 1 ∨ (t.1.1.2.2 : Bool) = false ∧ l = 0)
theorem tick_num {w : Wri} (ok : OkW w) (hx : Wx true w) (hf : ¬ w.fin = true) {m : Int} (hm : 1 ≤ m) : ∃ x i en sent o k l : Int, TkN w (tick w m) x i en sent o k l ∧ (sent = 0 → o = 0 ∧ k = 0 ∧ l = 0) := by
  obtain ⟨⟨h1, h2⟩, ⟨h3, h4⟩, h5, h6, h7, h8, ⟨h9, h10⟩, ⟨h11, h12⟩, ⟨h13, h14⟩, h15, h16⟩ := id ok
  have hcl := hx.cl
  have hen := hx.en
  have hI : ¬ (w.next < w.taken ∧ w.next < w.base + w.room) → ¬ (w.next = w.taken ∧ fl w.ended = 0) → ∃ x i en sent o k l : Int, TkN w (tickIdle w) x i en sent o k l ∧ (sent = 0 → o = 0 ∧ k = 0 ∧ l = 0) := by
    intro n1 n2
    unfold tickIdle
    split
    · rename_i c
      exact ⟨w.next, w.idle + 1, fl w.ended, 0, 0, 0, 0, ⟨.inr (.inr ⟨⟨n1, n2⟩, .inl ⟨c, rfl, rfl, rfl, rfl, rfl, rfl, rfl⟩⟩), rfl, rfl, rfl, .inr ⟨rfl, rfl⟩, fun q => absurd q (by decide)⟩, fun _ => ⟨rfl, rfl, rfl⟩⟩
    rename_i c
    split
    · rename_i c2
      exact ⟨w.base, 0, 0, 0, 0, 0, 0, ⟨.inr (.inr ⟨⟨n1, n2⟩, .inr (.inl ⟨by omega, .inl c2, rfl, rfl, rfl, rfl, rfl, rfl, rfl⟩)⟩), rfl, rfl, rfl, .inr ⟨rfl, rfl⟩, fun q => absurd q (by decide)⟩, fun _ => ⟨rfl, rfl, rfl⟩⟩
    rename_i c2
    split
    · rename_i c3
      exact ⟨w.base, 0, 0, 0, 0, 0, 0, ⟨.inr (.inr ⟨⟨n1, n2⟩, .inr (.inl ⟨by omega, .inr (fl_t c3), rfl, rfl, rfl, rfl, rfl, rfl, rfl⟩)⟩), rfl, rfl, rfl, .inr ⟨rfl, rfl⟩, fun q => absurd q (by decide)⟩, fun _ => ⟨rfl, rfl, rfl⟩⟩
    · rename_i c3
      exact ⟨w.next, 0, 0, 1, w.base, 0, 0, ⟨.inr (.inr ⟨⟨n1, n2⟩, .inr (.inr ⟨by omega, by show w.base = w.next; omega, fl_f c3, rfl, rfl, rfl, rfl, rfl, rfl, rfl⟩)⟩), rfl, rfl, fl_f c3, .inl ⟨rfl, rfl⟩, fun _ => ⟨rfl, rfl, .inr ⟨rfl, rfl⟩⟩⟩, fun q => absurd q (by decide)⟩
  have hB : ¬ (w.next < w.taken ∧ w.next < w.base + w.room) → ¬ (w.next = w.taken ∧ fl w.ended = 0) → ∃ x i en sent o k l : Int, TkN w (tickB w) x i en sent o k l ∧ (sent = 0 → o = 0 ∧ k = 0 ∧ l = 0) := by
    intro n1 n2
    have hi := hI n1 n2
    unfold tickB
    split
    · split
      · rename_i c2
        split
        · rename_i c3
          exact absurd ⟨c2, fl_f (by rw [c3]; exact Bool.false_ne_true)⟩ n2
        · first | (rw [if_neg hf]; exact hi) | exact hi
      · exact hi
    · exact hi
  have hA : ¬ (w.next < w.taken ∧ w.next < w.base + w.room) → ∃ x i en sent o k l : Int, TkN w (tickA w) x i en sent o k l ∧ (sent = 0 → o = 0 ∧ k = 0 ∧ l = 0) := by
    intro n1
    unfold tickA
    (try rw [if_pos hcl])
    split
    · rename_i c2
      split
      · rename_i c3
        (try rw [if_pos (by simpa using hf)])
        have e0 : fl w.ended = 0 := fl_f (by rw [c3]; exact Bool.false_ne_true)
        refine ⟨w.next, 0, 1, 1, w.taken, 0, 1, ⟨.inr (.inl ⟨c2, e0, rfl, rfl, rfl, rfl, rfl, rfl, rfl⟩), by show w.next + 0 = w.next; omega, rfl, rfl, .inl ⟨rfl, rfl⟩, fun _ => ⟨c2, ?_, .inl ⟨rfl, rfl⟩⟩⟩, fun q => absurd q (by decide)⟩
        show ((((w.data.drop (w.next - w.base).toNat).take (0 : Int).toNat).length : Nat) : Int) = 0
        rw [Int.toNat_zero, List.take_zero]; rfl
      · rename_i c3
        exact hB n1 (fun q => by
          have : w.ended = true := by simpa using c3
          rw [fl_t this] at q
          exact absurd q.2 (by decide))
    · rename_i c2
      exact hB n1 (fun q => c2 q.1)
  unfold tick
  rw [if_neg (by omega)]
  split
  · rename_i c1
    split
    · rename_i c2
      have hn : 1 ≤ tickN w m ∧ tickN w m ≤ w.taken - w.next ∧ w.next + tickN w m ≤ w.base + w.room := by dsimp only [tickN]; omega
      have hl : ∀ l : Bool, (((segW w (tickN w m) l).2.1.length : Nat) : Int) = tickN w m := fun l => by
        show ((((w.data.drop (w.next - w.base).toNat).take (tickN w m).toNat).length : Nat) : Int) = tickN w m
        rw [List.length_take, List.length_drop]; omega
      have he : ¬ w.ended = true := fun q => by have := (hen q).2; omega
      (try rw [if_pos hcl])
      split
      · rename_i c3
        exact ⟨w.next + tickN w m, 0, 1, 1, w.next, tickN w m, 1, ⟨.inl ⟨c1, c2, hn.1, by show w.next + tickN w m ≤ w.taken; omega, hn.2.2, rfl, rfl, rfl, rfl, .inl ⟨c3, rfl, rfl⟩⟩, rfl, rfl, rfl, .inl ⟨rfl, rfl⟩, fun _ => ⟨rfl, hl true, .inl ⟨rfl, rfl⟩⟩⟩, fun q => absurd q (by decide)⟩
      · rename_i c3
        exact ⟨w.next + tickN w m, 0, 0, 1, w.next, tickN w m, 0, ⟨.inl ⟨c1, c2, hn.1, by show w.next + tickN w m ≤ w.taken; omega, hn.2.2, rfl, rfl, rfl, rfl, .inr ⟨by show w.next + tickN w m < w.taken; omega, rfl, rfl⟩⟩, rfl, rfl, fl_f he, .inl ⟨rfl, rfl⟩, fun _ => ⟨rfl, hl false, .inr ⟨rfl, rfl⟩⟩⟩, fun q => absurd q (by decide)⟩
    · rename_i c2
      exact hA (fun q => c2 q.2)
  · rename_i c1
    exact hA (fun q => c1 q.1)
/-- How far a segment brings the store. -/
theorem ins_keys {d : List Int} {o : Int} : ∀ (n : Nat) (K : List KV) (x : Int), (∀ k, x ≤ k → k < x + n → k ∈ (ins d o K x n).map Prod.fst) ∧ ∀ k, k ∈ K.map Prod.fst → k ∈ (ins d o K x n).map Prod.fst
  | 0, K, x => ⟨fun k h1 h2 => by omega, fun _ h => h⟩
  | n + 1, K, x => by
    obtain ⟨h1, h2⟩ := ins_keys (d := d) (o := o) n (putI K x (d.getD (x - o).toNat 0)) (x + 1)
    refine ⟨fun k k1 k2 => ?_, fun k hk => h2 k (putI_key.2 (.inr hk))⟩
    by_cases e : k = x
    · exact h2 k (putI_key.2 (.inl e))
    · exact h1 k (by omega) (by omega)
theorem adv_ge {K : List KV} : ∀ (n : Nat) (x y : Int), (∀ k, x ≤ k → k < y → k ∈ K.map Prod.fst) → y ≤ x + n → y ≤ adv K x n
  | 0, x, y, _, h => by unfold adv; omega
  | n + 1, x, y, hk, h => by
    unfold adv
    by_cases hxy : y ≤ x
    · split
      · have := (adv_ok (K := K) n (x + 1)).1; omega
      · omega
    · rw [if_pos (getI_some (hk x (Int.le_refl _) (by omega)))]
      exact adv_ge n (x + 1) y (fun k k1 k2 => hk k (by omega) k2) (by omega)
theorem put_num {w : Wri} {r : Rdr} {d rd : List Int} (h : Dn w r d rd) {s : Seg} (hs : SegOk w d s) :
    (s.1 ≤ r.sto.next → s.1 + (s.2.1.length : Int) ≤ (rcvF r s.1 s.2.1 s.2.2).2.sto.next ∨ r.sto.off + r.sto.win ≤ (rcvF r s.1 s.2.1 s.2.2).2.sto.next) ∧
    ((rcvF r s.1 s.2.1 s.2.2).2.sto.known = true ↔ r.sto.known = true ∨ s.2.2 = true) ∧ (rcvF r s.1 s.2.1 s.2.2).2.sto.win = r.sto.win ∧ (rcvF r s.1 s.2.1 s.2.2).2.sto.off = r.sto.off := by
  obtain ⟨p1, _⟩ := h.put hs
  have p1 : ((putF r.sto s.1 s.2.1 s.2.2).1.2.1 : Int) = 0 := p1
  show (s.1 ≤ r.sto.next → s.1 + (s.2.1.length : Int) ≤ (putF r.sto s.1 s.2.1 s.2.2).2.next ∨ r.sto.off + r.sto.win ≤ (putF r.sto s.1 s.2.1 s.2.2).2.next) ∧ ((putF r.sto s.1 s.2.1 s.2.2).2.known = true ↔ _) ∧ (putF r.sto s.1 s.2.1 s.2.2).2.win = _ ∧ (putF r.sto s.1 s.2.1 s.2.2).2.off = _
  obtain ⟨o, dd, l⟩ := s
  dsimp only at p1 ⊢
  have hoff := h.st.off; have hnx := h.st.nxt
  have key : o ≤ r.sto.next → o + (dd.length : Int) ≤ adv (putK r.sto o dd) r.sto.next (r.sto.off + r.sto.win - r.sto.next).toNat ∨ r.sto.off + r.sto.win ≤ adv (putK r.sto o dd) r.sto.next (r.sto.off + r.sto.win - r.sto.next).toNat := by
    intro ho
    have hk : ∀ k, r.sto.next ≤ k → k < min (o + (dd.length : Int)) (r.sto.off + r.sto.win) → k ∈ (putK r.sto o dd).map Prod.fst := fun k k1 k2 => by
      refine (ins_keys (d := dd) (o := o) (pN r.sto o dd) r.sto.kept (pFr r.sto o)).1 k ?_ ?_
      · dsimp only [pFr]; omega
      · dsimp only [pN, pFr, pTo]; omega
    have := adv_ge (r.sto.off + r.sto.win - r.sto.next).toNat r.sto.next (min (o + (dd.length : Int)) (r.sto.off + r.sto.win)) hk (by omega)
    omega
  unfold putF at p1 ⊢
  split at p1; · exact absurd (show (2 : Int) = 0 from p1) (by decide)
  rename_i c1
  split at p1; · exact absurd (show (2 : Int) = 0 from p1) (by decide)
  rename_i c2
  split at p1; · exact absurd (show (3 : Int) = 0 from p1) (by decide)
  rename_i c3
  split at p1; · exact absurd (show (3 : Int) = 0 from p1) (by decide)
  rename_i c4
  rw [if_neg c1, if_neg c2, if_neg c3, if_neg c4]
  by_cases hl : l = true
  · rw [if_pos hl]
    exact ⟨key, ⟨fun _ => .inr hl, fun _ => rfl⟩, rfl, rfl⟩
  · rw [if_neg hl]
    exact ⟨key, ⟨fun q => .inl q, fun q => q.resolve_right hl⟩, rfl, rfl⟩
theorem read_num (r : Rdr) (hw : r.sto.off ≤ r.sto.next ∧ r.sto.next ≤ r.sto.off + 20) : (rdF r 1000).2.sto.next = r.sto.next ∧ (rdF r 1000).2.sto.off = r.sto.next ∧ (rdF r 1000).2.sto.win = r.sto.win ∧ (rdF r 1000).2.sto.known = r.sto.known ∧ (rdF r 1000).2.sto.fin = r.sto.fin ∧ (((rdF r 1000).1.1 : List Int).length : Int) = r.sto.next - r.sto.off ∧ (((rdF r 1000).1.2.1 : Bool) = true ↔ r.sto.known = true ∧ r.sto.fin = r.sto.next) := by
  have e : readF r.sto 1000 = ((rdB r.sto.kept r.sto.off (rdN r.sto 1000).toNat, ()), { r.sto with kept := rdK r.sto.kept r.sto.off (rdN r.sto 1000).toNat, off := r.sto.off + rdN r.sto 1000 }) := if_neg (by decide)
  have hn : rdN r.sto 1000 = r.sto.next - r.sto.off := by dsimp only [rdN]; omega
  unfold rdF
  rw [e]
  dsimp only
  rw [rdB_len, hn]
  have e2 : r.sto.off + (r.sto.next - r.sto.off) = r.sto.next := by omega
  rw [e2]
  refine ⟨rfl, rfl, rfl, rfl, rfl, by omega, ?_⟩
  rw [Bool.and_eq_true_iff, decide_eq_true_iff]
end Go.Proofs.Ytebhcmgfhkjmcaa
