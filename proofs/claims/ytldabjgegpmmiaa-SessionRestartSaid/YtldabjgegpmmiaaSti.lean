/-
  A writer's stream and a store: what a put, a read, a write, a tick, an acknowledgment do (plain; for any seat with Tick and Kv).
-/
import Derived.Test.YtldabjgegpmmiaaTick
import Derived.Test.YtldabjgegpmmiaaKv
namespace Go.Proofs.Ytldabjgegpmmiaa
set_option linter.all false
set_option linter.unusedVariables false
set_option linter.unusedSimpArgs false
set_option linter.unusedSectionVars false
open Go.RowKit Go.Sx

/-! ### the store and a stream -/
structure StI (S : Sto) (d : List Int) (top : Int) : Prop where
  win : 1 ≤ S.win ∧ S.win ≤ 1048576
  off : 0 ≤ S.off ∧ S.off ≤ S.next
  nxt : S.next ≤ S.off + S.win ∧ S.next ≤ top
  nd : (S.kept.map Prod.fst).Nodup
  rng : ∀ p ∈ S.kept, S.off ≤ p.1 ∧ p.1 < S.off + S.win ∧ p.1 < top
  val : ∀ p ∈ S.kept, d.getD p.1.toNat 0 = p.2
  ctg : ∀ k, S.off ≤ k → k < S.next → k ∈ S.kept.map Prod.fst
theorem StI.len {S : Sto} {d : List Int} {top : Int} (h : StI S d top) : S.kept.length ≤ 1048576 := by
  have h1 := nd_len S.win.toNat S.off _ h.nd (fun x hx => by
    obtain ⟨p, hp, rfl⟩ := List.mem_map.1 hx
    have := h.rng p hp
    have := h.win
    omega)
  rw [List.length_map] at h1
  have := h.win
  omega
theorem StI.pre {S : Sto} {d : List Int} {top : Int} (h : StI S d top) (ht : top ≤ 1048576) : PreS S :=
  ⟨h.win, ⟨h.off.1, by have := h.off; have := h.nxt; omega⟩, ⟨h.off.2, h.nxt.1⟩, fun p hp => (h.rng p hp).2.1, h.len⟩

/-- A part of the stream. -/
structure Part (d : List Int) (top : Int) (s : Seg) : Prop where
  lo : 0 ≤ s.1
  hi : s.1 + (s.2.1.length : Int) ≤ top
  eq : ∀ i : Nat, i < s.2.1.length → s.2.1.getD i 0 = d.getD (s.1.toNat + i) 0

theorem confl_no {K : List KV} {d dd : List Int} {o top : Int} (hv : ∀ p ∈ K, d.getD p.1.toNat 0 = p.2) (hs : Part d top (o, dd, false)) : ∀ (n : Nat) (a : Int), o ≤ a → a + n ≤ o + dd.length → confl K dd o a n = false
  | 0, _, _, _ => rfl
  | n + 1, a, h1, h2 => by
    rw [confl, if_neg]
    · exact confl_no hv hs n (a + 1) (by omega) (by omega)
    · rintro ⟨h3, h4⟩
      cases hg : getI K a with
      | none => rw [hg] at h3; cases h3
      | some v =>
        rw [hg] at h4
        have h5 := hv _ (getI_mem hg)
        have h6 := hs.eq (a - o).toNat (by show _ < dd.length; omega)
        have h7 := hs.lo
        dsimp only at h5 h6 h7
        rw [show o.toNat + (a - o).toNat = a.toNat by omega, h5] at h6
        exact h4 h6.symm
structure InsI (S : Sto) (d : List Int) (top : Int) (K : List KV) : Prop where
  nd : (K.map Prod.fst).Nodup
  rng : ∀ p ∈ K, S.off ≤ p.1 ∧ p.1 < S.off + S.win ∧ p.1 < top
  val : ∀ p ∈ K, d.getD p.1.toNat 0 = p.2
theorem ins_ok {S : Sto} {d dd : List Int} {o top : Int} (hs : Part d top (o, dd, false)) : ∀ (n : Nat) (K : List KV) (a : Int), InsI S d top K → o ≤ a → S.off ≤ a → a + n ≤ o + dd.length → a + n ≤ S.off + S.win →
    InsI S d top (ins dd o K a n) ∧ ∀ k, k ∈ K.map Prod.fst → k ∈ (ins dd o K a n).map Prod.fst
  | 0, K, a, hK, _, _, _, _ => ⟨hK, fun _ h => h⟩
  | n + 1, K, a, hK, h1, h2, h3, h4 => by
    have h6 := hs.eq (a - o).toNat (by show _ < dd.length; omega)
    have h7 := hs.lo
    have h8 := hs.hi
    dsimp only at h6 h7 h8
    rw [show o.toNat + (a - o).toNat = a.toNat by omega] at h6
    have hK' : InsI S d top (putI K a (dd.getD (a - o).toNat 0)) := ⟨putI_nd hK.nd, fun p hp => by
      rcases putI_mem p hp with rfl | hp
      · dsimp only; omega
      · exact hK.rng p hp, fun p hp => by
      rcases putI_mem p hp with rfl | hp
      · exact h6.symm
      · exact hK.val p hp⟩
    obtain ⟨h9, h10⟩ := ins_ok hs n _ (a + 1) hK' (by omega) (by omega) (by omega) (by omega)
    exact ⟨h9, fun k hk => h10 k (putI_key.2 (.inr hk))⟩
/-- A segment of the stream is taken. -/
theorem put_part {S : Sto} {d : List Int} {top : Int} (h : StI S d top) {s : Seg} (hs : Part d top s) (ht : top ≤ 1048576) (hf : S.known = true → s.1 + (s.2.1.length : Int) ≤ S.fin ∧ (s.2.2 = true → s.1 + (s.2.1.length : Int) = S.fin)) (hl : s.2.2 = true → top ≤ s.1 + (s.2.1.length : Int)) :
    (putF S s.1 s.2.1 s.2.2).1.2.1 = (0 : Int) ∧ StI (putF S s.1 s.2.1 s.2.2).2 d top ∧ (putF S s.1 s.2.1 s.2.2).2.off = S.off ∧ (putF S s.1 s.2.1 s.2.2).2.win = S.win ∧ S.next ≤ (putF S s.1 s.2.1 s.2.2).2.next ∧
      ((putF S s.1 s.2.1 s.2.2).2.known = true → (S.known = true ∧ (putF S s.1 s.2.1 s.2.2).2.fin = S.fin) ∨ (s.2.2 = true ∧ (putF S s.1 s.2.1 s.2.2).2.fin = s.1 + (s.2.1.length : Int))) := by
  obtain ⟨o, dd, l⟩ := s
  have hs' : Part d top (o, dd, false) := ⟨hs.lo, hs.hi, hs.eq⟩
  have h1 := hs.lo
  have h2 := hs.hi
  dsimp only at h1 h2 hf hl ⊢
  have hmis : mis S (o + (dd.length : Int)) l = false := by
    unfold mis
    split
    · rename_i hk
      obtain ⟨a, b⟩ := hf hk
      rw [if_neg (by omega)]
      split
      · rename_i hl'
        simp [b hl']
      · rfl
    · split
      · rename_i hl'
        rw [anyGe_nil (fun p hp => by have := (h.rng p hp).2.2; have := hl hl'; omega), if_neg (by simp)]
        have := h.off; have := h.nxt; have := hl hl'
        simp; omega
      · rfl
  have hlen : ∀ x, pFr S o ≤ x → x + (pTo S o dd - x).toNat ≤ o + dd.length ∨ (pTo S o dd - x).toNat = 0 := fun x hx => by dsimp only [pFr, pTo] at hx ⊢; omega
  have hc : confl S.kept dd o (pFr S o) (pN S o dd) = false := by
    by_cases e : pN S o dd = 0
    · rw [e]; rfl
    · exact confl_no h.val hs' _ _ (by dsimp only [pFr]; omega) (by dsimp only [pN, pFr, pTo] at e ⊢; omega)
  have hi : InsI S d top (putK S o dd) ∧ ∀ k, k ∈ S.kept.map Prod.fst → k ∈ (putK S o dd).map Prod.fst := by
    by_cases e : pN S o dd = 0
    · dsimp only [putK]; rw [e]; exact ⟨⟨h.nd, h.rng, h.val⟩, fun _ h => h⟩
    · exact ins_ok hs' _ _ _ ⟨h.nd, h.rng, h.val⟩ (by dsimp only [pFr]; omega) (by dsimp only [pFr]; omega) (by dsimp only [pN, pFr, pTo] at e ⊢; omega) (by dsimp only [pN, pFr, pTo] at e ⊢; omega)
  obtain ⟨i1, i2⟩ := hi
  obtain ⟨a1, a2, a3⟩ := adv_ok (K := putK S o dd) (S.off + S.win - S.next).toNat S.next
  have hoff := h.off
  have hnxt := h.nxt
  have hwin := h.win
  have hnx : S.next ≤ adv (putK S o dd) S.next (S.off + S.win - S.next).toNat ∧ adv (putK S o dd) S.next (S.off + S.win - S.next).toNat ≤ S.off + S.win ∧ adv (putK S o dd) S.next (S.off + S.win - S.next).toNat ≤ top := by
    refine ⟨a1, by omega, ?_⟩
    by_cases e : adv (putK S o dd) S.next (S.off + S.win - S.next).toNat = S.next
    · omega
    · obtain ⟨p, hp, hp1⟩ := List.mem_map.1 (a3 (adv (putK S o dd) S.next (S.off + S.win - S.next).toNat - 1) (by omega) (by omega))
      have := (i1.rng p hp).2.2
      omega
  have hctg : ∀ k, S.off ≤ k → k < adv (putK S o dd) S.next (S.off + S.win - S.next).toNat → k ∈ (putK S o dd).map Prod.fst := by
    intro k hk1 hk2
    by_cases e : k < S.next
    · exact i2 k (h.ctg k hk1 e)
    · exact a3 k (by omega) hk2
  unfold putF
  rw [if_neg (by omega), if_neg (by omega), if_neg (by rw [hmis]; exact Bool.false_ne_true), if_neg (by rw [hc]; exact Bool.false_ne_true)]
  by_cases e : l = true
  · rw [if_pos e]
    exact ⟨rfl, ⟨hwin, ⟨hoff.1, by dsimp only; omega⟩, ⟨hnx.2.1, hnx.2.2⟩, i1.nd, i1.rng, i1.val, hctg⟩, rfl, rfl, hnx.1, fun _ => .inr ⟨e, rfl⟩⟩
  · rw [if_neg e]
    exact ⟨rfl, ⟨hwin, ⟨hoff.1, by dsimp only; omega⟩, ⟨hnx.2.1, hnx.2.2⟩, i1.nd, i1.rng, i1.val, hctg⟩, rfl, rfl, hnx.1, fun hk => .inl ⟨hk, rfl⟩⟩
theorem rdK_ok {S : Sto} {d : List Int} {top : Int} : ∀ (n : Nat) (K : List KV) (a : Int), (K.map Prod.fst).Nodup → (∀ p ∈ K, a ≤ p.1 ∧ p.1 < S.off + S.win ∧ p.1 < top) → (∀ p ∈ K, d.getD p.1.toNat 0 = p.2) → (∀ k, a ≤ k → k < a + n → k ∈ K.map Prod.fst) → 0 ≤ a →
    ((rdK K a n).map Prod.fst).Nodup ∧ (∀ p ∈ rdK K a n, a + n ≤ p.1 ∧ p.1 < S.off + S.win ∧ p.1 < top) ∧ (∀ p ∈ rdK K a n, d.getD p.1.toNat 0 = p.2) ∧ (∀ k, a + n ≤ k → k ∈ K.map Prod.fst → k ∈ (rdK K a n).map Prod.fst) ∧ ∀ i : Nat, i < n → (rdB K a n).getD i 0 = d.getD (a.toNat + i) 0
  | 0, K, a, h1, h2, h3, _, _ => ⟨h1, fun p hp => by have := h2 p hp; simp; exact this, h3, fun _ _ h => h, fun i hi => by omega⟩
  | n + 1, K, a, h1, h2, h3, h4, h0 => by
    have k1 : ((delI K a).map Prod.fst).Nodup := h1.sublist delI_sub
    have k2 : ∀ p ∈ delI K a, a + 1 ≤ p.1 ∧ p.1 < S.off + S.win ∧ p.1 < top := fun p hp => by
      have := h2 p (delI_mem p hp)
      have h5 := ((delI_key h1).1 (List.mem_map.2 ⟨p, hp, rfl⟩)).1
      omega
    obtain ⟨r1, r2, r3, r4, r5⟩ := rdK_ok n (delI K a) (a + 1) k1 k2 (fun p hp => h3 p (delI_mem p hp)) (fun k hk1 hk2 => (delI_key h1).2 ⟨by omega, h4 k (by omega) (by omega)⟩) (by omega)
    have e : a + ((n + 1 : Nat) : Int) = a + 1 + (n : Int) := by omega
    refine ⟨r1, fun p hp => by rw [e]; exact r2 p hp, r3, fun k hk1 hk2 => r4 k (by omega) ((delI_key h1).2 ⟨by omega, hk2⟩), fun i hi => ?_⟩
    cases i with
    | zero =>
      show ((getI K a).getD 0 :: rdB (delI K a) (a + 1) n).getD 0 0 = _
      cases hg : getI K a with
      | none =>
        have := getI_some (h4 a (Int.le_refl _) (by omega))
        rw [hg] at this; cases this
      | some v => exact (h3 _ (getI_mem hg)).symm
    | succ i =>
      show (rdB (delI K a) (a + 1) n).getD i 0 = _
      rw [r5 i (by omega), show (a + 1).toNat + i = a.toNat + (i + 1) by omega]
/-- What is read is the next part of the stream. -/
theorem read_part {S : Sto} {d : List Int} {top : Int} (h : StI S d top) (ht : top ≤ d.length) (m : Int) :
    StI (readF S m).2 d top ∧ S.off ≤ (readF S m).2.off ∧ (readF S m).2.next = S.next ∧ (readF S m).2.win = S.win ∧ (readF S m).2.known = S.known ∧ (readF S m).2.fin = S.fin ∧
      d.take S.off.toNat ++ (readF S m).1.1 = d.take (readF S m).2.off.toNat := by
  unfold readF
  split
  · exact ⟨h, Int.le_refl _, rfl, rfl, rfl, rfl, List.append_nil _⟩
  · have hoff := h.off
    have hnx := h.nxt
    have hn : 0 ≤ rdN S m ∧ rdN S m ≤ S.next - S.off := by dsimp only [rdN]; omega
    obtain ⟨r1, r2, r3, r4, r5⟩ := rdK_ok (S := S) (d := d) (top := top) (rdN S m).toNat S.kept S.off h.nd h.rng h.val (fun k h1 h2 => h.ctg k h1 (by omega)) hoff.1
    refine ⟨⟨h.win, ⟨by dsimp only; omega, by dsimp only; omega⟩, ⟨by dsimp only; omega, hnx.2⟩, r1, fun p hp => by have := r2 p hp; dsimp only; omega, r3, fun k h1 h2 => r4 k (by dsimp only at h1; omega) (h.ctg k (by dsimp only at h1; omega) h2)⟩, by dsimp only; omega, rfl, rfl, rfl, rfl, ?_⟩
    have hl := rdB_len S.kept S.off (rdN S m).toNat
    have e := list_eq_take (l := rdB S.kept S.off (rdN S m).toNat) (d := d) (a := S.off.toNat) (fun i hi => r5 i (by omega)) (by omega)
    show d.take S.off.toNat ++ rdB S.kept S.off (rdN S m).toNat = d.take (S.off + rdN S m).toNat
    rw [e, hl, show (S.off + rdN S m).toNat = S.off.toNat + (rdN S m).toNat by omega, List.take_add]

/-- The stream grows at its end; the highest sent offset grows. -/
theorem Part.grow {d e : List Int} {top top' : Int} {s : Seg} (h : Part d top s) (ht : top ≤ top') (hd : top ≤ d.length) : Part (d ++ e) top' s :=
  ⟨h.lo, by have := h.hi; omega, fun i hi => by
    rw [h.eq i hi]
    have := h.hi; have := h.lo
    rw [List.getD_eq_getElem?_getD, List.getD_eq_getElem?_getD, List.getElem?_append_left (by omega)]⟩
theorem StI.grow {S : Sto} {d e : List Int} {top top' : Int} (h : StI S d top) (ht : top ≤ top') (hd : top ≤ d.length) : StI S (d ++ e) top' :=
  ⟨h.win, h.off, ⟨h.nxt.1, by have := h.nxt; omega⟩, h.nd, fun p hp => by have := h.rng p hp; omega, fun p hp => by
    have h1 := h.rng p hp
    have h2 := h.off
    rw [← h.val p hp, List.getD_eq_getElem?_getD, List.getD_eq_getElem?_getD, List.getElem?_append_left (by omega)], h.ctg⟩

theorem part_of {d : List Int} {top a : Int} {n : Nat} {l : Bool} (h0 : 0 ≤ a) (h1 : a + n ≤ top) (h2 : a + n ≤ d.length) : Part d top (a, (d.drop a.toNat).take n, l) := by
  have hl : ((d.drop a.toNat).take n).length = n := by rw [List.length_take, List.length_drop]; omega
  refine ⟨h0, by dsimp only; omega, fun i hi => ?_⟩
  dsimp only at hi ⊢
  rw [List.getD_eq_getElem?_getD, List.getD_eq_getElem?_getD, List.getElem?_take_of_lt (by omega), List.getElem?_drop]

theorem writeW_ok {W : Wri} (h : OkW W) (l : List Int) : (W.closed = true ∧ writeF W l = ((0, 13, ()), W)) ∨ (W.closed = false ∧ ∃ n : Int, 0 ≤ n ∧ n ≤ l.length ∧ writeF W l = ((n, 0, ()), { W with data := W.data ++ l.take n.toNat, taken := W.taken + n }) ∧ OkW { W with data := W.data ++ l.take n.toNat, taken := W.taken + n }) := by
  obtain ⟨⟨h1, h2⟩, ⟨h3, h4⟩, h5, h6, h7, h8, ⟨h9, h10⟩, ⟨h11, h12⟩, ⟨h13, h14⟩, h15, h16⟩ := id h
  unfold writeF
  split
  · rename_i hc
    exact .inl ⟨hc, rfl⟩
  · rename_i hc
    have hn : 0 ≤ wWrite W l ∧ wWrite W l ≤ l.length ∧ wWrite W l ≤ W.win - (W.taken - W.base) ∧ wWrite W l ≤ 1048576 - W.taken := by unfold wWrite; omega
    refine .inr ⟨by simpa using hc, wWrite W l, hn.1, hn.2.1, rfl, ⟨⟨h1, h2⟩, ⟨h3, h4⟩, h5, ?_, by dsimp only; omega, by dsimp only; omega, ⟨h9, by dsimp only; omega⟩, ⟨h11, by dsimp only; omega⟩, ⟨h13, h14⟩, h15, h16⟩⟩
    dsimp only
    rw [List.length_append, List.length_take]
    omega
/-- What a tick does to a writer whose bytes are the stream's from base on. -/
structure TickOk (W : Wri) (d : List Int) (m : Int) (t : TickR) : Prop where
  ok : OkW t.2
  same : t.2.data = W.data ∧ t.2.taken = W.taken ∧ t.2.base = W.base ∧ t.2.room = W.room ∧ t.2.closed = W.closed ∧ t.2.win = W.win
  top : W.top ≤ t.2.top
  mkd : W.marked = true → t.2.marked = true
  seg : (t.1.2.1 : Bool) = true → Part d t.2.top t.1.1 ∧ ((t.1.1.2.2 : Bool) = true → W.closed = true ∧ t.2.marked = true ∧ (t.1.1.1 : Int) + ((t.1.1.2.1 : List Int).length : Int) = W.taken) ∧
    W.base ≤ (t.1.1.1 : Int) ∧ ((t.1.1.2.1 : List Int).length : Int) ≤ max m 0 ∧ (0 < (t.1.1.2.1 : List Int).length → (t.1.1.1 : Int) + ((t.1.1.2.1 : List Int).length : Int) ≤ W.base + W.room)
theorem tickI_fact {W : Wri} {d : List Int} (h : OkW W) (tk : W.taken = d.length) (m : Int) : TickOk W d m (tickIdle W) := by
  obtain ⟨⟨h1, h2⟩, ⟨h3, h4⟩, h5, h6, h7, h8, ⟨h9, h10⟩, ⟨h11, h12⟩, ⟨h13, h14⟩, h15, h16⟩ := id h
  unfold tickIdle
  split
  · exact ⟨⟨⟨h1, h2⟩, ⟨h3, h4⟩, h5, h6, h7, h8, ⟨h9, h10⟩, ⟨h11, h12⟩, ⟨h13, h14⟩, by dsimp only; omega, by dsimp only; omega⟩, ⟨rfl, rfl, rfl, rfl, rfl, rfl⟩, Int.le_refl _, id, fun hh => by cases hh⟩
  split
  · exact ⟨⟨⟨h1, h2⟩, ⟨h3, h4⟩, h5, h6, h7, h8, ⟨Int.le_refl _, by dsimp only; omega⟩, ⟨by dsimp only; omega, h12⟩, ⟨h13, h14⟩, Int.le_refl _, by dsimp only; omega⟩, ⟨rfl, rfl, rfl, rfl, rfl, rfl⟩, Int.le_refl _, id, fun hh => by cases hh⟩
  split
  · exact ⟨⟨⟨h1, h2⟩, ⟨h3, h4⟩, h5, h6, h7, h8, ⟨Int.le_refl _, by dsimp only; omega⟩, ⟨by dsimp only; omega, h12⟩, ⟨h13, h14⟩, Int.le_refl _, by dsimp only; omega⟩, ⟨rfl, rfl, rfl, rfl, rfl, rfl⟩, Int.le_refl _, id, fun hh => by cases hh⟩
  · refine ⟨⟨⟨h1, h2⟩, ⟨h3, h4⟩, h5, h6, h7, h8, ⟨h9, h10⟩, ⟨h11, h12⟩, ⟨h13, h14⟩, Int.le_refl _, by dsimp only; omega⟩, ⟨rfl, rfl, rfl, rfl, rfl, rfl⟩, Int.le_refl _, id, fun _ => ⟨⟨h5, ?_, fun i hi => ?_⟩, fun hh => (by cases hh), Int.le_refl _, ?_, fun hh => ?_⟩⟩
    · show W.base + ((([] : List Int).length : Nat) : Int) ≤ W.top
      simp; omega
    · exact absurd hi (Nat.not_lt_zero i)
    · show ((([] : List Int).length : Nat) : Int) ≤ max m 0
      simp; omega
    · exact absurd hh (Nat.lt_irrefl 0)
theorem tickB_fact {W : Wri} {d : List Int} (h : OkW W) (tk : W.taken = d.length) (m : Int) : TickOk W d m (tickB W) := by
  have hi := tickI_fact h tk m
  have none : TickOk W d m (((0, [], false), false, ()), W) := ⟨h, ⟨rfl, rfl, rfl, rfl, rfl, rfl⟩, Int.le_refl _, id, fun hh => by cases hh⟩
  unfold tickB
  (repeat' split) <;> first | exact hi | exact none
theorem send_fact {W : Wri} {d : List Int} (h : OkW W) (tk : W.taken = d.length) (wd : W.data = d.drop W.base.toNat) {m n : Int} (l : Bool) (hn : 0 ≤ n) (hn2 : n ≤ W.taken - W.next) (hm : n ≤ max m 0) (hr : 0 < n → W.next + n ≤ W.base + W.room) (hl : l = true → W.closed = true ∧ W.next + n = W.taken) :
    TickOk W d m ((segW W n l, true, ()), sendW W n l) := by
  obtain ⟨⟨h1, h2⟩, ⟨h3, h4⟩, h5, h6, h7, h8, ⟨h9, h10⟩, ⟨h11, h12⟩, ⟨h13, h14⟩, h15, h16⟩ := id h
  have e : (W.data.drop (W.next - W.base).toNat).take n.toNat = (d.drop W.next.toNat).take n.toNat := by
    rw [wd, List.drop_drop]; congr 2; omega
  have hlen : ((d.drop W.next.toNat).take n.toNat).length = n.toNat := by rw [List.length_take, List.length_drop]; omega
  refine ⟨⟨⟨h1, h2⟩, ⟨h3, h4⟩, h5, h6, h7, h8, ⟨by dsimp only [sendW]; omega, by dsimp only [sendW]; omega⟩, ⟨by dsimp only [sendW]; omega, by dsimp only [sendW]; omega⟩, ⟨h13, h14⟩, Int.le_refl _, by dsimp only [sendW]; omega⟩, ⟨rfl, rfl, rfl, rfl, rfl, rfl⟩, by dsimp only [sendW]; omega, fun hh => ?_, fun _ => ?_⟩
  · show (if l = true then true else W.marked) = true
    split
    · rfl
    · exact hh
  · dsimp only [segW, sendW]
    rw [e]
    refine ⟨part_of (by omega) (by omega) (by omega), fun hh => ⟨(hl hh).1, ?_, ?_⟩, h9, ?_, fun hp => ?_⟩
    · rw [if_pos hh]
    · show W.next + (((d.drop W.next.toNat).take n.toNat).length : Int) = W.taken
      rw [hlen]; have := (hl hh).2; omega
    · show (((d.drop W.next.toNat).take n.toNat).length : Int) ≤ max m 0
      rw [hlen]; omega
    · have hp : 0 < ((d.drop W.next.toNat).take n.toNat).length := hp
      rw [hlen] at hp
      show W.next + (((d.drop W.next.toNat).take n.toNat).length : Int) ≤ W.base + W.room
      rw [hlen]; have := hr (by omega); omega
theorem tickA_fact {W : Wri} {d : List Int} (h : OkW W) (tk : W.taken = d.length) (wd : W.data = d.drop W.base.toNat) (m : Int) : TickOk W d m (tickA W) := by
  have hi := tickB_fact h tk m
  unfold tickA
  split
  · rename_i hc
    split
    · rename_i hn
      split
      · split
        · exact send_fact h tk wd true (Int.le_refl _) (by omega) (by omega) (fun hh => absurd hh (Int.lt_irrefl 0)) (fun _ => ⟨hc, by omega⟩)
        · exact hi
      · exact hi
    · exact hi
  · exact hi
theorem tick_fact {W : Wri} {d : List Int} (h : OkW W) (tk : W.taken = d.length) (wd : W.data = d.drop W.base.toNat) (m : Int) : TickOk W d m (tick W m) := by
  have hi := tickA_fact h tk wd m
  unfold tick
  split
  · exact ⟨h, ⟨rfl, rfl, rfl, rfl, rfl, rfl⟩, Int.le_refl _, id, fun hh => by cases hh⟩
  split
  · split
    · rename_i h0 ha hb
      have hn : 0 ≤ tickN W m ∧ tickN W m ≤ W.taken - W.next ∧ tickN W m ≤ max m 0 ∧ W.next + tickN W m ≤ W.base + W.room := by dsimp only [tickN]; omega
      split
      · rename_i hc
        split
        · rename_i hl; exact send_fact h tk wd true hn.1 hn.2.1 hn.2.2.1 (fun _ => hn.2.2.2) (fun _ => ⟨hc, hl⟩)
        · exact send_fact h tk wd false hn.1 hn.2.1 hn.2.2.1 (fun _ => hn.2.2.2) (fun hh => by cases hh)
      · exact send_fact h tk wd false hn.1 hn.2.1 hn.2.2.1 (fun _ => hn.2.2.2) (fun hh => by cases hh)
    · exact hi
  · exact hi
theorem ackM_ok {W : Wri} (h : OkW W) {o r : Int} {d : Bool} (h0 : 0 ≤ o) (h1 : o ≤ W.top) (r0 : 0 ≤ r) (r1 : r ≤ 1048576) : ((ackM W o r d).1.1 : Int) = 0 ∧ OkW (ackM W o r d).2 ∧ (ackM W o r d).2.taken = W.taken ∧ (ackM W o r d).2.top = W.top ∧ (ackM W o r d).2.closed = W.closed ∧ (ackM W o r d).2.marked = W.marked ∧
    (ackM W o r d).2.base = max W.base o ∧ (ackM W o r d).2.data = W.data.drop (max W.base o - W.base).toNat ∧ (ackM W o r d).2.base + (ackM W o r d).2.room = (if W.base < o then o + r else if W.base = o then max (W.base + W.room) (o + r) else W.base + W.room) := by
  obtain ⟨⟨h1, h2⟩, ⟨h3, h4⟩, h5, h6, h7, h8, ⟨h9, h10⟩, ⟨h11, h12⟩, ⟨h13, h14⟩, h15, h16⟩ := id h
  unfold ackM
  split
  · rename_i c
    refine ⟨rfl, h, rfl, rfl, rfl, rfl, by dsimp only; omega, ?_, ?_⟩
    · rw [show (max W.base o - W.base).toNat = 0 by omega, List.drop_zero]
    · rw [if_neg (by omega), if_neg (by omega)]
  split
  · rename_i c
    refine ⟨rfl, ⟨⟨h1, h2⟩, ⟨h3, h4⟩, h5, h6, h7, h8, ⟨h9, h10⟩, ⟨h11, h12⟩, ⟨by dsimp only; omega, by dsimp only; omega⟩, h15, h16⟩, rfl, rfl, rfl, rfl, by dsimp only; omega, ?_, ?_⟩
    · rw [show (max W.base o - W.base).toNat = 0 by omega, List.drop_zero]
    · rw [if_neg (by omega), if_pos (by omega)]; dsimp only; omega
  · have e : (W.data.drop (o - W.base).toNat).length = W.data.length - (o - W.base).toNat := List.length_drop ..
    refine ⟨rfl, ⟨⟨h1, h2⟩, ⟨h3, h4⟩, h0, by dsimp only; omega, by dsimp only; omega, h8, ⟨by dsimp only; omega, by dsimp only; omega⟩, ⟨by dsimp only; omega, h12⟩, ⟨r0, r1⟩, Int.le_refl _, by dsimp only; omega⟩, rfl, rfl, rfl, rfl, by dsimp only; omega, ?_, ?_⟩
    · rw [show max W.base o = o by omega]
    · rw [if_pos (by omega)]
end Go.Proofs.Ytldabjgegpmmiaa
