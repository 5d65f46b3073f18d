/-
  Layer 48: everything goes along (plain).
-/
import Derived.Test.YtgdiepbjdpmfbaaMfp
namespace Go.Proofs.Ytgdiepbjdpmfbaa
set_option linter.all false
set_option linter.unusedVariables false
set_option linter.unusedSimpArgs false
set_option linter.unusedSectionVars false
open Go.RowKit Go.Sx

theorem read_offQ (T : Sto) (m : Int) : (readF T m).2.off = T.off + rdQ T m := by
  by_cases c : m < 1
  · have e : readF T m = (([], ()), T) := by unfold readF; rw [if_pos c]
    dsimp only [rdQ]; rw [e, if_pos c, Int.add_zero]
  · have e : (readF T m).2 = { T with kept := rdK T.kept T.off (rdN T m).toNat, off := T.off + rdN T m } := by unfold readF; rw [if_neg c]
    dsimp only [rdQ]; rw [e, if_neg c]
theorem read_lenQ (T : Sto) (m : Int) : ((readF T m).1.1 : List Int).length = (rdQ T m).toNat := by
  by_cases c : m < 1
  · have e : readF T m = (([], ()), T) := by unfold readF; rw [if_pos c]
    dsimp only [rdQ]; rw [e, if_pos c]; rfl
  · dsimp only [rdQ]; rw [if_neg c]
    unfold readF; rw [if_neg c]
    show (rdB T.kept T.off (rdN T m).toNat).length = _
    rw [rdB_len]
theorem put_off (S : Sto) (o : Int) (d : List Int) (l : Bool) : (putF S o d l).2.off = S.off := by
  rcases put_cases S o d l with ⟨_, e⟩ | ⟨_, _, e⟩ | h
  · rw [e]
  · rw [e]
  · rw [put_ok_eq h]
def CovL (l : List Seg) (k : Int) : Prop := ∃ s ∈ l, s.1 ≤ k ∧ k < s.1 + (s.2.1.length : Int)
theorem rdTo_cov {l : List Seg} {T : Sto} {n k : Int} (h : (T.off ≤ k ∧ k < T.off + n ∧ rdQ T n = n) ∨ CovL l k) : CovL (rdTo l T n).1 k := by
  unfold rdTo
  split
  · rename_i hn
    rcases h with ⟨h1, h2, h3⟩ | ⟨s, hs, h⟩
    · refine ⟨(T.off, (readF T n).1.1, false), List.mem_append.2 (.inr (List.mem_singleton.2 rfl)), h1, ?_⟩
      show k < T.off + (((readF T n).1.1 : List Int).length : Int)
      rw [read_lenQ, h3]; omega
    · exact ⟨s, List.mem_append.2 (.inl hs), h⟩
  · rename_i hn
    rcases h with h | h
    · omega
    · exact h
theorem runs_cov {S : Sto} (h : PreR S) {k : Int} (hk : getI S.kept k ≠ none) : CovL (runsF S).1 k := by
  have hkS : k ∈ keysS S := keysS_mem.2 hk
  have hoff : S.off ≤ k := (keysS_rng h.ok hkS).1
  obtain ⟨gp, gk⟩ := gapP h.ok
  have key : ∀ (m : Nat) (x : LR S), ((gapsL S).length - x.i).toNat = m → (k < x.T.off → CovL x.l k) → CovL (runsF S).1 k := by
    intro m
    induction m with
    | zero =>
      intro x hm hl
      rw [← ru_done x (by omega)]
      by_cases c : k < x.T.off
      · exact rdTo_cov (.inr (hl c))
      · have hxo := x.cut.off
        have hall : ∀ j, getI x.T.kept j ≠ none → ∀ i, x.T.off ≤ i → i ≤ j → getI x.T.kept i ≠ none := by
          intro j hj i i1 i2
          have hj2 : getI S.kept j ≠ none := by
            have h9 := hj
            rw [x.cut.get] at h9
            split at h9
            · exact h9
            · exact absurd rfl h9
          have hjk := gk j (keysS_mem.2 hj2)
          rw [x.cut.get, if_pos i1]
          rcases gp.cov i (by omega) (by omega) with h1 | ⟨g, h1, h2, h3⟩
          · exact keysS_mem.1 h1
          · have hli := x.hi
            have := x.bef g (by rw [List.take_of_length_le (by omega)]; exact h1)
            omega
        have hnx : ∀ j, getI x.T.kept j ≠ none → j < x.T.next := by
          intro j hj
          rcases Int.lt_or_le j x.T.next with h1 | h1
          · exact h1
          · exact absurd (get_none.2 x.cut.ok.non) (hall j hj _ x.cut.ok.off.2 h1)
        have ho2 := x.cut.ok.off
        have hr := keys_range x.cut.ok (n := (x.T.next - x.T.off).toNat) (fun j => by
          constructor
          · intro hj
            have h1 := hnx j hj
            cases e : getI x.T.kept j with
            | none => exact absurd e hj
            | some v =>
              have h2 := (x.cut.ok.rng _ (getI_mem e)).1
              dsimp only at h2
              exact ⟨h2, by omega⟩
          · rintro ⟨j1, j2⟩
            obtain ⟨v, hv⟩ := get_mem.1 (x.cut.ok.ctg j j1 (by omega))
            rw [hv]; exact fun h => by cases h)
        have hlen := hr.2
        have hkx := hnx k (by rw [x.cut.get, if_pos (by omega)]; exact hk)
        refine rdTo_cov (.inl ⟨by omega, by omega, ?_⟩)
        dsimp only [rdQ]
        split <;> omega
    | succ m ih =>
      intro x hm hl
      have hlo := x.lo
      have hlt : x.i.toNat < (gapsL S).length := by omega
      have eg : gAt S x.i = (gapsL S)[x.i.toNat] := by rw [gAt, List.getD_eq_getElem?_getD, List.getElem?_eq_getElem hlt]; rfl
      have hgm : gAt S x.i ∈ gapsL S := by rw [eg]; exact List.getElem_mem hlt
      have hgn := (gp.el _ hgm).2.2.2
      have F := ruF h x (by omega)
      have hcv : k < (gAt S x.i).1 → CovL (rdTo x.l x.T ((gAt S x.i).1 - x.T.off)).1 k := by
        intro h1
        by_cases c : k < x.T.off
        · exact rdTo_cov (.inr (hl c))
        · refine rdTo_cov (.inl ⟨by omega, by omega, ?_⟩)
          have ho := F.off
          rw [rd_pos (by omega)] at ho
          have ho : (readF x.T ((gAt S x.i).1 - x.T.off)).2.off = (gAt S x.i).1 := ho
          rw [read_offQ] at ho
          omega
      by_cases c : ((rdTo x.l x.T ((gAt S x.i).1 - x.T.off)).2.kept.length : Int) = 0
      · have hlt2 : k < (gAt S x.i).1 := by
          rcases Int.lt_or_le k (gAt S x.i).1 with h1 | h1
          · exact h1
          · have h2 := F.cut.get k
            rw [F.off, if_pos h1, List.length_eq_zero_iff.1 (show (rdTo x.l x.T ((gAt S x.i).1 - x.T.off)).2.kept.length = 0 by omega)] at h2
            exact absurd h2.symm hk
        have := hcv hlt2
        rwa [F.end_ c] at this
      · obtain ⟨y, y1, y2, y3⟩ := F.nx c
        refine ih y (by omega) fun hy => ?_
        rw [y2]
        refine hcv ?_
        rcases Int.lt_or_le k (gAt S x.i).1 with h1 | h1
        · exact h1
        · exfalso
          rw [y3, read_offQ, put_off, F.off] at hy
          have hgg := F.gg
          refine hgn k h1 ?_ hkS
          dsimp only [rdQ] at hy
          split at hy <;> omega
  obtain ⟨x0, _, _, hx2⟩ := lr0 h.ok
  exact key _ x0 rfl (by rw [hx2]; intro hh; omega)
theorem close_cov {l : List Seg} {e k : Int} (h : CovL l k) : CovL (closeL l e) k := by
  unfold closeL
  obtain ⟨s, hs, h1⟩ := h
  split
  · rename_i hc
    obtain ⟨i, hi, rfl⟩ := List.mem_iff_getElem.1 hs
    by_cases c : i = ((l.length : Int) - 1).toNat
    · refine ⟨((l.getD ((l.length : Int) - 1).toNat (0, [], false)).1, (l.getD ((l.length : Int) - 1).toNat (0, [], false)).2.1, true), ?_, ?_⟩
      · exact List.mem_set (by omega) _
      · rw [← c, List.getD_eq_getElem?_getD, List.getElem?_eq_getElem hi]; exact h1
    · refine ⟨l[i], ?_, h1⟩
      refine List.mem_iff_getElem.2 ⟨i, by rw [List.length_set]; exact hi, ?_⟩
      rw [List.getElem_set_ne (by omega)]
  · exact ⟨s, List.mem_append.2 (.inl hs), h1⟩
theorem hand_cov {a : Sto} (h : PreR a) {k : Int} (hk : getI a.kept k ≠ none) : CovL (handL a) k := by
  unfold handL
  split
  · exact close_cov (runs_cov h hk)
  · exact runs_cov h hk
/-- Byte k has been read or is kept. -/
def hasK (S : Sto) (k : Int) : Prop := k < S.off ∨ getI S.kept k ≠ none
theorem hasK_put {S : Sto} {d : List Int} (h : Fits S d) {s : Seg} (hs : IsPart d s) (hd : d.length ≤ 1048576) (hw : (d.length : Int) ≤ S.win) {k : Int} (hk : hasK S k ∨ (s.1 ≤ k ∧ k < s.1 + (s.2.1.length : Int))) : hasK (putF S s.1 s.2.1 s.2.2).2 k := by
  rw [put_ok_eq (fits_ok h hs hd)]
  show k < S.off ∨ getI (putK S s.1 s.2.1) k ≠ none
  rw [get_put]
  have he := hs.e; have hoff := h.ok.off
  by_cases c : k < S.off
  · exact .inl c
  · refine .inr ?_
    split
    · exact fun h => by cases h
    · rename_i hn
      rcases hk with hk | hk
      · rcases hk with hk | hk
        · exact absurd hk c
        · exact hk
      · exfalso
        apply hn
        dsimp only [pFr, pTo]
        omega
theorem hasK_puts {d : List Int} (hd : d.length ≤ 1048576) (hb : inBytes d) : ∀ (L : List Seg) (B : Sto), Fits B d → (d.length : Int) ≤ B.win → (∀ s ∈ L, IsPart d s) → ∀ k, hasK B k ∨ CovL L k → hasK (putsL B L) k
  | [], B, h, hw, hL, k, hk => by
    rcases hk with hk | ⟨s, hs, _⟩
    · exact hk
    · cases hs
  | s :: r, B, h, hw, hL, k, hk => by
    have hs := hL s (List.mem_cons_self ..)
    obtain ⟨_, p2, p3, p4⟩ := putF_part h hs hd hb
    refine hasK_puts hd hb r _ p2 (by rw [p3]; exact hw) (fun x hx => hL x (List.mem_cons_of_mem _ hx)) k ?_
    rcases hk with hk | ⟨t, ht, hk⟩
    · exact .inl (hasK_put h hs hd hw (.inl hk))
    · rcases List.mem_cons.1 ht with rfl | ht
      · exact .inl (hasK_put h hs hd hw (.inr hk))
      · exact .inr ⟨t, ht, hk⟩
theorem hasK_read {S : Sto} {d : List Int} (h : Fits S d) (m : Int) {k : Int} (hk : hasK S k) : hasK (readF S m).2 k := by
  obtain ⟨_, r2, r3, _⟩ := fits_read h m
  by_cases c : k < (readF S m).2.off
  · exact .inl c
  · refine .inr ?_
    by_cases hm : m < 1
    · have e : readF S m = (([], ()), S) := by unfold readF; rw [if_pos hm]
      rw [e] at c ⊢
      rcases hk with hk | hk
      · exact absurd hk c
      · exact hk
    · have e : (readF S m).2 = { S with kept := rdK S.kept S.off (rdN S m).toNat, off := S.off + rdN S m } := by unfold readF; rw [if_neg hm]
      rw [e] at c ⊢
      have c : ¬ k < S.off + rdN S m := c
      have ho := h.ok.off
      have hr : 0 ≤ rdN S m := by dsimp only [rdN]; omega
      show getI (rdK S.kept S.off (rdN S m).toNat) k ≠ none
      rw [get_rdK h.ok.nd, if_neg (by omega)]
      rcases hk with hk | hk
      · omega
      · exact hk
/-- All that is there is read. -/
theorem read_all {S : Sto} {d : List Int} (h : Fits S d) (hk : ∀ k : Int, 0 ≤ k → k < d.length → hasK S k) {m : Int} (hm : (d.length : Int) ≤ m) : d.take S.off.toNat ++ ((readF S m).1.1 : List Int) = d := by
  have hn : S.next = d.length := by
    refine next_eq h.ok h.off (fun k k1 k2 => ?_) ?_
    · rcases hk k (by have := h.ok.off; omega) k2 with h1 | h1
      · omega
      · exact h1
    · cases e : getI S.kept d.length with
      | none => rfl
      | some v => have := (h.val _ _ e).1; omega
  obtain ⟨_, _, r3, _⟩ := fits_read h m
  rw [take_read h m, r3]
  have ho := h.off; have ho2 := h.ok.off
  have e : S.off + rdM S m = d.length := by dsimp only [rdM, rdN]; rw [hn]; omega
  rw [e, Int.toNat_natCast, List.take_length]

/-! ### a moving end -/
def hasM (M : Mov) (k : Int) : Prop := match M.ph with
  | .old => hasK M.a k
  | .drain => hasK M.b k ∨ getI M.a.kept k ≠ none
  | .moved => hasK M.b k
structure CovM (M : Mov) (d : List Int) (w : Int) (H : List Bool) : Prop where
  fit : FitM M d w
  len : H.length = d.length
  has : ∀ k : Nat, H.getD k false = true → hasM M k
  ord : M.ph = .drain → M.a.off ≤ M.b.off
theorem covM_new {d : List Int} {w : Int} (h1 : 1 ≤ w) (h2 : w ≤ 1000) : CovM (newM w) d w (List.replicate d.length false) :=
  ⟨(fitM_new h1 h2).1, List.length_replicate, fun k hk => (by
    rw [List.getD_eq_getElem?_getD, List.getElem?_replicate] at hk
    split at hk
    · cases hk
    · cases hk), fun h => (by cases h)⟩
theorem c_rcv {M : Mov} {d : List Int} {w p : Int} {s : Seg} {H H' : List Bool} (h : CovM M d w H) (hs : IsPart d s) (hd : d.length ≤ 1048576) (hb : inBytes d) (hw : (d.length : Int) ≤ w) (hp : p = 0 ∨ p = 1)
    (hl : H'.length = d.length) (hH : ∀ k : Nat, H'.getD k false = true → (s.1 ≤ (k : Int) ∧ (k : Int) < s.1 + (s.2.1.length : Int)) ∨ H.getD k false = true) (ha : accB M p = true) : CovM (rcvM M p s).2 d w H' ∧ (rcvM M p s).2.ph = M.ph ∧ rdO (rcvM M p s).2 = rdO M ∧ ((rcvM M p s).1.1 : Int) = 0 := by
  obtain ⟨f1, f2, f3⟩ := m_rcv h.fit hs hd hb hp
  rw [if_pos ha] at f2
  obtain ⟨hf, hlen, hh, ho⟩ := h
  obtain ⟨mw, ph, a, b⟩ := M
  cases ph
  · obtain ⟨ha1, ha2⟩ := hf.a (fun e => by cases e)
    rcases hp with rfl | rfl
    · refine ⟨⟨f1.f, hl, fun k hk => ?_, fun e => by cases e⟩, rfl, f1.o, f2⟩
      exact hasK_put ha1 hs hd (by have ha2 : a.win = w := ha2; rw [ha2]; exact hw) ((hH k hk).elim .inr fun h1 => .inl (hh k h1))
    · cases ha
  · obtain ⟨ha1, ha2⟩ := hf.a (fun e => by cases e)
    obtain ⟨hb1, hb2⟩ := hf.b (fun e => by cases e)
    have ho1 : a.off ≤ b.off := ho rfl
    rcases hp with rfl | rfl
    · refine ⟨⟨f1.f, hl, fun k hk => ?_, fun _ => ?_⟩, rfl, f1.o, f2⟩
      · show hasK b k ∨ getI (putF a s.1 s.2.1 s.2.2).2.kept k ≠ none
        have h9 : hasK a k ∨ (s.1 ≤ (k : Int) ∧ (k : Int) < s.1 + (s.2.1.length : Int)) ∨ hasK b k := by
          rcases hH k hk with h1 | h1
          · exact .inr (.inl h1)
          · rcases hh k h1 with h2 | h2
            · exact .inr (.inr h2)
            · exact .inl (.inr h2)
        rcases h9 with h1 | h1 | h1
        · rcases hasK_put ha1 hs hd (by have ha2 : a.win = w := ha2; rw [ha2]; exact hw) (.inl h1) with h2 | h2
          · rw [put_off] at h2; dsimp only at h2; exact .inl (.inl (by omega))
          · exact .inr h2
        · rcases hasK_put ha1 hs hd (by have ha2 : a.win = w := ha2; rw [ha2]; exact hw) (.inr h1) with h2 | h2
          · rw [put_off] at h2; dsimp only at h2; exact .inl (.inl (by omega))
          · exact .inr h2
        · exact .inl h1
      · show (putF a s.1 s.2.1 s.2.2).2.off ≤ b.off
        rw [put_off]; exact ho1
    · refine ⟨⟨f1.f, hl, fun k hk => ?_, fun _ => ?_⟩, rfl, f1.o, f2⟩
      · show hasK (putF b s.1 s.2.1 s.2.2).2 k ∨ getI a.kept k ≠ none
        have hbw : (d.length : Int) ≤ b.win := by have hb2 : b.win = w := hb2; rw [hb2]; exact hw
        rcases hH k hk with h1 | h1
        · exact .inl (hasK_put hb1 hs hd hbw (.inr h1))
        · rcases hh k h1 with h2 | h2
          · exact .inl (hasK_put hb1 hs hd hbw (.inl h2))
          · exact .inr h2
      · show a.off ≤ (putF b s.1 s.2.1 s.2.2).2.off
        rw [put_off]; exact ho1
  · obtain ⟨hb1, hb2⟩ := hf.b (fun e => by cases e)
    rcases hp with rfl | rfl
    · cases ha
    · refine ⟨⟨f1.f, hl, fun k hk => ?_, fun e => by cases e⟩, rfl, f1.o, f2⟩
      exact hasK_put hb1 hs hd (by have hb2 : b.win = w := hb2; rw [hb2]; exact hw) ((hH k hk).elim .inr fun h1 => .inl (hh k h1))
theorem c_start {M : Mov} {d : List Int} {w : Int} {H : List Bool} (h : CovM M d w H) (hd : d.length ≤ 1048576) (hp : M.ph = .old) : CovM (startM M).2 d w H ∧ (startM M).2.ph = .drain ∧ ((startM M).1.2.1 : Int) = 0 ∧ ((startM M).1.1 : Int) = rdO M ∧ rdO (startM M).2 = rdO M := by
  obtain ⟨f1, f2⟩ := m_start h.fit hd
  obtain ⟨hf, hlen, hh, ho⟩ := h
  obtain ⟨mw, ph, a, b⟩ := M
  cases ph
  · refine ⟨⟨f1.f, hlen, fun k hk => ?_, fun _ => ?_⟩, rfl, rfl, f2 rfl, f1.o⟩
    · show hasK (eS mw a.off) k ∨ getI a.kept k ≠ none
      rcases hh k hk with h1 | h1
      · exact .inl (.inl h1)
      · exact .inr h1
    · show a.off ≤ a.off
      exact Int.le_refl _
  · cases hp
  · cases hp
theorem c_hand {M : Mov} {d : List Int} {w : Int} {H : List Bool} (h : CovM M d w H) (hd : d.length ≤ 1048576) (hb : inBytes d) (hw : (d.length : Int) ≤ w) (hp : M.ph = .drain) : CovM (handM M).2 d w H ∧ (handM M).2.ph = .drain ∧ ((handM M).1.2.1 : Int) = 0 ∧ rdO (handM M).2 = rdO M ∧
    CovM (finM (handM M).2).2 d w H ∧ (finM (handM M).2).2.ph = .moved ∧ ((finM (handM M).2).1.1 : Int) = 0 ∧ rdO (finM (handM M).2).2 = rdO M := by
  have f1 := m_hand h.fit hd hb
  have f2 := m_fin f1.f
  obtain ⟨hf, hlen, hh, ho⟩ := h
  obtain ⟨mw, ph, a, b⟩ := M
  cases ph
  · cases hp
  · obtain ⟨ha1, ha2⟩ := hf.a (fun e => by cases e)
    obtain ⟨hb1, hb2⟩ := hf.b (fun e => by cases e)
    have hpr := m_preR hf hd (fun e => by cases e)
    have hw9 : mw = w := hf.win
    have hP : PreR a := ⟨ha1.ok, by have ha2 : a.win = w := ha2; rw [ha2, ← hw9]; exact hpr.1⟩
    have hbw : (d.length : Int) ≤ b.win := by have hb2 : b.win = w := hb2; rw [hb2]; exact hw
    have hall : ∀ k : Nat, H.getD k false = true → hasK (putsL b (handL a)) k := fun k hk =>
      hasK_puts hd hb (handL a) b hb1 hbw (hand_part ha1 hP) k ((hh k hk).elim .inl fun h1 => .inr (hand_cov hP h1))
    have h1 := hf.w1
    obtain ⟨p1, p2, p3⟩ := handA_part (w := mw) ha1 (by omega) (by omega) hd hb
    obtain ⟨q1, q2, q3⟩ := puts_part hd hb (handL a) b hb1 (hand_part ha1 hP)
    refine ⟨⟨f1.f, hlen, fun k hk => .inl (hall k hk), fun _ => ?_⟩, rfl, rfl, f1.o, ⟨f2.f, hlen, fun k hk => hall k hk, fun e => by cases e⟩, rfl, rfl, f2.o.trans f1.o⟩
    show (handA mw a).off ≤ (putsL b (handL a)).off
    rw [p3, q3]; exact ho rfl
  · cases hp
theorem c_read {M : Mov} {d : List Int} {w : Int} {H : List Bool} (h : CovM M d w H) (m : Int) : CovM (readM M m).2 d w H ∧ (readM M m).2.ph = M.ph := by
  obtain ⟨f1, _, _⟩ := m_read h.fit m
  obtain ⟨hf, hlen, hh, ho⟩ := h
  obtain ⟨mw, ph, a, b⟩ := M
  cases ph
  · obtain ⟨ha1, ha2⟩ := hf.a (fun e => by cases e)
    exact ⟨⟨f1, hlen, fun k hk => hasK_read ha1 m (hh k hk), fun e => by cases e⟩, rfl⟩
  · obtain ⟨hb1, hb2⟩ := hf.b (fun e => by cases e)
    refine ⟨⟨f1, hlen, fun k hk => (hh k hk).imp (hasK_read hb1 m) id, fun _ => ?_⟩, rfl⟩
    show a.off ≤ (readF b m).2.off
    have ho : a.off ≤ b.off := ho rfl
    rw [(fits_read hb1 m).2.2.1]
    dsimp only [rdM]; omega
  · obtain ⟨hb1, hb2⟩ := hf.b (fun e => by cases e)
    exact ⟨⟨f1, hlen, fun k hk => hasK_read hb1 m (hh k hk), fun e => by cases e⟩, rfl⟩
theorem c_all {M : Mov} {d : List Int} {w : Int} {H : List Bool} (h : CovM M d w H) (hp : M.ph = .moved) (hk : ∀ k : Nat, k < d.length → hasM M k) {m : Int} (hm : (d.length : Int) ≤ m) : d.take (rdO M).toNat ++ ((readM M m).1.1 : List Int) = d ∧ (readM M m).2.ph = .moved := by
  obtain ⟨hf, hlen, hh, ho⟩ := h
  obtain ⟨mw, ph, a, b⟩ := M
  cases ph
  · cases hp
  · cases hp
  · obtain ⟨hb1, hb2⟩ := hf.b (fun e => by cases e)
    refine ⟨read_all hb1 (fun k k1 k2 => ?_) hm, rfl⟩
    have := hk k.toNat (by omega)
    rwa [Int.toNat_of_nonneg k1] at this
/-- The bytes o .. of a list of marks set. -/
def setTo (H : List Bool) (o : Nat) : Nat → List Bool
  | 0 => H
  | n + 1 => (setTo H o n).set (o + n) true
theorem setTo_len (H : List Bool) (o : Nat) : ∀ n, (setTo H o n).length = H.length
  | 0 => rfl
  | n + 1 => by rw [setTo, List.length_set, setTo_len H o n]
theorem setTo_get {H : List Bool} {o k : Nat} : ∀ {n : Nat}, (setTo H o n).getD k false = true → (o ≤ k ∧ k < o + n) ∨ H.getD k false = true
  | 0, h => .inr h
  | n + 1, h => by
    rw [setTo, List.getD_eq_getElem?_getD, List.getElem?_set] at h
    split at h
    · exact .inl (by omega)
    · rw [← List.getD_eq_getElem?_getD] at h
      rcases setTo_get h with h | h
      · exact .inl (by omega)
      · exact .inr h
/-- Which phase holds ahead of act i; behind the start; the acts of a round. -/
abbrev ph0 (s f i : Int) : Ph := if i ≤ s then .old else if i ≤ f then .drain else .moved
abbrev phA (s f i : Int) : Ph := if i + 1 ≤ s then .old else if i ≤ f then .drain else .moved
theorem ph_A {s f i : Int} (h : i = s) (hs : s ≤ f) : ph0 s f i = .old ∧ phA s f i = .drain := by
  dsimp only [ph0, phA]
  rw [if_pos (show i ≤ s by omega), if_neg (show ¬ i + 1 ≤ s by omega), if_pos (show i ≤ f by omega)]; exact ⟨rfl, rfl⟩
theorem ph_A' {s f i : Int} (h : ¬ i = s) : ph0 s f i = phA s f i := by
  dsimp only [ph0, phA]
  by_cases c : i ≤ s
  · rw [if_pos c, if_pos (show i + 1 ≤ s by omega)]
  · rw [if_neg c, if_neg (show ¬ i + 1 ≤ s by omega)]
theorem ph_B {s f i : Int} (h : i = f) (hs : s ≤ f) : phA s f i = .drain ∧ ph0 s f (i + 1) = .moved := by
  dsimp only [ph0, phA]
  have e1 : ¬ i + 1 ≤ s := by omega
  rw [if_neg e1, if_pos (show i ≤ f by omega), if_neg e1, if_neg (show ¬ i + 1 ≤ f by omega)]; exact ⟨rfl, rfl⟩
theorem ph_B' {s f i : Int} (h : ¬ i = f) : phA s f i = ph0 s f (i + 1) := by
  dsimp only [ph0, phA]
  by_cases c : i + 1 ≤ s
  · rw [if_pos c, if_pos c]
  · rw [if_neg c, if_neg c]
    by_cases c2 : i ≤ f
    · rw [if_pos c2, if_pos (by omega)]
    · rw [if_neg c2, if_neg (by omega)]
theorem ph_end {s f i n : Int} (h : i = n) (hs : s ≤ f) (hf : f ≤ n) : ph0 s f (i + 1) = .moved := by
  dsimp only [ph0]
  rw [if_neg (by omega), if_neg (by omega)]
/-! ### for the walk -/
theorem st_i {k : Int} (h : 0 ≤ k ∧ k ≤ 65535) : inI64 k := by unfold inI64; omega
theorem u16_at {l : List Int} (hl : ∀ y ∈ l, 0 ≤ y ∧ y ≤ 65535) {i : Int} (h0 : 0 ≤ i) (h : i < (l.length : Int)) : 0 ≤ l.getD i.toNat 0 ∧ l.getD i.toNat 0 ≤ 65535 := by
  have hlt : i.toNat < l.length := by omega
  exact hl (l.getD i.toNat 0) (by rw [List.getD_eq_getElem?_getD, List.getElem?_eq_getElem hlt]; exact List.getElem_mem hlt)
theorem tk_le (d : List Int) (n : Nat) : ((d.take n).length : Int) ≤ d.length := by rw [List.length_take]; omega
theorem tk_len {d : List Int} {n : Int} (h0 : 0 ≤ n) (h : n ≤ (d.length : Int)) : n = ((d.take n.toNat).length : Int) := by rw [List.length_take]; omega
theorem rd_take {d : List Int} {w : Int} {M : Mov} (h : FitM M d w) (hd : inBytes d) (h60 : ¬ 60 < (d.length : Int)) (m : Int) :
    d.take (rdO M).toNat ++ ((readM M m).1.1 : List Int) = d.take (rdO (readM M m).2).toNat ∧ (d.take (rdO M).toNat).length + ((readM M m).1.1 : List Int).length ≤ 1099511627776 := by
  obtain ⟨r1, r2, r3⟩ := m_read h m
  refine ⟨r2, ?_⟩
  have e : (d.take (rdO M).toNat).length ≤ d.length := by rw [List.length_take]; omega
  have r3 : List.length (readM M m).1.1 ≤ d.length := r3
  show (d.take (rdO M).toNat).length + List.length (readM M m).1.1 ≤ _
  omega
/-- A moving end on the way: its phase, what was read; what the calls ask. -/
structure CxF (d : List Int) (H : List Bool) (N : Mov) (p : Ph) (o : Int) : Prop where
  cov : CovM N d 80 H
  ph : N.ph = p
  o : rdO N = o
  ok : OkM N
  pS : OkM N ∧ (N.ph = .old → N.a.off ≤ 1099511627776)
  pH : OkM N ∧ (N.ph = .drain → N.a.off + N.win ≤ 1099511627776 ∧ (N.a.known = true → N.a.fin ≤ 1099512676352))
theorem cxF {d : List Int} {H : List Bool} {N : Mov} {p : Ph} {o : Int} (h : CovM N d 80 H) (hp : N.ph = p) (ho : rdO N = o) (h60 : ¬ 60 < (d.length : Int)) : CxF d H N p o := by
  refine ⟨h, hp, ho, h.fit.ok, ⟨h.fit.ok, fun e => ?_⟩, ⟨h.fit.ok, fun e => m_preR h.fit (by omega) (fun e2 => by rw [e] at e2; cases e2)⟩⟩
  have := (h.fit.a (fun e2 => by rw [e] at e2; cases e2)).1.off; omega
structure CxA (d : List Int) (H : List Bool) (s f i : Int) (M : Mov) : Prop where
  f : CxF d H (startM M).2 (phA s f i) (rdO M)
  e : ((startM M).1.2.1 : Int) = 0
  n : ((startM M).1.1 : Int) = ((d.take (rdO M).toNat).length : Int)
theorem cxA {d : List Int} {H : List Bool} {s f i o : Int} {M : Mov} (hd : inBytes d) (h60 : ¬ 60 < (d.length : Int)) (hs : s ≤ f) (hm : CxF d H M (ph0 s f i) o) (h : i = s) : CxA d H s f i M := by
  obtain ⟨e1, e2⟩ := ph_A h hs
  obtain ⟨c1, c2, c3, c4, c5⟩ := c_start hm.cov (by omega) (hm.ph.trans e1)
  have hr := rdO_le hm.cov.fit
  exact ⟨cxF c1 (c2.trans e2.symm) c5 h60, c3, c4.trans (tk_len hr.1 hr.2)⟩
theorem cxA' {d : List Int} {H : List Bool} {s f i o : Int} {M : Mov} (hm : CxF d H M (ph0 s f i) o) (h : ¬ i = s) : CxF d H M (phA s f i) o := by rw [← ph_A' h]; exact hm
structure CxB (d : List Int) (H : List Bool) (s f i o : Int) (N : Mov) : Prop where
  e : ((handM N).1.2.1 : Int) = 0
  ok : OkM (handM N).2
  e2 : ((finM (handM N).2).1.1 : Int) = 0
  f : CxF d H (finM (handM N).2).2 (ph0 s f (i + 1)) o
theorem cxB {d : List Int} {H : List Bool} {s f i o : Int} {N : Mov} (hd : inBytes d) (h60 : ¬ 60 < (d.length : Int)) (hs : s ≤ f) (hm : CxF d H N (phA s f i) o) (h : i = f) : CxB d H s f i o N := by
  obtain ⟨e1, e2⟩ := ph_B h hs
  obtain ⟨c1, c2, c3, c4, c5, c6, c7, c8⟩ := c_hand hm.cov (by omega) hd (by omega) (hm.ph.trans e1)
  exact ⟨c3, c1.fit.ok, c7, cxF c5 (c6.trans e2.symm) (c8.trans hm.o) h60⟩
theorem cxB' {d : List Int} {H : List Bool} {s f i o : Int} {N : Mov} (hm : CxF d H N (phA s f i) o) (h : ¬ i = f) : CxF d H N (ph0 s f (i + 1)) o := by rw [← ph_B' h]; exact hm
abbrev mk' (H : List Bool) (s : Seg) : List Bool := setTo H s.1.toNat s.2.1.length
structure CxC (d : List Int) (H : List Bool) (p : Ph) (o : Int) (N : Mov) (q : Int) (s : Seg) : Prop where
  e : ((rcvM N q s).1.1 : Int) = 0
  o0 : 0 ≤ s.1
  oe : s.1 + (s.2.1.length : Int) ≤ d.length
  l : s.2.1.length ≤ 1048576
  f : CxF d (mk' H s) (rcvM N q s).2 p o
theorem cxC {d : List Int} {H : List Bool} {p : Ph} {o q : Int} {N : Mov} {s : Seg} (hd : inBytes d) (h60 : ¬ 60 < (d.length : Int)) (hm : CxF d H N p o) (hq : q = 0 ∨ q = 1) (hs : IsPart d s) (ha : accB N q = true) : CxC d H p o N q s := by
  have ho := hs.o; have he := hs.e
  obtain ⟨c1, c2, c3, c4⟩ := c_rcv (H' := mk' H s) hm.cov hs (by omega) hd (by omega) hq (by rw [setTo_len]; exact hm.cov.len) (fun k hk => by
    rcases setTo_get hk with h | h
    · exact .inl (by omega)
    · exact .inr h) ha
  exact ⟨c4, ho, he, by omega, cxF c1 (c2.trans hm.ph) (c3.trans hm.o) h60⟩
theorem cxR {d : List Int} {H : List Bool} {p : Ph} {o : Int} {N : Mov} (h60 : ¬ 60 < (d.length : Int)) (hm : CxF d H N p o) (m : Int) : CxF d H (readM N m).2 p (rdO (readM N m).2) := by
  obtain ⟨c1, c2⟩ := c_read hm.cov m
  exact cxF c1 (c2.trans hm.ph) rfl h60
structure CxG (d : List Int) (N : Mov) (o m : Int) : Prop where
  e : d.take o.toNat ++ ((readM N m).1.1 : List Int) = d.take (rdO (readM N m).2).toNat
  l : (d.take o.toNat).length + ((readM N m).1.1 : List Int).length ≤ 1099511627776
theorem cxG {d : List Int} {H : List Bool} {p : Ph} {o : Int} {N : Mov} (hd : inBytes d) (h60 : ¬ 60 < (d.length : Int)) (hm : CxF d H N p o) (m : Int) : CxG d N o m := by
  obtain ⟨c1, c2⟩ := rd_take hm.cov.fit hd h60 m
  rw [hm.o] at c1 c2; exact ⟨c1, c2⟩
theorem setTo_step {H : List Bool} {o j : Int} (h0 : 0 ≤ o) (h1 : 0 ≤ j) : (setTo H o.toNat j.toNat).set (o + j).toNat true = setTo H o.toNat (j + 1).toNat := by
  rw [show (j + 1).toNat = j.toNat + 1 by omega, setTo, show (o + j).toNat = o.toNat + j.toNat by omega]
theorem setTo_done {H : List Bool} {s : Seg} {j : Int} (h : ¬ j < (s.2.1.length : Int)) (h2 : j ≤ (s.2.1.length : Int)) : setTo H s.1.toNat j.toNat = mk' H s := by
  rw [show j.toNat = s.2.1.length by omega]
/-- The missing bytes. -/
abbrev byS (d : List Int) (k : Int) : Seg := (k, (d.take (k + 1).toNat).drop k.toNat, false)
theorem byS_part {d : List Int} {k : Int} (h0 : 0 ≤ k) (h : k < (d.length : Int)) : IsPart d (byS d k) ∧ (byS d k).2.1.length = 1 := by
  have hl : ((d.take (k + 1).toNat).drop k.toNat).length = 1 := by rw [List.length_drop, List.length_take]; omega
  refine ⟨⟨h0, ?_, ?_, fun h => by cases h⟩, hl⟩
  · show k + ((((d.take (k + 1).toNat).drop k.toNat).length : Nat) : Int) ≤ _
    rw [hl]; omega
  · show (d.take (k + 1).toNat).drop k.toNat = (d.drop k.toNat).take ((d.take (k + 1).toNat).drop k.toNat).length
    rw [hl, List.drop_take]; congr 1; omega
structure LFx (d : List Int) (H : List Bool) (o : Int) where
  k : Int
  M : Mov
  lo : 0 ≤ k
  hi : k ≤ d.length
  f : CxF d H M .moved o
  all : ∀ j : Nat, (j : Int) < k → hasM M j
structure CxK (d : List Int) (H : List Bool) (o k : Int) (N M : Mov) : Prop where
  ok : OkM M
  e : ((rcvM M 1 (byS d k)).1.1 : Int) = 0
  y : ∃ y : LFx d H o, y.k = k + 1 ∧ y.M = N
theorem rcv_has {M : Mov} {d : List Int} {w : Int} {H : List Bool} {s : Seg} (h : CovM M d w H) (hp : M.ph = .moved) (hs : IsPart d s) (hd : d.length ≤ 1048576) (hw : (d.length : Int) ≤ w) {k : Int} (hk : hasM M k ∨ (s.1 ≤ k ∧ k < s.1 + (s.2.1.length : Int))) : hasM (rcvM M 1 s).2 k := by
  obtain ⟨hf, hlen, hh, ho⟩ := h
  obtain ⟨mw, ph, a, b⟩ := M
  cases ph
  · cases hp
  · cases hp
  · obtain ⟨hb1, hb2⟩ := hf.b (fun e => by cases e)
    exact hasK_put hb1 hs hd (by have hb2 : b.win = w := hb2; rw [hb2]; exact hw) hk
theorem cxK {d : List Int} {H : List Bool} {o : Int} (hd : inBytes d) (h60 : ¬ 60 < (d.length : Int)) (x : LFx d H o) (h : x.k < (d.length : Int)) :
    (OkM x.M ∧ (byS d x.k).2.1.length ≤ 1048576) ∧ ((rcvM x.M 1 (byS d x.k)).1.1 : Int) = 0 ∧ ∃ y : LFx d H o, y.k = x.k + 1 ∧ y.M = (rcvM x.M 1 (byS d x.k)).2 := by
  have hlo := x.lo
  obtain ⟨p1, p2⟩ := byS_part hlo h
  have hac : accB x.M 1 = true := by
    have := x.f.ph
    rcases x with ⟨k, ⟨mw, ph, a, b⟩, lo, hi, f, all⟩
    cases this; rfl
  obtain ⟨c1, c2, c3, c4⟩ := c_rcv (H' := H) x.f.cov p1 (by omega) hd (by omega) (.inr rfl) x.f.cov.len (fun k hk => .inr hk) hac
  refine ⟨⟨x.f.ok, by rw [p2]; decide⟩, c4, ⟨x.k + 1, _, by omega, by omega, cxF c1 (c2.trans x.f.ph) (c3.trans x.f.o) h60, fun j hj => ?_⟩, rfl, rfl⟩
  refine rcv_has x.f.cov x.f.ph p1 (by omega) (by omega) ?_
  by_cases c : (j : Int) < x.k
  · exact .inl (x.all j c)
  · refine .inr ⟨by show x.k ≤ (j : Int); omega, ?_⟩
    rw [p2]; show (j : Int) < x.k + _; omega
theorem cxJ {d : List Int} {H : List Bool} {o : Int} (x : LFx d H o) (h : x.k < (d.length : Int)) (hk : H.getD x.k.toNat false = true) : ∃ y : LFx d H o, y.k = x.k + 1 ∧ y.M = x.M := by
  have hlo := x.lo
  refine ⟨⟨x.k + 1, x.M, by omega, by omega, x.f, fun j hj => ?_⟩, rfl, rfl⟩
  by_cases c : (j : Int) < x.k
  · exact x.all j c
  · have e : j = x.k.toNat := by omega
    exact x.f.cov.has j (by rw [e]; exact hk)
structure CxE (d : List Int) (o : Int) (M : Mov) : Prop where
  e : d.take o.toNat ++ ((readM M 1000).1.1 : List Int) = d
  l : (d.take o.toNat).length + ((readM M 1000).1.1 : List Int).length ≤ 1099511627776
  p : (readM M 1000).2.ph = .moved
  b : inBytes (d.take o.toNat ++ ((readM M 1000).1.1 : List Int)) ∧ inBytes d
theorem cxE {d : List Int} {H : List Bool} {o : Int} (hd : inBytes d) (h60 : ¬ 60 < (d.length : Int)) (x : LFx d H o) (h : ¬ x.k < (d.length : Int)) : CxE d o x.M := by
  obtain ⟨c1, c2⟩ := c_all x.f.cov x.f.ph (fun j hj => x.all j (by omega)) (m := 1000) (by omega)
  have g := cxG hd h60 x.f 1000
  rw [x.f.o] at c1
  exact ⟨c1, g.l, c2, by rw [c1]; exact ⟨hd, hd⟩⟩
theorem ph_mov {M : Mov} (h : M.ph = .moved) : (phaseM M).1 = (2 : Int) := by
  obtain ⟨mw, ph, a, b⟩ := M
  cases h; rfl
theorem lF0 {d : List Int} {H : List Bool} {s f i n o : Int} {N : Mov} (hs : s ≤ f) (hf : f ≤ n) (h : i = n) (hm : CxF d H N (ph0 s f (i + 1)) o) : ∃ x : LFx d H o, x.k = 0 ∧ x.M = N :=
  ⟨⟨0, N, by omega, by omega, by rw [← ph_end h hs hf]; exact hm, fun j hj => by omega⟩, rfl, rfl⟩
end Go.Proofs.Ytgdiepbjdpmfbaa
