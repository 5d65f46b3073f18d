/-
  Stores whose segments are parts of one stream (plain).
-/
import Derived.Test.YtgdiepbjdpmfbaaSem
namespace Go.Proofs.Ytgdiepbjdpmfbaa
set_option linter.all false
set_option linter.unusedVariables false
set_option linter.unusedSimpArgs false
set_option linter.unusedSectionVars false
open Go.RowKit Go.Sx

/-- All that is kept is of the stream d. -/
structure Fits (S : Sto) (d : List Int) : Prop where
  ok : StO S
  val : ∀ k v, getI S.kept k = some v → k < d.length ∧ v = d.getD k.toNat 0
  fin : S.known = true → S.fin = d.length
  off : S.off ≤ d.length
structure IsPart (d : List Int) (s : Int × List Int × Bool) : Prop where
  o : 0 ≤ s.1
  e : s.1 + (s.2.1.length : Int) ≤ d.length
  dat : s.2.1 = (d.drop s.1.toNat).take s.2.1.length
  last : s.2.2 = true → s.1 + (s.2.1.length : Int) = d.length
theorem IsPart.at {d : List Int} {s : Int × List Int × Bool} (h : IsPart d s) {k : Int} (h1 : s.1 ≤ k) (h2 : k < s.1 + (s.2.1.length : Int)) : s.2.1.getD (k - s.1).toNat 0 = d.getD k.toNat 0 := by
  have ho := h.o
  rw [h.dat, List.getD_eq_getElem?_getD, List.getD_eq_getElem?_getD, List.getElem?_take_of_lt (by omega), List.getElem?_drop]
  congr 2; omega
theorem IsPart.byt {d : List Int} {s : Int × List Int × Bool} (h : IsPart d s) (hd : inBytes d) : inBytes s.2.1 := fun x hx => hd x (by
  rw [h.dat] at hx
  exact List.mem_of_mem_drop (List.mem_of_mem_take hx))
theorem Fits.key {S : Sto} {d : List Int} (h : Fits S d) {k : Int} (hk : k ∈ S.kept.map Prod.fst) : k < d.length := by
  obtain ⟨v, hv⟩ := get_mem.1 hk
  exact (h.val k v hv).1
theorem Fits.next {S : Sto} {d : List Int} (h : Fits S d) : S.next ≤ d.length := by
  by_cases e : S.next = S.off
  · rw [e]; exact h.off
  · have := h.ok.off
    have h1 := h.key (h.ok.ctg (S.next - 1) (by omega) (by omega))
    omega
theorem fits_new {w : Int} {d : List Int} (h1 : 1 ≤ w) (h2 : w ≤ 1048576) : Fits (newS w) d :=
  ⟨newS_ok h1 h2, fun k v h => (by cases h), fun h => (by cases h), by show (0 : Int) ≤ _; omega⟩
theorem fits_ok {S : Sto} {d : List Int} (h : Fits S d) {s : Int × List Int × Bool} (hs : IsPart d s) (hd : d.length ≤ 1048576) : PutOk S s.1 s.2.1 s.2.2 := by
  obtain ⟨o, dd, l⟩ := s
  have ho := hs.o; have he := hs.e
  dsimp only at ho he ⊢
  refine ⟨ho, by omega, ?_, ?_⟩
  · unfold mis
    by_cases hk : S.known = true
    · have hf := h.fin hk
      rw [if_pos hk, if_neg (by omega)]
      split
      · rename_i hl
        have := hs.last hl
        dsimp only at this
        rw [hf, this]; simp
      · rfl
    · rw [if_neg hk]
      split
      · rename_i hl
        have hla := hs.last hl
        dsimp only at hla
        rw [if_neg]
        · exact decide_eq_false (by have := h.off; omega)
        · intro ha
          obtain ⟨k, hk1, hk2⟩ := anyGe_iff.1 ha
          have := h.key hk1
          omega
      · rfl
  · cases hc : confl S.kept dd o (pFr S o) (pN S o dd) with
    | false => rfl
    | true =>
      obtain ⟨k, v, k1, k2, k3, k4⟩ := (confl_iff _ _).1 hc
      exfalso
      apply k4
      rw [(h.val k v k3).2]
      refine (hs.at ?_ ?_).symm
      · show o ≤ k
        dsimp only [pFr] at k1; omega
      · show k < o + (dd.length : Int)
        dsimp only [pN, pTo, pFr] at k1 k2; omega
theorem fits_put {S : Sto} {d : List Int} (h : Fits S d) {s : Int × List Int × Bool} (hs : IsPart d s) (hd : d.length ≤ 1048576) (hb : inBytes d) : Fits (putS S s.1 s.2.1 s.2.2) d := by
  have hok := fits_ok h hs hd
  have hl : s.2.1.length ≤ 1048576 := by have := hs.e; have := hs.o; omega
  have h1 := put_sto h.ok (o := s.1) s.2.2 (hs.byt hb) hl
  rw [put_ok_eq hok] at h1
  refine ⟨h1, fun k v hv => ?_, fun hk => ?_, h.off⟩
  · have hv : getI (putK S s.1 s.2.1) k = some v := hv
    rw [get_put] at hv
    split at hv
    · rename_i hk
      have e1 : s.1 ≤ k := by have := hk.1; dsimp only [pFr] at this; omega
      have e2 : k < s.1 + (s.2.1.length : Int) := by have := hk.2; dsimp only [pTo] at this; omega
      have := hs.e
      refine ⟨by omega, ?_⟩
      cases hv
      exact hs.at e1 e2
    · exact h.val k v hv
  · show (if s.2.2 = true then s.1 + (s.2.1.length : Int) else S.fin) = _
    have hk : (if s.2.2 = true then true else S.known) = true := hk
    by_cases hl2 : s.2.2 = true
    · rw [if_pos hl2]; exact hs.last hl2
    · rw [if_neg hl2] at hk ⊢
      exact h.fin hk
abbrev rdM (S : Sto) (m : Int) : Int := max 0 (rdN S m)
theorem fits_read {S : Sto} {d : List Int} (h : Fits S d) (m : Int) : ((readF S m).1.1 : List Int) = (d.drop S.off.toNat).take (rdM S m).toNat ∧ Fits (readF S m).2 d ∧ (readF S m).2.off = S.off + rdM S m ∧ (readF S m).2.next = S.next ∧ (readF S m).2.win = S.win := by
  have hoff := h.ok.off; have hnx := h.next
  have hst := read_sto h.ok m
  by_cases hm : m < 1
  · have e0 : rdM S m = 0 := by dsimp only [rdM, rdN]; omega
    have e : readF S m = (([], ()), S) := by unfold readF; rw [if_pos hm]
    rw [e, e0]
    exact ⟨rfl, h, (Int.add_zero _).symm, rfl, rfl⟩
  · have e : readF S m = ((rdB S.kept S.off (rdN S m).toNat, ()), { S with kept := rdK S.kept S.off (rdN S m).toNat, off := S.off + rdN S m }) := by unfold readF; rw [if_neg hm]
    have e0 : rdM S m = rdN S m := by dsimp only [rdM, rdN]; omega
    have hn : 0 ≤ rdN S m ∧ rdN S m ≤ S.next - S.off := by dsimp only [rdN]; omega
    rw [e] at hst ⊢
    rw [e0]
    refine ⟨?_, ⟨hst, fun k v hv => ?_, h.fin, by show S.off + rdN S m ≤ _; omega⟩, rfl, rfl, rfl⟩
    · refine rdB_eq (by rw [List.length_take, List.length_drop]; omega) fun i hi => ?_
      obtain ⟨v, hv⟩ := get_mem.1 (h.ok.ctg (S.off + i) (by omega) (by omega))
      rw [hv, (h.val _ _ hv).2, List.getD_eq_getElem?_getD, List.getD_eq_getElem?_getD, List.getElem?_take_of_lt hi, List.getElem?_drop]
      congr 3; omega
    · have hv : getI (rdK S.kept S.off (rdN S m).toNat) k = some v := hv
      rw [get_rdK h.ok.nd] at hv
      split at hv
      · cases hv
      · exact h.val k v hv
theorem take_read {S : Sto} {d : List Int} (h : Fits S d) (m : Int) : d.take S.off.toNat ++ ((readF S m).1.1 : List Int) = d.take ((readF S m).2.off).toNat := by
  obtain ⟨h1, _, h2, _⟩ := fits_read h m
  have hoff := h.ok.off
  rw [h1, h2, show (S.off + rdM S m).toNat = S.off.toNat + (rdM S m).toNat by dsimp only [rdM]; omega, List.take_add]

/-! ### stores that keep the same -/
structure SameS (a b : Sto) : Prop where
  win : a.win = b.win
  off : a.off = b.off
  get : ∀ k, getI a.kept k = getI b.kept k
  known : a.known = b.known
  fin : a.known = true → a.fin = b.fin
theorem SameS.keys {a b : Sto} (h : SameS a b) (ha : StO a) (hb : StO b) : (a.kept.map Prod.fst).Perm (b.kept.map Prod.fst) := by
  refine (List.perm_ext_iff_of_nodup ha.nd hb.nd).2 fun x => ?_
  rw [get_mem, get_mem, h.get]
theorem SameS.next {a b : Sto} (h : SameS a b) (ha : StO a) (hb : StO b) : a.next = b.next := by
  refine next_eq ha ?_ (fun k k1 k2 => ?_) ?_
  · rw [h.off]; exact hb.off.2
  · rw [h.get]
    rw [h.off] at k1
    obtain ⟨v, hv⟩ := get_mem.1 (hb.ctg k k1 k2)
    rw [hv]; exact fun h => by cases h
  · rw [h.get]; exact get_none.2 hb.non
theorem SameS.held {a b : Sto} (h : SameS a b) (ha : StO a) (hb : StO b) : a.kept.length = b.kept.length := by
  have := (h.keys ha hb).length_eq
  rwa [List.length_map, List.length_map] at this
theorem SameS.fend {a b : Sto} (h : SameS a b) : (if a.known = true then a.fin else 0) = (if b.known = true then b.fin else 0) := by
  rw [← h.known]
  split
  · rename_i hk; rw [h.fin hk]
  · rfl
theorem SameS.read {a b : Sto} (h : SameS a b) (ha : StO a) (hb : StO b) (m : Int) : ((readF a m).1.1 : List Int) = (readF b m).1.1 := by
  have hn := h.next ha hb
  have hr : rdN a m = rdN b m := by dsimp only [rdN]; rw [hn, h.off]
  unfold readF
  split
  · rfl
  · show rdB a.kept a.off (rdN a m).toNat = rdB b.kept b.off (rdN b m).toNat
    refine rdB_eq (by rw [rdB_len, hr]) fun i hi => ?_
    rw [← hr, rdB_get _ _ _ _ hi, h.get, h.off]
    have ho := hb.off
    obtain ⟨v, hv⟩ := get_mem.1 (hb.ctg (b.off + i) (by omega) (by rw [hr] at hi; dsimp only [rdN] at hi; omega))
    rw [hv]; rfl
/-- What parts have arrived. -/
structure Cov (S : Sto) (d : List Int) (w : Int) (L : List (Int × List Int × Bool)) : Prop where
  fits : Fits S d
  win : S.win = w
  off : S.off = 0
  get : ∀ k, getI S.kept k ≠ none ↔ k < w ∧ ∃ s ∈ L, s.1 ≤ k ∧ k < s.1 + (s.2.1.length : Int)
  known : S.known = true ↔ ∃ s ∈ L, s.2.2 = true
theorem cov_new {w : Int} {d : List Int} (h1 : 1 ≤ w) (h2 : w ≤ 1048576) : Cov (newS w) d w [] :=
  ⟨fits_new h1 h2, rfl, rfl, fun k => ⟨fun h => absurd rfl h, fun h => (by obtain ⟨_, s, hs, _⟩ := h; cases hs)⟩, ⟨fun h => (by cases h), fun h => (by obtain ⟨s, hs, _⟩ := h; cases hs)⟩⟩
theorem cov_put {S : Sto} {d : List Int} {w : Int} {L M : List (Int × List Int × Bool)} (h : Cov S d w L) {s : Int × List Int × Bool} (hs : IsPart d s) (hd : d.length ≤ 1048576) (hb : inBytes d) (hM : ∀ x, x ∈ M ↔ x ∈ L ∨ x = s) : Cov (putS S s.1 s.2.1 s.2.2) d w M := by
  have ho := hs.o
  refine ⟨fits_put h.fits hs hd hb, h.win, h.off, fun k => ?_, ?_⟩
  · show getI (putK S s.1 s.2.1) k ≠ none ↔ _
    rw [get_put]
    have e1 : pFr S s.1 = s.1 := by dsimp only [pFr]; rw [h.off]; omega
    have e2 : pTo S s.1 s.2.1 = min (s.1 + (s.2.1.length : Int)) w := by dsimp only [pTo]; rw [h.off, h.win]; omega
    rw [e1, e2]
    split
    · rename_i hk
      exact ⟨fun _ => ⟨by omega, s, (hM s).2 (.inr rfl), hk.1, by omega⟩, fun _ h => by cases h⟩
    · rename_i hk
      rw [h.get]
      constructor
      · rintro ⟨h1, t, ht, h2⟩; exact ⟨h1, t, (hM t).2 (.inl ht), h2⟩
      · rintro ⟨h1, t, ht, h2, h3⟩
        rcases (hM t).1 ht with ht | rfl
        · exact ⟨h1, t, ht, h2, h3⟩
        · exact absurd ⟨h2, by omega⟩ hk
  · show (if s.2.2 = true then true else S.known) = true ↔ _
    by_cases hl : s.2.2 = true
    · rw [if_pos hl]
      exact ⟨fun _ => ⟨s, (hM s).2 (.inr rfl), hl⟩, fun _ => rfl⟩
    · rw [if_neg hl, h.known]
      constructor
      · rintro ⟨t, ht, h2⟩; exact ⟨t, (hM t).2 (.inl ht), h2⟩
      · rintro ⟨t, ht, h2⟩
        rcases (hM t).1 ht with ht | rfl
        · exact ⟨t, ht, h2⟩
        · exact absurd h2 hl
theorem cov_same {a b : Sto} {d : List Int} {w : Int} {L M : List (Int × List Int × Bool)} (ha : Cov a d w L) (hb : Cov b d w M) (h : ∀ x, x ∈ L ↔ x ∈ M) : SameS a b := by
  have hk : a.known = b.known := by
    rw [Bool.eq_iff_iff, ha.known, hb.known]
    exact ⟨fun ⟨s, h1, h2⟩ => ⟨s, (h s).1 h1, h2⟩, fun ⟨s, h1, h2⟩ => ⟨s, (h s).2 h1, h2⟩⟩
  refine ⟨ha.win.trans hb.win.symm, ha.off.trans hb.off.symm, fun k => ?_, hk, fun h1 => by rw [ha.fits.fin h1, hb.fits.fin (hk ▸ h1)]⟩
  have h3 : getI a.kept k ≠ none ↔ getI b.kept k ≠ none := by
    rw [ha.get, hb.get]
    exact ⟨fun ⟨h1, s, h2, h3⟩ => ⟨h1, s, (h s).1 h2, h3⟩, fun ⟨h1, s, h2, h3⟩ => ⟨h1, s, (h s).2 h2, h3⟩⟩
  cases hx : getI a.kept k with
  | none =>
    cases hy : getI b.kept k with
    | none => rfl
    | some v => exact absurd hx (h3.2 (by rw [hy]; exact fun h => by cases h))
  | some v =>
    cases hy : getI b.kept k with
    | none => exact absurd hy (h3.1 (by rw [hx]; exact fun h => by cases h))
    | some u => rw [(ha.fits.val _ _ hx).2, (hb.fits.val _ _ hy).2]
end Go.Proofs.Ytgdiepbjdpmfbaa
