/-
  Part Own36 of the proof.
-/
import Derived.Test.YtcaoldilmnpjoaaGreatOwn35
import Derived.Test.YtcaoldilmnpjoaaGreatOwn12
namespace Go.Proofs.YtcaoldilmnpjoaaGreat
set_option linter.all false
open Go.RowKit Go.Sx
structure TrL (p : a8) (L : List Int) : Prop where
 tr : TrP p
 lv : xZ p.2 p.1.length L
def oth (p : a8) (c u : Int) : Int := (otF p c u).1
def isE (p : a8) (c u : Int) : Prop := (lh p c u).1 = true
def lvd (p : a8) (L : List Int) (u : Int) : Prop := (0 ≤ u ∧ u < (p.1.length : Int)) ∧ 0 ≤ lat L u
theorem tS {p : a8} {c u : Int} (h0 : 0 ≤ c) (h1 : c < (p.2.length : Int)) (h : (cab p c).1 = u ∨ (cab p c).2.2.1 = u) : isE p c u := by
 unfold isE lh
 rw [if_pos h0, if_pos h1]
 split
 · rfl
 · rename_i h2
   rcases h with h | h
   · exact absurd h h2
   · exact decide_eq_true h
theorem pQ {p : a8} (hT : TrP p) {c u : Int} (h : isE p c u) : 0 ≤ oth p c u ∧ oth p c u < (p.1.length : Int) := tC hT h
theorem BI {p : a8} {c u : Int} (h : isE p c u) : ((cab p c).1 = u ∧ (cab p c).2.2.1 = oth p c u) ∨ ((cab p c).2.2.1 = u ∧ (cab p c).1 = oth p c u) := by
 obtain ⟨_, h2⟩ := dR h
 have e : oth p c u = (cab p c).1 + (cab p c).2.2.1 - u := rfl
 rcases h2 with h2 | h2
 · exact .inl ⟨h2, by omega⟩
 · exact .inr ⟨h2, by omega⟩
theorem BJ {p : a8} {c u : Int} (h : isE p c u) : isE p c (oth p c u) := by
 obtain ⟨h1, _⟩ := dR h
 rcases BI h with ⟨_, h2⟩ | ⟨_, h2⟩
 · exact tS h1.1 h1.2 (.inr h2)
 · exact tS h1.1 h1.2 (.inl h2)
theorem bu {p : a8} {c u : Int} : oth p c (oth p c u) = u := by
 show (cab p c).1 + (cab p c).2.2.1 - ((cab p c).1 + (cab p c).2.2.1 - u) = u
 omega
theorem uy {L : List Int} {u : Int} {c : aY} : iD L u c = true ↔ 0 < lat L u ∧ ((c.1 = u ∧ lat L c.2.2.1 = lat L u - 1) ∨ (c.2.2.1 = u ∧ lat L c.1 = lat L u - 1)) := by
 unfold iD
 show (if 0 < lat L u then (if c.1 = u then (if lat L c.2.2.1 = lat L u - 1 then true else (if c.2.2.1 = u then decide (lat L c.1 = lat L u - 1) else false)) else (if c.2.2.1 = u then decide (lat L c.1 = lat L u - 1) else false)) else false) = true ↔ _
 by_cases h0 : 0 < lat L u
 · rw [if_pos h0]
   by_cases h1 : c.1 = u
   · rw [if_pos h1]
     by_cases h2 : lat L c.2.2.1 = lat L u - 1
     · rw [if_pos h2]; exact ⟨fun _ => ⟨h0, .inl ⟨h1, h2⟩⟩, fun _ => rfl⟩
     · rw [if_neg h2]
       by_cases h3 : c.2.2.1 = u
       · rw [if_pos h3, decide_eq_true_eq]
         exact ⟨fun h => ⟨h0, .inr ⟨h3, h⟩⟩, fun h => by rcases h.2 with h4 | h4; exact absurd h4.2 h2; exact h4.2⟩
       · rw [if_neg h3]
         exact ⟨fun h => (by cases h), fun h => by rcases h.2 with h4 | h4; exact absurd h4.2 h2; exact absurd h4.1 h3⟩
   · rw [if_neg h1]
     by_cases h3 : c.2.2.1 = u
     · rw [if_pos h3, decide_eq_true_eq]
       exact ⟨fun h => ⟨h0, .inr ⟨h3, h⟩⟩, fun h => by rcases h.2 with h4 | h4; exact absurd h4.1 h1; exact h4.2⟩
     · rw [if_neg h3]
       exact ⟨fun h => (by cases h), fun h => by rcases h.2 with h4 | h4; exact absurd h4.1 h1; exact absurd h4.1 h3⟩
 · rw [if_neg h0]; exact ⟨fun h => (by cases h), fun h => absurd h.1 h0⟩
theorem bj {p : a8} {L : List Int} {u : Int} (h : 0 ≤ bU p L u) : isE p (bU p L u) u ∧ 0 < lat L u ∧ lat L (oth p (bU p L u) u) = lat L u - 1 := by
 have h1 := Bd z6 h
 have h2 := idx_rng (iD L u) p.2
 obtain ⟨h3, h4⟩ := uy.1 h1
 have hE : isE p (bU p L u) u := by
  rcases h4 with h4 | h4
  · exact tS h h2.2 (.inl h4.1)
  · exact tS h h2.2 (.inr h4.1)
 refine ⟨hE, h3, ?_⟩
 have e : oth p (bU p L u) u = (cab p (bU p L u)).1 + (cab p (bU p L u)).2.2.1 - u := rfl
 rcases h4 with ⟨h5, h6⟩ | ⟨h5, h6⟩
 · have : oth p (bU p L u) u = (p.2.getD (gH (iD L u) p.2).toNat z6).2.2.1 := by
    have h7 : (cab p (bU p L u)).1 = u := h5
    rw [e, h7]
    show u + (p.2.getD (gH (iD L u) p.2).toNat z6).2.2.1 - u = _
    omega
   rw [this]; exact h6
 · have : oth p (bU p L u) u = (p.2.getD (gH (iD L u) p.2).toNat z6).1 := by
    have h7 : (cab p (bU p L u)).2.2.1 = u := h5
    rw [e, h7]
    show (p.2.getD (gH (iD L u) p.2).toNat z6).1 + u - u = _
    omega
   rw [this]; exact h6
theorem BG {p : a8} {L : List Int} (h : TrL p L) {u : Int} (hu : 0 ≤ u ∧ u < (p.1.length : Int)) (hl : 0 < lat L u) : 0 ≤ bU p L u := by
 have hu2 : ((u.toNat : Nat) : Int) = u := Int.toNat_of_nonneg hu.1
 obtain ⟨w, hw, ⟨c, hc, hA⟩, he⟩ := h.lv.led u.toNat (by omega) hl
 have e1 : lat L (w : Int) = lat L u - 1 := he
 rw [hu2] at hA
 refine idx_ex hc (uy.2 ⟨hl, ?_⟩)
 rcases hA with ⟨h1, h2⟩ | ⟨h1, h2⟩
 · exact .inr ⟨h2, by rw [h1]; exact e1⟩
 · exact .inl ⟨h1, by rw [h2]; exact e1⟩
structure Ed (p : a8) (L : List Int) (u o c : Int) : Prop where
 ne : c ≠ o
 e : isE p c u
 d : bU p L u = c ∨ bU p L (oth p c u) = c
def ay (p : a8) (L : List Int) : List Int := (List.range p.1.length).map fun k : Nat => bU p L (k : Int)
theorem BH (p : a8) (L : List Int) : (ay p L).length = p.1.length := by simp [ay]
theorem oY {p : a8} {L : List Int} {u : Int} (hu : 0 ≤ u ∧ u < (p.1.length : Int)) : (ay p L).getD u.toNat 0 = bU p L u := by
 unfold ay
 rw [List.getD_eq_getElem?_getD, List.getElem?_map, List.getElem?_range (by omega)]
 show bU p L ((u.toNat : Nat) : Int) = _
 rw [Int.toNat_of_nonneg hu.1]
theorem xB {p : a8} {L : List Int} (hT : TrP p) {u o c : Int} (hu : 0 ≤ u ∧ u < (p.1.length : Int)) : edB p (ay p L) u o c = true ↔ Ed p L u o c := by
 unfold edB
 simp only [Bool.and_eq_true, Bool.not_eq_true', decide_eq_false_iff_not, Bool.or_eq_true, decide_eq_true_eq]
 constructor
 · rintro ⟨h1, h2, h3⟩
   rw [oY hu, oY (tC hT h2)] at h3
   exact ⟨h1, h2, h3⟩
 · rintro ⟨h1, h2, h3⟩
   refine ⟨h1, h2, ?_⟩
   rw [oY hu, oY (tC hT h2)]
   exact h3
theorem Ed.cases {p : a8} {L : List Int} {u o c : Int} (h : Ed p L u o c) : 0 ≤ c ∧ ((bU p L u = c ∧ 0 < lat L u ∧ lat L (oth p c u) = lat L u - 1 ∧ bU p L (oth p c u) ≠ c) ∨ (bU p L (oth p c u) = c ∧ lat L (oth p c u) = lat L u + 1 ∧ 0 < lat L (oth p c u) ∧ bU p L u ≠ c)) := by
 have h0 : 0 ≤ c := (dR h.e).1.1
 refine ⟨h0, ?_⟩
 have hup : bU p L u = c → 0 < lat L u ∧ lat L (oth p c u) = lat L u - 1 := fun e => by
  have := bj (p := p) (L := L) (u := u) (by rw [e]; exact h0)
  rw [e] at this
  exact this.2
 have hdn : bU p L (oth p c u) = c → 0 < lat L (oth p c u) ∧ lat L u = lat L (oth p c u) - 1 := fun e => by
  have := bj (p := p) (L := L) (u := oth p c u) (by rw [e]; exact h0)
  rw [e, bu] at this
  exact this.2
 rcases h.d with e | e
 · have h1 := hup e
   exact .inl ⟨e, h1.1, h1.2, fun e2 => by have := hdn e2; omega⟩
 · have h1 := hdn e
   exact .inr ⟨e, by omega, h1.1, fun e2 => by have := hup e2; omega⟩
def msR (p : a8) (L : List Int) (u o : Int) : Nat := if bU p L u = o ∧ 0 ≤ o then ((p.1.length : Int) - lat L u).toNat else ((p.1.length : Int) + lat L u).toNat
theorem wq {p : a8} {L : List Int} (h : TrL p L) {u : Int} (hu : 0 ≤ u ∧ u < (p.1.length : Int)) : -1 ≤ lat L u ∧ lat L u < (p.1.length : Int) := ⟨h.lv.lo u.toNat (by omega), h.lv.hi u.toNat (by omega)⟩
theorem tK {p : a8} {L : List Int} (h : TrL p L) {u o c : Int} (hu : 0 ≤ u ∧ u < (p.1.length : Int)) (he : Ed p L u o c) : msR p L (oth p c u) c < msR p L u o := by
 obtain ⟨h0, hc⟩ := he.cases
 have hl := wq h hu
 have hv := wq h (pQ h.tr he.e)
 unfold msR
 rcases hc with ⟨e, h1, h2, h3⟩ | ⟨e, h1, h2, h3⟩
 · rw [if_neg (fun q => h3 q.1), if_neg (fun q => he.ne (e.symm.trans q.1))]
   omega
 · rw [if_pos ⟨e, h0⟩]
   split <;> omega
theorem po {p : a8} {L : List Int} (h : TrL p L) {u o : Int} (hu : 0 ≤ u ∧ u < (p.1.length : Int)) : msR p L u o < 40 := by
 have hl := wq h hu
 have := h.tr.n
 unfold msR
 split <;> omega
inductive De (p : a8) (L : List Int) (a : Int) : Int → Prop
 | refl : De p L a a
 | up (x : Int) (h : 0 ≤ bU p L x) (d : De p L a (oth p (bU p L x) x)) : De p L a x
theorem De.le {p : a8} {L : List Int} {a x : Int} (h : De p L a x) : lat L a ≤ lat L x := by
 induction h with
 | refl => exact Int.le_refl _
 | up x h d ih => have := (bj h).2.2; omega
theorem De.uniq {p : a8} {L : List Int} {a x : Int} (h : De p L a x) : ∀ b, De p L b x → lat L a = lat L b → a = b := by
 induction h with
 | refl =>
   intro b hb he
   cases hb with
   | refl => rfl
   | up _ h2 d2 => have := (bj h2).2.2; have := d2.le; omega
 | up x h1 d1 ih =>
   intro b hb he
   cases hb with
   | refl => have := (bj h1).2.2; have := d1.le; omega
   | up _ h2 d2 => exact ih b d2 he
theorem De.child {p : a8} {L : List Int} {a x : Int} (h : De p L a x) : x = a ∨ ∃ v, 0 ≤ bU p L v ∧ oth p (bU p L v) v = a ∧ De p L v x := by
 induction h with
 | refl => exact .inl rfl
 | up x h1 d1 ih =>
   rcases ih with e | ⟨v, h2, h3, h4⟩
   · exact .inr ⟨x, h1, e, .refl⟩
   · exact .inr ⟨v, h2, h3, .up x h1 h4⟩
theorem De.zZ {p : a8} {L : List Int} {v x : Int} (h : De p L v x) (hv : 0 ≤ bU p L v) : De p L (oth p (bU p L v) v) x := by
 induction h with
 | refl => exact .up v hv .refl
 | up x h1 d1 ih => exact .up x h1 ih
theorem De.root {p : a8} {L : List Int} (h : TrL p L) {r : Int} (hr : lvd p L r) (hr0 : lat L r = 0) : ∀ (n : Nat) (x : Int), lvd p L x → lat L x = (n : Int) → De p L r x
 | 0, x, hx, he => by
   obtain ⟨q, _, h2⟩ := h.lv.rt
   have e1 := (h2 x.toNat (by have := hx.1; omega)).1 he
   have e2 := (h2 r.toNat (by have := hr.1; omega)).1 hr0
   have : x = r := by have := hx.1; have := hr.1; omega
   rw [this]; exact .refl
 | n + 1, x, hx, he => by
   have hp := BG h hx.1 (by omega)
   obtain ⟨h1, h2, h3⟩ := bj hp
   exact .up x hp (De.root h hr hr0 n _ ⟨pQ h.tr h1, by omega⟩ (by omega))
def Sd (p : a8) (L : List Int) (u o x : Int) : Prop := lvd p L x ∧ (0 ≤ o → (bU p L u = o → De p L u x) ∧ (bU p L u ≠ o → ¬ De p L (oth p o u) x))
def Okv (p : a8) (L : List Int) (u o : Int) : Prop := lvd p L u ∧ (o < 0 ∨ (isE p o u ∧ (bU p L u = o ∨ bU p L (oth p o u) = o)))
theorem Okv.next {p : a8} {L : List Int} (h : TrL p L) {u o c : Int} (hu : Okv p L u o) (he : Ed p L u o c) : Okv p L (oth p c u) c := by
 obtain ⟨h0, hc⟩ := he.cases
 have hin := pQ h.tr he.e
 have hlu := hu.1.2
 refine ⟨⟨hin, by rcases hc with ⟨_, h1, h2, _⟩ | ⟨_, h1, h2, _⟩ <;> omega⟩, .inr ⟨BJ he.e, ?_⟩⟩
 rw [bu]
 exact he.d.symm
theorem Sd.self {p : a8} {L : List Int} {u o : Int} (hu : Okv p L u o) : Sd p L u o u := by
 refine ⟨hu.1, fun h0 => ⟨fun _ => .refl, fun hne hd => ?_⟩⟩
 rcases hu.2 with h1 | ⟨h1, h2⟩
 · omega
 · rcases h2 with h2 | h2
   · exact hne h2
   · have h3 := bj (p := p) (L := L) (u := oth p o u) (by rw [h2]; exact h0)
     rw [h2, bu] at h3
     have := hd.le
     omega
theorem Sd.apart {p : a8} {L : List Int} {u o c : Int} (he : Ed p L u o c) : ¬ Sd p L (oth p c u) c u := by
 obtain ⟨h0, hc⟩ := he.cases
 intro hs
 have hs := hs.2 h0
 rw [bu] at hs
 rcases hc with ⟨e, h1, h2, h3⟩ | ⟨e, h1, h2, h3⟩
 · exact hs.2 h3 .refl
 · have := (hs.1 e).le; omega
theorem Sd.sub {p : a8} {L : List Int} {u o c x : Int} (hu : Okv p L u o) (he : Ed p L u o c) (hs : Sd p L (oth p c u) c x) : Sd p L u o x := by
 obtain ⟨h0, hc⟩ := he.cases
 have hs2 := hs.2 h0
 rw [bu] at hs2
 refine ⟨hs.1, fun ho => ⟨fun e => ?_, fun hne hd => ?_⟩⟩
 · rcases hc with ⟨e1, _⟩ | ⟨e1, _⟩
   · exact absurd (e1.symm.trans e) he.ne
   · have h4 := hs2.1 e1
     have h5 := h4.zZ (by rw [e1]; exact h0)
     rw [e1, bu] at h5
     exact h5
 · rcases hu.2 with h1 | ⟨h1, h2⟩
   · omega
   · have h2 := h2.resolve_left hne
     have hw := bj (p := p) (L := L) (u := oth p o u) (by rw [h2]; exact ho)
     have hov := hd.zZ (by rw [h2]; exact ho)
     rw [h2, bu] at hw hov
     rcases hc with ⟨e1, _, _, h3⟩ | ⟨e1, h4, _⟩
     · exact hs2.2 h3 hov
     · have h5 := (hs2.1 e1).uniq _ hd (by omega)
       rw [h5, h2] at e1
       exact he.ne e1.symm
theorem Sd.two {p : a8} {L : List Int} {u o c1 c2 x : Int} (he1 : Ed p L u o c1) (he2 : Ed p L u o c2) (h1 : Sd p L (oth p c1 u) c1 x) (h2 : Sd p L (oth p c2 u) c2 x) : c1 = c2 := by
 obtain ⟨h01, hc1⟩ := he1.cases
 obtain ⟨h02, hc2⟩ := he2.cases
 have s1 := h1.2 h01
 have s2 := h2.2 h02
 rw [bu] at s1 s2
 rcases hc1 with ⟨e1, _, _, n1⟩ | ⟨e1, l1, _, n1⟩ <;> rcases hc2 with ⟨e2, _, _, n2⟩ | ⟨e2, l2, _, n2⟩
 · exact e1.symm.trans e2
 · have h5 := (s2.1 e2).zZ (by rw [e2]; exact h02)
   rw [e2, bu] at h5
   exact absurd h5 (s1.2 n1)
 · have h5 := (s1.1 e1).zZ (by rw [e1]; exact h01)
   rw [e1, bu] at h5
   exact absurd h5 (s2.2 n2)
 · have h5 := (s1.1 e1).uniq _ (s2.1 e2) (by omega)
   rw [h5] at e1
   exact e1.symm.trans e2
theorem Sd.cover {p : a8} {L : List Int} (h : TrL p L) {u o x : Int} (hu : Okv p L u o) (hs : Sd p L u o x) (hx : x ≠ u) : ∃ c, Ed p L u o c ∧ Sd p L (oth p c u) c x := by
 by_cases hd : De p L u x
 · rcases hd.child with e | ⟨v, h1, h2, h3⟩
   · exact absurd e hx
   · have hv := bj h1
     have hne : bU p L v ≠ o := fun e => by
      have ho : 0 ≤ o := by omega
      have hvo : oth p o u = v := by rw [← e, ← h2]; exact bu
      have hpu : bU p L u ≠ o := fun e2 => by
       have h5 := bj (p := p) (L := L) (u := u) (by rw [e2]; exact ho)
       rw [e2, hvo] at h5
       have := hv.2.2
       rw [h2] at this
       omega
      exact (hs.2 ho).2 hpu (by rw [hvo]; exact h3)
     have hou : oth p (bU p L v) u = v := by rw [← h2]; exact bu
     refine ⟨bU p L v, ⟨hne, by rw [← h2]; exact BJ hv.1, .inr (by rw [hou])⟩, hs.1, fun _ => ⟨fun _ => by rw [hou]; exact h3, fun hn => absurd (by rw [hou]) hn⟩⟩
 · have hup : o < 0 ∨ bU p L u ≠ o := by
    by_cases ho : o < 0
    · exact .inl ho
    · exact .inr fun e => hd ((hs.2 (by omega)).1 e)
   have hl : 0 < lat L u := by
    by_cases h0 : 0 < lat L u
    · exact h0
    · have h1 := hu.1.2
      have h2 := hs.1.2
      exact absurd (De.root h hu.1 (by omega) (lat L x).toNat x hs.1 (by omega)) hd
   have hp := BG h hu.1.1 hl
   have hv := bj hp
   have hne : bU p L u ≠ o := by
    rcases hup with h1 | h1
    · omega
    · exact h1
   have hpo : bU p L (oth p (bU p L u) u) ≠ bU p L u := fun e => by
    have h5 := bj (p := p) (L := L) (u := oth p (bU p L u) u) (by rw [e]; exact hp)
    rw [e, bu] at h5
    omega
   exact ⟨bU p L u, ⟨hne, hv.1, .inl rfl⟩, hs.1, fun _ => ⟨fun e => absurd e hpo, fun _ => by rw [bu]; exact hd⟩⟩
end Go.Proofs.YtcaoldilmnpjoaaGreat
