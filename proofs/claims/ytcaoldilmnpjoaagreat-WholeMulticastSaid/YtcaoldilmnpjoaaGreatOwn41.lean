/-
  Part Own41 of the proof.
-/
import Derived.Test.YtcaoldilmnpjoaaGreatOwn30
import Derived.Test.YtcaoldilmnpjoaaGreatOwn40
import Derived.Test.YtcaoldilmnpjoaaGreatOwn33
import Derived.Test.YtcaoldilmnpjoaaGreatOwn35
namespace Go.Proofs.YtcaoldilmnpjoaaGreat
set_option linter.all false
open Go.RowKit Go.Sx
def Lk (L : List Int) (M : StM) : Prop := ∀ e ∈ M, 0 ≤ lat L e.1.1
theorem put_mem {M : StM} {s : SK} {v : Int} {e : SK × Int} (h : e ∈ ak M s v) : e ∈ M ∨ e.1 = s := by
 induction M with
 | nil =>
   have h : e ∈ [(s, v)] := h
   rw [List.mem_singleton.1 h]; exact .inr rfl
 | cons q D ih =>
   obtain ⟨k, u⟩ := q
   have h : e ∈ (if k = s then (s, v) :: D else (k, u) :: ak D s v) := h
   split at h
   · rcases List.mem_cons.1 h with rfl | h
     · exact .inr rfl
     · exact .inl (List.mem_cons_of_mem _ h)
   · rcases List.mem_cons.1 h with rfl | h
     · exact .inl (List.mem_cons_self ..)
     · exact (ih h).imp (List.mem_cons_of_mem _) id
theorem Lk.put {L : List Int} {M : StM} (h : Lk L M) {s : SK} {v : Int} (hs : 0 ≤ lat L s.1) : Lk L (ak M s v) := fun e he => by
 rcases put_mem he with h1 | h1
 · exact h e h1
 · rw [h1]; exact hs
theorem Lk.imp {L : List Int} {M : StM} (h : Lk L M) {s : SK} {to : Int} (hs : 0 ≤ lat L s.1) : Lk L (dG L M s to).2 := by
 unfold dG
 split
 · split
   · split
     · split
       · exact h
       · exact h.put hs
     · exact h.put hs
   · exact h
 · exact h
theorem Lk.two {L : List Int} {S : Bool × StM} (h : Lk L S.2) {c : aY} {f : Bool} (ha : 0 ≤ lat L c.1) (hb : 0 ≤ lat L c.2.2.1) : Lk L (kJ L c f S).2 :=
 Lk.imp (Lk.imp h (s := (c.1, f)) ha) (s := (c.2.2.1, f)) hb
theorem Lk.cab {L : List Int} {S : Bool × StM} (h : Lk L S.2) {c : aY} {b : Bool} : Lk L (mR L c b S).2 := by
 unfold mR
 split
 · split
   · exact h
   · split
     · exact h
     · exact (h.two (by omega) (by omega)).two (by omega) (by omega)
 · exact h
theorem Lk.pas {L : List Int} {C : List aY} {up : List Bool} {M : StM} (h : Lk L M) : ∀ k : Nat, Lk L (ei L C up k M).2
 | 0 => h
 | k + 1 => (Lk.pas h k).cab
theorem Lk.srN {L : List Int} {C : List aY} {up : List Bool} : ∀ (k : Nat) (M : StM), Lk L M → Lk L (srN L C up k M)
 | 0, _, h => h
 | k + 1, M, h => by
   show Lk L (if _ then _ else _)
   split
   · exact Lk.srN k _ (h.pas _)
   · exact h.pas _
theorem srch_lk (L : List Int) (C : List aY) (up : List Bool) (n : Nat) (to : Int) : Lk L (dh L C up n to) := by
 unfold dh
 split
 · exact fun e he => by cases he
 · refine Lk.srN _ _ fun e he => ?_
   rcases List.mem_cons.1 he with rfl | he
   · show 0 ≤ lat L to; omega
   · rw [List.mem_singleton.1 he]; show 0 ≤ lat L to; omega
theorem rsL_lv {L : List Int} {M : StM} (h : Lk L M) {f : Bool} {n : Nat} {x : Int} (h0 : 0 ≤ x) (h1 : x < (n : Int)) (hx : 0 ≤ lat (rsL M f n) x) : 0 ≤ lat L x := by
 have e : lat (rsL M f n) x = if (gS M (x, f)).isSome = true then (gS M (x, f)).getD 0 else -1 := by
  unfold rsL
  show List.getD _ _ _ = _
  rw [getD_map _ _ (show x.toNat < n by omega), Int.toNat_of_nonneg h0]
 rw [e] at hx
 split at hx
 · rename_i hs
   cases hg : gS M (x, f) with
   | none => rw [hg] at hs; cases hs
   | some v => exact h _ (kf hg)
 · omega
theorem abv_l {L : List Int} {a b : Int} (h : (ae (L, ()) a b).1 = true) : 0 ≤ lat L a := by
 unfold ae at h
 split at h <;> (try (cases h; done))
 split at h <;> (try (cases h; done))
 split at h <;> (try (cases h; done))
 assumption
theorem chb_lv {p : a8} {o : ab} {up : List Bool} {t : Nat} {node left : Int} {may : Bool} {i : Nat} (h : chB (chS p o up t) node left may i = true) (h0 : 0 ≤ (acF (p.2.getD i z6) node).1) (h1 : (acF (p.2.getD i z6) node).1 < (p.1.length : Int)) : 0 ≤ lat o.1 (acF (p.2.getD i z6) node).1 := by
 unfold chB at h
 split at h <;> (try (cases h; done))
 rename_i hl
 split at h <;> (try (cases h; done))
 split at h <;> (try (cases h; done))
 split at h
 · rename_i ha
   exact abv_l ha
 · have h2 := of_decide_eq_true h
   exact rsL_lv (srch_lk _ _ _ _ _) h0 h1 (by show 0 ≤ lat (chS p o up t).F _; simp only [chS] at h2 ⊢; omega)
theorem ac_in2 {p : a8} (hE : bd p.2 p.1.length) {i : Nat} (hi : i < p.2.length) {v : Int} (h : (acF (p.2.getD i z6) v).2.1 = true) : 0 ≤ (acF (p.2.getD i z6) v).1 ∧ (acF (p.2.getD i z6) v).1 < (p.1.length : Int) := by
 have h1 := hE _ (eU hi)
 unfold acF at h ⊢
 split
 · exact h1.2.1
 · rename_i h2
   rw [if_neg h2] at h
   split
   · exact h1.1
   · rename_i h3
     rw [if_neg h3] at h; cases h
theorem ent_lv {p : a8} {o : ab} {up : List Bool} (hE : bd p.2 p.1.length) {k t ph : Nat} (hph : ph < 2) (h : 0 ≤ dP p o up (2 * k + ph) t) : 0 ≤ lat o.1 (acF (p.2.getD (dP p o up (2 * k + ph) t).toNat z6) (k : Int)).1 := by
 have e1 : (2 * k + ph) / 2 = k := by omega
 have e2 : (2 * k + ph) % 2 = ph := by omega
 have key : ∀ (left : Int) (may : Bool), 0 ≤ chI (chS p o up t) (k : Int) left may → 0 ≤ lat o.1 (acF (p.2.getD (chI (chS p o up t) (k : Int) left may).toNat z6) (k : Int)).1 := fun left may hc => by
  unfold chI at hc ⊢
  rcases mP (chB (chS p o up t) (k : Int) left may) (chS p o up t).p2.length 0 with h1 | ⟨i, _, h2, h3, h4⟩
  · rw [h1] at hc; exact absurd hc (by decide)
  · rw [h4, Int.toNat_natCast]
    have h5 : i < p.2.length := by simp only [chS] at h2; omega
    have h6 := ac_in2 hE h5 (tl h3).1
    exact chb_lv h3 h6.1 h6.2
 unfold dP at h ⊢
 rw [e1, e2] at h ⊢
 split at h
 · omega
 · rename_i hk
   rw [if_neg hk]
   split at h
   · rename_i h0
     rw [if_pos h0]; exact key _ _ h
   · rename_i h0
     rw [if_neg h0]; exact key _ _ h
structure oD (p : a8) (L : List Int) (d : aT) : Prop where
 c : 0 ≤ d.1 ∧ d.1 < 2 * (p.2.length : Int)
 t : 0 ≤ d.2.1 ∧ d.2.1 < 2 * (p.2.length : Int)
 n : 0 ≤ d.2.2 ∧ d.2.2 < 16
 mid : (aM p d.2.1).1 = (aM p d.1).2.1
 lu : 0 ≤ lat L (aM p d.1).1
 lv : 0 ≤ lat L (aM p d.1).2.1
 lw : 0 ≤ lat L (aM p d.2.1).2.1
 leg : ¬ (ae (L, ()) (aM p d.1).2.1 (aM p d.1).1).1 = true → ¬ (ae (L, ()) (aM p d.2.1).2.1 (aM p d.1).2.1).1 = true
theorem row_lv {p : a8} {o : ab} {up : List Bool} (hE : bd p.2 p.1.length) {k : Int} (h0 : 0 ≤ k) (h1 : k < (p.1.length : Int)) {ph to : Nat} (hph : ph = 0 ∨ ph = 1) (ht : to < p.1.length) (h : 0 ≤ (j1 (fg (dP p o up) p.1.length, ()) k ph).getD to 0) :
 0 ≤ lat o.1 (acF (p.2.getD ((j1 (fg (dP p o up) p.1.length, ()) k ph).getD to 0).toNat z6) k).1 := by
 have hk : k.toNat < p.1.length := by omega
 have hkk : ((k.toNat : Nat) : Int) = k := Int.toNat_of_nonneg h0
 have e1 : (fg (dP p o up) p.1.length).getD k.toNat ([], []) = ((List.range p.1.length).map (dP p o up (2 * k.toNat)), (List.range p.1.length).map (dP p o up (2 * k.toNat + 1))) := getD_map _ _ hk
 have e2 : (j1 (fg (dP p o up) p.1.length, ()) k ph).getD to 0 = dP p o up (2 * k.toNat + ph) to := by
  rcases hph with rfl | rfl
  · show ((fg (dP p o up) p.1.length).getD k.toNat ([], [])).1.getD to 0 = _
    rw [e1]; exact getD_map _ _ ht
  · show ((fg (dP p o up) p.1.length).getD k.toNat ([], [])).2.getD to 0 = _
    rw [e1]; exact getD_map _ _ ht
 rw [e2] at h ⊢
 have := ent_lv (o := o) (up := up) hE (by omega) h
 rw [hkk] at this
 exact this
theorem Bu {p : a8} {o : ab} {up : List Bool} (h : DpP p o (fg (dP p o up) p.1.length, ())) {d : aT} (hd : d ∈ qX p o (fg (dP p o up) p.1.length, ())) : oD p o.1 d := by
 have hf := Bv h hd
 have hE : bd p.2 p.1.length := bD h.lv.ok
 obtain ⟨c, hc, hm⟩ := vk hd
 have hc0 : (0 : Int) ≤ (c : Int) := by omega
 have hc1 : (c : Int) < 2 * (p.2.length : Int) := by omega
 obtain ⟨hu, hv, hne⟩ := jm hE hc0 hc1
 unfold cP at hm
 split at hm
 · cases hm
 rename_i hlu
 split at hm
 · cases hm
 rename_i hlv
 have hph : ∃ ph to, (ph = 0 ∨ ph = 1) ∧ to < p.1.length ∧ dpE p o (fg (dP p o up) p.1.length, ()) (c : Int) ph to = some d := by
  rcases List.mem_append.1 hm with hm | hm
  · obtain ⟨to, h1, h2⟩ := tz hm; exact ⟨0, to, .inl rfl, h1, h2⟩
  · obtain ⟨to, h1, h2⟩ := tz hm; exact ⟨1, to, .inr rfl, h1, h2⟩
 obtain ⟨ph, to, hph, hto, he⟩ := hph
 unfold dpE at he
 split at he <;> (try (cases he; done))
 split at he <;> cases he
 rename_i hx
 have haft : gk p o (c : Int) ph = 0 ∨ gk p o (c : Int) ph = 1 := by unfold gk; split; split; exact .inl rfl; exact .inr rfl; exact .inr rfl
 have hok := B2 h.tb hv.1 hv.2 haft hto
 have hlw := row_lv (o := o) (up := up) hE hv.1 hv.2 haft hto hx
 obtain ⟨k1, k2, k3⟩ := pT hok hx
 have hvv : (((aM p (c : Int)).2.1.toNat : Nat) : Int) = (aM p (c : Int)).2.1 := Int.toNat_of_nonneg hv.1
 rw [hvv] at k2 k3
 obtain ⟨w1, w2⟩ := jk hx k2
 obtain ⟨L, ou⟩ := o
 dsimp only at hlu hlv k3 hlw
 have hout : ¬ (ae (L, ()) (aM p (c : Int)).2.1 (aM p (c : Int)).1).1 = true → gk p (L, ou) (c : Int) ph = 1 := fun h => by
  unfold gk
  by_cases h0 : ph = 0
  · rw [if_pos h0, if_neg h]
  · rw [if_neg h0]
 refine ⟨hf.1, hf.2.1, hf.2.2.1, w1, by dsimp only; omega, by dsimp only; omega, ?_, fun hl => ?_⟩
 · dsimp only; rw [w2]; exact hlw
 · dsimp only
   rw [w2, k3 (hout hl)]; decide
theorem BF {n : Nat} {S : List Int} (hn : S.Nodup) (hr : ∀ x ∈ S, 0 ≤ x ∧ x < (n : Int)) : ∀ (j i : Nat), j ≤ S.length → (hi : i < j) → (plJ n S j).getD (S.getD i 0).toNat 0 = (i : Int)
 | 0, _, _, hi => absurd hi (Nat.not_lt_zero _)
 | j + 1, i, hj, hi => by
   have hg : ∀ k, k < S.length → S.getD k 0 ∈ S := fun k hk => ll hk
   have h1 := hr _ (hg i (by omega))
   show ((plJ n S j).set (S.getD j 0).toNat (j : Int)).getD _ 0 = _
   rw [List.getD_eq_getElem?_getD, List.getElem?_set]
   by_cases e : i = j
   · subst e
     rw [if_pos rfl, if_pos (by rw [oX]; omega)]; rfl
   · have h2 := hr _ (hg j (by omega))
     have hne : S.getD j 0 ≠ S.getD i 0 := fun q => by
      rw [List.getD_eq_getElem?_getD, List.getD_eq_getElem?_getD, List.getElem?_eq_getElem (by omega), List.getElem?_eq_getElem (by omega)] at q
      exact List.pairwise_iff_getElem.1 hn i j (by omega) (by omega) (by omega) q.symm
     rw [if_neg (by omega), ← List.getD_eq_getElem?_getD]
     exact BF hn hr j i (by omega) (by omega)
theorem plL_at {L : List Int} {i : Nat} (h : i < (srL L).length) : (plL L).getD ((srL L).getD i 0).toNat 0 = (i : Int) := by
 unfold plL
 refine BF ((fC _ _).nodup_iff.2 (wc L _)) (fun x hx => ?_) _ _ (Nat.le_refl _) h
 have := sV.1 hx
 omega
theorem tA {L : List Int} {a : Int} (h0 : 0 ≤ a) (h1 : a < (L.length : Int)) (hl : 0 ≤ lat L a) : ∃ i, i < (srL L).length ∧ (srL L).getD i 0 = a ∧ (plL L).getD a.toNat 0 = (i : Int) := by
 obtain ⟨i, hi, e⟩ := List.mem_iff_getElem.1 (sV.2 ⟨h0, h1, hl⟩)
 have e2 : (srL L).getD i 0 = a := by rw [List.getD_eq_getElem?_getD, List.getElem?_eq_getElem hi]; exact e
 exact ⟨i, hi, e2, by rw [← e2]; exact plL_at hi⟩
theorem pN {L : List Int} {a : Int} (h0 : 0 ≤ a) (h1 : a < (L.length : Int)) (hl : 0 ≤ lat L a) : 0 ≤ (plL L).getD a.toNat 0 ∧ (plL L).getD a.toNat 0 < (L.length : Int) := by
 obtain ⟨i, hi, _, e⟩ := tA h0 h1 hl
 have := sW L
 omega
theorem BE {L : List Int} {a b : Int} (ha0 : 0 ≤ a) (ha1 : a < (L.length : Int)) (hla : 0 ≤ lat L a) (hb0 : 0 ≤ b) (hb1 : b < (L.length : Int)) (hlb : 0 ≤ lat L b) (h : lat L a < lat L b ∨ (lat L a = lat L b ∧ a < b)) : (plL L).getD a.toNat 0 < (plL L).getD b.toNat 0 := by
 obtain ⟨i, hi, e1, e2⟩ := tA ha0 ha1 hla
 obtain ⟨j, hj, e3, e4⟩ := tA hb0 hb1 hlb
 rw [e2, e4]
 rcases Nat.lt_trichotomy i j with h1 | h1 | h1
 · omega
 · subst h1
   rw [e1] at e3
   subst e3
   omega
 · exfalso
   have h2 := List.pairwise_iff_getElem.1 (uV L (iH L L.length)) j i hj hi h1
   have e5 : (srL L)[j] = b := by rw [← e3, List.getD_eq_getElem?_getD, List.getElem?_eq_getElem hj]; rfl
   have e6 : (srL L)[i] = a := by rw [← e1, List.getD_eq_getElem?_getD, List.getElem?_eq_getElem hi]; rfl
   have h2 : (!ltP L (srL L)[i] (srL L)[j]) = true := h2
   rw [e5, e6] at h2
   simp only [ltP, Bool.not_eq_true', decide_eq_false_iff_not] at h2
   exact h2 h
theorem rkV_lt {L : List Int} {u v w : Int} (hu : 0 ≤ u ∧ u < (L.length : Int)) (hv : 0 ≤ v ∧ v < (L.length : Int)) (hw : 0 ≤ w ∧ w < (L.length : Int)) (hlu : 0 ≤ lat L u) (hlv : 0 ≤ lat L v) (hlw : 0 ≤ lat L w) (hvw : w ≠ v)
 (hleg : ¬ (ae (L, ()) v u).1 = true → ¬ (ae (L, ()) w v).1 = true) : rkV L (plL L) (L.length : Int) u v < rkV L (plL L) (L.length : Int) v w := by
 unfold rkV
 rw [if_neg (show ¬ L.getD u.toNat 0 < 0 by unfold lat at hlu; omega), if_neg (show ¬ L.getD v.toNat 0 < 0 by unfold lat at hlv; omega), if_neg (show ¬ L.getD v.toNat 0 < 0 by unfold lat at hlv; omega), if_neg (show ¬ L.getD w.toNat 0 < 0 by unfold lat at hlw; omega)]
 have pu := pN hu.1 hu.2 hlu
 have pv := pN hv.1 hv.2 hlv
 have pw := pN hw.1 hw.2 hlw
 have a1 := jy (L := L) rfl hv hu
 have a2 := jy (L := L) rfl hw hv
 by_cases h1 : (ae (L, ()) v u).1 = true
 · rw [if_pos h1]
   have h3 := BE hv.1 hv.2 hlv hu.1 hu.2 hlu (a1.1 h1).2.2
   split <;> omega
 · rw [if_neg h1, if_neg (hleg h1)]
   have h4 := hleg h1
   rw [a2] at h4
   have h3 := BE hv.1 hv.2 hlv hw.1 hw.2 hlw (by omega)
   omega
theorem uk (p : a8) (L : List Int) : ∀ (m k : Nat), k < m → (eT p L m).getD (2 * k) 0 = rkV L (plL L) (p.1.length : Int) (cab p (k : Int)).1 (cab p (k : Int)).2.2.1 ∧ (eT p L m).getD (2 * k + 1) 0 = rkV L (plL L) (p.1.length : Int) (cab p (k : Int)).2.2.1 (cab p (k : Int)).1
 | 0, _, h => absurd h (Nat.not_lt_zero _)
 | m + 1, k, h => by
   rw [mj]
   by_cases e : k = m
   · subst e
     have hl := j2 p L k
     rw [List.getD_eq_getElem?_getD, List.getD_eq_getElem?_getD, List.getElem?_append_right (by omega), List.getElem?_append_right (by omega), hl, Nat.sub_self, show 2 * k + 1 - 2 * k = 1 by omega]
     exact ⟨rfl, rfl⟩
   · have hl := j2 p L m
     have ih := uk p L m k (by omega)
     rw [List.getD_eq_getElem?_getD, List.getD_eq_getElem?_getD, List.getElem?_append_left (by omega), List.getElem?_append_left (by omega), ← List.getD_eq_getElem?_getD, ← List.getD_eq_getElem?_getD]
     exact ih
theorem uj {p : a8} {L : List Int} {c : Int} (h0 : 0 ≤ c) (h1 : c < 2 * (p.2.length : Int)) : (eT p L p.2.length).getD c.toNat 0 = rkV L (plL L) (p.1.length : Int) (aM p c).1 (aM p c).2.1 := by
 have hg := uk p L p.2.length (c / 2).toNat (by omega)
 have e1 : (((c / 2).toNat : Nat) : Int) = c / 2 := Int.toNat_of_nonneg (by omega)
 rw [e1] at hg
 unfold aM
 by_cases h : c % 2 = 0
 · rw [if_pos h, show c.toNat = 2 * (c / 2).toNat by omega]
   exact hg.1
 · rw [if_neg h, show c.toNat = 2 * (c / 2).toNat + 1 by omega]
   exact hg.2
theorem oD.rk {p : a8} {L : List Int} {d : aT} (h : oD p L d) (hE : bd p.2 p.1.length) (hL : L.length = p.1.length) : (eT p L p.2.length).getD d.1.toNat 0 < (eT p L p.2.length).getD d.2.1.toNat 0 := by
 rw [uj h.c.1 h.c.2, uj h.t.1 h.t.2, h.mid, ← hL]
 have h1 := jm hE h.c.1 h.c.2
 have h2 := jm hE h.t.1 h.t.2
 have h3 := h.lw
 have h4 := h.leg
 rw [h.mid] at h2
 rw [← hL] at h1 h2
 exact rkV_lt h1.1 h1.2.1 h2.2.1 h.lu h.lv h3 (fun e => h2.2.2 e.symm) h4
end Go.Proofs.YtcaoldilmnpjoaaGreat
