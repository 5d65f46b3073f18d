/-
  Part Own38 of the proof.
-/
import Derived.Test.YtcaoldilmnpjoaaGreatOwn37
import Derived.Test.YtcaoldilmnpjoaaGreatOwn16
namespace Go.Proofs.YtcaoldilmnpjoaaGreat
set_option linter.all false
open Go.RowKit Go.Sx
theorem xT {n : Nat} {L : List Int} (hl : L.length = n) {a b : Int} (ha : 0 ≤ a ∧ a < (n : Int)) (hb : 0 ≤ b ∧ b < (n : Int)) : (ae (L, ()) a b).1 = true ↔ 0 ≤ lat L a ∧ 0 ≤ lat L b ∧ (lat L a < lat L b ∨ (lat L a = lat L b ∧ a < b)) := by
 unfold ae
 rw [if_pos ha.1, if_pos (show a < (L.length : Int) by rw [hl]; exact ha.2)]
 dsimp only
 by_cases h1 : 0 ≤ lat L a
 · rw [if_pos h1, if_pos hb.1, if_pos (show b < (L.length : Int) by rw [hl]; exact hb.2)]
   by_cases h2 : 0 ≤ lat L b
   · rw [if_pos h2]
     show abv L a b = true ↔ _
     rw [yS]
     exact ⟨fun h => ⟨h1, h2, h⟩, fun h => h.2.2⟩
   · rw [if_neg h2]
     exact ⟨fun h => (by cases h), fun h => absurd h.2.1 h2⟩
 · rw [if_neg h1]
   exact ⟨fun h => (by cases h), fun h => absurd h.1 h1⟩
section
variable {p : a8} {L : List Int} {wd : List (Int × Bool)}
theorem vx (h : TrL p L) : ∀ (k : Nat) (u o : Int), Okv p L u o → (apL p (ay p L) wd k u o).Nodup
 | 0, _, _, _ => List.nodup_nil
 | k + 1, u, o, hu => by
   unfold apL
   refine List.pairwise_flatMap.2 ⟨fun c hc => ?_, ?_⟩
   · split
     · rename_i hk
       have hed := eb h hu hk
       refine List.nodup_append.2 ⟨vx h k _ _ (hu.next h hed), by split <;> simp, fun a ha b hb e => ?_⟩
       split at hb <;> (try (cases hb; done))
       have h1 := (iZ h k _ _ (hu.next h hed) a ha).1
       rw [e, List.mem_singleton.1 hb] at h1
       exact Sd.apart hed h1
     · exact List.nodup_nil
   · refine List.nodup_range.imp fun {a b} hab x hx y hy hxy => hab ?_
     subst hxy
     split at hx <;> (try (cases hx; done))
     rename_i hk1
     split at hy <;> (try (cases hy; done))
     rename_i hk2
     have d1 := eb h hu hk1
     have d2 := eb h hu hk2
     rcases List.mem_append.1 hx with hx | hx <;> rcases List.mem_append.1 hy with hy | hy
     · have := Sd.two d1 d2 (iZ h k _ _ (hu.next h d1) x hx).1 (iZ h k _ _ (hu.next h d2) x hy).1
       omega
     · split at hy <;> (try (cases hy; done))
       have h1 := (iZ h k _ _ (hu.next h d1) x hx).1
       rw [List.mem_singleton.1 hy] at h1
       exact absurd h1 (Sd.apart d1)
     · split at hx <;> (try (cases hx; done))
       have h1 := (iZ h k _ _ (hu.next h d2) x hy).1
       rw [List.mem_singleton.1 hx] at h1
       exact absurd h1 (Sd.apart d2)
     · split at hx <;> (try (cases hx; done))
       split at hy <;> (try (cases hy; done))
       have e1 := List.mem_singleton.1 hx
       have e2 := List.mem_singleton.1 hy
       rw [e1] at e2
       have := congrArg Prod.snd e2
       dsimp only at this
       omega
theorem CC (h : TrL p L) {k : Nat} {u o : Int} (hu : Okv p L u o) : (apL p (ay p L) wd k u o).length ≤ 512 := by
 have h1 := nC (l := apL p (ay p L) wd k u o) (m := (List.range 16).flatMap fun x : Nat => (List.range 32).map fun c : Nat => ((x : Int), (c : Int))) (vx h k u o hu) (fun e he => by
  obtain ⟨h1, h2, h3⟩ := iZ h k u o hu e he
  have h4 := h1.1.1
  have hn := h.tr.n
  have hc := h.tr.c
  refine List.mem_flatMap.2 ⟨e.1.toNat, List.mem_range.2 (by omega), List.mem_map.2 ⟨e.2.toNat, List.mem_range.2 (by omega), ?_⟩⟩
  rw [Int.toNat_of_nonneg h4.1, Int.toNat_of_nonneg h2])
 rw [List.length_flatMap] at h1
 simp only [List.length_map, List.length_range] at h1
 exact Nat.le_trans h1 (by decide)
inductive TPm (p : a8) (L : List Int) (T : List (Int × Int)) (s : Int) : Int → Int → List Int → Prop
 | root (h : (s, -1) ∈ T) : TPm p L T s s (-1) []
 | step (y oy c : Int) (w : List Int) (h : TPm p L T s y oy w) (e : Ed p L y oy c) (m : (oth p c y, c) ∈ T) : TPm p L T s (oth p c y) c (w ++ [c])
theorem TPm.mem {T : List (Int × Int)} {s x ox : Int} {w : List Int} (h : TPm p L T s x ox w) : (x, ox) ∈ T := by
 cases h with
 | root h => exact h
 | step y oy c w h e m => exact m
theorem tp_ex (h : TrL p L) {T : List (Int × Int)} {s : Int} : ∀ (k : Nat) (u o : Int) (w : List Int), Okv p L u o → (∀ e ∈ trT p (ay p L) wd k u o, e ∈ T) → TPm p L T s u o w → ∀ e ∈ trT p (ay p L) wd k u o, ∃ w', TPm p L T s e.1 e.2 w'
 | 0, _, _, _, _, _, _, e, he => by cases he
 | k + 1, u, o, w, hu, hT, hw, e, he => by
   unfold trT at he hT
   rcases List.mem_cons.1 he with rfl | he
   · exact ⟨w, hw⟩
   · obtain ⟨c, hc, he⟩ := List.mem_flatMap.1 he
     split at he <;> (try (cases he; done))
     rename_i hk
     have hed := eb h hu (fQ hk).1
     have hsub : ∀ e ∈ trT p (ay p L) wd k (oth p (c : Int) u) (c : Int), e ∈ T := fun e he => hT e (List.mem_cons_of_mem _ (List.mem_flatMap.2 ⟨c, hc, by rw [if_pos hk]; exact he⟩))
     have hhead : (oth p (c : Int) u, (c : Int)) ∈ T := by
      cases k with
      | zero => cases he
      | succ k => exact hsub _ (by unfold trT; exact List.mem_cons_self ..)
     exact tp_ex h k _ _ _ (hu.next h hed) hsub (.step u o (c : Int) w hw hed hhead) e he
theorem dO (s : Int) (w : List Int) (c : Int) {i : Nat} (h : i ≤ w.length) : b6 p s (w ++ [c]) i = b6 p s w i := by
 unfold b6
 rw [List.take_append_of_le_length h]
theorem jC {w : List Int} {c : Int} {i : Nat} (h : i < w.length) : (w ++ [c]).getD i 0 = w.getD i 0 := by
 rw [List.getD_eq_getElem?_getD, List.getElem?_append_left h, List.getD_eq_getElem?_getD]
theorem er {w : List Int} {c : Int} : (w ++ [c]).getD w.length 0 = c := by
 rw [List.getD_eq_getElem?_getD, List.getElem?_append_right (Nat.le_refl _)]; simp
theorem vd (s : Int) (w : List Int) (c : Int) : ∀ {i : Nat}, i ≤ w.length → nR p L s (w ++ [c]) i = nR p L s w i
 | 0, _ => rfl
 | i + 1, h => by
   show (!(ae (L, ()) (b6 p s (w ++ [c]) (i + 1)) (b6 p s (w ++ [c]) i)).1) = !(ae (L, ()) (b6 p s w (i + 1)) (b6 p s w i)).1
   rw [dO s w c h, dO s w c (by omega)]
theorem AQ {c u : Int} (h : isE p c u) : (acF (p.2.getD c.toNat z6) u).2.1 = true ∧ (acF (p.2.getD c.toNat z6) u).1 = oth p c u := by
 unfold acF
 rcases BI h with ⟨h1, h2⟩ | ⟨h1, h2⟩
 · rw [if_pos h1.symm]; exact ⟨rfl, h2⟩
 · by_cases e : u = (p.2.getD c.toNat z6).1
   · rw [if_pos e]
     refine ⟨rfl, ?_⟩
     show (cab p c).2.2.1 = oth p c u
     have e3 : u = (cab p c).1 := e
     rw [h1, ← h2, ← e3]
   · rw [if_neg e, if_pos h1.symm]; exact ⟨rfl, h2⟩
structure ia (p : a8) (L : List Int) (s x ox : Int) (w : List Int) : Prop where
 ok : Okv p L x ox
 nod : b6 p s w w.length = x
 lv : ∀ i, i ≤ w.length → lvd p L (b6 p s w i)
 ac : ∀ i, i < w.length → isE p (w.getD i 0) (b6 p s w i)
 st : ∀ i, i < w.length → (p7 L (b6 p s w i, nR p L s w i) (b6 p s w (i + 1))).2.1 = true
 ne : ∀ i, 0 < i → i < w.length → w.getD i 0 ≠ w.getD (i - 1) 0
 fal : nR p L s w w.length = true → bU p L x = ox
 last : 0 < w.length → w.getD (w.length - 1) 0 = ox
 len : w.length + msR p L x ox ≤ msR p L s (-1)
theorem ia.root {s : Int} (hs : Okv p L s (-1)) : ia p L s s (-1) [] := ⟨hs, rfl, fun i hi => (by
 have : i = 0 := by simpa using hi
 subst this; exact hs.1), fun i hi => absurd hi (Nat.not_lt_zero _), fun i hi => absurd hi (Nat.not_lt_zero _), fun i _ hi => absurd hi (Nat.not_lt_zero _), fun h => (by cases h), fun h => absurd h (Nat.not_lt_zero _), (by simp)⟩
theorem ia.step (h : TrL p L) {s y oy c : Int} {w : List Int} (g : ia p L s y oy w) (he : Ed p L y oy c) : ia p L s (oth p c y) c (w ++ [c]) := by
 obtain ⟨h0, hc⟩ := he.cases
 have hv := g.ok.next h he
 have hy := g.ok.1
 have hnew : b6 p s (w ++ [c]) (w.length + 1) = oth p c y := by
  rw [jh p s (w ++ [c]) (by simp), er, dO s w c (Nat.le_refl _), g.nod]
  exact (AQ he.e).2
 have hold : b6 p s (w ++ [c]) w.length = y := by rw [dO s w c (Nat.le_refl _), g.nod]
 have hab := xT h.lv.len hv.1.1 hy.1
 have hl : (w ++ [c]).length = w.length + 1 := by simp
 refine ⟨hv, by rw [hl]; exact hnew, fun i hi => ?_, fun i hi => ?_, fun i hi => ?_, fun i hi1 hi => ?_, fun hf => ?_, fun _ => ?_, ?_⟩
 · rw [hl] at hi
   by_cases e : i = w.length + 1
   · rw [e, hnew]; exact hv.1
   · rw [dO s w c (by omega)]; exact g.lv i (by omega)
 · rw [hl] at hi
   by_cases e : i = w.length
   · rw [e, er, hold]; exact he.e
   · rw [jC (by omega), dO s w c (by omega)]; exact g.ac i (by omega)
 · rw [hl] at hi
   by_cases e : i = w.length
   · rw [e, hold, hnew, vd s w c (Nat.le_refl _)]
     show (if (ae (L, ()) (oth p c y) y).1 = true then (((oth p c y, false), !nR p L s w w.length, ()) : Tup [DT.cell SKE, DT.cell .bool]) else ((oth p c y, true), true, ())).2.1 = true
     split
     · rename_i ha
       show (!nR p L s w w.length) = true
       cases hf : nR p L s w w.length
       · rfl
       · exfalso
         have h5 := g.fal hf
         rcases hc with ⟨e1, _⟩ | ⟨e1, h6, _⟩
         · exact he.ne (e1.symm.trans h5)
         · have := hab.1 ha; omega
     · rfl
   · rw [dO s w c (by omega), dO s w c (by omega), vd s w c (by omega)]; exact g.st i (by omega)
 · rw [hl] at hi
   by_cases e : i = w.length
   · rw [e, er, jC (by omega), g.last (by omega)]; exact he.ne
   · rw [jC (by omega), jC (by omega)]; exact g.ne i hi1 (by omega)
 · rw [hl] at hf
   have hf : (!(ae (L, ()) (b6 p s (w ++ [c]) (w.length + 1)) (b6 p s (w ++ [c]) w.length)).1) = true := hf
   rw [hnew, hold] at hf
   rcases hc with ⟨e1, h6, h7, _⟩ | ⟨e1, _⟩
   · have : (ae (L, ()) (oth p c y) y).1 = true := hab.2 ⟨hv.1.2, hy.2, .inl (by omega)⟩
     rw [this] at hf; cases hf
   · exact e1
 · rw [hl, Nat.add_sub_cancel, er]
 · have := tK h hy.1 he
   have := g.len
   rw [hl]; omega
theorem TPm.ok (h : TrL p L) {T : List (Int × Int)} {s x ox : Int} {w : List Int} (hs : Okv p L s (-1)) (ht : TPm p L T s x ox w) : ia p L s x ox w := by
 induction ht with
 | root _ => exact .root hs
 | step y oy c w _ e _ ih => exact ih.step h e
theorem ia.lgP {ou : Unit} (hV : LvP p (L, ou)) (h : TrL p L) {s x ox : Int} {w : List Int} (hs : lvd p L s) (g : ia p L s x ox w) : LgP p (L, ou) s w := by
 have hms := po h (o := -1) hs.1
 have hgl := g.len
 exact ⟨⟨hV.pl, hV.ok, hs.1, by omega, fun i hi => (dR (g.ac i hi)).1, fun i hi => (AQ (g.ac i hi)).1⟩, hV, fun i hi => ⟨(g.lv i hi).1, (g.lv i hi).2⟩, g.st, g.ne⟩
end
abbrev fp := List (List Int)
def CN (p : a8) (O : fp) : Nat → Int → Int → Prop
 | 0, _, _ => False
 | k + 1, u, _ => (0 ≤ u ∧ u < (p.1.length : Int)) ∧ ∀ c ∈ O.getD u.toNat [], isE p c u ∧ CN p O k (oth p c u) c
def cu (V : List Int) (l : List (Int × Int)) : List Int := l.foldl (fun V e => V.set e.1.toNat e.2) V
theorem z8 (V : List Int) (l m : List (Int × Int)) : cu V (l ++ m) = cu (cu V l) m := List.foldl_append ..
theorem mi : ∀ (l : List (Int × Int)) (V : List Int), (cu V l).length = V.length
 | [], _ => rfl
 | e :: l, V => by show (cu (V.set e.1.toNat e.2) l).length = _; rw [mi l, List.length_set]
theorem jX : ∀ (l : List (Int × Int)) (V : List Int) (x : Int), 0 ≤ x → (∀ e ∈ l, 0 ≤ e.1 ∧ e.1 ≠ x) → (cu V l).getD x.toNat 0 = V.getD x.toNat 0
 | [], _, _, _, _ => rfl
 | e :: l, V, x, hx, h => by
   show (cu (V.set e.1.toNat e.2) l).getD _ 0 = _
   rw [jX l _ x hx fun q hq => h q (List.mem_cons_of_mem _ hq)]
   have := h e (List.mem_cons_self ..)
   rw [List.getD_eq_getElem?_getD, List.getElem?_set, if_neg (by omega), ← List.getD_eq_getElem?_getD]
theorem uc : ∀ (l : List (Int × Int)) (V : List Int) (x c : Int), (x, c) ∈ l → (l.map Prod.fst).Nodup → (∀ e ∈ l, 0 ≤ e.1 ∧ e.1.toNat < V.length) → (cu V l).getD x.toNat 0 = c
 | [], _, _, _, h, _, _ => by cases h
 | e :: l, V, x, c, h, hn, hr => by
   show (cu (V.set e.1.toNat e.2) l).getD _ 0 = _
   have h0 := hr e (List.mem_cons_self ..)
   obtain ⟨h1, h2⟩ := List.nodup_cons.1 (show (e.1 :: l.map Prod.fst).Nodup from hn)
   rcases List.mem_cons.1 h with rfl | h
   · rw [jX l _ x h0.1 fun q hq => ⟨(hr q (List.mem_cons_of_mem _ hq)).1, fun e => h1 (show x ∈ l.map Prod.fst by rw [← e]; exact List.mem_map_of_mem (f := Prod.fst) hq)⟩]
     rw [List.getD_eq_getElem?_getD, List.getElem?_set, if_pos rfl, if_pos h0.2]; rfl
   · exact uc l _ x c h h2 fun q hq => by rw [List.length_set]; exact hr q (List.mem_cons_of_mem _ hq)
theorem sm {p : a8} {O : fp} : ∀ (k : Nat) (u c : Int), CN p O k u c → ∀ e ∈ rlT p O k u c, 0 ≤ e.1 ∧ e.1 < (p.1.length : Int)
 | 0, _, _, h, _, _ => h.elim
 | k + 1, u, c, h, e, he => by
   unfold rlT at he
   rcases List.mem_cons.1 he with rfl | he
   · exact h.1
   · obtain ⟨c', hc, he⟩ := List.mem_flatMap.1 he
     exact sm k _ _ (h.2 c' hc).2 e he
def rlJ (p : a8) (O : fp) (k : Nat) (u c : Int) (j : Nat) : List (Int × Int) := (u, c) :: ((O.getD u.toNat []).take j).flatMap fun c' => rlT p O k (oth p c' u) c'
theorem B7 (p : a8) (O : fp) (k : Nat) (u c : Int) : rlJ p O k u c 0 = [(u, c)] := by unfold rlJ; simp
theorem rlJ_end (p : a8) (O : fp) (k : Nat) (u c : Int) : rlJ p O k u c (O.getD u.toNat []).length = rlT p O (k + 1) u c := by unfold rlJ; rw [List.take_length]; rfl
theorem pJ {p : a8} {O : fp} {k : Nat} {u c : Int} {j : Nat} (h : j < (O.getD u.toNat []).length) : rlJ p O k u c (j + 1) = rlJ p O k u c j ++ rlT p O k (oth p ((O.getD u.toNat []).getD j 0) u) ((O.getD u.toNat []).getD j 0) := by
 unfold rlJ
 have := dS (O.getD u.toNat []) h
 rw [Int.toNat_natCast] at this
 rw [this, List.flatMap_append, List.cons_append]; simp
theorem xv {p : a8} {O : fp} {k : Nat} {u c : Int} (j : Nat) : (rlJ p O k u c j).Sublist (rlT p O (k + 1) u c) := by
 unfold rlJ
 show List.Sublist _ ((u, c) :: (O.getD u.toNat []).flatMap _)
 refine List.Sublist.cons_cons _ ?_
 generalize O.getD u.toNat [] = row
 induction row generalizing j with
 | nil => simp
 | cons a r ih =>
   cases j with
   | zero => simp
   | succ j =>
     rw [List.take_succ_cons, List.flatMap_cons, List.flatMap_cons]
     exact List.Sublist.append (List.Sublist.refl _) (ih j)
structure RcS where
 p1 : List cL
 p2 : List aY
 src : Int
 out : List (List Int)
 dl : List Int
 ov : List Int
structure oU (n : Nat) (S : RcS) (u c : Int) : Prop where
 tr : TrP (S.p1, S.p2)
 ovl : S.ov.length = S.p1.length
 out : S.out.length = S.p1.length
 rl : CN (S.p1, S.p2) S.out n u c
 nd : ((rlT (S.p1, S.p2) S.out n u c).map Prod.fst).Nodup
 fr : ∀ e ∈ rlT (S.p1, S.p2) S.out n u c, S.ov.getD e.1.toNat 0 = -2
 ln : ∀ k, (S.out.getD k []).length ≤ 1000000
theorem oU.u0 {n : Nat} {S : RcS} {u c : Int} (h : oU n S u c) : 0 ≤ u ∧ u < (S.p1.length : Int) := by
 have := h.rl
 cases n with
 | zero => exact this.elim
 | succ n => exact this.1
theorem oU.at0 {n : Nat} {S : RcS} {u c : Int} (h : oU (n + 1) S u c) : S.ov.getD u.toNat 0 = -2 := h.fr (u, c) (by unfold rlT; exact List.mem_cons_self ..)
theorem oU.kid {n : Nat} {S : RcS} {u c : Int} (h : oU (n + 1) S u c) {j : Nat} (hj : j < (S.out.getD u.toNat []).length) : isE (S.p1, S.p2) ((S.out.getD u.toNat []).getD j 0) u :=
 (h.rl.2 _ (by rw [List.getD_eq_getElem?_getD (l := S.out.getD u.toNat []), List.getElem?_eq_getElem hj]; exact List.getElem_mem hj)).1
theorem oU.next {n : Nat} {S : RcS} {u c : Int} (h : oU (n + 1) S u c) {j : Nat} (hj : j < (S.out.getD u.toNat []).length) :
 oU n ⟨S.p1, S.p2, S.src, S.out, S.dl, cu S.ov (rlJ (S.p1, S.p2) S.out n u c j)⟩ (oth (S.p1, S.p2) ((S.out.getD u.toNat []).getD j 0) u) ((S.out.getD u.toNat []).getD j 0) := by
 have hm : (S.out.getD u.toNat []).getD j 0 ∈ S.out.getD u.toNat [] := by rw [List.getD_eq_getElem?_getD (l := S.out.getD u.toNat []), List.getElem?_eq_getElem hj]; exact List.getElem_mem hj
 have hrl := (h.rl.2 _ hm).2
 have hsub := xv (p := (S.p1, S.p2)) (O := S.out) (k := n) (u := u) (c := c) (j + 1)
 have hnd := (hsub.map Prod.fst).nodup h.nd
 rw [pJ hj, List.map_append] at hnd
 obtain ⟨n1, n2, n3⟩ := List.nodup_append.1 hnd
 have hin : ∀ e ∈ rlT (S.p1, S.p2) S.out n (oth (S.p1, S.p2) ((S.out.getD u.toNat []).getD j 0) u) ((S.out.getD u.toNat []).getD j 0), e ∈ rlT (S.p1, S.p2) S.out (n + 1) u c := fun e he => hsub.subset (by rw [pJ hj]; exact List.mem_append_right _ he)
 refine ⟨h.tr, by rw [mi]; exact h.ovl, h.out, hrl, n2, fun e he => ?_, h.ln⟩
 have hr := sm _ _ _ h.rl e (hin e he)
 dsimp only
 rw [jX _ _ _ hr.1 fun q hq => ⟨(sm _ _ _ h.rl q ((xv j).subset hq)).1, fun e2 => n3 _ (List.mem_map_of_mem hq) _ (List.mem_map_of_mem he) e2⟩]
 exact h.fr e (hin e he)
structure WyP (p : a8) (s : Int) (O : fp) (D : List Int) : Prop where
 pl : wA p
 ok : bh p = 0
 s0 : 0 ≤ s ∧ s < (p.1.length : Int)
 out : O.length = p.1.length
 row : ∀ k : Nat, k < p.1.length → vt (O.getD k []) = true ∧ ∀ c ∈ O.getD k [], isE p c (k : Int)
 rl : CN p O 40 s (-1)
 nd : ((rlT p O 40 s (-1)).map Prod.fst).Nodup
 asc : vt D = true
 len : D.length ≤ 1000
 ln : ∀ k, (O.getD k []).length ≤ 1000
 dl : ∀ x ∈ D, (0 ≤ x ∧ x < (p.1.length : Int)) ∧ ¬ (cu (List.replicate p.1.length (-2)) (rlT p O 40 s (-1))).getD x.toNat 0 = -2
 fin : ∀ k : Nat, k < p.1.length → ((cu (List.replicate p.1.length (-2)) (rlT p O 40 s (-1))).getD k 0 = -2 → O.getD k [] = []) ∧ (0 ≤ (cu (List.replicate p.1.length (-2)) (rlT p O 40 s (-1))).getD k 0 → O.getD k [] = [] → (k : Int) ∈ D)
def ovL (p : a8) (s : Int) (O : fp) : List Int := cu (List.replicate p.1.length (-2)) (rlT p O 40 s (-1))
theorem tB (p : a8) (s : Int) (O : fp) : (ovL p s O).length = p.1.length := by unfold ovL; rw [mi, List.length_replicate]
theorem WyP.tr {p : a8} {s : Int} {O : fp} {D : List Int} (h : WyP p s O D) : TrP p := ⟨h.pl.n, h.pl.c, bD h.ok⟩
theorem WyP.rc {p1 : List cL} {p2 : List aY} {s : Int} {O : fp} {D : List Int} (h : WyP (p1, p2) s O D) : oU 40 ⟨p1, p2, s, O, D, List.replicate p1.length (-2)⟩ s (-1) := by
 refine ⟨h.tr, List.length_replicate, h.out, h.rl, h.nd, fun e he => ?_, fun k => Nat.le_trans (h.ln k) (by decide)⟩
 have := sm _ _ _ h.rl e he
 dsimp only at this ⊢
 rw [List.getD_eq_getElem?_getD, List.getElem?_replicate, if_pos (by omega)]; rfl
attribute [irreducible] ovL
end Go.Proofs.YtcaoldilmnpjoaaGreat
