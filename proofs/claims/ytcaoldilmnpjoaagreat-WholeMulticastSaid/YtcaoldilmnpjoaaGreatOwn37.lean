/-
  Part Own37 of the proof.
-/
import Derived.Test.YtcaoldilmnpjoaaGreatOwn36
namespace Go.Proofs.YtcaoldilmnpjoaaGreat
set_option linter.all false
open Go.RowKit Go.Sx
theorem qM {α β : Type} {l : List α} {f g : α → List β} (h : ∀ a ∈ l, f a = g a) : l.flatMap f = l.flatMap g := by
 induction l with
 | nil => rfl
 | cons a l ih => rw [List.flatMap_cons, List.flatMap_cons, h a (List.mem_cons_self ..), ih fun b hb => h b (List.mem_cons_of_mem _ hb)]
def kB (p : a8) (par : List Int) (wd : List (Int × Bool)) (k : Nat) (u o c : Int) : Bool := edB p par u o c && ndB p par wd k (oth p c u) c
def kdL (p : a8) (par : List Int) (wd : List (Int × Bool)) (k : Nat) (u o : Int) : List Int := (List.range p.2.length).flatMap fun c : Nat => if kB p par wd k u o (c : Int) = true then [(c : Int)] else []
def trT (p : a8) (par : List Int) (wd : List (Int × Bool)) : Nat → Int → Int → List (Int × Int)
 | 0, _, _ => []
 | k + 1, u, o => (u, o) :: (List.range p.2.length).flatMap fun c : Nat => if kB p par wd k u o (c : Int) = true then trT p par wd k (oth p (c : Int) u) (c : Int) else []
def apx (x : Int) (l : List (Int × Int)) : List Int := (l.filter fun e => decide (e.1 = x)).map Prod.snd
theorem mU (x : Int) (l m : List (Int × Int)) : apx x (l ++ m) = apx x l ++ apx x m := by unfold apx; rw [List.filter_append, List.map_append]
theorem CB {α : Type} (x : Int) (l : List α) (f : α → List (Int × Int)) : apx x (l.flatMap f) = l.flatMap fun a => apx x (f a) := by
 induction l with
 | nil => rfl
 | cons a l ih => rw [List.flatMap_cons, mU, ih, List.flatMap_cons]
theorem kv {x : Int} {l : List (Int × Int)} (h : ∀ e ∈ l, e.1 ≠ x) : apx x l = [] := by
 unfold apx
 rw [List.filter_eq_nil_iff.2 fun e he => by simpa using h e he]; rfl
theorem addO_at {O : List (List Int)} {e : Int × Int} {x : Int} (h0 : 0 ≤ e.1) (hx : 0 ≤ x) (hl : x.toNat < O.length) : (w8 O e).getD x.toNat [] = O.getD x.toNat [] ++ apx x [e] := by
 unfold w8
 rw [uf]
 by_cases he : e.1 = x
 · rw [if_pos ⟨by rw [he], hl⟩, he]
   simp [apx, he]
 · rw [if_neg (fun q => he (by have := q.1; omega)), kv (l := [e]) (fun q hq => by rw [List.mem_singleton.1 hq]; exact he), List.append_nil]
theorem w7 : ∀ (l : List (Int × Int)) (O : List (List Int)) (x : Int), (∀ e ∈ l, 0 ≤ e.1) → 0 ≤ x → x.toNat < O.length → (ec O l).getD x.toNat [] = O.getD x.toNat [] ++ apx x l
 | [], O, x, _, _, _ => by show O.getD _ _ = O.getD _ _ ++ []; rw [List.append_nil]
 | e :: l, O, x, h, hx, hl => by
   show (ec (w8 O e) l).getD x.toNat [] = _
   rw [w7 l (w8 O e) x (fun q hq => h q (List.mem_cons_of_mem _ hq)) hx (by show x.toNat < (O.set _ _).length; rw [List.length_set]; exact hl), addO_at (h e (List.mem_cons_self ..)) hx hl, List.append_assoc, ← mU]
   rfl
section
variable {p : a8} {L : List Int} {wd : List (Int × Bool)}
theorem eb (h : TrL p L) {u o c : Int} (hu : Okv p L u o) (he : edB p (ay p L) u o c = true) : Ed p L u o c := (xB h.tr hu.1.1).1 he
theorem Br (h : TrL p L) {u o c : Int} (hu : Okv p L u o) (he : Ed p L u o c) : edB p (ay p L) u o c = true := (xB h.tr hu.1.1).2 he
theorem xA {u o c : Int} (he : Ed p L u o c) : 0 ≤ c ∧ c < (p.2.length : Int) := (dR he.e).1
theorem iZ (h : TrL p L) : ∀ (k : Nat) (u o : Int), Okv p L u o → ∀ e ∈ apL p (ay p L) wd k u o, Sd p L u o e.1 ∧ 0 ≤ e.2 ∧ e.2 < (p.2.length : Int)
 | 0, _, _, _, e, he => by cases he
 | k + 1, u, o, hu, e, he => by
   unfold apL at he
   obtain ⟨c, hc, he⟩ := List.mem_flatMap.1 he
   have hc := List.mem_range.1 hc
   split at he <;> (try (cases he; done))
   rename_i hed
   have hed := eb h hu hed
   rcases List.mem_append.1 he with he | he
   · have := iZ h k _ _ (hu.next h hed) e he
     exact ⟨this.1.sub hu hed, this.2⟩
   · split at he <;> (try (cases he; done))
     rw [List.mem_singleton.1 he]
     exact ⟨Sd.self hu, show (0 : Int) ≤ (c : Int) by omega, show (c : Int) < _ by omega⟩
theorem u7 (h : TrL p L) {k : Nat} {u o x : Int} (hu : Okv p L u o) (hx : ¬ Sd p L u o x) : apx x (apL p (ay p L) wd k u o) = [] :=
 kv fun e he e2 => hx (e2 ▸ (iZ h k u o hu e he).1)
theorem qh (h : TrL p L) {k : Nat} {u o : Int} (hu : Okv p L u o) : apx u (apL p (ay p L) wd (k + 1) u o) = kdL p (ay p L) wd k u o := by
 unfold apL kdL
 rw [CB]
 refine qM fun c hc => ?_
 unfold kB
 by_cases hed : edB p (ay p L) u o (c : Int) = true
 · have hed2 := eb h hu hed
   rw [if_pos hed, mU]
   rw [show apx u (apL p (ay p L) wd k (otF p (c : Int) u).1 (c : Int)) = [] from u7 h (hu.next h hed2) (Sd.apart hed2), hed]
   show [] ++ apx u (if ndB p (ay p L) wd k (oth p (c : Int) u) (c : Int) = true then [(u, (c : Int))] else []) = if (true && ndB p (ay p L) wd k (oth p (c : Int) u) (c : Int)) = true then [(c : Int)] else []
   rw [Bool.true_and]
   split
   · simp [apx]
   · rfl
 · rw [if_neg hed, if_neg (by rw [Bool.and_eq_true]; exact fun q => hed q.1)]; rfl
theorem Bh {α : Type} {A : List α} {c : Nat} : ∀ {m : Nat}, c < m → ((List.range m).flatMap fun j => if j = c then A else []) = A
 | 0, h => absurd h (Nat.not_lt_zero _)
 | m + 1, h => by
   rw [List.range_succ, List.flatMap_append]
   by_cases e : c = m
   · subst e
     have : ((List.range c).flatMap fun j => if j = c then A else []) = [] := by
      rw [List.flatMap_eq_nil_iff]
      intro j hj
      have := List.mem_range.1 hj
      rw [if_neg (by omega)]
     rw [this]; simp
   · rw [Bh (by omega)]
     rw [List.flatMap_cons, List.flatMap_nil, if_neg (fun e2 => e e2.symm)]; simp
theorem om (h : TrL p L) {k : Nat} {u o x : Int} {c : Int} (hu : Okv p L u o) (he : Ed p L u o c) (hx : Sd p L (oth p c u) c x) : apx x (apL p (ay p L) wd (k + 1) u o) = apx x (apL p (ay p L) wd k (oth p c u) c) := by
 obtain ⟨h0, h1⟩ := xA he
 have hxu : x ≠ u := fun e => Sd.apart he (e ▸ hx)
 rw [show apL p (ay p L) wd (k + 1) u o = (List.range p.2.length).flatMap fun c : Nat => if edB p (ay p L) u o (c : Int) = true then apL p (ay p L) wd k (otF p (c : Int) u).1 (c : Int) ++ (if ndB p (ay p L) wd k (otF p (c : Int) u).1 (c : Int) = true then [(u, (c : Int))] else []) else [] from rfl, CB]
 rw [← Bh (A := apx x (apL p (ay p L) wd k (oth p c u) c)) (c := c.toNat) (m := p.2.length) (by omega)]
 refine qM fun j hj => ?_
 have hno : apx x (if ndB p (ay p L) wd k (otF p (j : Int) u).1 (j : Int) = true then [(u, (j : Int))] else []) = [] := kv fun e2 he2 => by
  split at he2 <;> (try (cases he2; done))
  rw [List.mem_singleton.1 he2]
  exact fun e3 => hxu e3.symm
 by_cases hjc : j = c.toNat
 · have e : (j : Int) = c := by omega
   rw [if_pos hjc, e, if_pos (Br h hu he), mU]
   rw [e] at hno
   rw [hno, List.append_nil]; rfl
 · rw [if_neg hjc]
   by_cases hed : edB p (ay p L) u o (j : Int) = true
   · have hed2 := eb h hu hed
     rw [if_pos hed, mU, hno, List.append_nil]
     refine u7 h (hu.next h hed2) fun hs => hjc ?_
     have := Sd.two he hed2 hx hs
     omega
   · rw [if_neg hed]; rfl
theorem nd_ap : ∀ (k : Nat) (u o : Int), ndB p (ay p L) wd k u o = false → apL p (ay p L) wd k u o = []
 | 0, _, _, _ => rfl
 | k + 1, u, o, hn => by
   unfold ndB at hn
   obtain ⟨_, hn⟩ := Bool.or_eq_false_iff.1 hn
   unfold apL
   rw [List.flatMap_eq_nil_iff]
   intro c hc
   have h1 := List.any_eq_false.1 hn c hc
   split
   · rename_i hed
     have h2 : ndB p (ay p L) wd k (otF p (c : Int) u).1 (c : Int) = false := by
      rw [hed, Bool.true_and, Bool.not_eq_true] at h1; exact h1
     rw [nd_ap k _ _ h2, if_neg (by rw [h2]; decide)]; rfl
   · rfl
theorem fQ {k : Nat} {u o c : Int} (h : kB p (ay p L) wd k u o c = true) : edB p (ay p L) u o c = true ∧ ndB p (ay p L) wd k (oth p c u) c = true := Bool.and_eq_true_iff.1 h
theorem kK (h : TrL p L) : ∀ (k : Nat) (u o : Int), Okv p L u o → ∀ e ∈ trT p (ay p L) wd k u o, Sd p L u o e.1 ∧ Okv p L e.1 e.2
 | 0, _, _, _, e, he => by cases he
 | k + 1, u, o, hu, e, he => by
   unfold trT at he
   rcases List.mem_cons.1 he with rfl | he
   · exact ⟨Sd.self hu, hu⟩
   · obtain ⟨c, hc, he⟩ := List.mem_flatMap.1 he
     split at he <;> (try (cases he; done))
     rename_i hk
     have hed := eb h hu (fQ hk).1
     have := kK h k _ _ (hu.next h hed) e he
     exact ⟨this.1.sub hu hed, this.2⟩
theorem uL (h : TrL p L) : ∀ (k : Nat) (u o : Int), Okv p L u o → ((trT p (ay p L) wd k u o).map Prod.fst).Nodup
 | 0, _, _, _ => List.nodup_nil
 | k + 1, u, o, hu => by
   unfold trT
   rw [List.map_cons, List.nodup_cons, List.map_flatMap]
   refine ⟨fun hm => ?_, ?_⟩
   · obtain ⟨c, hc, hm⟩ := List.mem_flatMap.1 hm
     obtain ⟨e, he, heq⟩ := List.mem_map.1 hm
     split at he <;> (try (cases he; done))
     rename_i hk
     have hed := eb h hu (fQ hk).1
     have := (kK h k _ _ (hu.next h hed) e he).1
     rw [heq] at this
     exact Sd.apart hed this
   · refine List.pairwise_flatMap.2 ⟨fun c hc => ?_, ?_⟩
     · split
       · rename_i hk
         exact uL h k _ _ (hu.next h (eb h hu (fQ hk).1))
       · exact List.nodup_nil
     · refine List.nodup_range.imp fun {a b} hab x hx y hy hxy => hab ?_
       obtain ⟨e1, he1, q1⟩ := List.mem_map.1 hx
       obtain ⟨e2, he2, q2⟩ := List.mem_map.1 hy
       split at he1 <;> (try (cases he1; done))
       rename_i hk1
       split at he2 <;> (try (cases he2; done))
       rename_i hk2
       have d1 := eb h hu (fQ hk1).1
       have d2 := eb h hu (fQ hk2).1
       have s1 := (kK h k _ _ (hu.next h d1) e1 he1).1
       have s2 := (kK h k _ _ (hu.next h d2) e2 he2).1
       rw [q1] at s1
       rw [q2, ← hxy] at s2
       have := Sd.two d1 d2 s1 s2
       omega
theorem xe (h : TrL p L) {x : Int} (hw : (bB (K := Int) wd x).getD false = true) : ∀ (k : Nat) (u o : Int), Okv p L u o → msR p L u o < k → Sd p L u o x → ndB p (ay p L) wd k u o = true ∧ ∃ ox, (x, ox) ∈ trT p (ay p L) wd k u o
 | 0, _, _, _, hm, _ => absurd hm (Nat.not_lt_zero _)
 | k + 1, u, o, hu, hm, hs => by
   by_cases e : x = u
   · subst e
     exact ⟨by unfold ndB; rw [hw]; rfl, o, by unfold trT; exact List.mem_cons_self ..⟩
   · obtain ⟨c, hed, hc⟩ := Sd.cover h hu hs e
     have hlt := tK h hu.1.1 hed
     obtain ⟨h1, ox, h2⟩ := xe h hw k _ _ (hu.next h hed) (by omega) hc
     obtain ⟨c0, c1⟩ := xA hed
     have hcn : ((c.toNat : Nat) : Int) = c := Int.toNat_of_nonneg c0
     have hkb : kB p (ay p L) wd k u o c = true := Bool.and_eq_true_iff.2 ⟨Br h hu hed, h1⟩
     refine ⟨?_, ox, ?_⟩
     · unfold ndB
       rw [Bool.or_eq_true]
       refine .inr (List.any_eq_true.2 ⟨c.toNat, List.mem_range.2 (by omega), ?_⟩)
       rw [hcn]; exact hkb
     · unfold trT
       refine List.mem_cons_of_mem _ (List.mem_flatMap.2 ⟨c.toNat, List.mem_range.2 (by omega), ?_⟩)
       rw [hcn, if_pos hkb]; exact h2
theorem xg (h : TrL p L) : ∀ (k : Nat) (u o x : Int), Okv p L u o → (∀ ox, (x, ox) ∉ trT p (ay p L) wd k u o) → apx x (apL p (ay p L) wd k u o) = []
 | 0, _, _, _, _, _ => rfl
 | k + 1, u, o, x, hu, hx => by
   by_cases hs : Sd p L u o x
   · by_cases e : x = u
     · subst e
       exact absurd (by unfold trT; exact List.mem_cons_self ..) (hx o)
     · obtain ⟨c, hed, hc⟩ := Sd.cover h hu hs e
       rw [om h hu hed hc]
       by_cases hn : ndB p (ay p L) wd k (oth p c u) c = true
       · obtain ⟨c0, c1⟩ := xA hed
         have hcn : ((c.toNat : Nat) : Int) = c := Int.toNat_of_nonneg c0
         refine xg h k _ _ x (hu.next h hed) fun ox hm => hx ox ?_
         unfold trT
         refine List.mem_cons_of_mem _ (List.mem_flatMap.2 ⟨c.toNat, List.mem_range.2 (by omega), ?_⟩)
         rw [hcn, if_pos (show kB p (ay p L) wd k u o c = true from Bool.and_eq_true_iff.2 ⟨Br h hu hed, hn⟩)]; exact hm
       · rw [nd_ap k _ _ (by simpa using hn)]; rfl
   · exact u7 h hu hs
theorem oV (h : TrL p L) : ∀ (k : Nat) (u o : Int), Okv p L u o → ∀ e ∈ trT p (ay p L) wd k u o, ∃ k', apx e.1 (apL p (ay p L) wd k u o) = kdL p (ay p L) wd k' e.1 e.2 ∧ ((e = (u, o) ∧ k' + 1 = k) ∨ ndB p (ay p L) wd (k' + 1) e.1 e.2 = true)
 | 0, _, _, _, e, he => by cases he
 | k + 1, u, o, hu, e, he => by
   unfold trT at he
   rcases List.mem_cons.1 he with rfl | he
   · exact ⟨k, qh h hu, .inl ⟨rfl, rfl⟩⟩
   · obtain ⟨c, hc, he⟩ := List.mem_flatMap.1 he
     split at he <;> (try (cases he; done))
     rename_i hk
     have hed := eb h hu (fQ hk).1
     obtain ⟨k', h1, h2⟩ := oV h k _ _ (hu.next h hed) e he
     refine ⟨k', ?_, .inr ?_⟩
     · rw [om h hu hed (kK h k _ _ (hu.next h hed) e he).1]; exact h1
     · rcases h2 with ⟨h2, h3⟩ | h2
       · rw [h3, h2]; exact (fQ hk).2
       · exact h2
def rlT (p : a8) (O : List (List Int)) : Nat → Int → Int → List (Int × Int)
 | 0, _, _ => []
 | k + 1, u, o => (u, o) :: (O.getD u.toNat []).flatMap fun c => rlT p O k (oth p c u) c
theorem rl_tr (h : TrL p L) (O : List (List Int)) : ∀ (k : Nat) (u o : Int), Okv p L u o → (∀ x, Sd p L u o x → O.getD x.toNat [] = apx x (apL p (ay p L) wd k u o)) → rlT p O k u o = trT p (ay p L) wd k u o
 | 0, _, _, _, _ => rfl
 | k + 1, u, o, hu, hO => by
   unfold rlT trT
   rw [hO u (Sd.self hu), qh h hu]
   congr 1
   unfold kdL
   rw [List.flatMap_assoc]
   refine qM fun c hc => ?_
   split
   · rename_i hk
     have hed := eb h hu (fQ hk).1
     rw [List.flatMap_cons, List.flatMap_nil, List.append_nil]
     exact rl_tr h O k _ _ (hu.next h hed) fun x hx => by rw [hO x (hx.sub hu hed), om h hu hed hx]
   · rfl
end
end Go.Proofs.YtcaoldilmnpjoaaGreat
