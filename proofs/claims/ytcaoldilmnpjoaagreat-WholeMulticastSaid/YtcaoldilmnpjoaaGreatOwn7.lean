/-
  Part Own7 of the proof.
-/
import Derived.Test.YtcaoldilmnpjoaaGreatOwn6
namespace Go.Proofs.YtcaoldilmnpjoaaGreat
set_option linter.all false
open Go.RowKit Go.Sx
abbrev lat (l : List Int) (k : Int) : Int := l.getD k.toNat 0
abbrev LQ := List Int × List Int
def l7 (node o : Int) (S : LQ) : LQ := if lat S.1 o < 0 then (S.1.set o.toNat (lat S.1 node + 1), S.2 ++ [o]) else S
def il (node : Int) (c : aY) (b : Bool) (S : LQ) : LQ :=
 if b = true ∧ c.2.2.1 = node then l7 node c.1 (if b = true ∧ c.1 = node then l7 node c.2.2.1 S else S)
 else (if b = true ∧ c.1 = node then l7 node c.2.2.1 S else S)
def k8 (C : List aY) (up : List Bool) (node : Int) : Nat → LQ → LQ
 | 0, S => S
 | k + 1, S => il node (C.getD k z6) (up.getD k false) (k8 C up node k S)
def sk (C : List aY) (up : List Bool) (S : LQ) : LQ := k8 C up (S.2.getD 0 0) C.length (S.1, S.2.drop 1)
def wT (C : List aY) (up : List Bool) : Nat → LQ → LQ
 | 0, S => S
 | k + 1, S => if S.2 = [] then S else wT C up k (sk C up S)
def st0 (n : Nat) (root : Int) : LQ := ((List.replicate n (-1)).set root.toNat 0, [root])
def qZ (l : List Int) : Nat := l.countP (fun x => decide (0 ≤ x))
theorem xH (l : List Int) : qZ l ≤ l.length := List.countP_le_length
theorem tk : ∀ {l : List Int} {k : Nat} {v : Int}, k < l.length → l.getD k 0 < 0 → 0 ≤ v → qZ (l.set k v) = qZ l + 1
 | x :: l, 0, v, _, h, hv => by
   have h : x < 0 := h
   show List.countP _ (v :: l) = List.countP _ (x :: l) + 1
   rw [List.countP_cons, List.countP_cons, if_pos (by simpa using hv), if_neg (by simp; omega)]
 | x :: l, k + 1, v, hk, h, hv => by
   have ih := tk (l := l) (k := k) (v := v) (by simpa using hk) (by simpa using h) hv
   show List.countP _ (x :: l.set k v) = List.countP _ (x :: l) + 1
   rw [List.countP_cons, List.countP_cons]
   unfold qZ at ih
   omega
theorem yG {l : List Int} {k j : Nat} {v : Int} (hk : k < l.length) : (l.set k v).getD j 0 = if k = j then v else l.getD j 0 := by
 rw [List.getD_eq_getElem?_getD, List.getElem?_set]
 split
 · rename_i e; subst e; simp [hk]
 · rw [← List.getD_eq_getElem?_getD]
def Adj (C : List aY) (u v : Int) : Prop := ∃ c ∈ C, (c.1 = u ∧ c.2.2.1 = v) ∨ (c.1 = v ∧ c.2.2.1 = u)
structure Gd (C : List aY) (n : Nat) (root : Int) (S : LQ) : Prop where
 len : S.1.length = n
 q : ∀ x ∈ S.2, 0 ≤ x ∧ x < (n : Int) ∧ 0 ≤ lat S.1 x
 lo : ∀ k : Nat, k < n → -1 ≤ S.1.getD k 0
 hi : ∀ k : Nat, k < n → S.1.getD k 0 + 1 ≤ (qZ S.1 : Int)
 led : ∀ k : Nat, k < n → 0 < S.1.getD k 0 → ∃ u : Nat, u < n ∧ Adj C u k ∧ S.1.getD u 0 = S.1.getD k 0 - 1
 rt : ∀ k : Nat, k < n → (S.1.getD k 0 = 0 ↔ (k : Int) = root)
def muS (n : Nat) (S : LQ) : Nat := (n - qZ S.1) + S.2.length
theorem Gd.vis {C : List aY} {n : Nat} {root node o : Int} {S : LQ} (h : Gd C n root S) (hn : 0 ≤ node ∧ node < (n : Int)) (ho : 0 ≤ o ∧ o < (n : Int)) (hl : 0 ≤ lat S.1 node) (ha : Adj C node o) :
 Gd C n root (l7 node o S) ∧ 0 ≤ lat (l7 node o S).1 node ∧ muS n (l7 node o S) = muS n S := by
 unfold l7
 split
 · rename_i hneg
   have hoL : o.toNat < S.1.length := by rw [h.len]; omega
   have hnL : node.toNat < n := by omega
   have hcnt := tk (v := lat S.1 node + 1) hoL hneg (by omega)
   have hg : ∀ j, (S.1.set o.toNat (lat S.1 node + 1)).getD j 0 = if o.toNat = j then lat S.1 node + 1 else S.1.getD j 0 := fun j => yG hoL
   have hne : ∀ u : Nat, -1 < S.1.getD u 0 → o.toNat ≠ u := fun u hu e => by subst e; have := hneg; unfold lat at this; omega
   have hon : o.toNat ≠ node.toNat := hne _ (by unfold lat at hl; omega)
   refine ⟨⟨by simpa using h.len, fun x hx => ?_, fun k hk => ?_, fun k hk => ?_, fun k hk hp => ?_, fun k hk => ?_⟩, ?_, ?_⟩
   · show 0 ≤ x ∧ x < (n : Int) ∧ 0 ≤ (S.1.set o.toNat (lat S.1 node + 1)).getD x.toNat 0
     rw [hg]
     rcases List.mem_append.1 hx with hx | hx
     · obtain ⟨h1, h2, h3⟩ := h.q x hx
       refine ⟨h1, h2, ?_⟩
       split <;> omega
     · obtain rfl : x = o := by simpa using hx
       exact ⟨ho.1, ho.2, by rw [if_pos rfl]; omega⟩
   · dsimp only; rw [hg]; have := h.lo k hk; split <;> omega
   · dsimp only; rw [hg, hcnt]; have := h.hi k hk; have := h.hi _ hnL; unfold lat; split <;> omega
   · dsimp only at hp ⊢
     rw [hg] at hp
     rw [hg]
     by_cases e : o.toNat = k
     · refine ⟨node.toNat, hnL, ?_, ?_⟩
       · rw [show ((node.toNat : Nat) : Int) = node from by omega, show ((k : Nat) : Int) = o from by omega]; exact ha
       · rw [hg, if_neg hon, if_pos e]; unfold lat; omega
     · rw [if_neg e] at hp
       obtain ⟨u, hu1, hu2, hu3⟩ := h.led k hk hp
       refine ⟨u, hu1, hu2, ?_⟩
       rw [hg, if_neg (hne u (by omega)), if_neg e]; exact hu3
   · dsimp only; rw [hg]
     by_cases e : o.toNat = k
     · rw [if_pos e]
       constructor
       · intro h1; omega
       · intro h1
         have h2 := (h.rt k hk).2 h1
         subst e; unfold lat at hneg; omega
     · rw [if_neg e]; exact h.rt k hk
   · show 0 ≤ (S.1.set o.toNat (lat S.1 node + 1)).getD node.toNat 0
     rw [hg, if_neg hon]; exact hl
   · have h1 := xH (S.1.set o.toNat (lat S.1 node + 1))
     rw [hcnt, List.length_set, h.len] at h1
     unfold muS
     dsimp only
     rw [hcnt, List.length_append]
     show n - (qZ S.1 + 1) + (S.2.length + 1) = _
     omega
 · exact ⟨h, hl, rfl⟩
theorem Gd.ite {C : List aY} {n : Nat} {root node o : Int} {S : LQ} {p : Prop} [Decidable p] (h : Gd C n root S) (hn : 0 ≤ node ∧ node < (n : Int)) (ho : p → 0 ≤ o ∧ o < (n : Int)) (hl : 0 ≤ lat S.1 node) (ha : p → Adj C node o) :
 Gd C n root (if p then l7 node o S else S) ∧ 0 ≤ lat (if p then l7 node o S else S).1 node ∧ muS n (if p then l7 node o S else S) = muS n S := by
 by_cases hp : p
 · rw [if_pos hp]; exact h.vis hn (ho hp) hl (ha hp)
 · rw [if_neg hp]; exact ⟨h, hl, rfl⟩
def bd (C : List aY) (n : Nat) : Prop := ∀ c ∈ C, (0 ≤ c.1 ∧ c.1 < (n : Int)) ∧ (0 ≤ c.2.2.1 ∧ c.2.2.1 < (n : Int)) ∧ c.1 ≠ c.2.2.1
theorem Gd.stp {C : List aY} {n : Nat} {root node : Int} {S : LQ} {c : aY} {b : Bool} (h : Gd C n root S) (hC : bd C n) (hc : c ∈ C) (hn : 0 ≤ node ∧ node < (n : Int)) (hl : 0 ≤ lat S.1 node) :
 Gd C n root (il node c b S) ∧ 0 ≤ lat (il node c b S).1 node ∧ muS n (il node c b S) = muS n S := by
 unfold il
 obtain ⟨h1, h2, h3⟩ := Gd.ite (p := b = true ∧ c.1 = node) (o := c.2.2.1) h hn (fun _ => (hC c hc).2.1) hl (fun e => ⟨c, hc, .inl ⟨e.2, rfl⟩⟩)
 obtain ⟨h4, h5, h6⟩ := Gd.ite (p := b = true ∧ c.2.2.1 = node) (o := c.1) h1 hn (fun _ => (hC c hc).1) h2 (fun e => ⟨c, hc, .inr ⟨rfl, e.2⟩⟩)
 exact ⟨h4, h5, h6.trans h3⟩
theorem eU {C : List aY} {k : Nat} (h : k < C.length) : C.getD k z6 ∈ C := by
 rw [List.getD_eq_getElem?_getD, List.getElem?_eq_getElem h]; exact List.getElem_mem h
theorem Gd.scan {C : List aY} {up : List Bool} {n : Nat} {root node : Int} (hC : bd C n) (hn : 0 ≤ node ∧ node < (n : Int)) : ∀ (k : Nat) (S : LQ), k ≤ C.length → Gd C n root S → 0 ≤ lat S.1 node →
 Gd C n root (k8 C up node k S) ∧ 0 ≤ lat (k8 C up node k S).1 node ∧ muS n (k8 C up node k S) = muS n S
 | 0, S, _, h, hl => ⟨h, hl, rfl⟩
 | k + 1, S, hk, h, hl => by
   obtain ⟨h1, h2, h3⟩ := Gd.scan hC hn k S (by omega) h hl (up := up)
   obtain ⟨h4, h5, h6⟩ := Gd.stp (b := up.getD k false) h1 hC (eU (show k < C.length by omega)) hn h2
   exact ⟨h4, h5, h6.trans h3⟩
theorem Gd.tail {C : List aY} {n : Nat} {root : Int} {S : LQ} (h : Gd C n root S) : Gd C n root (S.1, S.2.drop 1) := ⟨h.len, fun x hx => h.q x (List.mem_of_mem_drop hx), h.lo, h.hi, h.led, h.rt⟩
theorem Gd.head {C : List aY} {n : Nat} {root : Int} {S : LQ} (h : Gd C n root S) (hq : 0 < S.2.length) : (0 ≤ S.2.getD 0 0 ∧ S.2.getD 0 0 < (n : Int)) ∧ 0 ≤ lat S.1 (S.2.getD 0 0) := by
 obtain ⟨h1, h2, h3⟩ := h.q (S.2.getD 0 0) (by rw [List.getD_eq_getElem?_getD, List.getElem?_eq_getElem hq]; exact List.getElem_mem hq)
 exact ⟨⟨h1, h2⟩, h3⟩
theorem Gd.rnd {C : List aY} {up : List Bool} {n : Nat} {root : Int} {S : LQ} (hC : bd C n) (h : Gd C n root S) (hq : 0 < S.2.length) : Gd C n root (sk C up S) ∧ muS n (sk C up S) + 1 = muS n S := by
 obtain ⟨h1, h2⟩ := h.head hq
 obtain ⟨h3, _, h5⟩ := Gd.scan (up := up) hC h1 C.length _ (Nat.le_refl _) h.tail h2
 refine ⟨h3, ?_⟩
 have : muS n (S.1, S.2.drop 1) + 1 = muS n S := by unfold muS; simp only [List.length_drop]; omega
 unfold sk
 omega
theorem Gd.zero {C : List aY} {n : Nat} {root : Int} (h0 : 0 ≤ root) (h : root < (n : Int)) : Gd C n root (st0 n root) ∧ muS n (st0 n root) ≤ n := by
 have hl : root.toNat < (List.replicate n (-1 : Int)).length := by simp; omega
 have hr : ∀ k : Nat, k < n → (List.replicate n (-1 : Int)).getD k 0 = -1 := fun k hk => by rw [List.getD_eq_getElem?_getD, List.getElem?_replicate, if_pos hk]; rfl
 have hg : ∀ k : Nat, k < n → (st0 n root).1.getD k 0 = if root.toNat = k then 0 else -1 := fun k hk => by
  show ((List.replicate n (-1 : Int)).set root.toNat 0).getD k 0 = _
  rw [yG hl, hr k hk]
 have hc : qZ (st0 n root).1 = 1 := by
  show qZ ((List.replicate n (-1 : Int)).set root.toNat 0) = 1
  rw [tk hl (by rw [hr _ (by omega)]; decide) (Int.le_refl _)]
  unfold qZ
  rw [List.countP_replicate]; simp
 refine ⟨⟨by show (List.set _ _ _).length = n; simp, fun x hx => ?_, fun k hk => ?_, fun k hk => ?_, fun k hk hp => ?_, fun k hk => ?_⟩, ?_⟩
 · obtain rfl : x = root := List.mem_singleton.1 hx
   refine ⟨h0, h, ?_⟩
   show 0 ≤ (st0 n x).1.getD x.toNat 0
   rw [hg _ (by omega), if_pos rfl]; decide
 · rw [hg k hk]; split <;> omega
 · rw [hg k hk, hc]; split <;> omega
 · rw [hg k hk] at hp; split at hp <;> omega
 · rw [hg k hk]; split <;> omega
 · unfold muS; rw [hc]; show n - 1 + 1 ≤ n; omega
section
variable {nd : Int} {c : aY} {b : Bool} {T : LQ}
theorem stp1 (hb : b = false) : il nd c b T = T := by unfold il; rw [if_neg (by rw [hb]; simp), if_neg (by rw [hb]; simp)]
theorem stp2 (hb : b = true) (h1 : c.1 = nd) (h2 : ¬ c.2.2.1 = nd) (h3 : T.1.getD c.2.2.1.toNat 0 < 0) : il nd c b T = (T.1.set c.2.2.1.toNat (T.1.getD nd.toNat 0 + 1), T.2 ++ [c.2.2.1]) := by
 unfold il; rw [if_neg (fun e => h2 e.2), if_pos ⟨hb, h1⟩]; unfold l7; rw [if_pos h3]
theorem stp3 (hb : b = true) (h1 : c.1 = nd) (h2 : ¬ c.2.2.1 = nd) (h3 : ¬ T.1.getD c.2.2.1.toNat 0 < 0) : il nd c b T = T := by
 unfold il; rw [if_neg (fun e => h2 e.2), if_pos ⟨hb, h1⟩]; unfold l7; rw [if_neg h3]
theorem stp4 (hb : b = true) (h1 : ¬ c.1 = nd) (h2 : c.2.2.1 = nd) (h3 : T.1.getD c.1.toNat 0 < 0) : il nd c b T = (T.1.set c.1.toNat (T.1.getD nd.toNat 0 + 1), T.2 ++ [c.1]) := by
 unfold il; rw [if_pos ⟨hb, h2⟩, if_neg (fun e => h1 e.2)]; unfold l7; rw [if_pos h3]
theorem stp5 (hb : b = true) (h1 : ¬ c.1 = nd) (h2 : c.2.2.1 = nd) (h3 : ¬ T.1.getD c.1.toNat 0 < 0) : il nd c b T = T := by
 unfold il; rw [if_pos ⟨hb, h2⟩, if_neg (fun e => h1 e.2)]; unfold l7; rw [if_neg h3]
theorem stp6 (h1 : ¬ c.1 = nd) (h2 : ¬ c.2.2.1 = nd) : il nd c b T = T := by
 unfold il; rw [if_neg (fun e => h2 e.2), if_neg (fun e => h1 e.2)]
end
theorem Gd.ix {C : List aY} {n : Nat} {root o : Int} {S : LQ} (h : Gd C n root S) (ho : 0 ≤ o ∧ o < (n : Int)) : 0 ≤ o ∧ o < (S.1.length : Int) := by rw [h.len]; exact ho
theorem Gd.i64 {C : List aY} {n : Nat} {root o : Int} {S : LQ} (h : Gd C n root S) (ho : 0 ≤ o ∧ o < (n : Int)) (hn : n ≤ 16) : b5 (S.1.getD o.toNat 0 + 1) := by
 have h1 := h.lo o.toNat (by omega)
 have h2 := h.hi o.toNat (by omega)
 have h3 := xH S.1
 rw [h.len] at h3
 unfold b5; omega
theorem Gd.row {C : List aY} {n : Nat} {root o : Int} {S : LQ} (h : muS n S ≤ 17) : S.2.length + [o].length ≤ bP := by
 unfold muS at h
 show S.2.length + 1 ≤ 1099511627776
 omega
structure Ds (C : List aY) (up : List Bool) (n : Nat) (root : Int) where
 k : Nat
 S : LQ
 gd : Gd C n root S
 mu : muS n S ≤ k
 eq : wT C up k S = wT C up (n + 1) (st0 n root)
 kb : k ≤ n + 1
theorem Ds.zero {C : List aY} {up : List Bool} {n : Nat} {root : Int} (h0 : 0 ≤ root) (h : root < (n : Int)) : ∃ x : Ds C up n root, x.S = st0 n root :=
 ⟨⟨n + 1, st0 n root, (Gd.zero h0 h).1, Nat.le_succ_of_le (Gd.zero (C := C) h0 h).2, rfl, Nat.le_refl _⟩, rfl⟩
theorem Ds.next {C : List aY} {up : List Bool} {n : Nat} {root : Int} (hC : bd C n) (x : Ds C up n root) (hq : 0 < x.S.2.length) : ∃ y : Ds C up n root, y.k < x.k ∧ y.S = sk C up x.S := by
 obtain ⟨h1, h2⟩ := x.gd.rnd (up := up) hC hq
 have h3 := x.mu
 have h4 := x.eq
 obtain ⟨k, hk⟩ : ∃ k, x.k = k + 1 := ⟨x.k - 1, by omega⟩
 have h5 := x.kb
 refine ⟨⟨k, sk C up x.S, h1, by omega, ?_, by omega⟩, by show k < x.k; omega, rfl⟩
 rw [← h4, hk]
 show _ = if x.S.2 = [] then x.S else wT C up k (sk C up x.S)
 rw [if_neg (fun e => by rw [e] at hq; exact Nat.lt_irrefl 0 hq)]
def cz (C : List aY) (up : List Bool) (n : Nat) (root : Int) : List Int := (wT C up (n + 1) (st0 n root)).1
theorem Ds.done {C : List aY} {up : List Bool} {n : Nat} {root : Int} (x : Ds C up n root) (hq : ¬ 0 < x.S.2.length) : x.S.1 = cz C up n root := by
 have h4 := x.eq
 have e : x.S.2 = [] := List.eq_nil_of_length_eq_zero (by omega)
 unfold cz
 rw [← h4]
 cases x.k with
 | zero => rfl
 | succ k => show _ = (if x.S.2 = [] then x.S else _).1; rw [if_pos e]
theorem xo {C : List aY} {up : List Bool} {n : Nat} {root : Int} (hC : bd C n) : ∀ (k : Nat) (S : LQ), Gd C n root S → Gd C n root (wT C up k S)
 | 0, S, h => h
 | k + 1, S, h => by
   show Gd C n root (if S.2 = [] then S else wT C up k (sk C up S))
   split
   · exact h
   · rename_i hq
     exact xo hC k _ (h.rnd hC (by rcases Nat.eq_zero_or_pos S.2.length with h1 | h1; exact absurd (List.eq_nil_of_length_eq_zero h1) hq; exact h1)).1
structure xZ (C : List aY) (n : Nat) (L : List Int) : Prop where
 len : L.length = n
 lo : ∀ k : Nat, k < n → -1 ≤ L.getD k 0
 hi : ∀ k : Nat, k < n → L.getD k 0 < (n : Int)
 led : ∀ k : Nat, k < n → 0 < L.getD k 0 → ∃ u : Nat, u < n ∧ Adj C u k ∧ L.getD u 0 = L.getD k 0 - 1
 rt : ∃ r : Nat, r < n ∧ ∀ k : Nat, k < n → (L.getD k 0 = 0 ↔ k = r)
theorem Bt {C : List aY} {up : List Bool} {n : Nat} {root : Int} (hC : bd C n) (h0 : 0 ≤ root) (h : root < (n : Int)) : xZ C n (cz C up n root) := by
 have g := xo (up := up) hC (n + 1) _ (Gd.zero (C := C) h0 h).1
 have hc := xH (cz C up n root)
 have hl : (cz C up n root).length = n := g.len
 refine ⟨hl, g.lo, fun k hk => ?_, g.led, root.toNat, by omega, fun k hk => ?_⟩
 · have h1 := g.hi k hk
   have h2 : (cz C up n root).getD k 0 + 1 ≤ (qZ (cz C up n root) : Int) := h1
   omega
 · have h1 := g.rt k hk
   have h2 : (cz C up n root).getD k 0 = 0 ↔ (k : Int) = root := h1
   rw [h2]; omega
end Go.Proofs.YtcaoldilmnpjoaaGreat
