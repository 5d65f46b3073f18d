/-
  Part Own35 of the proof.
-/
import Derived.Test.YtcaoldilmnpjoaaGreatOwn11
import Derived.Test.YtcaoldilmnpjoaaGreatOwn34
namespace Go.Proofs.YtcaoldilmnpjoaaGreat
set_option linter.all false
open Go.RowKit Go.Sx
set_option maxRecDepth 100000
set_option maxHeartbeats 16000000
theorem ll {l : List Int} {i : Nat} (h : i < l.length) : l.getD i 0 ∈ l := by rw [List.getD_eq_getElem?_getD, List.getElem?_eq_getElem h]; exact List.getElem_mem h
def bA (l : List Int) : List (Int × Bool) := l.foldl (fun M m => ak (K := Int) M m true) []
theorem gR (l : List Int) (x : Int) : bA (l ++ [x]) = ak (K := Int) (bA l) x true := by unfold bA; rw [List.foldl_append]; rfl
theorem gT (l : List Int) : ∀ x, (bB (K := Int) (bA l) x).getD false = decide (x ∈ l) := by
 have key : ∀ (l : List Int) (M : List (Int × Bool)) (x : Int), (bB (K := Int) (l.foldl (fun M m => ak (K := Int) M m true) M) x).getD false = (decide (x ∈ l) || (bB (K := Int) M x).getD false) := by
  intro l
  induction l with
  | nil => intro M x; simp
  | cons a l ih =>
    intro M x
    rw [List.foldl_cons, ih, jB]
    by_cases h : x = a
    · subst h; simp
    · rw [if_neg h]; simp [h]
 intro x
 have := key l [] x
 unfold bA
 rw [this]
 show (decide (x ∈ l) || false) = _
 rw [Bool.or_false]
theorem dS (l : List Int) {k : Nat} (h : k < l.length) : l.take (k + 1) = l.take k ++ [l.getD (k : Int).toNat 0] := by
 rw [List.take_succ_eq_append_getElem h, List.getD_eq_getElem?_getD, Int.toNat_natCast, List.getElem?_eq_getElem h]; rfl
theorem zc {l : List Int} (h : l.Nodup) {k : Nat} (hk : k < l.length) : l.getD (k : Int).toNat 0 ∉ l.take k := by
 rw [List.getD_eq_getElem?_getD, Int.toNat_natCast, List.getElem?_eq_getElem hk]
 intro hm
 obtain ⟨j, hj, he⟩ := List.mem_take_iff_getElem.1 hm
 exact List.pairwise_iff_getElem.1 h j k (by omega) hk (by omega) he
theorem xh {p : a8} {u : Int} (h : 0 ≤ u ∧ u < (p.1.length : Int)) : (yi p u).1 = true := by unfold yi; rw [if_pos h.1]; exact decide_eq_true h.2
structure CkP (p : a8) (o : ab) (s : Int) (ms : List Int) : Prop where
 lv : LvP p o
 s0 : 0 ≤ s ∧ s < (p.1.length : Int)
 len : ms.length ≤ 1000
 rng : ∀ m ∈ ms, 0 ≤ m ∧ m < (p.1.length : Int)
 nd : ms.Nodup
def gM (p : a8) (o : ab) (s : Int) (ms : List Int) : Tup [DT.cell Ii] := if ms.all (fun m => decide (0 ≤ lat o.1 m)) = true then (if lat o.1 s < 0 then (12, ()) else (0, ())) else (12, ())
noncomputable abbrev Eck1 : Env Ab := ⟨tis, [(86, jT.con), (36, dE.con)] ++ E0.con⟩
theorem eck1Ok : aU Tryz.prog AI Eck1 := ((ai.add eB).add rU)
def mO : aB := ⟨[.cell bT, .cell iq, .cell Ii, .lst Ii], fun (x : a8 × ab × Int × (List Int) × Unit) => CkP x.1 x.2.1 x.2.2.1 x.2.2.2.1, [.cell Ii], fun (x : a8 × ab × Int × (List Int) × Unit) => gM x.1 x.2.1 x.2.2.1 x.2.2.2.1⟩
theorem chk_ok (p : a8) (o : ab) (s : Int) (ms : List Int) (h : mO.pre (p, o, s, ms, ())) : PTk Tryz.prog AI 40 mO (p, o, s, ms, ()) := by
 dsimp only [PTk, mO] at h ⊢
 generalize hr : gM p o s ms = r
 obtain ⟨p1, p2⟩ := p; obtain ⟨L, ou⟩ := o; obtain ⟨hV, ⟨hs0, hs1⟩, hlen, hrng, hnd⟩ := h; have hn := hV.pl.n; have hLl := hV.lv.len; dsimp only at hn hs0 hs1 hrng hLl; have hts := xh (p := (p1, p2)) ⟨hs0, hs1⟩; have htm : ∀ m ∈ ms, (yi (p1, p2) m).1 = true := fun m hm => xh (p := (p1, p2)) (hrng m hm); have hmem : ∀ i : Nat, ((i : Nat) : Int) < (ms.length : Int) → ms.getD (i : Int).toNat 0 ∈ ms := fun i h => ll (by omega)
 dsimp only [gM] at hr
 refine Tb eck1Ok mixed (fn := Tryz.f40) ?_
 refine Pr ?_
 (try (conv in (SS.mk _ _) => dsimp only [aF]))
 refine Nx ?_
 with_reducible repeat' (first | exact True.intro | refine Ca ?_ | refine Cb ?_ | refine Cd ?_ | (refine Ce ?_; (try ((repeat (first | rw [ifP] at hr | rw [ifM] at hr | rw [if_pos rfl] at hr)); subst hr))) | refine Cm ?_ ?_ | (first | refine Bo (fun hk h => ?_) fun hk h => ?_ | refine Al (fun hk h => ?_) fun hk h => ?_) <;> (try dsimp only [aF] at h) <;> (try simp only [natCast_eq] at h) <;> (try exact absurd (hts.symm.trans h) Bool.noConfusion) <;> (try (have hb : (_ : Bool) = _ := h; clear h; subst hb)) <;> (try replace hr := hri hr) <;> first | exact Dd | refine Nx ?_)
 all_goals first | with_reducible refine Ez ?_ | exact Cl1 | (dsimp only [aF]; exact Cl1) | (dsimp only; simp only [aH, aJ]; first | exact hV) | exact hV | exact Cl2 | (dsimp only [aF]; exact Cl2) | (dsimp only [aF] at *; exact Cl2) | skip
 refine ⟨⟨{i : Nat // i ≤ ms.length}, fun i => ⟨[(2, Sx.one (.int .i64 (fun _ => s))), (3, Sx.one (.ro Ii (fun _ => ms))), (4, Sx.one (.ptr 0 0)), (5, Sx.one (.ptr 1 0)), (24, Sx.one (.ro Ii (fun _ => ms))), (25, Sx.one (.int .i64 (fun _ => ms.length))), (26, Sx.one (.int .i64 (fun _ => i.1)))],
  [.cells 25 [.ro ah (fun _ => p1), .ro az (fun _ => p2)], .cells 32 [.ro Ii (fun _ => L)]]⟩, fun i => ms.length - i.1, ⟨0, Nat.zero_le _⟩⟩, ?_, fun (i : {i : Nat // i ≤ ms.length}) => ?_⟩
 · refine Pr ?_
   (try (conv in (SS.mk _ _) => dsimp only [aF]))
   refine Nx ?_
   with_reducible repeat' first | exact True.intro | refine Ca ?_ | refine Cb ?_ | refine Cd ?_ | refine Ce ?_ | refine Cm ?_ ?_
   all_goals first | with_reducible refine Ez ?_ | exact Cl1 | (dsimp only [aF]; exact Cl1) | rfl | exact Cl2 | (dsimp only [aF]; exact Cl2) | (dsimp only [aF] at *; exact Cl2) | skip
 obtain ⟨i, hi⟩ := i
 dsimp only
 have hx := fun (h : (i : Int) < (ms.length : Int)) => (⟨by omega, h⟩ : (0 : Int) ≤ (i : Int) ∧ (i : Int) < (ms.length : Int))
 have hin := fun (h : (i : Int) < (ms.length : Int)) => htm _ (hmem i h)
 refine Pr ?_
 (try (conv in (SS.mk _ _) => dsimp only [aF]))
 refine Nx ?_
 with_reducible repeat' (first | exact True.intro | refine Ca ?_ | refine Cb ?_ | refine Cd ?_ | refine Ce ?_ | refine Cm ?_ ?_ | (first | refine Bo (fun hk h => ?_) fun hk h => ?_ | refine Al (fun hk h => ?_) fun hk h => ?_) <;> (try dsimp only [aF] at h) <;> (try simp only [natCast_eq] at h) <;> (try exact absurd (hts.symm.trans h) Bool.noConfusion) <;> (try (have hb : (_ : Bool) = _ := h; clear h; subst hb)) <;> (try replace hr := hri hr) <;> first | exact Dd | refine Nx ?_)
 all_goals first | with_reducible refine Ez ?_ | exact Cl1 | (dsimp only [aF]; exact Cl1) | exact hx (by assumption) | exact absurd ((hin (by assumption)).symm.trans h) (fun e => Bool.noConfusion e) | exact Cl2 | (dsimp only [aF]; exact Cl2) | (dsimp only [aF] at *; exact Cl2) | skip
 · refine ⟨⟨i + 1, by omega⟩, (by dsimp only; omega), ?_⟩
   refine Pr ?_
   (try (conv in (SS.mk _ _) => dsimp only [aF]))
   refine Nx ?_
   with_reducible repeat' first | exact True.intro | refine Ca ?_ | refine Cb ?_ | refine Cd ?_ | refine Ce ?_ | refine Cm ?_ ?_
   all_goals first | with_reducible refine Ez ?_ | exact Cl1 | (dsimp only [aF]; exact Cl1) | rfl | exact Cl2 | (dsimp only [aF]; exact Cl2) | (dsimp only [aF] at *; exact Cl2) | skip
 clear hin hx
 refine ⟨⟨{i : Nat // i ≤ ms.length}, fun i => ⟨[(2, Sx.one (.int .i64 (fun _ => s))), (3, Sx.one (.ro Ii (fun _ => ms))), (4, Sx.one (.ptr 0 0)), (5, Sx.one (.ptr 1 0)), (11, Sx.one (.mp 2)), (36, Sx.one (.ro Ii (fun _ => ms))), (37, Sx.one (.int .i64 (fun _ => ms.length))), (38, Sx.one (.int .i64 (fun _ => i.1)))],
  [.cells 25 [.ro ah (fun _ => p1), .ro az (fun _ => p2)], .cells 32 [.ro Ii (fun _ => L)], .map (.int .i64) .bool (fun _ => bA (ms.take i.1))]⟩, fun i => ms.length - i.1, ⟨0, Nat.zero_le _⟩⟩, ?_, fun (i : {i : Nat // i ≤ ms.length}) => ?_⟩
 · refine Pr ?_
   (try (conv in (SS.mk _ _) => dsimp only [aF]))
   refine Nx ?_
   with_reducible repeat' first | exact True.intro | refine Ca ?_ | refine Cb ?_ | refine Cd ?_ | refine Ce ?_ | refine Cm ?_ ?_
   all_goals first | with_reducible refine Ez ?_ | exact Cl1 | (dsimp only [aF]; exact Cl1) | rfl | exact Cl2 | (dsimp only [aF]; exact Cl2) | (dsimp only [aF] at *; exact Cl2) | skip
 obtain ⟨i, hi⟩ := i
 dsimp only
 have hx := fun (h : (i : Int) < (ms.length : Int)) => (⟨by omega, h⟩ : (0 : Int) ≤ (i : Int) ∧ (i : Int) < (ms.length : Int))
 have hno : ∀ (h : (i : Int) < (ms.length : Int)), (bB (K := Int) (bA (ms.take i)) (ms.getD (i : Int).toNat 0)).getD false = false := fun h => by
  rw [gT]; exact decide_eq_false (zc hnd (by omega))
 have hsn : ∀ (h : (i : Int) < (ms.length : Int)), bA (ms.take (i + 1)) = ak (K := Int) (bA (ms.take i)) (ms.getD (i : Int).toNat 0) true := fun h => by
  rw [dS ms (by omega), gR]
 refine Pr ?_
 (try (conv in (SS.mk _ _) => dsimp only [aF]))
 refine Nx ?_
 with_reducible repeat' (first | exact True.intro | refine Ca ?_ | refine Cb ?_ | refine Cd ?_ | refine Ce ?_ | refine Cm ?_ ?_ | (first | refine Bo (fun hk h => ?_) fun hk h => ?_ | refine Al (fun hk h => ?_) fun hk h => ?_) <;> (try dsimp only [aF] at h) <;> (try simp only [natCast_eq] at h) <;> (try exact absurd (hts.symm.trans h) Bool.noConfusion) <;> (try (have hb : (_ : Bool) = _ := h; clear h; subst hb)) <;> (try replace hr := hri hr) <;> first | exact Dd | refine Nx ?_)
 all_goals first | with_reducible refine Ez ?_ | exact Cl1 | (dsimp only [aF]; exact Cl1) | exact hx (by assumption) | exact absurd ((hno (by assumption)).symm.trans h) (fun e => Bool.noConfusion e) | exact Cl2 | (dsimp only [aF]; exact Cl2) | (dsimp only [aF] at *; exact Cl2) | skip
 · refine ⟨⟨i + 1, by omega⟩, (by dsimp only; omega), ?_⟩
   refine Pr ?_
   (try (conv in (SS.mk _ _) => dsimp only [aF]))
   refine Nx ?_
   with_reducible repeat' first | exact True.intro | refine Ca ?_ | refine Cb ?_ | refine Cd ?_ | refine Ce ?_ | refine Cm ?_ ?_
   all_goals first | with_reducible refine Ez ?_ | exact Cl1 | (dsimp only [aF]; exact Cl1) | exact (hsn (by assumption)).symm | exact Cl2 | (dsimp only [aF]; exact Cl2) | (dsimp only [aF] at *; exact Cl2) | skip
 clear hno hsn hx
 obtain ⟨x0, hx0⟩ := La.zero ms (fun m => decide (0 ≤ lat L m))
 refine ⟨⟨La ms (fun m => decide (0 ≤ lat L m)), fun x => ⟨[(2, Sx.one (.int .i64 (fun _ => s))), (5, Sx.one (.ptr 1 0)), (48, Sx.one (.ro Ii (fun _ => ms))), (49, Sx.one (.int .i64 (fun _ => ms.length))), (50, Sx.one (.int .i64 (fun _ => x.i)))],
  [.cells 25 [.ro ah (fun _ => p1), .ro az (fun _ => p2)], .cells 32 [.ro Ii (fun _ => L)]]⟩, fun x => (ms.length - x.i).toNat, x0⟩, ?_, fun (x : La ms (fun m => decide (0 ≤ lat L m))) => ?_⟩
 · refine Pr ?_
   (try (conv in (SS.mk _ _) => dsimp only [aF]))
   refine Nx ?_
   with_reducible repeat' first | exact True.intro | refine Ca ?_ | refine Cb ?_ | refine Cd ?_ | refine Ce ?_ | refine Cm ?_ ?_
   all_goals first | with_reducible refine Ez ?_ | exact Cl1 | (dsimp only [aF]; exact Cl1) | exact hx0.symm | exact Cl2 | (dsimp only [aF]; exact Cl2) | (dsimp only [aF] at *; exact Cl2) | skip
 have hlo := x.lo
 have hhi := x.hi
 have hx := fun (h : x.i < (ms.length : Int)) => (⟨hlo, h⟩ : (0 : Int) ≤ x.i ∧ x.i < (ms.length : Int))
 have hml : ∀ (h : x.i < (ms.length : Int)), 0 ≤ ms.getD x.i.toNat 0 ∧ ms.getD x.i.toNat 0 < (L.length : Int) := fun h => by
  rw [hLl]; exact hrng _ (ll (by omega))
 have hsl : 0 ≤ s ∧ s < (L.length : Int) := by rw [hLl]; exact ⟨hs0, hs1⟩
 have hbad : ∀ (h : x.i < (ms.length : Int)) (h2 : L.getD (ms.getD x.i.toNat 0).toNat 0 < 0), ms.all (fun m => decide (0 ≤ lat L m)) = false := fun h h2 => x.bad 0 h (decide_eq_false (by show ¬ 0 ≤ L.getD _ _; omega))
 have hok : ∀ (h : x.i < (ms.length : Int)) (h2 : ¬ L.getD (ms.getD x.i.toNat 0).toNat 0 < 0), decide (0 ≤ lat L (ms.getD x.i.toNat 0)) = true := fun h h2 => decide_eq_true (by show 0 ≤ L.getD _ _; omega)
 refine Pr ?_
 (try (conv in (SS.mk _ _) => dsimp only [aF]))
 refine Nx ?_
 with_reducible repeat' (first | exact True.intro | refine Ca ?_ | refine Cb ?_ | refine Cd ?_ | refine Ce ?_ | refine Cm ?_ ?_ | (first | refine Bo (fun hk h => ?_) fun hk h => ?_ | refine Al (fun hk h => ?_) fun hk h => ?_) <;> (try dsimp only [aF] at h) <;> (try simp only [natCast_eq] at h) <;> (try exact absurd (hts.symm.trans h) Bool.noConfusion) <;> (try (have hb : (_ : Bool) = _ := h; clear h; subst hb)) <;> (try replace hr := hri hr) <;> first | exact Dd | refine Nx ?_)
 all_goals first | with_reducible refine Ez ?_ | exact Cl1 | (dsimp only [aF]; exact Cl1) | exact hx (by assumption) | exact hml (by assumption) | exact hsl | (subst hr; rw [if_neg (by rw [hbad (by assumption) (by assumption)]; decide)]) | (subst hr; rw [if_pos (x.done (by assumption))]) | exact Cl2 | (dsimp only [aF]; exact Cl2) | (dsimp only [aF] at *; exact Cl2) | skip
 obtain ⟨y, hy⟩ := x.step 0 (by assumption) (hok (by assumption) (by assumption))
 refine ⟨y, dF (by assumption) hy, ?_⟩
 refine Pr ?_
 (try (conv in (SS.mk _ _) => dsimp only [aF]))
 refine Nx ?_
 with_reducible repeat' first | exact True.intro | refine Ca ?_ | refine Cb ?_ | refine Cd ?_ | refine Ce ?_ | refine Cm ?_ ?_
 all_goals first | with_reducible refine Ez ?_ | exact Cl1 | (dsimp only [aF]; exact Cl1) | exact hy.symm | exact Cl2 | (dsimp only [aF]; exact Cl2) | (dsimp only [aF] at *; exact Cl2) | skip
theorem AG : aE Tryz.prog AI 40 mO.con := aB.sound Tryz.call40 (fun x h => chk_ok x.1 x.2.1 x.2.2.1 x.2.2.2.1 h)
structure TmS where
 wd : List (Int × Bool)
 p1 : List cL
 p2 : List aY
 par : List Int
 src : Int
 out : List (List Int)
 dl : List Int
def edB (p : a8) (par : List Int) (u o c : Int) : Bool := !decide (c = o) && ((lh p c u).1 && (decide (par.getD u.toNat 0 = c) || decide (par.getD (otF p c u).1.toNat 0 = c)))
def ndB (p : a8) (par : List Int) (wd : List (Int × Bool)) : Nat → Int → Int → Bool
 | 0, _, _ => false
 | k + 1, u, o => (bB (K := Int) wd u).getD false || (List.range p.2.length).any fun c : Nat => edB p par u o (c : Int) && ndB p par wd k (otF p (c : Int) u).1 (c : Int)
def apL (p : a8) (par : List Int) (wd : List (Int × Bool)) : Nat → Int → Int → List (Int × Int)
 | 0, _, _ => []
 | k + 1, u, o => (List.range p.2.length).flatMap fun c : Nat => if edB p par u o (c : Int) = true then apL p par wd k (otF p (c : Int) u).1 (c : Int) ++ (if ndB p par wd k (otF p (c : Int) u).1 (c : Int) = true then [(u, (c : Int))] else []) else []
def w8 (O : List (List Int)) (x : Int × Int) : List (List Int) := O.set x.1.toNat (O.getD x.1.toNat [] ++ [x.2])
def ec (O : List (List Int)) (l : List (Int × Int)) : List (List Int) := l.foldl w8 O
theorem nZ (O : List (List Int)) (l m : List (Int × Int)) : ec O (l ++ m) = ec (ec O l) m := List.foldl_append ..
theorem nY (O : List (List Int)) (l : List (Int × Int)) : (ec O l).length = O.length := by
 induction l generalizing O with
 | nil => rfl
 | cons x l ih => show (ec (w8 O x) l).length = _; rw [ih]; exact List.length_set ..
theorem uf (O : List (List Int)) (i : Nat) (x : List Int) (k : Nat) : (O.set i x).getD k [] = if i = k ∧ k < O.length then x else O.getD k [] := by
 rw [List.getD_eq_getElem?_getD, List.getElem?_set, List.getD_eq_getElem?_getD]
 by_cases e : i = k
 · subst e
   rw [if_pos rfl]
   by_cases h : i < O.length
   · rw [if_pos h, if_pos ⟨rfl, h⟩]; rfl
   · rw [if_neg h, if_neg (fun h2 => h h2.2), List.getElem?_eq_none (by omega)]
 · rw [if_neg e, if_neg (fun h2 => e h2.1)]
theorem nX (O : List (List Int)) (l : List (Int × Int)) (k : Nat) : ((ec O l).getD k []).length ≤ (O.getD k []).length + l.length := by
 induction l generalizing O with
 | nil => exact Nat.le_refl _
 | cons x l ih =>
   refine Nat.le_trans (ih (w8 O x)) ?_
   unfold w8
   rw [uf]
   split
   · rename_i h
     rw [h.1, List.length_append, List.length_cons, List.length_cons, List.length_nil]; omega
   · rw [List.length_cons]; omega
def apJ (p : a8) (par : List Int) (wd : List (Int × Bool)) (k : Nat) (u o : Int) (j : Nat) : List (Int × Int) :=
 (List.range j).flatMap fun c : Nat => if edB p par u o (c : Int) = true then apL p par wd k (otF p (c : Int) u).1 (c : Int) ++ (if ndB p par wd k (otF p (c : Int) u).1 (c : Int) = true then [(u, (c : Int))] else []) else []
def ndJ (p : a8) (par : List Int) (wd : List (Int × Bool)) (k : Nat) (u o : Int) (j : Nat) : Bool :=
 (bB (K := Int) wd u).getD false || (List.range j).any fun c : Nat => edB p par u o (c : Int) && ndB p par wd k (otF p (c : Int) u).1 (c : Int)
theorem jK (p : a8) (par : List Int) (wd : List (Int × Bool)) (k : Nat) (u o : Int) (j : Nat) : apJ p par wd k u o (j + 1) = apJ p par wd k u o j ++ (if edB p par u o (j : Int) = true then apL p par wd k (otF p (j : Int) u).1 (j : Int) ++ (if ndB p par wd k (otF p (j : Int) u).1 (j : Int) = true then [(u, (j : Int))] else []) else []) := by
 unfold apJ
 rw [List.range_succ, List.flatMap_append]; simp
theorem pn (p : a8) (par : List Int) (wd : List (Int × Bool)) (k : Nat) (u o : Int) (j : Nat) : ndJ p par wd k u o (j + 1) = (ndJ p par wd k u o j || (edB p par u o (j : Int) && ndB p par wd k (otF p (j : Int) u).1 (j : Int))) := by
 unfold ndJ
 rw [List.range_succ, List.any_append, Bool.or_assoc]; simp
theorem apJ_le (p : a8) (par : List Int) (wd : List (Int × Bool)) (k : Nat) (u o : Int) {i j : Nat} (h : i ≤ j) : (apJ p par wd k u o i).length ≤ (apJ p par wd k u o j).length := by
 induction j with
 | zero => rw [show i = 0 by omega]; exact Nat.le_refl _
 | succ j ih =>
   by_cases e : i = j + 1
   · rw [e]; exact Nat.le_refl _
   · have := ih (by omega)
     rw [jK, List.length_append]; omega
theorem qj {p : a8} {par : List Int} {wd : List (Int × Bool)} {k : Nat} {u o : Int} {j : Nat} (h : edB p par u o (j : Int) = false) : apJ p par wd k u o (j + 1) = apJ p par wd k u o j ∧ ndJ p par wd k u o (j + 1) = ndJ p par wd k u o j := by
 rw [jK, pn, if_neg (by rw [h]; decide), h]; simp
theorem CD {p : a8} {par : List Int} {wd : List (Int × Bool)} {k : Nat} {u o : Int} {j : Nat} (h : edB p par u o (j : Int) = true) (h2 : ndB p par wd k (otF p (j : Int) u).1 (j : Int) = false) : apJ p par wd k u o (j + 1) = apJ p par wd k u o j ++ apL p par wd k (otF p (j : Int) u).1 (j : Int) ∧ ndJ p par wd k u o (j + 1) = ndJ p par wd k u o j := by
 rw [jK, pn, if_pos h, if_neg (by rw [h2]; decide), h, h2]; simp
theorem yR {p : a8} {par : List Int} {wd : List (Int × Bool)} {k : Nat} {u o : Int} {j : Nat} (h : edB p par u o (j : Int) = true) (h2 : ndB p par wd k (otF p (j : Int) u).1 (j : Int) = true) : apJ p par wd k u o (j + 1) = apJ p par wd k u o j ++ apL p par wd k (otF p (j : Int) u).1 (j : Int) ++ [(u, (j : Int))] ∧ ndJ p par wd k u o (j + 1) = true := by
 rw [jK, pn, if_pos h, if_pos h2, h, h2]; simp
theorem BS (p : a8) (par : List Int) (wd : List (Int × Bool)) (k : Nat) (u o : Int) : ndJ p par wd k u o 0 = (bB (K := Int) wd u).getD false := by unfold ndJ; simp
theorem ed_1 {p : a8} {par : List Int} {u o c : Int} (h : c = o) : edB p par u o c = false := by unfold edB; rw [decide_eq_true h]; rfl
theorem ed_2 {p : a8} {par : List Int} {u o c : Int} (h : (lh p c u).1 = false) : edB p par u o c = false := by unfold edB; rw [h]; simp
theorem ed_3 {p : a8} {par : List Int} {u o c : Int} (h : ¬ par.getD u.toNat 0 = c) (h2 : ¬ par.getD (otF p c u).1.toNat 0 = c) : edB p par u o c = false := by unfold edB; rw [decide_eq_false h, decide_eq_false h2]; simp
theorem rG {p : a8} {par : List Int} {u o c : Int} (h0 : ¬ c = o) (h1 : (lh p c u).1 = true) (h : par.getD u.toNat 0 = c ∨ par.getD (otF p c u).1.toNat 0 = c) : edB p par u o c = true := by
 unfold edB
 rw [decide_eq_false h0, h1]
 rcases h with h | h
 · rw [decide_eq_true h]; simp
 · rw [decide_eq_true h]; simp
def TmP (p : a8) (par : List Int) (n : Nat) (u o : Int) : Prop := ∃ r : Int → Int → Nat, r u o < n ∧ ∀ u o c, 0 ≤ u → u < (p.1.length : Int) → edB p par u o c = true → r (otF p c u).1 c < r u o
theorem TmP.next {p : a8} {par : List Int} {n : Nat} {u o c : Int} (h : TmP p par (n + 1) u o) (h0 : 0 ≤ u) (h1 : u < (p.1.length : Int)) (he : edB p par u o c = true) : TmP p par n (otF p c u).1 c := by
 obtain ⟨r, h2, h3⟩ := h
 have := h3 u o c h0 h1 he
 exact ⟨r, by omega, h3⟩
theorem dR {p : a8} {c u : Int} (h : (lh p c u).1 = true) : (0 ≤ c ∧ c < (p.2.length : Int)) ∧ ((cab p c).1 = u ∨ (cab p c).2.2.1 = u) := by
 unfold lh at h
 split at h
 · split at h
   · refine ⟨⟨by assumption, by assumption⟩, ?_⟩
     split at h
     · exact .inl (by assumption)
     · exact .inr (of_decide_eq_true h)
   · cases h
 · cases h
theorem tC {p : a8} (hT : TrP p) {c u : Int} (h : (lh p c u).1 = true) : 0 ≤ (otF p c u).1 ∧ (otF p c u).1 < (p.1.length : Int) := by
 obtain ⟨⟨h0, h1⟩, h2⟩ := dR h
 have h3 := hT.at h0 h1
 show 0 ≤ (cab p c).1 + (cab p c).2.2.1 - u ∧ (cab p c).1 + (cab p c).2.2.1 - u < _
 rcases h2 with h2 | h2 <;> omega
end Go.Proofs.YtcaoldilmnpjoaaGreat
