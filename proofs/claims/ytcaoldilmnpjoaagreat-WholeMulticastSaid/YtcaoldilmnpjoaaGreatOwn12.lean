/-
  Part Own12 of the proof.
-/
import Derived.Test.YtcaoldilmnpjoaaGreatOwn11
namespace Go.Proofs.YtcaoldilmnpjoaaGreat
set_option linter.all false
open Go.RowKit Go.Sx
set_option maxRecDepth 100000
set_option maxHeartbeats 16000000
def iD (L : List Int) (u : Int) (c : aY) : Bool :=
 if 0 < L.getD u.toNat 0 then
  (if c.1 = u then
    (if L.getD c.2.2.1.toNat 0 = L.getD u.toNat 0 - 1 then true else (if c.2.2.1 = u then decide (L.getD c.1.toNat 0 = L.getD u.toNat 0 - 1) else false))
  else (if c.2.2.1 = u then decide (L.getD c.1.toNat 0 = L.getD u.toNat 0 - 1) else false))
 else false
structure LvB (L : List Int) (n : Nat) : Prop where
 len : L.length = n
 n : n ≤ 16
 rng : ∀ k : Nat, -1 ≤ L.getD k 0 ∧ L.getD k 0 < 16
def iC : aj Ab := ⟨4, aY × List Int × Int, fun args cs => match args, cs with
 | [.val (.agg [.int .i64 a1, .int .i64 a2, .int .i64 a3, .int .i64 a4, .int .i64 a5, .int .i64 a6]), .val (.one (.ptr 1 0)), .val (.one (.ptr 3 0))], [.cells 25 [.ro (.pair .str (.pair .bool (.int .i64))) p1, .ro (.pair (.int .i64) (.pair (.int .i64) (.pair (.int .i64) (.pair (.int .i64) (.pair (.int .i64) (.int .i64)))))) p2], .cells 32 [.ro (.int .i64) L], .row 3 (.int .i64) 0 R, .cells 3 [.int .i64 u]] =>
   some (fun _ => ((a1 (), a2 (), a3 (), a4 (), a5 (), a6 ()), L (), u ()))
 | _, _ => none, fun x => LvB x.2.1 x.2.1.length ∧ (0 ≤ x.2.2 ∧ x.2.2 < (x.2.1.length : Int)) ∧ (0 ≤ x.1.1 ∧ x.1.1 < (x.2.1.length : Int)) ∧ (0 ≤ x.1.2.2.1 ∧ x.1.2.2.1 < (x.2.1.length : Int)), fun x => Sx.one (.sb (fun _ => iD (x ()).2.1 (x ()).2.2 (x ()).1))⟩
theorem pcl_ok (args : List SV) (cs : List (Chunk Ab)) (x : U iC.X) (hx : iC.un args cs = some x) (h : iC.pre (x ())) : args.length ≤ Tryz.f88.ntmps ∧ svc E0 4 (aS Tryz.f88) ⟨cQ 0 args, cs⟩ (ek tis 4 Tryz.f88.results.toList (iC.res x) cs) := by
 dsimp only [iC] at x hx h ⊢
 split at hx <;> (try cases hx)
 rename_i a1 a2 a3 a4 a5 a6 p1 p2 L R u
 refine ⟨Nat.le_of_ble_eq_true (by kernel_rfl), ?_⟩
 obtain ⟨hL, ⟨hu0, hu1⟩, ⟨hA0, hA1⟩, hB0, hB1⟩ := h
 dsimp only at hL hu0 hu1 hA0 hA1 hB0 hB1
 have hI := hL.rng (u ()).toNat
 have hI1 : b5 ((L ()).getD (u ()).toNat 0 - 1) := by unfold b5; omega
 generalize hr : iD _ _ _ = r
 dsimp only [iD] at hr
 refine Pq ?_
 with_reducible repeat' (first | exact True.intro | refine Ca ?_ | refine Cb ?_ | refine Cd ?_ | (refine Ce ?_; (try ((repeat (first | rw [ifP] at hr | rw [ifM] at hr | rw [if_pos rfl] at hr)); subst hr))) | refine Cm ?_ ?_ | (first | refine Bo (fun hk h => ?_) fun hk h => ?_ | refine Al (fun hk h => ?_) fun hk h => ?_) <;> (try (have hb : (_ : Bool) = _ := h; clear h; subst hb)) <;> (try replace hr := hri hr) <;> first | exact Dd | refine Nx ?_)
 all_goals first | with_reducible refine Ez ?_ | exact Cl1 | exact hI1 | exact Cl2 | skip
theorem zW : aE Tryz.prog AI 88 iC.con := aj.sound ai mixed (fn := Tryz.f88) (c := aS Tryz.f88) Tryz.call88 (by kernel_rfl) (by kernel_rfl) (by kernel_rfl) fun args cs x hx h _ => pcl_ok args cs x hx h
def gH {α : Type} (f : α → Bool) (l : List α) : Int := if l.findIdx f < l.length then (l.findIdx f : Int) else -1
theorem lp {α : Type} {l : List α} {i : Nat} (h : i < l.length) (z : α) : l.getD i z = l[i] := by rw [List.getD_eq_getElem?_getD, List.getElem?_eq_getElem h]; rfl
theorem idx_hit {α : Type} {f : α → Bool} {l : List α} {i : Nat} (z : α) (h : i < l.length) (h1 : f (l.getD i z) = true) (h2 : ∀ k, k < i → f (l.getD k z) = false) : gH f l = (i : Int) := by
 have e : l.findIdx f = i := (List.findIdx_eq h).2 ⟨by rw [← lp h z]; exact h1, fun j hj => by
  have := h2 j hj
  rw [lp (by omega)] at this
  exact this⟩
 unfold gH
 rw [e, if_pos h]
theorem Be {α : Type} {f : α → Bool} {l : List α} (z : α) (h2 : ∀ k, k < l.length → f (l.getD k z) = false) : gH f l = -1 := by
 unfold gH
 rw [if_neg]
 intro h
 have h3 := List.findIdx_getElem (w := h)
 have h4 := h2 _ h
 rw [lp h] at h4
 rw [h3] at h4; cases h4
theorem idx_rng {α : Type} (f : α → Bool) (l : List α) : -1 ≤ gH f l ∧ gH f l < (l.length : Int) := by
 unfold gH
 split <;> omega
theorem Bd {α : Type} {f : α → Bool} {l : List α} (z : α) (h : 0 ≤ gH f l) : f (l.getD (gH f l).toNat z) = true := by
 unfold gH at h ⊢
 split at h
 · rename_i hl
   rw [if_pos hl, Int.toNat_natCast, lp hl]
   exact List.findIdx_getElem
 · omega
theorem idx_ex {α : Type} {f : α → Bool} {l : List α} {x : α} (hx : x ∈ l) (h : f x = true) : 0 ≤ gH f l := by
 unfold gH
 rw [if_pos (List.findIdx_lt_length_of_exists ⟨x, hx, h⟩)]
 omega
structure IfP (L : List Int) (u : Int) (C : List aY) : Prop where
 lv : LvB L L.length
 u0 : 0 ≤ u ∧ u < (L.length : Int)
 c : C.length ≤ 32
 e : ∀ k : Nat, k < C.length → (0 ≤ (C.getD k z6).1 ∧ (C.getD k z6).1 < (L.length : Int)) ∧ (0 ≤ (C.getD k z6).2.2.1 ∧ (C.getD k z6).2.2.1 < (L.length : Int))
def iO : aj Ab := ⟨4, List aY × List Int × Int, fun args cs => match args, cs with
 | [.val (.one (.ro (.pair (.int .i64) (.pair (.int .i64) (.pair (.int .i64) (.pair (.int .i64) (.pair (.int .i64) (.int .i64)))))) C)), .val (.fn 88 [.ptr 1 0, .ptr 3 0])], [.cells 25 [.ro (.pair .str (.pair .bool (.int .i64))) p1, .ro (.pair (.int .i64) (.pair (.int .i64) (.pair (.int .i64) (.pair (.int .i64) (.pair (.int .i64) (.int .i64)))))) p2], .cells 32 [.ro (.int .i64) L], .row 3 (.int .i64) 0 R, .cells 3 [.int .i64 u]] =>
   some (fun _ => (C (), L (), u ()))
 | _, _ => none, fun x => IfP x.2.1 x.2.2 x.1, fun x => Sx.one (.int .i64 (fun _ => gH (iD (x ()).2.1 (x ()).2.2) (x ()).1))⟩
noncomputable abbrev Eip : Env Ab := ⟨tis, [(88, iC.con)] ++ E0.con⟩
theorem eipOk : aU Tryz.prog AI Eip := ai.add zW
theorem ifc_ok (args : List SV) (cs : List (Chunk Ab)) (x : U iO.X) (hx : iO.un args cs = some x) (h : iO.pre (x ())) : args.length ≤ Tryz.f87.ntmps ∧ svc Eip 4 (aS Tryz.f87) ⟨cQ 0 args, cs⟩ (ek tis 4 Tryz.f87.results.toList (iO.res x) cs) := by
 dsimp only [iO] at x hx h ⊢
 split at hx <;> (try cases hx)
 rename_i C p1 p2 L R u
 refine ⟨Nat.le_of_ble_eq_true (by kernel_rfl), ?_⟩
 obtain ⟨hL, hu, hC, hE⟩ := h
 dsimp only at hL hu hC hE
 dsimp only [U] at C L u p1 p2 R
 generalize hr : gH (iD _ _) _ = r
 refine Pq ?_
 with_reducible repeat' (first | exact True.intro | refine Ca ?_ | refine Cb ?_ | refine Cd ?_ | refine Ce ?_ | refine Cm ?_ ?_ | (first | refine Bo (fun hk h => ?_) fun hk h => ?_ | refine Al (fun hk h => ?_) fun hk h => ?_) <;> (try (have hb : (_ : Bool) = _ := h; clear h; subst hb)) <;> (try replace hr := hri hr) <;> first | exact Dd | refine Nx ?_)
 all_goals first | with_reducible refine Ez ?_ | exact Cl1 | exact Cl2 | skip
 refine ⟨⟨{i : Nat // i ≤ (C ()).length ∧ ∀ k, k < i → iD (L ()) (u ()) ((C ()).getD k z6) = false}, fun i => ⟨[(0, Sx.one (.ro az C)), (1, .val (.fn 88 [.ptr 1 0, .ptr 3 0])), (6, Sx.one (.ro az C)), (7, Sx.one (.int .i64 (fun _ => (C ()).length))), (8, Sx.one (.int .i64 (fun _ => i.1)))],
  [.cells 25 [.ro ah p1, .ro az p2], .cells 32 [.ro Ii L], .row 3 Ii 0 R, .cells 3 [.int .i64 u]]⟩, fun i => (C ()).length - i.1, ⟨0, Nat.zero_le _, fun k hk => absurd hk (Nat.not_lt_zero _)⟩⟩, ?_, fun (i : {i : Nat // i ≤ (C ()).length ∧ ∀ k, k < i → iD (L ()) (u ()) ((C ()).getD k z6) = false}) => ?_⟩
 · refine Pq ?_
   with_reducible repeat' first | exact True.intro | refine Ca ?_ | refine Cb ?_ | refine Cd ?_ | refine Ce ?_ | refine Cm ?_ ?_
   all_goals first | with_reducible refine Ez ?_ | exact Cl1 | rfl | exact Cl2 | skip
 obtain ⟨i, hi, hK⟩ := i
 dsimp only at hi hK ⊢
 have hx := fun (h : (i : Int) < ((C ()).length : Int)) => (⟨by omega, h⟩ : (0 : Int) ≤ (i : Int) ∧ (i : Int) < ((C ()).length : Int))
 have hpre : ∀ (h : (i : Int) < ((C ()).length : Int)), LvB (L ()) (L ()).length ∧ (0 ≤ u () ∧ u () < ((L ()).length : Int)) ∧ (0 ≤ ((C ()).getD (i : Int).toNat z6).1 ∧ ((C ()).getD (i : Int).toNat z6).1 < ((L ()).length : Int)) ∧ (0 ≤ ((C ()).getD (i : Int).toNat z6).2.2.1 ∧ ((C ()).getD (i : Int).toNat z6).2.2.1 < ((L ()).length : Int)) := fun h => ⟨hL, hu, hE i (by omega)⟩
 have hit : ∀ (h : (i : Int) < ((C ()).length : Int)) (h1 : iD (L ()) (u ()) ((C ()).getD (i : Int).toNat z6) = true), gH (iD (L ()) (u ())) (C ()) = (i : Int) := fun h h1 => idx_hit z6 (by omega) h1 hK
 have hno : ∀ (h : ¬ (i : Int) < ((C ()).length : Int)), gH (iD (L ()) (u ())) (C ()) = -1 := fun h => Be z6 fun k hk => hK k (by omega)
 refine Pq ?_
 with_reducible repeat' (first | exact True.intro | refine Ca ?_ | refine Cb ?_ | refine Cd ?_ | refine Ce ?_ | refine Cm ?_ ?_ | (first | refine Bo (fun hk h => ?_) fun hk h => ?_ | refine Al (fun hk h => ?_) fun hk h => ?_) <;> (try (have hb : (_ : Bool) = _ := h; clear h; subst hb)) <;> (try replace hr := hri hr) <;> first | exact Dd | refine Nx ?_)
 all_goals first | with_reducible refine Ez ?_ | exact Cl1 | exact hx (by assumption) | exact hpre (by assumption) | (rw [← hr]; exact (hit (by assumption) h).symm) | (rw [← hr]; exact (hno h).symm) | exact Cl2 | skip
 have hnx : ∀ k, k < i + 1 → iD (L ()) (u ()) ((C ()).getD k z6) = false := fun k hk => by
  by_cases e : k = i
  · subst e; exact h
  · exact hK k (by omega)
 refine ⟨⟨i + 1, by omega, hnx⟩, (by dsimp only; omega), ?_⟩
 refine Pq ?_
 with_reducible repeat' first | exact True.intro | refine Ca ?_ | refine Cb ?_ | refine Cd ?_ | refine Ce ?_ | refine Cm ?_ ?_
 all_goals first | with_reducible refine Ez ?_ | exact Cl1 | rfl | exact Cl2 | skip
theorem zu : aE Tryz.prog AI 87 iO.con := aj.sound eipOk mixed (fn := Tryz.f87) (c := aS Tryz.f87) Tryz.call87 (by kernel_rfl) (by kernel_rfl) (by kernel_rfl) fun args cs x hx h _ => ifc_ok args cs x hx h
def bU (p : a8) (L : List Int) (u : Int) : Int := gH (iD L u) p.2
def ij (p : a8) (L : List Int) (i : Nat) : List Int := (List.range p.1.length).map fun k : Nat => if k < i then bU p L (k : Int) else 0
def cm (p : a8) (o : ab) : Tup [DT.lst Ii] := ((List.range p.1.length).map fun k : Nat => bU p o.1 (k : Int), ())
theorem my (p : a8) (L : List Int) (i : Nat) : (ij p L i).length = p.1.length := by simp [ij]
theorem wX (p : a8) (L : List Int) : ij p L 0 = List.replicate p.1.length 0 := by
 refine List.eq_replicate_iff.2 ⟨my p L 0, fun x hx => ?_⟩
 obtain ⟨k, _, rfl⟩ := List.mem_map.1 hx
 rw [if_neg (by omega)]
theorem wY (p : a8) (L : List Int) (i : Nat) : ij p L (i + 1) = (ij p L i).set i (bU p L (i : Int)) := by
 refine List.ext_getElem (by simp [ij]) fun k h1 h2 => ?_
 have hk : k < p.1.length := by rw [my] at h1; exact h1
 rw [List.getElem_set]
 simp only [ij, List.getElem_map, List.getElem_range]
 by_cases e : i = k
 · subst e; rw [if_pos (by omega), if_pos rfl]
 · rw [if_neg e]
   by_cases e2 : k < i
   · rw [if_pos e2, if_pos (by omega)]
   · rw [if_neg e2, if_neg (by omega)]
theorem zY (p : a8) (L : List Int) : ij p L p.1.length = (List.range p.1.length).map fun k : Nat => bU p L (k : Int) := by
 unfold ij
 exact List.map_congr_left fun k hk => if_pos (List.mem_range.1 hk)
structure PaP (p : a8) (L : List Int) : Prop where
 tr : TrP p
 lv : LvB L p.1.length
noncomputable abbrev Eip2 : Env Ab := ⟨tis, [(87, iO.con)] ++ E0.con⟩
theorem eip2Ok : aU Tryz.prog AI Eip2 := (ai.add zu)
def fM : aB := ⟨[.cell bT, .cell iq], fun (x : a8 × ab × Unit) => PaP x.1 (x.2.1).1, [.lst Ii], fun (x : a8 × ab × Unit) => cm x.1 x.2.1⟩
theorem pars_ok (p : a8) (o : ab) (h : fM.pre (p, o, ())) : PTk Tryz.prog AI 41 fM (p, o, ()) := by
 dsimp only [PTk, fM] at h ⊢
 generalize hr : cm p o = r
 obtain ⟨p1, p2⟩ := p; obtain ⟨L, ou⟩ := o; obtain ⟨hT, hL⟩ := h; have hn := hT.n; have hc := hT.c; have hLl := hL.len; dsimp only at hn hc hL hLl
 dsimp only [cm] at hr
 refine Tb eip2Ok mixed (fn := Tryz.f41) ?_
 refine Pq ?_
 with_reducible repeat' (first | exact True.intro | refine Ca ?_ | refine Cb ?_ | refine Cd ?_ | (refine Ce ?_; (try ((repeat (first | rw [ifP] at hr | rw [ifM] at hr | rw [if_pos rfl] at hr)); subst hr))) | refine Cm ?_ ?_ | (first | refine Bo (fun hk h => ?_) fun hk h => ?_ | refine Al (fun hk h => ?_) fun hk h => ?_) <;> (try (have hb : (_ : Bool) = _ := h; clear h; subst hb)) <;> (try replace hr := hri hr) <;> first | exact Dd | refine Nx ?_)
 all_goals first | with_reducible refine Ez ?_ | exact Cl1 | exact Cl2 | skip
 refine ⟨⟨{i : Nat // i ≤ p1.length}, fun i => ⟨[(2, Sx.one (.ptr 0 0)), (3, Sx.one (.ptr 1 0)), (5, Sx.one (.hd 2 0)), (11, Sx.one (.hd 2 0)), (12, Sx.one (.int .i64 (fun _ => p1.length))), (13, Sx.one (.int .i64 (fun _ => i.1)))],
  [.cells 25 [.ro ah (fun _ => p1), .ro az (fun _ => p2)], .cells 32 [.ro Ii (fun _ => L)], .row 3 Ii 0 (fun _ => ij (p1, p2) L i.1)]⟩, fun i => p1.length - i.1, ⟨0, Nat.zero_le _⟩⟩, ?_, fun (i : {i : Nat // i ≤ p1.length}) => ?_⟩
 · refine Pq ?_
   with_reducible repeat' first | exact True.intro | refine Ca ?_ | refine Cb ?_ | refine Cd ?_ | refine Ce ?_ | refine Cm ?_ ?_
   all_goals first | with_reducible refine Ez ?_ | exact Cl1 | exact (congrArg (fun n => List.replicate n (0 : Int)) (Int.toNat_natCast p1.length)).trans (wX (p1, p2) L).symm | (rw [List.length_replicate]; omega) | (simp; done) | exact Cl2 | skip
 obtain ⟨i, hi⟩ := i
 dsimp only
 have hl := my (p1, p2) L i
 dsimp only at hl
 have hx := fun (h : (i : Int) < (p1.length : Int)) => (⟨by omega, by omega⟩ : (0 : Int) ≤ (i : Int) ∧ (i : Int) < ((ij (p1, p2) L i).length : Int))
 have hpre : ∀ (h : (i : Int) < (p1.length : Int)), IfP L (i : Int) p2 := fun h => ⟨by rw [hLl]; exact hL, ⟨by omega, by omega⟩, hc, fun k hk => by
  have := hT.at (c := (k : Int)) (by omega) (by dsimp only; omega)
  dsimp only [cab] at this
  rw [Int.toNat_natCast] at this
  exact ⟨⟨this.1.1, by omega⟩, ⟨this.2.1.1, by omega⟩⟩⟩
 have hend : ¬ (i : Int) < (p1.length : Int) → ij (p1, p2) L i = (cm (p1, p2) (L, ou)).1 := fun h => by
  have e : i = p1.length := by omega
  subst e
  exact zY (p1, p2) L
 refine Pq ?_
 with_reducible repeat' (first | exact True.intro | refine Ca ?_ | refine Cb ?_ | refine Cd ?_ | refine Ce ?_ | refine Cm ?_ ?_ | (first | refine Bo (fun hk h => ?_) fun hk h => ?_ | refine Al (fun hk h => ?_) fun hk h => ?_) <;> (try (have hb : (_ : Bool) = _ := h; clear h; subst hb)) <;> (try replace hr := hri hr) <;> first | exact Dd | refine Nx ?_)
 all_goals first | with_reducible refine Ez ?_ | exact Cl1 | exact hx (by assumption) | exact hpre (by assumption) | (subst hr; exact hend (by assumption)) | exact Cl2 | skip
 refine ⟨⟨i + 1, by omega⟩, (by dsimp only; omega), ?_⟩
 refine Pq ?_
 with_reducible repeat' first | exact True.intro | refine Ca ?_ | refine Cb ?_ | refine Cd ?_ | refine Ce ?_ | refine Cm ?_ ?_
 all_goals first | with_reducible refine Ez ?_ | exact Cl1 | exact (wY (p1, p2) L i).symm | exact Cl2 | skip
theorem wW : aE Tryz.prog AI 41 fM.con := aB.sound Tryz.call41 (fun x h => pars_ok x.1 x.2.1 h)
end Go.Proofs.YtcaoldilmnpjoaaGreat
