/-
  Part Own44 of the proof.
-/
import Derived.Test.YtcaoldilmnpjoaaGreatOwn43
namespace Go.Proofs.YtcaoldilmnpjoaaGreat
set_option linter.all false
open Go.RowKit Go.Sx
set_option maxRecDepth 100000
set_option maxHeartbeats 16000000
noncomputable abbrev Eway : Env Ab := ⟨tis, [(93, jd.con), (92, kG.con), (91, mS.con), (86, jT.con), (20, bE.con)] ++ E0.con⟩
theorem ewayOk : aU Tryz.prog AI Eway := (((((ai.add cR).add rU).add AM).add AU).add zP)
def ed : aB := ⟨[.cell bT, .cell xV], fun (x : a8 × fb × Unit) => WyP x.1 (x.2.1).1 (x.2.1).2.1 (x.2.1).2.2, [.lst Ii, .cell .bool], fun (x : a8 × fb × Unit) => aV x.1 x.2.1⟩
theorem way_ok (p : a8) (X : fb) (h : ed.pre (p, X, ())) : PTk Tryz.prog AI 46 ed (p, X, ()) := by
 dsimp only [PTk, ed] at h ⊢
 generalize hr : aV p X = r
 obtain ⟨p1, p2⟩ := p; obtain ⟨s, O, D⟩ := X; have hW := h; dsimp only at hW; have hpl := hW.pl; have hn := hpl.n; have hc := hpl.c; have hv0 : bh (p1, p2) = 0 := hW.ok; have hts := xh (p := (p1, p2)) hW.s0; have had := hW.asc; have hdl := hW.len; have hO : O.length = p1.length := hW.out; have hOl : (O.length : Int) = (p1.length : Int) := by rw [hO]
 dsimp only at hn hc
 dsimp only [aV] at hr
 refine Tb ewayOk mixed (fn := Tryz.f46) ?_
 refine Pr ?_
 (try (conv in (SS.mk _ _) => dsimp only [aA, bo, aV]))
 refine Nx ?_
 with_reducible repeat' (first | exact True.intro | refine Ca ?_ | refine Cb ?_ | refine Cd ?_ | (refine Ce ?_; (try ((repeat (first | rw [ifP] at hr | rw [ifM] at hr | rw [if_pos rfl] at hr)); subst hr))) | refine Cm ?_ ?_ | (first | refine Bo (fun hk h => ?_) fun hk h => ?_ | refine Al (fun hk h => ?_) fun hk h => ?_) <;> (try dsimp only [aA, bo, aV] at h) <;> (try simp only [natCast_eq] at h) <;> (try exact absurd (hv0.symm.trans h) (fun e => Int.noConfusion e)) <;> (try exact absurd hv0 h) <;> (try exact absurd (hts.symm.trans h) Bool.noConfusion) <;> (try exact absurd (had.symm.trans h) Bool.noConfusion) <;> (try exact absurd hOl h) <;> (try (have hb : (_ : Bool) = _ := h; clear h; subst hb)) <;> (try replace hr := hri hr) <;> first | exact Dd | refine Nx ?_)
 all_goals first | with_reducible refine Ez ?_ | exact Cl1 | (dsimp only [aA, bo, aV]; exact Cl1) | exact hpl | exact hn | (dsimp only; simp only [aH, aJ]; first | exact hpl | exact hn | exact hW) | (subst hr; rfl) | exact Cl2 | (dsimp only [aA, bo, aV]; exact Cl2) | (dsimp only [aA, bo, aV] at *; exact Cl2) | skip
 refine ⟨⟨{i : Nat // i ≤ O.length}, fun i => ⟨[(2, Sx.one (.ptr 0 0)), (3, Sx.one (.ptr 1 0)), (36, Sx.one (.ro (.lst Ii) (fun _ => O))), (37, Sx.one (.int .i64 (fun _ => O.length))), (38, Sx.one (.int .i64 (fun _ => i.1)))],
  [.cells 25 [.ro ah (fun _ => p1), .ro az (fun _ => p2)], .cells 52 [.int .i64 (fun _ => s), .ro (.lst Ii) (fun _ => O), .ro Ii (fun _ => D)]]⟩, fun i => O.length - i.1, ⟨0, Nat.zero_le _⟩⟩, ?_, fun (i : {i : Nat // i ≤ O.length}) => ?_⟩
 · refine Pr ?_
   (try (conv in (SS.mk _ _) => dsimp only [aA, bo, aV]))
   refine Nx ?_
   with_reducible repeat' first | exact True.intro | refine Ca ?_ | refine Cb ?_ | refine Cd ?_ | refine Ce ?_ | refine Cm ?_ ?_
   all_goals first | with_reducible refine Ez ?_ | exact Cl1 | (dsimp only [aA, bo, aV]; exact Cl1) | rfl | exact Cl2 | (dsimp only [aA, bo, aV]; exact Cl2) | (dsimp only [aA, bo, aV] at *; exact Cl2) | skip
 obtain ⟨i, hi⟩ := i
 dsimp only
 have hx := fun (h : (i : Int) < (O.length : Int)) => (⟨by omega, h⟩ : (0 : Int) ≤ (i : Int) ∧ (i : Int) < (O.length : Int))
 have hra : ∀ (h : (i : Int) < (O.length : Int)), vt (O.getD (i : Int).toNat []) = true := fun h => (hW.row i (by dsimp only; omega)).1
 have hrl : ∀ (h : (i : Int) < (O.length : Int)), (O.getD (i : Int).toNat []).length ≤ 1000000 := fun h => Nat.le_trans (hW.ln i) (by decide)
 have hrc : ∀ (h : (i : Int) < (O.length : Int)), p2.length ≤ 32 ∧ (O.getD (i : Int).toNat []).length ≤ 1000 ∧ ∀ c ∈ O.getD (i : Int).toNat [], isE (p1, p2) c (i : Int) := fun h => ⟨hc, hW.ln i, (hW.row i (by dsimp only; omega)).2⟩
 refine Pr ?_
 (try (conv in (SS.mk _ _) => dsimp only [aA, bo, aV]))
 refine Nx ?_
 with_reducible repeat' (first | exact True.intro | refine Ca ?_ | refine Cb ?_ | refine Cd ?_ | refine Ce ?_ | refine Cm ?_ ?_ | (first | refine Bo (fun hk h => ?_) fun hk h => ?_ | refine Al (fun hk h => ?_) fun hk h => ?_) <;> (try dsimp only [aA, bo, aV] at h) <;> (try simp only [natCast_eq] at h) <;> (try exact absurd (hv0.symm.trans h) (fun e => Int.noConfusion e)) <;> (try exact absurd hv0 h) <;> (try exact absurd (hts.symm.trans h) Bool.noConfusion) <;> (try exact absurd (had.symm.trans h) Bool.noConfusion) <;> (try exact absurd hOl h) <;> (try (have hb : (_ : Bool) = _ := h; clear h; subst hb)) <;> (try replace hr := hri hr) <;> first | exact Dd | refine Nx ?_)
 all_goals first | with_reducible refine Ez ?_ | exact Cl1 | (dsimp only [aA, bo, aV]; exact Cl1) | exact hx (by assumption) | exact hrl (by assumption) | exact hrc (by assumption) | (dsimp only; simp only [aH, aJ]; first | exact hW | exact hrc (by assumption)) | exact absurd ((hra (by assumption)).symm.trans h) (fun e => Bool.noConfusion e) | exact Cl2 | (dsimp only [aA, bo, aV]; exact Cl2) | (dsimp only [aA, bo, aV] at *; exact Cl2) | skip
 · refine ⟨⟨i + 1, by omega⟩, (by dsimp only; omega), ?_⟩
   refine Pr ?_
   (try (conv in (SS.mk _ _) => dsimp only [aA, bo, aV]))
   refine Nx ?_
   with_reducible repeat' first | exact True.intro | refine Ca ?_ | refine Cb ?_ | refine Cd ?_ | refine Ce ?_ | refine Cm ?_ ?_
   all_goals first | with_reducible refine Ez ?_ | exact Cl1 | (dsimp only [aA, bo, aV]; exact Cl1) | rfl | exact Cl2 | (dsimp only [aA, bo, aV]; exact Cl2) | (dsimp only [aA, bo, aV] at *; exact Cl2) | skip
 obtain ⟨V, hV⟩ : ∃ V, ovL (p1, p2) s O = V := ⟨_, rfl⟩
 have hVl : V.length = p1.length := by rw [← hV]; exact tB _ _ _
 have hdl2 := hW.dl
 have hfin := hW.fin
 have hV2 : cu (List.replicate p1.length (-2)) (rlT (p1, p2) O 40 s (-1)) = V := by unfold ovL at hV; exact hV
 dsimp only at hdl2 hfin
 rw [hV2] at hdl2 hfin
 clear hra hrl hrc hx
 refine ⟨⟨{j : Nat // j ≤ D.length}, fun j => ⟨[(2, Sx.one (.ptr 0 0)), (3, Sx.one (.ptr 1 0)), (9, Sx.one (.ro Ii (fun _ => V))), (11, Sx.one (.mp 2)), (69, Sx.one (.ro Ii (fun _ => D))), (70, Sx.one (.int .i64 (fun _ => D.length))), (71, Sx.one (.int .i64 (fun _ => j.1)))],
  [.cells 25 [.ro ah (fun _ => p1), .ro az (fun _ => p2)], .cells 52 [.int .i64 (fun _ => s), .ro (.lst Ii) (fun _ => O), .ro Ii (fun _ => D)], .map (.int .i64) .bool (fun _ => bA (D.take j.1))]⟩, fun j => D.length - j.1, ⟨0, Nat.zero_le _⟩⟩, ?_, fun (j : {j : Nat // j ≤ D.length}) => ?_⟩
 · refine Pr ?_
   (try (conv in (SS.mk _ _) => dsimp only [aA, bo, aV]))
   refine Nx ?_
   with_reducible repeat' first | exact True.intro | refine Ca ?_ | refine Cb ?_ | refine Cd ?_ | refine Ce ?_ | refine Cm ?_ ?_
   all_goals first | with_reducible refine Ez ?_ | exact Cl1 | (dsimp only [aA, bo, aV]; exact Cl1) | with_reducible rfl | (dsimp only [jd, aV]; (try simp only [aH, aJ]); exact hV) | exact Cl2 | (dsimp only [aA, bo, aV]; exact Cl2) | (dsimp only [aA, bo, aV] at *; exact Cl2) | skip
 obtain ⟨j, hj⟩ := j
 dsimp only
 have hx := fun (h : (j : Int) < (D.length : Int)) => (⟨by omega, h⟩ : (0 : Int) ≤ (j : Int) ∧ (j : Int) < (D.length : Int))
 have hmd := fun (h : (j : Int) < (D.length : Int)) => hdl2 (D.getD (j : Int).toNat 0) (ll (by omega))
 have hin := fun (h : (j : Int) < (D.length : Int)) => xh (p := (p1, p2)) (hmd h).1
 have hxv := fun (h : (j : Int) < (D.length : Int)) => ivx hVl (hmd h).1
 have hne := fun (h : (j : Int) < (D.length : Int)) => (hmd h).2
 have hsn : ∀ (h : (j : Int) < (D.length : Int)), bA (D.take (j + 1)) = ak (K := Int) (bA (D.take j)) (D.getD (j : Int).toNat 0) true := fun h => by
  rw [dS D (by omega), gR]
 refine Pr ?_
 (try (conv in (SS.mk _ _) => dsimp only [aA, bo, aV]))
 refine Nx ?_
 with_reducible repeat' (first | exact True.intro | refine Ca ?_ | refine Cb ?_ | refine Cd ?_ | refine Ce ?_ | refine Cm ?_ ?_ | (first | refine Bo (fun hk h => ?_) fun hk h => ?_ | refine Al (fun hk h => ?_) fun hk h => ?_) <;> (try dsimp only [aA, bo, aV] at h) <;> (try simp only [natCast_eq] at h) <;> (try exact absurd (hv0.symm.trans h) (fun e => Int.noConfusion e)) <;> (try exact absurd hv0 h) <;> (try exact absurd (hts.symm.trans h) Bool.noConfusion) <;> (try exact absurd (had.symm.trans h) Bool.noConfusion) <;> (try exact absurd hOl h) <;> (try (have hb : (_ : Bool) = _ := h; clear h; subst hb)) <;> (try replace hr := hri hr) <;> first | exact Dd | refine Nx ?_)
 all_goals first | with_reducible refine Ez ?_ | exact Cl1 | (dsimp only [aA, bo, aV]; exact Cl1) | exact hx (by assumption) | exact hn | (dsimp only; simp only [aH, aJ]; exact hn) | exact hxv (by assumption) | exact absurd (by assumption) (hne (by assumption)) | exact absurd ((hin (by assumption)).symm.trans h) (fun e => Bool.noConfusion e) | exact Cl2 | (dsimp only [aA, bo, aV]; exact Cl2) | (dsimp only [aA, bo, aV] at *; exact Cl2) | skip
 · refine ⟨⟨j + 1, by omega⟩, (by dsimp only; omega), ?_⟩
   refine Pr ?_
   (try (conv in (SS.mk _ _) => dsimp only [aA, bo, aV]))
   refine Nx ?_
   with_reducible repeat' first | exact True.intro | refine Ca ?_ | refine Cb ?_ | refine Cd ?_ | refine Ce ?_ | refine Cm ?_ ?_
   all_goals first | with_reducible refine Ez ?_ | exact Cl1 | (dsimp only [aA, bo, aV]; exact Cl1) | exact (hsn (by assumption)).symm | exact Cl2 | (dsimp only [aA, bo, aV]; exact Cl2) | (dsimp only [aA, bo, aV] at *; exact Cl2) | skip
 have hk9 : bA (D.take j) = bA D := by rw [List.take_of_length_le (by omega)]
 rw [hk9]
 clear hsn hne hxv hin hmd hx
 refine ⟨⟨{k : Nat // k ≤ O.length}, fun k => ⟨[(9, Sx.one (.ro Ii (fun _ => V))), (11, Sx.one (.mp 2)), (90, Sx.one (.ro (.lst Ii) (fun _ => O))), (91, Sx.one (.int .i64 (fun _ => O.length))), (92, Sx.one (.int .i64 (fun _ => k.1)))],
  [.cells 25 [.ro ah (fun _ => p1), .ro az (fun _ => p2)], .cells 52 [.int .i64 (fun _ => s), .ro (.lst Ii) (fun _ => O), .ro Ii (fun _ => D)], .map (.int .i64) .bool (fun _ => bA D)]⟩, fun k => O.length - k.1, ⟨0, Nat.zero_le _⟩⟩, ?_, fun (k : {k : Nat // k ≤ O.length}) => ?_⟩
 · refine Pr ?_
   (try (conv in (SS.mk _ _) => dsimp only [aA, bo, aV]))
   refine Nx ?_
   with_reducible repeat' first | exact True.intro | refine Ca ?_ | refine Cb ?_ | refine Cd ?_ | refine Ce ?_ | refine Cm ?_ ?_
   all_goals first | with_reducible refine Ez ?_ | exact Cl1 | (dsimp only [aA, bo, aV]; exact Cl1) | rfl | exact Cl2 | (dsimp only [aA, bo, aV]; exact Cl2) | (dsimp only [aA, bo, aV] at *; exact Cl2) | skip
 obtain ⟨k, hk⟩ := k
 dsimp only
 have hx := fun (h : (k : Int) < (O.length : Int)) => (⟨by omega, h⟩ : (0 : Int) ≤ (k : Int) ∧ (k : Int) < (O.length : Int))
 have hxv := fun (h : (k : Int) < (O.length : Int)) => (⟨by omega, by omega⟩ : (0 : Int) ≤ (k : Int) ∧ (k : Int) < (V.length : Int))
 have f1 : ∀ (h : (k : Int) < (O.length : Int)), V.getD (k : Int).toNat 0 = -2 → ¬ (0 : Int) < ((O.getD (k : Int).toNat []).length : Int) := fun h e1 e2 => by
  have h5 := (hfin k (by omega)).1 e1
  rw [Int.toNat_natCast, h5] at e2
  exact absurd e2 (by decide)
 have f2 : ∀ (h : (k : Int) < (O.length : Int)), 0 ≤ V.getD (k : Int).toNat 0 → ((O.getD (k : Int).toNat []).length : Int) = 0 → (bB (K := Int) (bA D) (k : Int)).getD false = true := fun h e1 e2 => by
  have h5 := (hfin k (by omega)).2 e1 (List.eq_nil_of_length_eq_zero (by rw [Int.toNat_natCast] at e2; omega))
  rw [gT]; exact decide_eq_true h5
 refine Pr ?_
 (try (conv in (SS.mk _ _) => dsimp only [aA, bo, aV]))
 refine Nx ?_
 with_reducible repeat' (first | exact True.intro | refine Ca ?_ | refine Cb ?_ | refine Cd ?_ | refine Ce ?_ | refine Cm ?_ ?_ | (first | refine Bo (fun hk h => ?_) fun hk h => ?_ | refine Al (fun hk h => ?_) fun hk h => ?_) <;> (try dsimp only [aA, bo, aV] at h) <;> (try simp only [natCast_eq] at h) <;> (try exact absurd (hv0.symm.trans h) (fun e => Int.noConfusion e)) <;> (try exact absurd hv0 h) <;> (try exact absurd (hts.symm.trans h) Bool.noConfusion) <;> (try exact absurd (had.symm.trans h) Bool.noConfusion) <;> (try exact absurd hOl h) <;> (try (have hb : (_ : Bool) = _ := h; clear h; subst hb)) <;> (try replace hr := hri hr) <;> first | exact Dd | refine Nx ?_)
 all_goals first | with_reducible refine Ez ?_ | exact Cl1 | (dsimp only [aA, bo, aV]; exact Cl1) | exact hx (by assumption) | exact hxv (by assumption) | (exfalso; exact f1 (by assumption) (by assumption) (by assumption)) | (exfalso; exact Bool.noConfusion ((f2 (by assumption) (by assumption) (by assumption)).symm.trans (by assumption))) | (subst hr; first | exact hV.symm | rfl) | exact Cl2 | (dsimp only [aA, bo, aV]; exact Cl2) | (dsimp only [aA, bo, aV] at *; exact Cl2) | skip
 all_goals
  (refine ⟨⟨k + 1, by omega⟩, (by dsimp only; omega), ?_⟩
   refine Pr ?_
   (try (conv in (SS.mk _ _) => dsimp only [aA, bo, aV]))
   refine Nx ?_
   with_reducible repeat' first | exact True.intro | refine Ca ?_ | refine Cb ?_ | refine Cd ?_ | refine Ce ?_ | refine Cm ?_ ?_
   all_goals first | with_reducible refine Ez ?_ | exact Cl1 | (dsimp only [aA, bo, aV]; exact Cl1) | rfl | exact Cl2 | (dsimp only [aA, bo, aV]; exact Cl2) | (dsimp only [aA, bo, aV] at *; exact Cl2) | skip)
theorem mZ : aE Tryz.prog AI 46 ed.con := aB.sound Tryz.call46 (fun x h => way_ok x.1 x.2.1 h)
def bC (p : a8) (X : fb) : Tup [DT.cell .bool] := (true, ())
noncomputable abbrev Evt : Env Ab := ⟨tis, [(46, ed.con)] ++ E0.con⟩
theorem evtOk : aU Tryz.prog AI Evt := (ai.add mZ)
def iu : aB := ⟨[.cell bT, .cell xV], fun (x : a8 × fb × Unit) => WyP x.1 (x.2.1).1 (x.2.1).2.1 (x.2.1).2.2, [.cell .bool], fun (x : a8 × fb × Unit) => bC x.1 x.2.1⟩
theorem valt_ok (p : a8) (X : fb) (h : iu.pre (p, X, ())) : PTk Tryz.prog AI 16 iu (p, X, ()) := by
 dsimp only [PTk, iu] at h ⊢
 generalize hr : bC p X = r
 obtain ⟨p1, p2⟩ := p; obtain ⟨s, O, D⟩ := X; have hW := h; dsimp only at hW
 dsimp only [bC] at hr
 refine Tb evtOk mixed (fn := Tryz.f16) ?_
 refine Pr ?_
 (try (conv in (SS.mk _ _) => dsimp only [aV]))
 refine Nx ?_
 with_reducible repeat' (first | exact True.intro | refine Ca ?_ | refine Cb ?_ | refine Cd ?_ | (refine Ce ?_; (try ((repeat (first | rw [ifP] at hr | rw [ifM] at hr | rw [if_pos rfl] at hr)); subst hr))) | refine Cm ?_ ?_ | (first | refine Bo (fun hk h => ?_) fun hk h => ?_ | refine Al (fun hk h => ?_) fun hk h => ?_) <;> (try dsimp only [aV] at h) <;> (try simp only [natCast_eq] at h) <;> (try (have hb : (_ : Bool) = _ := h; clear h; subst hb)) <;> (try replace hr := hri hr) <;> first | exact Dd | refine Nx ?_)
 all_goals first | with_reducible refine Ez ?_ | exact Cl1 | (dsimp only [aV]; exact Cl1) | (dsimp only; simp only [aH, aJ]; exact hW) | exact Cl2 | (dsimp only [aV]; exact Cl2) | (dsimp only [aV] at *; exact Cl2) | skip
theorem wE : aE Tryz.prog AI 16 iu.con := aB.sound Tryz.call16 (fun x h => valt_ok x.1 x.2.1 h)
end Go.Proofs.YtcaoldilmnpjoaaGreat
