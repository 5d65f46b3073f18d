/-
  Part Own6 of the proof.
-/
import Derived.Test.YtcaoldilmnpjoaaGreatOwn5
namespace Go.Proofs.YtcaoldilmnpjoaaGreat
set_option linter.all false
open Go.RowKit Go.Sx
set_option maxRecDepth 100000
set_option maxHeartbeats 16000000
abbrev ig (p : a8) (c : aY) : Bool := (hpF p c.1 c.2.1).1 && (hpF p c.2.2.1 c.2.2.2.1).1
abbrev ik (c : aY) : Bool := !decide (c.1 = c.2.2.1)
abbrev fT (c : aY) : Bool := decide (1 ≤ c.2.2.2.2.1 ∧ c.2.2.2.2.1 ≤ 100 ∧ 1 ≤ c.2.2.2.2.2 ∧ c.2.2.2.2.2 ≤ 1000)
def bh (p : a8) : Int :=
 if p.1.all (fun n => (ma n).1) = true then
  (if p.2.all (ig p) = true then
    (if oH p = true then 8 else (if p.2.all ik = true then (if p.2.all fT = true then 0 else 3) else 12))
  else 2)
 else 1
def aA (p : a8) : Tup [DT.cell Ii] := (bh p, ())
theorem vl_1 {p1 : List cL} {p2 : List aY} (h : p1.all (fun n => (ma n).1) = false) : bh (p1, p2) = 1 := by unfold bh; rw [if_neg (by rw [h]; decide)]
theorem vl_2 {p1 : List cL} {p2 : List aY} (h : p1.all (fun n => (ma n).1) = true) (h2 : p2.all (ig (p1, p2)) = false) : bh (p1, p2) = 2 := by unfold bh; rw [if_pos h, if_neg (by rw [h2]; decide)]
theorem vl_3 {p1 : List cL} {p2 : List aY} (h : p1.all (fun n => (ma n).1) = true) (h2 : p2.all (ig (p1, p2)) = true) (h3 : oH (p1, p2) = true) : bh (p1, p2) = 8 := by unfold bh; rw [if_pos h, if_pos h2, if_pos h3]
theorem vl_4 {p1 : List cL} {p2 : List aY} (h : p1.all (fun n => (ma n).1) = true) (h2 : p2.all (ig (p1, p2)) = true) (h3 : oH (p1, p2) = false) (h4 : p2.all ik = false) : bh (p1, p2) = 12 := by unfold bh; rw [if_pos h, if_pos h2, if_neg (by rw [h3]; decide), if_neg (by rw [h4]; decide)]
theorem vl_5 {p1 : List cL} {p2 : List aY} (h : p1.all (fun n => (ma n).1) = true) (h2 : p2.all (ig (p1, p2)) = true) (h3 : oH (p1, p2) = false) (h4 : p2.all ik = true) (h5 : p2.all fT = false) : bh (p1, p2) = 3 := by unfold bh; rw [if_pos h, if_pos h2, if_neg (by rw [h3]; decide), if_pos h4, if_neg (by rw [h5]; decide)]
theorem vl_0 {p1 : List cL} {p2 : List aY} (h : p1.all (fun n => (ma n).1) = true) (h2 : p2.all (ig (p1, p2)) = true) (h3 : oH (p1, p2) = false) (h4 : p2.all ik = true) (h5 : p2.all fT = true) : bh (p1, p2) = 0 := by unfold bh; rw [if_pos h, if_pos h2, if_neg (by rw [h3]; decide), if_pos h4, if_pos h5]
theorem zS {p : a8} {c : aY} (h : (hpF p c.1 c.2.1).1 = false) : ig p c = false := by show ((hpF p c.1 c.2.1).1 && (hpF p c.2.2.1 c.2.2.2.1).1) = false; rw [h]; rfl
theorem zQ {p : a8} {c : aY} (h : (hpF p c.1 c.2.1).1 = true) (h2 : (hpF p c.2.2.1 c.2.2.2.1).1 = false) : ig p c = false := by show ((hpF p c.1 c.2.1).1 && (hpF p c.2.2.1 c.2.2.2.1).1) = false; rw [h, h2]; rfl
theorem port_ok {p : a8} {c : aY} (h : (hpF p c.1 c.2.1).1 = true) (h2 : (hpF p c.2.2.1 c.2.2.2.1).1 = true) : ig p c = true := by show ((hpF p c.1 c.2.1).1 && (hpF p c.2.2.1 c.2.2.2.1).1) = true; rw [h, h2]; rfl
theorem Ba {c : aY} (h : c.1 = c.2.2.1) : ik c = false := by simp [ik, h]
theorem loop_ok {c : aY} (h : ¬ c.1 = c.2.2.1) : ik c = true := by simp [ik, h]
theorem mB {c : aY} (h : c.2.2.2.2.1 < 1 ∨ 100 < c.2.2.2.2.1 ∨ c.2.2.2.2.2 < 1 ∨ 1000 < c.2.2.2.2.2) : fT c = false := by simp only [fT, decide_eq_false_iff_not]; omega
theorem form_ok {c : aY} (h : ¬ (c.2.2.2.2.1 < 1 ∨ 100 < c.2.2.2.2.1 ∨ c.2.2.2.2.2 < 1 ∨ 1000 < c.2.2.2.2.2)) : fT c = true := by simp only [fT, decide_eq_true_eq]; omega
theorem form_b1 {c : aY} (h : c.2.2.2.2.1 < 1) : fT c = false := mB (by omega)
theorem form_b2 {c : aY} (h : 100 < c.2.2.2.2.1) : fT c = false := mB (by omega)
theorem form_b3 {c : aY} (h : c.2.2.2.2.2 < 1) : fT c = false := mB (by omega)
theorem form_b4 {c : aY} (h : 1000 < c.2.2.2.2.2) : fT c = false := mB (by omega)
theorem form_g {c : aY} (h1 : ¬ c.2.2.2.2.1 < 1) (h2 : ¬ 100 < c.2.2.2.2.1) (h3 : ¬ c.2.2.2.2.2 < 1) (h4 : ¬ 1000 < c.2.2.2.2.2) : fT c = true := form_ok (by omega)
structure wA (p : a8) : Prop where
 n : p.1.length ≤ 16
 c : p.2.length ≤ 32
 nm : ∀ n ∈ p.1, bq n.1
 cb : ∀ c ∈ p.2, az.bW c
noncomputable abbrev Ev2 : Env Ab := ⟨tis, [(66, jc.con), (65, qG.con), (64, l4.con)] ++ E0.con⟩
theorem ev2Ok : aU Tryz.prog AI Ev2 := (((ai.add yW).add Bf).add zO)
def bE : aB := ⟨[.cell bT], fun (x : a8 × Unit) => wA x.1, [.cell Ii], fun (x : a8 × Unit) => aA x.1⟩
theorem Aa (p : a8) (h : bE.pre (p, ())) : PTk Tryz.prog AI 20 bE (p, ()) := by
 dsimp only [PTk, bE] at h ⊢
 generalize hr : aA p = r
 obtain ⟨p1, p2⟩ := p; obtain ⟨hp1, hp2, hp3, hp4⟩ := h; dsimp only at hp1 hp2 hp3 hp4
 dsimp only [aA] at hr
 refine Tb ev2Ok mixed (fn := Tryz.f20) ?_
 refine Pr ?_
 (try (conv in (SS.mk _ _) => dsimp only [bI]))
 refine Nx ?_
 with_reducible repeat' (first | exact True.intro | refine Ca ?_ | refine Cb ?_ | refine Cd ?_ | (refine Ce ?_; (try ((repeat (first | rw [ifP] at hr | rw [ifM] at hr | rw [if_pos rfl] at hr)); subst hr))) | refine Cm ?_ ?_ | (first | refine Bo (fun hk h => ?_) fun hk h => ?_ | refine Al (fun hk h => ?_) fun hk h => ?_) <;> (try dsimp only [bI] at h) <;> (try simp only [natCast_eq] at h) <;> (try (have hb : (_ : Bool) = _ := h; clear h; subst hb)) <;> (try replace hr := hri hr) <;> first | exact Dd | refine Nx ?_)
 all_goals first | with_reducible refine Ez ?_ | exact Cl1 | (dsimp only [bI]; exact Cl1) | exact Cl2 | (dsimp only [bI]; exact Cl2) | (dsimp only [bI] at *; exact Cl2) | skip
 obtain ⟨x0, hx0⟩ := La.zero p1 (fun n => (ma n).1)
 refine ⟨⟨La p1 (fun n => (ma n).1), fun x => ⟨[(1, Sx.one (.ptr 0 0)), (22, Sx.one (.ro ah (fun _ => p1))), (23, Sx.one (.int .i64 (fun _ => p1.length))), (24, Sx.one (.int .i64 (fun _ => x.i)))],
  [.cells 25 [.ro ah (fun _ => p1), .ro az (fun _ => p2)]]⟩, fun x => (p1.length - x.i).toNat, x0⟩, ?_, fun (x : La p1 (fun n => (ma n).1)) => ?_⟩
 · refine Pr ?_
   (try (conv in (SS.mk _ _) => dsimp only [bI]))
   refine Nx ?_
   with_reducible repeat' first | exact True.intro | refine Ca ?_ | refine Cb ?_ | refine Cd ?_ | refine Ce ?_ | refine Cm ?_ ?_
   all_goals first | with_reducible refine Ez ?_ | exact Cl1 | (dsimp only [bI]; exact Cl1) | exact hx0.symm | exact Cl2 | (dsimp only [bI]; exact Cl2) | (dsimp only [bI] at *; exact Cl2) | skip
 have hlo := x.lo
 have hhi := x.hi
 refine Pr ?_
 (try (conv in (SS.mk _ _) => dsimp only [bI]))
 refine Nx ?_
 with_reducible repeat' (first | exact True.intro | refine Ca ?_ | refine Cb ?_ | refine Cd ?_ | refine Ce ?_ | refine Cm ?_ ?_ | (first | refine Bo (fun hk h => ?_) fun hk h => ?_ | refine Al (fun hk h => ?_) fun hk h => ?_) <;> (try dsimp only [bI] at h) <;> (try simp only [natCast_eq] at h) <;> (try (have hb : (_ : Bool) = _ := h; clear h; subst hb)) <;> (try replace hr := hri hr) <;> first | exact Dd | refine Nx ?_)
 all_goals first | with_reducible refine Ez ?_ | exact Cl1 | (dsimp only [bI]; exact Cl1) | exact nm_in hp3 (by assumption) | (subst hr; exact (vl_1 (x.bad zN (by assumption) h)).symm) | exact Cl2 | (dsimp only [bI]; exact Cl2) | (dsimp only [bI] at *; exact Cl2) | skip
 · obtain ⟨y, hy⟩ := x.step zN (by assumption) h
   refine ⟨y, dF (by assumption) hy, ?_⟩
   refine Pr ?_
   (try (conv in (SS.mk _ _) => dsimp only [bI]))
   refine Nx ?_
   with_reducible repeat' first | exact True.intro | refine Ca ?_ | refine Cb ?_ | refine Cd ?_ | refine Ce ?_ | refine Cm ?_ ?_
   all_goals first | with_reducible refine Ez ?_ | exact Cl1 | (dsimp only [bI]; exact Cl1) | exact hy.symm | exact Cl2 | (dsimp only [bI]; exact Cl2) | (dsimp only [bI] at *; exact Cl2) | skip
 have hall1 := x.done (by assumption)
 clear hx0 x0 hlo hhi
 obtain ⟨x0, hx0⟩ := La.zero p2 (ig (p1, p2))
 refine ⟨⟨La p2 (ig (p1, p2)), fun x => ⟨[(1, Sx.one (.ptr 0 0)), (33, Sx.one (.ro az (fun _ => p2))), (34, Sx.one (.int .i64 (fun _ => p2.length))), (35, Sx.one (.int .i64 (fun _ => x.i)))],
  [.cells 25 [.ro ah (fun _ => p1), .ro az (fun _ => p2)]]⟩, fun x => (p2.length - x.i).toNat, x0⟩, ?_, fun (x : La p2 (ig (p1, p2))) => ?_⟩
 · refine Pr ?_
   (try (conv in (SS.mk _ _) => dsimp only [bI]))
   refine Nx ?_
   with_reducible repeat' first | exact True.intro | refine Ca ?_ | refine Cb ?_ | refine Cd ?_ | refine Ce ?_ | refine Cm ?_ ?_
   all_goals first | with_reducible refine Ez ?_ | exact Cl1 | (dsimp only [bI]; exact Cl1) | exact hx0.symm | exact Cl2 | (dsimp only [bI]; exact Cl2) | (dsimp only [bI] at *; exact Cl2) | skip
 have hlo := x.lo
 have hhi := x.hi
 refine Pr ?_
 (try (conv in (SS.mk _ _) => dsimp only [bI]))
 refine Nx ?_
 with_reducible repeat' (first | exact True.intro | refine Ca ?_ | refine Cb ?_ | refine Cd ?_ | refine Ce ?_ | refine Cm ?_ ?_ | (first | refine Bo (fun hk h => ?_) fun hk h => ?_ | refine Al (fun hk h => ?_) fun hk h => ?_) <;> (try dsimp only [bI] at h) <;> (try simp only [natCast_eq] at h) <;> (try (have hb : (_ : Bool) = _ := h; clear h; subst hb)) <;> (try replace hr := hri hr) <;> first | exact Dd | refine Nx ?_)
 all_goals first | with_reducible refine Ez ?_ | exact Cl1 | (dsimp only [bI]; exact Cl1) | (subst hr; exact (vl_2 hall1 (x.bad z6 (by assumption) (zS h))).symm) | (subst hr; exact (vl_2 hall1 (x.bad z6 (by assumption) (zQ (by assumption) h))).symm) | exact Cl2 | (dsimp only [bI]; exact Cl2) | (dsimp only [bI] at *; exact Cl2) | skip
 · obtain ⟨y, hy⟩ := x.step z6 (by assumption) (port_ok (by assumption) h)
   refine ⟨y, dF (by assumption) hy, ?_⟩
   refine Pr ?_
   (try (conv in (SS.mk _ _) => dsimp only [bI]))
   refine Nx ?_
   with_reducible repeat' first | exact True.intro | refine Ca ?_ | refine Cb ?_ | refine Cd ?_ | refine Ce ?_ | refine Cm ?_ ?_
   all_goals first | with_reducible refine Ez ?_ | exact Cl1 | (dsimp only [bI]; exact Cl1) | exact hy.symm | exact Cl2 | (dsimp only [bI]; exact Cl2) | (dsimp only [bI] at *; exact Cl2) | skip
 · (dsimp only [jc]; simp only [aH, aJ]; exact ⟨hp1, hp2, hp3, hp4⟩)
 · subst hr; exact (vl_3 hall1 (x.done (by assumption)) h).symm
 have hall2 := x.done (by assumption)
 clear hx0 x0 hlo hhi
 have hrep := h
 obtain ⟨x0, hx0⟩ := La.zero p2 ik
 refine ⟨⟨La p2 ik, fun x => ⟨[(1, Sx.one (.ptr 0 0)), (59, Sx.one (.ro az (fun _ => p2))), (60, Sx.one (.int .i64 (fun _ => p2.length))), (61, Sx.one (.int .i64 (fun _ => x.i)))],
  [.cells 25 [.ro ah (fun _ => p1), .ro az (fun _ => p2)]]⟩, fun x => (p2.length - x.i).toNat, x0⟩, ?_, fun (x : La p2 ik) => ?_⟩
 · refine Pr ?_
   (try (conv in (SS.mk _ _) => dsimp only [bI]))
   refine Nx ?_
   with_reducible repeat' first | exact True.intro | refine Ca ?_ | refine Cb ?_ | refine Cd ?_ | refine Ce ?_ | refine Cm ?_ ?_
   all_goals first | with_reducible refine Ez ?_ | exact Cl1 | (dsimp only [bI]; exact Cl1) | exact hx0.symm | exact Cl2 | (dsimp only [bI]; exact Cl2) | (dsimp only [bI] at *; exact Cl2) | skip
 have hlo := x.lo
 have hhi := x.hi
 refine Pr ?_
 (try (conv in (SS.mk _ _) => dsimp only [bI]))
 refine Nx ?_
 with_reducible repeat' (first | exact True.intro | refine Ca ?_ | refine Cb ?_ | refine Cd ?_ | refine Ce ?_ | refine Cm ?_ ?_ | (first | refine Bo (fun hk h => ?_) fun hk h => ?_ | refine Al (fun hk h => ?_) fun hk h => ?_) <;> (try dsimp only [bI] at h) <;> (try simp only [natCast_eq] at h) <;> (try (have hb : (_ : Bool) = _ := h; clear h; subst hb)) <;> (try replace hr := hri hr) <;> first | exact Dd | refine Nx ?_)
 all_goals first | with_reducible refine Ez ?_ | exact Cl1 | (dsimp only [bI]; exact Cl1) | (subst hr; exact (vl_4 hall1 hall2 hrep (x.bad z6 (by assumption) (Ba h))).symm) | exact Cl2 | (dsimp only [bI]; exact Cl2) | (dsimp only [bI] at *; exact Cl2) | skip
 · obtain ⟨y, hy⟩ := x.step z6 (by assumption) (loop_ok h)
   refine ⟨y, dF (by assumption) hy, ?_⟩
   refine Pr ?_
   (try (conv in (SS.mk _ _) => dsimp only [bI]))
   refine Nx ?_
   with_reducible repeat' first | exact True.intro | refine Ca ?_ | refine Cb ?_ | refine Cd ?_ | refine Ce ?_ | refine Cm ?_ ?_
   all_goals first | with_reducible refine Ez ?_ | exact Cl1 | (dsimp only [bI]; exact Cl1) | exact hy.symm | exact Cl2 | (dsimp only [bI]; exact Cl2) | (dsimp only [bI] at *; exact Cl2) | skip
 have hall3 := x.done (by assumption)
 clear hx0 x0 hlo hhi
 obtain ⟨x0, hx0⟩ := La.zero p2 fT
 refine ⟨⟨La p2 fT, fun x => ⟨[(1, Sx.one (.ptr 0 0)), (72, Sx.one (.ro az (fun _ => p2))), (73, Sx.one (.int .i64 (fun _ => p2.length))), (74, Sx.one (.int .i64 (fun _ => x.i)))],
  [.cells 25 [.ro ah (fun _ => p1), .ro az (fun _ => p2)]]⟩, fun x => (p2.length - x.i).toNat, x0⟩, ?_, fun (x : La p2 fT) => ?_⟩
 · refine Pr ?_
   (try (conv in (SS.mk _ _) => dsimp only [bI]))
   refine Nx ?_
   with_reducible repeat' first | exact True.intro | refine Ca ?_ | refine Cb ?_ | refine Cd ?_ | refine Ce ?_ | refine Cm ?_ ?_
   all_goals first | with_reducible refine Ez ?_ | exact Cl1 | (dsimp only [bI]; exact Cl1) | exact hx0.symm | exact Cl2 | (dsimp only [bI]; exact Cl2) | (dsimp only [bI] at *; exact Cl2) | skip
 have hlo := x.lo
 have hhi := x.hi
 refine Pr ?_
 (try (conv in (SS.mk _ _) => dsimp only [bI]))
 refine Nx ?_
 with_reducible repeat' (first | exact True.intro | refine Ca ?_ | refine Cb ?_ | refine Cd ?_ | refine Ce ?_ | refine Cm ?_ ?_ | (first | refine Bo (fun hk h => ?_) fun hk h => ?_ | refine Al (fun hk h => ?_) fun hk h => ?_) <;> (try dsimp only [bI] at h) <;> (try simp only [natCast_eq] at h) <;> (try (have hb : (_ : Bool) = _ := h; clear h; subst hb)) <;> (try replace hr := hri hr) <;> first | exact Dd | refine Nx ?_)
 all_goals first | with_reducible refine Ez ?_ | exact Cl1 | (dsimp only [bI]; exact Cl1) | (subst hr; exact (vl_0 hall1 hall2 hrep hall3 (x.done (by assumption))).symm) | (subst hr; exact (vl_5 hall1 hall2 hrep hall3 (x.bad z6 (by assumption) (form_b1 (by assumption)))).symm) | (subst hr; exact (vl_5 hall1 hall2 hrep hall3 (x.bad z6 (by assumption) (form_b2 (by assumption)))).symm) | (subst hr; exact (vl_5 hall1 hall2 hrep hall3 (x.bad z6 (by assumption) (form_b3 (by assumption)))).symm) | (subst hr; exact (vl_5 hall1 hall2 hrep hall3 (x.bad z6 (by assumption) (form_b4 (by assumption)))).symm) | exact Cl2 | (dsimp only [bI]; exact Cl2) | (dsimp only [bI] at *; exact Cl2) | skip
 all_goals
  (obtain ⟨y, hy⟩ := x.step z6 (by assumption) (form_g (by assumption) (by assumption) (by assumption) (by assumption))
   refine ⟨y, dF (by assumption) hy, ?_⟩
   refine Pr ?_
   (try (conv in (SS.mk _ _) => dsimp only [bI]))
   refine Nx ?_
   with_reducible repeat' first | exact True.intro | refine Ca ?_ | refine Cb ?_ | refine Cd ?_ | refine Ce ?_ | refine Cm ?_ ?_
   all_goals first | with_reducible refine Ez ?_ | exact Cl1 | (dsimp only [bI]; exact Cl1) | exact hy.symm | exact Cl2 | (dsimp only [bI]; exact Cl2) | (dsimp only [bI] at *; exact Cl2) | skip)
theorem cR : aE Tryz.prog AI 20 bE.con := aB.sound Tryz.call20 (fun x h => Aa x.1 h)
end Go.Proofs.YtcaoldilmnpjoaaGreat
