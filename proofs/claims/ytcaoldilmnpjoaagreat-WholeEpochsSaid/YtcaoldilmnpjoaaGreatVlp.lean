/-
  The top: plans of networks: Valid.
-/
import Derived.Test.YtcaoldilmnpjoaaGreatVlr
namespace Go.Proofs.YtcaoldilmnpjoaaGreat
set_option linter.all false
open Go.RowKit Go.Sx
set_option maxRecDepth 100000
set_option maxHeartbeats 16000000
abbrev portB (p : PlanT) (c : CabT) : Bool := (hpF p c.1 c.2.1).1 && (hpF p c.2.2.1 c.2.2.2.1).1
abbrev loopB (c : CabT) : Bool := !decide (c.1 = c.2.2.1)
abbrev formB (c : CabT) : Bool := decide (1 ≤ c.2.2.2.2.1 ∧ c.2.2.2.2.1 ≤ 100 ∧ 1 ≤ c.2.2.2.2.2 ∧ c.2.2.2.2.2 ≤ 1000)
def validI (p : PlanT) : Int :=
  if p.1.all (fun n => (vndF n).1) = true then
    (if p.2.all (portB p) = true then
      (if repB p = true then 8 else (if p.2.all loopB = true then (if p.2.all formB = true then 0 else 3) else 12))
    else 2)
  else 1
def validF (p : PlanT) : Tup [DT.cell Ii] := (validI p, ())
theorem vl_1 {p1 : List NodeT} {p2 : List CabT} (h : p1.all (fun n => (vndF n).1) = false) : validI (p1, p2) = 1 := by unfold validI; rw [if_neg (by rw [h]; decide)]
theorem vl_2 {p1 : List NodeT} {p2 : List CabT} (h : p1.all (fun n => (vndF n).1) = true) (h2 : p2.all (portB (p1, p2)) = false) : validI (p1, p2) = 2 := by unfold validI; rw [if_pos h, if_neg (by rw [h2]; decide)]
theorem vl_3 {p1 : List NodeT} {p2 : List CabT} (h : p1.all (fun n => (vndF n).1) = true) (h2 : p2.all (portB (p1, p2)) = true) (h3 : repB (p1, p2) = true) : validI (p1, p2) = 8 := by unfold validI; rw [if_pos h, if_pos h2, if_pos h3]
theorem vl_4 {p1 : List NodeT} {p2 : List CabT} (h : p1.all (fun n => (vndF n).1) = true) (h2 : p2.all (portB (p1, p2)) = true) (h3 : repB (p1, p2) = false) (h4 : p2.all loopB = false) : validI (p1, p2) = 12 := by unfold validI; rw [if_pos h, if_pos h2, if_neg (by rw [h3]; decide), if_neg (by rw [h4]; decide)]
theorem vl_5 {p1 : List NodeT} {p2 : List CabT} (h : p1.all (fun n => (vndF n).1) = true) (h2 : p2.all (portB (p1, p2)) = true) (h3 : repB (p1, p2) = false) (h4 : p2.all loopB = true) (h5 : p2.all formB = false) : validI (p1, p2) = 3 := by unfold validI; rw [if_pos h, if_pos h2, if_neg (by rw [h3]; decide), if_pos h4, if_neg (by rw [h5]; decide)]
theorem vl_0 {p1 : List NodeT} {p2 : List CabT} (h : p1.all (fun n => (vndF n).1) = true) (h2 : p2.all (portB (p1, p2)) = true) (h3 : repB (p1, p2) = false) (h4 : p2.all loopB = true) (h5 : p2.all formB = true) : validI (p1, p2) = 0 := by unfold validI; rw [if_pos h, if_pos h2, if_neg (by rw [h3]; decide), if_pos h4, if_pos h5]
theorem port_bad1 {p : PlanT} {c : CabT} (h : (hpF p c.1 c.2.1).1 = false) : portB p c = false := by show ((hpF p c.1 c.2.1).1 && (hpF p c.2.2.1 c.2.2.2.1).1) = false; rw [h]; rfl
theorem port_bad2 {p : PlanT} {c : CabT} (h : (hpF p c.1 c.2.1).1 = true) (h2 : (hpF p c.2.2.1 c.2.2.2.1).1 = false) : portB p c = false := by show ((hpF p c.1 c.2.1).1 && (hpF p c.2.2.1 c.2.2.2.1).1) = false; rw [h, h2]; rfl
theorem port_ok {p : PlanT} {c : CabT} (h : (hpF p c.1 c.2.1).1 = true) (h2 : (hpF p c.2.2.1 c.2.2.2.1).1 = true) : portB p c = true := by show ((hpF p c.1 c.2.1).1 && (hpF p c.2.2.1 c.2.2.2.1).1) = true; rw [h, h2]; rfl
theorem loop_bad {c : CabT} (h : c.1 = c.2.2.1) : loopB c = false := by simp [loopB, h]
theorem loop_ok {c : CabT} (h : ¬ c.1 = c.2.2.1) : loopB c = true := by simp [loopB, h]
theorem form_bad {c : CabT} (h : c.2.2.2.2.1 < 1 ∨ 100 < c.2.2.2.2.1 ∨ c.2.2.2.2.2 < 1 ∨ 1000 < c.2.2.2.2.2) : formB c = false := by simp only [formB, decide_eq_false_iff_not]; omega
theorem form_ok {c : CabT} (h : ¬ (c.2.2.2.2.1 < 1 ∨ 100 < c.2.2.2.2.1 ∨ c.2.2.2.2.2 < 1 ∨ 1000 < c.2.2.2.2.2)) : formB c = true := by simp only [formB, decide_eq_true_eq]; omega
theorem form_b1 {c : CabT} (h : c.2.2.2.2.1 < 1) : formB c = false := form_bad (by omega)
theorem form_b2 {c : CabT} (h : 100 < c.2.2.2.2.1) : formB c = false := form_bad (by omega)
theorem form_b3 {c : CabT} (h : c.2.2.2.2.2 < 1) : formB c = false := form_bad (by omega)
theorem form_b4 {c : CabT} (h : 1000 < c.2.2.2.2.2) : formB c = false := form_bad (by omega)
theorem form_g {c : CabT} (h1 : ¬ c.2.2.2.2.1 < 1) (h2 : ¬ 100 < c.2.2.2.2.1) (h3 : ¬ c.2.2.2.2.2 < 1) (h4 : ¬ 1000 < c.2.2.2.2.2) : formB c = true := form_ok (by omega)
structure PlOk (p : PlanT) : Prop where
  n : p.1.length ≤ 16
  c : p.2.length ≤ 32
  nm : ∀ n ∈ p.1, inBytes n.1
  cb : ∀ c ∈ p.2, CabE.keyIn c
noncomputable abbrev Ev2 : Env Ab := ⟨tis, [(66, repSpec.con), (65, hpSpec.con), (64, vndSpec.con)] ++ E0.con⟩
theorem ev2Ok : EnvOk Tryz.prog AI Ev2 := (((e0Ok.add vnd_sound).add hp_sound).add rep_sound)
def validSpec : PureSpec := ⟨[.cell PlanE], fun (x : PlanT × Unit) => PlOk x.1, [.cell Ii], fun (x : PlanT × Unit) => validF x.1⟩
theorem valid_ok (p : PlanT) (h : validSpec.pre (p, ())) : TmplOk Tryz.prog AI 20 (argS validSpec.ds (fun _ => (p, ()))) [] (resOf (svs validSpec.rs (fun _ => validSpec.f (p, ())))) [] := by
  dsimp only [validSpec] at h ⊢
  generalize hr : validF p = r
  obtain ⟨p1, p2⟩ := p; obtain ⟨hp1, hp2, hp3, hp4⟩ := h; dsimp only at hp1 hp2 hp3 hp4
  dsimp only [validF] at hr
  refine tmpl_of_body ev2Ok mixed (fn := Tryz.f20) (c := bodyOf Tryz.f20) (by kernel_rfl) (by kernel_rfl) (by kernel_rfl) (Nat.le_of_ble_eq_true (by kernel_rfl)) ?_
  refine Pr ?_
  (try (conv in (SS.mk _ _) => dsimp only [vndSpec, hpSpec, repSpec, repF]))
  refine Nx ?_
  repeat' (first
    | with_reducible (first | refine Ck.au ?_ | refine Ck.all_cons ?_ | refine Ck.all_nil ?_ | refine Ck.mk ?_ ?_)
    | (with_reducible (first | refine Both.mk (fun h => ?_) (fun h => ?_) | refine Alt.mk (fun h => ?_) (fun h => ?_) | refine Pick.mk (fun h => ?_) (fun l1 x l2 h => ?_)) <;> (have hk := h) <;> (try replace h := nh h) <;> (try dsimp only [vndSpec, hpSpec, repSpec, repF] at h) <;> (try simp only [natCast_eq] at h) <;> (try replace hr := hri hr) <;> (try (have hb : (_ : Bool) = _ := h; clear h; subst hb; (try replace hr := hri hr))) <;> first | exact Dd | refine Nx ?_)
    | ((with_reducible refine End.mk ?_); (try ((repeat (first | rw [ifP] at hr | rw [ifM] at hr | rw [if_pos rfl] at hr)); subst hr)))
    | with_reducible exact True.intro)
  all_goals first
    | (fail_if_success (with_reducible refine Exists.intro ?_ ?_)
       first
       | exact Cl1
       | (dsimp only [vndSpec, hpSpec, repSpec, repF]; exact Cl1)
       | exact Cl2
       | (dsimp only [vndSpec, hpSpec, repSpec, repF]; exact Cl2)
       | (dsimp only [vndSpec, hpSpec, repSpec, repF] at *; exact Cl2))
    | skip
  obtain ⟨x0, hx0⟩ := La.zero p1 (fun n => (vndF n).1)
  refine ⟨⟨La p1 (fun n => (vndF n).1), fun x => ⟨[(1, Sx.one (.ptr 0 0)), (22, Sx.one (.ro NodeE (fun _ => p1))), (23, Sx.one (.int .i64 (fun _ => p1.length))), (24, Sx.one (.int .i64 (fun _ => x.i)))],
    [.cells 25 [.ro NodeE (fun _ => p1), .ro CabE (fun _ => p2)]]⟩, fun x => (p1.length - x.i).toNat, x0⟩, ?_, fun (x : La p1 (fun n => (vndF n).1)) => ?_⟩
  · refine Pr ?_
    (try (conv in (SS.mk _ _) => dsimp only [vndSpec, hpSpec, repSpec, repF]))
    refine Nx ?_
    repeat' (first
      | with_reducible (first | refine Ck.au ?_ | refine Ck.all_cons ?_ | refine Ck.all_nil ?_ | refine Ck.mk ?_ ?_)
      | (with_reducible (first | refine Both.mk (fun h => ?_) (fun h => ?_) | refine Alt.mk (fun h => ?_) (fun h => ?_) | refine Pick.mk (fun h => ?_) (fun l1 x l2 h => ?_)) <;> (have hk := h) <;> (try replace h := nh h) <;> (try dsimp only [vndSpec, hpSpec, repSpec, repF] at h) <;> (try simp only [natCast_eq] at h) <;> (try replace hr := hri hr) <;> (try (have hb : (_ : Bool) = _ := h; clear h; subst hb; (try replace hr := hri hr))) <;> first | exact Dd | refine Nx ?_)
      | with_reducible refine End.mk ?_
      | with_reducible exact True.intro)
    all_goals first
      | (fail_if_success (with_reducible refine Exists.intro ?_ ?_)
         first
         | exact Cl1
         | (dsimp only [vndSpec, hpSpec, repSpec, repF]; exact Cl1)
         | exact hx0.symm
         | exact Cl2
         | (dsimp only [vndSpec, hpSpec, repSpec, repF]; exact Cl2)
         | (dsimp only [vndSpec, hpSpec, repSpec, repF] at *; exact Cl2))
      | skip
  have hlo := x.lo
  have hhi := x.hi
  refine Pr ?_
  (try (conv in (SS.mk _ _) => dsimp only [vndSpec, hpSpec, repSpec, repF]))
  refine Nx ?_
  repeat' (first
    | with_reducible (first | refine Ck.au ?_ | refine Ck.all_cons ?_ | refine Ck.all_nil ?_ | refine Ck.mk ?_ ?_)
    | (with_reducible (first | refine Both.mk (fun h => ?_) (fun h => ?_) | refine Alt.mk (fun h => ?_) (fun h => ?_) | refine Pick.mk (fun h => ?_) (fun l1 x l2 h => ?_)) <;> (have hk := h) <;> (try replace h := nh h) <;> (try dsimp only [vndSpec, hpSpec, repSpec, repF] at h) <;> (try simp only [natCast_eq] at h) <;> (try replace hr := hri hr) <;> (try (have hb : (_ : Bool) = _ := h; clear h; subst hb; (try replace hr := hri hr))) <;> first | exact Dd | refine Nx ?_)
    | with_reducible refine End.mk ?_
    | with_reducible exact True.intro)
  all_goals first
    | (fail_if_success (with_reducible refine Exists.intro ?_ ?_)
       first
       | exact Cl1
       | (dsimp only [vndSpec, hpSpec, repSpec, repF]; exact Cl1)
       | first | exact nm_in hp3 (by assumption) | (subst hr; exact (vl_1 (x.bad zN (by assumption) h)).symm)
       | exact Cl2
       | (dsimp only [vndSpec, hpSpec, repSpec, repF]; exact Cl2)
       | (dsimp only [vndSpec, hpSpec, repSpec, repF] at *; exact Cl2))
    | skip
  · obtain ⟨y, hy⟩ := x.step zN (by assumption) h
    refine ⟨y, la_meas (by assumption) hy, ?_⟩
    refine Pr ?_
    (try (conv in (SS.mk _ _) => dsimp only [vndSpec, hpSpec, repSpec, repF]))
    refine Nx ?_
    repeat' (first
      | with_reducible (first | refine Ck.au ?_ | refine Ck.all_cons ?_ | refine Ck.all_nil ?_ | refine Ck.mk ?_ ?_)
      | (with_reducible (first | refine Both.mk (fun h => ?_) (fun h => ?_) | refine Alt.mk (fun h => ?_) (fun h => ?_) | refine Pick.mk (fun h => ?_) (fun l1 x l2 h => ?_)) <;> (have hk := h) <;> (try replace h := nh h) <;> (try dsimp only [vndSpec, hpSpec, repSpec, repF] at h) <;> (try simp only [natCast_eq] at h) <;> (try replace hr := hri hr) <;> (try (have hb : (_ : Bool) = _ := h; clear h; subst hb; (try replace hr := hri hr))) <;> first | exact Dd | refine Nx ?_)
      | with_reducible refine End.mk ?_
      | with_reducible exact True.intro)
    all_goals first
      | (fail_if_success (with_reducible refine Exists.intro ?_ ?_)
         first
         | exact Cl1
         | (dsimp only [vndSpec, hpSpec, repSpec, repF]; exact Cl1)
         | exact hy.symm
         | exact Cl2
         | (dsimp only [vndSpec, hpSpec, repSpec, repF]; exact Cl2)
         | (dsimp only [vndSpec, hpSpec, repSpec, repF] at *; exact Cl2))
      | skip
  have hall1 := x.done (by assumption)
  clear hx0 x0 hlo hhi
  obtain ⟨x0, hx0⟩ := La.zero p2 (portB (p1, p2))
  refine ⟨⟨La p2 (portB (p1, p2)), fun x => ⟨[(1, Sx.one (.ptr 0 0)), (33, Sx.one (.ro CabE (fun _ => p2))), (34, Sx.one (.int .i64 (fun _ => p2.length))), (35, Sx.one (.int .i64 (fun _ => x.i)))],
    [.cells 25 [.ro NodeE (fun _ => p1), .ro CabE (fun _ => p2)]]⟩, fun x => (p2.length - x.i).toNat, x0⟩, ?_, fun (x : La p2 (portB (p1, p2))) => ?_⟩
  · refine Pr ?_
    (try (conv in (SS.mk _ _) => dsimp only [vndSpec, hpSpec, repSpec, repF]))
    refine Nx ?_
    repeat' (first
      | with_reducible (first | refine Ck.au ?_ | refine Ck.all_cons ?_ | refine Ck.all_nil ?_ | refine Ck.mk ?_ ?_)
      | (with_reducible (first | refine Both.mk (fun h => ?_) (fun h => ?_) | refine Alt.mk (fun h => ?_) (fun h => ?_) | refine Pick.mk (fun h => ?_) (fun l1 x l2 h => ?_)) <;> (have hk := h) <;> (try replace h := nh h) <;> (try dsimp only [vndSpec, hpSpec, repSpec, repF] at h) <;> (try simp only [natCast_eq] at h) <;> (try replace hr := hri hr) <;> (try (have hb : (_ : Bool) = _ := h; clear h; subst hb; (try replace hr := hri hr))) <;> first | exact Dd | refine Nx ?_)
      | with_reducible refine End.mk ?_
      | with_reducible exact True.intro)
    all_goals first
      | (fail_if_success (with_reducible refine Exists.intro ?_ ?_)
         first
         | exact Cl1
         | (dsimp only [vndSpec, hpSpec, repSpec, repF]; exact Cl1)
         | exact hx0.symm
         | exact Cl2
         | (dsimp only [vndSpec, hpSpec, repSpec, repF]; exact Cl2)
         | (dsimp only [vndSpec, hpSpec, repSpec, repF] at *; exact Cl2))
      | skip
  have hlo := x.lo
  have hhi := x.hi
  refine Pr ?_
  (try (conv in (SS.mk _ _) => dsimp only [vndSpec, hpSpec, repSpec, repF]))
  refine Nx ?_
  repeat' (first
    | with_reducible (first | refine Ck.au ?_ | refine Ck.all_cons ?_ | refine Ck.all_nil ?_ | refine Ck.mk ?_ ?_)
    | (with_reducible (first | refine Both.mk (fun h => ?_) (fun h => ?_) | refine Alt.mk (fun h => ?_) (fun h => ?_) | refine Pick.mk (fun h => ?_) (fun l1 x l2 h => ?_)) <;> (have hk := h) <;> (try replace h := nh h) <;> (try dsimp only [vndSpec, hpSpec, repSpec, repF] at h) <;> (try simp only [natCast_eq] at h) <;> (try replace hr := hri hr) <;> (try (have hb : (_ : Bool) = _ := h; clear h; subst hb; (try replace hr := hri hr))) <;> first | exact Dd | refine Nx ?_)
    | with_reducible refine End.mk ?_
    | with_reducible exact True.intro)
  all_goals first
    | (fail_if_success (with_reducible refine Exists.intro ?_ ?_)
       first
       | exact Cl1
       | (dsimp only [vndSpec, hpSpec, repSpec, repF]; exact Cl1)
       | first | (subst hr; exact (vl_2 hall1 (x.bad z6 (by assumption) (port_bad1 h))).symm) | (subst hr; exact (vl_2 hall1 (x.bad z6 (by assumption) (port_bad2 (by assumption) h))).symm)
       | exact Cl2
       | (dsimp only [vndSpec, hpSpec, repSpec, repF]; exact Cl2)
       | (dsimp only [vndSpec, hpSpec, repSpec, repF] at *; exact Cl2))
    | skip
  · obtain ⟨y, hy⟩ := x.step z6 (by assumption) (port_ok (by assumption) h)
    refine ⟨y, la_meas (by assumption) hy, ?_⟩
    refine Pr ?_
    (try (conv in (SS.mk _ _) => dsimp only [vndSpec, hpSpec, repSpec, repF]))
    refine Nx ?_
    repeat' (first
      | with_reducible (first | refine Ck.au ?_ | refine Ck.all_cons ?_ | refine Ck.all_nil ?_ | refine Ck.mk ?_ ?_)
      | (with_reducible (first | refine Both.mk (fun h => ?_) (fun h => ?_) | refine Alt.mk (fun h => ?_) (fun h => ?_) | refine Pick.mk (fun h => ?_) (fun l1 x l2 h => ?_)) <;> (have hk := h) <;> (try replace h := nh h) <;> (try dsimp only [vndSpec, hpSpec, repSpec, repF] at h) <;> (try simp only [natCast_eq] at h) <;> (try replace hr := hri hr) <;> (try (have hb : (_ : Bool) = _ := h; clear h; subst hb; (try replace hr := hri hr))) <;> first | exact Dd | refine Nx ?_)
      | with_reducible refine End.mk ?_
      | with_reducible exact True.intro)
    all_goals first
      | (fail_if_success (with_reducible refine Exists.intro ?_ ?_)
         first
         | exact Cl1
         | (dsimp only [vndSpec, hpSpec, repSpec, repF]; exact Cl1)
         | exact hy.symm
         | exact Cl2
         | (dsimp only [vndSpec, hpSpec, repSpec, repF]; exact Cl2)
         | (dsimp only [vndSpec, hpSpec, repSpec, repF] at *; exact Cl2))
      | skip
  · (dsimp only [repSpec]; simp only [pair_eta, map_idL]; exact ⟨hp1, hp2, hp3, hp4⟩)
  · subst hr; exact (vl_3 hall1 (x.done (by assumption)) h).symm
  have hall2 := x.done (by assumption)
  clear hx0 x0 hlo hhi
  have hrep := h
  obtain ⟨x0, hx0⟩ := La.zero p2 loopB
  refine ⟨⟨La p2 loopB, fun x => ⟨[(1, Sx.one (.ptr 0 0)), (59, Sx.one (.ro CabE (fun _ => p2))), (60, Sx.one (.int .i64 (fun _ => p2.length))), (61, Sx.one (.int .i64 (fun _ => x.i)))],
    [.cells 25 [.ro NodeE (fun _ => p1), .ro CabE (fun _ => p2)]]⟩, fun x => (p2.length - x.i).toNat, x0⟩, ?_, fun (x : La p2 loopB) => ?_⟩
  · refine Pr ?_
    (try (conv in (SS.mk _ _) => dsimp only [vndSpec, hpSpec, repSpec, repF]))
    refine Nx ?_
    repeat' (first
      | with_reducible (first | refine Ck.au ?_ | refine Ck.all_cons ?_ | refine Ck.all_nil ?_ | refine Ck.mk ?_ ?_)
      | (with_reducible (first | refine Both.mk (fun h => ?_) (fun h => ?_) | refine Alt.mk (fun h => ?_) (fun h => ?_) | refine Pick.mk (fun h => ?_) (fun l1 x l2 h => ?_)) <;> (have hk := h) <;> (try replace h := nh h) <;> (try dsimp only [vndSpec, hpSpec, repSpec, repF] at h) <;> (try simp only [natCast_eq] at h) <;> (try replace hr := hri hr) <;> (try (have hb : (_ : Bool) = _ := h; clear h; subst hb; (try replace hr := hri hr))) <;> first | exact Dd | refine Nx ?_)
      | with_reducible refine End.mk ?_
      | with_reducible exact True.intro)
    all_goals first
      | (fail_if_success (with_reducible refine Exists.intro ?_ ?_)
         first
         | exact Cl1
         | (dsimp only [vndSpec, hpSpec, repSpec, repF]; exact Cl1)
         | exact hx0.symm
         | exact Cl2
         | (dsimp only [vndSpec, hpSpec, repSpec, repF]; exact Cl2)
         | (dsimp only [vndSpec, hpSpec, repSpec, repF] at *; exact Cl2))
      | skip
  have hlo := x.lo
  have hhi := x.hi
  refine Pr ?_
  (try (conv in (SS.mk _ _) => dsimp only [vndSpec, hpSpec, repSpec, repF]))
  refine Nx ?_
  repeat' (first
    | with_reducible (first | refine Ck.au ?_ | refine Ck.all_cons ?_ | refine Ck.all_nil ?_ | refine Ck.mk ?_ ?_)
    | (with_reducible (first | refine Both.mk (fun h => ?_) (fun h => ?_) | refine Alt.mk (fun h => ?_) (fun h => ?_) | refine Pick.mk (fun h => ?_) (fun l1 x l2 h => ?_)) <;> (have hk := h) <;> (try replace h := nh h) <;> (try dsimp only [vndSpec, hpSpec, repSpec, repF] at h) <;> (try simp only [natCast_eq] at h) <;> (try replace hr := hri hr) <;> (try (have hb : (_ : Bool) = _ := h; clear h; subst hb; (try replace hr := hri hr))) <;> first | exact Dd | refine Nx ?_)
    | with_reducible refine End.mk ?_
    | with_reducible exact True.intro)
  all_goals first
    | (fail_if_success (with_reducible refine Exists.intro ?_ ?_)
       first
       | exact Cl1
       | (dsimp only [vndSpec, hpSpec, repSpec, repF]; exact Cl1)
       | first | (subst hr; exact (vl_4 hall1 hall2 hrep (x.bad z6 (by assumption) (loop_bad h))).symm)
       | exact Cl2
       | (dsimp only [vndSpec, hpSpec, repSpec, repF]; exact Cl2)
       | (dsimp only [vndSpec, hpSpec, repSpec, repF] at *; exact Cl2))
    | skip
  · obtain ⟨y, hy⟩ := x.step z6 (by assumption) (loop_ok h)
    refine ⟨y, la_meas (by assumption) hy, ?_⟩
    refine Pr ?_
    (try (conv in (SS.mk _ _) => dsimp only [vndSpec, hpSpec, repSpec, repF]))
    refine Nx ?_
    repeat' (first
      | with_reducible (first | refine Ck.au ?_ | refine Ck.all_cons ?_ | refine Ck.all_nil ?_ | refine Ck.mk ?_ ?_)
      | (with_reducible (first | refine Both.mk (fun h => ?_) (fun h => ?_) | refine Alt.mk (fun h => ?_) (fun h => ?_) | refine Pick.mk (fun h => ?_) (fun l1 x l2 h => ?_)) <;> (have hk := h) <;> (try replace h := nh h) <;> (try dsimp only [vndSpec, hpSpec, repSpec, repF] at h) <;> (try simp only [natCast_eq] at h) <;> (try replace hr := hri hr) <;> (try (have hb : (_ : Bool) = _ := h; clear h; subst hb; (try replace hr := hri hr))) <;> first | exact Dd | refine Nx ?_)
      | with_reducible refine End.mk ?_
      | with_reducible exact True.intro)
    all_goals first
      | (fail_if_success (with_reducible refine Exists.intro ?_ ?_)
         first
         | exact Cl1
         | (dsimp only [vndSpec, hpSpec, repSpec, repF]; exact Cl1)
         | exact hy.symm
         | exact Cl2
         | (dsimp only [vndSpec, hpSpec, repSpec, repF]; exact Cl2)
         | (dsimp only [vndSpec, hpSpec, repSpec, repF] at *; exact Cl2))
      | skip
  have hall3 := x.done (by assumption)
  clear hx0 x0 hlo hhi
  obtain ⟨x0, hx0⟩ := La.zero p2 formB
  refine ⟨⟨La p2 formB, fun x => ⟨[(1, Sx.one (.ptr 0 0)), (72, Sx.one (.ro CabE (fun _ => p2))), (73, Sx.one (.int .i64 (fun _ => p2.length))), (74, Sx.one (.int .i64 (fun _ => x.i)))],
    [.cells 25 [.ro NodeE (fun _ => p1), .ro CabE (fun _ => p2)]]⟩, fun x => (p2.length - x.i).toNat, x0⟩, ?_, fun (x : La p2 formB) => ?_⟩
  · refine Pr ?_
    (try (conv in (SS.mk _ _) => dsimp only [vndSpec, hpSpec, repSpec, repF]))
    refine Nx ?_
    repeat' (first
      | with_reducible (first | refine Ck.au ?_ | refine Ck.all_cons ?_ | refine Ck.all_nil ?_ | refine Ck.mk ?_ ?_)
      | (with_reducible (first | refine Both.mk (fun h => ?_) (fun h => ?_) | refine Alt.mk (fun h => ?_) (fun h => ?_) | refine Pick.mk (fun h => ?_) (fun l1 x l2 h => ?_)) <;> (have hk := h) <;> (try replace h := nh h) <;> (try dsimp only [vndSpec, hpSpec, repSpec, repF] at h) <;> (try simp only [natCast_eq] at h) <;> (try replace hr := hri hr) <;> (try (have hb : (_ : Bool) = _ := h; clear h; subst hb; (try replace hr := hri hr))) <;> first | exact Dd | refine Nx ?_)
      | with_reducible refine End.mk ?_
      | with_reducible exact True.intro)
    all_goals first
      | (fail_if_success (with_reducible refine Exists.intro ?_ ?_)
         first
         | exact Cl1
         | (dsimp only [vndSpec, hpSpec, repSpec, repF]; exact Cl1)
         | exact hx0.symm
         | exact Cl2
         | (dsimp only [vndSpec, hpSpec, repSpec, repF]; exact Cl2)
         | (dsimp only [vndSpec, hpSpec, repSpec, repF] at *; exact Cl2))
      | skip
  have hlo := x.lo
  have hhi := x.hi
  refine Pr ?_
  (try (conv in (SS.mk _ _) => dsimp only [vndSpec, hpSpec, repSpec, repF]))
  refine Nx ?_
  repeat' (first
    | with_reducible (first | refine Ck.au ?_ | refine Ck.all_cons ?_ | refine Ck.all_nil ?_ | refine Ck.mk ?_ ?_)
    | (with_reducible (first | refine Both.mk (fun h => ?_) (fun h => ?_) | refine Alt.mk (fun h => ?_) (fun h => ?_) | refine Pick.mk (fun h => ?_) (fun l1 x l2 h => ?_)) <;> (have hk := h) <;> (try replace h := nh h) <;> (try dsimp only [vndSpec, hpSpec, repSpec, repF] at h) <;> (try simp only [natCast_eq] at h) <;> (try replace hr := hri hr) <;> (try (have hb : (_ : Bool) = _ := h; clear h; subst hb; (try replace hr := hri hr))) <;> first | exact Dd | refine Nx ?_)
    | with_reducible refine End.mk ?_
    | with_reducible exact True.intro)
  all_goals first
    | (fail_if_success (with_reducible refine Exists.intro ?_ ?_)
       first
       | exact Cl1
       | (dsimp only [vndSpec, hpSpec, repSpec, repF]; exact Cl1)
       | first | (subst hr; exact (vl_0 hall1 hall2 hrep hall3 (x.done (by assumption))).symm) | (subst hr; exact (vl_5 hall1 hall2 hrep hall3 (x.bad z6 (by assumption) (form_b1 (by assumption)))).symm) | (subst hr; exact (vl_5 hall1 hall2 hrep hall3 (x.bad z6 (by assumption) (form_b2 (by assumption)))).symm) | (subst hr; exact (vl_5 hall1 hall2 hrep hall3 (x.bad z6 (by assumption) (form_b3 (by assumption)))).symm) | (subst hr; exact (vl_5 hall1 hall2 hrep hall3 (x.bad z6 (by assumption) (form_b4 (by assumption)))).symm)
       | exact Cl2
       | (dsimp only [vndSpec, hpSpec, repSpec, repF]; exact Cl2)
       | (dsimp only [vndSpec, hpSpec, repSpec, repF] at *; exact Cl2))
    | skip
  all_goals
   (obtain ⟨y, hy⟩ := x.step z6 (by assumption) (form_g (by assumption) (by assumption) (by assumption) (by assumption))
    refine ⟨y, la_meas (by assumption) hy, ?_⟩
    refine Pr ?_
    (try (conv in (SS.mk _ _) => dsimp only [vndSpec, hpSpec, repSpec, repF]))
    refine Nx ?_
    repeat' (first
      | with_reducible (first | refine Ck.au ?_ | refine Ck.all_cons ?_ | refine Ck.all_nil ?_ | refine Ck.mk ?_ ?_)
      | (with_reducible (first | refine Both.mk (fun h => ?_) (fun h => ?_) | refine Alt.mk (fun h => ?_) (fun h => ?_) | refine Pick.mk (fun h => ?_) (fun l1 x l2 h => ?_)) <;> (have hk := h) <;> (try replace h := nh h) <;> (try dsimp only [vndSpec, hpSpec, repSpec, repF] at h) <;> (try simp only [natCast_eq] at h) <;> (try replace hr := hri hr) <;> (try (have hb : (_ : Bool) = _ := h; clear h; subst hb; (try replace hr := hri hr))) <;> first | exact Dd | refine Nx ?_)
      | with_reducible refine End.mk ?_
      | with_reducible exact True.intro)
    all_goals first
      | (fail_if_success (with_reducible refine Exists.intro ?_ ?_)
         first
         | exact Cl1
         | (dsimp only [vndSpec, hpSpec, repSpec, repF]; exact Cl1)
         | exact hy.symm
         | exact Cl2
         | (dsimp only [vndSpec, hpSpec, repSpec, repF]; exact Cl2)
         | (dsimp only [vndSpec, hpSpec, repSpec, repF] at *; exact Cl2))
      | skip)
theorem valid_sound : ConSound Tryz.prog AI 20 validSpec.con := PureSpec.sound Tryz.call20 (fun x h => valid_ok x.1 h)
end Go.Proofs.YtcaoldilmnpjoaaGreat
