/-
  The top: Distances, order.Of, order.Valid, order.Above.
-/
import Derived.Test.YtcaoldilmnpjoaaGreatDis
namespace Go.Proofs.YtcaoldilmnpjoaaGreat
set_option linter.all false
open Go.RowKit Go.Sx
set_option maxRecDepth 100000
set_option maxHeartbeats 16000000
theorem hp_facts {p : PlanT} {a b : Int} (h : (hpF p a b).1 = true) : 0 ≤ a ∧ a < (p.1.length : Int) := by
  unfold hpF at h
  split at h
  · split at h
    · exact ⟨by assumption, by assumption⟩
    · cases h
  · cases h
theorem valid_ends {p : PlanT} (h : validI p = 0) : EndsOk p.2 p.1.length := by
  unfold validI at h
  split at h <;> (try (cases h; done))
  split at h <;> (try (cases h; done))
  rename_i h2
  split at h <;> (try (cases h; done))
  split at h <;> (try (cases h; done))
  rename_i h4
  intro c hc
  have e2 := List.all_eq_true.1 h2 c hc
  have e4 := List.all_eq_true.1 h4 c hc
  obtain ⟨e5, e6⟩ := Bool.and_eq_true_iff.1 e2
  refine ⟨hp_facts e5, hp_facts e6, ?_⟩
  simpa [loopB] using e4
/-- A valid plan, and a Bool for each cable. -/
structure SmOk (p : PlanT) (up : List Bool) : Prop where
  pl : PlOk p
  ok : validI p = 0
  up : up.length = p.2.length
theorem SmOk.upOk {p : PlanT} {up : List Bool} (h : SmOk p up) : UpOk p up := ⟨h.pl.n, h.pl.c, valid_ends h.ok, h.up⟩
theorem SmOk.use {p : PlanT} {up : List Bool} (h : SmOk p up) : useF p up = (true, ()) := by unfold useF; rw [if_pos h.ok, h.up]; simp
abbrev OrdE : Ty := .pair (.lst Ii) .unit
abbrev OrdT := List Int × Unit
noncomputable abbrev Eo1 : Env Ab := ⟨tis, [(108, distSpec.con), (107, useSpec.con), (20, validSpec.con)] ++ E0.con⟩
theorem eo1Ok : EnvOk Tryz.prog AI Eo1 := (((e0Ok.add valid_sound).add use_sound).add dist_sound)
def dstSpec : PureSpec := ⟨[.cell PlanE, .cell Ii, .lst .bool], fun (x : PlanT × Int × (List Bool) × Unit) => SmOk x.1 x.2.2.1 ∧ 0 ≤ x.2.1 ∧ x.2.1 < ((x.1).1.length : Int), [.lst Ii], fun (x : PlanT × Int × (List Bool) × Unit) => distF x.1 x.2.1 x.2.2.1⟩
theorem dst_ok (p : PlanT) (root : Int) (up : List Bool) (h : dstSpec.pre (p, root, up, ())) : TmplOk Tryz.prog AI 67 (argS dstSpec.ds (fun _ => (p, root, up, ()))) [] (resOf (svs dstSpec.rs (fun _ => dstSpec.f (p, root, up, ())))) [] := by
  dsimp only [dstSpec] at h ⊢
  generalize hr : distF p root up = r
  obtain ⟨p1, p2⟩ := p; obtain ⟨hS, hr0, hr1⟩ := h; have hP := hS.pl; have hU := hS.upOk; have hue := hS.use; dsimp only at hr0 hr1
  dsimp only [distF] at hr
  refine tmpl_of_body eo1Ok mixed (fn := Tryz.f67) (c := bodyOf Tryz.f67) (by kernel_rfl) (by kernel_rfl) (by kernel_rfl) (Nat.le_of_ble_eq_true (by kernel_rfl)) ?_
  refine Pr ?_
  (try (conv in (SS.mk _ _) => dsimp only [validSpec, useSpec, distSpec]))
  refine Nx ?_
  repeat' (first
    | with_reducible (first | refine Ck.au ?_ | refine Ck.all_cons ?_ | refine Ck.all_nil ?_ | refine Ck.mk ?_ ?_)
    | (with_reducible (first | refine Both.mk (fun h => ?_) (fun h => ?_) | refine Alt.mk (fun h => ?_) (fun h => ?_) | refine Pick.mk (fun h => ?_) (fun l1 x l2 h => ?_)) <;> (have hk := h) <;> (try replace h := nh h) <;> (try dsimp only [validSpec, useSpec, distSpec] at h) <;> (try simp only [natCast_eq] at h) <;> (try replace hr := hri hr) <;> (try (have hb : (_ : Bool) = _ := h; clear h; subst hb; (try replace hr := hri hr))) <;> first | exact Dd | refine Nx ?_)
    | ((with_reducible refine End.mk ?_); (try ((repeat (first | rw [ifP] at hr | rw [ifM] at hr | rw [if_pos rfl] at hr)); subst hr)))
    | with_reducible exact True.intro)
  all_goals first
    | (fail_if_success (with_reducible refine Exists.intro ?_ ?_)
       first
       | exact Cl1
       | (dsimp only [validSpec, useSpec, distSpec]; exact Cl1)
       | first | (dsimp only [validSpec, useSpec, distSpec]; simp only [pair_eta, map_idL]; first | exact hP | exact ⟨hU, hr0, hr1⟩) | (exfalso; rw [hue] at h; exact absurd h (by decide))
       | exact Cl2
       | (dsimp only [validSpec, useSpec, distSpec]; exact Cl2)
       | (dsimp only [validSpec, useSpec, distSpec] at *; exact Cl2))
    | skip
  dsimp only
  simp only [pair_eta, map_idL]
  rfl
theorem dst_sound : ConSound Tryz.prog AI 67 dstSpec.con := PureSpec.sound Tryz.call67 (fun x h => dst_ok x.1 x.2.1 x.2.2.1 h)
def ofF (p : PlanT) (up : List Bool) (root : Int) : Tup [DT.cell OrdE, DT.cell Ii] := ((distL p.2 up p.1.length root, ()), 0, ())
noncomputable abbrev Eo2 : Env Ab := ⟨tis, [(67, dstSpec.con), (20, validSpec.con)] ++ E0.con⟩
theorem eo2Ok : EnvOk Tryz.prog AI Eo2 := ((e0Ok.add valid_sound).add dst_sound)
def ofSpec : PureSpec := ⟨[.cell PlanE, .lst .bool, .cell Ii], fun (x : PlanT × (List Bool) × Int × Unit) => SmOk x.1 x.2.1 ∧ 0 ≤ x.2.2.1 ∧ x.2.2.1 < ((x.1).1.length : Int), [.cell OrdE, .cell Ii], fun (x : PlanT × (List Bool) × Int × Unit) => ofF x.1 x.2.1 x.2.2.1⟩
theorem of_ok (p : PlanT) (up : List Bool) (root : Int) (h : ofSpec.pre (p, up, root, ())) : TmplOk Tryz.prog AI 21 (argS ofSpec.ds (fun _ => (p, up, root, ()))) [] (resOf (svs ofSpec.rs (fun _ => ofSpec.f (p, up, root, ())))) [] := by
  dsimp only [ofSpec] at h ⊢
  generalize hr : ofF p up root = r
  obtain ⟨p1, p2⟩ := p; obtain ⟨hS, hr0, hr1⟩ := h; have hP := hS.pl; have hU := hS.up; have hok := hS.ok; dsimp only at hr0 hr1 hU
  dsimp only [ofF] at hr
  refine tmpl_of_body eo2Ok mixed (fn := Tryz.f21) (c := bodyOf Tryz.f21) (by kernel_rfl) (by kernel_rfl) (by kernel_rfl) (Nat.le_of_ble_eq_true (by kernel_rfl)) ?_
  refine Pr ?_
  (try (conv in (SS.mk _ _) => dsimp only [validSpec, dstSpec, validF, distF]))
  refine Nx ?_
  repeat' (first
    | with_reducible (first | refine Ck.au ?_ | refine Ck.all_cons ?_ | refine Ck.all_nil ?_ | refine Ck.mk ?_ ?_)
    | (with_reducible (first | refine Both.mk (fun h => ?_) (fun h => ?_) | refine Alt.mk (fun h => ?_) (fun h => ?_) | refine Pick.mk (fun h => ?_) (fun l1 x l2 h => ?_)) <;> (have hk := h) <;> (try replace h := nh h) <;> (try dsimp only [validSpec, dstSpec, validF, distF] at h) <;> (try simp only [natCast_eq] at h) <;> (try replace hr := hri hr) <;> (try (have hb : (_ : Bool) = _ := h; clear h; subst hb; (try replace hr := hri hr))) <;> first | exact Dd | refine Nx ?_)
    | ((with_reducible refine End.mk ?_); (try ((repeat (first | rw [ifP] at hr | rw [ifM] at hr | rw [if_pos rfl] at hr)); subst hr)))
    | with_reducible exact True.intro)
  all_goals first
    | (fail_if_success (with_reducible refine Exists.intro ?_ ?_)
       first
       | exact Cl1
       | (dsimp only [validSpec, dstSpec, validF, distF]; exact Cl1)
       | first | (dsimp only [validSpec, dstSpec]; simp only [pair_eta, map_idL]; first | exact hP | exact ⟨hS, hr0, hr1⟩) | (exfalso; exact h hok)
       | exact Cl2
       | (dsimp only [validSpec, dstSpec, validF, distF]; exact Cl2)
       | (dsimp only [validSpec, dstSpec, validF, distF] at *; exact Cl2))
    | skip
theorem of_sound : ConSound Tryz.prog AI 21 ofSpec.con := PureSpec.sound Tryz.call21 (fun x h => of_ok x.1 x.2.1 x.2.2.1 h)
end Go.Proofs.YtcaoldilmnpjoaaGreat
