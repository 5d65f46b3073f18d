/-
  The top: small, depsOf.
-/
import Derived.Test.YtcaoldilmnpjoaaGreatDps
import Derived.Test.YtcaoldilmnpjoaaGreatRmk
namespace Go.Proofs.YtcaoldilmnpjoaaGreat
set_option linter.all false
open Go.RowKit Go.Sx
set_option maxRecDepth 100000
set_option maxHeartbeats 16000000
structure PlIn (p : PlanT) : Prop where
  nm : ∀ n ∈ p.1, inBytes n.1
  cb : ∀ c ∈ p.2, CabE.keyIn c
def smlF (p : PlanT) (up : List Bool) : Tup [DT.cell .bool] :=
  if (p.1.length : Int) ≤ 8 then (if (p.2.length : Int) ≤ 12 then (if (up.length : Int) = (p.2.length : Int) then (if (0 : Int) < (p.1.length : Int) then (decide (validI p = 0), ()) else (false, ())) else (false, ())) else (false, ())) else (false, ())
noncomputable abbrev Ez1 : Env Ab := ⟨tis, [(20, validSpec.con)] ++ E0.con⟩
theorem ez1Ok : EnvOk Tryz.prog AI Ez1 := (e0Ok.add valid_sound)
def smlSpec : PureSpec := ⟨[.cell PlanE, .lst .bool], fun (x : PlanT × (List Bool) × Unit) => PlIn x.1, [.cell .bool], fun (x : PlanT × (List Bool) × Unit) => smlF x.1 x.2.1⟩
theorem sml_ok (p : PlanT) (up : List Bool) (h : smlSpec.pre (p, up, ())) : TmplOk Tryz.prog AI 6 (argS smlSpec.ds (fun _ => (p, up, ()))) [] (resOf (svs smlSpec.rs (fun _ => smlSpec.f (p, up, ())))) [] := by
  dsimp only [smlSpec] at h ⊢
  generalize hr : smlF p up = r
  obtain ⟨p1, p2⟩ := p; have hP : p1.length ≤ 16 → p2.length ≤ 32 → PlOk (p1, p2) := fun h1 h2 => ⟨h1, h2, h.nm, h.cb⟩
  dsimp only [smlF] at hr
  refine tmpl_of_body ez1Ok mixed (fn := Tryz.f6) (c := bodyOf Tryz.f6) (by kernel_rfl) (by kernel_rfl) (by kernel_rfl) (Nat.le_of_ble_eq_true (by kernel_rfl)) ?_
  refine Pr ?_
  (try (conv in (SS.mk _ _) => dsimp only [validSpec, validF]))
  refine Nx ?_
  repeat' (first
    | with_reducible (first | refine Ck.au ?_ | refine Ck.all_cons ?_ | refine Ck.all_nil ?_ | refine Ck.mk ?_ ?_)
    | (with_reducible (first | refine Both.mk (fun h => ?_) (fun h => ?_) | refine Alt.mk (fun h => ?_) (fun h => ?_) | refine Pick.mk (fun h => ?_) (fun l1 x l2 h => ?_)) <;> (have hk := h) <;> (try replace h := nh h) <;> (try dsimp only [validSpec, validF] at h) <;> (try simp only [natCast_eq] at h) <;> (try replace hr := hri hr) <;> (try (have hb : (_ : Bool) = _ := h; clear h; subst hb; (try replace hr := hri hr))) <;> first | exact Dd | refine Nx ?_)
    | ((with_reducible refine End.mk ?_); (try ((repeat (first | rw [ifP] at hr | rw [ifM] at hr | rw [if_pos rfl] at hr)); subst hr)))
    | with_reducible exact True.intro)
  all_goals first
    | (fail_if_success (with_reducible refine Exists.intro ?_ ?_)
       first
       | exact Cl1
       | (dsimp only [validSpec, validF]; exact Cl1)
       | first | exact hP (by omega) (by omega) | (dsimp only; simp only [pair_eta, map_idL]; exact hP (by omega) (by omega))
       | exact Cl2
       | (dsimp only [validSpec, validF]; exact Cl2)
       | (dsimp only [validSpec, validF] at *; exact Cl2))
    | skip
theorem sml_sound : ConSound Tryz.prog AI 6 smlSpec.con := PureSpec.sound Tryz.call6 (fun x h => sml_ok x.1 x.2.1 h)
theorem SmOk.lv {p : PlanT} {up : List Bool} (h : SmOk p up) {root : Int} (h0 : 0 ≤ root) (h1 : root < (p.1.length : Int)) : LvP p (distL p.2 up p.1.length root, ()) := ⟨h.pl, h.ok, distL_ok (valid_ends h.ok) h0 h1⟩
def dpo (p : PlanT) (up : List Bool) (root : Int) : List DepT := depsL p (distL p.2 up p.1.length root, ()) (tabL (entF p (distL p.2 up p.1.length root, ()) up) p.1.length, ())
def dpoF (p : PlanT) (up : List Bool) (root : Int) : Tup [DT.lst DepE, DT.cell OrdE, DT.cell .bool] := (dpo p up root, (distL p.2 up p.1.length root, ()), true, ())
theorem SmOk.dp {p : PlanT} {up : List Bool} (h : SmOk p up) {root : Int} (h0 : 0 ≤ root) (h1 : root < (p.1.length : Int)) : DpP p (distL p.2 up p.1.length root, ()) (tabL (entF p (distL p.2 up p.1.length root, ()) up) p.1.length, ()) := ⟨h.lv h0 h1, tab_ok p _ up⟩
noncomputable abbrev Ez2 : Env Ab := ⟨tis, [(23, dpsSpec.con), (22, makSpec.con), (21, ofSpec.con)] ++ E0.con⟩
theorem ez2Ok : EnvOk Tryz.prog AI Ez2 := (((e0Ok.add of_sound).add mak_sound).add dps_sound)
def dpoSpec : PureSpec := ⟨[.cell PlanE, .lst .bool, .cell Ii], fun (x : PlanT × (List Bool) × Int × Unit) => SmOk x.1 x.2.1 ∧ 0 ≤ x.2.2.1 ∧ x.2.2.1 < ((x.1).1.length : Int), [.lst DepE, .cell OrdE, .cell .bool], fun (x : PlanT × (List Bool) × Int × Unit) => dpoF x.1 x.2.1 x.2.2.1⟩
theorem dpo_ok (p : PlanT) (up : List Bool) (root : Int) (h : dpoSpec.pre (p, up, root, ())) : TmplOk Tryz.prog AI 7 (argS dpoSpec.ds (fun _ => (p, up, root, ()))) [] (resOf (svs dpoSpec.rs (fun _ => dpoSpec.f (p, up, root, ())))) [] := by
  dsimp only [dpoSpec] at h ⊢
  generalize hr : dpoF p up root = r
  obtain ⟨p1, p2⟩ := p; obtain ⟨hS, h0, h1⟩ := h; have hL := hS.lv h0 h1; have hD := hS.dp h0 h1; have hU : LvU (p1, p2) (distL p2 up p1.length root, ()) up := ⟨hL, hS.up⟩; dsimp only at h1 hL hD
  dsimp only [dpoF] at hr
  refine tmpl_of_body ez2Ok mixed (fn := Tryz.f7) (c := bodyOf Tryz.f7) (by kernel_rfl) (by kernel_rfl) (by kernel_rfl) (Nat.le_of_ble_eq_true (by kernel_rfl)) ?_
  refine Pr ?_
  (try (conv in (SS.mk _ _) => dsimp only [ofSpec, ofF, makSpec, makF, dpsSpec, depsF]))
  refine Nx ?_
  repeat' (first
    | with_reducible (first | refine Ck.au ?_ | refine Ck.all_cons ?_ | refine Ck.all_nil ?_ | refine Ck.mk ?_ ?_)
    | (with_reducible (first | refine Both.mk (fun h => ?_) (fun h => ?_) | refine Alt.mk (fun h => ?_) (fun h => ?_) | refine Pick.mk (fun h => ?_) (fun l1 x l2 h => ?_)) <;> (have hk := h) <;> (try replace h := nh h) <;> (try dsimp only [ofSpec, ofF, makSpec, makF, dpsSpec, depsF] at h) <;> (try simp only [natCast_eq] at h) <;> (try replace hr := hri hr) <;> (try (have hb : (_ : Bool) = _ := h; clear h; subst hb; (try replace hr := hri hr))) <;> first | exact Dd | refine Nx ?_)
    | ((with_reducible refine End.mk ?_); (try ((repeat (first | rw [ifP] at hr | rw [ifM] at hr | rw [if_pos rfl] at hr)); subst hr)))
    | with_reducible exact True.intro)
  all_goals first
    | (fail_if_success (with_reducible refine Exists.intro ?_ ?_)
       first
       | exact Cl1
       | (dsimp only [ofSpec, ofF, makSpec, makF, dpsSpec, depsF]; exact Cl1)
       | first | (dsimp only; simp only [pair_eta, map_idL]; first | exact ⟨hS, h0, h1⟩ | exact hU | exact hD)
       | exact Cl2
       | (dsimp only [ofSpec, ofF, makSpec, makF, dpsSpec, depsF]; exact Cl2)
       | (dsimp only [ofSpec, ofF, makSpec, makF, dpsSpec, depsF] at *; exact Cl2))
    | skip
  dsimp only
  simp only [pair_eta, map_idL]
  rfl
theorem dpo_sound : ConSound Tryz.prog AI 7 dpoSpec.con := PureSpec.sound Tryz.call7 (fun x h => dpo_ok x.1 x.2.1 x.2.2.1 h)
end Go.Proofs.YtcaoldilmnpjoaaGreat
