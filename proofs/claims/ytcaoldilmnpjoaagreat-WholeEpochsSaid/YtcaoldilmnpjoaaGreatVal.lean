/-
  The top: plans of networks: which are valid.
-/
import Derived.Test.YtcaoldilmnpjoaaGreatTab
import Derived.Test.YtcaoldilmnpjoaaGreatVln
import Derived.Test.YtcaoldilmnpjoaaGreatEng3
namespace Go.Proofs.YtcaoldilmnpjoaaGreat
set_option linter.all false
open Go.RowKit Go.Sx
set_option maxRecDepth 100000
set_option maxHeartbeats 16000000
def vnmF (l : List Int) : Bool := validB ⟨(u8s l).toArray⟩
theorem vnm_sound : ConSound Tryz.prog AI 106 (strBoolCon vnmF) := strBool_sound Tryz.call106 fun l w => valid_any _ w
abbrev Ii : Ty := .int .i64
abbrev NodeE : Ty := .pair .str (.pair .bool Ii)
abbrev CabE : Ty := .pair Ii (.pair Ii (.pair Ii (.pair Ii (.pair Ii Ii))))
abbrev PlanE : Ty := .pair (.lst NodeE) (.lst CabE)
abbrev NodeT := List Int × Bool × Int
abbrev CabT := Int × Int × Int × Int × Int × Int
abbrev PlanT := List NodeT × List CabT
abbrev z6 : CabT := (0, 0, 0, 0, 0, 0)
abbrev zN : NodeT := ([], false, 0)
def vndF (n : NodeT) : Tup [DT.cell .bool] :=
  if vnmF n.1 = true then
    (if n.2.1 = true then (if 1 ≤ n.2.2 then (decide (n.2.2 ≤ 8), ()) else (false, ())) else (decide (n.2.2 = 1), ()))
  else (false, ())
noncomputable abbrev Ev1 : Env Ab := ⟨tis, [(106, strBoolCon vnmF)] ++ E0.con⟩
theorem ev1Ok : EnvOk Tryz.prog AI Ev1 := (e0Ok.add vnm_sound)
def vndSpec : PureSpec := ⟨[.cell NodeE], fun (x : NodeT × Unit) => inBytes (x.1).1, [.cell .bool], fun (x : NodeT × Unit) => vndF x.1⟩
theorem vnd_ok (n : NodeT) (h : vndSpec.pre (n, ())) : TmplOk Tryz.prog AI 64 (argS vndSpec.ds (fun _ => (n, ()))) [] (resOf (svs vndSpec.rs (fun _ => vndSpec.f (n, ())))) [] := by
  dsimp only [vndSpec] at h ⊢
  generalize hr : vndF n = r
  obtain ⟨n1, n2, n3⟩ := n
  dsimp only [vndF] at hr
  refine tmpl_of_body ev1Ok mixed (fn := Tryz.f64) (c := bodyOf Tryz.f64) (by kernel_rfl) (by kernel_rfl) (by kernel_rfl) (Nat.le_of_ble_eq_true (by kernel_rfl)) ?_
  refine Pr ?_
  refine Nx ?_
  repeat' (first
    | with_reducible (first | refine Ck.au ?_ | refine Ck.all_cons ?_ | refine Ck.all_nil ?_ | refine Ck.mk ?_ ?_)
    | (with_reducible (first | refine Both.mk (fun h => ?_) (fun h => ?_) | refine Alt.mk (fun h => ?_) (fun h => ?_) | refine Pick.mk (fun h => ?_) (fun l1 x l2 h => ?_)) <;> (have hk := h) <;> (try replace h := nh h) <;> (try replace hr := hri hr) <;> (try (have hb : (_ : Bool) = _ := h; clear h; subst hb; (try replace hr := hri hr))) <;> first | exact Dd | refine Nx ?_)
    | ((with_reducible refine End.mk ?_); (try ((repeat (first | rw [ifP] at hr | rw [ifM] at hr | rw [if_pos rfl] at hr)); subst hr)))
    | with_reducible exact True.intro)
  all_goals first
    | (fail_if_success (with_reducible refine Exists.intro ?_ ?_)
       first
       | exact Cl1
       | exact Cl2)
    | skip
theorem vnd_sound : ConSound Tryz.prog AI 64 vndSpec.con := PureSpec.sound Tryz.call64 (fun x h => vnd_ok x.1 h)
abbrev portsAt (N : List NodeT) (k : Int) : Int := (N.getD k.toNat zN).2.2
def hpF (p : PlanT) (node port : Int) : Tup [DT.cell .bool] :=
  if 0 ≤ node then (if node < (p.1.length : Int) then (if 0 ≤ port then (decide (port < portsAt p.1 node), ()) else (false, ())) else (false, ())) else (false, ())
def hpSpec : PureSpec := ⟨[.cell PlanE, .cell Ii, .cell Ii], fun (x : PlanT × Int × Int × Unit) => (x.1).1.length ≤ 16, [.cell .bool], fun (x : PlanT × Int × Int × Unit) => hpF x.1 x.2.1 x.2.2.1⟩
theorem hp_ok (p : PlanT) (node : Int) (port : Int) (h : hpSpec.pre (p, node, port, ())) : TmplOk Tryz.prog AI 65 (argS hpSpec.ds (fun _ => (p, node, port, ()))) [] (resOf (svs hpSpec.rs (fun _ => hpSpec.f (p, node, port, ())))) [] := by
  dsimp only [hpSpec] at h ⊢
  generalize hr : hpF p node port = r
  obtain ⟨p1, p2⟩ := p
  dsimp only [hpF] at hr
  refine tmpl_of_body e0Ok mixed (fn := Tryz.f65) (c := bodyOf Tryz.f65) (by kernel_rfl) (by kernel_rfl) (by kernel_rfl) (Nat.le_of_ble_eq_true (by kernel_rfl)) ?_
  refine Pr ?_
  refine Nx ?_
  repeat' (first
    | with_reducible (first | refine Ck.au ?_ | refine Ck.all_cons ?_ | refine Ck.all_nil ?_ | refine Ck.mk ?_ ?_)
    | (with_reducible (first | refine Both.mk (fun h => ?_) (fun h => ?_) | refine Alt.mk (fun h => ?_) (fun h => ?_) | refine Pick.mk (fun h => ?_) (fun l1 x l2 h => ?_)) <;> (have hk := h) <;> (try replace h := nh h) <;> (try replace hr := hri hr) <;> (try (have hb : (_ : Bool) = _ := h; clear h; subst hb; (try replace hr := hri hr))) <;> first | exact Dd | refine Nx ?_)
    | ((with_reducible refine End.mk ?_); (try ((repeat (first | rw [ifP] at hr | rw [ifM] at hr | rw [if_pos rfl] at hr)); subst hr)))
    | with_reducible exact True.intro)
  all_goals first
    | (fail_if_success (with_reducible refine Exists.intro ?_ ?_)
       first
       | exact Cl1
       | exact Cl2)
    | skip
theorem hp_sound : ConSound Tryz.prog AI 65 hpSpec.con := PureSpec.sound Tryz.call65 (fun x h => hp_ok x.1 x.2.1 x.2.2.1 h)
end Go.Proofs.YtcaoldilmnpjoaaGreat
