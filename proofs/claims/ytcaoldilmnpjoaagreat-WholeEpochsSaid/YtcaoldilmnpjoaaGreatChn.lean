/-
  The top: channel.Channel, ends, leaving.
-/
import Derived.Test.YtcaoldilmnpjoaaGreatAbv
namespace Go.Proofs.YtcaoldilmnpjoaaGreat
set_option linter.all false
open Go.RowKit Go.Sx
set_option maxRecDepth 100000
set_option maxHeartbeats 16000000
def chanF (c d : Int) : Tup [DT.cell Ii] := (2 * c + d, ())
def chanSpec : PureSpec := ⟨[.cell Ii, .cell Ii], fun (x : Int × Int × Unit) => 0 ≤ x.1 ∧ x.1 < 32 ∧ 0 ≤ x.2.1 ∧ x.2.1 ≤ 1, [.cell Ii], fun (x : Int × Int × Unit) => chanF x.1 x.2.1⟩
theorem chan_ok (c : Int) (d : Int) (h : chanSpec.pre (c, d, ())) : TmplOk Tryz.prog AI 94 (argS chanSpec.ds (fun _ => (c, d, ()))) [] (resOf (svs chanSpec.rs (fun _ => chanSpec.f (c, d, ())))) [] := by
  dsimp only [chanSpec] at h ⊢
  generalize hr : chanF c d = r
  dsimp only [chanF] at hr
  refine tmpl_of_body e0Ok mixed (fn := Tryz.f94) (c := bodyOf Tryz.f94) (by kernel_rfl) (by kernel_rfl) (by kernel_rfl) (Nat.le_of_ble_eq_true (by kernel_rfl)) ?_
  refine Pr ?_
  refine Nx ?_
  repeat' (first
    | with_reducible (first | refine Ck.au ?_ | refine Ck.all_cons ?_ | refine Ck.all_nil ?_ | refine Ck.mk ?_ ?_)
    | (with_reducible (first | refine Both.mk (fun h => ?_) (fun h => ?_) | refine Alt.mk (fun h => ?_) (fun h => ?_) | refine Pick.mk (fun h => ?_) (fun l1 x l2 h => ?_)) <;> (have hk := h) <;> (try replace h := nh h) <;> (try replace hr := hri hr) <;> (try (have hb : (_ : Bool) = _ := h; clear h; subst hb; (try replace hr := hri hr))) <;> first | exact Dd | refine Nx ?_)
    | ((with_reducible refine End.mk ?_); (try ((repeat (first | rw [ifP] at hr | rw [ifM] at hr | rw [if_pos rfl] at hr)); subst hr)))
    | with_reducible exact True.intro)
  all_goals first
    | (fail_if_success (with_reducible refine Exists.intro ?_ ?_)
       first
       | exact Cl1
       | exact Cl2)
    | skip
theorem chan_sound : ConSound Tryz.prog AI 94 chanSpec.con := PureSpec.sound Tryz.call94 (fun x h => chan_ok x.1 x.2.1 h)
def endsF (p : PlanT) (c : Int) : Tup [DT.cell Ii, DT.cell Ii] :=
  if c % 2 = 0 then ((p.2.getD (c / 2).toNat z6).1, (p.2.getD (c / 2).toNat z6).2.2.1, ()) else ((p.2.getD (c / 2).toNat z6).2.2.1, (p.2.getD (c / 2).toNat z6).1, ())
def endsSpec : PureSpec := ⟨[.cell PlanE, .cell Ii], fun (x : PlanT × Int × Unit) => (x.1).2.length ≤ 32 ∧ 0 ≤ x.2.1 ∧ x.2.1 < 2 * ((x.1).2.length : Int), [.cell Ii, .cell Ii], fun (x : PlanT × Int × Unit) => endsF x.1 x.2.1⟩
theorem ends_ok (p : PlanT) (c : Int) (h : endsSpec.pre (p, c, ())) : TmplOk Tryz.prog AI 72 (argS endsSpec.ds (fun _ => (p, c, ()))) [] (resOf (svs endsSpec.rs (fun _ => endsSpec.f (p, c, ())))) [] := by
  dsimp only [endsSpec] at h ⊢
  generalize hr : endsF p c = r
  obtain ⟨p1, p2⟩ := p; obtain ⟨hc, h0, h1⟩ := h; dsimp only at hc h1
  dsimp only [endsF] at hr
  refine tmpl_of_body e0Ok mixed (fn := Tryz.f72) (c := bodyOf Tryz.f72) (by kernel_rfl) (by kernel_rfl) (by kernel_rfl) (Nat.le_of_ble_eq_true (by kernel_rfl)) ?_
  refine Pr ?_
  refine Nx ?_
  repeat' (first
    | with_reducible (first | refine Ck.au ?_ | refine Ck.all_cons ?_ | refine Ck.all_nil ?_ | refine Ck.mk ?_ ?_)
    | (with_reducible (first | refine Both.mk (fun h => ?_) (fun h => ?_) | refine Alt.mk (fun h => ?_) (fun h => ?_) | refine Pick.mk (fun h => ?_) (fun l1 x l2 h => ?_)) <;> (have hk := h) <;> (try replace h := nh h) <;> (try replace hr := hri hr) <;> (try (have hb : (_ : Bool) = _ := h; clear h; subst hb; (try replace hr := hri hr))) <;> first | exact Dd | refine Nx ?_)
    | ((with_reducible refine End.mk ?_); (try ((repeat (first | rw [ifP] at hr | rw [ifM] at hr | rw [if_pos rfl] at hr)); subst hr)))
    | with_reducible exact True.intro)
  all_goals first
    | (fail_if_success (with_reducible refine Exists.intro ?_ ?_)
       first
       | exact Cl1
       | exact Cl2)
    | skip
theorem ends_sound : ConSound Tryz.prog AI 72 endsSpec.con := PureSpec.sound Tryz.call72 (fun x h => ends_ok x.1 x.2.1 h)
def leavF (p : PlanT) (c n : Int) : Tup [DT.cell Ii] := if (p.2.getD c.toNat z6).1 = n then (2 * c + 0, ()) else (2 * c + 1, ())
noncomputable abbrev El1 : Env Ab := ⟨tis, [(94, chanSpec.con)] ++ E0.con⟩
theorem el1Ok : EnvOk Tryz.prog AI El1 := (e0Ok.add chan_sound)
def leavSpec : PureSpec := ⟨[.cell PlanE, .cell Ii, .cell Ii], fun (x : PlanT × Int × Int × Unit) => (x.1).2.length ≤ 32 ∧ 0 ≤ x.2.1 ∧ x.2.1 < ((x.1).2.length : Int), [.cell Ii], fun (x : PlanT × Int × Int × Unit) => leavF x.1 x.2.1 x.2.2.1⟩
theorem leav_ok (p : PlanT) (c : Int) (n : Int) (h : leavSpec.pre (p, c, n, ())) : TmplOk Tryz.prog AI 73 (argS leavSpec.ds (fun _ => (p, c, n, ()))) [] (resOf (svs leavSpec.rs (fun _ => leavSpec.f (p, c, n, ())))) [] := by
  dsimp only [leavSpec] at h ⊢
  generalize hr : leavF p c n = r
  obtain ⟨p1, p2⟩ := p; obtain ⟨hc, h0, h1⟩ := h; dsimp only at hc h1
  dsimp only [leavF] at hr
  refine tmpl_of_body el1Ok mixed (fn := Tryz.f73) (c := bodyOf Tryz.f73) (by kernel_rfl) (by kernel_rfl) (by kernel_rfl) (Nat.le_of_ble_eq_true (by kernel_rfl)) ?_
  refine Pr ?_
  (try (conv in (SS.mk _ _) => dsimp only [chanSpec, chanF]))
  refine Nx ?_
  repeat' (first
    | with_reducible (first | refine Ck.au ?_ | refine Ck.all_cons ?_ | refine Ck.all_nil ?_ | refine Ck.mk ?_ ?_)
    | (with_reducible (first | refine Both.mk (fun h => ?_) (fun h => ?_) | refine Alt.mk (fun h => ?_) (fun h => ?_) | refine Pick.mk (fun h => ?_) (fun l1 x l2 h => ?_)) <;> (have hk := h) <;> (try replace h := nh h) <;> (try dsimp only [chanSpec, chanF] at h) <;> (try simp only [natCast_eq] at h) <;> (try replace hr := hri hr) <;> (try (have hb : (_ : Bool) = _ := h; clear h; subst hb; (try replace hr := hri hr))) <;> first | exact Dd | refine Nx ?_)
    | ((with_reducible refine End.mk ?_); (try ((repeat (first | rw [ifP] at hr | rw [ifM] at hr | rw [if_pos rfl] at hr)); subst hr)))
    | with_reducible exact True.intro)
  all_goals first
    | (fail_if_success (with_reducible refine Exists.intro ?_ ?_)
       first
       | exact Cl1
       | (dsimp only [chanSpec, chanF]; exact Cl1)
       | exact Cl2
       | (dsimp only [chanSpec, chanF]; exact Cl2)
       | (dsimp only [chanSpec, chanF] at *; exact Cl2))
    | skip
theorem leav_sound : ConSound Tryz.prog AI 73 leavSpec.con := PureSpec.sound Tryz.call73 (fun x h => leav_ok x.1 x.2.1 x.2.2.1 h)
end Go.Proofs.YtcaoldilmnpjoaaGreat
