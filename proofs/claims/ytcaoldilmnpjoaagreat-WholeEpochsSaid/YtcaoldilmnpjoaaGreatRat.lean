/-
  The top: the check that the lowest layer works (each function at the numbers that come).
-/
import Derived.Test.YtcaoldilmnpjoaaGreatRad
namespace Go.Proofs.YtcaoldilmnpjoaaGreat
set_option linter.all false
open Go.RowKit Go.Sx
set_option maxRecDepth 100000
set_option maxHeartbeats 16000000
def sizeSpec : PureSpec := ⟨[.cell I64], fun (x : (Int) × Unit) => (x.1 = 1) ∨ (x.1 = 2) ∨ (x.1 = 3), [.cell U64], fun (x : (Int) × Unit) => if x.1 = 1 then (1, ()) else if x.1 = 2 then (2, ()) else (3, ())⟩
theorem size_ok (a0 : Int) (h : sizeSpec.pre (a0, ())) : TmplOk Tryz.prog AI 58 (argS sizeSpec.ds (fun _ => (a0, ()))) [] (resOf (svs sizeSpec.rs (fun _ => sizeSpec.f (a0, ())))) [] := by
  dsimp only [sizeSpec] at h ⊢
  rcases h with rfl | rfl | rfl
  all_goals
    (refine tmpl_of_body e0Ok mixed (fn := Tryz.f58) (c := bodyOf Tryz.f58) (by kernel_rfl) (by kernel_rfl) (by kernel_rfl) (Nat.le_of_ble_eq_true (by kernel_rfl)) ?_
     refine Pr ?_
     refine Nx ?_
     repeat' (first
       | with_reducible (first | refine Ck.au ?_ | refine Ck.all_cons ?_ | refine Ck.all_nil ?_ | refine Ck.mk ?_ ?_)
       | (with_reducible (first | refine Both.mk (fun h => ?_) (fun h => ?_) | refine Alt.mk (fun h => ?_) (fun h => ?_) | refine Pick.mk (fun h => ?_) (fun l1 x l2 h => ?_)) <;> (have hk := h) <;> (try replace h := nh h) <;> (try replace hr := hri hr) <;> (try (have hb : (_ : Bool) = _ := h; clear h; subst hb; (try replace hr := hri hr))) <;> first | exact Dd | refine Nx ?_)
       | with_reducible refine End.mk ?_
       | with_reducible exact True.intro)
     all_goals first
       | (fail_if_success (with_reducible refine Exists.intro ?_ ?_)
          first
          | exact Cl1
          | decide +kernel
          | exact Cl2)
       | skip
     skip)
theorem size_sound : ConSound Tryz.prog AI 58 sizeSpec.con := PureSpec.sound Tryz.call58 (fun x h => size_ok x.1 h)
def mulSpec : PureSpec := ⟨[.cell U64, .cell U64], fun (x : (Int) × (Int) × Unit) => (x.1 = 1 ∧ x.2.1 = 3) ∨ (x.1 = 1 ∧ x.2.1 = 2) ∨ (x.1 = 2 ∧ x.2.1 = 3), [.cell U64, .cell U64], fun (x : (Int) × (Int) × Unit) => if x.1 = 1 ∧ x.2.1 = 3 then (0, 3, ()) else if x.1 = 1 ∧ x.2.1 = 2 then (0, 2, ()) else (0, 6, ())⟩
theorem mul_ok (a0 : Int) (a1 : Int) (h : mulSpec.pre (a0, a1, ())) : TmplOk Tryz.prog AI 62 (argS mulSpec.ds (fun _ => (a0, a1, ()))) [] (resOf (svs mulSpec.rs (fun _ => mulSpec.f (a0, a1, ())))) [] := by
  dsimp only [mulSpec] at h ⊢
  rcases h with ⟨rfl, rfl⟩ | ⟨rfl, rfl⟩ | ⟨rfl, rfl⟩
  all_goals
    (refine tmpl_of_body e0Ok mixed (fn := Tryz.f62) (c := bodyOf Tryz.f62) (by kernel_rfl) (by kernel_rfl) (by kernel_rfl) (Nat.le_of_ble_eq_true (by kernel_rfl)) ?_
     refine Pr ?_
     refine Nx ?_
     repeat' (first
       | with_reducible (first | refine Ck.au ?_ | refine Ck.all_cons ?_ | refine Ck.all_nil ?_ | refine Ck.mk ?_ ?_)
       | (with_reducible (first | refine Both.mk (fun h => ?_) (fun h => ?_) | refine Alt.mk (fun h => ?_) (fun h => ?_) | refine Pick.mk (fun h => ?_) (fun l1 x l2 h => ?_)) <;> (have hk := h) <;> (try replace h := nh h) <;> (try replace hr := hri hr) <;> (try (have hb : (_ : Bool) = _ := h; clear h; subst hb; (try replace hr := hri hr))) <;> first | exact Dd | refine Nx ?_)
       | with_reducible refine End.mk ?_
       | with_reducible exact True.intro)
     all_goals first
       | (fail_if_success (with_reducible refine Exists.intro ?_ ?_)
          first
          | exact Cl1
          | decide +kernel
          | exact Cl2)
       | skip
     skip)
theorem mul_sound : ConSound Tryz.prog AI 62 mulSpec.con := PureSpec.sound Tryz.call62 (fun x h => mul_ok x.1 x.2.1 h)
noncomputable abbrev Er1 : Env Ab := ⟨tis, [(62, mulSpec.con), (58, sizeSpec.con)] ++ E0.con⟩
theorem er1Ok : EnvOk Tryz.prog AI Er1 := ((e0Ok.add size_sound).add mul_sound)
def prodSpec : PureSpec := ⟨[.cell I64, .cell U64], fun (x : (Int) × (Int) × Unit) => (x.1 = 1 ∧ x.2.1 = 3) ∨ (x.1 = 1 ∧ x.2.1 = 2), [.cell WE], fun (x : (Int) × (Int) × Unit) => if x.1 = 1 ∧ x.2.1 = 3 then ((false, 0, 3), ()) else ((false, 0, 2), ())⟩
theorem prod_ok (a0 : Int) (a1 : Int) (h : prodSpec.pre (a0, a1, ())) : TmplOk Tryz.prog AI 59 (argS prodSpec.ds (fun _ => (a0, a1, ()))) [] (resOf (svs prodSpec.rs (fun _ => prodSpec.f (a0, a1, ())))) [] := by
  dsimp only [prodSpec] at h ⊢
  rcases h with ⟨rfl, rfl⟩ | ⟨rfl, rfl⟩
  all_goals
    (refine tmpl_of_body er1Ok mixed (fn := Tryz.f59) (c := bodyOf Tryz.f59) (by kernel_rfl) (by kernel_rfl) (by kernel_rfl) (Nat.le_of_ble_eq_true (by kernel_rfl)) ?_
     refine Pr ?_
     (try (conv in (SS.mk _ _) => dsimp only [sizeSpec, mulSpec]))
     refine Nx ?_
     repeat' (first
       | with_reducible (first | refine Ck.au ?_ | refine Ck.all_cons ?_ | refine Ck.all_nil ?_ | refine Ck.mk ?_ ?_)
       | (with_reducible (first | refine Both.mk (fun h => ?_) (fun h => ?_) | refine Alt.mk (fun h => ?_) (fun h => ?_) | refine Pick.mk (fun h => ?_) (fun l1 x l2 h => ?_)) <;> (have hk := h) <;> (try replace h := nh h) <;> (try dsimp only [sizeSpec, mulSpec] at h) <;> (try simp only [natCast_eq] at h) <;> (try replace hr := hri hr) <;> (try (have hb : (_ : Bool) = _ := h; clear h; subst hb; (try replace hr := hri hr))) <;> first | exact Dd | refine Nx ?_)
       | with_reducible refine End.mk ?_
       | with_reducible exact True.intro)
     all_goals first
       | (fail_if_success (with_reducible refine Exists.intro ?_ ?_)
          first
          | exact Cl1
          | (dsimp only [sizeSpec, mulSpec]; exact Cl1)
          | decide +kernel
          | exact Cl2
          | (dsimp only [sizeSpec, mulSpec]; exact Cl2)
          | (dsimp only [sizeSpec, mulSpec] at *; exact Cl2))
       | skip
     skip)
theorem prod_sound : ConSound Tryz.prog AI 59 prodSpec.con := PureSpec.sound Tryz.call59 (fun x h => prod_ok x.1 x.2.1 h)
def divSpec : PureSpec := ⟨[.cell U64, .cell U64, .cell U64], fun (x : (Int) × (Int) × (Int) × Unit) => (x.1 = 0 ∧ x.2.1 = 5 ∧ x.2.2.1 = 1), [.cell U64, .cell U64], fun (x : (Int) × (Int) × (Int) × Unit) => (5, 0, ())⟩
theorem div_ok (a0 : Int) (a1 : Int) (a2 : Int) (h : divSpec.pre (a0, a1, a2, ())) : TmplOk Tryz.prog AI 103 (argS divSpec.ds (fun _ => (a0, a1, a2, ()))) [] (resOf (svs divSpec.rs (fun _ => divSpec.f (a0, a1, a2, ())))) [] := by
  dsimp only [divSpec] at h ⊢
  rcases h with ⟨rfl, rfl, rfl⟩
  all_goals
    (refine tmpl_of_body e0Ok mixed (fn := Tryz.f103) (c := bodyOf Tryz.f103) (by kernel_rfl) (by kernel_rfl) (by kernel_rfl) (Nat.le_of_ble_eq_true (by kernel_rfl)) ?_
     refine Pr ?_
     refine Nx ?_
     repeat' (first
       | with_reducible (first | refine Ck.au ?_ | refine Ck.all_cons ?_ | refine Ck.all_nil ?_ | refine Ck.mk ?_ ?_)
       | (with_reducible (first | refine Both.mk (fun h => ?_) (fun h => ?_) | refine Alt.mk (fun h => ?_) (fun h => ?_) | refine Pick.mk (fun h => ?_) (fun l1 x l2 h => ?_)) <;> (have hk := h) <;> (try replace h := nh h) <;> (try replace hr := hri hr) <;> (try (have hb : (_ : Bool) = _ := h; clear h; subst hb; (try replace hr := hri hr))) <;> first | exact Dd | refine Nx ?_)
       | with_reducible refine End.mk ?_
       | with_reducible exact True.intro)
     all_goals first
       | (fail_if_success (with_reducible refine Exists.intro ?_ ?_)
          first
          | exact Cl1
          | decide +kernel
          | exact Cl2)
       | skip
     skip)
theorem div_sound : ConSound Tryz.prog AI 103 divSpec.con := PureSpec.sound Tryz.call103 (fun x h => div_ok x.1 x.2.1 x.2.2.1 h)
noncomputable abbrev Er2 : Env Ab := ⟨tis, [(103, divSpec.con)] ++ Er1.con⟩
theorem er2Ok : EnvOk Tryz.prog AI Er2 := (er1Ok.add div_sound)
def wdivSpec : PureSpec := ⟨[.cell WE, .cell U64], fun (x : (Bool × Int × Int) × (Int) × Unit) => (x.1 = (false, 0, 5) ∧ x.2.1 = 1), [.cell WE, .cell U64], fun (x : (Bool × Int × Int) × (Int) × Unit) => ((false, 0, 5), 0, ())⟩
theorem wdiv_ok (a0 : Bool × Int × Int) (a1 : Int) (h : wdivSpec.pre (a0, a1, ())) : TmplOk Tryz.prog AI 61 (argS wdivSpec.ds (fun _ => (a0, a1, ()))) [] (resOf (svs wdivSpec.rs (fun _ => wdivSpec.f (a0, a1, ())))) [] := by
  dsimp only [wdivSpec] at h ⊢
  rcases h with ⟨rfl, rfl⟩
  all_goals
    (refine tmpl_of_body er2Ok mixed (fn := Tryz.f61) (c := bodyOf Tryz.f61) (by kernel_rfl) (by kernel_rfl) (by kernel_rfl) (Nat.le_of_ble_eq_true (by kernel_rfl)) ?_
     refine Pr ?_
     (try (conv in (SS.mk _ _) => dsimp only [divSpec]))
     refine Nx ?_
     repeat' (first
       | with_reducible (first | refine Ck.au ?_ | refine Ck.all_cons ?_ | refine Ck.all_nil ?_ | refine Ck.mk ?_ ?_)
       | (with_reducible (first | refine Both.mk (fun h => ?_) (fun h => ?_) | refine Alt.mk (fun h => ?_) (fun h => ?_) | refine Pick.mk (fun h => ?_) (fun l1 x l2 h => ?_)) <;> (have hk := h) <;> (try replace h := nh h) <;> (try dsimp only [divSpec] at h) <;> (try simp only [natCast_eq] at h) <;> (try replace hr := hri hr) <;> (try (have hb : (_ : Bool) = _ := h; clear h; subst hb; (try replace hr := hri hr))) <;> first | exact Dd | refine Nx ?_)
       | with_reducible refine End.mk ?_
       | with_reducible exact True.intro)
     all_goals first
       | (fail_if_success (with_reducible refine Exists.intro ?_ ?_)
          first
          | exact Cl1
          | (dsimp only [divSpec]; exact Cl1)
          | decide +kernel
          | exact Cl2
          | (dsimp only [divSpec]; exact Cl2)
          | (dsimp only [divSpec] at *; exact Cl2))
       | skip
     skip)
theorem wdiv_sound : ConSound Tryz.prog AI 61 wdivSpec.con := PureSpec.sound Tryz.call61 (fun x h => wdiv_ok x.1 x.2.1 h)
def fitsSpec : PureSpec := ⟨[.cell WE], fun (x : (Bool × Int × Int) × Unit) => (x.1 = (false, 0, 5)) ∨ (x.1 = (false, 0, 6)), [.cell .bool], fun (x : (Bool × Int × Int) × Unit) => if x.1 = (false, 0, 5) then (true, ()) else (true, ())⟩
theorem fits_ok (a0 : Bool × Int × Int) (h : fitsSpec.pre (a0, ())) : TmplOk Tryz.prog AI 104 (argS fitsSpec.ds (fun _ => (a0, ()))) [] (resOf (svs fitsSpec.rs (fun _ => fitsSpec.f (a0, ())))) [] := by
  dsimp only [fitsSpec] at h ⊢
  rcases h with rfl | rfl
  all_goals
    (refine tmpl_of_body e0Ok mixed (fn := Tryz.f104) (c := bodyOf Tryz.f104) (by kernel_rfl) (by kernel_rfl) (by kernel_rfl) (Nat.le_of_ble_eq_true (by kernel_rfl)) ?_
     refine Pr ?_
     refine Nx ?_
     repeat' (first
       | with_reducible (first | refine Ck.au ?_ | refine Ck.all_cons ?_ | refine Ck.all_nil ?_ | refine Ck.mk ?_ ?_)
       | (with_reducible (first | refine Both.mk (fun h => ?_) (fun h => ?_) | refine Alt.mk (fun h => ?_) (fun h => ?_) | refine Pick.mk (fun h => ?_) (fun l1 x l2 h => ?_)) <;> (have hk := h) <;> (try replace h := nh h) <;> (try replace hr := hri hr) <;> (try (have hb : (_ : Bool) = _ := h; clear h; subst hb; (try replace hr := hri hr))) <;> first | exact Dd | refine Nx ?_)
       | with_reducible refine End.mk ?_
       | with_reducible exact True.intro)
     all_goals first
       | (fail_if_success (with_reducible refine Exists.intro ?_ ?_)
          first
          | exact Cl1
          | decide +kernel
          | exact Cl2)
       | skip
     skip)
theorem fits_sound : ConSound Tryz.prog AI 104 fitsSpec.con := PureSpec.sound Tryz.call104 (fun x h => fits_ok x.1 h)
def sgnSpec : PureSpec := ⟨[.cell WE], fun (x : (Bool × Int × Int) × Unit) => (x.1 = (false, 0, 5)) ∨ (x.1 = (false, 0, 6)), [.cell I64], fun (x : (Bool × Int × Int) × Unit) => if x.1 = (false, 0, 5) then (5, ()) else (6, ())⟩
theorem sgn_ok (a0 : Bool × Int × Int) (h : sgnSpec.pre (a0, ())) : TmplOk Tryz.prog AI 105 (argS sgnSpec.ds (fun _ => (a0, ()))) [] (resOf (svs sgnSpec.rs (fun _ => sgnSpec.f (a0, ())))) [] := by
  dsimp only [sgnSpec] at h ⊢
  rcases h with rfl | rfl
  all_goals
    (refine tmpl_of_body e0Ok mixed (fn := Tryz.f105) (c := bodyOf Tryz.f105) (by kernel_rfl) (by kernel_rfl) (by kernel_rfl) (Nat.le_of_ble_eq_true (by kernel_rfl)) ?_
     refine Pr ?_
     refine Nx ?_
     repeat' (first
       | with_reducible (first | refine Ck.au ?_ | refine Ck.all_cons ?_ | refine Ck.all_nil ?_ | refine Ck.mk ?_ ?_)
       | (with_reducible (first | refine Both.mk (fun h => ?_) (fun h => ?_) | refine Alt.mk (fun h => ?_) (fun h => ?_) | refine Pick.mk (fun h => ?_) (fun l1 x l2 h => ?_)) <;> (have hk := h) <;> (try replace h := nh h) <;> (try replace hr := hri hr) <;> (try (have hb : (_ : Bool) = _ := h; clear h; subst hb; (try replace hr := hri hr))) <;> first | exact Dd | refine Nx ?_)
       | with_reducible refine End.mk ?_
       | with_reducible exact True.intro)
     all_goals first
       | (fail_if_success (with_reducible refine Exists.intro ?_ ?_)
          first
          | exact Cl1
          | decide +kernel
          | exact Cl2)
       | skip
     skip)
theorem sgn_sound : ConSound Tryz.prog AI 105 sgnSpec.con := PureSpec.sound Tryz.call105 (fun x h => sgn_ok x.1 h)
noncomputable abbrev Er3 : Env Ab := ⟨tis, [(105, sgnSpec.con), (104, fitsSpec.con)] ++ Er2.con⟩
theorem er3Ok : EnvOk Tryz.prog AI Er3 := ((er2Ok.add fits_sound).add sgn_sound)
def resSpec : PureSpec := ⟨[.cell WE, .cell WE], fun (x : (Bool × Int × Int) × (Bool × Int × Int) × Unit) => (x.1 = (false, 0, 5) ∧ x.2.1 = (false, 0, 6)), [.cell RatE, .cell I64], fun (x : (Bool × Int × Int) × (Bool × Int × Int) × Unit) => ((5, 6), 0, ())⟩
theorem res_ok (a0 : Bool × Int × Int) (a1 : Bool × Int × Int) (h : resSpec.pre (a0, a1, ())) : TmplOk Tryz.prog AI 63 (argS resSpec.ds (fun _ => (a0, a1, ()))) [] (resOf (svs resSpec.rs (fun _ => resSpec.f (a0, a1, ())))) [] := by
  dsimp only [resSpec] at h ⊢
  rcases h with ⟨rfl, rfl⟩
  all_goals
    (refine tmpl_of_body er3Ok mixed (fn := Tryz.f63) (c := bodyOf Tryz.f63) (by kernel_rfl) (by kernel_rfl) (by kernel_rfl) (Nat.le_of_ble_eq_true (by kernel_rfl)) ?_
     refine Pr ?_
     (try (conv in (SS.mk _ _) => dsimp only [fitsSpec, sgnSpec]))
     refine Nx ?_
     repeat' (first
       | with_reducible (first | refine Ck.au ?_ | refine Ck.all_cons ?_ | refine Ck.all_nil ?_ | refine Ck.mk ?_ ?_)
       | (with_reducible (first | refine Both.mk (fun h => ?_) (fun h => ?_) | refine Alt.mk (fun h => ?_) (fun h => ?_) | refine Pick.mk (fun h => ?_) (fun l1 x l2 h => ?_)) <;> (have hk := h) <;> (try replace h := nh h) <;> (try dsimp only [fitsSpec, sgnSpec] at h) <;> (try simp only [natCast_eq] at h) <;> (try replace hr := hri hr) <;> (try (have hb : (_ : Bool) = _ := h; clear h; subst hb; (try replace hr := hri hr))) <;> first | exact Dd | refine Nx ?_)
       | with_reducible refine End.mk ?_
       | with_reducible exact True.intro)
     all_goals first
       | (fail_if_success (with_reducible refine Exists.intro ?_ ?_)
          first
          | exact Cl1
          | (dsimp only [fitsSpec, sgnSpec]; exact Cl1)
          | decide +kernel
          | exact Cl2
          | (dsimp only [fitsSpec, sgnSpec]; exact Cl2)
          | (dsimp only [fitsSpec, sgnSpec] at *; exact Cl2))
       | skip
     skip)
theorem res_sound : ConSound Tryz.prog AI 63 resSpec.con := PureSpec.sound Tryz.call63 (fun x h => res_ok x.1 x.2.1 h)
def normSpec : PureSpec := ⟨[.cell RatE], fun (x : (Int × Int) × Unit) => (x.1 = (1, 2)) ∨ (x.1 = (1, 3)), [.cell RatE], fun (x : (Int × Int) × Unit) => if x.1 = (1, 2) then ((1, 2), ()) else ((1, 3), ())⟩
theorem norm_ok (a0 : Int × Int) (h : normSpec.pre (a0, ())) : TmplOk Tryz.prog AI 56 (argS normSpec.ds (fun _ => (a0, ()))) [] (resOf (svs normSpec.rs (fun _ => normSpec.f (a0, ())))) [] := by
  dsimp only [normSpec] at h ⊢
  rcases h with rfl | rfl
  all_goals
    (refine tmpl_of_body e0Ok mixed (fn := Tryz.f56) (c := bodyOf Tryz.f56) (by kernel_rfl) (by kernel_rfl) (by kernel_rfl) (Nat.le_of_ble_eq_true (by kernel_rfl)) ?_
     refine Pr ?_
     refine Nx ?_
     repeat' (first
       | with_reducible (first | refine Ck.au ?_ | refine Ck.all_cons ?_ | refine Ck.all_nil ?_ | refine Ck.mk ?_ ?_)
       | (with_reducible (first | refine Both.mk (fun h => ?_) (fun h => ?_) | refine Alt.mk (fun h => ?_) (fun h => ?_) | refine Pick.mk (fun h => ?_) (fun l1 x l2 h => ?_)) <;> (have hk := h) <;> (try replace h := nh h) <;> (try replace hr := hri hr) <;> (try (have hb : (_ : Bool) = _ := h; clear h; subst hb; (try replace hr := hri hr))) <;> first | exact Dd | refine Nx ?_)
       | with_reducible refine End.mk ?_
       | with_reducible exact True.intro)
     all_goals first
       | (fail_if_success (with_reducible refine Exists.intro ?_ ?_)
          first
          | exact Cl1
          | decide +kernel
          | exact Cl2)
       | skip
     skip)
theorem norm_sound : ConSound Tryz.prog AI 56 normSpec.con := PureSpec.sound Tryz.call56 (fun x h => norm_ok x.1 h)
end Go.Proofs.YtcaoldilmnpjoaaGreat
