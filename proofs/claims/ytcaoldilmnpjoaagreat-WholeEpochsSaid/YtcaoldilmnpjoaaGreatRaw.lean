/-
  The top: the check that the lowest layer works.
-/
import Derived.Test.YtcaoldilmnpjoaaGreatRat
namespace Go.Proofs.YtcaoldilmnpjoaaGreat
set_option linter.all false
open Go.RowKit Go.Sx
set_option maxRecDepth 100000
set_option maxHeartbeats 16000000
structure Lg (g : Nat) where
  a : Int
  b : Int
  a0 : 0 ≤ a ∧ a < 4294967296
  b0 : 0 ≤ b ∧ b < 4294967296
  eq : Int.gcd a b = g
theorem Lg.step {g : Nat} (x : Lg g) (h : ¬ x.b = 0) : ∃ y : Lg g, y.a = x.b ∧ y.b = x.a % x.b ∧ y.b < x.b := by
  have h1 := x.a0; have h2 := x.b0
  have h3 : 0 ≤ x.a % x.b := Int.emod_nonneg _ h
  have h4 : x.a % x.b < x.b := Int.emod_lt_of_pos _ (by omega)
  refine ⟨⟨x.b, x.a % x.b, x.b0, ⟨h3, by omega⟩, ?_⟩, rfl, rfl, h4⟩
  refine Eq.trans ?_ x.eq
  show Int.gcd x.b (x.a % x.b) = Int.gcd x.a x.b
  obtain ⟨m, hm⟩ := Int.eq_ofNat_of_zero_le h1.1
  obtain ⟨n, hn⟩ := Int.eq_ofNat_of_zero_le h2.1
  rw [hm, hn, show ((m : Int) % (n : Int)) = ((m % n : Nat) : Int) from rfl]
  show Nat.gcd n (m % n) = Nat.gcd m n
  rw [Nat.gcd_comm, Nat.gcd_comm m n]
  exact (Nat.gcd_rec n m).symm
theorem Lg.done {g : Nat} (x : Lg g) (h : x.b = 0) : x.a = (g : Int) := by
  have h1 := x.a0
  have e := x.eq
  rw [h, Int.gcd_zero_right] at e; omega
def gcdF (a b : Int) : Tup [DT.cell U64] := (((Int.gcd a b : Nat) : Int), ())
def gcdSpec : PureSpec := ⟨[.cell U64, .cell U64], fun (x : Int × Int × Unit) => (0 ≤ x.1 ∧ x.1 < 4294967296) ∧ (0 ≤ x.2.1 ∧ x.2.1 < 4294967296), [.cell U64], fun (x : Int × Int × Unit) => gcdF x.1 x.2.1⟩
theorem gcd_ok (a : Int) (b : Int) (h : gcdSpec.pre (a, b, ())) : TmplOk Tryz.prog AI 57 (argS gcdSpec.ds (fun _ => (a, b, ()))) [] (resOf (svs gcdSpec.rs (fun _ => gcdSpec.f (a, b, ())))) [] := by
  dsimp only [gcdSpec] at h ⊢
  generalize hr : gcdF a b = r
  obtain ⟨h0, h1⟩ := h
  dsimp only [gcdF] at hr
  refine tmpl_of_body e0Ok mixed (fn := Tryz.f57) (c := bodyOf Tryz.f57) (by kernel_rfl) (by kernel_rfl) (by kernel_rfl) (Nat.le_of_ble_eq_true (by kernel_rfl)) ?_
  refine Pr ?_
  refine Nx ?_
  repeat' (first
    | with_reducible (first | refine Ck.au ?_ | refine Ck.all_cons ?_ | refine Ck.all_nil ?_ | refine Ck.mk ?_ ?_)
    | (with_reducible (first | refine Both.mk (fun h => ?_) (fun h => ?_) | refine Alt.mk (fun h => ?_) (fun h => ?_) | refine Pick.mk (fun h => ?_) (fun l1 x l2 h => ?_)) <;> (have hk := h) <;> (try replace h := nh h) <;> (try replace hr := hri hr) <;> (try (have hb : (_ : Bool) = _ := h; clear h; subst hb; (try replace hr := hri hr))) <;> first | exact Dd | refine Nx ?_)
    | ((with_reducible refine End.mk ?_); (try ((repeat (first | rw [ifP] at hr | rw [ifM] at hr | rw [if_pos rfl] at hr)); subst hr)))
    | with_reducible exact True.intro)
  all_goals first
    | (fail_if_success (with_reducible refine Exists.intro ?_ ?_)
       first
       | exact Cl1
       | exact Cl2)
    | skip
  obtain ⟨x0, hx0, hx1⟩ : ∃ x : Lg (Int.gcd a b), x.a = a ∧ x.b = b := ⟨⟨a, b, h0, h1, rfl⟩, rfl, rfl⟩
  refine ⟨⟨Lg (Int.gcd a b), fun x => ⟨[(0, Sx.one (.int .u64 (fun _ => x.a))), (1, Sx.one (.int .u64 (fun _ => x.b)))], []⟩, fun x => x.b.toNat, x0⟩, ?_, fun (x : Lg (Int.gcd a b)) => ?_⟩
  · refine Pr ?_
    refine Nx ?_
    repeat' (first
      | with_reducible (first | refine Ck.au ?_ | refine Ck.all_cons ?_ | refine Ck.all_nil ?_ | refine Ck.mk ?_ ?_)
      | (with_reducible (first | refine Both.mk (fun h => ?_) (fun h => ?_) | refine Alt.mk (fun h => ?_) (fun h => ?_) | refine Pick.mk (fun h => ?_) (fun l1 x l2 h => ?_)) <;> (have hk := h) <;> (try replace h := nh h) <;> (try replace hr := hri hr) <;> (try (have hb : (_ : Bool) = _ := h; clear h; subst hb; (try replace hr := hri hr))) <;> first | exact Dd | refine Nx ?_)
      | with_reducible refine End.mk ?_
      | with_reducible exact True.intro)
    all_goals first
      | (fail_if_success (with_reducible refine Exists.intro ?_ ?_)
         first
         | exact Cl1
         | first | exact hx0.symm | exact hx1.symm
         | exact Cl2)
      | skip
  have hlo := x.a0
  have hhi := x.b0
  refine Pr ?_
  refine Nx ?_
  repeat' (first
    | with_reducible (first | refine Ck.au ?_ | refine Ck.all_cons ?_ | refine Ck.all_nil ?_ | refine Ck.mk ?_ ?_)
    | (with_reducible (first | refine Both.mk (fun h => ?_) (fun h => ?_) | refine Alt.mk (fun h => ?_) (fun h => ?_) | refine Pick.mk (fun h => ?_) (fun l1 x l2 h => ?_)) <;> (have hk := h) <;> (try replace h := nh h) <;> (try replace hr := hri hr) <;> (try (have hb : (_ : Bool) = _ := h; clear h; subst hb; (try replace hr := hri hr))) <;> first | exact Dd | refine Nx ?_)
    | with_reducible refine End.mk ?_
    | with_reducible exact True.intro)
  all_goals first
    | (fail_if_success (with_reducible refine Exists.intro ?_ ?_)
       first
       | exact Cl1
       | first | (subst hr; exact x.done (by assumption)) | exact ⟨hlo.1, by omega, by omega⟩
       | exact Cl2)
    | skip
  obtain ⟨y, hy1, hy2, hy3⟩ := x.step (by assumption)
  refine ⟨y, by (try dsimp only); omega, ?_⟩
  refine Pr ?_
  refine Nx ?_
  repeat' (first
    | with_reducible (first | refine Ck.au ?_ | refine Ck.all_cons ?_ | refine Ck.all_nil ?_ | refine Ck.mk ?_ ?_)
    | (with_reducible (first | refine Both.mk (fun h => ?_) (fun h => ?_) | refine Alt.mk (fun h => ?_) (fun h => ?_) | refine Pick.mk (fun h => ?_) (fun l1 x l2 h => ?_)) <;> (have hk := h) <;> (try replace h := nh h) <;> (try replace hr := hri hr) <;> (try (have hb : (_ : Bool) = _ := h; clear h; subst hb; (try replace hr := hri hr))) <;> first | exact Dd | refine Nx ?_)
    | with_reducible refine End.mk ?_
    | with_reducible exact True.intro)
  all_goals first
    | (fail_if_success (with_reducible refine Exists.intro ?_ ?_)
       first
       | exact Cl1
       | first | exact hy1.symm | exact hy2.symm
       | exact Cl2)
    | skip
theorem gcd_sound : ConSound Tryz.prog AI 57 gcdSpec.con := PureSpec.sound Tryz.call57 (fun x h => gcd_ok x.1 x.2.1 h)
noncomputable abbrev Er4 : Env Ab := ⟨tis, [(57, gcdSpec.con)] ++ Er3.con⟩
theorem er4Ok : EnvOk Tryz.prog AI Er4 := (er3Ok.add gcd_sound)
def rvalSpec : PureSpec := ⟨[.cell RatE], fun (x : (Int × Int) × Unit) => (x.1 = (1, 2)) ∨ (x.1 = (1, 3)), [.cell .bool], fun (x : (Int × Int) × Unit) => if x.1 = (1, 2) then (true, ()) else (true, ())⟩
theorem rval_ok (a0 : Int × Int) (h : rvalSpec.pre (a0, ())) : TmplOk Tryz.prog AI 55 (argS rvalSpec.ds (fun _ => (a0, ()))) [] (resOf (svs rvalSpec.rs (fun _ => rvalSpec.f (a0, ())))) [] := by
  dsimp only [rvalSpec] at h ⊢
  rcases h with rfl | rfl
  all_goals
    (refine tmpl_of_body er4Ok mixed (fn := Tryz.f55) (c := bodyOf Tryz.f55) (by kernel_rfl) (by kernel_rfl) (by kernel_rfl) (Nat.le_of_ble_eq_true (by kernel_rfl)) ?_
     refine Pr ?_
     (try (conv in (SS.mk _ _) => dsimp only [sizeSpec, gcdSpec, gcdF]))
     refine Nx ?_
     repeat' (first
       | with_reducible (first | refine Ck.au ?_ | refine Ck.all_cons ?_ | refine Ck.all_nil ?_ | refine Ck.mk ?_ ?_)
       | (with_reducible (first | refine Both.mk (fun h => ?_) (fun h => ?_) | refine Alt.mk (fun h => ?_) (fun h => ?_) | refine Pick.mk (fun h => ?_) (fun l1 x l2 h => ?_)) <;> (have hk := h) <;> (try replace h := nh h) <;> (try dsimp only [sizeSpec, gcdSpec, gcdF] at h) <;> (try simp only [natCast_eq] at h) <;> (try replace hr := hri hr) <;> (try (have hb : (_ : Bool) = _ := h; clear h; subst hb; (try replace hr := hri hr))) <;> first | exact Dd | refine Nx ?_)
       | with_reducible refine End.mk ?_
       | with_reducible exact True.intro)
     all_goals first
       | (fail_if_success (with_reducible refine Exists.intro ?_ ?_)
          first
          | exact Cl1
          | (dsimp only [sizeSpec, gcdSpec, gcdF]; exact Cl1)
          | decide +kernel
          | exact Cl2
          | (dsimp only [sizeSpec, gcdSpec, gcdF]; exact Cl2)
          | (dsimp only [sizeSpec, gcdSpec, gcdF] at *; exact Cl2))
       | skip
     skip)
theorem rval_sound : ConSound Tryz.prog AI 55 rvalSpec.con := PureSpec.sound Tryz.call55 (fun x h => rval_ok x.1 h)
noncomputable abbrev Er5 : Env Ab := ⟨tis, [(63, resSpec.con), (61, wdivSpec.con), (60, addSpec.con), (59, prodSpec.con), (56, normSpec.con), (55, rvalSpec.con)] ++ Er4.con⟩
theorem er5Ok : EnvOk Tryz.prog AI Er5 := ((((((er4Ok.add rval_sound).add norm_sound).add prod_sound).add add_sound).add wdiv_sound).add res_sound)
def raddSpec : PureSpec := ⟨[.cell RatE, .cell RatE], fun (x : (Int × Int) × (Int × Int) × Unit) => (x.1 = (1, 2) ∧ x.2.1 = (1, 3)), [.cell RatE, .cell I64], fun (x : (Int × Int) × (Int × Int) × Unit) => ((5, 6), 0, ())⟩
theorem radd_ok (a0 : Int × Int) (a1 : Int × Int) (h : raddSpec.pre (a0, a1, ())) : TmplOk Tryz.prog AI 19 (argS raddSpec.ds (fun _ => (a0, a1, ()))) [] (resOf (svs raddSpec.rs (fun _ => raddSpec.f (a0, a1, ())))) [] := by
  dsimp only [raddSpec] at h ⊢
  rcases h with ⟨rfl, rfl⟩
  all_goals
    (refine tmpl_of_body er5Ok mixed (fn := Tryz.f19) (c := bodyOf Tryz.f19) (by kernel_rfl) (by kernel_rfl) (by kernel_rfl) (Nat.le_of_ble_eq_true (by kernel_rfl)) ?_
     refine Pr ?_
     (try (conv in (SS.mk _ _) => dsimp only [rvalSpec, normSpec, sizeSpec, gcdSpec, gcdF, prodSpec, addSpec, wdivSpec, mulSpec, resSpec]))
     refine Nx ?_
     repeat' (first
       | with_reducible (first | refine Ck.au ?_ | refine Ck.all_cons ?_ | refine Ck.all_nil ?_ | refine Ck.mk ?_ ?_)
       | (with_reducible (first | refine Both.mk (fun h => ?_) (fun h => ?_) | refine Alt.mk (fun h => ?_) (fun h => ?_) | refine Pick.mk (fun h => ?_) (fun l1 x l2 h => ?_)) <;> (have hk := h) <;> (try replace h := nh h) <;> (try dsimp only [rvalSpec, normSpec, sizeSpec, gcdSpec, gcdF, prodSpec, addSpec, wdivSpec, mulSpec, resSpec] at h) <;> (try simp only [natCast_eq] at h) <;> (try replace hr := hri hr) <;> (try (have hb : (_ : Bool) = _ := h; clear h; subst hb; (try replace hr := hri hr))) <;> first | exact Dd | refine Nx ?_)
       | with_reducible refine End.mk ?_
       | with_reducible exact True.intro)
     all_goals first
       | (fail_if_success (with_reducible refine Exists.intro ?_ ?_)
          first
          | exact Cl1
          | (dsimp only [rvalSpec, normSpec, sizeSpec, gcdSpec, gcdF, prodSpec, addSpec, wdivSpec, mulSpec, resSpec]; exact Cl1)
          | decide +kernel
          | exact Cl2
          | (dsimp only [rvalSpec, normSpec, sizeSpec, gcdSpec, gcdF, prodSpec, addSpec, wdivSpec, mulSpec, resSpec]; exact Cl2)
          | (dsimp only [rvalSpec, normSpec, sizeSpec, gcdSpec, gcdF, prodSpec, addSpec, wdivSpec, mulSpec, resSpec] at *; exact Cl2))
       | skip
     skip)
theorem radd_sound : ConSound Tryz.prog AI 19 raddSpec.con := PureSpec.sound Tryz.call19 (fun x h => radd_ok x.1 x.2.1 h)
noncomputable abbrev Er6 : Env Ab := ⟨tis, [(19, raddSpec.con)] ++ E0.con⟩
theorem er6Ok : EnvOk Tryz.prog AI Er6 := (e0Ok.add radd_sound)
def awkF : Tup [DT.cell .bool] := (true, ())
def awkSpec : PureSpec := ⟨[], fun _ => True, [.cell .bool], fun _ => awkF⟩
theorem awk_ok : TmplOk Tryz.prog AI 5 (argS awkSpec.ds (fun _ => ())) [] (resOf (svs awkSpec.rs (fun _ => awkSpec.f ()))) [] := by
  dsimp only [awkSpec, awkF]
  refine tmpl_of_body er6Ok mixed (fn := Tryz.f5) (c := bodyOf Tryz.f5) (by kernel_rfl) (by kernel_rfl) (by kernel_rfl) (Nat.le_of_ble_eq_true (by kernel_rfl)) ?_
  refine Pr ?_
  (try (conv in (SS.mk _ _) => dsimp only [raddSpec]))
  refine Nx ?_
  repeat' (first
    | with_reducible (first | refine Ck.au ?_ | refine Ck.all_cons ?_ | refine Ck.all_nil ?_ | refine Ck.mk ?_ ?_)
    | (with_reducible (first | refine Both.mk (fun h => ?_) (fun h => ?_) | refine Alt.mk (fun h => ?_) (fun h => ?_) | refine Pick.mk (fun h => ?_) (fun l1 x l2 h => ?_)) <;> (have hk := h) <;> (try replace h := nh h) <;> (try dsimp only [raddSpec] at h) <;> (try simp only [natCast_eq] at h) <;> (try replace hr := hri hr) <;> (try (have hb : (_ : Bool) = _ := h; clear h; subst hb; (try replace hr := hri hr))) <;> first | exact Dd | refine Nx ?_)
    | with_reducible refine End.mk ?_
    | with_reducible exact True.intro)
  all_goals first
    | (fail_if_success (with_reducible refine Exists.intro ?_ ?_)
       first
       | exact Cl1
       | (dsimp only [raddSpec]; exact Cl1)
       | decide +kernel
       | exact Cl2
       | (dsimp only [raddSpec]; exact Cl2)
       | (dsimp only [raddSpec] at *; exact Cl2))
    | skip
theorem awk_sound : ConSound Tryz.prog AI 5 awkSpec.con := PureSpec.sound Tryz.call5 (fun x h => awk_ok)
end Go.Proofs.YtcaoldilmnpjoaaGreat
