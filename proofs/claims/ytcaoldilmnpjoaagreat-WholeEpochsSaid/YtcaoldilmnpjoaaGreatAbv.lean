/-
  The top: order.Above.
-/
import Derived.Test.YtcaoldilmnpjoaaGreatOrd
namespace Go.Proofs.YtcaoldilmnpjoaaGreat
set_option linter.all false
open Go.RowKit Go.Sx
set_option maxRecDepth 100000
set_option maxHeartbeats 16000000
def cmpI (a b : Int) : Int := if a < b then -1 else if b < a then 1 else 0
def cmpF (a b : Int) : Tup [DT.cell Ii] := if a < b then (-1, ()) else if b < a then (1, ()) else (0, ())
theorem cmpF_eq (a b : Int) : (cmpF a b).1 = cmpI a b := by unfold cmpF cmpI; split; rfl; split <;> rfl
def orL : List Int → Int
  | [] => 0
  | x :: l => if x = 0 then orL l else x
theorem nan_inl : ConSound Tryz.prog AI 97 (inl E0 Tryz.f97 0) := inl_sound e0Ok mixed (fn := Tryz.f97) (c := bodyOf Tryz.f97) Tryz.call97 (by kernel_rfl) (by kernel_rfl) (by kernel_rfl) 0
noncomputable abbrev Ec1 : Env Ab := ⟨tis, [(97, inl E0 Tryz.f97 0)] ++ E0.con⟩
theorem ec1Ok : EnvOk Tryz.prog AI Ec1 := (e0Ok.add nan_inl)
def cmpSpec : PureSpec := ⟨[.cell Ii, .cell Ii], fun (x : Int × Int × Unit) => True, [.cell Ii], fun (x : Int × Int × Unit) => cmpF x.1 x.2.1⟩
theorem cmp_ok (a : Int) (b : Int) (h : cmpSpec.pre (a, b, ())) : TmplOk Tryz.prog AI 51 (argS cmpSpec.ds (fun _ => (a, b, ()))) [] (resOf (svs cmpSpec.rs (fun _ => cmpSpec.f (a, b, ())))) [] := by
  dsimp only [cmpSpec] at h ⊢
  generalize hr : cmpF a b = r
  dsimp only [cmpF] at hr
  refine tmpl_of_body ec1Ok mixed (fn := Tryz.f51) (c := bodyOf Tryz.f51) (by kernel_rfl) (by kernel_rfl) (by kernel_rfl) (Nat.le_of_ble_eq_true (by kernel_rfl)) ?_
  refine Pr ?_
  refine Nx ?_
  repeat' (first
    | with_reducible (first | refine Ck.au ?_ | refine Ck.all_cons ?_ | refine Ck.all_nil ?_ | refine Ck.mk ?_ ?_)
    | (with_reducible (first | refine Both.mk (fun h => ?_) (fun h => ?_) | refine Alt.mk (fun h => ?_) (fun h => ?_) | refine Pick.mk (fun h => ?_) (fun l1 x l2 h => ?_)) <;> (have hk := h) <;> (try replace h := nh h) <;> (try replace hr := hri hr) <;> (try (have hb : (_ : Bool) = _ := h; clear h; subst hb; (try replace hr := hri hr))) <;> first | exact Dd | refine Nx ?_)
    | ((with_reducible refine End.mk ?_); (try ((repeat (first | rw [ifP] at hr | rw [ifM] at hr | rw [if_pos rfl] at hr)); subst hr)))
    | with_reducible exact True.intro)
  all_goals first
    | (fail_if_success (with_reducible refine Exists.intro ?_ ?_)
       first
       | exact Cl1
       | exact Cl2)
    | skip
theorem cmp_sound : ConSound Tryz.prog AI 51 cmpSpec.con := PureSpec.sound Tryz.call51 (fun x h => cmp_ok x.1 x.2.1 h)
/-- Elements so far that are 0. -/
structure Lo (L : List Int) where
  i : Int
  lo : 0 ≤ i
  hi : i ≤ (L.length : Int)
  ok : orL (L.drop i.toNat) = orL L
theorem Lo.zero (L : List Int) : ∃ x : Lo L, x.i = 0 := ⟨⟨0, Int.le_refl _, by omega, rfl⟩, rfl⟩
theorem Lo.at {L : List Int} (x : Lo L) (h : x.i < (L.length : Int)) : L.drop x.i.toNat = L.getD x.i.toNat 0 :: L.drop (x.i + 1).toNat := by
  have h0 := x.lo
  have hk : x.i.toNat < L.length := by omega
  rw [List.drop_eq_getElem_cons hk, List.getD_eq_getElem?_getD, List.getElem?_eq_getElem hk, show (x.i + 1).toNat = x.i.toNat + 1 from by omega]; rfl
theorem Lo.step {L : List Int} (x : Lo L) (h : x.i < (L.length : Int)) (h2 : L.getD x.i.toNat 0 = 0) : ∃ y : Lo L, y.i = x.i + 1 := by
  have h0 := x.lo
  refine ⟨⟨x.i + 1, by omega, by omega, ?_⟩, rfl⟩
  rw [← x.ok, x.at h]
  show _ = if L.getD x.i.toNat 0 = 0 then _ else _
  rw [if_pos h2]
theorem Lo.hit {L : List Int} (x : Lo L) (h : x.i < (L.length : Int)) (h2 : ¬ L.getD x.i.toNat 0 = 0) : orL L = L.getD x.i.toNat 0 := by
  rw [← x.ok, x.at h]
  show (if L.getD x.i.toNat 0 = 0 then _ else _) = _
  rw [if_neg h2]
theorem Lo.done {L : List Int} (x : Lo L) (h : ¬ x.i < (L.length : Int)) : orL L = 0 := by
  rw [← x.ok, List.drop_eq_nil_of_le (by omega)]; rfl
def orF (L : List Int) : Tup [DT.cell Ii] := (orL L, ())
def orSpec : PureSpec := ⟨[.lst Ii], fun (x : (List Int) × Unit) => (x.1).length ≤ 100, [.cell Ii], fun (x : (List Int) × Unit) => orF x.1⟩
theorem or_ok (L : List Int) (h : orSpec.pre (L, ())) : TmplOk Tryz.prog AI 50 (argS orSpec.ds (fun _ => (L, ()))) [] (resOf (svs orSpec.rs (fun _ => orSpec.f (L, ())))) [] := by
  dsimp only [orSpec] at h ⊢
  generalize hr : orF L = r
  dsimp only [orF] at hr
  refine tmpl_of_body e0Ok mixed (fn := Tryz.f50) (c := bodyOf Tryz.f50) (by kernel_rfl) (by kernel_rfl) (by kernel_rfl) (Nat.le_of_ble_eq_true (by kernel_rfl)) ?_
  refine Pr ?_
  refine Nx ?_
  repeat' (first
    | with_reducible (first | refine Ck.au ?_ | refine Ck.all_cons ?_ | refine Ck.all_nil ?_ | refine Ck.mk ?_ ?_)
    | (with_reducible (first | refine Both.mk (fun h => ?_) (fun h => ?_) | refine Alt.mk (fun h => ?_) (fun h => ?_) | refine Pick.mk (fun h => ?_) (fun l1 x l2 h => ?_)) <;> (have hk := h) <;> (try replace h := nh h) <;> (try replace hr := hri hr) <;> (try (have hb : (_ : Bool) = _ := h; clear h; subst hb; (try replace hr := hri hr))) <;> first | exact Dd | refine Nx ?_)
    | ((with_reducible refine End.mk ?_); (try ((repeat (first | rw [ifP] at hr | rw [ifM] at hr | rw [if_pos rfl] at hr)); subst hr)))
    | with_reducible exact True.intro)
  all_goals first
    | (fail_if_success (with_reducible refine Exists.intro ?_ ?_)
       first
       | exact Cl1
       | exact Cl2)
    | skip
  have hL : L.length ≤ 100 := h
  obtain ⟨x0, hx0⟩ := Lo.zero L
  refine ⟨⟨Lo L, fun x => ⟨[(6, Sx.one (.ro Ii (fun _ => L))), (3, Sx.one (.li .i64 0)), (7, Sx.one (.int .i64 (fun _ => L.length))), (8, Sx.one (.int .i64 (fun _ => x.i)))], []⟩, fun x => (L.length - x.i).toNat, x0⟩, ?_, fun (x : Lo L) => ?_⟩
  · refine Pr ?_
    refine Nx ?_
    repeat' (first
      | with_reducible (first | refine Ck.au ?_ | refine Ck.all_cons ?_ | refine Ck.all_nil ?_ | refine Ck.mk ?_ ?_)
      | (with_reducible (first | refine Both.mk (fun h => ?_) (fun h => ?_) | refine Alt.mk (fun h => ?_) (fun h => ?_) | refine Pick.mk (fun h => ?_) (fun l1 x l2 h => ?_)) <;> (have hk := h) <;> (try replace h := nh h) <;> (try replace hr := hri hr) <;> (try (have hb : (_ : Bool) = _ := h; clear h; subst hb; (try replace hr := hri hr))) <;> first | exact Dd | refine Nx ?_)
      | with_reducible refine End.mk ?_
      | with_reducible exact True.intro)
    all_goals first
      | (fail_if_success (with_reducible refine Exists.intro ?_ ?_)
         first
         | exact Cl1
         | exact hx0.symm
         | exact Cl2)
      | skip
  have hlo := x.lo
  have hhi := x.hi
  refine Pr ?_
  refine Nx ?_
  repeat' (first
    | with_reducible (first | refine Ck.au ?_ | refine Ck.all_cons ?_ | refine Ck.all_nil ?_ | refine Ck.mk ?_ ?_)
    | (with_reducible (first | refine Both.mk (fun h => ?_) (fun h => ?_) | refine Alt.mk (fun h => ?_) (fun h => ?_) | refine Pick.mk (fun h => ?_) (fun l1 x l2 h => ?_)) <;> (have hk := h) <;> (try replace h := nh h) <;> (try replace hr := hri hr) <;> (try (have hb : (_ : Bool) = _ := h; clear h; subst hb; (try replace hr := hri hr))) <;> first | exact Dd | refine Nx ?_)
    | with_reducible refine End.mk ?_
    | with_reducible exact True.intro)
  all_goals first
    | (fail_if_success (with_reducible refine Exists.intro ?_ ?_)
       first
       | exact Cl1
       | first | (subst hr; exact (x.hit (by assumption) (by assumption)).symm) | (subst hr; exact (x.done (by assumption)).symm)
       | exact Cl2)
    | skip
  obtain ⟨y, hy⟩ := x.step (by assumption) (by assumption)
  refine ⟨y, la_meas (by assumption) hy, ?_⟩
  refine Pr ?_
  refine Nx ?_
  repeat' (first
    | with_reducible (first | refine Ck.au ?_ | refine Ck.all_cons ?_ | refine Ck.all_nil ?_ | refine Ck.mk ?_ ?_)
    | (with_reducible (first | refine Both.mk (fun h => ?_) (fun h => ?_) | refine Alt.mk (fun h => ?_) (fun h => ?_) | refine Pick.mk (fun h => ?_) (fun l1 x l2 h => ?_)) <;> (have hk := h) <;> (try replace h := nh h) <;> (try replace hr := hri hr) <;> (try (have hb : (_ : Bool) = _ := h; clear h; subst hb; (try replace hr := hri hr))) <;> first | exact Dd | refine Nx ?_)
    | with_reducible refine End.mk ?_
    | with_reducible exact True.intro)
  all_goals first
    | (fail_if_success (with_reducible refine Exists.intro ?_ ?_)
       first
       | exact Cl1
       | exact hy.symm
       | exact Cl2)
    | skip
theorem or_sound : ConSound Tryz.prog AI 50 orSpec.con := PureSpec.sound Tryz.call50 (fun x h => or_ok x.1 h)
def abv (L : List Int) (a b : Int) : Bool := decide ((orF [(cmpF (lat L a) (lat L b)).1, (cmpF a b).1]).1 < 0)
theorem abv_iff {L : List Int} {a b : Int} : abv L a b = true ↔ lat L a < lat L b ∨ (lat L a = lat L b ∧ a < b) := by
  unfold abv
  rw [decide_eq_true_eq, cmpF_eq, cmpF_eq]
  show (if cmpI (lat L a) (lat L b) = 0 then (if cmpI a b = 0 then 0 else cmpI a b) else cmpI (lat L a) (lat L b)) < 0 ↔ _
  generalize lat L a = p
  generalize lat L b = q
  unfold cmpI
  (repeat' split) <;> omega
def aboveF (o : OrdT) (a b : Int) : Tup [DT.cell .bool] :=
  if 0 ≤ a then (if a < (o.1.length : Int) then (if 0 ≤ lat o.1 a then
    (if 0 ≤ b then (if b < (o.1.length : Int) then (if 0 ≤ lat o.1 b then (abv o.1 a b, ()) else (false, ())) else (false, ())) else (false, ()))
    else (false, ())) else (false, ())) else (false, ())
theorem has_inl : ConSound Tryz.prog AI 85 (inl E0 Tryz.f85 0) := inl_sound e0Ok mixed (fn := Tryz.f85) (c := bodyOf Tryz.f85) Tryz.call85 (by kernel_rfl) (by kernel_rfl) (by kernel_rfl) 0
noncomputable abbrev Ea1 : Env Ab := ⟨tis, [(50, orSpec.con), (51, cmpSpec.con), (85, inl E0 Tryz.f85 0)] ++ E0.con⟩
theorem ea1Ok : EnvOk Tryz.prog AI Ea1 := (((e0Ok.add has_inl).add cmp_sound).add or_sound)
def aboveSpec : PureSpec := ⟨[.cell OrdE, .cell Ii, .cell Ii], fun (x : OrdT × Int × Int × Unit) => True, [.cell .bool], fun (x : OrdT × Int × Int × Unit) => aboveF x.1 x.2.1 x.2.2.1⟩
theorem above_ok (o : OrdT) (a : Int) (b : Int) (h : aboveSpec.pre (o, a, b, ())) : TmplOk Tryz.prog AI 39 (argS aboveSpec.ds (fun _ => (o, a, b, ()))) [] (resOf (svs aboveSpec.rs (fun _ => aboveSpec.f (o, a, b, ())))) [] := by
  dsimp only [aboveSpec] at h ⊢
  generalize hr : aboveF o a b = r
  obtain ⟨L, ou⟩ := o
  dsimp only [aboveF] at hr
  refine tmpl_of_body ea1Ok mixed (fn := Tryz.f39) (c := bodyOf Tryz.f39) (by kernel_rfl) (by kernel_rfl) (by kernel_rfl) (Nat.le_of_ble_eq_true (by kernel_rfl)) ?_
  refine Pr ?_
  (try (conv in (SS.mk _ _) => dsimp only [cmpSpec, orSpec]))
  refine Nx ?_
  repeat' (first
    | with_reducible (first | refine Ck.au ?_ | refine Ck.all_cons ?_ | refine Ck.all_nil ?_ | refine Ck.mk ?_ ?_)
    | (with_reducible (first | refine Both.mk (fun h => ?_) (fun h => ?_) | refine Alt.mk (fun h => ?_) (fun h => ?_) | refine Pick.mk (fun h => ?_) (fun l1 x l2 h => ?_)) <;> (have hk := h) <;> (try replace h := nh h) <;> (try dsimp only [cmpSpec, orSpec] at h) <;> (try simp only [natCast_eq] at h) <;> (try replace hr := hri hr) <;> (try (have hb : (_ : Bool) = _ := h; clear h; subst hb; (try replace hr := hri hr))) <;> first | exact Dd | refine Nx ?_)
    | ((with_reducible refine End.mk ?_); (try ((repeat (first | rw [ifP] at hr | rw [ifM] at hr | rw [if_pos rfl] at hr)); subst hr)))
    | with_reducible exact True.intro)
  all_goals first
    | (fail_if_success (with_reducible refine Exists.intro ?_ ?_)
       first
       | exact Cl1
       | (dsimp only [cmpSpec, orSpec]; exact Cl1)
       | first | rfl | (show (2 : Nat) ≤ 100; decide)
       | exact Cl2
       | (dsimp only [cmpSpec, orSpec]; exact Cl2)
       | (dsimp only [cmpSpec, orSpec] at *; exact Cl2))
    | skip
theorem above_sound : ConSound Tryz.prog AI 39 aboveSpec.con := PureSpec.sound Tryz.call39 (fun x h => above_ok x.1 x.2.1 x.2.2.1 h)
end Go.Proofs.YtcaoldilmnpjoaaGreat
