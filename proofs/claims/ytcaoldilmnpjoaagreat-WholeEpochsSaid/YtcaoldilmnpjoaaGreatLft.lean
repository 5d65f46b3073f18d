/-
  The top: epoch.Class, epoch.Lift.
-/
import Derived.Test.YtcaoldilmnpjoaaGreatUni
import Derived.Test.YtcaoldilmnpjoaaGreatEng3
import Derived.Test.YtcaoldilmnpjoaaGreatVal
namespace Go.Proofs.YtcaoldilmnpjoaaGreat
set_option linter.all false
open Go.RowKit Go.Sx
set_option maxRecDepth 100000
set_option maxHeartbeats 16000000
def classF (e c n : Int) : Tup [DT.cell Ii, DT.cell Ii] := (c + n * (e % 2), 0, ())
def claSpec : PureSpec := ⟨[.cell Ii, .cell Ii, .cell Ii], fun (x : Int × Int × Int × Unit) => 0 ≤ x.1 ∧ x.1 ≤ 100000 ∧ 1 ≤ x.2.2.1 ∧ x.2.2.1 ≤ 4 ∧ 0 ≤ x.2.1 ∧ x.2.1 < x.2.2.1, [.cell Ii, .cell Ii], fun (x : Int × Int × Int × Unit) => classF x.1 x.2.1 x.2.2.1⟩
theorem cla_ok (e : Int) (c : Int) (n : Int) (h : claSpec.pre (e, c, n, ())) : TmplOk Tryz.prog AI 8 (argS claSpec.ds (fun _ => (e, c, n, ()))) [] (resOf (svs claSpec.rs (fun _ => claSpec.f (e, c, n, ())))) [] := by
  dsimp only [claSpec] at h ⊢
  generalize hr : classF e c n = r
  have hm1 := Int.emod_nonneg e (show (2 : Int) ≠ 0 by decide); have hm2 := Int.emod_lt_of_pos e (show (0 : Int) < 2 by decide); have hp : n * (e % 2) ≤ 4 := by { rcases (show e % 2 = 0 ∨ e % 2 = 1 by omega) with h5 | h5 <;> rw [h5] <;> omega }; have hq : 0 ≤ n * (e % 2) := Int.mul_nonneg (by omega) hm1; generalize hP : n * (e % 2) = P at *
  dsimp only [classF] at hr
  refine tmpl_of_body e0Ok mixed (fn := Tryz.f8) (c := bodyOf Tryz.f8) (by kernel_rfl) (by kernel_rfl) (by kernel_rfl) (Nat.le_of_ble_eq_true (by kernel_rfl)) ?_
  refine Pr ?_
  refine Nx ?_
  repeat' (first
    | with_reducible (first | refine Ck.au ?_ | refine Ck.all_cons ?_ | refine Ck.all_nil ?_ | refine Ck.mk ?_ ?_)
    | (with_reducible (first | refine Both.mk (fun h => ?_) (fun h => ?_) | refine Alt.mk (fun h => ?_) (fun h => ?_) | refine Pick.mk (fun h => ?_) (fun l1 x l2 h => ?_)) <;> (have hk := h) <;> (try replace h := nh h) <;> (try replace hr := hri hr) <;> (try (have hb : (_ : Bool) = _ := h; clear h; subst hb; (try replace hr := hri hr))) <;> first | exact Dd | refine Nx ?_)
    | ((with_reducible refine End.mk ?_); (try ((repeat (first | rw [ifP] at hr | rw [ifM] at hr | rw [if_pos rfl] at hr)); subst hr)))
    | with_reducible exact True.intro)
  all_goals first
    | (fail_if_success (with_reducible refine Exists.intro ?_ ?_)
       first
       | exact Cl1
       | exact Cl2)
    | skip
theorem cla_sound : ConSound Tryz.prog AI 8 claSpec.con := PureSpec.sound Tryz.call8 (fun x h => cla_ok x.1 x.2.1 x.2.2.1 h)
/-- The closure that lifts a channel: it reads its captured class. -/
def lfC (c : U Int) : List (Chunk Ab) := [.cells 3 [.int .i64 c]]
def lfP : ParL Ab Int := ⟨1, 1, fun cs => match cs with
  | [.cells t [.int .i64 c]] => (match beqN t 3 with | true => some c | false => none)
  | _ => none, lfC, by decide, fun cs W h => by
    split at h <;> (try (cases h; done))
    split at h <;> cases h
    rename_i ht
    rw [beqN_iff.1 ht]; rfl⟩
def lfI (S c : Int) : Int := 8 * c + S
def lfcSpec : StepC Ab Int := ⟨lfP, [.cell Ii], [0], fun S (x : Int × Unit) => (0 ≤ S ∧ S < 8) ∧ (0 ≤ x.1 ∧ x.1 < 64), [.cell Ii], fun S (x : Int × Unit) => (lfI S x.1, ()), fun S (x : Int × Unit) => S⟩
theorem lfc_ok (S : Int) (c : Int) (h : lfcSpec.pre S (c, ())) : ∃ args : List SV, args.length + [0].length ≤ Tryz.f28.ntmps ∧ args.all (belV 1) = true ∧ (∀ (ρ : Ev) us, All2 (Den ρ) (argS [.cell Ii] (fun _ => (c, ()))) us → All2 (Den ρ) args us) ∧
    (svc E0 1 (bodyOf Tryz.f28) ⟨argT 0 (args ++ ptrsS [0]), lfC (fun _ => S)⟩ (finP E0.ti 1 Tryz.f28.results.toList (resOf (svs [.cell Ii] (fun _ => (lfI S c, ())))) (lfC (fun _ => S))) ∨
     svc E0 1 (bodyOf Tryz.f28) ⟨argT 0 (args ++ ptrsS [0]), lfC (fun _ => S)⟩ (finR E0.ti 1 Tryz.f28.results.toList (resOf (svs [.cell Ii] (fun _ => (lfI S c, ())))) (lfC (fun _ => S)))) := by
  dsimp only [lfcSpec] at h ⊢
  obtain ⟨⟨h1, h2⟩, h3, h4⟩ := h
  refine ⟨argS [.cell Ii] (fun _ => (c, ())), Nat.le_of_ble_eq_true (by kernel_rfl), rfl, (fun ρ us hd => hd), .inl ?_⟩
  refine Pr ?_
  refine Nx ?_
  repeat' (first
    | with_reducible (first | refine Ck.au ?_ | refine Ck.all_cons ?_ | refine Ck.all_nil ?_ | refine Ck.mk ?_ ?_)
    | (with_reducible (first | refine Both.mk (fun h => ?_) (fun h => ?_) | refine Alt.mk (fun h => ?_) (fun h => ?_) | refine Pick.mk (fun h => ?_) (fun l1 x l2 h => ?_)) <;> (have hk := h) <;> (try replace h := nh h) <;> (try replace hr := hri hr) <;> (try (have hb : (_ : Bool) = _ := h; clear h; subst hb; (try replace hr := hri hr))) <;> first | exact Dd | refine Nx ?_)
    | with_reducible refine End.mk ?_
    | with_reducible exact True.intro)
  all_goals first
    | (fail_if_success (with_reducible refine Exists.intro ?_ ?_)
       first
       | exact Cl1
       | rfl
       | exact Cl2)
    | skip
theorem lfc_sound : ConSound Tryz.prog AI 28 lfcSpec.con := StepC.sound e0Ok mixed (fn := Tryz.f28) (c := bodyOf Tryz.f28) Tryz.call28 (by kernel_rfl) (by kernel_rfl) (by kernel_rfl) (q := lfcSpec) (by decide) fun S x h => lfc_ok S x.1 h
theorem lfc_ro : lfcSpec.Ro := ⟨fun _ _ => rfl, fun _ => rfl, fun _ _ => rfl, fun _ => rfl, fun _ => rfl⟩
theorem lfc_soundR : ConSound Tryz.prog AI 28 lfcSpec.conR := StepC.soundR lfc_ro lfc_sound
/-- Dependencies between channels of cables. -/
def OkC (l : List DepT) : Prop := l.length ≤ 100000 ∧ ∀ d ∈ l, (0 ≤ d.1 ∧ d.1 < 64) ∧ (0 ≤ d.2.1 ∧ d.2.1 < 64) ∧ (0 ≤ d.2.2 ∧ d.2.2 < 64)
theorem OkC.at {l : List DepT} (h : OkC l) {i : Nat} (hi : i < l.length) : (0 ≤ (l.getD (i : Int).toNat (0, 0, 0)).1 ∧ (l.getD (i : Int).toNat (0, 0, 0)).1 < 64) ∧ (0 ≤ (l.getD (i : Int).toNat (0, 0, 0)).2.1 ∧ (l.getD (i : Int).toNat (0, 0, 0)).2.1 < 64) ∧ (0 ≤ (l.getD (i : Int).toNat (0, 0, 0)).2.2 ∧ (l.getD (i : Int).toNat (0, 0, 0)).2.2 < 64) := by
  refine h.2 _ ?_
  rw [List.getD_eq_getElem?_getD, Int.toNat_natCast, List.getElem?_eq_getElem hi]
  exact List.getElem_mem hi
def lfD (S : Int) (d : DepT) : DepT := (lfI S d.1, lfI S d.2.1, d.2.2)
def liftL (l : List DepT) (S : Int) : List DepT := l.map (lfD S)
def liftF (l : List DepT) (S : Int) : Tup [DT.lst DepE] := (liftL l S, ())
theorem lift_take (l : List DepT) (S : Int) {i : Nat} (h : i < l.length) : liftL (l.take (i + 1)) S = liftL (l.take i) S ++ [lfD S (l.getD (i : Int).toNat DepE.dflt)] := by
  unfold liftL
  rw [List.take_succ_eq_append_getElem h, List.map_append]
  rw [List.getD_eq_getElem?_getD, Int.toNat_natCast, List.getElem?_eq_getElem h]; rfl
theorem lfx_inl : ConSound Tryz.prog AI 27 (inl E0 Tryz.f27 3) := inl_sound e0Ok mixed (fn := Tryz.f27) (c := bodyOf Tryz.f27) Tryz.call27 (by kernel_rfl) (by kernel_rfl) (by kernel_rfl) 3
noncomputable abbrev Ef1 : Env Ab := ⟨tis, [(28, lfcSpec.conR), (27, inl E0 Tryz.f27 3)] ++ E0.con⟩
theorem ef1Ok : EnvOk Tryz.prog AI Ef1 := ((e0Ok.add lfx_inl).add lfc_soundR)
def lftSpec : PureSpec := ⟨[.lst DepE, .cell Ii], fun (x : (List DepT) × Int × Unit) => OkC x.1 ∧ 0 ≤ x.2.1 ∧ x.2.1 < 8, [.lst DepE], fun (x : (List DepT) × Int × Unit) => liftF x.1 x.2.1⟩
theorem lft_ok (l : List DepT) (cl : Int) (h : lftSpec.pre (l, cl, ())) : TmplOk Tryz.prog AI 10 (argS lftSpec.ds (fun _ => (l, cl, ()))) [] (resOf (svs lftSpec.rs (fun _ => lftSpec.f (l, cl, ())))) [] := by
  dsimp only [lftSpec] at h ⊢
  generalize hr : liftF l cl = r
  obtain ⟨hl, hS0, hS1⟩ := h; have hal := hl.1
  dsimp only [liftF] at hr
  refine tmpl_of_body ef1Ok mixed (fn := Tryz.f10) (c := bodyOf Tryz.f10) (by kernel_rfl) (by kernel_rfl) (by kernel_rfl) (Nat.le_of_ble_eq_true (by kernel_rfl)) ?_
  refine Pr ?_
  (try (conv in (SS.mk _ _) => dsimp only [lfcSpec]))
  refine Nx ?_
  repeat' (first
    | with_reducible (first | refine Ck.au ?_ | refine Ck.all_cons ?_ | refine Ck.all_nil ?_ | refine Ck.mk ?_ ?_)
    | (with_reducible (first | refine Both.mk (fun h => ?_) (fun h => ?_) | refine Alt.mk (fun h => ?_) (fun h => ?_) | refine Pick.mk (fun h => ?_) (fun l1 x l2 h => ?_)) <;> (have hk := h) <;> (try replace h := nh h) <;> (try dsimp only [lfcSpec] at h) <;> (try simp only [natCast_eq] at h) <;> (try (have hq := hkx h)) <;> (try replace hr := hri hr) <;> (try (have hb : (_ : Bool) = _ := h; clear h; subst hb; (try replace hr := hri hr))) <;> first | exact Dd | refine Nx ?_)
    | ((with_reducible refine End.mk ?_); (try ((repeat (first | rw [ifP] at hr | rw [ifM] at hr | rw [if_pos rfl] at hr)); subst hr)))
    | with_reducible exact True.intro)
  all_goals first
    | (fail_if_success (with_reducible refine Exists.intro ?_ ?_)
       first
       | exact Cl1
       | (dsimp only [lfcSpec]; exact Cl1)
       | exact Cl2
       | (dsimp only [lfcSpec]; exact Cl2)
       | (dsimp only [lfcSpec] at *; exact Cl2))
    | skip
  refine ⟨⟨{k : Nat // k ≤ l.length}, fun k => ⟨[(3, Sx.one (.ptr 0 0)), (5, .val (.fn 27 [])), (6, .val (.fn 28 [.ptr 0 0])), (7, Sx.one (.hd 1 0)), (17, Sx.one (.ro DepE (fun _ => l))), (18, Sx.one (.int .i64 (fun _ => l.length))), (19, Sx.one (.int .i64 (fun _ => k.1)))],
    [.cells 3 [.int .i64 (fun _ => cl)], .row 76 DepE 0 (fun _ => liftL (l.take k.1) cl)]⟩, fun k => l.length - k.1, ⟨0, Nat.zero_le _⟩⟩, ?_, fun (k : {k : Nat // k ≤ l.length}) => ?_⟩
  · refine Pr ?_
    (try (conv in (SS.mk _ _) => dsimp only [lfcSpec]))
    refine Nx ?_
    repeat' (first
      | with_reducible (first | refine Ck.au ?_ | refine Ck.all_cons ?_ | refine Ck.all_nil ?_ | refine Ck.mk ?_ ?_)
      | (with_reducible (first | refine Both.mk (fun h => ?_) (fun h => ?_) | refine Alt.mk (fun h => ?_) (fun h => ?_) | refine Pick.mk (fun h => ?_) (fun l1 x l2 h => ?_)) <;> (have hk := h) <;> (try replace h := nh h) <;> (try dsimp only [lfcSpec] at h) <;> (try simp only [natCast_eq] at h) <;> (try (have hq := hkx h)) <;> (try replace hr := hri hr) <;> (try (have hb : (_ : Bool) = _ := h; clear h; subst hb; (try replace hr := hri hr))) <;> first | exact Dd | refine Nx ?_)
      | with_reducible refine End.mk ?_
      | with_reducible exact True.intro)
    all_goals first
      | (fail_if_success (with_reducible refine Exists.intro ?_ ?_)
         first
         | exact Cl1
         | (dsimp only [lfcSpec]; exact Cl1)
         | rfl
         | exact Cl2
         | (dsimp only [lfcSpec]; exact Cl2)
         | (dsimp only [lfcSpec] at *; exact Cl2))
      | skip
  obtain ⟨k, hk⟩ := k
  dsimp only
  have hkx := fun (h : ((k : Nat) : Int) < (l.length : Int)) => hl.at (i := k) (by omega)
  have hst := fun (h : ((k : Nat) : Int) < (l.length : Int)) => lift_take l cl (i := k) (by omega)
  have hlen : (liftL (l.take k) cl).length ≤ 100000 := by unfold liftL; rw [List.length_map, List.length_take]; omega
  have hrow : ∀ o : DepT, (liftL (l.take k) cl).length + [o].length ≤ maxRow := fun o => by show _ + 1 ≤ 1099511627776; omega
  refine Pr ?_
  (try (conv in (SS.mk _ _) => dsimp only [lfcSpec]))
  refine Nx ?_
  repeat' (first
    | with_reducible (first | refine Ck.au ?_ | refine Ck.all_cons ?_ | refine Ck.all_nil ?_ | refine Ck.mk ?_ ?_)
    | (with_reducible (first | refine Both.mk (fun h => ?_) (fun h => ?_) | refine Alt.mk (fun h => ?_) (fun h => ?_) | refine Pick.mk (fun h => ?_) (fun l1 x l2 h => ?_)) <;> (have hk := h) <;> (try replace h := nh h) <;> (try dsimp only [lfcSpec] at h) <;> (try simp only [natCast_eq] at h) <;> (try (have hq := hkx h)) <;> (try replace hr := hri hr) <;> (try (have hb : (_ : Bool) = _ := h; clear h; subst hb; (try replace hr := hri hr))) <;> first | exact Dd | refine Nx ?_)
    | with_reducible refine End.mk ?_
    | with_reducible exact True.intro)
  all_goals first
    | (fail_if_success (with_reducible refine Exists.intro ?_ ?_)
       first
       | exact Cl1
       | (dsimp only [lfcSpec]; exact Cl1)
       | first | exact hrow _ | (subst hr; have hj9 : l.take k = l := List.take_of_length_le (by omega); rw [hj9]; exact List.map_id _)
       | exact Cl2
       | (dsimp only [lfcSpec]; exact Cl2)
       | (dsimp only [lfcSpec] at *; exact Cl2))
    | skip
  refine ⟨⟨k + 1, by omega⟩, (by dsimp only; omega), ?_⟩
  refine Pr ?_
  (try (conv in (SS.mk _ _) => dsimp only [lfcSpec]))
  refine Nx ?_
  repeat' (first
    | with_reducible (first | refine Ck.au ?_ | refine Ck.all_cons ?_ | refine Ck.all_nil ?_ | refine Ck.mk ?_ ?_)
    | (with_reducible (first | refine Both.mk (fun h => ?_) (fun h => ?_) | refine Alt.mk (fun h => ?_) (fun h => ?_) | refine Pick.mk (fun h => ?_) (fun l1 x l2 h => ?_)) <;> (have hk := h) <;> (try replace h := nh h) <;> (try dsimp only [lfcSpec] at h) <;> (try simp only [natCast_eq] at h) <;> (try (have hq := hkx h)) <;> (try replace hr := hri hr) <;> (try (have hb : (_ : Bool) = _ := h; clear h; subst hb; (try replace hr := hri hr))) <;> first | exact Dd | refine Nx ?_)
    | with_reducible refine End.mk ?_
    | with_reducible exact True.intro)
  all_goals first
    | (fail_if_success (with_reducible refine Exists.intro ?_ ?_)
       first
       | exact Cl1
       | (dsimp only [lfcSpec]; exact Cl1)
       | first | exact (List.map_id _).trans (hst (by assumption)).symm | exact (hst (by assumption)).symm
       | exact Cl2
       | (dsimp only [lfcSpec]; exact Cl2)
       | (dsimp only [lfcSpec] at *; exact Cl2))
    | skip
theorem lft_sound : ConSound Tryz.prog AI 10 lftSpec.con := PureSpec.sound Tryz.call10 (fun x h => lft_ok x.1 x.2.1 h)
end Go.Proofs.YtcaoldilmnpjoaaGreat
