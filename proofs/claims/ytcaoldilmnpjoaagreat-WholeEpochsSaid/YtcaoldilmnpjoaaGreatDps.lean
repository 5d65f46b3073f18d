/-
  The top: channel.Deps, of tables that Make made.
-/
import Derived.Test.YtcaoldilmnpjoaaGreatDpp
namespace Go.Proofs.YtcaoldilmnpjoaaGreat
set_option linter.all false
open Go.RowKit Go.Sx
set_option maxRecDepth 100000
set_option maxHeartbeats 16000000
def depsF (p : PlanT) (o : OrdT) (T : TabT) : Tup [DT.lst DepE, DT.cell Ii] := (depsL p o T, 0, ())
theorem mkz_inl : ConSound Tryz.prog AI 25 (inl E0 Tryz.f25 4) := inl_sound e0Ok mixed (fn := Tryz.f25) (c := bodyOf Tryz.f25) Tryz.call25 (by kernel_rfl) (by kernel_rfl) (by kernel_rfl) 4
noncomputable abbrev Eq1 : Env Ab := ⟨tis, [(24, sfdCon 3), (25, inl E0 Tryz.f25 4), (39, aboveSpec.con), (73, leavSpec.con), (72, endsSpec.con), (71, rvlSpec.con), (36, orvSpec.con)] ++ E0.con⟩
theorem eq1Ok : EnvOk Tryz.prog AI Eq1 := (((((((e0Ok.add orv_sound).add rvl_sound).add ends_sound).add leav_sound).add above_sound).add mkz_inl).add (sfdCon_sound 3))
def dpsSpec : PureSpec := ⟨[.cell PlanE, .cell OrdE, .cell TabE], fun (x : PlanT × OrdT × TabT × Unit) => DpP x.1 x.2.1 x.2.2.1, [.lst DepE, .cell Ii], fun (x : PlanT × OrdT × TabT × Unit) => depsF x.1 x.2.1 x.2.2.1⟩
theorem dps_ok (p : PlanT) (o : OrdT) (T : TabT) (h : dpsSpec.pre (p, o, T, ())) : TmplOk Tryz.prog AI 23 (argS dpsSpec.ds (fun _ => (p, o, T, ()))) [] (resOf (svs dpsSpec.rs (fun _ => dpsSpec.f (p, o, T, ())))) [] := by
  dsimp only [dpsSpec] at h ⊢
  generalize hr : depsF p o T = r
  have hD := h; obtain ⟨p1, p2⟩ := p; obtain ⟨L, ou⟩ := o; obtain ⟨T, tu⟩ := T; obtain ⟨hlv, htb⟩ := h; have hrt := hD.rt; have hn : p1.length ≤ 16 := hlv.pl.n; have hc : p2.length ≤ 32 := hlv.pl.c; have hE : EndsOk p2 p1.length := valid_ends hlv.ok; have hL : L.length = p1.length := hlv.lv.len; have hT : T.length = p1.length := htb.len
  dsimp only [depsF] at hr
  refine tmpl_of_body eq1Ok mixed (fn := Tryz.f23) (c := bodyOf Tryz.f23) (by kernel_rfl) (by kernel_rfl) (by kernel_rfl) (Nat.le_of_ble_eq_true (by kernel_rfl)) ?_
  refine Pr ?_
  (try (conv in (SS.mk _ _) => dsimp only [orvSpec, orvF, rvlSpec, rvlF, endsSpec, leavSpec, aboveSpec]))
  refine Nx ?_
  repeat' (first
    | with_reducible (first | refine Ck.au ?_ | refine Ck.all_cons ?_ | refine Ck.all_nil ?_ | refine Ck.mk ?_ ?_)
    | (with_reducible (first | refine Both.mk (fun h => ?_) (fun h => ?_) | refine Alt.mk (fun h => ?_) (fun h => ?_) | refine Pick.mk (fun h => ?_) (fun l1 x l2 h => ?_)) <;> (have hk := h) <;> (try replace h := nh h) <;> (try dsimp only [orvSpec, orvF, rvlSpec, rvlF, endsSpec, leavSpec, aboveSpec] at h) <;> (try simp only [natCast_eq] at h) <;> (try replace hr := hri hr) <;> (try (have hb : (_ : Bool) = _ := h; clear h; subst hb; (try replace hr := hri hr))) <;> first | exact Dd | refine Nx ?_)
    | ((with_reducible refine End.mk ?_); (try ((repeat (first | rw [ifP] at hr | rw [ifM] at hr | rw [if_pos rfl] at hr)); subst hr)))
    | with_reducible exact True.intro)
  all_goals first
    | (fail_if_success (with_reducible refine Exists.intro ?_ ?_)
       first
       | exact Cl1
       | (dsimp only [orvSpec, orvF, rvlSpec, rvlF, endsSpec, leavSpec, aboveSpec]; exact Cl1)
       | first | exact hlv | exact hrt
       | exact Cl2
       | (dsimp only [orvSpec, orvF, rvlSpec, rvlF, endsSpec, leavSpec, aboveSpec]; exact Cl2)
       | (dsimp only [orvSpec, orvF, rvlSpec, rvlF, endsSpec, leavSpec, aboveSpec] at *; exact Cl2))
    | skip
  refine ⟨⟨{k : Nat // k ≤ 2 * p2.length}, fun k => ⟨[(3, Sx.one (.ptr 0 0)), (4, Sx.one (.ptr 1 0)), (5, Sx.one (.ptr 2 0)), (8, Sx.one (.mp 3)), (32, Sx.one (.int .i64 (fun _ => 2 * (p2.length : Int)))), (33, Sx.one (.int .i64 (fun _ => k.1)))],
    [.cells 25 [.ro NodeE (fun _ => p1), .ro CabE (fun _ => p2)], .cells 32 [.ro Ii (fun _ => L)], .cells 70 [.ro RwE (fun _ => T)], .map (.agg DepE) .bool (fun _ => addsD [] (cC (p1, p2) (L, ()) (T, ()) k.1))]⟩, fun k => 2 * p2.length - k.1, ⟨0, Nat.zero_le _⟩⟩, ?_, fun (k : {k : Nat // k ≤ 2 * p2.length}) => ?_⟩
  · refine Pr ?_
    (try (conv in (SS.mk _ _) => dsimp only [orvSpec, orvF, rvlSpec, rvlF, endsSpec, leavSpec, aboveSpec]))
    refine Nx ?_
    repeat' (first
      | with_reducible (first | refine Ck.au ?_ | refine Ck.all_cons ?_ | refine Ck.all_nil ?_ | refine Ck.mk ?_ ?_)
      | (with_reducible (first | refine Both.mk (fun h => ?_) (fun h => ?_) | refine Alt.mk (fun h => ?_) (fun h => ?_) | refine Pick.mk (fun h => ?_) (fun l1 x l2 h => ?_)) <;> (have hk := h) <;> (try replace h := nh h) <;> (try dsimp only [orvSpec, orvF, rvlSpec, rvlF, endsSpec, leavSpec, aboveSpec] at h) <;> (try simp only [natCast_eq] at h) <;> (try replace hr := hri hr) <;> (try (have hb : (_ : Bool) = _ := h; clear h; subst hb; (try replace hr := hri hr))) <;> first | exact Dd | refine Nx ?_)
      | with_reducible refine End.mk ?_
      | with_reducible exact True.intro)
    all_goals first
      | (fail_if_success (with_reducible refine Exists.intro ?_ ?_)
         first
         | exact Cl1
         | (dsimp only [orvSpec, orvF, rvlSpec, rvlF, endsSpec, leavSpec, aboveSpec]; exact Cl1)
         | rfl
         | exact Cl2
         | (dsimp only [orvSpec, orvF, rvlSpec, rvlF, endsSpec, leavSpec, aboveSpec]; exact Cl2)
         | (dsimp only [orvSpec, orvF, rvlSpec, rvlF, endsSpec, leavSpec, aboveSpec] at *; exact Cl2))
      | skip
  obtain ⟨k, hk⟩ := k
  dsimp only
  have hnd : (keysD (addsD [] (cC (p1, p2) (L, ()) (T, ()) k))).Nodup := addsD_nodup _ List.nodup_nil
  have hle : (addsD [] (cC (p1, p2) (L, ()) (T, ()) k)).length ≤ 4194304 := by
    have h1 := addsD_len (cC (p1, p2) (L, ()) (T, ()) k) []
    have h2 := cC_len (p1, p2) (L, ()) (T, ()) k
    have h3 : k * (2 * p1.length) ≤ 64 * 32 := Nat.mul_le_mul (by omega) (by omega)
    simp only [List.length_nil] at h1 h2
    omega
  have hin := fun (h : ((k : Nat) : Int) < 2 * (p2.length : Int)) => ends_in (p := (p1, p2)) hE (c := (k : Int)) (by omega) h
  refine Pr ?_
  (try (conv in (SS.mk _ _) => dsimp only [orvSpec, orvF, rvlSpec, rvlF, endsSpec, leavSpec, aboveSpec]))
  refine Nx ?_
  repeat' (first
    | with_reducible (first | refine Ck.au ?_ | refine Ck.all_cons ?_ | refine Ck.all_nil ?_ | refine Ck.mk ?_ ?_)
    | (with_reducible (first | refine Both.mk (fun h => ?_) (fun h => ?_) | refine Alt.mk (fun h => ?_) (fun h => ?_) | refine Pick.mk (fun h => ?_) (fun l1 x l2 h => ?_)) <;> (have hk := h) <;> (try replace h := nh h) <;> (try dsimp only [orvSpec, orvF, rvlSpec, rvlF, endsSpec, leavSpec, aboveSpec] at h) <;> (try simp only [natCast_eq] at h) <;> (try replace hr := hri hr) <;> (try (have hb : (_ : Bool) = _ := h; clear h; subst hb; (try replace hr := hri hr))) <;> first | exact Dd | refine Nx ?_)
    | with_reducible refine End.mk ?_
    | with_reducible exact True.intro)
  all_goals first
    | (fail_if_success (with_reducible refine Exists.intro ?_ ?_)
       first
       | exact Cl1
       | (dsimp only [orvSpec, orvF, rvlSpec, rvlF, endsSpec, leavSpec, aboveSpec]; exact Cl1)
       | first | (subst hr; rfl) | (subst hr; have hk9 : k = 2 * p2.length := (by omega); rw [hk9]; exact List.map_id _)
       | exact Cl2
       | (dsimp only [orvSpec, orvF, rvlSpec, rvlF, endsSpec, leavSpec, aboveSpec]; exact Cl2)
       | (dsimp only [orvSpec, orvF, rvlSpec, rvlF, endsSpec, leavSpec, aboveSpec] at *; exact Cl2))
    | skip
  · have e9 := cC_succ (p1, p2) (L, ()) (T, ()) k
    rw [cP_neg1 h, List.append_nil] at e9
    refine ⟨⟨k + 1, by omega⟩, (by dsimp only; omega), ?_⟩
    refine Pr ?_
    (try (conv in (SS.mk _ _) => dsimp only [orvSpec, orvF, rvlSpec, rvlF, endsSpec, leavSpec, aboveSpec]))
    refine Nx ?_
    repeat' (first
      | with_reducible (first | refine Ck.au ?_ | refine Ck.all_cons ?_ | refine Ck.all_nil ?_ | refine Ck.mk ?_ ?_)
      | (with_reducible (first | refine Both.mk (fun h => ?_) (fun h => ?_) | refine Alt.mk (fun h => ?_) (fun h => ?_) | refine Pick.mk (fun h => ?_) (fun l1 x l2 h => ?_)) <;> (have hk := h) <;> (try replace h := nh h) <;> (try dsimp only [orvSpec, orvF, rvlSpec, rvlF, endsSpec, leavSpec, aboveSpec] at h) <;> (try simp only [natCast_eq] at h) <;> (try replace hr := hri hr) <;> (try (have hb : (_ : Bool) = _ := h; clear h; subst hb; (try replace hr := hri hr))) <;> first | exact Dd | refine Nx ?_)
      | with_reducible refine End.mk ?_
      | with_reducible exact True.intro)
    all_goals first
      | (fail_if_success (with_reducible refine Exists.intro ?_ ?_)
         first
         | exact Cl1
         | (dsimp only [orvSpec, orvF, rvlSpec, rvlF, endsSpec, leavSpec, aboveSpec]; exact Cl1)
         | first | exact (congrArg (addsD []) e9).symm | exact (List.map_id _).trans (congrArg (addsD []) e9).symm
         | exact Cl2
         | (dsimp only [orvSpec, orvF, rvlSpec, rvlF, endsSpec, leavSpec, aboveSpec]; exact Cl2)
         | (dsimp only [orvSpec, orvF, rvlSpec, rvlF, endsSpec, leavSpec, aboveSpec] at *; exact Cl2))
      | skip
  · have e9 := cC_succ (p1, p2) (L, ()) (T, ()) k
    rw [cP_neg2 h, List.append_nil] at e9
    refine ⟨⟨k + 1, by omega⟩, (by dsimp only; omega), ?_⟩
    refine Pr ?_
    (try (conv in (SS.mk _ _) => dsimp only [orvSpec, orvF, rvlSpec, rvlF, endsSpec, leavSpec, aboveSpec]))
    refine Nx ?_
    repeat' (first
      | with_reducible (first | refine Ck.au ?_ | refine Ck.all_cons ?_ | refine Ck.all_nil ?_ | refine Ck.mk ?_ ?_)
      | (with_reducible (first | refine Both.mk (fun h => ?_) (fun h => ?_) | refine Alt.mk (fun h => ?_) (fun h => ?_) | refine Pick.mk (fun h => ?_) (fun l1 x l2 h => ?_)) <;> (have hk := h) <;> (try replace h := nh h) <;> (try dsimp only [orvSpec, orvF, rvlSpec, rvlF, endsSpec, leavSpec, aboveSpec] at h) <;> (try simp only [natCast_eq] at h) <;> (try replace hr := hri hr) <;> (try (have hb : (_ : Bool) = _ := h; clear h; subst hb; (try replace hr := hri hr))) <;> first | exact Dd | refine Nx ?_)
      | with_reducible refine End.mk ?_
      | with_reducible exact True.intro)
    all_goals first
      | (fail_if_success (with_reducible refine Exists.intro ?_ ?_)
         first
         | exact Cl1
         | (dsimp only [orvSpec, orvF, rvlSpec, rvlF, endsSpec, leavSpec, aboveSpec]; exact Cl1)
         | first | exact (congrArg (addsD []) e9).symm | exact (List.map_id _).trans (congrArg (addsD []) e9).symm
         | exact Cl2
         | (dsimp only [orvSpec, orvF, rvlSpec, rvlF, endsSpec, leavSpec, aboveSpec]; exact Cl2)
         | (dsimp only [orvSpec, orvF, rvlSpec, rvlF, endsSpec, leavSpec, aboveSpec] at *; exact Cl2))
      | skip
  have hkl : (k : Int) < 2 * (p2.length : Int) := by assumption
  have hun : ¬ lat L (endsF (p1, p2) (k : Int)).1 < 0 := by assumption
  have hvn : ¬ lat L (endsF (p1, p2) (k : Int)).2.1 < 0 := by assumption
  obtain ⟨⟨hu0, hu1⟩, ⟨hv0, hv1⟩, hne⟩ := hin hkl
  dsimp only at hu1 hv1
  have hut : (endsF (p1, p2) (k : Int)).1.toNat < p1.length := (Int.toNat_lt hu0).2 hu1
  have hvt : (endsF (p1, p2) (k : Int)).2.1.toNat < p1.length := (Int.toNat_lt hv0).2 hv1
  have hk64 : 0 ≤ (k : Int) ∧ (k : Int) < 64 := ⟨by omega, by omega⟩
  have hv16 : (endsF (p1, p2) (k : Int)).2.1 < 64 := Int.lt_of_lt_of_le hv1 (by omega)
  have hul1 : (T.getD (endsF (p1, p2) (k : Int)).1.toNat ([], [])).1.length = p1.length := htb.r0 _ hut
  have hul2 : (T.getD (endsF (p1, p2) (k : Int)).1.toNat ([], [])).2.length = p1.length := htb.r1 _ hut
  have hvl1 : (T.getD (endsF (p1, p2) (k : Int)).2.1.toNat ([], [])).1.length = p1.length := htb.r0 _ hvt
  have hvl2 : (T.getD (endsF (p1, p2) (k : Int)).2.1.toNat ([], [])).2.length = p1.length := htb.r1 _ hvt
  have huT := ivx hT (o := (endsF (p1, p2) (k : Int)).1) ⟨hu0, hu1⟩
  have hvT := ivx hT (o := (endsF (p1, p2) (k : Int)).2.1) ⟨hv0, hv1⟩
  refine ⟨⟨{f : Nat // f ≤ 2}, fun f => ⟨[(3, Sx.one (.ptr 0 0)), (4, Sx.one (.ptr 1 0)), (5, Sx.one (.ptr 2 0)), (8, Sx.one (.mp 3)), (9, Sx.one (.int .i64 (fun _ => k))), (10, Sx.one (.int .i64 (fun _ => (endsF (p1, p2) (k : Int)).1))), (11, Sx.one (.int .i64 (fun _ => (endsF (p1, p2) (k : Int)).2.1))), (32, Sx.one (.int .i64 (fun _ => 2 * (p2.length : Int)))), (33, Sx.one (.int .i64 (fun _ => k))),
        (60, .val (.agg [.ro Ii (fun _ => (T.getD (endsF (p1, p2) (k : Int)).1.toNat ([], [])).1), .ro Ii (fun _ => (T.getD (endsF (p1, p2) (k : Int)).1.toNat ([], [])).2)])), (61, Sx.one (.int .i64 (fun _ => f.1)))],
      [.cells 25 [.ro NodeE (fun _ => p1), .ro CabE (fun _ => p2)], .cells 32 [.ro Ii (fun _ => L)], .cells 70 [.ro RwE (fun _ => T)], .map (.agg DepE) .bool (fun _ => addsD [] (cC (p1, p2) (L, ()) (T, ()) k ++ cPf (p1, p2) (L, ()) (T, ()) (k : Int) f.1))]⟩, fun f => 2 - f.1, ⟨0, Nat.zero_le _⟩⟩, ?_, fun (f : {f : Nat // f ≤ 2}) => ?_⟩
  · refine Pr ?_
    (try (conv in (SS.mk _ _) => dsimp only [orvSpec, orvF, rvlSpec, rvlF, endsSpec, leavSpec, aboveSpec]))
    refine Nx ?_
    repeat' (first
      | with_reducible (first | refine Ck.au ?_ | refine Ck.all_cons ?_ | refine Ck.all_nil ?_ | refine Ck.mk ?_ ?_)
      | (with_reducible (first | refine Both.mk (fun h => ?_) (fun h => ?_) | refine Alt.mk (fun h => ?_) (fun h => ?_) | refine Pick.mk (fun h => ?_) (fun l1 x l2 h => ?_)) <;> (have hk := h) <;> (try replace h := nh h) <;> (try dsimp only [orvSpec, orvF, rvlSpec, rvlF, endsSpec, leavSpec, aboveSpec] at h) <;> (try simp only [natCast_eq] at h) <;> (try replace hr := hri hr) <;> (try (have hb : (_ : Bool) = _ := h; clear h; subst hb; (try replace hr := hri hr))) <;> first | exact Dd | refine Nx ?_)
      | with_reducible refine End.mk ?_
      | with_reducible exact True.intro)
    all_goals first
      | (fail_if_success (with_reducible refine Exists.intro ?_ ?_)
         first
         | exact Cl1
         | (dsimp only [orvSpec, orvF, rvlSpec, rvlF, endsSpec, leavSpec, aboveSpec]; exact Cl1)
         | first | rfl | (simp [cPf]; done)
         | exact Cl2
         | (dsimp only [orvSpec, orvF, rvlSpec, rvlF, endsSpec, leavSpec, aboveSpec]; exact Cl2)
         | (dsimp only [orvSpec, orvF, rvlSpec, rvlF, endsSpec, leavSpec, aboveSpec] at *; exact Cl2))
      | skip
  obtain ⟨f, hf⟩ := f
  dsimp only
  by_cases hf2 : f = 2
  · subst hf2
    have e9 := cC_succ (p1, p2) (L, ()) (T, ()) k
    rw [cP_all hun hvn] at e9
    refine Pr ?_
    (try (conv in (SS.mk _ _) => dsimp only [orvSpec, orvF, rvlSpec, rvlF, endsSpec, leavSpec, aboveSpec]))
    refine Nx ?_
    repeat' (first
      | with_reducible (first | refine Ck.au ?_ | refine Ck.all_cons ?_ | refine Ck.all_nil ?_ | refine Ck.mk ?_ ?_)
      | (with_reducible (first | refine Both.mk (fun h => ?_) (fun h => ?_) | refine Alt.mk (fun h => ?_) (fun h => ?_) | refine Pick.mk (fun h => ?_) (fun l1 x l2 h => ?_)) <;> (have hk := h) <;> (try replace h := nh h) <;> (try dsimp only [orvSpec, orvF, rvlSpec, rvlF, endsSpec, leavSpec, aboveSpec] at h) <;> (try simp only [natCast_eq] at h) <;> (try replace hr := hri hr) <;> (try (have hb : (_ : Bool) = _ := h; clear h; subst hb; (try replace hr := hri hr))) <;> first | exact Dd | refine Nx ?_)
      | with_reducible refine End.mk ?_
      | with_reducible exact True.intro)
    all_goals first
      | (fail_if_success (with_reducible refine Exists.intro ?_ ?_)
         first
         | exact Cl1
         | (dsimp only [orvSpec, orvF, rvlSpec, rvlF, endsSpec, leavSpec, aboveSpec]; exact Cl1)
         | exact Cl2
         | (dsimp only [orvSpec, orvF, rvlSpec, rvlF, endsSpec, leavSpec, aboveSpec]; exact Cl2)
         | (dsimp only [orvSpec, orvF, rvlSpec, rvlF, endsSpec, leavSpec, aboveSpec] at *; exact Cl2))
      | skip
    refine ⟨⟨k + 1, by omega⟩, (by dsimp only; omega), ?_⟩
    refine Pr ?_
    (try (conv in (SS.mk _ _) => dsimp only [orvSpec, orvF, rvlSpec, rvlF, endsSpec, leavSpec, aboveSpec]))
    refine Nx ?_
    repeat' (first
      | with_reducible (first | refine Ck.au ?_ | refine Ck.all_cons ?_ | refine Ck.all_nil ?_ | refine Ck.mk ?_ ?_)
      | (with_reducible (first | refine Both.mk (fun h => ?_) (fun h => ?_) | refine Alt.mk (fun h => ?_) (fun h => ?_) | refine Pick.mk (fun h => ?_) (fun l1 x l2 h => ?_)) <;> (have hk := h) <;> (try replace h := nh h) <;> (try dsimp only [orvSpec, orvF, rvlSpec, rvlF, endsSpec, leavSpec, aboveSpec] at h) <;> (try simp only [natCast_eq] at h) <;> (try replace hr := hri hr) <;> (try (have hb : (_ : Bool) = _ := h; clear h; subst hb; (try replace hr := hri hr))) <;> first | exact Dd | refine Nx ?_)
      | with_reducible refine End.mk ?_
      | with_reducible exact True.intro)
    all_goals first
      | (fail_if_success (with_reducible refine Exists.intro ?_ ?_)
         first
         | exact Cl1
         | (dsimp only [orvSpec, orvF, rvlSpec, rvlF, endsSpec, leavSpec, aboveSpec]; exact Cl1)
         | first | exact (congrArg (addsD []) e9).symm | exact (List.map_id _).trans (congrArg (addsD []) e9).symm
         | exact Cl2
         | (dsimp only [orvSpec, orvF, rvlSpec, rvlF, endsSpec, leavSpec, aboveSpec]; exact Cl2)
         | (dsimp only [orvSpec, orvF, rvlSpec, rvlF, endsSpec, leavSpec, aboveSpec] at *; exact Cl2))
      | skip
  have hf01 : f = 0 ∨ f = 1 := by omega
  rcases hf01 with rfl | rfl
  · refine Pr ?_
    (try (conv in (SS.mk _ _) => dsimp only [orvSpec, orvF, rvlSpec, rvlF, endsSpec, leavSpec, aboveSpec]))
    refine Nx ?_
    repeat' (first
      | with_reducible (first | refine Ck.au ?_ | refine Ck.all_cons ?_ | refine Ck.all_nil ?_ | refine Ck.mk ?_ ?_)
      | (with_reducible (first | refine Both.mk (fun h => ?_) (fun h => ?_) | refine Alt.mk (fun h => ?_) (fun h => ?_) | refine Pick.mk (fun h => ?_) (fun l1 x l2 h => ?_)) <;> (have hk := h) <;> (try replace h := nh h) <;> (try dsimp only [orvSpec, orvF, rvlSpec, rvlF, endsSpec, leavSpec, aboveSpec] at h) <;> (try simp only [natCast_eq] at h) <;> (try replace hr := hri hr) <;> (try (have hb : (_ : Bool) = _ := h; clear h; subst hb; (try replace hr := hri hr))) <;> first | exact Dd | refine Nx ?_)
      | with_reducible refine End.mk ?_
      | with_reducible exact True.intro)
    all_goals first
      | (fail_if_success (with_reducible refine Exists.intro ?_ ?_)
         first
         | exact Cl1
         | (dsimp only [orvSpec, orvF, rvlSpec, rvlF, endsSpec, leavSpec, aboveSpec]; exact Cl1)
         | exact Cl2
         | (dsimp only [orvSpec, orvF, rvlSpec, rvlF, endsSpec, leavSpec, aboveSpec]; exact Cl2)
         | (dsimp only [orvSpec, orvF, rvlSpec, rvlF, endsSpec, leavSpec, aboveSpec] at *; exact Cl2))
      | skip
    all_goals
      first
      | (exfalso; exact (by assumption : ¬ ((0 : Nat) : Int) = Int.ofNat 0) rfl)
      | (exfalso; exact no10v (by assumption))
      | skip
    · refine ⟨⟨{t : Nat // t ≤ p1.length}, fun t => ⟨[(3, Sx.one (.ptr 0 0)), (4, Sx.one (.ptr 1 0)), (5, Sx.one (.ptr 2 0)), (8, Sx.one (.mp 3)), (9, Sx.one (.int .i64 (fun _ => k))), (10, Sx.one (.int .i64 (fun _ => (endsF (p1, p2) (k : Int)).1))), (11, Sx.one (.int .i64 (fun _ => (endsF (p1, p2) (k : Int)).2.1))), (14, Sx.one (.li .i64 0)), (32, Sx.one (.int .i64 (fun _ => 2 * (p2.length : Int)))), (33, Sx.one (.int .i64 (fun _ => k))),
          (60, .val (.agg [.ro Ii (fun _ => (T.getD (endsF (p1, p2) (k : Int)).1.toNat ([], [])).1), .ro Ii (fun _ => (T.getD (endsF (p1, p2) (k : Int)).1.toNat ([], [])).2)])), (61, Sx.one (.int .i64 (fun _ => ((0 : Nat) : Int)))), (73, Sx.one (.ro Ii (fun _ => (T.getD (endsF (p1, p2) (k : Int)).1.toNat ([], [])).1))), (74, Sx.one (.int .i64 (fun _ => p1.length))), (75, Sx.one (.int .i64 (fun _ => t.1)))],
        [.cells 25 [.ro NodeE (fun _ => p1), .ro CabE (fun _ => p2)], .cells 32 [.ro Ii (fun _ => L)], .cells 70 [.ro RwE (fun _ => T)], .map (.agg DepE) .bool (fun _ => addsD [] (cC (p1, p2) (L, ()) (T, ()) k ++ (cPf (p1, p2) (L, ()) (T, ()) (k : Int) 0 ++ cT (p1, p2) (L, ()) (T, ()) (k : Int) 0 t.1)))]⟩, fun t => p1.length - t.1, ⟨0, Nat.zero_le _⟩⟩, ?_, fun (t : {t : Nat // t ≤ p1.length}) => ?_⟩
      · refine Pr ?_
        (try (conv in (SS.mk _ _) => dsimp only [orvSpec, orvF, rvlSpec, rvlF, endsSpec, leavSpec, aboveSpec]))
        refine Nx ?_
        repeat' (first
          | with_reducible (first | refine Ck.au ?_ | refine Ck.all_cons ?_ | refine Ck.all_nil ?_ | refine Ck.mk ?_ ?_)
          | (with_reducible (first | refine Both.mk (fun h => ?_) (fun h => ?_) | refine Alt.mk (fun h => ?_) (fun h => ?_) | refine Pick.mk (fun h => ?_) (fun l1 x l2 h => ?_)) <;> (have hk := h) <;> (try replace h := nh h) <;> (try dsimp only [orvSpec, orvF, rvlSpec, rvlF, endsSpec, leavSpec, aboveSpec] at h) <;> (try simp only [natCast_eq] at h) <;> (try replace hr := hri hr) <;> (try (have hb : (_ : Bool) = _ := h; clear h; subst hb; (try replace hr := hri hr))) <;> first | exact Dd | refine Nx ?_)
          | with_reducible refine End.mk ?_
          | with_reducible exact True.intro)
        all_goals first
          | (fail_if_success (with_reducible refine Exists.intro ?_ ?_)
             first
             | exact Cl1
             | (dsimp only [orvSpec, orvF, rvlSpec, rvlF, endsSpec, leavSpec, aboveSpec]; exact Cl1)
             | first | (rw [hul1]; done) | rfl | (simp [cT]; done)
             | exact Cl2
             | (dsimp only [orvSpec, orvF, rvlSpec, rvlF, endsSpec, leavSpec, aboveSpec]; exact Cl2)
             | (dsimp only [orvSpec, orvF, rvlSpec, rvlF, endsSpec, leavSpec, aboveSpec] at *; exact Cl2))
          | skip
      obtain ⟨t, ht⟩ := t
      dsimp only
      have haft := aft_up (p := (p1, p2)) (o := (L, ())) (c := (k : Int)) (by assumption)
      have n1 := fun h => ct_no1 (p := (p1, p2)) (o := (L, ())) (T := (T, ())) (c := (k : Int)) (ph := 0) (t := t) h
      have n2 := fun h => ct_no2 (p := (p1, p2)) (o := (L, ())) (T := (T, ())) (c := (k : Int)) (ph := 0) (t := t) haft h
      have y1 := fun h h2 => ct_yes (p := (p1, p2)) (o := (L, ())) (T := (T, ())) (c := (k : Int)) (ph := 0) (t := t) haft h h2
      have tx := fun (h : ((t : Nat) : Int) < (p1.length : Int)) => ivx hul1 (o := (t : Int)) ⟨by omega, h⟩
      have tv := fun (h : ((t : Nat) : Int) < (p1.length : Int)) => ivx hvl1 (o := (t : Int)) ⟨by omega, h⟩
      have okn := fun (h : ((t : Nat) : Int) < (p1.length : Int)) (h2 : 0 ≤ (T.getD (endsF (p1, p2) (k : Int)).2.1.toNat ([], [])).1.getD t 0) => (okE_lt (htb.e0 (endsF (p1, p2) (k : Int)).2.1.toNat t hvt (by show _ < p1.length; omega)) h2).1
      dsimp only [rowT] at n1 n2 y1
      refine Pr ?_
      (try (conv in (SS.mk _ _) => dsimp only [orvSpec, orvF, rvlSpec, rvlF, endsSpec, leavSpec, aboveSpec]))
      refine Nx ?_
      repeat' (first
        | with_reducible (first | refine Ck.au ?_ | refine Ck.all_cons ?_ | refine Ck.all_nil ?_ | refine Ck.mk ?_ ?_)
        | (with_reducible (first | refine Both.mk (fun h => ?_) (fun h => ?_) | refine Alt.mk (fun h => ?_) (fun h => ?_) | refine Pick.mk (fun h => ?_) (fun l1 x l2 h => ?_)) <;> (have hk := h) <;> (try replace h := nh h) <;> (try dsimp only [orvSpec, orvF, rvlSpec, rvlF, endsSpec, leavSpec, aboveSpec] at h) <;> (try simp only [natCast_eq] at h) <;> (try replace hr := hri hr) <;> (try (have hb : (_ : Bool) = _ := h; clear h; subst hb; (try replace hr := hri hr))) <;> first | exact Dd | refine Nx ?_)
        | with_reducible refine End.mk ?_
        | with_reducible exact True.intro)
      all_goals first
        | (fail_if_success (with_reducible refine Exists.intro ?_ ?_)
           first
           | exact Cl1
           | (dsimp only [orvSpec, orvF, rvlSpec, rvlF, endsSpec, leavSpec, aboveSpec]; exact Cl1)
           | first | (dsimp only; simp only [pair_eta, map_idL]; exact ⟨hc, (by assumption), okn (by assumption) (by assumption)⟩) | (dsimp only; simp only [pair_eta, map_idL]; exact key3 hk64 (leav_in (p := (p1, p2)) hc (by assumption) (okn (by assumption) (by assumption))) ⟨hv0, hv16⟩)
           | exact Cl2
           | (dsimp only [orvSpec, orvF, rvlSpec, rvlF, endsSpec, leavSpec, aboveSpec]; exact Cl2)
           | (dsimp only [orvSpec, orvF, rvlSpec, rvlF, endsSpec, leavSpec, aboveSpec] at *; exact Cl2))
        | skip
      · have e9 := congrArg (fun m => addsD [] (cC (p1, p2) (L, ()) (T, ()) k ++ (cPf (p1, p2) (L, ()) (T, ()) (k : Int) 0 ++ m))) (y1 (by assumption) (by assumption))
        (try dsimp only at e9)
        refine ⟨⟨t + 1, by omega⟩, (by dsimp only; omega), ?_⟩
        refine Pr ?_
        (try (conv in (SS.mk _ _) => dsimp only [orvSpec, orvF, rvlSpec, rvlF, endsSpec, leavSpec, aboveSpec]))
        refine Nx ?_
        repeat' (first
          | with_reducible (first | refine Ck.au ?_ | refine Ck.all_cons ?_ | refine Ck.all_nil ?_ | refine Ck.mk ?_ ?_)
          | (with_reducible (first | refine Both.mk (fun h => ?_) (fun h => ?_) | refine Alt.mk (fun h => ?_) (fun h => ?_) | refine Pick.mk (fun h => ?_) (fun l1 x l2 h => ?_)) <;> (have hk := h) <;> (try replace h := nh h) <;> (try dsimp only [orvSpec, orvF, rvlSpec, rvlF, endsSpec, leavSpec, aboveSpec] at h) <;> (try simp only [natCast_eq] at h) <;> (try replace hr := hri hr) <;> (try (have hb : (_ : Bool) = _ := h; clear h; subst hb; (try replace hr := hri hr))) <;> first | exact Dd | refine Nx ?_)
          | with_reducible refine End.mk ?_
          | with_reducible exact True.intro)
        all_goals first
          | (fail_if_success (with_reducible refine Exists.intro ?_ ?_)
             first
             | exact Cl1
             | (dsimp only [orvSpec, orvF, rvlSpec, rvlF, endsSpec, leavSpec, aboveSpec]; exact Cl1)
             | first | exact (List.map_id _).trans (e9.trans (addsD_snoc3 _ _ _ _ _)).symm | (simp only [pair_eta, map_idL]; exact (e9.trans (addsD_snoc3 _ _ _ _ _)).symm)
             | exact Cl2
             | (dsimp only [orvSpec, orvF, rvlSpec, rvlF, endsSpec, leavSpec, aboveSpec]; exact Cl2)
             | (dsimp only [orvSpec, orvF, rvlSpec, rvlF, endsSpec, leavSpec, aboveSpec] at *; exact Cl2))
          | skip
      · have e9 := congrArg (fun m => addsD [] (cC (p1, p2) (L, ()) (T, ()) k ++ (cPf (p1, p2) (L, ()) (T, ()) (k : Int) 0 ++ m))) (n2 (by assumption))
        (try dsimp only at e9)
        refine ⟨⟨t + 1, by omega⟩, (by dsimp only; omega), ?_⟩
        refine Pr ?_
        (try (conv in (SS.mk _ _) => dsimp only [orvSpec, orvF, rvlSpec, rvlF, endsSpec, leavSpec, aboveSpec]))
        refine Nx ?_
        repeat' (first
          | with_reducible (first | refine Ck.au ?_ | refine Ck.all_cons ?_ | refine Ck.all_nil ?_ | refine Ck.mk ?_ ?_)
          | (with_reducible (first | refine Both.mk (fun h => ?_) (fun h => ?_) | refine Alt.mk (fun h => ?_) (fun h => ?_) | refine Pick.mk (fun h => ?_) (fun l1 x l2 h => ?_)) <;> (have hk := h) <;> (try replace h := nh h) <;> (try dsimp only [orvSpec, orvF, rvlSpec, rvlF, endsSpec, leavSpec, aboveSpec] at h) <;> (try simp only [natCast_eq] at h) <;> (try replace hr := hri hr) <;> (try (have hb : (_ : Bool) = _ := h; clear h; subst hb; (try replace hr := hri hr))) <;> first | exact Dd | refine Nx ?_)
          | with_reducible refine End.mk ?_
          | with_reducible exact True.intro)
        all_goals first
          | (fail_if_success (with_reducible refine Exists.intro ?_ ?_)
             first
             | exact Cl1
             | (dsimp only [orvSpec, orvF, rvlSpec, rvlF, endsSpec, leavSpec, aboveSpec]; exact Cl1)
             | exact (List.map_id _).trans e9.symm
             | exact Cl2
             | (dsimp only [orvSpec, orvF, rvlSpec, rvlF, endsSpec, leavSpec, aboveSpec]; exact Cl2)
             | (dsimp only [orvSpec, orvF, rvlSpec, rvlF, endsSpec, leavSpec, aboveSpec] at *; exact Cl2))
          | skip
      · have e9 := congrArg (fun m => addsD [] (cC (p1, p2) (L, ()) (T, ()) k ++ (cPf (p1, p2) (L, ()) (T, ()) (k : Int) 0 ++ m))) (n1 (by assumption))
        (try dsimp only at e9)
        refine ⟨⟨t + 1, by omega⟩, (by dsimp only; omega), ?_⟩
        refine Pr ?_
        (try (conv in (SS.mk _ _) => dsimp only [orvSpec, orvF, rvlSpec, rvlF, endsSpec, leavSpec, aboveSpec]))
        refine Nx ?_
        repeat' (first
          | with_reducible (first | refine Ck.au ?_ | refine Ck.all_cons ?_ | refine Ck.all_nil ?_ | refine Ck.mk ?_ ?_)
          | (with_reducible (first | refine Both.mk (fun h => ?_) (fun h => ?_) | refine Alt.mk (fun h => ?_) (fun h => ?_) | refine Pick.mk (fun h => ?_) (fun l1 x l2 h => ?_)) <;> (have hk := h) <;> (try replace h := nh h) <;> (try dsimp only [orvSpec, orvF, rvlSpec, rvlF, endsSpec, leavSpec, aboveSpec] at h) <;> (try simp only [natCast_eq] at h) <;> (try replace hr := hri hr) <;> (try (have hb : (_ : Bool) = _ := h; clear h; subst hb; (try replace hr := hri hr))) <;> first | exact Dd | refine Nx ?_)
          | with_reducible refine End.mk ?_
          | with_reducible exact True.intro)
        all_goals first
          | (fail_if_success (with_reducible refine Exists.intro ?_ ?_)
             first
             | exact Cl1
             | (dsimp only [orvSpec, orvF, rvlSpec, rvlF, endsSpec, leavSpec, aboveSpec]; exact Cl1)
             | exact (List.map_id _).trans e9.symm
             | exact Cl2
             | (dsimp only [orvSpec, orvF, rvlSpec, rvlF, endsSpec, leavSpec, aboveSpec]; exact Cl2)
             | (dsimp only [orvSpec, orvF, rvlSpec, rvlF, endsSpec, leavSpec, aboveSpec] at *; exact Cl2))
          | skip
      have ht9 : t = p1.length := by omega
      rw [ht9]
      refine ⟨⟨1, by omega⟩, (by dsimp only; omega), ?_⟩
      refine Pr ?_
      (try (conv in (SS.mk _ _) => dsimp only [orvSpec, orvF, rvlSpec, rvlF, endsSpec, leavSpec, aboveSpec]))
      refine Nx ?_
      repeat' (first
        | with_reducible (first | refine Ck.au ?_ | refine Ck.all_cons ?_ | refine Ck.all_nil ?_ | refine Ck.mk ?_ ?_)
        | (with_reducible (first | refine Both.mk (fun h => ?_) (fun h => ?_) | refine Alt.mk (fun h => ?_) (fun h => ?_) | refine Pick.mk (fun h => ?_) (fun l1 x l2 h => ?_)) <;> (have hk := h) <;> (try replace h := nh h) <;> (try dsimp only [orvSpec, orvF, rvlSpec, rvlF, endsSpec, leavSpec, aboveSpec] at h) <;> (try simp only [natCast_eq] at h) <;> (try replace hr := hri hr) <;> (try (have hb : (_ : Bool) = _ := h; clear h; subst hb; (try replace hr := hri hr))) <;> first | exact Dd | refine Nx ?_)
        | with_reducible refine End.mk ?_
        | with_reducible exact True.intro)
      all_goals first
        | (fail_if_success (with_reducible refine Exists.intro ?_ ?_)
           first
           | exact Cl1
           | (dsimp only [orvSpec, orvF, rvlSpec, rvlF, endsSpec, leavSpec, aboveSpec]; exact Cl1)
           | exact List.map_id _
           | exact Cl2
           | (dsimp only [orvSpec, orvF, rvlSpec, rvlF, endsSpec, leavSpec, aboveSpec]; exact Cl2)
           | (dsimp only [orvSpec, orvF, rvlSpec, rvlF, endsSpec, leavSpec, aboveSpec] at *; exact Cl2))
        | skip
    · refine ⟨⟨{t : Nat // t ≤ p1.length}, fun t => ⟨[(3, Sx.one (.ptr 0 0)), (4, Sx.one (.ptr 1 0)), (5, Sx.one (.ptr 2 0)), (8, Sx.one (.mp 3)), (9, Sx.one (.int .i64 (fun _ => k))), (10, Sx.one (.int .i64 (fun _ => (endsF (p1, p2) (k : Int)).1))), (11, Sx.one (.int .i64 (fun _ => (endsF (p1, p2) (k : Int)).2.1))), (14, Sx.one (.li .i64 1)), (32, Sx.one (.int .i64 (fun _ => 2 * (p2.length : Int)))), (33, Sx.one (.int .i64 (fun _ => k))),
          (60, .val (.agg [.ro Ii (fun _ => (T.getD (endsF (p1, p2) (k : Int)).1.toNat ([], [])).1), .ro Ii (fun _ => (T.getD (endsF (p1, p2) (k : Int)).1.toNat ([], [])).2)])), (61, Sx.one (.int .i64 (fun _ => ((0 : Nat) : Int)))), (73, Sx.one (.ro Ii (fun _ => (T.getD (endsF (p1, p2) (k : Int)).1.toNat ([], [])).1))), (74, Sx.one (.int .i64 (fun _ => p1.length))), (75, Sx.one (.int .i64 (fun _ => t.1)))],
        [.cells 25 [.ro NodeE (fun _ => p1), .ro CabE (fun _ => p2)], .cells 32 [.ro Ii (fun _ => L)], .cells 70 [.ro RwE (fun _ => T)], .map (.agg DepE) .bool (fun _ => addsD [] (cC (p1, p2) (L, ()) (T, ()) k ++ (cPf (p1, p2) (L, ()) (T, ()) (k : Int) 0 ++ cT (p1, p2) (L, ()) (T, ()) (k : Int) 0 t.1)))]⟩, fun t => p1.length - t.1, ⟨0, Nat.zero_le _⟩⟩, ?_, fun (t : {t : Nat // t ≤ p1.length}) => ?_⟩
      · refine Pr ?_
        (try (conv in (SS.mk _ _) => dsimp only [orvSpec, orvF, rvlSpec, rvlF, endsSpec, leavSpec, aboveSpec]))
        refine Nx ?_
        repeat' (first
          | with_reducible (first | refine Ck.au ?_ | refine Ck.all_cons ?_ | refine Ck.all_nil ?_ | refine Ck.mk ?_ ?_)
          | (with_reducible (first | refine Both.mk (fun h => ?_) (fun h => ?_) | refine Alt.mk (fun h => ?_) (fun h => ?_) | refine Pick.mk (fun h => ?_) (fun l1 x l2 h => ?_)) <;> (have hk := h) <;> (try replace h := nh h) <;> (try dsimp only [orvSpec, orvF, rvlSpec, rvlF, endsSpec, leavSpec, aboveSpec] at h) <;> (try simp only [natCast_eq] at h) <;> (try replace hr := hri hr) <;> (try (have hb : (_ : Bool) = _ := h; clear h; subst hb; (try replace hr := hri hr))) <;> first | exact Dd | refine Nx ?_)
          | with_reducible refine End.mk ?_
          | with_reducible exact True.intro)
        all_goals first
          | (fail_if_success (with_reducible refine Exists.intro ?_ ?_)
             first
             | exact Cl1
             | (dsimp only [orvSpec, orvF, rvlSpec, rvlF, endsSpec, leavSpec, aboveSpec]; exact Cl1)
             | first | (rw [hul1]; done) | rfl | (simp [cT]; done)
             | exact Cl2
             | (dsimp only [orvSpec, orvF, rvlSpec, rvlF, endsSpec, leavSpec, aboveSpec]; exact Cl2)
             | (dsimp only [orvSpec, orvF, rvlSpec, rvlF, endsSpec, leavSpec, aboveSpec] at *; exact Cl2))
          | skip
      obtain ⟨t, ht⟩ := t
      dsimp only
      have haft := aft_dn (p := (p1, p2)) (o := (L, ())) (c := (k : Int)) (by assumption)
      have n1 := fun h => ct_no1 (p := (p1, p2)) (o := (L, ())) (T := (T, ())) (c := (k : Int)) (ph := 0) (t := t) h
      have n2 := fun h => ct_no2 (p := (p1, p2)) (o := (L, ())) (T := (T, ())) (c := (k : Int)) (ph := 0) (t := t) haft h
      have y1 := fun h h2 => ct_yes (p := (p1, p2)) (o := (L, ())) (T := (T, ())) (c := (k : Int)) (ph := 0) (t := t) haft h h2
      have tx := fun (h : ((t : Nat) : Int) < (p1.length : Int)) => ivx hul1 (o := (t : Int)) ⟨by omega, h⟩
      have tv := fun (h : ((t : Nat) : Int) < (p1.length : Int)) => ivx hvl2 (o := (t : Int)) ⟨by omega, h⟩
      have okn := fun (h : ((t : Nat) : Int) < (p1.length : Int)) (h2 : 0 ≤ (T.getD (endsF (p1, p2) (k : Int)).2.1.toNat ([], [])).2.getD t 0) => (okE_lt (htb.e1 (endsF (p1, p2) (k : Int)).2.1.toNat t hvt (by show _ < p1.length; omega)) h2).1
      dsimp only [rowT] at n1 n2 y1
      refine Pr ?_
      (try (conv in (SS.mk _ _) => dsimp only [orvSpec, orvF, rvlSpec, rvlF, endsSpec, leavSpec, aboveSpec]))
      refine Nx ?_
      repeat' (first
        | with_reducible (first | refine Ck.au ?_ | refine Ck.all_cons ?_ | refine Ck.all_nil ?_ | refine Ck.mk ?_ ?_)
        | (with_reducible (first | refine Both.mk (fun h => ?_) (fun h => ?_) | refine Alt.mk (fun h => ?_) (fun h => ?_) | refine Pick.mk (fun h => ?_) (fun l1 x l2 h => ?_)) <;> (have hk := h) <;> (try replace h := nh h) <;> (try dsimp only [orvSpec, orvF, rvlSpec, rvlF, endsSpec, leavSpec, aboveSpec] at h) <;> (try simp only [natCast_eq] at h) <;> (try replace hr := hri hr) <;> (try (have hb : (_ : Bool) = _ := h; clear h; subst hb; (try replace hr := hri hr))) <;> first | exact Dd | refine Nx ?_)
        | with_reducible refine End.mk ?_
        | with_reducible exact True.intro)
      all_goals first
        | (fail_if_success (with_reducible refine Exists.intro ?_ ?_)
           first
           | exact Cl1
           | (dsimp only [orvSpec, orvF, rvlSpec, rvlF, endsSpec, leavSpec, aboveSpec]; exact Cl1)
           | first | (dsimp only; simp only [pair_eta, map_idL]; exact ⟨hc, (by assumption), okn (by assumption) (by assumption)⟩) | (dsimp only; simp only [pair_eta, map_idL]; exact key3 hk64 (leav_in (p := (p1, p2)) hc (by assumption) (okn (by assumption) (by assumption))) ⟨hv0, hv16⟩)
           | exact Cl2
           | (dsimp only [orvSpec, orvF, rvlSpec, rvlF, endsSpec, leavSpec, aboveSpec]; exact Cl2)
           | (dsimp only [orvSpec, orvF, rvlSpec, rvlF, endsSpec, leavSpec, aboveSpec] at *; exact Cl2))
        | skip
      · have e9 := congrArg (fun m => addsD [] (cC (p1, p2) (L, ()) (T, ()) k ++ (cPf (p1, p2) (L, ()) (T, ()) (k : Int) 0 ++ m))) (y1 (by assumption) (by assumption))
        (try dsimp only at e9)
        refine ⟨⟨t + 1, by omega⟩, (by dsimp only; omega), ?_⟩
        refine Pr ?_
        (try (conv in (SS.mk _ _) => dsimp only [orvSpec, orvF, rvlSpec, rvlF, endsSpec, leavSpec, aboveSpec]))
        refine Nx ?_
        repeat' (first
          | with_reducible (first | refine Ck.au ?_ | refine Ck.all_cons ?_ | refine Ck.all_nil ?_ | refine Ck.mk ?_ ?_)
          | (with_reducible (first | refine Both.mk (fun h => ?_) (fun h => ?_) | refine Alt.mk (fun h => ?_) (fun h => ?_) | refine Pick.mk (fun h => ?_) (fun l1 x l2 h => ?_)) <;> (have hk := h) <;> (try replace h := nh h) <;> (try dsimp only [orvSpec, orvF, rvlSpec, rvlF, endsSpec, leavSpec, aboveSpec] at h) <;> (try simp only [natCast_eq] at h) <;> (try replace hr := hri hr) <;> (try (have hb : (_ : Bool) = _ := h; clear h; subst hb; (try replace hr := hri hr))) <;> first | exact Dd | refine Nx ?_)
          | with_reducible refine End.mk ?_
          | with_reducible exact True.intro)
        all_goals first
          | (fail_if_success (with_reducible refine Exists.intro ?_ ?_)
             first
             | exact Cl1
             | (dsimp only [orvSpec, orvF, rvlSpec, rvlF, endsSpec, leavSpec, aboveSpec]; exact Cl1)
             | first | exact (List.map_id _).trans (e9.trans (addsD_snoc3 _ _ _ _ _)).symm | (simp only [pair_eta, map_idL]; exact (e9.trans (addsD_snoc3 _ _ _ _ _)).symm)
             | exact Cl2
             | (dsimp only [orvSpec, orvF, rvlSpec, rvlF, endsSpec, leavSpec, aboveSpec]; exact Cl2)
             | (dsimp only [orvSpec, orvF, rvlSpec, rvlF, endsSpec, leavSpec, aboveSpec] at *; exact Cl2))
          | skip
      · have e9 := congrArg (fun m => addsD [] (cC (p1, p2) (L, ()) (T, ()) k ++ (cPf (p1, p2) (L, ()) (T, ()) (k : Int) 0 ++ m))) (n2 (by assumption))
        (try dsimp only at e9)
        refine ⟨⟨t + 1, by omega⟩, (by dsimp only; omega), ?_⟩
        refine Pr ?_
        (try (conv in (SS.mk _ _) => dsimp only [orvSpec, orvF, rvlSpec, rvlF, endsSpec, leavSpec, aboveSpec]))
        refine Nx ?_
        repeat' (first
          | with_reducible (first | refine Ck.au ?_ | refine Ck.all_cons ?_ | refine Ck.all_nil ?_ | refine Ck.mk ?_ ?_)
          | (with_reducible (first | refine Both.mk (fun h => ?_) (fun h => ?_) | refine Alt.mk (fun h => ?_) (fun h => ?_) | refine Pick.mk (fun h => ?_) (fun l1 x l2 h => ?_)) <;> (have hk := h) <;> (try replace h := nh h) <;> (try dsimp only [orvSpec, orvF, rvlSpec, rvlF, endsSpec, leavSpec, aboveSpec] at h) <;> (try simp only [natCast_eq] at h) <;> (try replace hr := hri hr) <;> (try (have hb : (_ : Bool) = _ := h; clear h; subst hb; (try replace hr := hri hr))) <;> first | exact Dd | refine Nx ?_)
          | with_reducible refine End.mk ?_
          | with_reducible exact True.intro)
        all_goals first
          | (fail_if_success (with_reducible refine Exists.intro ?_ ?_)
             first
             | exact Cl1
             | (dsimp only [orvSpec, orvF, rvlSpec, rvlF, endsSpec, leavSpec, aboveSpec]; exact Cl1)
             | exact (List.map_id _).trans e9.symm
             | exact Cl2
             | (dsimp only [orvSpec, orvF, rvlSpec, rvlF, endsSpec, leavSpec, aboveSpec]; exact Cl2)
             | (dsimp only [orvSpec, orvF, rvlSpec, rvlF, endsSpec, leavSpec, aboveSpec] at *; exact Cl2))
          | skip
      · have e9 := congrArg (fun m => addsD [] (cC (p1, p2) (L, ()) (T, ()) k ++ (cPf (p1, p2) (L, ()) (T, ()) (k : Int) 0 ++ m))) (n1 (by assumption))
        (try dsimp only at e9)
        refine ⟨⟨t + 1, by omega⟩, (by dsimp only; omega), ?_⟩
        refine Pr ?_
        (try (conv in (SS.mk _ _) => dsimp only [orvSpec, orvF, rvlSpec, rvlF, endsSpec, leavSpec, aboveSpec]))
        refine Nx ?_
        repeat' (first
          | with_reducible (first | refine Ck.au ?_ | refine Ck.all_cons ?_ | refine Ck.all_nil ?_ | refine Ck.mk ?_ ?_)
          | (with_reducible (first | refine Both.mk (fun h => ?_) (fun h => ?_) | refine Alt.mk (fun h => ?_) (fun h => ?_) | refine Pick.mk (fun h => ?_) (fun l1 x l2 h => ?_)) <;> (have hk := h) <;> (try replace h := nh h) <;> (try dsimp only [orvSpec, orvF, rvlSpec, rvlF, endsSpec, leavSpec, aboveSpec] at h) <;> (try simp only [natCast_eq] at h) <;> (try replace hr := hri hr) <;> (try (have hb : (_ : Bool) = _ := h; clear h; subst hb; (try replace hr := hri hr))) <;> first | exact Dd | refine Nx ?_)
          | with_reducible refine End.mk ?_
          | with_reducible exact True.intro)
        all_goals first
          | (fail_if_success (with_reducible refine Exists.intro ?_ ?_)
             first
             | exact Cl1
             | (dsimp only [orvSpec, orvF, rvlSpec, rvlF, endsSpec, leavSpec, aboveSpec]; exact Cl1)
             | exact (List.map_id _).trans e9.symm
             | exact Cl2
             | (dsimp only [orvSpec, orvF, rvlSpec, rvlF, endsSpec, leavSpec, aboveSpec]; exact Cl2)
             | (dsimp only [orvSpec, orvF, rvlSpec, rvlF, endsSpec, leavSpec, aboveSpec] at *; exact Cl2))
          | skip
      have ht9 : t = p1.length := by omega
      rw [ht9]
      refine ⟨⟨1, by omega⟩, (by dsimp only; omega), ?_⟩
      refine Pr ?_
      (try (conv in (SS.mk _ _) => dsimp only [orvSpec, orvF, rvlSpec, rvlF, endsSpec, leavSpec, aboveSpec]))
      refine Nx ?_
      repeat' (first
        | with_reducible (first | refine Ck.au ?_ | refine Ck.all_cons ?_ | refine Ck.all_nil ?_ | refine Ck.mk ?_ ?_)
        | (with_reducible (first | refine Both.mk (fun h => ?_) (fun h => ?_) | refine Alt.mk (fun h => ?_) (fun h => ?_) | refine Pick.mk (fun h => ?_) (fun l1 x l2 h => ?_)) <;> (have hk := h) <;> (try replace h := nh h) <;> (try dsimp only [orvSpec, orvF, rvlSpec, rvlF, endsSpec, leavSpec, aboveSpec] at h) <;> (try simp only [natCast_eq] at h) <;> (try replace hr := hri hr) <;> (try (have hb : (_ : Bool) = _ := h; clear h; subst hb; (try replace hr := hri hr))) <;> first | exact Dd | refine Nx ?_)
        | with_reducible refine End.mk ?_
        | with_reducible exact True.intro)
      all_goals first
        | (fail_if_success (with_reducible refine Exists.intro ?_ ?_)
           first
           | exact Cl1
           | (dsimp only [orvSpec, orvF, rvlSpec, rvlF, endsSpec, leavSpec, aboveSpec]; exact Cl1)
           | exact List.map_id _
           | exact Cl2
           | (dsimp only [orvSpec, orvF, rvlSpec, rvlF, endsSpec, leavSpec, aboveSpec]; exact Cl2)
           | (dsimp only [orvSpec, orvF, rvlSpec, rvlF, endsSpec, leavSpec, aboveSpec] at *; exact Cl2))
        | skip
  · refine Pr ?_
    (try (conv in (SS.mk _ _) => dsimp only [orvSpec, orvF, rvlSpec, rvlF, endsSpec, leavSpec, aboveSpec]))
    refine Nx ?_
    repeat' (first
      | with_reducible (first | refine Ck.au ?_ | refine Ck.all_cons ?_ | refine Ck.all_nil ?_ | refine Ck.mk ?_ ?_)
      | (with_reducible (first | refine Both.mk (fun h => ?_) (fun h => ?_) | refine Alt.mk (fun h => ?_) (fun h => ?_) | refine Pick.mk (fun h => ?_) (fun l1 x l2 h => ?_)) <;> (have hk := h) <;> (try replace h := nh h) <;> (try dsimp only [orvSpec, orvF, rvlSpec, rvlF, endsSpec, leavSpec, aboveSpec] at h) <;> (try simp only [natCast_eq] at h) <;> (try replace hr := hri hr) <;> (try (have hb : (_ : Bool) = _ := h; clear h; subst hb; (try replace hr := hri hr))) <;> first | exact Dd | refine Nx ?_)
      | with_reducible refine End.mk ?_
      | with_reducible exact True.intro)
    all_goals first
      | (fail_if_success (with_reducible refine Exists.intro ?_ ?_)
         first
         | exact Cl1
         | (dsimp only [orvSpec, orvF, rvlSpec, rvlF, endsSpec, leavSpec, aboveSpec]; exact Cl1)
         | exact Cl2
         | (dsimp only [orvSpec, orvF, rvlSpec, rvlF, endsSpec, leavSpec, aboveSpec]; exact Cl2)
         | (dsimp only [orvSpec, orvF, rvlSpec, rvlF, endsSpec, leavSpec, aboveSpec] at *; exact Cl2))
      | skip
    all_goals
      first
      | (exfalso; exact (by assumption : ¬ ((1 : Nat) : Int) = Int.ofNat 1) rfl)
      | (exfalso; exact no10v (by assumption))
      | skip
    · refine ⟨⟨{t : Nat // t ≤ p1.length}, fun t => ⟨[(3, Sx.one (.ptr 0 0)), (4, Sx.one (.ptr 1 0)), (5, Sx.one (.ptr 2 0)), (8, Sx.one (.mp 3)), (9, Sx.one (.int .i64 (fun _ => k))), (10, Sx.one (.int .i64 (fun _ => (endsF (p1, p2) (k : Int)).1))), (11, Sx.one (.int .i64 (fun _ => (endsF (p1, p2) (k : Int)).2.1))), (14, Sx.one (.li .i64 1)), (32, Sx.one (.int .i64 (fun _ => 2 * (p2.length : Int)))), (33, Sx.one (.int .i64 (fun _ => k))),
          (60, .val (.agg [.ro Ii (fun _ => (T.getD (endsF (p1, p2) (k : Int)).1.toNat ([], [])).1), .ro Ii (fun _ => (T.getD (endsF (p1, p2) (k : Int)).1.toNat ([], [])).2)])), (61, Sx.one (.int .i64 (fun _ => ((1 : Nat) : Int)))), (73, Sx.one (.ro Ii (fun _ => (T.getD (endsF (p1, p2) (k : Int)).1.toNat ([], [])).2))), (74, Sx.one (.int .i64 (fun _ => p1.length))), (75, Sx.one (.int .i64 (fun _ => t.1)))],
        [.cells 25 [.ro NodeE (fun _ => p1), .ro CabE (fun _ => p2)], .cells 32 [.ro Ii (fun _ => L)], .cells 70 [.ro RwE (fun _ => T)], .map (.agg DepE) .bool (fun _ => addsD [] (cC (p1, p2) (L, ()) (T, ()) k ++ (cPf (p1, p2) (L, ()) (T, ()) (k : Int) 1 ++ cT (p1, p2) (L, ()) (T, ()) (k : Int) 1 t.1)))]⟩, fun t => p1.length - t.1, ⟨0, Nat.zero_le _⟩⟩, ?_, fun (t : {t : Nat // t ≤ p1.length}) => ?_⟩
      · refine Pr ?_
        (try (conv in (SS.mk _ _) => dsimp only [orvSpec, orvF, rvlSpec, rvlF, endsSpec, leavSpec, aboveSpec]))
        refine Nx ?_
        repeat' (first
          | with_reducible (first | refine Ck.au ?_ | refine Ck.all_cons ?_ | refine Ck.all_nil ?_ | refine Ck.mk ?_ ?_)
          | (with_reducible (first | refine Both.mk (fun h => ?_) (fun h => ?_) | refine Alt.mk (fun h => ?_) (fun h => ?_) | refine Pick.mk (fun h => ?_) (fun l1 x l2 h => ?_)) <;> (have hk := h) <;> (try replace h := nh h) <;> (try dsimp only [orvSpec, orvF, rvlSpec, rvlF, endsSpec, leavSpec, aboveSpec] at h) <;> (try simp only [natCast_eq] at h) <;> (try replace hr := hri hr) <;> (try (have hb : (_ : Bool) = _ := h; clear h; subst hb; (try replace hr := hri hr))) <;> first | exact Dd | refine Nx ?_)
          | with_reducible refine End.mk ?_
          | with_reducible exact True.intro)
        all_goals first
          | (fail_if_success (with_reducible refine Exists.intro ?_ ?_)
             first
             | exact Cl1
             | (dsimp only [orvSpec, orvF, rvlSpec, rvlF, endsSpec, leavSpec, aboveSpec]; exact Cl1)
             | first | (rw [hul2]; done) | rfl | (simp [cT]; done)
             | exact Cl2
             | (dsimp only [orvSpec, orvF, rvlSpec, rvlF, endsSpec, leavSpec, aboveSpec]; exact Cl2)
             | (dsimp only [orvSpec, orvF, rvlSpec, rvlF, endsSpec, leavSpec, aboveSpec] at *; exact Cl2))
          | skip
      obtain ⟨t, ht⟩ := t
      dsimp only
      have haft := aft_1 (p := (p1, p2)) (o := (L, ())) (c := (k : Int))
      have n1 := fun h => ct_no1 (p := (p1, p2)) (o := (L, ())) (T := (T, ())) (c := (k : Int)) (ph := 1) (t := t) h
      have n2 := fun h => ct_no2 (p := (p1, p2)) (o := (L, ())) (T := (T, ())) (c := (k : Int)) (ph := 1) (t := t) haft h
      have y1 := fun h h2 => ct_yes (p := (p1, p2)) (o := (L, ())) (T := (T, ())) (c := (k : Int)) (ph := 1) (t := t) haft h h2
      have tx := fun (h : ((t : Nat) : Int) < (p1.length : Int)) => ivx hul2 (o := (t : Int)) ⟨by omega, h⟩
      have tv := fun (h : ((t : Nat) : Int) < (p1.length : Int)) => ivx hvl2 (o := (t : Int)) ⟨by omega, h⟩
      have okn := fun (h : ((t : Nat) : Int) < (p1.length : Int)) (h2 : 0 ≤ (T.getD (endsF (p1, p2) (k : Int)).2.1.toNat ([], [])).2.getD t 0) => (okE_lt (htb.e1 (endsF (p1, p2) (k : Int)).2.1.toNat t hvt (by show _ < p1.length; omega)) h2).1
      dsimp only [rowT] at n1 n2 y1
      refine Pr ?_
      (try (conv in (SS.mk _ _) => dsimp only [orvSpec, orvF, rvlSpec, rvlF, endsSpec, leavSpec, aboveSpec]))
      refine Nx ?_
      repeat' (first
        | with_reducible (first | refine Ck.au ?_ | refine Ck.all_cons ?_ | refine Ck.all_nil ?_ | refine Ck.mk ?_ ?_)
        | (with_reducible (first | refine Both.mk (fun h => ?_) (fun h => ?_) | refine Alt.mk (fun h => ?_) (fun h => ?_) | refine Pick.mk (fun h => ?_) (fun l1 x l2 h => ?_)) <;> (have hk := h) <;> (try replace h := nh h) <;> (try dsimp only [orvSpec, orvF, rvlSpec, rvlF, endsSpec, leavSpec, aboveSpec] at h) <;> (try simp only [natCast_eq] at h) <;> (try replace hr := hri hr) <;> (try (have hb : (_ : Bool) = _ := h; clear h; subst hb; (try replace hr := hri hr))) <;> first | exact Dd | refine Nx ?_)
        | with_reducible refine End.mk ?_
        | with_reducible exact True.intro)
      all_goals first
        | (fail_if_success (with_reducible refine Exists.intro ?_ ?_)
           first
           | exact Cl1
           | (dsimp only [orvSpec, orvF, rvlSpec, rvlF, endsSpec, leavSpec, aboveSpec]; exact Cl1)
           | first | (dsimp only; simp only [pair_eta, map_idL]; exact ⟨hc, (by assumption), okn (by assumption) (by assumption)⟩) | (dsimp only; simp only [pair_eta, map_idL]; exact key3 hk64 (leav_in (p := (p1, p2)) hc (by assumption) (okn (by assumption) (by assumption))) ⟨hv0, hv16⟩)
           | exact Cl2
           | (dsimp only [orvSpec, orvF, rvlSpec, rvlF, endsSpec, leavSpec, aboveSpec]; exact Cl2)
           | (dsimp only [orvSpec, orvF, rvlSpec, rvlF, endsSpec, leavSpec, aboveSpec] at *; exact Cl2))
        | skip
      · have e9 := congrArg (fun m => addsD [] (cC (p1, p2) (L, ()) (T, ()) k ++ (cPf (p1, p2) (L, ()) (T, ()) (k : Int) 1 ++ m))) (y1 (by assumption) (by assumption))
        (try dsimp only at e9)
        refine ⟨⟨t + 1, by omega⟩, (by dsimp only; omega), ?_⟩
        refine Pr ?_
        (try (conv in (SS.mk _ _) => dsimp only [orvSpec, orvF, rvlSpec, rvlF, endsSpec, leavSpec, aboveSpec]))
        refine Nx ?_
        repeat' (first
          | with_reducible (first | refine Ck.au ?_ | refine Ck.all_cons ?_ | refine Ck.all_nil ?_ | refine Ck.mk ?_ ?_)
          | (with_reducible (first | refine Both.mk (fun h => ?_) (fun h => ?_) | refine Alt.mk (fun h => ?_) (fun h => ?_) | refine Pick.mk (fun h => ?_) (fun l1 x l2 h => ?_)) <;> (have hk := h) <;> (try replace h := nh h) <;> (try dsimp only [orvSpec, orvF, rvlSpec, rvlF, endsSpec, leavSpec, aboveSpec] at h) <;> (try simp only [natCast_eq] at h) <;> (try replace hr := hri hr) <;> (try (have hb : (_ : Bool) = _ := h; clear h; subst hb; (try replace hr := hri hr))) <;> first | exact Dd | refine Nx ?_)
          | with_reducible refine End.mk ?_
          | with_reducible exact True.intro)
        all_goals first
          | (fail_if_success (with_reducible refine Exists.intro ?_ ?_)
             first
             | exact Cl1
             | (dsimp only [orvSpec, orvF, rvlSpec, rvlF, endsSpec, leavSpec, aboveSpec]; exact Cl1)
             | first | exact (List.map_id _).trans (e9.trans (addsD_snoc3 _ _ _ _ _)).symm | (simp only [pair_eta, map_idL]; exact (e9.trans (addsD_snoc3 _ _ _ _ _)).symm)
             | exact Cl2
             | (dsimp only [orvSpec, orvF, rvlSpec, rvlF, endsSpec, leavSpec, aboveSpec]; exact Cl2)
             | (dsimp only [orvSpec, orvF, rvlSpec, rvlF, endsSpec, leavSpec, aboveSpec] at *; exact Cl2))
          | skip
      · have e9 := congrArg (fun m => addsD [] (cC (p1, p2) (L, ()) (T, ()) k ++ (cPf (p1, p2) (L, ()) (T, ()) (k : Int) 1 ++ m))) (n2 (by assumption))
        (try dsimp only at e9)
        refine ⟨⟨t + 1, by omega⟩, (by dsimp only; omega), ?_⟩
        refine Pr ?_
        (try (conv in (SS.mk _ _) => dsimp only [orvSpec, orvF, rvlSpec, rvlF, endsSpec, leavSpec, aboveSpec]))
        refine Nx ?_
        repeat' (first
          | with_reducible (first | refine Ck.au ?_ | refine Ck.all_cons ?_ | refine Ck.all_nil ?_ | refine Ck.mk ?_ ?_)
          | (with_reducible (first | refine Both.mk (fun h => ?_) (fun h => ?_) | refine Alt.mk (fun h => ?_) (fun h => ?_) | refine Pick.mk (fun h => ?_) (fun l1 x l2 h => ?_)) <;> (have hk := h) <;> (try replace h := nh h) <;> (try dsimp only [orvSpec, orvF, rvlSpec, rvlF, endsSpec, leavSpec, aboveSpec] at h) <;> (try simp only [natCast_eq] at h) <;> (try replace hr := hri hr) <;> (try (have hb : (_ : Bool) = _ := h; clear h; subst hb; (try replace hr := hri hr))) <;> first | exact Dd | refine Nx ?_)
          | with_reducible refine End.mk ?_
          | with_reducible exact True.intro)
        all_goals first
          | (fail_if_success (with_reducible refine Exists.intro ?_ ?_)
             first
             | exact Cl1
             | (dsimp only [orvSpec, orvF, rvlSpec, rvlF, endsSpec, leavSpec, aboveSpec]; exact Cl1)
             | exact (List.map_id _).trans e9.symm
             | exact Cl2
             | (dsimp only [orvSpec, orvF, rvlSpec, rvlF, endsSpec, leavSpec, aboveSpec]; exact Cl2)
             | (dsimp only [orvSpec, orvF, rvlSpec, rvlF, endsSpec, leavSpec, aboveSpec] at *; exact Cl2))
          | skip
      · have e9 := congrArg (fun m => addsD [] (cC (p1, p2) (L, ()) (T, ()) k ++ (cPf (p1, p2) (L, ()) (T, ()) (k : Int) 1 ++ m))) (n1 (by assumption))
        (try dsimp only at e9)
        refine ⟨⟨t + 1, by omega⟩, (by dsimp only; omega), ?_⟩
        refine Pr ?_
        (try (conv in (SS.mk _ _) => dsimp only [orvSpec, orvF, rvlSpec, rvlF, endsSpec, leavSpec, aboveSpec]))
        refine Nx ?_
        repeat' (first
          | with_reducible (first | refine Ck.au ?_ | refine Ck.all_cons ?_ | refine Ck.all_nil ?_ | refine Ck.mk ?_ ?_)
          | (with_reducible (first | refine Both.mk (fun h => ?_) (fun h => ?_) | refine Alt.mk (fun h => ?_) (fun h => ?_) | refine Pick.mk (fun h => ?_) (fun l1 x l2 h => ?_)) <;> (have hk := h) <;> (try replace h := nh h) <;> (try dsimp only [orvSpec, orvF, rvlSpec, rvlF, endsSpec, leavSpec, aboveSpec] at h) <;> (try simp only [natCast_eq] at h) <;> (try replace hr := hri hr) <;> (try (have hb : (_ : Bool) = _ := h; clear h; subst hb; (try replace hr := hri hr))) <;> first | exact Dd | refine Nx ?_)
          | with_reducible refine End.mk ?_
          | with_reducible exact True.intro)
        all_goals first
          | (fail_if_success (with_reducible refine Exists.intro ?_ ?_)
             first
             | exact Cl1
             | (dsimp only [orvSpec, orvF, rvlSpec, rvlF, endsSpec, leavSpec, aboveSpec]; exact Cl1)
             | exact (List.map_id _).trans e9.symm
             | exact Cl2
             | (dsimp only [orvSpec, orvF, rvlSpec, rvlF, endsSpec, leavSpec, aboveSpec]; exact Cl2)
             | (dsimp only [orvSpec, orvF, rvlSpec, rvlF, endsSpec, leavSpec, aboveSpec] at *; exact Cl2))
          | skip
      have ht9 : t = p1.length := by omega
      rw [ht9]
      refine ⟨⟨2, by omega⟩, (by dsimp only; omega), ?_⟩
      refine Pr ?_
      (try (conv in (SS.mk _ _) => dsimp only [orvSpec, orvF, rvlSpec, rvlF, endsSpec, leavSpec, aboveSpec]))
      refine Nx ?_
      repeat' (first
        | with_reducible (first | refine Ck.au ?_ | refine Ck.all_cons ?_ | refine Ck.all_nil ?_ | refine Ck.mk ?_ ?_)
        | (with_reducible (first | refine Both.mk (fun h => ?_) (fun h => ?_) | refine Alt.mk (fun h => ?_) (fun h => ?_) | refine Pick.mk (fun h => ?_) (fun l1 x l2 h => ?_)) <;> (have hk := h) <;> (try replace h := nh h) <;> (try dsimp only [orvSpec, orvF, rvlSpec, rvlF, endsSpec, leavSpec, aboveSpec] at h) <;> (try simp only [natCast_eq] at h) <;> (try replace hr := hri hr) <;> (try (have hb : (_ : Bool) = _ := h; clear h; subst hb; (try replace hr := hri hr))) <;> first | exact Dd | refine Nx ?_)
        | with_reducible refine End.mk ?_
        | with_reducible exact True.intro)
      all_goals first
        | (fail_if_success (with_reducible refine Exists.intro ?_ ?_)
           first
           | exact Cl1
           | (dsimp only [orvSpec, orvF, rvlSpec, rvlF, endsSpec, leavSpec, aboveSpec]; exact Cl1)
           | exact List.map_id _
           | exact Cl2
           | (dsimp only [orvSpec, orvF, rvlSpec, rvlF, endsSpec, leavSpec, aboveSpec]; exact Cl2)
           | (dsimp only [orvSpec, orvF, rvlSpec, rvlF, endsSpec, leavSpec, aboveSpec] at *; exact Cl2))
        | skip
theorem dps_sound : ConSound Tryz.prog AI 23 dpsSpec.con := PureSpec.sound Tryz.call23 (fun x h => dps_ok x.1 x.2.1 x.2.2.1 h)
end Go.Proofs.YtcaoldilmnpjoaaGreat
