/-
  The top: routes.Valid, of tables that Make made.
-/
import Derived.Test.YtcaoldilmnpjoaaGreatTok
namespace Go.Proofs.YtcaoldilmnpjoaaGreat
set_option linter.all false
open Go.RowKit Go.Sx
set_option maxRecDepth 100000
set_option maxHeartbeats 16000000
abbrev RwE : Ty := .pair (.lst Ii) (.lst Ii)
structure RtP (p : PlanT) (T : TabT) : Prop where
  pl : PlOk p
  ok : validI p = 0
  tb : ∃ L, TbOk p L T
def rvlF (p : PlanT) (T : TabT) : Tup [DT.cell .bool] := (true, ())
theorem no10v : ¬ ((1 : Nat) : Int) = Int.ofNat 0 := by decide
noncomputable abbrev Evr1 : Env Ab := ⟨tis, [(70, acSpec.con)] ++ E0.con⟩
theorem evr1Ok : EnvOk Tryz.prog AI Evr1 := (e0Ok.add ac_sound)
theorem prm_inl : ConSound Tryz.prog AI 112 (inl Evr1 Tryz.f112 1) := inl_sound evr1Ok mixed (fn := Tryz.f112) (c := bodyOf Tryz.f112) Tryz.call112 (by kernel_rfl) (by kernel_rfl) (by kernel_rfl) 1
noncomputable abbrev Evr2 : Env Ab := ⟨tis, [(112, inl Evr1 Tryz.f112 1), (20, validSpec.con)] ++ E0.con⟩
theorem evr2Ok : EnvOk Tryz.prog AI Evr2 := ((e0Ok.add valid_sound).add prm_inl)
/-- What an entry allows. -/
theorem okE_cases {p : PlanT} {L : List Int} {k t ph : Nat} {e : Int} (h : okE p L k t ph e) : (((k : Nat) : Int) = ((t : Nat) : Int) → e = -2) ∧ (e = -2 → ((k : Nat) : Int) = ((t : Nat) : Int)) ∧ (¬ e = -2 → ¬ e = -1 → 0 ≤ e ∧ e < (p.2.length : Int) ∧ (acF (p.2.getD e.toNat z6) (k : Int)).2.1 = true) := by
  rcases h with ⟨h1, h2⟩ | ⟨h1, h2 | ⟨i, h2, h3, h4, _⟩⟩
  · exact ⟨fun _ => h2, fun _ => by rw [h1], fun h => absurd h2 h⟩
  · exact ⟨fun h => absurd (Int.ofNat.inj h) h1, fun h => by omega, fun _ h => absurd h2 h⟩
  · refine ⟨fun h => absurd (Int.ofNat.inj h) h1, fun h => by omega, fun _ _ => ?_⟩
    subst h3
    exact ⟨by omega, by omega, h4⟩
def rvlSpec : PureSpec := ⟨[.cell PlanE, .cell TabE], fun (x : PlanT × TabT × Unit) => RtP x.1 x.2.1, [.cell .bool], fun (x : PlanT × TabT × Unit) => rvlF x.1 x.2.1⟩
theorem rvl_ok (p : PlanT) (T : TabT) (h : rvlSpec.pre (p, T, ())) : TmplOk Tryz.prog AI 71 (argS rvlSpec.ds (fun _ => (p, T, ()))) [] (resOf (svs rvlSpec.rs (fun _ => rvlSpec.f (p, T, ())))) [] := by
  dsimp only [rvlSpec] at h ⊢
  generalize hr : rvlF p T = r
  obtain ⟨p1, p2⟩ := p; obtain ⟨T, tu⟩ := T; obtain ⟨hP, hok, L, hT⟩ := h; have hn : p1.length ≤ 16 := hP.n; have hl : T.length = p1.length := hT.len
  dsimp only [rvlF] at hr
  refine tmpl_of_body evr2Ok mixed (fn := Tryz.f71) (c := bodyOf Tryz.f71) (by kernel_rfl) (by kernel_rfl) (by kernel_rfl) (Nat.le_of_ble_eq_true (by kernel_rfl)) ?_
  refine Pr ?_
  (try (conv in (SS.mk _ _) => dsimp only [validSpec, validF, acSpec]))
  refine Nx ?_
  repeat' (first
    | with_reducible (first | refine Ck.au ?_ | refine Ck.all_cons ?_ | refine Ck.all_nil ?_ | refine Ck.mk ?_ ?_)
    | (with_reducible (first | refine Both.mk (fun h => ?_) (fun h => ?_) | refine Alt.mk (fun h => ?_) (fun h => ?_) | refine Pick.mk (fun h => ?_) (fun l1 x l2 h => ?_)) <;> (have hk := h) <;> (try replace h := nh h) <;> (try dsimp only [validSpec, validF, acSpec] at h) <;> (try simp only [natCast_eq] at h) <;> (try replace hr := hri hr) <;> (try (have hb : (_ : Bool) = _ := h; clear h; subst hb; (try replace hr := hri hr))) <;> first | exact Dd | refine Nx ?_)
    | ((with_reducible refine End.mk ?_); (try ((repeat (first | rw [ifP] at hr | rw [ifM] at hr | rw [if_pos rfl] at hr)); subst hr)))
    | with_reducible exact True.intro)
  all_goals first
    | (fail_if_success (with_reducible refine Exists.intro ?_ ?_)
       first
       | exact Cl1
       | (dsimp only [validSpec, validF, acSpec]; exact Cl1)
       | first | (dsimp only [validSpec]; simp only [pair_eta, map_idL]; exact hP) | (exfalso; exact h hok)
       | exact Cl2
       | (dsimp only [validSpec, validF, acSpec]; exact Cl2)
       | (dsimp only [validSpec, validF, acSpec] at *; exact Cl2))
    | skip
  refine ⟨⟨{k : Nat // k ≤ p1.length}, fun k => ⟨[(2, Sx.one (.ptr 0 0)), (5, .val (.fn 112 [.ptr 0 0])), (26, Sx.one (.ro RwE (fun _ => T))), (27, Sx.one (.int .i64 (fun _ => p1.length))), (28, Sx.one (.int .i64 (fun _ => k.1)))],
    [.cells 25 [.ro NodeE (fun _ => p1), .ro CabE (fun _ => p2)]]⟩, fun k => p1.length - k.1, ⟨0, Nat.zero_le _⟩⟩, ?_, fun (k : {k : Nat // k ≤ p1.length}) => ?_⟩
  · refine Pr ?_
    (try (conv in (SS.mk _ _) => dsimp only [validSpec, validF, acSpec]))
    refine Nx ?_
    repeat' (first
      | with_reducible (first | refine Ck.au ?_ | refine Ck.all_cons ?_ | refine Ck.all_nil ?_ | refine Ck.mk ?_ ?_)
      | (with_reducible (first | refine Both.mk (fun h => ?_) (fun h => ?_) | refine Alt.mk (fun h => ?_) (fun h => ?_) | refine Pick.mk (fun h => ?_) (fun l1 x l2 h => ?_)) <;> (have hk := h) <;> (try replace h := nh h) <;> (try dsimp only [validSpec, validF, acSpec] at h) <;> (try simp only [natCast_eq] at h) <;> (try replace hr := hri hr) <;> (try (have hb : (_ : Bool) = _ := h; clear h; subst hb; (try replace hr := hri hr))) <;> first | exact Dd | refine Nx ?_)
      | with_reducible refine End.mk ?_
      | with_reducible exact True.intro)
    all_goals first
      | (fail_if_success (with_reducible refine Exists.intro ?_ ?_)
         first
         | exact Cl1
         | (dsimp only [validSpec, validF, acSpec]; exact Cl1)
         | (rw [hl]; done)
         | exact Cl2
         | (dsimp only [validSpec, validF, acSpec]; exact Cl2)
         | (dsimp only [validSpec, validF, acSpec] at *; exact Cl2))
      | skip
  obtain ⟨k, hk⟩ := k
  dsimp only
  have hkx := fun (h : ((k : Nat) : Int) < (p1.length : Int)) => ivx hl (o := (k : Int)) ⟨by omega, h⟩
  refine Pr ?_
  (try (conv in (SS.mk _ _) => dsimp only [validSpec, validF, acSpec]))
  refine Nx ?_
  repeat' (first
    | with_reducible (first | refine Ck.au ?_ | refine Ck.all_cons ?_ | refine Ck.all_nil ?_ | refine Ck.mk ?_ ?_)
    | (with_reducible (first | refine Both.mk (fun h => ?_) (fun h => ?_) | refine Alt.mk (fun h => ?_) (fun h => ?_) | refine Pick.mk (fun h => ?_) (fun l1 x l2 h => ?_)) <;> (have hk := h) <;> (try replace h := nh h) <;> (try dsimp only [validSpec, validF, acSpec] at h) <;> (try simp only [natCast_eq] at h) <;> (try replace hr := hri hr) <;> (try (have hb : (_ : Bool) = _ := h; clear h; subst hb; (try replace hr := hri hr))) <;> first | exact Dd | refine Nx ?_)
    | with_reducible refine End.mk ?_
    | with_reducible exact True.intro)
  all_goals first
    | (fail_if_success (with_reducible refine Exists.intro ?_ ?_)
       first
       | exact Cl1
       | (dsimp only [validSpec, validF, acSpec]; exact Cl1)
       | first | exact hkx (by assumption) | (subst hr; rfl)
       | exact Cl2
       | (dsimp only [validSpec, validF, acSpec]; exact Cl2)
       | (dsimp only [validSpec, validF, acSpec] at *; exact Cl2))
    | skip
  have hkn : k < p1.length := by omega
  have hr0 := hT.r0 k hkn
  have hr1 := hT.r1 k hkn
  have he0 := fun t ht => hT.e0 k t hkn ht
  have he1 := fun t ht => hT.e1 k t hkn ht
  dsimp only at hr0 hr1 he0 he1
  refine ⟨⟨{f : Nat // f ≤ 2}, fun f => ⟨[(2, Sx.one (.ptr 0 0)), (5, .val (.fn 112 [.ptr 0 0])), (26, Sx.one (.ro RwE (fun _ => T))), (27, Sx.one (.int .i64 (fun _ => p1.length))), (28, Sx.one (.int .i64 (fun _ => k))), (6, Sx.one (.int .i64 (fun _ => k))), (33, .val (.agg [.ro Ii (fun _ => (T.getD k ([], [])).1), .ro Ii (fun _ => (T.getD k ([], [])).2)])), (34, Sx.one (.int .i64 (fun _ => f.1)))],
    [.cells 25 [.ro NodeE (fun _ => p1), .ro CabE (fun _ => p2)]]⟩, fun f => 2 - f.1, ⟨0, Nat.zero_le _⟩⟩, ?_, fun (f : {f : Nat // f ≤ 2}) => ?_⟩
  · refine Pr ?_
    (try (conv in (SS.mk _ _) => dsimp only [validSpec, validF, acSpec]))
    refine Nx ?_
    repeat' (first
      | with_reducible (first | refine Ck.au ?_ | refine Ck.all_cons ?_ | refine Ck.all_nil ?_ | refine Ck.mk ?_ ?_)
      | (with_reducible (first | refine Both.mk (fun h => ?_) (fun h => ?_) | refine Alt.mk (fun h => ?_) (fun h => ?_) | refine Pick.mk (fun h => ?_) (fun l1 x l2 h => ?_)) <;> (have hk := h) <;> (try replace h := nh h) <;> (try dsimp only [validSpec, validF, acSpec] at h) <;> (try simp only [natCast_eq] at h) <;> (try replace hr := hri hr) <;> (try (have hb : (_ : Bool) = _ := h; clear h; subst hb; (try replace hr := hri hr))) <;> first | exact Dd | refine Nx ?_)
      | with_reducible refine End.mk ?_
      | with_reducible exact True.intro)
    all_goals first
      | (fail_if_success (with_reducible refine Exists.intro ?_ ?_)
         first
         | exact Cl1
         | (dsimp only [validSpec, validF, acSpec]; exact Cl1)
         | rfl
         | exact Cl2
         | (dsimp only [validSpec, validF, acSpec]; exact Cl2)
         | (dsimp only [validSpec, validF, acSpec] at *; exact Cl2))
      | skip
  generalize hR0 : (T.getD k ([], [])).1 = r0 at *
  generalize hR1 : (T.getD k ([], [])).2 = r1 at *
  obtain ⟨f, hf⟩ := f
  dsimp only
  by_cases hf2 : f = 2
  · subst hf2
    refine Pr ?_
    (try (conv in (SS.mk _ _) => dsimp only [validSpec, validF, acSpec]))
    refine Nx ?_
    repeat' (first
      | with_reducible (first | refine Ck.au ?_ | refine Ck.all_cons ?_ | refine Ck.all_nil ?_ | refine Ck.mk ?_ ?_)
      | (with_reducible (first | refine Both.mk (fun h => ?_) (fun h => ?_) | refine Alt.mk (fun h => ?_) (fun h => ?_) | refine Pick.mk (fun h => ?_) (fun l1 x l2 h => ?_)) <;> (have hk := h) <;> (try replace h := nh h) <;> (try dsimp only [validSpec, validF, acSpec] at h) <;> (try simp only [natCast_eq] at h) <;> (try replace hr := hri hr) <;> (try (have hb : (_ : Bool) = _ := h; clear h; subst hb; (try replace hr := hri hr))) <;> first | exact Dd | refine Nx ?_)
      | with_reducible refine End.mk ?_
      | with_reducible exact True.intro)
    all_goals first
      | (fail_if_success (with_reducible refine Exists.intro ?_ ?_)
         first
         | exact Cl1
         | (dsimp only [validSpec, validF, acSpec]; exact Cl1)
         | exact Cl2
         | (dsimp only [validSpec, validF, acSpec]; exact Cl2)
         | (dsimp only [validSpec, validF, acSpec] at *; exact Cl2))
      | skip
    refine ⟨⟨k + 1, hkn⟩, (by dsimp only; omega), ?_⟩
    refine Pr ?_
    (try (conv in (SS.mk _ _) => dsimp only [validSpec, validF, acSpec]))
    refine Nx ?_
    repeat' (first
      | with_reducible (first | refine Ck.au ?_ | refine Ck.all_cons ?_ | refine Ck.all_nil ?_ | refine Ck.mk ?_ ?_)
      | (with_reducible (first | refine Both.mk (fun h => ?_) (fun h => ?_) | refine Alt.mk (fun h => ?_) (fun h => ?_) | refine Pick.mk (fun h => ?_) (fun l1 x l2 h => ?_)) <;> (have hk := h) <;> (try replace h := nh h) <;> (try dsimp only [validSpec, validF, acSpec] at h) <;> (try simp only [natCast_eq] at h) <;> (try replace hr := hri hr) <;> (try (have hb : (_ : Bool) = _ := h; clear h; subst hb; (try replace hr := hri hr))) <;> first | exact Dd | refine Nx ?_)
      | with_reducible refine End.mk ?_
      | with_reducible exact True.intro)
    all_goals first
      | (fail_if_success (with_reducible refine Exists.intro ?_ ?_)
         first
         | exact Cl1
         | (dsimp only [validSpec, validF, acSpec]; exact Cl1)
         | rfl
         | exact Cl2
         | (dsimp only [validSpec, validF, acSpec]; exact Cl2)
         | (dsimp only [validSpec, validF, acSpec] at *; exact Cl2))
      | skip
  have hf01 : f = 0 ∨ f = 1 := by omega
  rcases hf01 with rfl | rfl
  · refine Pr ?_
    (try (conv in (SS.mk _ _) => dsimp only [validSpec, validF, acSpec]))
    refine Nx ?_
    repeat' (first
      | with_reducible (first | refine Ck.au ?_ | refine Ck.all_cons ?_ | refine Ck.all_nil ?_ | refine Ck.mk ?_ ?_)
      | (with_reducible (first | refine Both.mk (fun h => ?_) (fun h => ?_) | refine Alt.mk (fun h => ?_) (fun h => ?_) | refine Pick.mk (fun h => ?_) (fun l1 x l2 h => ?_)) <;> (have hk := h) <;> (try replace h := nh h) <;> (try dsimp only [validSpec, validF, acSpec] at h) <;> (try simp only [natCast_eq] at h) <;> (try replace hr := hri hr) <;> (try (have hb : (_ : Bool) = _ := h; clear h; subst hb; (try replace hr := hri hr))) <;> first | exact Dd | refine Nx ?_)
      | with_reducible refine End.mk ?_
      | with_reducible exact True.intro)
    all_goals first
      | (fail_if_success (with_reducible refine Exists.intro ?_ ?_)
         first
         | exact Cl1
         | (dsimp only [validSpec, validF, acSpec]; exact Cl1)
         | first | (rw [hr0]; done) | (exfalso; exact h (by rw [hr0]))
         | exact Cl2
         | (dsimp only [validSpec, validF, acSpec]; exact Cl2)
         | (dsimp only [validSpec, validF, acSpec] at *; exact Cl2))
      | skip
    all_goals
      first
      | (exfalso; exact (by assumption : ¬ ((0 : Nat) : Int) = Int.ofNat 0) rfl)
      | (exfalso; exact no10v (by assumption))
      | skip
    refine ⟨⟨{t : Nat // t ≤ p1.length}, fun t => ⟨[(2, Sx.one (.ptr 0 0)), (5, .val (.fn 112 [.ptr 0 0])), (26, Sx.one (.ro RwE (fun _ => T))), (27, Sx.one (.int .i64 (fun _ => p1.length))), (28, Sx.one (.int .i64 (fun _ => k))), (6, Sx.one (.int .i64 (fun _ => k))), (33, .val (.agg [.ro Ii (fun _ => r0), .ro Ii (fun _ => r1)])), (34, Sx.one (.int .i64 (fun _ => ((0 : Nat) : Int)))),
        (43, Sx.one (.ro Ii (fun _ => r0))), (44, Sx.one (.int .i64 (fun _ => p1.length))), (45, Sx.one (.int .i64 (fun _ => t.1)))],
      [.cells 25 [.ro NodeE (fun _ => p1), .ro CabE (fun _ => p2)]]⟩, fun t => p1.length - t.1, ⟨0, Nat.zero_le _⟩⟩, ?_, fun (t : {t : Nat // t ≤ p1.length}) => ?_⟩
    · refine Pr ?_
      (try (conv in (SS.mk _ _) => dsimp only [validSpec, validF, acSpec]))
      refine Nx ?_
      repeat' (first
        | with_reducible (first | refine Ck.au ?_ | refine Ck.all_cons ?_ | refine Ck.all_nil ?_ | refine Ck.mk ?_ ?_)
        | (with_reducible (first | refine Both.mk (fun h => ?_) (fun h => ?_) | refine Alt.mk (fun h => ?_) (fun h => ?_) | refine Pick.mk (fun h => ?_) (fun l1 x l2 h => ?_)) <;> (have hk := h) <;> (try replace h := nh h) <;> (try dsimp only [validSpec, validF, acSpec] at h) <;> (try simp only [natCast_eq] at h) <;> (try replace hr := hri hr) <;> (try (have hb : (_ : Bool) = _ := h; clear h; subst hb; (try replace hr := hri hr))) <;> first | exact Dd | refine Nx ?_)
        | with_reducible refine End.mk ?_
        | with_reducible exact True.intro)
      all_goals first
        | (fail_if_success (with_reducible refine Exists.intro ?_ ?_)
           first
           | exact Cl1
           | (dsimp only [validSpec, validF, acSpec]; exact Cl1)
           | first | rfl | (rw [hr0]; done)
           | exact Cl2
           | (dsimp only [validSpec, validF, acSpec]; exact Cl2)
           | (dsimp only [validSpec, validF, acSpec] at *; exact Cl2))
        | skip
    obtain ⟨t, ht⟩ := t
    dsimp only
    have htx := fun (h : ((t : Nat) : Int) < (p1.length : Int)) => ivx hr0 (o := (t : Int)) ⟨by omega, h⟩
    have hoe : ((t : Nat) : Int) < (p1.length : Int) → _ := fun h => okE_cases (he0 t (by omega))
    refine Pr ?_
    (try (conv in (SS.mk _ _) => dsimp only [validSpec, validF, acSpec]))
    refine Nx ?_
    repeat' (first
      | with_reducible (first | refine Ck.au ?_ | refine Ck.all_cons ?_ | refine Ck.all_nil ?_ | refine Ck.mk ?_ ?_)
      | (with_reducible (first | refine Both.mk (fun h => ?_) (fun h => ?_) | refine Alt.mk (fun h => ?_) (fun h => ?_) | refine Pick.mk (fun h => ?_) (fun l1 x l2 h => ?_)) <;> (have hk := h) <;> (try replace h := nh h) <;> (try dsimp only [validSpec, validF, acSpec] at h) <;> (try simp only [natCast_eq] at h) <;> (try replace hr := hri hr) <;> (try (have hb : (_ : Bool) = _ := h; clear h; subst hb; (try replace hr := hri hr))) <;> first | exact Dd | refine Nx ?_)
      | with_reducible refine End.mk ?_
      | with_reducible exact True.intro)
    all_goals first
      | (fail_if_success (with_reducible refine Exists.intro ?_ ?_)
         first
         | exact Cl1
         | (dsimp only [validSpec, validF, acSpec]; exact Cl1)
         | first | exact htx (by assumption) | (exfalso; have h9 := (hoe (by assumption)).1 (by assumption); contradiction) | (exfalso; have h9 := (hoe (by assumption)).2.1 (by assumption); contradiction) | (exfalso; have h9 := (hoe (by assumption)).2.2 (by assumption) (by assumption); first | exact Int.not_lt.2 h9.1 h | exact Int.not_lt.2 h h9.2.1) | (have h9 := (hoe (by assumption)).2.2 (by assumption) (by assumption); exact ⟨h9.1, h9.2.1⟩) | (exfalso; have h9 := ((hoe (by assumption)).2.2 (by assumption) (by assumption)).2.2; exact absurd (h9.symm.trans h) (by decide))
         | exact Cl2
         | (dsimp only [validSpec, validF, acSpec]; exact Cl2)
         | (dsimp only [validSpec, validF, acSpec] at *; exact Cl2))
      | skip
    rotate_right
    · refine ⟨⟨1, by omega⟩, (by dsimp only; omega), ?_⟩
      refine Pr ?_
      (try (conv in (SS.mk _ _) => dsimp only [validSpec, validF, acSpec]))
      refine Nx ?_
      repeat' (first
        | with_reducible (first | refine Ck.au ?_ | refine Ck.all_cons ?_ | refine Ck.all_nil ?_ | refine Ck.mk ?_ ?_)
        | (with_reducible (first | refine Both.mk (fun h => ?_) (fun h => ?_) | refine Alt.mk (fun h => ?_) (fun h => ?_) | refine Pick.mk (fun h => ?_) (fun l1 x l2 h => ?_)) <;> (have hk := h) <;> (try replace h := nh h) <;> (try dsimp only [validSpec, validF, acSpec] at h) <;> (try simp only [natCast_eq] at h) <;> (try replace hr := hri hr) <;> (try (have hb : (_ : Bool) = _ := h; clear h; subst hb; (try replace hr := hri hr))) <;> first | exact Dd | refine Nx ?_)
        | with_reducible refine End.mk ?_
        | with_reducible exact True.intro)
      all_goals first
        | (fail_if_success (with_reducible refine Exists.intro ?_ ?_)
           first
           | exact Cl1
           | (dsimp only [validSpec, validF, acSpec]; exact Cl1)
           | rfl
           | exact Cl2
           | (dsimp only [validSpec, validF, acSpec]; exact Cl2)
           | (dsimp only [validSpec, validF, acSpec] at *; exact Cl2))
        | skip
    all_goals
     (refine ⟨⟨t + 1, by omega⟩, (by dsimp only; omega), ?_⟩
      refine Pr ?_
      (try (conv in (SS.mk _ _) => dsimp only [validSpec, validF, acSpec]))
      refine Nx ?_
      repeat' (first
        | with_reducible (first | refine Ck.au ?_ | refine Ck.all_cons ?_ | refine Ck.all_nil ?_ | refine Ck.mk ?_ ?_)
        | (with_reducible (first | refine Both.mk (fun h => ?_) (fun h => ?_) | refine Alt.mk (fun h => ?_) (fun h => ?_) | refine Pick.mk (fun h => ?_) (fun l1 x l2 h => ?_)) <;> (have hk := h) <;> (try replace h := nh h) <;> (try dsimp only [validSpec, validF, acSpec] at h) <;> (try simp only [natCast_eq] at h) <;> (try replace hr := hri hr) <;> (try (have hb : (_ : Bool) = _ := h; clear h; subst hb; (try replace hr := hri hr))) <;> first | exact Dd | refine Nx ?_)
        | with_reducible refine End.mk ?_
        | with_reducible exact True.intro)
      all_goals first
        | (fail_if_success (with_reducible refine Exists.intro ?_ ?_)
           first
           | exact Cl1
           | (dsimp only [validSpec, validF, acSpec]; exact Cl1)
           | rfl
           | exact Cl2
           | (dsimp only [validSpec, validF, acSpec]; exact Cl2)
           | (dsimp only [validSpec, validF, acSpec] at *; exact Cl2))
        | skip)
  · refine Pr ?_
    (try (conv in (SS.mk _ _) => dsimp only [validSpec, validF, acSpec]))
    refine Nx ?_
    repeat' (first
      | with_reducible (first | refine Ck.au ?_ | refine Ck.all_cons ?_ | refine Ck.all_nil ?_ | refine Ck.mk ?_ ?_)
      | (with_reducible (first | refine Both.mk (fun h => ?_) (fun h => ?_) | refine Alt.mk (fun h => ?_) (fun h => ?_) | refine Pick.mk (fun h => ?_) (fun l1 x l2 h => ?_)) <;> (have hk := h) <;> (try replace h := nh h) <;> (try dsimp only [validSpec, validF, acSpec] at h) <;> (try simp only [natCast_eq] at h) <;> (try replace hr := hri hr) <;> (try (have hb : (_ : Bool) = _ := h; clear h; subst hb; (try replace hr := hri hr))) <;> first | exact Dd | refine Nx ?_)
      | with_reducible refine End.mk ?_
      | with_reducible exact True.intro)
    all_goals first
      | (fail_if_success (with_reducible refine Exists.intro ?_ ?_)
         first
         | exact Cl1
         | (dsimp only [validSpec, validF, acSpec]; exact Cl1)
         | first | (rw [hr1]; done) | (exfalso; exact h (by rw [hr1]))
         | exact Cl2
         | (dsimp only [validSpec, validF, acSpec]; exact Cl2)
         | (dsimp only [validSpec, validF, acSpec] at *; exact Cl2))
      | skip
    all_goals
      first
      | (exfalso; exact (by assumption : ¬ ((0 : Nat) : Int) = Int.ofNat 0) rfl)
      | (exfalso; exact no10v (by assumption))
      | skip
    refine ⟨⟨{t : Nat // t ≤ p1.length}, fun t => ⟨[(2, Sx.one (.ptr 0 0)), (5, .val (.fn 112 [.ptr 0 0])), (26, Sx.one (.ro RwE (fun _ => T))), (27, Sx.one (.int .i64 (fun _ => p1.length))), (28, Sx.one (.int .i64 (fun _ => k))), (6, Sx.one (.int .i64 (fun _ => k))), (33, .val (.agg [.ro Ii (fun _ => r0), .ro Ii (fun _ => r1)])), (34, Sx.one (.int .i64 (fun _ => ((1 : Nat) : Int)))),
        (43, Sx.one (.ro Ii (fun _ => r1))), (44, Sx.one (.int .i64 (fun _ => p1.length))), (45, Sx.one (.int .i64 (fun _ => t.1)))],
      [.cells 25 [.ro NodeE (fun _ => p1), .ro CabE (fun _ => p2)]]⟩, fun t => p1.length - t.1, ⟨0, Nat.zero_le _⟩⟩, ?_, fun (t : {t : Nat // t ≤ p1.length}) => ?_⟩
    · refine Pr ?_
      (try (conv in (SS.mk _ _) => dsimp only [validSpec, validF, acSpec]))
      refine Nx ?_
      repeat' (first
        | with_reducible (first | refine Ck.au ?_ | refine Ck.all_cons ?_ | refine Ck.all_nil ?_ | refine Ck.mk ?_ ?_)
        | (with_reducible (first | refine Both.mk (fun h => ?_) (fun h => ?_) | refine Alt.mk (fun h => ?_) (fun h => ?_) | refine Pick.mk (fun h => ?_) (fun l1 x l2 h => ?_)) <;> (have hk := h) <;> (try replace h := nh h) <;> (try dsimp only [validSpec, validF, acSpec] at h) <;> (try simp only [natCast_eq] at h) <;> (try replace hr := hri hr) <;> (try (have hb : (_ : Bool) = _ := h; clear h; subst hb; (try replace hr := hri hr))) <;> first | exact Dd | refine Nx ?_)
        | with_reducible refine End.mk ?_
        | with_reducible exact True.intro)
      all_goals first
        | (fail_if_success (with_reducible refine Exists.intro ?_ ?_)
           first
           | exact Cl1
           | (dsimp only [validSpec, validF, acSpec]; exact Cl1)
           | first | rfl | (rw [hr1]; done)
           | exact Cl2
           | (dsimp only [validSpec, validF, acSpec]; exact Cl2)
           | (dsimp only [validSpec, validF, acSpec] at *; exact Cl2))
        | skip
    obtain ⟨t, ht⟩ := t
    dsimp only
    have htx := fun (h : ((t : Nat) : Int) < (p1.length : Int)) => ivx hr1 (o := (t : Int)) ⟨by omega, h⟩
    have hoe : ((t : Nat) : Int) < (p1.length : Int) → _ := fun h => okE_cases (he1 t (by omega))
    refine Pr ?_
    (try (conv in (SS.mk _ _) => dsimp only [validSpec, validF, acSpec]))
    refine Nx ?_
    repeat' (first
      | with_reducible (first | refine Ck.au ?_ | refine Ck.all_cons ?_ | refine Ck.all_nil ?_ | refine Ck.mk ?_ ?_)
      | (with_reducible (first | refine Both.mk (fun h => ?_) (fun h => ?_) | refine Alt.mk (fun h => ?_) (fun h => ?_) | refine Pick.mk (fun h => ?_) (fun l1 x l2 h => ?_)) <;> (have hk := h) <;> (try replace h := nh h) <;> (try dsimp only [validSpec, validF, acSpec] at h) <;> (try simp only [natCast_eq] at h) <;> (try replace hr := hri hr) <;> (try (have hb : (_ : Bool) = _ := h; clear h; subst hb; (try replace hr := hri hr))) <;> first | exact Dd | refine Nx ?_)
      | with_reducible refine End.mk ?_
      | with_reducible exact True.intro)
    all_goals first
      | (fail_if_success (with_reducible refine Exists.intro ?_ ?_)
         first
         | exact Cl1
         | (dsimp only [validSpec, validF, acSpec]; exact Cl1)
         | first | exact htx (by assumption) | (exfalso; have h9 := (hoe (by assumption)).1 (by assumption); contradiction) | (exfalso; have h9 := (hoe (by assumption)).2.1 (by assumption); contradiction) | (exfalso; have h9 := (hoe (by assumption)).2.2 (by assumption) (by assumption); first | exact Int.not_lt.2 h9.1 h | exact Int.not_lt.2 h h9.2.1) | (have h9 := (hoe (by assumption)).2.2 (by assumption) (by assumption); exact ⟨h9.1, h9.2.1⟩) | (exfalso; have h9 := ((hoe (by assumption)).2.2 (by assumption) (by assumption)).2.2; exact absurd (h9.symm.trans h) (by decide))
         | exact Cl2
         | (dsimp only [validSpec, validF, acSpec]; exact Cl2)
         | (dsimp only [validSpec, validF, acSpec] at *; exact Cl2))
      | skip
    rotate_right
    · refine ⟨⟨2, by omega⟩, (by dsimp only; omega), ?_⟩
      refine Pr ?_
      (try (conv in (SS.mk _ _) => dsimp only [validSpec, validF, acSpec]))
      refine Nx ?_
      repeat' (first
        | with_reducible (first | refine Ck.au ?_ | refine Ck.all_cons ?_ | refine Ck.all_nil ?_ | refine Ck.mk ?_ ?_)
        | (with_reducible (first | refine Both.mk (fun h => ?_) (fun h => ?_) | refine Alt.mk (fun h => ?_) (fun h => ?_) | refine Pick.mk (fun h => ?_) (fun l1 x l2 h => ?_)) <;> (have hk := h) <;> (try replace h := nh h) <;> (try dsimp only [validSpec, validF, acSpec] at h) <;> (try simp only [natCast_eq] at h) <;> (try replace hr := hri hr) <;> (try (have hb : (_ : Bool) = _ := h; clear h; subst hb; (try replace hr := hri hr))) <;> first | exact Dd | refine Nx ?_)
        | with_reducible refine End.mk ?_
        | with_reducible exact True.intro)
      all_goals first
        | (fail_if_success (with_reducible refine Exists.intro ?_ ?_)
           first
           | exact Cl1
           | (dsimp only [validSpec, validF, acSpec]; exact Cl1)
           | rfl
           | exact Cl2
           | (dsimp only [validSpec, validF, acSpec]; exact Cl2)
           | (dsimp only [validSpec, validF, acSpec] at *; exact Cl2))
        | skip
    all_goals
     (refine ⟨⟨t + 1, by omega⟩, (by dsimp only; omega), ?_⟩
      refine Pr ?_
      (try (conv in (SS.mk _ _) => dsimp only [validSpec, validF, acSpec]))
      refine Nx ?_
      repeat' (first
        | with_reducible (first | refine Ck.au ?_ | refine Ck.all_cons ?_ | refine Ck.all_nil ?_ | refine Ck.mk ?_ ?_)
        | (with_reducible (first | refine Both.mk (fun h => ?_) (fun h => ?_) | refine Alt.mk (fun h => ?_) (fun h => ?_) | refine Pick.mk (fun h => ?_) (fun l1 x l2 h => ?_)) <;> (have hk := h) <;> (try replace h := nh h) <;> (try dsimp only [validSpec, validF, acSpec] at h) <;> (try simp only [natCast_eq] at h) <;> (try replace hr := hri hr) <;> (try (have hb : (_ : Bool) = _ := h; clear h; subst hb; (try replace hr := hri hr))) <;> first | exact Dd | refine Nx ?_)
        | with_reducible refine End.mk ?_
        | with_reducible exact True.intro)
      all_goals first
        | (fail_if_success (with_reducible refine Exists.intro ?_ ?_)
           first
           | exact Cl1
           | (dsimp only [validSpec, validF, acSpec]; exact Cl1)
           | rfl
           | exact Cl2
           | (dsimp only [validSpec, validF, acSpec]; exact Cl2)
           | (dsimp only [validSpec, validF, acSpec] at *; exact Cl2))
        | skip)
theorem rvl_sound : ConSound Tryz.prog AI 71 rvlSpec.con := PureSpec.sound Tryz.call71 (fun x h => rvl_ok x.1 x.2.1 h)
end Go.Proofs.YtcaoldilmnpjoaaGreat
