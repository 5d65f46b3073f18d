/-
  The top: plans of networks: which are valid (2).
-/
import Derived.Test.YtcaoldilmnpjoaaGreatVal
import Derived.Test.YtcaoldilmnpjoaaGreatScn
namespace Go.Proofs.YtcaoldilmnpjoaaGreat
set_option linter.all false
open Go.RowKit Go.Sx
set_option maxRecDepth 100000
set_option maxHeartbeats 16000000
def endsL (C : List CabT) : List (Int × Int) := C.flatMap fun c => [(c.1, c.2.1), (c.2.2.1, c.2.2.2.1)]
def repB (p : PlanT) : Bool := !decide ((p.1.map Prod.fst).Nodup ∧ (endsL p.2).Nodup)
theorem ends_at : ∀ (C : List CabT) (k : Nat), k < C.length → (endsL C)[2 * k]? = some ((C.getD k z6).1, (C.getD k z6).2.1) ∧ (endsL C)[2 * k + 1]? = some ((C.getD k z6).2.2.1, (C.getD k z6).2.2.2.1)
  | c :: C, 0, _ => ⟨rfl, rfl⟩
  | c :: C, k + 1, h => by
    have ih := ends_at C k (by simpa using h)
    have e : endsL (c :: C) = (c.1, c.2.1) :: (c.2.2.1, c.2.2.2.1) :: endsL C := rfl
    rw [e, show 2 * (k + 1) = 2 * k + 1 + 1 from by omega, show 2 * k + 1 + 1 + 1 = 2 * k + 1 + 1 + 1 from rfl]
    simpa using ih
theorem ends_len : ∀ C : List CabT, (endsL C).length = 2 * C.length
  | [] => rfl
  | c :: C => by
    have e : endsL (c :: C) = (c.1, c.2.1) :: (c.2.2.1, c.2.2.2.1) :: endsL C := rfl
    have ih := ends_len C
    rw [e, List.length_cons, List.length_cons, List.length_cons, ih]; omega
theorem nm_at (N : List NodeT) (x : Sn (N.map Prod.fst)) (h : (x.n : Int) < (N.length : Int)) : (N.map Prod.fst)[x.n]? = some (N.getD (x.n : Int).toNat zN).1 := by
  have e : (x.n : Int).toNat = x.n := rfl
  have h2 : x.n < N.length := by omega
  rw [e, List.getD_eq_getElem?_getD, List.getElem?_eq_getElem h2, List.getElem?_map, List.getElem?_eq_getElem h2]; rfl
/-- The scan of the cables' ends: i cables, and j ends of the next one. -/
structure Se (C : List CabT) where
  s : Sn (endsL C)
  i : Nat
  j : Nat
  eq : s.n = 2 * i + j
theorem Se.ihi {C : List CabT} (x : Se C) : x.i ≤ C.length := by have h1 := x.s.le; have h2 := x.eq; rw [ends_len] at h1; omega
theorem Se.z {C : List CabT} : ∃ x : Se C, x.i = 0 ∧ x.j = 0 ∧ x.s.D = [] := by
  obtain ⟨x, h1, h2⟩ := Sn.zero (endsL C)
  exact ⟨⟨x, 0, 0, h1⟩, rfl, rfl, h2⟩
theorem Se.e0 {C : List CabT} (x : Se C) (hj : x.j = 0) (h : (x.i : Int) < (C.length : Int)) : (endsL C)[x.s.n]? = some ((C.getD (x.i : Int).toNat z6).1, (C.getD (x.i : Int).toNat z6).2.1) := by
  rw [x.eq, hj]; exact (ends_at C x.i (by omega)).1
theorem Se.e1 {C : List CabT} (x : Se C) (hj : x.j = 1) (h : (x.i : Int) < (C.length : Int)) : (endsL C)[x.s.n]? = some ((C.getD (x.i : Int).toNat z6).2.2.1, (C.getD (x.i : Int).toNat z6).2.2.2.1) := by
  rw [x.eq, hj]; exact (ends_at C x.i (by omega)).2
theorem Se.inc {C : List CabT} (x : Se C) {k : Int × Int} (hk : (endsL C)[x.s.n]? = some k) (h : ¬ (getA x.s.D k).getD false = true) : ∃ y : Se C, y.i = x.i ∧ y.j = x.j + 1 ∧ y.s.D = putA x.s.D k true := by
  obtain ⟨y, h1, h2⟩ := x.s.step hk h
  exact ⟨⟨y, x.i, x.j + 1, by rw [h1, x.eq]; omega⟩, rfl, rfl, h2⟩
theorem Se.nxt {C : List CabT} (x : Se C) (h : x.j = 2) : ∃ y : Se C, y.i = x.i + 1 ∧ y.j = 0 ∧ y.s.D = x.s.D :=
  ⟨⟨x.s, x.i + 1, 0, by have := x.eq; omega⟩, rfl, rfl, rfl⟩
theorem nm_in {N : List NodeT} (h : ∀ n ∈ N, inBytes n.1) {k : Int} (hk : k < (N.length : Int)) : inBytes (N.getD k.toNat zN).1 := by
  by_cases h2 : k.toNat < N.length
  · rw [List.getD_eq_getElem?_getD, List.getElem?_eq_getElem h2]; exact h _ (List.getElem_mem h2)
  · rw [List.getD_eq_getElem?_getD, List.getElem?_eq_none (by omega)]; intro x hx; cases hx
theorem cab_in {C : List CabT} (h : ∀ c ∈ C, CabE.keyIn c) {k : Int} (hk : k < (C.length : Int)) : CabE.keyIn (C.getD k.toNat z6) := by
  by_cases h2 : k.toNat < C.length
  · rw [List.getD_eq_getElem?_getD, List.getElem?_eq_getElem h2]; exact h _ (List.getElem_mem h2)
  · rw [List.getD_eq_getElem?_getD, List.getElem?_eq_none (by omega)]; simp [Ty.keyIn]
theorem j_zero {n : Nat} (h : (n : Int) = Int.ofNat 0) : n = 0 := Int.ofNat.inj h
theorem j_one {n : Nat} (h0 : ¬ (n : Int) = Int.ofNat 0) (h : (n : Int) < 2) : n = 1 := by
  have h1 : ¬ n = 0 := fun e => h0 (congrArg Int.ofNat e)
  omega
theorem rep_n {p1 : List NodeT} {p2 : List CabT} (h : ¬ (p1.map Prod.fst).Nodup) : repB (p1, p2) = true := by unfold repB; simp [h]
theorem rep_e {p1 : List NodeT} {p2 : List CabT} (h : ¬ (endsL p2).Nodup) : repB (p1, p2) = true := by unfold repB; simp [h]
theorem rep_no {p1 : List NodeT} {p2 : List CabT} (h1 : (p1.map Prod.fst).Nodup) (x : Se p2) (hj : x.j = 0) (h : ¬ (x.i : Int) < (p2.length : Int)) : repB (p1, p2) = false := by
  have h2 : (endsL p2).Nodup := x.s.done (by have h3 := x.eq; have h4 := ends_len p2; omega)
  unfold repB; simp [h1, h2]
def repF (p : PlanT) : Tup [DT.cell .bool] := (repB p, ())
def repSpec : PureSpec := ⟨[.cell PlanE], fun (x : PlanT × Unit) => (x.1).1.length ≤ 16 ∧ (x.1).2.length ≤ 32 ∧ (∀ n ∈ (x.1).1, inBytes n.1) ∧ ∀ c ∈ (x.1).2, CabE.keyIn c, [.cell .bool], fun (x : PlanT × Unit) => repF x.1⟩
theorem rep_ok (p : PlanT) (h : repSpec.pre (p, ())) : TmplOk Tryz.prog AI 66 (argS repSpec.ds (fun _ => (p, ()))) [] (resOf (svs repSpec.rs (fun _ => repSpec.f (p, ())))) [] := by
  dsimp only [repSpec] at h ⊢
  generalize hr : repF p = r
  obtain ⟨p1, p2⟩ := p
  dsimp only [repF] at hr
  refine tmpl_of_body e0Ok mixed (fn := Tryz.f66) (c := bodyOf Tryz.f66) (by kernel_rfl) (by kernel_rfl) (by kernel_rfl) (Nat.le_of_ble_eq_true (by kernel_rfl)) ?_
  refine Pr ?_
  refine Nx ?_
  repeat' (first
    | with_reducible (first | refine Ck.au ?_ | refine Ck.all_cons ?_ | refine Ck.all_nil ?_ | refine Ck.mk ?_ ?_)
    | (with_reducible (first | refine Both.mk (fun h => ?_) (fun h => ?_) | refine Alt.mk (fun h => ?_) (fun h => ?_) | refine Pick.mk (fun h => ?_) (fun l1 x l2 h => ?_)) <;> (have hk := h) <;> (try replace h := nh h) <;> (try replace hr := hri hr) <;> (try (have hb : (_ : Bool) = _ := h; clear h; subst hb; (try replace hr := hri hr))) <;> first | exact Dd | refine Nx ?_)
    | ((with_reducible refine End.mk ?_); (try ((repeat (first | rw [ifP] at hr | rw [ifM] at hr | rw [if_pos rfl] at hr)); subst hr)))
    | with_reducible exact True.intro)
  all_goals first
    | (fail_if_success (with_reducible refine Exists.intro ?_ ?_)
       first
       | exact Cl1
       | exact Cl2)
    | skip
  obtain ⟨hp1, hp2, hp3, hp4⟩ := h
  have zn := fun (x : Sn (p1.map Prod.fst)) (hx : (x.n : Int) < (p1.length : Int)) => nm_at p1 x hx
  obtain ⟨x0, hx0, hx1⟩ := Sn.zero (p1.map Prod.fst)
  refine ⟨⟨Sn (p1.map Prod.fst), fun x => ⟨[(1, Sx.one (.ptr 0 0)), (3, Sx.one (.mp 1)), (13, Sx.one (.ro NodeE (fun _ => p1))), (14, Sx.one (.int .i64 (fun _ => p1.length))), (15, Sx.one (.int .i64 (fun _ => x.n)))],
    [.cells 25 [.ro NodeE (fun _ => p1), .ro CabE (fun _ => p2)], .map .str .bool (fun _ => x.D)]⟩, fun x => p1.length - x.n, x0⟩, ?_, fun (x : Sn (p1.map Prod.fst)) => ?_⟩
  · refine Pr ?_
    refine Nx ?_
    repeat' (first
      | with_reducible (first | refine Ck.au ?_ | refine Ck.all_cons ?_ | refine Ck.all_nil ?_ | refine Ck.mk ?_ ?_)
      | (with_reducible (first | refine Both.mk (fun h => ?_) (fun h => ?_) | refine Alt.mk (fun h => ?_) (fun h => ?_) | refine Pick.mk (fun h => ?_) (fun l1 x l2 h => ?_)) <;> (have hk := h) <;> (try replace h := nh h) <;> (try replace hr := hri hr) <;> (try (have hb : (_ : Bool) = _ := h; clear h; subst hb; (try replace hr := hri hr))) <;> first | exact Dd | refine Nx ?_)
      | with_reducible refine End.mk ?_
      | with_reducible exact True.intro)
    all_goals first
      | (fail_if_success (with_reducible refine Exists.intro ?_ ?_)
         first
         | exact Cl1
         | exact Cl2)
      | skip
  have hle := x.le
  have hdl := x.dl
  rw [List.length_map] at hle
  dsimp only at hp1 hp2 hp3 hp4
  refine Pr ?_
  refine Nx ?_
  repeat' (first
    | with_reducible (first | refine Ck.au ?_ | refine Ck.all_cons ?_ | refine Ck.all_nil ?_ | refine Ck.mk ?_ ?_)
    | (with_reducible (first | refine Both.mk (fun h => ?_) (fun h => ?_) | refine Alt.mk (fun h => ?_) (fun h => ?_) | refine Pick.mk (fun h => ?_) (fun l1 x l2 h => ?_)) <;> (have hk := h) <;> (try replace h := nh h) <;> (try replace hr := hri hr) <;> (try (have hb : (_ : Bool) = _ := h; clear h; subst hb; (try replace hr := hri hr))) <;> first | exact Dd | refine Nx ?_)
    | with_reducible refine End.mk ?_
    | with_reducible exact True.intro)
  all_goals first
    | (fail_if_success (with_reducible refine Exists.intro ?_ ?_)
       first
       | exact Cl1
       | first | exact nm_in hp3 (by assumption) | (subst hr; exact (rep_n (x.hit (zn x (by assumption)) h)).symm) | (show _ ≤ _; omega)
       | exact Cl2)
    | skip
  · obtain ⟨y, hy1, hy2⟩ := x.step (zn x (by assumption)) (by rw [h]; decide)
    refine ⟨y, by (try dsimp only); omega, ?_⟩
    refine Pr ?_
    refine Nx ?_
    repeat' (first
      | with_reducible (first | refine Ck.au ?_ | refine Ck.all_cons ?_ | refine Ck.all_nil ?_ | refine Ck.mk ?_ ?_)
      | (with_reducible (first | refine Both.mk (fun h => ?_) (fun h => ?_) | refine Alt.mk (fun h => ?_) (fun h => ?_) | refine Pick.mk (fun h => ?_) (fun l1 x l2 h => ?_)) <;> (have hk := h) <;> (try replace h := nh h) <;> (try replace hr := hri hr) <;> (try (have hb : (_ : Bool) = _ := h; clear h; subst hb; (try replace hr := hri hr))) <;> first | exact Dd | refine Nx ?_)
      | with_reducible refine End.mk ?_
      | with_reducible exact True.intro)
    all_goals first
      | (fail_if_success (with_reducible refine Exists.intro ?_ ?_)
         first
         | exact Cl1
         | first | exact hy2.symm | (rw [hy1]; rfl) | (rw [hy1]; omega)
         | exact Cl2)
      | skip
  have hnm := x.done (by rw [List.length_map]; omega)
  clear hx0 hx1 x0 hle hdl
  obtain ⟨x0, hx0, hx1, hx2⟩ := Se.z (C := p2)
  refine ⟨⟨{x : Se p2 // x.j = 0}, fun x => ⟨[(1, Sx.one (.ptr 0 0)), (6, Sx.one (.mp 2)), (29, Sx.one (.ro CabE (fun _ => p2))), (30, Sx.one (.int .i64 (fun _ => p2.length))), (31, Sx.one (.int .i64 (fun _ => x.1.i)))],
    [.cells 25 [.ro NodeE (fun _ => p1), .ro CabE (fun _ => p2)], .gone, .map (.agg (.pair Ii Ii)) .bool (fun _ => x.1.s.D)]⟩, fun x => p2.length - x.1.i, ⟨x0, hx1⟩⟩, ?_, fun (x : {x : Se p2 // x.j = 0}) => ?_⟩
  · refine Pr ?_
    refine Nx ?_
    repeat' (first
      | with_reducible (first | refine Ck.au ?_ | refine Ck.all_cons ?_ | refine Ck.all_nil ?_ | refine Ck.mk ?_ ?_)
      | (with_reducible (first | refine Both.mk (fun h => ?_) (fun h => ?_) | refine Alt.mk (fun h => ?_) (fun h => ?_) | refine Pick.mk (fun h => ?_) (fun l1 x l2 h => ?_)) <;> (have hk := h) <;> (try replace h := nh h) <;> (try replace hr := hri hr) <;> (try (have hb : (_ : Bool) = _ := h; clear h; subst hb; (try replace hr := hri hr))) <;> first | exact Dd | refine Nx ?_)
      | with_reducible refine End.mk ?_
      | with_reducible exact True.intro)
    all_goals first
      | (fail_if_success (with_reducible refine Exists.intro ?_ ?_)
         first
         | exact Cl1
         | first | (rw [hx0]; rfl) | exact hx2.symm
         | exact Cl2)
      | skip
  obtain ⟨x, hxj⟩ := x
  dsimp only
  have hle := x.ihi
  have hdl := x.s.dl
  refine Pr ?_
  refine Nx ?_
  repeat' (first
    | with_reducible (first | refine Ck.au ?_ | refine Ck.all_cons ?_ | refine Ck.all_nil ?_ | refine Ck.mk ?_ ?_)
    | (with_reducible (first | refine Both.mk (fun h => ?_) (fun h => ?_) | refine Alt.mk (fun h => ?_) (fun h => ?_) | refine Pick.mk (fun h => ?_) (fun l1 x l2 h => ?_)) <;> (have hk := h) <;> (try replace h := nh h) <;> (try replace hr := hri hr) <;> (try (have hb : (_ : Bool) = _ := h; clear h; subst hb; (try replace hr := hri hr))) <;> first | exact Dd | refine Nx ?_)
    | with_reducible refine End.mk ?_
    | with_reducible exact True.intro)
  all_goals first
    | (fail_if_success (with_reducible refine Exists.intro ?_ ?_)
       first
       | exact Cl1
       | first | (subst hr; exact (rep_no hnm x hxj (by assumption)).symm)
       | exact Cl2)
    | skip
  have he0 := fun (y : Se p2) (h1 : y.i = x.i) (h2 : y.j = 0) => h1 ▸ y.e0 h2 (by rw [h1]; assumption)
  have he1 := fun (y : Se p2) (h1 : y.i = x.i) (h2 : y.j = 1) => h1 ▸ y.e1 h2 (by rw [h1]; assumption)
  have hci := cab_in hp4 (k := (x.i : Int)) (by assumption)
  refine ⟨⟨{y : Se p2 // y.i = x.i ∧ y.j ≤ 2}, fun y => ⟨[(1, Sx.one (.ptr 0 0)), (6, Sx.one (.mp 2)), (29, Sx.one (.ro CabE (fun _ => p2))), (30, Sx.one (.int .i64 (fun _ => p2.length))), (31, Sx.one (.int .i64 (fun _ => x.i))),
      (45, .val (.agg [.int .i64 (fun _ => (p2.getD (x.i : Int).toNat z6).1), .int .i64 (fun _ => (p2.getD (x.i : Int).toNat z6).2.1), .int .i64 (fun _ => (p2.getD (x.i : Int).toNat z6).2.2.1), .int .i64 (fun _ => (p2.getD (x.i : Int).toNat z6).2.2.2.1)])),
      (46, Sx.one (.int .i64 (fun _ => y.1.j)))],
    [.cells 25 [.ro NodeE (fun _ => p1), .ro CabE (fun _ => p2)], .gone, .map (.agg (.pair Ii Ii)) .bool (fun _ => y.1.s.D), .gone]⟩, fun y => 2 - y.1.j, ⟨x, rfl, by omega⟩⟩, ?_, fun (y : {y : Se p2 // y.i = x.i ∧ y.j ≤ 2}) => ?_⟩
  · refine Pr ?_
    refine Nx ?_
    repeat' (first
      | with_reducible (first | refine Ck.au ?_ | refine Ck.all_cons ?_ | refine Ck.all_nil ?_ | refine Ck.mk ?_ ?_)
      | (with_reducible (first | refine Both.mk (fun h => ?_) (fun h => ?_) | refine Alt.mk (fun h => ?_) (fun h => ?_) | refine Pick.mk (fun h => ?_) (fun l1 x l2 h => ?_)) <;> (have hk := h) <;> (try replace h := nh h) <;> (try replace hr := hri hr) <;> (try (have hb : (_ : Bool) = _ := h; clear h; subst hb; (try replace hr := hri hr))) <;> first | exact Dd | refine Nx ?_)
      | with_reducible refine End.mk ?_
      | with_reducible exact True.intro)
    all_goals first
      | (fail_if_success (with_reducible refine Exists.intro ?_ ?_)
         first
         | exact Cl1
         | first | (rw [hxj]; rfl)
         | exact Cl2)
      | skip
  obtain ⟨y, hy1, hy2⟩ := y
  dsimp only
  have hle := y.ihi
  have hdl := y.s.dl
  have hye := y.eq
  refine Pr ?_
  refine Nx ?_
  repeat' (first
    | with_reducible (first | refine Ck.au ?_ | refine Ck.all_cons ?_ | refine Ck.all_nil ?_ | refine Ck.mk ?_ ?_)
    | (with_reducible (first | refine Both.mk (fun h => ?_) (fun h => ?_) | refine Alt.mk (fun h => ?_) (fun h => ?_) | refine Pick.mk (fun h => ?_) (fun l1 x l2 h => ?_)) <;> (have hk := h) <;> (try replace h := nh h) <;> (try replace hr := hri hr) <;> (try (have hb : (_ : Bool) = _ := h; clear h; subst hb; (try replace hr := hri hr))) <;> first | exact Dd | refine Nx ?_)
    | with_reducible refine End.mk ?_
    | with_reducible exact True.intro)
  all_goals first
    | (fail_if_success (with_reducible refine Exists.intro ?_ ?_)
       first
       | exact Cl1
       | first | exact ⟨hci.1, hci.2.1⟩ | exact ⟨hci.2.2.1, hci.2.2.2.1⟩ | exact congrArg Int.ofNat (j_one (by assumption) (by assumption)) | (subst hr; exact (rep_e (y.s.hit (he0 y hy1 (j_zero (by assumption))) h)).symm) | (subst hr; exact (rep_e (y.s.hit (he1 y hy1 (j_one (by assumption) (by assumption))) h)).symm) | (show _ ≤ _; omega)
       | exact Cl2)
    | skip
  · have hjz := j_zero (n := y.j) (by assumption)
    obtain ⟨u, hu1, hu2, hu3⟩ := y.inc (he0 y hy1 (j_zero (by assumption))) (by rw [h]; decide)
    refine ⟨⟨u, by omega, by omega⟩, by (try dsimp only); omega, ?_⟩
    refine Pr ?_
    refine Nx ?_
    repeat' (first
      | with_reducible (first | refine Ck.au ?_ | refine Ck.all_cons ?_ | refine Ck.all_nil ?_ | refine Ck.mk ?_ ?_)
      | (with_reducible (first | refine Both.mk (fun h => ?_) (fun h => ?_) | refine Alt.mk (fun h => ?_) (fun h => ?_) | refine Pick.mk (fun h => ?_) (fun l1 x l2 h => ?_)) <;> (have hk := h) <;> (try replace h := nh h) <;> (try replace hr := hri hr) <;> (try (have hb : (_ : Bool) = _ := h; clear h; subst hb; (try replace hr := hri hr))) <;> first | exact Dd | refine Nx ?_)
      | with_reducible refine End.mk ?_
      | with_reducible exact True.intro)
    all_goals first
      | (fail_if_success (with_reducible refine Exists.intro ?_ ?_)
         first
         | exact Cl1
         | first | exact hu3.symm | (rw [hu2]; rfl) | (rw [hu2]; omega)
         | exact Cl2)
      | skip
  · have hjz := j_one (n := y.j) (by assumption) (by assumption)
    obtain ⟨u, hu1, hu2, hu3⟩ := y.inc (he1 y hy1 (j_one (by assumption) (by assumption))) (by rw [h]; decide)
    refine ⟨⟨u, by omega, by omega⟩, by (try dsimp only); omega, ?_⟩
    refine Pr ?_
    refine Nx ?_
    repeat' (first
      | with_reducible (first | refine Ck.au ?_ | refine Ck.all_cons ?_ | refine Ck.all_nil ?_ | refine Ck.mk ?_ ?_)
      | (with_reducible (first | refine Both.mk (fun h => ?_) (fun h => ?_) | refine Alt.mk (fun h => ?_) (fun h => ?_) | refine Pick.mk (fun h => ?_) (fun l1 x l2 h => ?_)) <;> (have hk := h) <;> (try replace h := nh h) <;> (try replace hr := hri hr) <;> (try (have hb : (_ : Bool) = _ := h; clear h; subst hb; (try replace hr := hri hr))) <;> first | exact Dd | refine Nx ?_)
      | with_reducible refine End.mk ?_
      | with_reducible exact True.intro)
    all_goals first
      | (fail_if_success (with_reducible refine Exists.intro ?_ ?_)
         first
         | exact Cl1
         | first | exact hu3.symm | (rw [hu2]; rfl) | (rw [hu2]; omega)
         | exact Cl2)
      | skip
  obtain ⟨u, hu1, hu2, hu3⟩ := y.nxt (by omega)
  refine ⟨⟨u, hu2⟩, by (try dsimp only); omega, ?_⟩
  refine Pr ?_
  refine Nx ?_
  repeat' (first
    | with_reducible (first | refine Ck.au ?_ | refine Ck.all_cons ?_ | refine Ck.all_nil ?_ | refine Ck.mk ?_ ?_)
    | (with_reducible (first | refine Both.mk (fun h => ?_) (fun h => ?_) | refine Alt.mk (fun h => ?_) (fun h => ?_) | refine Pick.mk (fun h => ?_) (fun l1 x l2 h => ?_)) <;> (have hk := h) <;> (try replace h := nh h) <;> (try replace hr := hri hr) <;> (try (have hb : (_ : Bool) = _ := h; clear h; subst hb; (try replace hr := hri hr))) <;> first | exact Dd | refine Nx ?_)
    | with_reducible refine End.mk ?_
    | with_reducible exact True.intro)
  all_goals first
    | (fail_if_success (with_reducible refine Exists.intro ?_ ?_)
       first
       | exact Cl1
       | first | exact hu3.symm | (rw [hu1, hy1]; rfl) | (rw [hu1]; omega)
       | exact Cl2)
    | skip
theorem rep_sound : ConSound Tryz.prog AI 66 repSpec.con := PureSpec.sound Tryz.call66 (fun x h => rep_ok x.1 h)
end Go.Proofs.YtcaoldilmnpjoaaGreat
