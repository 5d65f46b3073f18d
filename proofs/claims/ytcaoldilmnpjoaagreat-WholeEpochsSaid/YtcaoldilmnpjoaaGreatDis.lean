/-
  The top: levels: the walks of usable, distances, Distances.
-/
import Derived.Test.YtcaoldilmnpjoaaGreatBfs
namespace Go.Proofs.YtcaoldilmnpjoaaGreat
set_option linter.all false
open Go.RowKit Go.Sx
set_option maxRecDepth 100000
set_option maxHeartbeats 16000000
theorem env_nest {E : Env Ab} (hE : EnvOk Tryz.prog AI E) {t tb : Nat} {i j : TI} (h : Go.Sx.look E.ti t = some i) (h2 : Go.Sx.look E.ti tb = some j) : EnvOk Tryz.prog AI ⟨(t, ⟨i.kind, i.size, 3, i.zero⟩) :: (tb, j) :: E.ti, E.con⟩ := by
  refine ⟨fun t' i' h' => ?_, hE.con⟩
  rw [Go.Sx.look_cons] at h'
  split at h'
  · rename_i e
    cases h'; subst e
    obtain ⟨h1, h2, _⟩ := hE.ti _ _ h
    exact ⟨h1, h2, fun hb => by cases hb⟩
  · rw [Go.Sx.look_cons] at h'
    split at h'
    · rename_i e
      cases h'; subst e
      exact hE.ti _ _ h2
    · exact hE.ti _ _ h'
theorem vis_inl : ConSound Tryz.prog AI 131 (inl E0 Tryz.f131 1) := inl_sound e0Ok mixed (fn := Tryz.f131) (c := bodyOf Tryz.f131) Tryz.call131 (by kernel_rfl) (by kernel_rfl) (by kernel_rfl) 1
noncomputable abbrev Ed1 : Env Ab := ⟨tis, [(131, inl E0 Tryz.f131 1)] ++ E0.con⟩
theorem ed1Ok : EnvOk Tryz.prog AI Ed1 := (e0Ok.add vis_inl)
noncomputable abbrev Ed2 : Env Ab := ⟨(30, ⟨.slice 3 (some (.int .i64)), 1, 3, [.nilS]⟩) :: (3, ⟨.int .i64, 1, 0, [.li .i64 0]⟩) :: Ed1.ti, Ed1.con⟩
theorem ed2Ok : EnvOk Tryz.prog AI Ed2 := env_nest ed1Ok (t := 30) (i := ⟨.slice 3 (some (.int .i64)), 1, 0, [.nilS]⟩) (tb := 3) (j := ⟨.int .i64, 1, 0, [.li .i64 0]⟩) rfl rfl
/-- The first i elements are -1. -/
structure Lf (n : Nat) where
  i : Int
  M : List Int
  lo : 0 ≤ i
  hi : i ≤ (n : Int)
  len : M.length = n
  ok : ∀ k : Nat, (k : Int) < i → M[k]? = some (-1)
theorem Lf.zero (n : Nat) : ∃ x : Lf n, x.i = 0 ∧ x.M = List.replicate n 0 := ⟨⟨0, List.replicate n 0, Int.le_refl _, by omega, by simp, fun k h => by omega⟩, rfl, rfl⟩
theorem Lf.step {n : Nat} (x : Lf n) (h : x.i < (n : Int)) : ∃ y : Lf n, y.i = x.i + 1 ∧ y.M = x.M.set x.i.toNat (-1) := by
  have hlo := x.lo; have hl := x.len
  refine ⟨⟨x.i + 1, x.M.set x.i.toNat (-1), by omega, by omega, by simpa using hl, fun k hk => ?_⟩, rfl, rfl⟩
  rw [List.getElem?_set]
  split
  · rw [if_pos (by omega)]
  · exact x.ok k (by omega)
theorem Lf.done {n : Nat} (x : Lf n) (h : ¬ x.i < (n : Int)) : x.M = List.replicate n (-1) := by
  have hl := x.len
  refine List.ext_getElem? fun k => ?_
  rw [List.getElem?_replicate]
  split
  · exact x.ok k (by omega)
  · exact List.getElem?_eq_none (by omega)
def distF (p : PlanT) (root : Int) (up : List Bool) : Tup [DT.lst Ii] := (distL p.2 up p.1.length root, ())
/-- A plan and cables that are up. -/
structure UpOk (p : PlanT) (up : List Bool) : Prop where
  n : p.1.length ≤ 16
  c : p.2.length ≤ 32
  ends : EndsOk p.2 p.1.length
  up : up.length = p.2.length
theorem cut_ok {α : Type} {L : List α} (h : (0 : Int) < (L.length : Int)) : 0 ≤ loOf (some fun _ => 1) () ∧ loOf (some fun _ => 1) () ≤ hiOf none (fun _ => (L.length : Int)) () ∧ hiOf none (fun _ => (L.length : Int)) () ≤ (L.length : Int) := ⟨by show (0 : Int) ≤ 1; decide, by show (1 : Int) ≤ L.length; omega, Int.le_refl _⟩
theorem cut_drop {α : Type} (L : List α) : List.drop (loOf (some fun _ => 1) ()).toNat (List.take (hiOf none (fun _ => (L.length : Int)) ()).toNat L) = L.drop 1 := by
  show List.drop 1 (List.take (L.length : Int).toNat L) = L.drop 1
  rw [List.take_of_length_le (by omega)]
def distSpec : PureSpec := ⟨[.cell PlanE, .cell Ii, .lst .bool], fun (x : PlanT × Int × (List Bool) × Unit) => UpOk x.1 x.2.2.1 ∧ 0 ≤ x.2.1 ∧ x.2.1 < ((x.1).1.length : Int), [.lst Ii], fun (x : PlanT × Int × (List Bool) × Unit) => distF x.1 x.2.1 x.2.2.1⟩
theorem dist_ok (p : PlanT) (root : Int) (up : List Bool) (h : distSpec.pre (p, root, up, ())) : TmplOk Tryz.prog AI 108 (argS distSpec.ds (fun _ => (p, root, up, ()))) [] (resOf (svs distSpec.rs (fun _ => distSpec.f (p, root, up, ())))) [] := by
  dsimp only [distSpec] at h ⊢
  generalize hr : distF p root up = r
  obtain ⟨p1, p2⟩ := p; obtain ⟨⟨hn, hc, hE, hup⟩, hr0, hr1⟩ := h; dsimp only at hn hc hE hup hr0 hr1
  dsimp only [distF] at hr
  refine tmpl_of_body ed2Ok mixed (fn := Tryz.f108) (c := bodyOf Tryz.f108) (by kernel_rfl) (by kernel_rfl) (by kernel_rfl) (Nat.le_of_ble_eq_true (by kernel_rfl)) ?_
  refine Pr ?_
  refine Nx ?_
  repeat' (first
    | with_reducible (first | refine Ck.au ?_ | refine Ck.all_cons ?_ | refine Ck.all_nil ?_ | refine Ck.mk ?_ ?_)
    | (with_reducible (first | refine Both.mk (fun h => ?_) (fun h => ?_) | refine Alt.mk (fun h => ?_) (fun h => ?_) | refine Pick.mk (fun h => ?_) (fun l1 x l2 h => ?_)) <;> (have hk := h) <;> (try replace h := nh h) <;> (try (exfalso; exact hab (by assumption) (by assumption) (by assumption))) <;> (try replace hr := hri hr) <;> (try (have hb : (_ : Bool) = _ := h; clear h; subst hb; (try replace hr := hri hr))) <;> first | exact Dd | refine Nx ?_)
    | ((with_reducible refine End.mk ?_); (try ((repeat (first | rw [ifP] at hr | rw [ifM] at hr | rw [if_pos rfl] at hr)); subst hr)))
    | with_reducible exact True.intro)
  all_goals first
    | (fail_if_success (with_reducible refine Exists.intro ?_ ?_)
       first
       | exact Cl1
       | exact Cl2)
    | skip
  obtain ⟨x0, hx0, hx1⟩ := Lf.zero p1.length
  refine ⟨⟨Lf p1.length, fun x => ⟨[(1, Sx.one (.int .i64 (fun _ => root))), (2, Sx.one (.ro .bool (fun _ => up))), (3, Sx.one (.ptr 0 0)), (7, Sx.one (.ptr 2 0)), (19, Sx.one (.int .i64 (fun _ => p1.length))), (20, Sx.one (.int .i64 (fun _ => x.i)))],
    [.cells 25 [.ro NodeE (fun _ => p1), .ro CabE (fun _ => p2)], .row 3 Ii 0 (fun _ => x.M), .cells 30 [.hd 1 0]]⟩, fun x => (p1.length - x.i).toNat, x0⟩, ?_, fun (x : Lf p1.length) => ?_⟩
  · refine Pr ?_
    refine Nx ?_
    repeat' (first
      | with_reducible (first | refine Ck.au ?_ | refine Ck.all_cons ?_ | refine Ck.all_nil ?_ | refine Ck.mk ?_ ?_)
      | (with_reducible (first | refine Both.mk (fun h => ?_) (fun h => ?_) | refine Alt.mk (fun h => ?_) (fun h => ?_) | refine Pick.mk (fun h => ?_) (fun l1 x l2 h => ?_)) <;> (have hk := h) <;> (try replace h := nh h) <;> (try (exfalso; exact hab (by assumption) (by assumption) (by assumption))) <;> (try replace hr := hri hr) <;> (try (have hb : (_ : Bool) = _ := h; clear h; subst hb; (try replace hr := hri hr))) <;> first | exact Dd | refine Nx ?_)
      | with_reducible refine End.mk ?_
      | with_reducible exact True.intro)
    all_goals first
      | (fail_if_success (with_reducible refine Exists.intro ?_ ?_)
         first
         | exact Cl1
         | first | exact hx0.symm | exact hx1.symm
         | exact Cl2)
      | skip
  have hlo := x.lo
  have hhi := x.hi
  have hle := x.len
  refine Pr ?_
  refine Nx ?_
  repeat' (first
    | with_reducible (first | refine Ck.au ?_ | refine Ck.all_cons ?_ | refine Ck.all_nil ?_ | refine Ck.mk ?_ ?_)
    | (with_reducible (first | refine Both.mk (fun h => ?_) (fun h => ?_) | refine Alt.mk (fun h => ?_) (fun h => ?_) | refine Pick.mk (fun h => ?_) (fun l1 x l2 h => ?_)) <;> (have hk := h) <;> (try replace h := nh h) <;> (try (exfalso; exact hab (by assumption) (by assumption) (by assumption))) <;> (try replace hr := hri hr) <;> (try (have hb : (_ : Bool) = _ := h; clear h; subst hb; (try replace hr := hri hr))) <;> first | exact Dd | refine Nx ?_)
    | with_reducible refine End.mk ?_
    | with_reducible exact True.intro)
  all_goals first
    | (fail_if_success (with_reducible refine Exists.intro ?_ ?_)
       first
       | exact Cl1
       | exact Cl2)
    | skip
  · obtain ⟨y, hy1, hy2⟩ := x.step (by assumption)
    refine ⟨y, la_meas (by assumption) hy1, ?_⟩
    refine Pr ?_
    refine Nx ?_
    repeat' (first
      | with_reducible (first | refine Ck.au ?_ | refine Ck.all_cons ?_ | refine Ck.all_nil ?_ | refine Ck.mk ?_ ?_)
      | (with_reducible (first | refine Both.mk (fun h => ?_) (fun h => ?_) | refine Alt.mk (fun h => ?_) (fun h => ?_) | refine Pick.mk (fun h => ?_) (fun l1 x l2 h => ?_)) <;> (have hk := h) <;> (try replace h := nh h) <;> (try (exfalso; exact hab (by assumption) (by assumption) (by assumption))) <;> (try replace hr := hri hr) <;> (try (have hb : (_ : Bool) = _ := h; clear h; subst hb; (try replace hr := hri hr))) <;> first | exact Dd | refine Nx ?_)
      | with_reducible refine End.mk ?_
      | with_reducible exact True.intro)
    all_goals first
      | (fail_if_success (with_reducible refine Exists.intro ?_ ?_)
         first
         | exact Cl1
         | first | exact hy1.symm | exact hy2.symm
         | exact Cl2)
      | skip
  have hM := x.done (by assumption)
  clear hx0 hx1 x0 hlo hhi hle
  obtain ⟨x0, hx0⟩ := Ds.zero (C := p2) (up := up) hr0 hr1
  refine ⟨⟨Ds p2 up p1.length root, fun x => ⟨[(2, Sx.one (.ro .bool (fun _ => up))), (3, Sx.one (.ptr 0 0)), (7, Sx.one (.ptr 2 0)), (9, Sx.one (.ptr 4 0))],
    [.cells 25 [.ro NodeE (fun _ => p1), .ro CabE (fun _ => p2)], .row 3 Ii 0 (fun _ => x.S.1), .cells 30 [.hd 1 0], .row 3 Ii 0 (fun _ => x.S.2), .cells 30 [.hd 3 0]]⟩, fun x => x.k, x0⟩, ?_, fun (x : Ds p2 up p1.length root) => ?_⟩
  · refine Pr ?_
    refine Nx ?_
    repeat' (first
      | with_reducible (first | refine Ck.au ?_ | refine Ck.all_cons ?_ | refine Ck.all_nil ?_ | refine Ck.mk ?_ ?_)
      | (with_reducible (first | refine Both.mk (fun h => ?_) (fun h => ?_) | refine Alt.mk (fun h => ?_) (fun h => ?_) | refine Pick.mk (fun h => ?_) (fun l1 x l2 h => ?_)) <;> (have hk := h) <;> (try replace h := nh h) <;> (try (exfalso; exact hab (by assumption) (by assumption) (by assumption))) <;> (try replace hr := hri hr) <;> (try (have hb : (_ : Bool) = _ := h; clear h; subst hb; (try replace hr := hri hr))) <;> first | exact Dd | refine Nx ?_)
      | with_reducible refine End.mk ?_
      | with_reducible exact True.intro)
    all_goals first
      | (fail_if_success (with_reducible refine Exists.intro ?_ ?_)
         first
         | exact Cl1
         | first | (rw [hx0, hM]; rfl) | (rw [hx0]; rfl)
         | exact Cl2)
      | skip
  have hg := x.gd
  have hle := hg.len
  refine Pr ?_
  refine Nx ?_
  repeat' (first
    | with_reducible (first | refine Ck.au ?_ | refine Ck.all_cons ?_ | refine Ck.all_nil ?_ | refine Ck.mk ?_ ?_)
    | (with_reducible (first | refine Both.mk (fun h => ?_) (fun h => ?_) | refine Alt.mk (fun h => ?_) (fun h => ?_) | refine Pick.mk (fun h => ?_) (fun l1 x l2 h => ?_)) <;> (have hk := h) <;> (try replace h := nh h) <;> (try (exfalso; exact hab (by assumption) (by assumption) (by assumption))) <;> (try replace hr := hri hr) <;> (try (have hb : (_ : Bool) = _ := h; clear h; subst hb; (try replace hr := hri hr))) <;> first | exact Dd | refine Nx ?_)
    | with_reducible refine End.mk ?_
    | with_reducible exact True.intro)
  all_goals first
    | (fail_if_success (with_reducible refine Exists.intro ?_ ?_)
       first
       | exact Cl1
       | first | (subst hr; exact x.done (by omega)) | exact cut_ok h
       | exact Cl2)
    | skip
  have hq : 0 < x.S.2.length := by omega
  obtain ⟨hnd, hln⟩ := hg.head hq
  have hsc := fun (j : Nat) (hj : j ≤ p2.length) => Gd.scan (up := up) hE hnd j _ hj hg.tail hln
  refine ⟨⟨{j : Nat // j ≤ p2.length}, fun j => ⟨[(2, Sx.one (.ro .bool (fun _ => up))), (3, Sx.one (.ptr 0 0)), (7, Sx.one (.ptr 2 0)), (9, Sx.one (.ptr 4 0)), (10, Sx.one (.ptr 5 0)), (11, .val (.fn 131 [.ptr 2 0, .ptr 5 0, .ptr 4 0])), (42, Sx.one (.ro CabE (fun _ => p2))), (43, Sx.one (.int .i64 (fun _ => p2.length))), (44, Sx.one (.int .i64 (fun _ => j.1)))],
    [.cells 25 [.ro NodeE (fun _ => p1), .ro CabE (fun _ => p2)], .row 3 Ii 0 (fun _ => (scanF p2 up (x.S.2.getD 0 0) j.1 (x.S.1, x.S.2.drop 1)).1), .cells 30 [.hd 1 0], .row 3 Ii 0 (fun _ => (scanF p2 up (x.S.2.getD 0 0) j.1 (x.S.1, x.S.2.drop 1)).2), .cells 30 [.hd 3 0], .cells 3 [.int .i64 (fun _ => x.S.2.getD 0 0)]]⟩, fun j => p2.length - j.1, ⟨0, Nat.zero_le _⟩⟩, ?_, fun (j : {j : Nat // j ≤ p2.length}) => ?_⟩
  · refine Pr ?_
    refine Nx ?_
    repeat' (first
      | with_reducible (first | refine Ck.au ?_ | refine Ck.all_cons ?_ | refine Ck.all_nil ?_ | refine Ck.mk ?_ ?_)
      | (with_reducible (first | refine Both.mk (fun h => ?_) (fun h => ?_) | refine Alt.mk (fun h => ?_) (fun h => ?_) | refine Pick.mk (fun h => ?_) (fun l1 x l2 h => ?_)) <;> (have hk := h) <;> (try replace h := nh h) <;> (try (exfalso; exact hab (by assumption) (by assumption) (by assumption))) <;> (try replace hr := hri hr) <;> (try (have hb : (_ : Bool) = _ := h; clear h; subst hb; (try replace hr := hri hr))) <;> first | exact Dd | refine Nx ?_)
      | with_reducible refine End.mk ?_
      | with_reducible exact True.intro)
    all_goals first
      | (fail_if_success (with_reducible refine Exists.intro ?_ ?_)
         first
         | exact Cl1
         | first | exact cut_drop _ | (rw [cut_drop]; rfl)
         | exact Cl2)
      | skip
  obtain ⟨j, hj⟩ := j
  dsimp only
  have hT := hsc j hj
  have hcb := fun hjl : j < p2.length => hE _ (getD_mem hjl)
  have hst : j < p2.length → scanF p2 up (x.S.2.getD 0 0) (j + 1) (x.S.1, x.S.2.drop 1) = stpF (x.S.2.getD 0 0) (p2.getD j z6) (up.getD j false) (scanF p2 up (x.S.2.getD 0 0) j (x.S.1, x.S.2.drop 1)) := fun _ => rfl
  have hst2 := fun (hjl : j < p2.length) => hsc (j + 1) hjl
  have hmu : muS p1.length (x.S.1, x.S.2.drop 1) ≤ 17 := by
    have h1 := x.mu; have h2 := x.kb
    have : muS p1.length (x.S.1, x.S.2.drop 1) ≤ muS p1.length x.S := by unfold muS; simp only [List.length_drop]; omega
    omega
  generalize hnd' : x.S.2.getD 0 0 = nd at *
  generalize hS1 : (x.S.1, x.S.2.drop 1) = S1 at *
  generalize hTT : scanF p2 up nd j S1 = T at *
  have hab : ((j : Nat) : Int) < (p2.length : Int) → (p2.getD (j : Int).toNat z6).1 = nd → (p2.getD (j : Int).toNat z6).2.2.1 = nd → False := fun h1 h2 h3 => (hcb (by omega)).2.2 (h2.trans h3.symm)
  have ixA := fun (h1 : (j : Int) < (p2.length : Int)) => hT.1.ix (hcb (by omega)).1
  have ixB := fun (h1 : (j : Int) < (p2.length : Int)) => hT.1.ix (hcb (by omega)).2.1
  have ixN := hT.1.ix hnd
  have hi6 := hT.1.i64 hnd hn
  have hrow : ∀ o : Int, T.2.length + [o].length ≤ maxRow := fun o => Gd.row (C := p2) (root := root) (by rw [hT.2.2]; exact hmu)
  refine Pr ?_
  refine Nx ?_
  repeat' (first
    | with_reducible (first | refine Ck.au ?_ | refine Ck.all_cons ?_ | refine Ck.all_nil ?_ | refine Ck.mk ?_ ?_)
    | (with_reducible (first | refine Both.mk (fun h => ?_) (fun h => ?_) | refine Alt.mk (fun h => ?_) (fun h => ?_) | refine Pick.mk (fun h => ?_) (fun l1 x l2 h => ?_)) <;> (have hk := h) <;> (try replace h := nh h) <;> (try (exfalso; exact hab (by assumption) (by assumption) (by assumption))) <;> (try replace hr := hri hr) <;> (try (have hb : (_ : Bool) = _ := h; clear h; subst hb; (try replace hr := hri hr))) <;> first | exact Dd | refine Nx ?_)
    | with_reducible refine End.mk ?_
    | with_reducible exact True.intro)
  all_goals first
    | (fail_if_success (with_reducible refine Exists.intro ?_ ?_)
       first
       | exact Cl1
       | first | exact ixA (by assumption) | exact ixB (by assumption) | exact ixN | exact hi6 | exact hrow _
       | exact Cl2)
    | skip
  rotate_right
  · have hj9 : j = p2.length := by omega
    obtain ⟨y, hy1, hy2⟩ := x.next hE hq
    have hyT : y.S = T := by
      rw [hy2, ← hTT, hj9]
      unfold rndF
      rw [hnd', hS1]
    refine ⟨y, hy1, ?_⟩
    refine Pr ?_
    refine Nx ?_
    repeat' (first
      | with_reducible (first | refine Ck.au ?_ | refine Ck.all_cons ?_ | refine Ck.all_nil ?_ | refine Ck.mk ?_ ?_)
      | (with_reducible (first | refine Both.mk (fun h => ?_) (fun h => ?_) | refine Alt.mk (fun h => ?_) (fun h => ?_) | refine Pick.mk (fun h => ?_) (fun l1 x l2 h => ?_)) <;> (have hk := h) <;> (try replace h := nh h) <;> (try (exfalso; exact hab (by assumption) (by assumption) (by assumption))) <;> (try replace hr := hri hr) <;> (try (have hb : (_ : Bool) = _ := h; clear h; subst hb; (try replace hr := hri hr))) <;> first | exact Dd | refine Nx ?_)
      | with_reducible refine End.mk ?_
      | with_reducible exact True.intro)
    all_goals first
      | (fail_if_success (with_reducible refine Exists.intro ?_ ?_)
         first
         | exact Cl1
         | first | (rw [hyT]; done)
         | exact Cl2)
      | skip
  all_goals
    (refine ⟨⟨j + 1, by omega⟩, (by dsimp only; omega), ?_⟩
     refine Pr ?_
     refine Nx ?_
     repeat' (first
       | with_reducible (first | refine Ck.au ?_ | refine Ck.all_cons ?_ | refine Ck.all_nil ?_ | refine Ck.mk ?_ ?_)
       | (with_reducible (first | refine Both.mk (fun h => ?_) (fun h => ?_) | refine Alt.mk (fun h => ?_) (fun h => ?_) | refine Pick.mk (fun h => ?_) (fun l1 x l2 h => ?_)) <;> (have hk := h) <;> (try replace h := nh h) <;> (try (exfalso; exact hab (by assumption) (by assumption) (by assumption))) <;> (try replace hr := hri hr) <;> (try (have hb : (_ : Bool) = _ := h; clear h; subst hb; (try replace hr := hri hr))) <;> first | exact Dd | refine Nx ?_)
       | with_reducible refine End.mk ?_
       | with_reducible exact True.intro)
     all_goals first
       | (fail_if_success (with_reducible refine Exists.intro ?_ ?_)
          first
          | exact Cl1
          | first | exact (congrArg Prod.fst ((hst (by omega)).trans (stp1 (by assumption) ))).symm | exact (congrArg Prod.snd ((hst (by omega)).trans (stp1 (by assumption) ))).symm | exact (congrArg Prod.fst ((hst (by omega)).trans (stp2 (by assumption) (by assumption) (by assumption) (by assumption) ))).symm | exact (congrArg Prod.snd ((hst (by omega)).trans (stp2 (by assumption) (by assumption) (by assumption) (by assumption) ))).symm | exact (congrArg Prod.fst ((hst (by omega)).trans (stp3 (by assumption) (by assumption) (by assumption) (by assumption) ))).symm | exact (congrArg Prod.snd ((hst (by omega)).trans (stp3 (by assumption) (by assumption) (by assumption) (by assumption) ))).symm | exact (congrArg Prod.fst ((hst (by omega)).trans (stp4 (by assumption) (by assumption) (by assumption) (by assumption) ))).symm | exact (congrArg Prod.snd ((hst (by omega)).trans (stp4 (by assumption) (by assumption) (by assumption) (by assumption) ))).symm | exact (congrArg Prod.fst ((hst (by omega)).trans (stp5 (by assumption) (by assumption) (by assumption) (by assumption) ))).symm | exact (congrArg Prod.snd ((hst (by omega)).trans (stp5 (by assumption) (by assumption) (by assumption) (by assumption) ))).symm | exact (congrArg Prod.fst ((hst (by omega)).trans (stp6 (by assumption) (by assumption) ))).symm | exact (congrArg Prod.snd ((hst (by omega)).trans (stp6 (by assumption) (by assumption) ))).symm
          | exact Cl2)
       | skip)
theorem dist_sound : ConSound Tryz.prog AI 108 distSpec.con := PureSpec.sound Tryz.call108 (fun x h => dist_ok x.1 x.2.1 x.2.2.1 h)
def useF (p : PlanT) (up : List Bool) : Tup [DT.cell .bool] := if validI p = 0 then (decide ((up.length : Int) = (p.2.length : Int)), ()) else (false, ())
noncomputable abbrev Ed3 : Env Ab := ⟨tis, [(20, validSpec.con)] ++ E0.con⟩
theorem ed3Ok : EnvOk Tryz.prog AI Ed3 := (e0Ok.add valid_sound)
def useSpec : PureSpec := ⟨[.cell PlanE, .lst .bool], fun (x : PlanT × (List Bool) × Unit) => PlOk x.1, [.cell .bool], fun (x : PlanT × (List Bool) × Unit) => useF x.1 x.2.1⟩
theorem use_ok (p : PlanT) (up : List Bool) (h : useSpec.pre (p, up, ())) : TmplOk Tryz.prog AI 107 (argS useSpec.ds (fun _ => (p, up, ()))) [] (resOf (svs useSpec.rs (fun _ => useSpec.f (p, up, ())))) [] := by
  dsimp only [useSpec] at h ⊢
  generalize hr : useF p up = r
  obtain ⟨p1, p2⟩ := p
  dsimp only [useF] at hr
  refine tmpl_of_body ed3Ok mixed (fn := Tryz.f107) (c := bodyOf Tryz.f107) (by kernel_rfl) (by kernel_rfl) (by kernel_rfl) (Nat.le_of_ble_eq_true (by kernel_rfl)) ?_
  refine Pr ?_
  (try (conv in (SS.mk _ _) => dsimp only [validSpec, validF]))
  refine Nx ?_
  repeat' (first
    | with_reducible (first | refine Ck.au ?_ | refine Ck.all_cons ?_ | refine Ck.all_nil ?_ | refine Ck.mk ?_ ?_)
    | (with_reducible (first | refine Both.mk (fun h => ?_) (fun h => ?_) | refine Alt.mk (fun h => ?_) (fun h => ?_) | refine Pick.mk (fun h => ?_) (fun l1 x l2 h => ?_)) <;> (have hk := h) <;> (try replace h := nh h) <;> (try dsimp only [validSpec, validF] at h) <;> (try simp only [natCast_eq] at h) <;> (try replace hr := hri hr) <;> (try (have hb : (_ : Bool) = _ := h; clear h; subst hb; (try replace hr := hri hr))) <;> first | exact Dd | refine Nx ?_)
    | ((with_reducible refine End.mk ?_); (try ((repeat (first | rw [ifP] at hr | rw [ifM] at hr | rw [if_pos rfl] at hr)); subst hr)))
    | with_reducible exact True.intro)
  all_goals first
    | (fail_if_success (with_reducible refine Exists.intro ?_ ?_)
       first
       | exact Cl1
       | (dsimp only [validSpec, validF]; exact Cl1)
       | exact Cl2
       | (dsimp only [validSpec, validF]; exact Cl2)
       | (dsimp only [validSpec, validF] at *; exact Cl2))
    | skip
theorem use_sound : ConSound Tryz.prog AI 107 useSpec.con := PureSpec.sound Tryz.call107 (fun x h => use_ok x.1 x.2.1 h)
end Go.Proofs.YtcaoldilmnpjoaaGreat
