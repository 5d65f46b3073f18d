/-
  The top: certificate.Make, of dependencies whose ranks rise.
-/
import Derived.Test.YtcaoldilmnpjoaaGreatMkp
import Derived.Test.YtcaoldilmnpjoaaGreatOrv
namespace Go.Proofs.YtcaoldilmnpjoaaGreat
set_option linter.all false
open Go.RowKit Go.Sx
set_option maxRecDepth 100000
set_option maxHeartbeats 16000000
structure MkP (l : List DepT) (ch : Int) : Prop where
  key : OkD l
  c0 : 0 ≤ ch
  c1 : ch ≤ 512
  len : l.length ≤ 1000000
  ok : OkN ch.toNat l
  up : Rises l
def makeF (l : List DepT) (ch : Int) : Tup [DT.lst Ii, DT.lst Ii, DT.cell Ii] := (ranksL ch.toNat (unionL l []), [], 0, ())
theorem union_ok {N : Nat} {l : List DepT} (hN : N ≤ 512) (hl : l.length ≤ 1000000) (h : OkN N l) (hr : Rises l) : OkN N (unionL l []) ∧ Rises (unionL l []) ∧ (unionL l []).length ≤ 1000000 := by
  have h1 := union_len l []
  simp only [List.length_nil] at h1
  refine ⟨⟨by omega, fun d hd => h.2 d ?_⟩, ?_, by omega⟩
  · rcases (union_mem l [] d).1 hd with h2 | h2
    · exact h2
    · cases h2
  · obtain ⟨r, hr⟩ := hr
    refine ⟨r, fun d hd => hr d ?_⟩
    rcases (union_mem l [] d).1 hd with h2 | h2
    · exact h2
    · cases h2
theorem OkN.at {N : Nat} {l : List DepT} (h : OkN N l) {i : Nat} (hi : i < l.length) : (0 ≤ (l.getD (i : Int).toNat (0, 0, 0)).1 ∧ (l.getD (i : Int).toNat (0, 0, 0)).1 < (N : Int)) ∧ (0 ≤ (l.getD (i : Int).toNat (0, 0, 0)).2.1 ∧ (l.getD (i : Int).toNat (0, 0, 0)).2.1 < (N : Int)) := by
  refine h.2 _ ?_
  rw [List.getD_eq_getElem?_getD, Int.toNat_natCast, List.getElem?_eq_getElem hi]
  exact List.getElem_mem hi
theorem misM_at {N : Nat} (V : List DepT) (x : Nat) : 0 ≤ (misM N V).getD x 0 ∧ (misM N V).getD x 0 ≤ (V.length : Int) := by
  by_cases hx : x < N
  · unfold misM
    rw [tab_get _ _ hx]
    have := List.countP_le_length (p := fun d : DepT => decide (d.2.1 = (x : Int))) (l := V)
    unfold misU
    omega
  · rw [List.getD_eq_getElem?_getD, List.getElem?_eq_none (by simp [misM]; omega)]
    show (0 : Int) ≤ 0 ∧ (0 : Int) ≤ _
    omega
theorem rowV_len (U : List DepT) (c : Int) : (rowV U c).length ≤ U.length := by unfold rowV; rw [List.length_map]; exact List.length_filter_le _ _
theorem rowsA_at {N : Nat} (V : List DepT) (x : Nat) : ((rowsA N V).getD x []).length ≤ V.length := by
  by_cases hx : x < N
  · unfold rowsA; rw [tab_get _ _ hx]; exact rowU_len _ _
  · rw [List.getD_eq_getElem?_getD, List.getElem?_eq_none (by simp [rowsA]; omega)]; exact Nat.zero_le _
theorem rowsB_at {N : Nat} (V : List DepT) (x : Nat) : ((rowsB N V).getD x []).length ≤ V.length := by
  by_cases hx : x < N
  · unfold rowsB; rw [tab_get _ _ hx]; exact rowV_len _ _
  · rw [List.getD_eq_getElem?_getD, List.getElem?_eq_none (by simp [rowsB]; omega)]; exact Nat.zero_le _
theorem rowsA_len (N : Nat) (V : List DepT) : (rowsA N V).length = N := by simp [rowsA]
theorem rowsB_len (N : Nat) (V : List DepT) : (rowsB N V).length = N := by simp [rowsB]
theorem misM_len (N : Nat) (V : List DepT) : (misM N V).length = N := by simp [misM]
theorem rep1 {α : Type} (N : Nat) (x : α) : List.replicate ((N : Int).toNat * 1) x = List.replicate N x := by rw [Int.toNat_natCast, Nat.mul_one]
theorem hsc_inl : ConSound Tryz.prog AI 29 (inl E0 Tryz.f29 2) := inl_sound e0Ok mixed (fn := Tryz.f29) (c := bodyOf Tryz.f29) Tryz.call29 (by kernel_rfl) (by kernel_rfl) (by kernel_rfl) 2
noncomputable abbrev Ek1 : Env Ab := ⟨tis, [(29, inl E0 Tryz.f29 2), (9, uniSpec.con)] ++ E0.con⟩
theorem ek1Ok : EnvOk Tryz.prog AI Ek1 := ((e0Ok.add uni_sound).add hsc_inl)
noncomputable abbrev Ek2 : Env Ab := ⟨(50, ⟨.slice 30 (some (.lst (.int .i64))), 1, 3, [.nilS]⟩) :: (3, ⟨.int .i64, 1, 0, [.li .i64 0]⟩) :: Ek1.ti, Ek1.con⟩
theorem ek2Ok : EnvOk Tryz.prog AI Ek2 := env_nest ek1Ok (t := 50) (i := ⟨.slice 30 (some (.lst (.int .i64))), 1, 0, [.nilS]⟩) (tb := 3) (j := ⟨.int .i64, 1, 0, [.li .i64 0]⟩) rfl rfl
def mkrSpec : PureSpec := ⟨[.lst DepE, .cell Ii], fun (x : (List DepT) × Int × Unit) => MkP x.1 x.2.1, [.lst Ii, .lst Ii, .cell Ii], fun (x : (List DepT) × Int × Unit) => makeF x.1 x.2.1⟩
theorem mkr_ok (l : List DepT) (ch : Int) (h : mkrSpec.pre (l, ch, ())) : TmplOk Tryz.prog AI 11 (argS mkrSpec.ds (fun _ => (l, ch, ()))) [] (resOf (svs mkrSpec.rs (fun _ => mkrSpec.f (l, ch, ())))) [] := by
  dsimp only [mkrSpec] at h ⊢
  generalize hr : makeF l ch = r
  obtain ⟨N, hN⟩ : ∃ N : Nat, ch = (N : Int) := ⟨ch.toNat, (Int.toNat_of_nonneg h.c0).symm⟩; subst hN; obtain ⟨hky, hc0, hc1, hal, hok, hup⟩ := h
  dsimp only [makeF] at hr
  refine tmpl_of_body ek2Ok mixed (fn := Tryz.f11) (c := bodyOf Tryz.f11) (by kernel_rfl) (by kernel_rfl) (by kernel_rfl) (Nat.le_of_ble_eq_true (by kernel_rfl)) ?_
  refine Pr ?_
  (try (conv in (SS.mk _ _) => dsimp only [uniSpec, unionF]))
  refine Nx ?_
  repeat' (first
    | with_reducible (first | refine Ck.au ?_ | refine Ck.all_cons ?_ | refine Ck.all_nil ?_ | refine Ck.mk ?_ ?_)
    | (with_reducible (first | refine Both.mk (fun h => ?_) (fun h => ?_) | refine Alt.mk (fun h => ?_) (fun h => ?_) | refine Pick.mk (fun h => ?_) (fun l1 x l2 h => ?_)) <;> (have hk := h) <;> (try replace h := nh h) <;> (try dsimp only [uniSpec, unionF] at h) <;> (try simp only [natCast_eq] at h) <;> (try (have hq := hkx h)) <;> (try (have hq2 := hend h)) <;> (try replace hr := hri hr) <;> (try (have hb : (_ : Bool) = _ := h; clear h; subst hb; (try replace hr := hri hr))) <;> first | exact Dd | refine Nx ?_)
    | ((with_reducible refine End.mk ?_); (try ((repeat (first | rw [ifP] at hr | rw [ifM] at hr | rw [if_pos rfl] at hr)); subst hr)))
    | with_reducible exact True.intro)
  all_goals first
    | (fail_if_success (with_reducible refine Exists.intro ?_ ?_)
       first
       | exact Cl1
       | (dsimp only [uniSpec, unionF]; exact Cl1)
       | exact Cl2
       | (dsimp only [uniSpec, unionF]; exact Cl2)
       | (dsimp only [uniSpec, unionF] at *; exact Cl2))
    | skip
  rw [Int.toNat_natCast] at hok
  refine ⟨⟨{k : Nat // k ≤ l.length}, fun k => ⟨[(0, Sx.one (.ro DepE (fun _ => l))), (3, Sx.one (.ptr 0 0)), (7, .val (.fn 29 [.ptr 0 0])), (30, Sx.one (.ro DepE (fun _ => l))), (31, Sx.one (.int .i64 (fun _ => l.length))), (32, Sx.one (.int .i64 (fun _ => k.1)))],
    [.cells 3 [.int .i64 (fun _ => N)]]⟩, fun k => l.length - k.1, ⟨0, Nat.zero_le _⟩⟩, ?_, fun (k : {k : Nat // k ≤ l.length}) => ?_⟩
  · refine Pr ?_
    (try (conv in (SS.mk _ _) => dsimp only [uniSpec, unionF]))
    refine Nx ?_
    repeat' (first
      | with_reducible (first | refine Ck.au ?_ | refine Ck.all_cons ?_ | refine Ck.all_nil ?_ | refine Ck.mk ?_ ?_)
      | (with_reducible (first | refine Both.mk (fun h => ?_) (fun h => ?_) | refine Alt.mk (fun h => ?_) (fun h => ?_) | refine Pick.mk (fun h => ?_) (fun l1 x l2 h => ?_)) <;> (have hk := h) <;> (try replace h := nh h) <;> (try dsimp only [uniSpec, unionF] at h) <;> (try simp only [natCast_eq] at h) <;> (try (have hq := hkx h)) <;> (try (have hq2 := hend h)) <;> (try replace hr := hri hr) <;> (try (have hb : (_ : Bool) = _ := h; clear h; subst hb; (try replace hr := hri hr))) <;> first | exact Dd | refine Nx ?_)
      | with_reducible refine End.mk ?_
      | with_reducible exact True.intro)
    all_goals first
      | (fail_if_success (with_reducible refine Exists.intro ?_ ?_)
         first
         | exact Cl1
         | (dsimp only [uniSpec, unionF]; exact Cl1)
         | rfl
         | exact Cl2
         | (dsimp only [uniSpec, unionF]; exact Cl2)
         | (dsimp only [uniSpec, unionF] at *; exact Cl2))
      | skip
  obtain ⟨k, hk⟩ := k
  dsimp only
  have hkx := fun (h : ((k : Nat) : Int) < (l.length : Int)) => hok.at (i := k) (by omega)
  have hnil : OkD [] := ⟨by decide, fun d hd => by cases hd⟩
  refine Pr ?_
  (try (conv in (SS.mk _ _) => dsimp only [uniSpec, unionF]))
  refine Nx ?_
  repeat' (first
    | with_reducible (first | refine Ck.au ?_ | refine Ck.all_cons ?_ | refine Ck.all_nil ?_ | refine Ck.mk ?_ ?_)
    | (with_reducible (first | refine Both.mk (fun h => ?_) (fun h => ?_) | refine Alt.mk (fun h => ?_) (fun h => ?_) | refine Pick.mk (fun h => ?_) (fun l1 x l2 h => ?_)) <;> (have hk := h) <;> (try replace h := nh h) <;> (try dsimp only [uniSpec, unionF] at h) <;> (try simp only [natCast_eq] at h) <;> (try (have hq := hkx h)) <;> (try (have hq2 := hend h)) <;> (try replace hr := hri hr) <;> (try (have hb : (_ : Bool) = _ := h; clear h; subst hb; (try replace hr := hri hr))) <;> first | exact Dd | refine Nx ?_)
    | with_reducible refine End.mk ?_
    | with_reducible exact True.intro)
  all_goals first
    | (fail_if_success (with_reducible refine Exists.intro ?_ ?_)
       first
       | exact Cl1
       | (dsimp only [uniSpec, unionF]; exact Cl1)
       | (dsimp only; simp only [pair_eta, map_idL]; exact ⟨hky, hnil⟩)
       | exact Cl2
       | (dsimp only [uniSpec, unionF]; exact Cl2)
       | (dsimp only [uniSpec, unionF] at *; exact Cl2))
    | skip
  · refine ⟨⟨k + 1, by omega⟩, (by dsimp only; omega), ?_⟩
    refine Pr ?_
    (try (conv in (SS.mk _ _) => dsimp only [uniSpec, unionF]))
    refine Nx ?_
    repeat' (first
      | with_reducible (first | refine Ck.au ?_ | refine Ck.all_cons ?_ | refine Ck.all_nil ?_ | refine Ck.mk ?_ ?_)
      | (with_reducible (first | refine Both.mk (fun h => ?_) (fun h => ?_) | refine Alt.mk (fun h => ?_) (fun h => ?_) | refine Pick.mk (fun h => ?_) (fun l1 x l2 h => ?_)) <;> (have hk := h) <;> (try replace h := nh h) <;> (try dsimp only [uniSpec, unionF] at h) <;> (try simp only [natCast_eq] at h) <;> (try (have hq := hkx h)) <;> (try (have hq2 := hend h)) <;> (try replace hr := hri hr) <;> (try (have hb : (_ : Bool) = _ := h; clear h; subst hb; (try replace hr := hri hr))) <;> first | exact Dd | refine Nx ?_)
      | with_reducible refine End.mk ?_
      | with_reducible exact True.intro)
    all_goals first
      | (fail_if_success (with_reducible refine Exists.intro ?_ ?_)
         first
         | exact Cl1
         | (dsimp only [uniSpec, unionF]; exact Cl1)
         | rfl
         | exact Cl2
         | (dsimp only [uniSpec, unionF]; exact Cl2)
         | (dsimp only [uniSpec, unionF] at *; exact Cl2))
      | skip
  obtain ⟨hUk, hUr, hUl⟩ := union_ok (by omega) hal hok hup
  clear hkx hup
  generalize hUU : unionL l [] = U at *
  have hUf : (unionF l []).1 = U := hUU
  refine ⟨⟨{k : Nat // k ≤ U.length}, fun k => ⟨[(3, Sx.one (.ptr 0 0)), (10, Sx.one (.hd 1 0)), (11, Sx.one (.hd 2 0)), (12, Sx.one (.hd 3 0)), (56, Sx.one (.ro DepE (fun _ => U))), (57, Sx.one (.int .i64 (fun _ => U.length))), (58, Sx.one (.int .i64 (fun _ => k.1)))],
    [.cells 3 [.int .i64 (fun _ => N)], .nest 30 3 1 0 (fun _ => rowsB N (U.take k.1)) none, .nest 30 3 1 0 (fun _ => rowsA N (U.take k.1)) none, .row 3 Ii 0 (fun _ => misM N (U.take k.1))]⟩, fun k => U.length - k.1, ⟨0, Nat.zero_le _⟩⟩, ?_, fun (k : {k : Nat // k ≤ U.length}) => ?_⟩
  · refine Pr ?_
    (try (conv in (SS.mk _ _) => dsimp only [uniSpec, unionF]))
    refine Nx ?_
    repeat' (first
      | with_reducible (first | refine Ck.au ?_ | refine Ck.all_cons ?_ | refine Ck.all_nil ?_ | refine Ck.mk ?_ ?_)
      | (with_reducible (first | refine Both.mk (fun h => ?_) (fun h => ?_) | refine Alt.mk (fun h => ?_) (fun h => ?_) | refine Pick.mk (fun h => ?_) (fun l1 x l2 h => ?_)) <;> (have hk := h) <;> (try replace h := nh h) <;> (try dsimp only [uniSpec, unionF] at h) <;> (try simp only [natCast_eq] at h) <;> (try (have hq := hkx h)) <;> (try (have hq2 := hend h)) <;> (try replace hr := hri hr) <;> (try (have hb : (_ : Bool) = _ := h; clear h; subst hb; (try replace hr := hri hr))) <;> first | exact Dd | refine Nx ?_)
      | with_reducible refine End.mk ?_
      | with_reducible exact True.intro)
    all_goals first
      | (fail_if_success (with_reducible refine Exists.intro ?_ ?_)
         first
         | exact Cl1
         | (dsimp only [uniSpec, unionF]; exact Cl1)
         | first | exact (rep1 N _).trans (rowsB_nil N).symm | exact (rep1 N _).trans (rowsA_nil N).symm | exact (misM_nil N).symm | (simp only [pair_eta, map_idL]; rw [hUf]) | (dsimp only; simp only [pair_eta, map_idL]; exact hUU) | (dsimp only; simp only [pair_eta, map_idL]; exact congrArg (fun l : List DepT => (l.length : Int)) hUU)
         | exact Cl2
         | (dsimp only [uniSpec, unionF]; exact Cl2)
         | (dsimp only [uniSpec, unionF] at *; exact Cl2))
      | skip
  obtain ⟨k, hk⟩ := k
  dsimp only
  have hkx := fun (h : ((k : Nat) : Int) < (U.length : Int)) => hUk.at (i := k) (by omega)
  have e1 := fun (h : ((k : Nat) : Int) < (U.length : Int)) => take_snoc U (k := k) (by omega)
  have hA := fun (h : ((k : Nat) : Int) < (U.length : Int)) => (rowsA_snoc (N := N) (U.take k) (hkx h).1.1 (hkx h).1.2).trans (congrArg (rowsA N) (e1 h).symm)
  have hB := fun (h : ((k : Nat) : Int) < (U.length : Int)) => (rowsB_snoc (N := N) (U.take k) (hkx h).2.1 (hkx h).2.2).trans (congrArg (rowsB N) (e1 h).symm)
  have hM := fun (h : ((k : Nat) : Int) < (U.length : Int)) => (misM_snoc (N := N) (U.take k) (hkx h).2.1 (hkx h).2.2).trans (congrArg (misM N) (e1 h).symm)
  have hVl : (U.take k).length ≤ 1000000 := by rw [List.length_take]; omega
  have rA : ∀ (x : Nat) (o : Int), ((rowsA N (U.take k)).getD x []).length + [o].length ≤ maxRow := fun x o => by have := rowsA_at (N := N) (U.take k) x; show _ + 1 ≤ 1099511627776; omega
  have rB : ∀ (x : Nat) (o : Int), ((rowsB N (U.take k)).getD x []).length + [o].length ≤ maxRow := fun x o => by have := rowsB_at (N := N) (U.take k) x; show _ + 1 ≤ 1099511627776; omega
  have rM : ∀ (x : Nat), inI64 ((misM N (U.take k)).getD x 0 + 1) := fun x => by have := misM_at (N := N) (U.take k) x; unfold inI64; omega
  have ixA := fun (h : ((k : Nat) : Int) < (U.length : Int)) => ivx (rowsA_len N (U.take k)) (hkx h).1
  have ixB := fun (h : ((k : Nat) : Int) < (U.length : Int)) => ivx (rowsB_len N (U.take k)) (hkx h).2
  have ixM := fun (h : ((k : Nat) : Int) < (U.length : Int)) => ivx (misM_len N (U.take k)) (hkx h).2
  refine Pr ?_
  (try (conv in (SS.mk _ _) => dsimp only [uniSpec, unionF]))
  refine Nx ?_
  repeat' (first
    | with_reducible (first | refine Ck.au ?_ | refine Ck.all_cons ?_ | refine Ck.all_nil ?_ | refine Ck.mk ?_ ?_)
    | (with_reducible (first | refine Both.mk (fun h => ?_) (fun h => ?_) | refine Alt.mk (fun h => ?_) (fun h => ?_) | refine Pick.mk (fun h => ?_) (fun l1 x l2 h => ?_)) <;> (have hk := h) <;> (try replace h := nh h) <;> (try dsimp only [uniSpec, unionF] at h) <;> (try simp only [natCast_eq] at h) <;> (try (have hq := hkx h)) <;> (try (have hq2 := hend h)) <;> (try replace hr := hri hr) <;> (try (have hb : (_ : Bool) = _ := h; clear h; subst hb; (try replace hr := hri hr))) <;> first | exact Dd | refine Nx ?_)
    | with_reducible refine End.mk ?_
    | with_reducible exact True.intro)
  all_goals first
    | (fail_if_success (with_reducible refine Exists.intro ?_ ?_)
       first
       | exact Cl1
       | (dsimp only [uniSpec, unionF]; exact Cl1)
       | first | exact rA _ _ | exact rB _ _ | exact rM _ | exact ixA (by assumption) | exact ixB (by assumption) | exact ixM (by assumption) | exact ⟨ixA (by assumption), rfl⟩ | exact ⟨ixB (by assumption), rfl⟩
       | exact Cl2
       | (dsimp only [uniSpec, unionF]; exact Cl2)
       | (dsimp only [uniSpec, unionF] at *; exact Cl2))
    | skip
  · refine ⟨⟨k + 1, by omega⟩, (by dsimp only; omega), ?_⟩
    refine Pr ?_
    (try (conv in (SS.mk _ _) => dsimp only [uniSpec, unionF]))
    refine Nx ?_
    repeat' (first
      | with_reducible (first | refine Ck.au ?_ | refine Ck.all_cons ?_ | refine Ck.all_nil ?_ | refine Ck.mk ?_ ?_)
      | (with_reducible (first | refine Both.mk (fun h => ?_) (fun h => ?_) | refine Alt.mk (fun h => ?_) (fun h => ?_) | refine Pick.mk (fun h => ?_) (fun l1 x l2 h => ?_)) <;> (have hk := h) <;> (try replace h := nh h) <;> (try dsimp only [uniSpec, unionF] at h) <;> (try simp only [natCast_eq] at h) <;> (try (have hq := hkx h)) <;> (try (have hq2 := hend h)) <;> (try replace hr := hri hr) <;> (try (have hb : (_ : Bool) = _ := h; clear h; subst hb; (try replace hr := hri hr))) <;> first | exact Dd | refine Nx ?_)
      | with_reducible refine End.mk ?_
      | with_reducible exact True.intro)
    all_goals first
      | (fail_if_success (with_reducible refine Exists.intro ?_ ?_)
         first
         | exact Cl1
         | (dsimp only [uniSpec, unionF]; exact Cl1)
         | first | exact hA (by assumption) | exact hB (by assumption) | exact hM (by assumption)
         | exact Cl2
         | (dsimp only [uniSpec, unionF]; exact Cl2)
         | (dsimp only [uniSpec, unionF] at *; exact Cl2))
      | skip
  have hk9 : U.take k = U := List.take_of_length_le (by omega)
  rw [hk9]
  refine ⟨⟨{k : Nat // k ≤ N}, fun k => ⟨[(3, Sx.one (.ptr 0 0)), (11, Sx.one (.hd 2 0)), (12, Sx.one (.hd 3 0)), (15, Sx.one (.hd 4 0)), (16, Sx.one (.hd 5 0)), (98, Sx.one (.hd 3 0)), (99, Sx.one (.int .i64 (fun _ => N))), (100, Sx.one (.int .i64 (fun _ => k.1)))],
    [.cells 3 [.int .i64 (fun _ => N)], .gone, .nest 30 3 1 0 (fun _ => rowsA N U) none, .row 3 Ii 0 (fun _ => misM N U), .row 3 Ii 0 (fun _ => List.replicate N 0), .row 3 Ii 0 (fun _ => q0 N U k.1)]⟩, fun k => N - k.1, ⟨0, Nat.zero_le _⟩⟩, ?_, fun (k : {k : Nat // k ≤ N}) => ?_⟩
  · refine Pr ?_
    (try (conv in (SS.mk _ _) => dsimp only [uniSpec, unionF]))
    refine Nx ?_
    repeat' (first
      | with_reducible (first | refine Ck.au ?_ | refine Ck.all_cons ?_ | refine Ck.all_nil ?_ | refine Ck.mk ?_ ?_)
      | (with_reducible (first | refine Both.mk (fun h => ?_) (fun h => ?_) | refine Alt.mk (fun h => ?_) (fun h => ?_) | refine Pick.mk (fun h => ?_) (fun l1 x l2 h => ?_)) <;> (have hk := h) <;> (try replace h := nh h) <;> (try dsimp only [uniSpec, unionF] at h) <;> (try simp only [natCast_eq] at h) <;> (try (have hq := hkx h)) <;> (try (have hq2 := hend h)) <;> (try replace hr := hri hr) <;> (try (have hb : (_ : Bool) = _ := h; clear h; subst hb; (try replace hr := hri hr))) <;> first | exact Dd | refine Nx ?_)
      | with_reducible refine End.mk ?_
      | with_reducible exact True.intro)
    all_goals first
      | (fail_if_success (with_reducible refine Exists.intro ?_ ?_)
         first
         | exact Cl1
         | (dsimp only [uniSpec, unionF]; exact Cl1)
         | first | (rw [misM_len]; done) | rfl | exact congrArg (fun n => List.replicate n (0 : Int)) (Int.toNat_natCast N)
         | exact Cl2
         | (dsimp only [uniSpec, unionF]; exact Cl2)
         | (dsimp only [uniSpec, unionF] at *; exact Cl2))
      | skip
  clear hkx e1 hA hB hM hVl rA rB rM ixA ixB ixM
  obtain ⟨k, hk⟩ := k
  dsimp only
  have hkx := fun (h : ((k : Nat) : Int) < (N : Int)) => ivx (misM_len N U) (o := (k : Int)) ⟨by omega, h⟩
  have hql := q0_len N U k
  have hqr : ∀ o : Int, (q0 N U k).length + [o].length ≤ maxRow := fun o => by show _ + 1 ≤ 1099511627776; omega
  have hqs := q0_succ N U k
  refine Pr ?_
  (try (conv in (SS.mk _ _) => dsimp only [uniSpec, unionF]))
  refine Nx ?_
  repeat' (first
    | with_reducible (first | refine Ck.au ?_ | refine Ck.all_cons ?_ | refine Ck.all_nil ?_ | refine Ck.mk ?_ ?_)
    | (with_reducible (first | refine Both.mk (fun h => ?_) (fun h => ?_) | refine Alt.mk (fun h => ?_) (fun h => ?_) | refine Pick.mk (fun h => ?_) (fun l1 x l2 h => ?_)) <;> (have hk := h) <;> (try replace h := nh h) <;> (try dsimp only [uniSpec, unionF] at h) <;> (try simp only [natCast_eq] at h) <;> (try (have hq := hkx h)) <;> (try (have hq2 := hend h)) <;> (try replace hr := hri hr) <;> (try (have hb : (_ : Bool) = _ := h; clear h; subst hb; (try replace hr := hri hr))) <;> first | exact Dd | refine Nx ?_)
    | with_reducible refine End.mk ?_
    | with_reducible exact True.intro)
  all_goals first
    | (fail_if_success (with_reducible refine Exists.intro ?_ ?_)
       first
       | exact Cl1
       | (dsimp only [uniSpec, unionF]; exact Cl1)
       | first | exact hkx (by assumption) | exact hqr _
       | exact Cl2
       | (dsimp only [uniSpec, unionF]; exact Cl2)
       | (dsimp only [uniSpec, unionF] at *; exact Cl2))
    | skip
  · have e9 := (hqs.trans (if_pos (by assumption))).symm
    refine ⟨⟨k + 1, by omega⟩, (by dsimp only; omega), ?_⟩
    refine Pr ?_
    (try (conv in (SS.mk _ _) => dsimp only [uniSpec, unionF]))
    refine Nx ?_
    repeat' (first
      | with_reducible (first | refine Ck.au ?_ | refine Ck.all_cons ?_ | refine Ck.all_nil ?_ | refine Ck.mk ?_ ?_)
      | (with_reducible (first | refine Both.mk (fun h => ?_) (fun h => ?_) | refine Alt.mk (fun h => ?_) (fun h => ?_) | refine Pick.mk (fun h => ?_) (fun l1 x l2 h => ?_)) <;> (have hk := h) <;> (try replace h := nh h) <;> (try dsimp only [uniSpec, unionF] at h) <;> (try simp only [natCast_eq] at h) <;> (try (have hq := hkx h)) <;> (try (have hq2 := hend h)) <;> (try replace hr := hri hr) <;> (try (have hb : (_ : Bool) = _ := h; clear h; subst hb; (try replace hr := hri hr))) <;> first | exact Dd | refine Nx ?_)
      | with_reducible refine End.mk ?_
      | with_reducible exact True.intro)
    all_goals first
      | (fail_if_success (with_reducible refine Exists.intro ?_ ?_)
         first
         | exact Cl1
         | (dsimp only [uniSpec, unionF]; exact Cl1)
         | exact e9
         | exact Cl2
         | (dsimp only [uniSpec, unionF]; exact Cl2)
         | (dsimp only [uniSpec, unionF] at *; exact Cl2))
      | skip
  · have e9 := (hqs.trans (if_neg (by assumption))).symm
    refine ⟨⟨k + 1, by omega⟩, (by dsimp only; omega), ?_⟩
    refine Pr ?_
    (try (conv in (SS.mk _ _) => dsimp only [uniSpec, unionF]))
    refine Nx ?_
    repeat' (first
      | with_reducible (first | refine Ck.au ?_ | refine Ck.all_cons ?_ | refine Ck.all_nil ?_ | refine Ck.mk ?_ ?_)
      | (with_reducible (first | refine Both.mk (fun h => ?_) (fun h => ?_) | refine Alt.mk (fun h => ?_) (fun h => ?_) | refine Pick.mk (fun h => ?_) (fun l1 x l2 h => ?_)) <;> (have hk := h) <;> (try replace h := nh h) <;> (try dsimp only [uniSpec, unionF] at h) <;> (try simp only [natCast_eq] at h) <;> (try (have hq := hkx h)) <;> (try (have hq2 := hend h)) <;> (try replace hr := hri hr) <;> (try (have hb : (_ : Bool) = _ := h; clear h; subst hb; (try replace hr := hri hr))) <;> first | exact Dd | refine Nx ?_)
      | with_reducible refine End.mk ?_
      | with_reducible exact True.intro)
    all_goals first
      | (fail_if_success (with_reducible refine Exists.intro ?_ ?_)
         first
         | exact Cl1
         | (dsimp only [uniSpec, unionF]; exact Cl1)
         | exact e9
         | exact Cl2
         | (dsimp only [uniSpec, unionF]; exact Cl2)
         | (dsimp only [uniSpec, unionF] at *; exact Cl2))
      | skip
  have hk9 : N = k := by omega
  subst hk9
  clear hkx hql hqr hqs
  obtain ⟨x0, hx0, hx1⟩ := KSt.zero N U
  refine ⟨⟨KSt N U, fun x => ⟨[(3, Sx.one (.ptr 0 0)), (11, Sx.one (.hd 2 0)), (12, Sx.one (.hd 3 0)), (15, Sx.one (.hd 4 0)), (16, Sx.one (.hd 5 0)), (19, Sx.one (.int .i64 (fun _ => x.i)))],
    [.cells 3 [.int .i64 (fun _ => N)], .gone, .nest 30 3 1 0 (fun _ => rowsA N U) none, .row 3 Ii 0 (fun _ => x.S.2.1), .row 3 Ii 0 (fun _ => x.S.1), .row 3 Ii 0 (fun _ => x.S.2.2)]⟩, fun x => N + 1 - x.i, x0⟩, ?_, fun (x : KSt N U) => ?_⟩
  · refine Pr ?_
    (try (conv in (SS.mk _ _) => dsimp only [uniSpec, unionF]))
    refine Nx ?_
    repeat' (first
      | with_reducible (first | refine Ck.au ?_ | refine Ck.all_cons ?_ | refine Ck.all_nil ?_ | refine Ck.mk ?_ ?_)
      | (with_reducible (first | refine Both.mk (fun h => ?_) (fun h => ?_) | refine Alt.mk (fun h => ?_) (fun h => ?_) | refine Pick.mk (fun h => ?_) (fun l1 x l2 h => ?_)) <;> (have hk := h) <;> (try replace h := nh h) <;> (try dsimp only [uniSpec, unionF] at h) <;> (try simp only [natCast_eq] at h) <;> (try (have hq := hkx h)) <;> (try (have hq2 := hend h)) <;> (try replace hr := hri hr) <;> (try (have hb : (_ : Bool) = _ := h; clear h; subst hb; (try replace hr := hri hr))) <;> first | exact Dd | refine Nx ?_)
      | with_reducible refine End.mk ?_
      | with_reducible exact True.intro)
    all_goals first
      | (fail_if_success (with_reducible refine Exists.intro ?_ ?_)
         first
         | exact Cl1
         | (dsimp only [uniSpec, unionF]; exact Cl1)
         | first | (rw [hx0]; rfl) | (rw [hx1]; rfl)
         | exact Cl2
         | (dsimp only [uniSpec, unionF]; exact Cl2)
         | (dsimp only [uniSpec, unionF] at *; exact Cl2))
      | skip
  clear hx0 hx1
  have hi := x.inv
  have hlen := x.inv.len
  have hiq := x.iq
  have hend := fun (h : ¬ ((x.i : Nat) : Int) < (x.S.2.2.length : Int)) => x.inv.all hUk hUr (by omega)
  have hcr := fun (h : ((x.i : Nat) : Int) < (x.S.2.2.length : Int)) => x.inv.rg (x.S.2.2.getD x.i 0) (getD_mem2 (by omega))
  have hcx := fun (h : ((x.i : Nat) : Int) < (x.S.2.2.length : Int)) => ivx (rowsA_len N U) (hcr h)
  refine Pr ?_
  (try (conv in (SS.mk _ _) => dsimp only [uniSpec, unionF]))
  refine Nx ?_
  repeat' (first
    | with_reducible (first | refine Ck.au ?_ | refine Ck.all_cons ?_ | refine Ck.all_nil ?_ | refine Ck.mk ?_ ?_)
    | (with_reducible (first | refine Both.mk (fun h => ?_) (fun h => ?_) | refine Alt.mk (fun h => ?_) (fun h => ?_) | refine Pick.mk (fun h => ?_) (fun l1 x l2 h => ?_)) <;> (have hk := h) <;> (try replace h := nh h) <;> (try dsimp only [uniSpec, unionF] at h) <;> (try simp only [natCast_eq] at h) <;> (try (have hq := hkx h)) <;> (try (have hq2 := hend h)) <;> (try replace hr := hri hr) <;> (try (have hb : (_ : Bool) = _ := h; clear h; subst hb; (try replace hr := hri hr))) <;> first | exact Dd | refine Nx ?_)
    | with_reducible refine End.mk ?_
    | with_reducible exact True.intro)
  all_goals first
    | (fail_if_success (with_reducible refine Exists.intro ?_ ?_)
       first
       | exact Cl1
       | (dsimp only [uniSpec, unionF]; exact Cl1)
       | first | exact hcx (by assumption) | (subst hr; exact x.done (by omega)) | (subst hr; rfl)
       | exact Cl2
       | (dsimp only [uniSpec, unionF]; exact Cl2)
       | (dsimp only [uniSpec, unionF] at *; exact Cl2))
    | skip
  have hil : x.i < x.S.2.2.length := by omega
  have hin := x.inv.kin hUk hil
  obtain ⟨y, hy1, hy2⟩ := x.next hUk hil
  have hcr0 := hcr (by omega)
  obtain ⟨hrow, hset⟩ := rowsA_self (U := U) hcr0.1 hcr0.2
  have hNi : x.i < 512 := by omega
  have hrl := rowU_len U (x.S.2.2.getD x.i 0)
  have hmem := fun (j : Nat) (hj : j < (rowU U (x.S.2.2.getD x.i 0)).length) => rowU_mem.1 (getD_mem2 hj)
  clear hcx hcr hend
  generalize hc : x.S.2.2.getD x.i 0 = c at *
  refine ⟨⟨{j : Nat // j ≤ (rowU U c).length}, fun j => ⟨[(3, Sx.one (.ptr 0 0)), (11, Sx.one (.hd 2 0)), (12, Sx.one (.hd 3 0)), (15, Sx.one (.hd 4 0)), (16, Sx.one (.hd 5 0)), (19, Sx.one (.int .i64 (fun _ => x.i))), (20, Sx.one (.int .i64 (fun _ => c))), (125, Sx.one (.hd 6 0)), (126, Sx.one (.int .i64 (fun _ => (rowU U c).length))), (127, Sx.one (.int .i64 (fun _ => j.1)))],
    [.cells 3 [.int .i64 (fun _ => N)], .gone, .nest 30 3 1 0 (fun _ => rowsA N U) (some (fun _ => c, 6)), .row 3 Ii 0 (fun _ => (inK c ((rowU U c).take j.1) x.S).2.1), .row 3 Ii 0 (fun _ => (inK c ((rowU U c).take j.1) x.S).1), .row 3 Ii 0 (fun _ => (inK c ((rowU U c).take j.1) x.S).2.2), .row 3 Ii 0 (fun _ => rowU U c)]⟩, fun j => (rowU U c).length - j.1, ⟨0, Nat.zero_le _⟩⟩, ?_, fun (j : {j : Nat // j ≤ (rowU U c).length}) => ?_⟩
  · refine Pr ?_
    (try (conv in (SS.mk _ _) => dsimp only [uniSpec, unionF]))
    refine Nx ?_
    repeat' (first
      | with_reducible (first | refine Ck.au ?_ | refine Ck.all_cons ?_ | refine Ck.all_nil ?_ | refine Ck.mk ?_ ?_)
      | (with_reducible (first | refine Both.mk (fun h => ?_) (fun h => ?_) | refine Alt.mk (fun h => ?_) (fun h => ?_) | refine Pick.mk (fun h => ?_) (fun l1 x l2 h => ?_)) <;> (have hk := h) <;> (try replace h := nh h) <;> (try dsimp only [uniSpec, unionF] at h) <;> (try simp only [natCast_eq] at h) <;> (try (have hq := hkx h)) <;> (try (have hq2 := hend h)) <;> (try replace hr := hri hr) <;> (try (have hb : (_ : Bool) = _ := h; clear h; subst hb; (try replace hr := hri hr))) <;> first | exact Dd | refine Nx ?_)
      | with_reducible refine End.mk ?_
      | with_reducible exact True.intro)
    all_goals first
      | (fail_if_success (with_reducible refine Exists.intro ?_ ?_)
         first
         | exact Cl1
         | (dsimp only [uniSpec, unionF]; exact Cl1)
         | first | rfl | exact hc | exact hrow | (dsimp only [slotI]; first | exact hc | (rw [Int.toNat_natCast, hc]; exact hrow) | (rw [Int.toNat_natCast, hc]; exact congrArg (fun l : List Int => (l.length : Int)) hrow))
         | exact Cl2
         | (dsimp only [uniSpec, unionF]; exact Cl2)
         | (dsimp only [uniSpec, unionF] at *; exact Cl2))
      | skip
  obtain ⟨j, hj⟩ := j
  dsimp only
  have hT := hin j hj
  have hTn := fun (h : j < (rowU U c).length) => inK_take (c := c) (S := x.S) h
  generalize hTT : inK c ((rowU U c).take j) x.S = T at *
  have hto : ((j : Nat) : Int) < ((rowU U c).length : Int) → 0 ≤ (rowU U c).getD j 0 ∧ (rowU U c).getD j 0 < (N : Int) := fun h => by
    obtain ⟨d, hd, _, hd2⟩ := hmem j (by omega)
    have h3 := (hUk.2 d hd).2
    rw [hd2] at h3
    exact h3
  have ixR := fun (h : ((j : Nat) : Int) < ((rowU U c).length : Int)) => ivx hT.lR (hto h)
  have ixM := fun (h : ((j : Nat) : Int) < ((rowU U c).length : Int)) => ivx hT.lM (hto h)
  have ixC := ivx hT.lR hcr0
  have hR1 : inI64 (T.1.getD c.toNat 0 + 1) := by have := hT.rb c.toNat; have := hUk.1; unfold inI64; omega
  have hM1 := fun (h : ((j : Nat) : Int) < ((rowU U c).length : Int)) => (by
    have h3 := hto h
    have h4 := hT.mb hUk (x := ((rowU U c).getD j 0).toNat) (by omega)
    unfold inI64; omega : inI64 (T.2.1.getD ((rowU U c).getD j 0).toNat 0 - 1))
  have hQ1 : ∀ o : Int, T.2.2.length + [o].length ≤ maxRow := fun o => by have := nodup_le N _ hT.nd hT.rg; show _ + 1 ≤ 1099511627776; omega
  have hjx := fun (h : ((j : Nat) : Int) < ((rowU U c).length : Int)) => (⟨by omega, h⟩ : (0 : Int) ≤ (j : Int) ∧ (j : Int) < ((rowU U c).length : Int))
  clear hmem
  refine Pr ?_
  (try (conv in (SS.mk _ _) => dsimp only [uniSpec, unionF]))
  refine Nx ?_
  repeat' (first
    | with_reducible (first | refine Ck.au ?_ | refine Ck.all_cons ?_ | refine Ck.all_nil ?_ | refine Ck.mk ?_ ?_)
    | (with_reducible (first | refine Both.mk (fun h => ?_) (fun h => ?_) | refine Alt.mk (fun h => ?_) (fun h => ?_) | refine Pick.mk (fun h => ?_) (fun l1 x l2 h => ?_)) <;> (have hk := h) <;> (try replace h := nh h) <;> (try dsimp only [uniSpec, unionF] at h) <;> (try simp only [natCast_eq] at h) <;> (try (have hq := hkx h)) <;> (try (have hq2 := hend h)) <;> (try replace hr := hri hr) <;> (try (have hb : (_ : Bool) = _ := h; clear h; subst hb; (try replace hr := hri hr))) <;> first | exact Dd | refine Nx ?_)
    | with_reducible refine End.mk ?_
    | with_reducible exact True.intro)
  all_goals first
    | (fail_if_success (with_reducible refine Exists.intro ?_ ?_)
       first
       | exact Cl1
       | (dsimp only [uniSpec, unionF]; exact Cl1)
       | first | exact ixR (by assumption) | exact ixM (by assumption) | exact ixC | exact hR1 | exact hM1 (by assumption) | exact hQ1 _ | exact hjx (by assumption) | (rw [List.length_set]; exact ixM (by assumption)) | (rw [List.length_set]; exact ixR (by assumption))
       | exact Cl2
       | (dsimp only [uniSpec, unionF]; exact Cl2)
       | (dsimp only [uniSpec, unionF] at *; exact Cl2))
    | skip
  · have e0 := hTn (by omega)
    have e1 := (congrArg Prod.fst e0).trans (st_eq1 c T _)
    have e2 := (congrArg (fun S : KS => S.2.1) e0).trans (st_eq2 c T _)
    have e3 := (congrArg (fun S : KS => S.2.2) e0).trans (st_eq3 (by assumption))
    refine ⟨⟨j + 1, by omega⟩, (by dsimp only; omega), ?_⟩
    refine Pr ?_
    (try (conv in (SS.mk _ _) => dsimp only [uniSpec, unionF]))
    refine Nx ?_
    repeat' (first
      | with_reducible (first | refine Ck.au ?_ | refine Ck.all_cons ?_ | refine Ck.all_nil ?_ | refine Ck.mk ?_ ?_)
      | (with_reducible (first | refine Both.mk (fun h => ?_) (fun h => ?_) | refine Alt.mk (fun h => ?_) (fun h => ?_) | refine Pick.mk (fun h => ?_) (fun l1 x l2 h => ?_)) <;> (have hk := h) <;> (try replace h := nh h) <;> (try dsimp only [uniSpec, unionF] at h) <;> (try simp only [natCast_eq] at h) <;> (try (have hq := hkx h)) <;> (try (have hq2 := hend h)) <;> (try replace hr := hri hr) <;> (try (have hb : (_ : Bool) = _ := h; clear h; subst hb; (try replace hr := hri hr))) <;> first | exact Dd | refine Nx ?_)
      | with_reducible refine End.mk ?_
      | with_reducible exact True.intro)
    all_goals first
      | (fail_if_success (with_reducible refine Exists.intro ?_ ?_)
         first
         | exact Cl1
         | (dsimp only [uniSpec, unionF]; exact Cl1)
         | first | exact e1.symm | exact e2.symm | exact e3.symm
         | exact Cl2
         | (dsimp only [uniSpec, unionF]; exact Cl2)
         | (dsimp only [uniSpec, unionF] at *; exact Cl2))
      | skip
  · have e0 := hTn (by omega)
    have e1 := (congrArg Prod.fst e0).trans (st_eq1 c T _)
    have e2 := (congrArg (fun S : KS => S.2.1) e0).trans (st_eq2 c T _)
    have e3 := (congrArg (fun S : KS => S.2.2) e0).trans (st_eq4 (by assumption))
    refine ⟨⟨j + 1, by omega⟩, (by dsimp only; omega), ?_⟩
    refine Pr ?_
    (try (conv in (SS.mk _ _) => dsimp only [uniSpec, unionF]))
    refine Nx ?_
    repeat' (first
      | with_reducible (first | refine Ck.au ?_ | refine Ck.all_cons ?_ | refine Ck.all_nil ?_ | refine Ck.mk ?_ ?_)
      | (with_reducible (first | refine Both.mk (fun h => ?_) (fun h => ?_) | refine Alt.mk (fun h => ?_) (fun h => ?_) | refine Pick.mk (fun h => ?_) (fun l1 x l2 h => ?_)) <;> (have hk := h) <;> (try replace h := nh h) <;> (try dsimp only [uniSpec, unionF] at h) <;> (try simp only [natCast_eq] at h) <;> (try (have hq := hkx h)) <;> (try (have hq2 := hend h)) <;> (try replace hr := hri hr) <;> (try (have hb : (_ : Bool) = _ := h; clear h; subst hb; (try replace hr := hri hr))) <;> first | exact Dd | refine Nx ?_)
      | with_reducible refine End.mk ?_
      | with_reducible exact True.intro)
    all_goals first
      | (fail_if_success (with_reducible refine Exists.intro ?_ ?_)
         first
         | exact Cl1
         | (dsimp only [uniSpec, unionF]; exact Cl1)
         | first | exact e1.symm | exact e2.symm | exact e3.symm
         | exact Cl2
         | (dsimp only [uniSpec, unionF]; exact Cl2)
         | (dsimp only [uniSpec, unionF] at *; exact Cl2))
      | skip
  have hj9 : (rowU U c).take j = rowU U c := List.take_of_length_le (by omega)
  rw [hj9] at hTT
  rw [hTT] at hy2
  refine ⟨y, (by (try dsimp only); omega), ?_⟩
  refine Pr ?_
  (try (conv in (SS.mk _ _) => dsimp only [uniSpec, unionF]))
  refine Nx ?_
  repeat' (first
    | with_reducible (first | refine Ck.au ?_ | refine Ck.all_cons ?_ | refine Ck.all_nil ?_ | refine Ck.mk ?_ ?_)
    | (with_reducible (first | refine Both.mk (fun h => ?_) (fun h => ?_) | refine Alt.mk (fun h => ?_) (fun h => ?_) | refine Pick.mk (fun h => ?_) (fun l1 x l2 h => ?_)) <;> (have hk := h) <;> (try replace h := nh h) <;> (try dsimp only [uniSpec, unionF] at h) <;> (try simp only [natCast_eq] at h) <;> (try (have hq := hkx h)) <;> (try (have hq2 := hend h)) <;> (try replace hr := hri hr) <;> (try (have hb : (_ : Bool) = _ := h; clear h; subst hb; (try replace hr := hri hr))) <;> first | exact Dd | refine Nx ?_)
    | with_reducible refine End.mk ?_
    | with_reducible exact True.intro)
  all_goals first
    | (fail_if_success (with_reducible refine Exists.intro ?_ ?_)
       first
       | exact Cl1
       | (dsimp only [uniSpec, unionF]; exact Cl1)
       | first | (rw [hy2]; done) | (rw [hy1]; rfl) | exact hset
       | exact Cl2
       | (dsimp only [uniSpec, unionF]; exact Cl2)
       | (dsimp only [uniSpec, unionF] at *; exact Cl2))
    | skip
theorem mkr_sound : ConSound Tryz.prog AI 11 mkrSpec.con := PureSpec.sound Tryz.call11 (fun x h => mkr_ok x.1 x.2.1 h)
end Go.Proofs.YtcaoldilmnpjoaaGreat
