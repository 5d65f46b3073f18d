/-
  The top: one pass over the cables.
-/
import Derived.Test.YtcaoldilmnpjoaaGreatUpw
namespace Go.Proofs.YtcaoldilmnpjoaaGreat
set_option linter.all false
open Go.RowKit Go.Sx
set_option maxRecDepth 100000
set_option maxHeartbeats 16000000
def itF (L : List Int) (c : CabT) : Nat → Bool × StM → Bool × StM
  | 0, S => S
  | 1, S => twoF L c false S
  | _, S => twoF L c true (twoF L c false S)
section
variable {L : List Int} {c : CabT} {b : Bool} {S : Bool × StM}
theorem cab1 (h : b = false) : cabF L c b S = S := by unfold cabF; rw [if_neg (by rw [h]; decide)]
theorem cab2 (h : b = true) (h2 : L.getD c.1.toNat 0 < 0) : cabF L c b S = S := by unfold cabF; rw [if_pos h, if_pos h2]
theorem cab3 (h : b = true) (h2 : ¬ L.getD c.1.toNat 0 < 0) (h3 : L.getD c.2.2.1.toNat 0 < 0) : cabF L c b S = S := by unfold cabF; rw [if_pos h, if_neg h2, if_pos h3]
theorem cab4 (h : b = true) (h2 : ¬ L.getD c.1.toNat 0 < 0) (h3 : ¬ L.getD c.2.2.1.toNat 0 < 0) : cabF L c b S = itF L c 2 S := by unfold cabF; rw [if_pos h, if_neg h2, if_neg h3]; rfl
end
theorem Pg.it {n : Nat} {M0 : StM} {S : Bool × StM} (h : Pg n M0 S) {L : List Int} {c : CabT} (ha : 0 ≤ c.1 ∧ c.1 < (n : Int)) (hb : 0 ≤ c.2.2.1 ∧ c.2.2.1 < (n : Int)) : ∀ k, Pg n M0 (itF L c k S)
  | 0 => h
  | 1 => h.two ha hb
  | _ + 2 => (h.two ha hb).two ha hb
theorem map_sid (l : StM) : List.map (fun x => ((fun x => ((fun l => l) x.fst, (fun l => l) x.snd)) x.fst, (fun l => l) x.snd)) l = l := by simp
section
variable {L : List Int} {c : CabT} {f : Bool} {S : Bool × StM}
theorem two_a (h1 : (impF L S.2 (c.1, f) c.2.2.1).1 = true) : (twoF L c f S).1 = true := by simp [twoF, h1]
theorem two_b (h2 : (impF L (impF L S.2 (c.1, f) c.2.2.1).2 (c.2.2.1, f) c.1).1 = true) : (twoF L c f S).1 = true := by simp [twoF, h2]
theorem two_c (h1 : (impF L S.2 (c.1, f) c.2.2.1).1 = false) (h2 : (impF L (impF L S.2 (c.1, f) c.2.2.1).2 (c.2.2.1, f) c.1).1 = false) : (twoF L c f S).1 = S.1 := by simp [twoF, h1, h2]
end
structure PsOk (S : SrS) : Prop where
  ok : SrOk S
  c : S.p2.length ≤ 32
  ends : EndsOk S.p2 S.p1.length
  len : S.L.length = S.p1.length
  up : S.up.length = S.p2.length
def pasSpec : StepC Ab SrS := ⟨srP, [], [0, 2, 1, 5], fun S (x : Unit) => PsOk S, [.cell .bool], fun S (x : Unit) => ((pasF S.L S.p2 S.up S.p2.length S.M).1, ()), fun S (x : Unit) => ⟨S.p1, S.p2, S.L, S.up, (pasF S.L S.p2 S.up S.p2.length S.M).2⟩⟩
noncomputable abbrev Eu3 : Env Ab := ⟨tis, [(132, impSpec.con)] ++ E0.con⟩
theorem eu3Ok : EnvOk Tryz.prog AI Eu3 := (e0Ok.add imp_sound)
theorem pas_ok (S : SrS) (h : pasSpec.pre S ()) : ∃ args : List SV, args.length + [0, 2, 1, 5].length ≤ Tryz.f133.ntmps ∧ args.all (belV 6) = true ∧ (∀ (ρ : Ev) us, All2 (Den ρ) (argS [] (fun _ => ())) us → All2 (Den ρ) args us) ∧
    (svc Eu3 6 (bodyOf Tryz.f133) ⟨argT 0 (args ++ ptrsS [0, 2, 1, 5]), srC (fun _ => S)⟩ (finP Eu3.ti 6 Tryz.f133.results.toList (resOf (svs [.cell .bool] (fun _ => ((pasF S.L S.p2 S.up S.p2.length S.M).1, ())))) (srC (fun _ => ⟨S.p1, S.p2, S.L, S.up, (pasF S.L S.p2 S.up S.p2.length S.M).2⟩))) ∨
     svc Eu3 6 (bodyOf Tryz.f133) ⟨argT 0 (args ++ ptrsS [0, 2, 1, 5]), srC (fun _ => S)⟩ (finR Eu3.ti 6 Tryz.f133.results.toList (resOf (svs [.cell .bool] (fun _ => ((pasF S.L S.p2 S.up S.p2.length S.M).1, ())))) (srC (fun _ => ⟨S.p1, S.p2, S.L, S.up, (pasF S.L S.p2 S.up S.p2.length S.M).2⟩)))) := by
  dsimp only [pasSpec] at h ⊢
  obtain ⟨p1, p2, L, up, M⟩ := S
  obtain ⟨hS, hc, hE, hL, hup⟩ := h
  have hn := hS.n
  have hM := hS.md
  dsimp only at hc hE hL hup hn hM ⊢
  have hpg := fun (k : Nat) (hk : k ≤ p2.length) => Pg.pas (L := L) (up := up) hM hE k hk
  refine ⟨[], Nat.le_of_ble_eq_true (by kernel_rfl), rfl, (fun ρ us hd => hd), .inl ?_⟩
  refine Pr ?_
  (try (conv in (SS.mk _ _) => dsimp only [impSpec]))
  refine Nx ?_
  repeat' (first
    | with_reducible (first | refine Ck.au ?_ | refine Ck.all_cons ?_ | refine Ck.all_nil ?_ | refine Ck.mk ?_ ?_)
    | (with_reducible (first | refine Both.mk (fun h => ?_) (fun h => ?_) | refine Alt.mk (fun h => ?_) (fun h => ?_) | refine Pick.mk (fun h => ?_) (fun l1 x l2 h => ?_)) <;> (have hk := h) <;> (try replace h := nh h) <;> (try dsimp only [impSpec] at h) <;> (try simp only [natCast_eq] at h) <;> (try replace hr := hri hr) <;> (try (have hb : (_ : Bool) = _ := h; clear h; subst hb; (try replace hr := hri hr))) <;> first | exact Dd | refine Nx ?_)
    | with_reducible refine End.mk ?_
    | with_reducible exact True.intro)
  all_goals first
    | (fail_if_success (with_reducible refine Exists.intro ?_ ?_)
       first
       | exact Cl1
       | (dsimp only [impSpec]; exact Cl1)
       | exact Cl2
       | (dsimp only [impSpec]; exact Cl2)
       | (dsimp only [impSpec] at *; exact Cl2))
    | skip
  refine ⟨⟨{j : Nat // j ≤ p2.length}, fun j => ⟨[(0, Sx.one (.ptr 0 0)), (1, Sx.one (.ptr 2 0)), (2, Sx.one (.ptr 1 0)), (3, Sx.one (.ptr 5 0)), (5, Sx.one (.sb (fun _ => (pasF L p2 up j.1 M).1))), (11, Sx.one (.ro CabE (fun _ => p2))), (12, Sx.one (.int .i64 (fun _ => p2.length))), (13, Sx.one (.int .i64 (fun _ => j.1)))],
    srC (fun _ => ⟨p1, p2, L, up, (pasF L p2 up j.1 M).2⟩)⟩, fun j => p2.length - j.1, ⟨0, Nat.zero_le _⟩⟩, ?_, fun (j : {j : Nat // j ≤ p2.length}) => ?_⟩
  · refine Pr ?_
    (try (conv in (SS.mk _ _) => dsimp only [impSpec]))
    refine Nx ?_
    repeat' (first
      | with_reducible (first | refine Ck.au ?_ | refine Ck.all_cons ?_ | refine Ck.all_nil ?_ | refine Ck.mk ?_ ?_)
      | (with_reducible (first | refine Both.mk (fun h => ?_) (fun h => ?_) | refine Alt.mk (fun h => ?_) (fun h => ?_) | refine Pick.mk (fun h => ?_) (fun l1 x l2 h => ?_)) <;> (have hk := h) <;> (try replace h := nh h) <;> (try dsimp only [impSpec] at h) <;> (try simp only [natCast_eq] at h) <;> (try replace hr := hri hr) <;> (try (have hb : (_ : Bool) = _ := h; clear h; subst hb; (try replace hr := hri hr))) <;> first | exact Dd | refine Nx ?_)
      | with_reducible refine End.mk ?_
      | with_reducible exact True.intro)
    all_goals first
      | (fail_if_success (with_reducible refine Exists.intro ?_ ?_)
         first
         | exact Cl1
         | (dsimp only [impSpec]; exact Cl1)
         | rfl
         | exact Cl2
         | (dsimp only [impSpec]; exact Cl2)
         | (dsimp only [impSpec] at *; exact Cl2))
      | skip
  obtain ⟨j, hj⟩ := j
  dsimp only
  have hP := hpg j hj
  have hcb := fun hjl : ((j : Nat) : Int) < (p2.length : Int) => hE _ (getD_mem (show j < p2.length by omega))
  have hst : pasF L p2 up (j + 1) M = cabF L (p2.getD j z6) (up.getD j false) (pasF L p2 up j M) := rfl
  have hfin : ¬ ((j : Nat) : Int) < (p2.length : Int) → pasF L p2 up j M = pasF L p2 up p2.length M := fun h => by rw [show j = p2.length from by omega]
  generalize hT : pasF L p2 up j M = T at *
  have hA := fun h => ivx hL (hcb h).1
  have hB := fun h => ivx hL (hcb h).2.1
  refine Pr ?_
  (try (conv in (SS.mk _ _) => dsimp only [impSpec]))
  refine Nx ?_
  repeat' (first
    | with_reducible (first | refine Ck.au ?_ | refine Ck.all_cons ?_ | refine Ck.all_nil ?_ | refine Ck.mk ?_ ?_)
    | (with_reducible (first | refine Both.mk (fun h => ?_) (fun h => ?_) | refine Alt.mk (fun h => ?_) (fun h => ?_) | refine Pick.mk (fun h => ?_) (fun l1 x l2 h => ?_)) <;> (have hk := h) <;> (try replace h := nh h) <;> (try dsimp only [impSpec] at h) <;> (try simp only [natCast_eq] at h) <;> (try replace hr := hri hr) <;> (try (have hb : (_ : Bool) = _ := h; clear h; subst hb; (try replace hr := hri hr))) <;> first | exact Dd | refine Nx ?_)
    | with_reducible refine End.mk ?_
    | with_reducible exact True.intro)
  all_goals first
    | (fail_if_success (with_reducible refine Exists.intro ?_ ?_)
       first
       | exact Cl1
       | (dsimp only [impSpec]; exact Cl1)
       | first | exact hA (by assumption) | exact hB (by assumption) | exact (map_sid _).trans (congrArg Prod.snd (hfin (by assumption))) | exact congrArg Prod.fst (hfin (by assumption))
       | exact Cl2
       | (dsimp only [impSpec]; exact Cl2)
       | (dsimp only [impSpec] at *; exact Cl2))
    | skip
  rotate_right
  · have hcj := hcb (by assumption)
    have hki := fun k => hP.it (L := L) hcj.1 hcj.2.1 k
    have hst4 := hst.trans (cab4 (by assumption) (by assumption) (by assumption))
    refine ⟨⟨{k : Nat // k ≤ 2}, fun k => ⟨[(0, Sx.one (.ptr 0 0)), (1, Sx.one (.ptr 2 0)), (2, Sx.one (.ptr 1 0)), (3, Sx.one (.ptr 5 0)), (5, Sx.one (.sb (fun _ => (itF L (p2.getD j z6) k.1 T).1))), (7, Sx.one (.ptr 6 0)), (11, Sx.one (.ro CabE (fun _ => p2))), (12, Sx.one (.int .i64 (fun _ => p2.length))), (13, Sx.one (.int .i64 (fun _ => j))), (41, .val (.agg [.lb false, .lb true])), (42, Sx.one (.int .i64 (fun _ => k.1)))],
      srC (fun _ => ⟨p1, p2, L, up, (itF L (p2.getD j z6) k.1 T).2⟩) ++ [.cells 98 [.int .i64 (fun _ => (p2.getD j z6).1), .int .i64 (fun _ => (p2.getD j z6).2.1), .int .i64 (fun _ => (p2.getD j z6).2.2.1), .int .i64 (fun _ => (p2.getD j z6).2.2.2.1), .int .i64 (fun _ => (p2.getD j z6).2.2.2.2.1), .int .i64 (fun _ => (p2.getD j z6).2.2.2.2.2)]]⟩, fun k => 2 - k.1, ⟨0, Nat.zero_le _⟩⟩, ?_, fun (k : {k : Nat // k ≤ 2}) => ?_⟩
    · refine Pr ?_
      (try (conv in (SS.mk _ _) => dsimp only [impSpec]))
      refine Nx ?_
      repeat' (first
        | with_reducible (first | refine Ck.au ?_ | refine Ck.all_cons ?_ | refine Ck.all_nil ?_ | refine Ck.mk ?_ ?_)
        | (with_reducible (first | refine Both.mk (fun h => ?_) (fun h => ?_) | refine Alt.mk (fun h => ?_) (fun h => ?_) | refine Pick.mk (fun h => ?_) (fun l1 x l2 h => ?_)) <;> (have hk := h) <;> (try replace h := nh h) <;> (try dsimp only [impSpec] at h) <;> (try simp only [natCast_eq] at h) <;> (try replace hr := hri hr) <;> (try (have hb : (_ : Bool) = _ := h; clear h; subst hb; (try replace hr := hri hr))) <;> first | exact Dd | refine Nx ?_)
        | with_reducible refine End.mk ?_
        | with_reducible exact True.intro)
      all_goals first
        | (fail_if_success (with_reducible refine Exists.intro ?_ ?_)
           first
           | exact Cl1
           | (dsimp only [impSpec]; exact Cl1)
           | rfl
           | exact Cl2
           | (dsimp only [impSpec]; exact Cl2)
           | (dsimp only [impSpec] at *; exact Cl2))
        | skip
    obtain ⟨k, hk2⟩ := k
    dsimp only
    have hPk := hki k
    generalize hTk : itF L (p2.getD j z6) k T = Tk at *
    generalize p2.getD j z6 = c at *
    refine Pr ?_
    (try (conv in (SS.mk _ _) => dsimp only [impSpec]))
    refine Nx ?_
    repeat' (first
      | with_reducible (first | refine Ck.au ?_ | refine Ck.all_cons ?_ | refine Ck.all_nil ?_ | refine Ck.mk ?_ ?_)
      | (with_reducible (first | refine Both.mk (fun h => ?_) (fun h => ?_) | refine Alt.mk (fun h => ?_) (fun h => ?_) | refine Pick.mk (fun h => ?_) (fun l1 x l2 h => ?_)) <;> (have hk := h) <;> (try replace h := nh h) <;> (try dsimp only [impSpec] at h) <;> (try simp only [natCast_eq] at h) <;> (try replace hr := hri hr) <;> (try (have hb : (_ : Bool) = _ := h; clear h; subst hb; (try replace hr := hri hr))) <;> first | exact Dd | refine Nx ?_)
      | with_reducible refine End.mk ?_
      | with_reducible exact True.intro)
    all_goals first
      | (fail_if_success (with_reducible refine Exists.intro ?_ ?_)
         first
         | exact Cl1
         | (dsimp only [impSpec]; exact Cl1)
         | first | exact ⟨⟨hn, hPk.md⟩, hcj.1, hcj.2.1⟩ | exact ⟨⟨hn, (hPk.md.imp hcj.1).1⟩, hcj.2.1, hcj.1⟩ | exact congrArg Int.ofNat (j_one (by assumption) (by assumption))
         | exact Cl2
         | (dsimp only [impSpec]; exact Cl2)
         | (dsimp only [impSpec] at *; exact Cl2))
      | skip
    rotate_right
    · have hk9 : k = 2 := by omega
      have hTk2 : pasF L p2 up (j + 1) M = Tk := by rw [hst4, ← hk9, hTk]
      refine ⟨⟨j + 1, by omega⟩, (by dsimp only; omega), ?_⟩
      refine Pr ?_
      (try (conv in (SS.mk _ _) => dsimp only [impSpec]))
      refine Nx ?_
      repeat' (first
        | with_reducible (first | refine Ck.au ?_ | refine Ck.all_cons ?_ | refine Ck.all_nil ?_ | refine Ck.mk ?_ ?_)
        | (with_reducible (first | refine Both.mk (fun h => ?_) (fun h => ?_) | refine Alt.mk (fun h => ?_) (fun h => ?_) | refine Pick.mk (fun h => ?_) (fun l1 x l2 h => ?_)) <;> (have hk := h) <;> (try replace h := nh h) <;> (try dsimp only [impSpec] at h) <;> (try simp only [natCast_eq] at h) <;> (try replace hr := hri hr) <;> (try (have hb : (_ : Bool) = _ := h; clear h; subst hb; (try replace hr := hri hr))) <;> first | exact Dd | refine Nx ?_)
        | with_reducible refine End.mk ?_
        | with_reducible exact True.intro)
      all_goals first
        | (fail_if_success (with_reducible refine Exists.intro ?_ ?_)
           first
           | exact Cl1
           | (dsimp only [impSpec]; exact Cl1)
           | first | exact (congrArg Prod.fst hTk2).symm | exact (map_sid _).trans (congrArg Prod.snd hTk2).symm
           | exact Cl2
           | (dsimp only [impSpec]; exact Cl2)
           | (dsimp only [impSpec] at *; exact Cl2))
        | skip
    all_goals
      (by_cases hk0 : k = 0
       · first
         | (exfalso; exact absurd (congrArg Int.ofNat hk0) (by assumption))
         | (have hnx : itF L c (k + 1) T = twoF L c false Tk := by subst hk0; rw [← hTk]; rfl
            refine ⟨⟨k + 1, by omega⟩, (by dsimp only; omega), ?_⟩
            refine Pr ?_
            (try (conv in (SS.mk _ _) => dsimp only [impSpec]))
            refine Nx ?_
            repeat' (first
              | with_reducible (first | refine Ck.au ?_ | refine Ck.all_cons ?_ | refine Ck.all_nil ?_ | refine Ck.mk ?_ ?_)
              | (with_reducible (first | refine Both.mk (fun h => ?_) (fun h => ?_) | refine Alt.mk (fun h => ?_) (fun h => ?_) | refine Pick.mk (fun h => ?_) (fun l1 x l2 h => ?_)) <;> (have hk := h) <;> (try replace h := nh h) <;> (try dsimp only [impSpec] at h) <;> (try simp only [natCast_eq] at h) <;> (try replace hr := hri hr) <;> (try (have hb : (_ : Bool) = _ := h; clear h; subst hb; (try replace hr := hri hr))) <;> first | exact Dd | refine Nx ?_)
              | with_reducible refine End.mk ?_
              | with_reducible exact True.intro)
            all_goals first
              | (fail_if_success (with_reducible refine Exists.intro ?_ ?_)
                 first
                 | exact Cl1
                 | (dsimp only [impSpec]; exact Cl1)
                 | first | exact ((congrArg Prod.fst hnx).trans (two_a (by assumption))).symm | exact ((congrArg Prod.fst hnx).trans (two_b (by assumption))).symm | exact ((congrArg Prod.fst hnx).trans (two_c (by assumption) (by assumption))).symm | exact (map_sid _).trans (congrArg Prod.snd hnx).symm
                 | exact Cl2
                 | (dsimp only [impSpec]; exact Cl2)
                 | (dsimp only [impSpec] at *; exact Cl2))
              | skip)
       · first
         | (exfalso; exact hk0 (j_zero (by assumption)))
         | (have hk1 : k = 1 := by omega
            have hnx : itF L c (k + 1) T = twoF L c true Tk := by subst hk1; rw [← hTk]; rfl
            refine ⟨⟨k + 1, by omega⟩, (by dsimp only; omega), ?_⟩
            refine Pr ?_
            (try (conv in (SS.mk _ _) => dsimp only [impSpec]))
            refine Nx ?_
            repeat' (first
              | with_reducible (first | refine Ck.au ?_ | refine Ck.all_cons ?_ | refine Ck.all_nil ?_ | refine Ck.mk ?_ ?_)
              | (with_reducible (first | refine Both.mk (fun h => ?_) (fun h => ?_) | refine Alt.mk (fun h => ?_) (fun h => ?_) | refine Pick.mk (fun h => ?_) (fun l1 x l2 h => ?_)) <;> (have hk := h) <;> (try replace h := nh h) <;> (try dsimp only [impSpec] at h) <;> (try simp only [natCast_eq] at h) <;> (try replace hr := hri hr) <;> (try (have hb : (_ : Bool) = _ := h; clear h; subst hb; (try replace hr := hri hr))) <;> first | exact Dd | refine Nx ?_)
              | with_reducible refine End.mk ?_
              | with_reducible exact True.intro)
            all_goals first
              | (fail_if_success (with_reducible refine Exists.intro ?_ ?_)
                 first
                 | exact Cl1
                 | (dsimp only [impSpec]; exact Cl1)
                 | first | exact ((congrArg Prod.fst hnx).trans (two_a (by assumption))).symm | exact ((congrArg Prod.fst hnx).trans (two_b (by assumption))).symm | exact ((congrArg Prod.fst hnx).trans (two_c (by assumption) (by assumption))).symm | exact (map_sid _).trans (congrArg Prod.snd hnx).symm
                 | exact Cl2
                 | (dsimp only [impSpec]; exact Cl2)
                 | (dsimp only [impSpec] at *; exact Cl2))
              | skip)
      )
  all_goals
    (refine ⟨⟨j + 1, by omega⟩, (by dsimp only; omega), ?_⟩
     refine Pr ?_
     (try (conv in (SS.mk _ _) => dsimp only [impSpec]))
     refine Nx ?_
     repeat' (first
       | with_reducible (first | refine Ck.au ?_ | refine Ck.all_cons ?_ | refine Ck.all_nil ?_ | refine Ck.mk ?_ ?_)
       | (with_reducible (first | refine Both.mk (fun h => ?_) (fun h => ?_) | refine Alt.mk (fun h => ?_) (fun h => ?_) | refine Pick.mk (fun h => ?_) (fun l1 x l2 h => ?_)) <;> (have hk := h) <;> (try replace h := nh h) <;> (try dsimp only [impSpec] at h) <;> (try simp only [natCast_eq] at h) <;> (try replace hr := hri hr) <;> (try (have hb : (_ : Bool) = _ := h; clear h; subst hb; (try replace hr := hri hr))) <;> first | exact Dd | refine Nx ?_)
       | with_reducible refine End.mk ?_
       | with_reducible exact True.intro)
     all_goals first
       | (fail_if_success (with_reducible refine Exists.intro ?_ ?_)
          first
          | exact Cl1
          | (dsimp only [impSpec]; exact Cl1)
          | first | exact (congrArg Prod.fst (hst.trans (cab1 (by assumption)))).symm | exact (congrArg Prod.fst (hst.trans (cab2 (by assumption) (by assumption)))).symm | exact (congrArg Prod.fst (hst.trans (cab3 (by assumption) (by assumption) (by assumption)))).symm | exact (map_sid _).trans (congrArg Prod.snd (hst.trans (cab1 (by assumption)))).symm | exact (map_sid _).trans (congrArg Prod.snd (hst.trans (cab2 (by assumption) (by assumption)))).symm | exact (map_sid _).trans (congrArg Prod.snd (hst.trans (cab3 (by assumption) (by assumption) (by assumption)))).symm
          | exact Cl2
          | (dsimp only [impSpec]; exact Cl2)
          | (dsimp only [impSpec] at *; exact Cl2))
       | skip)
theorem pas_sound : ConSound Tryz.prog AI 133 pasSpec.con := StepC.sound eu3Ok mixed (fn := Tryz.f133) (c := bodyOf Tryz.f133) Tryz.call133 (by kernel_rfl) (by kernel_rfl) (by kernel_rfl) (q := pasSpec) (by decide) fun S x h => pas_ok S h
end Go.Proofs.YtcaoldilmnpjoaaGreat
