/-
  The top: updown.Distances: walks.
-/
import Derived.Test.YtcaoldilmnpjoaaGreatUps
import Derived.Test.YtcaoldilmnpjoaaGreatEng3
namespace Go.Proofs.YtcaoldilmnpjoaaGreat
set_option linter.all false
open Go.RowKit Go.Sx
set_option maxRecDepth 100000
set_option maxHeartbeats 16000000
def stpF' (o : OrdT) (s : SK) (to : Int) : Tup [DT.cell SKE, DT.cell .bool] := stpS o.1 s to
noncomputable abbrev Eu1 : Env Ab := ⟨tis, [(39, aboveSpec.con)] ++ E0.con⟩
theorem eu1Ok : EnvOk Tryz.prog AI Eu1 := (e0Ok.add above_sound)
def stepSpec : PureSpec := ⟨[.cell OrdE, .cell SKE, .cell Ii], fun (x : OrdT × SK × Int × Unit) => True, [.cell SKE, .cell .bool], fun (x : OrdT × SK × Int × Unit) => stpF' x.1 x.2.1 x.2.2.1⟩
theorem step_ok (o : OrdT) (s : SK) (to : Int) (h : stepSpec.pre (o, s, to, ())) : TmplOk Tryz.prog AI 99 (argS stepSpec.ds (fun _ => (o, s, to, ()))) [] (resOf (svs stepSpec.rs (fun _ => stepSpec.f (o, s, to, ())))) [] := by
  dsimp only [stepSpec] at h ⊢
  generalize hr : stpF' o s to = r
  obtain ⟨L, ou⟩ := o; obtain ⟨s1, s2⟩ := s
  dsimp only [stpF', stpS] at hr
  refine tmpl_of_body eu1Ok mixed (fn := Tryz.f99) (c := bodyOf Tryz.f99) (by kernel_rfl) (by kernel_rfl) (by kernel_rfl) (Nat.le_of_ble_eq_true (by kernel_rfl)) ?_
  refine Pr ?_
  (try (conv in (SS.mk _ _) => dsimp only [aboveSpec]))
  refine Nx ?_
  repeat' (first
    | with_reducible (first | refine Ck.au ?_ | refine Ck.all_cons ?_ | refine Ck.all_nil ?_ | refine Ck.mk ?_ ?_)
    | (with_reducible (first | refine Both.mk (fun h => ?_) (fun h => ?_) | refine Alt.mk (fun h => ?_) (fun h => ?_) | refine Pick.mk (fun h => ?_) (fun l1 x l2 h => ?_)) <;> (have hk := h) <;> (try replace h := nh h) <;> (try dsimp only [aboveSpec] at h) <;> (try simp only [natCast_eq] at h) <;> (try replace hr := hri hr) <;> (try (have hb : (_ : Bool) = _ := h; clear h; subst hb; (try replace hr := hri hr))) <;> first | exact Dd | refine Nx ?_)
    | ((with_reducible refine End.mk ?_); (try ((repeat (first | rw [ifP] at hr | rw [ifM] at hr | rw [if_pos rfl] at hr)); subst hr)))
    | with_reducible exact True.intro)
  all_goals first
    | (fail_if_success (with_reducible refine Exists.intro ?_ ?_)
       first
       | exact Cl1
       | (dsimp only [aboveSpec]; exact Cl1)
       | exact Cl2
       | (dsimp only [aboveSpec]; exact Cl2)
       | (dsimp only [aboveSpec] at *; exact Cl2))
    | skip
theorem step_sound : ConSound Tryz.prog AI 99 stepSpec.con := PureSpec.sound Tryz.call99 (fun x h => step_ok x.1 x.2.1 x.2.2.1 h)
structure SrS where
  p1 : List NodeT
  p2 : List CabT
  L : List Int
  up : List Bool
  M : StM
def srC (x : U SrS) : List (Chunk Ab) := [.cells 25 [.ro NodeE (fun _ => (x ()).p1), .ro CabE (fun _ => (x ()).p2)], .cells 32 [.ro Ii (fun _ => (x ()).L)], .cells 26 [.ro .bool (fun _ => (x ()).up)],
  .map (.agg SKE) Ii (fun _ => (x ()).M), .cells 165 [.mp 3], .cells 186 [.fnc 132 [1, 4]]]
def unSr : List (Chunk Ab) → Option (U SrS)
  | [.cells t0 [.ro (.pair .str (.pair .bool (.int .i64))) p1, .ro (.pair (.int .i64) (.pair (.int .i64) (.pair (.int .i64) (.pair (.int .i64) (.pair (.int .i64) (.int .i64)))))) p2], .cells t1 [.ro (.int .i64) L], .cells t2 [.ro .bool up],
      .map (.agg (.pair (.int .i64) .bool)) (.int .i64) M, .cells t3 [.mp i], .cells t4 [.fnc f [a, b]]] => (match beqN t0 25 && beqN t1 32 && beqN t2 26 && beqN t3 165 && beqN t4 186 && beqN i 3 && beqN f 132 && beqN a 1 && beqN b 4 with
      | true => some (fun _ => ⟨p1 (), p2 (), L (), up (), M ()⟩)
      | false => none)
  | _ => none
theorem unSr_eq (cs : List (Chunk Ab)) (W : U SrS) (h : unSr cs = some W) : cs = srC (fun _ => W ()) := by
  unfold unSr at h
  split at h <;> (try (cases h; done))
  split at h <;> cases h
  rename_i hb
  simp only [Bool.and_eq_true, beqN_iff] at hb
  obtain ⟨⟨⟨⟨⟨⟨⟨⟨rfl, rfl⟩, rfl⟩, rfl⟩, rfl⟩, rfl⟩, rfl⟩, rfl⟩, rfl⟩ := hb
  rfl
def srP : ParL Ab SrS := ⟨6, 6, unSr, srC, by decide, unSr_eq⟩
theorem nx_fst (L : List Int) (s : SK) (to : Int) : (stpS L s to).1.1 = to := by unfold stpS; split <;> rfl
structure SrOk (S : SrS) : Prop where
  n : S.p1.length ≤ 16
  md : Md S.p1.length S.M
theorem key_ok {n : Nat} (hn : n ≤ 16) {s : SK} (h : 0 ≤ s.1 ∧ s.1 < (n : Int)) : SKE.keyIn s := ⟨show (-9223372036854775808 : Int) ≤ s.1 ∧ s.1 ≤ 9223372036854775807 from ⟨by omega, by omega⟩, trivial⟩
theorem Md.i64 {n : Nat} {M : StM} (h : Md n M) (hn : n ≤ 16) (s : SK) : inI64 ((gS M s).getD 0 + 1) := by
  have hl := h.len
  cases e : gS M s with
  | none => unfold inI64; simp
  | some v =>
    have := h.val _ (gS_mem e)
    dsimp only at this
    unfold inI64
    simp only [Option.getD_some]
    omega
def impSpec : StepC Ab SrS := ⟨srP, [.cell SKE, .cell Ii], [1, 4], fun S (x : SK × Int × Unit) => SrOk S ∧ (0 ≤ x.1.1 ∧ x.1.1 < (S.p1.length : Int)) ∧ (0 ≤ x.2.1 ∧ x.2.1 < (S.p1.length : Int)), [.cell .bool], fun S (x : SK × Int × Unit) => ((impF S.L S.M x.1 x.2.1).1, ()), fun S (x : SK × Int × Unit) => ⟨S.p1, S.p2, S.L, S.up, (impF S.L S.M x.1 x.2.1).2⟩⟩
noncomputable abbrev Eu2 : Env Ab := ⟨tis, [(99, stepSpec.con)] ++ E0.con⟩
theorem eu2Ok : EnvOk Tryz.prog AI Eu2 := (e0Ok.add step_sound)
theorem imp_ok (S : SrS) (s : SK) (to : Int) (h : impSpec.pre S (s, to, ())) : ∃ args : List SV, args.length + [1, 4].length ≤ Tryz.f132.ntmps ∧ args.all (belV 6) = true ∧ (∀ (ρ : Ev) us, All2 (Den ρ) (argS [.cell SKE, .cell Ii] (fun _ => (s, to, ()))) us → All2 (Den ρ) args us) ∧
    (svc Eu2 6 (bodyOf Tryz.f132) ⟨argT 0 (args ++ ptrsS [1, 4]), srC (fun _ => S)⟩ (finP Eu2.ti 6 Tryz.f132.results.toList (resOf (svs [.cell .bool] (fun _ => ((impF S.L S.M s to).1, ())))) (srC (fun _ => ⟨S.p1, S.p2, S.L, S.up, (impF S.L S.M s to).2⟩))) ∨
     svc Eu2 6 (bodyOf Tryz.f132) ⟨argT 0 (args ++ ptrsS [1, 4]), srC (fun _ => S)⟩ (finR Eu2.ti 6 Tryz.f132.results.toList (resOf (svs [.cell .bool] (fun _ => ((impF S.L S.M s to).1, ())))) (srC (fun _ => ⟨S.p1, S.p2, S.L, S.up, (impF S.L S.M s to).2⟩)))) := by
  dsimp only [impSpec] at h ⊢
  obtain ⟨hS, hs, hto⟩ := h
  obtain ⟨s1, s2⟩ := s
  refine ⟨argS [.cell SKE, .cell Ii] (fun _ => ((s1, s2), to, ())), Nat.le_of_ble_eq_true (by kernel_rfl), rfl, (fun ρ us hd => hd), .inl ?_⟩
  generalize hr : impF S.L S.M (s1, s2) to = r
  dsimp only [impF] at hr
  have hk1 := key_ok hS.n hs
  have hk2 : SKE.keyIn (nxS S.L (s1, s2) to) := key_ok hS.n (by unfold nxS; rw [nx_fst]; exact hto)
  have hi := fun k => hS.md.i64 hS.n k
  refine Pr ?_
  (try (conv in (SS.mk _ _) => dsimp only [stepSpec, stpF']))
  refine Nx ?_
  repeat' (first
    | with_reducible (first | refine Ck.au ?_ | refine Ck.all_cons ?_ | refine Ck.all_nil ?_ | refine Ck.mk ?_ ?_)
    | (with_reducible (first | refine Both.mk (fun h => ?_) (fun h => ?_) | refine Alt.mk (fun h => ?_) (fun h => ?_) | refine Pick.mk (fun h => ?_) (fun l1 x l2 h => ?_)) <;> (have hk := h) <;> (try replace h := nh h) <;> (try dsimp only [stepSpec, stpF'] at h) <;> (try simp only [natCast_eq] at h) <;> (try replace hr := hri hr) <;> (try (have hb : (_ : Bool) = _ := h; clear h; subst hb; (try replace hr := hri hr))) <;> first | exact Dd | refine Nx ?_)
    | ((with_reducible refine End.mk ?_); (try ((repeat (first | rw [ifP] at hr | rw [ifM] at hr | rw [if_pos rfl] at hr)); subst hr)))
    | with_reducible exact True.intro)
  all_goals first
    | (fail_if_success (with_reducible refine Exists.intro ?_ ?_)
       first
       | exact Cl1
       | (dsimp only [stepSpec, stpF']; exact Cl1)
       | first | exact hk1 | exact hk2 | exact hi _
       | exact Cl2
       | (dsimp only [stepSpec, stpF']; exact Cl2)
       | (dsimp only [stepSpec, stpF'] at *; exact Cl2))
    | skip
theorem imp_sound : ConSound Tryz.prog AI 132 impSpec.con := StepC.sound eu2Ok mixed (fn := Tryz.f132) (c := bodyOf Tryz.f132) Tryz.call132 (by kernel_rfl) (by kernel_rfl) (by kernel_rfl) (q := impSpec) (by decide) fun S x h => imp_ok S x.1 x.2.1 h
end Go.Proofs.YtcaoldilmnpjoaaGreat
