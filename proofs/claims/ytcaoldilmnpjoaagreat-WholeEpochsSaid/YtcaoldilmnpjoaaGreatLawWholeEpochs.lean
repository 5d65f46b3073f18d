/-
  WholeEpochs: the statement of the law, from its walk: for every input the call returns true, and each argument reads as it did. No conditions.
-/
import Derived.Test.YtcaoldilmnpjoaaGreatRows
import Derived.Test.YtcaoldilmnpjoaaGreatWep
import Derived.Test.YtcaoldilmnpjoaaGreatEng3
import Derived.WalkKit
import Derived.ProofKit
import Derived.OpenShut
import Derived.ShutString
import Derived.ChangeOld
import Derived.Below
namespace Go.Proofs.YtcaoldilmnpjoaaGreat.lawWholeEpochs
set_option linter.all false
open Go.ChangeShapes Go.WideShapes Go.ChangeAt Go.RowKit Go.Sx
set_option linter.unusedVariables false

theorem own : ownKnob Tryz.prog.godebug = none := by kernel_rfl
theorem laidOut : laidOutB Tryz.prog = true := by kernel_rfl

set_option maxRecDepth 100000 in
theorem lifted (os : Os) (started : os.Started) (H : Type) (enc : TypeId × Value → H) :
    ReturnsInHanded {} Tryz.checked os 3 .any (Go.Proofs.YtcaoldilmnpjoaaGreat.Rows.wholeEpochsSpec.pre6 enc Tryz.prog Tryz.f3 Go.Proofs.YtcaoldilmnpjoaaGreat.Rows.wholeEpochsRow.domain false) (Go.Proofs.YtcaoldilmnpjoaaGreat.Rows.wholeEpochsSpec.post enc Tryz.prog Tryz.f3 false true false false) := by
  refine returnsInHanded_of_change (C := Tryz.checked) own started (by kernel_rfl) Tryz.func3
    (ChangeSpec.witness6 (enc := enc) (C := Tryz.checked) false ⟨#[], #[.agg #[.slice none 0 0, .slice none 0 0], .slice none 0 0, .slice none 0 0, .int .u8 0, .int .u8 0, .int .u8 0], []⟩ 8 (by kernel_rfl) (by kernel_rfl) (by kernel_rfl) (by kernel_rfl)) ?_
  intro W base args ds gs before hval0 hW hcnd _
  have hval : ∀ (j : Nat) t v, Tryz.f3.params[j]? = some t → args[j]? = some v → Value.okWide Tryz.prog W .any base t v := hval0
  have hW' := hW
  obtain ⟨p, q, hA0, hV, rfl, hfz, hnd⟩ := hW
  have hA : DataW.TrodAll enc Tryz.prog W 0 (fun _ => true) true Tryz.f3.params.toList args.toList ds p := hA0
  rw [Tryz.params3] at hA hval
  obtain ⟨v0, vs0, d0, ds0, p0, q0, hargs, rfl, rfl, h0, r0⟩ := trodAll_cons hA
  obtain ⟨v1, vs1, d1, ds1, p1, q1, rfl, rfl, rfl, h1, r1⟩ := trodAll_cons r0
  obtain ⟨v2, vs2, d2, ds2, p2, q2, rfl, rfl, rfl, h2, r2⟩ := trodAll_cons r1
  obtain ⟨v3, vs3, d3, ds3, p3, q3, rfl, rfl, rfl, h3, r3⟩ := trodAll_cons r2
  obtain ⟨v4, vs4, d4, ds4, p4, q4, rfl, rfl, rfl, h4, r4⟩ := trodAll_cons r3
  obtain ⟨v5, vs5, d5, ds5, p5, q5, rfl, rfl, rfl, h5, r5⟩ := trodAll_cons r4
  obtain ⟨rfl, rfl, rfl⟩ := trodAll_nil r5
  obtain rfl : args = #[v0, v1, v2, v3, v4, v5] := by cases args; simp_all
  obtain ⟨rfl, rfl⟩ := trodVars_none hV
  have k0 := h0
  have lt0 : ∀ x ∈ p0, x.block < W.heap.size := by obtain ⟨m, hm⟩ := k0; exact DataW.trod_lt m _ _ _ hm
  have k1 := h1
  have lt1 : ∀ x ∈ p1, x.block < W.heap.size := by obtain ⟨m, hm⟩ := k1; exact DataW.trod_lt m _ _ _ hm
  have k2 := h2
  have lt2 : ∀ x ∈ p2, x.block < W.heap.size := by obtain ⟨m, hm⟩ := k2; exact DataW.trod_lt m _ _ _ hm
  have k3 := h3
  have lt3 : ∀ x ∈ p3, x.block < W.heap.size := by obtain ⟨m, hm⟩ := k3; exact DataW.trod_lt m _ _ _ hm
  have k4 := h4
  have lt4 : ∀ x ∈ p4, x.block < W.heap.size := by obtain ⟨m, hm⟩ := k4; exact DataW.trod_lt m _ _ _ hm
  have k5 := h5
  have lt5 : ∀ x ∈ p5, x.block < W.heap.size := by obtain ⟨m, hm⟩ := k5; exact DataW.trod_lt m _ _ _ hm
  obtain ⟨x0, ok0, dn0⟩ := open_dt (d := .cell PlanE) (by kernel_rfl) (hval 0 25 v0 rfl rfl) h0
  obtain ⟨x1, ok1, dn1⟩ := open_dt (d := .lst .bool) (by kernel_rfl) (hval 1 26 v1 rfl rfl) h1
  obtain ⟨x2, ok2, dn2⟩ := open_dt (d := .lst .bool) (by kernel_rfl) (hval 2 26 v2 rfl rfl) h2
  obtain ⟨x3, ok3, dn3⟩ := open_dt (d := .cell (.int .u8)) (by kernel_rfl) (hval 3 5 v3 rfl rfl) h3
  obtain ⟨x4, ok4, dn4⟩ := open_dt (d := .cell (.int .u8)) (by kernel_rfl) (hval 4 5 v4 rfl rfl) h4
  obtain ⟨x5, ok5, dn5⟩ := open_dt (d := .cell (.int .u8)) (by kernel_rfl) (hval 5 5 v5 rfl rfl) h5
  clear hA0 hval0
  refine (PureSpec.law (k := wepSpec) rfl (fun y h => wep_ok y.1 y.2.1 y.2.2.1 y.2.2.2.1 y.2.2.2.2.1 y.2.2.2.2.2.1 h) (x := (x0, x1, x2, x3, x4, x5, ())) (⟨ok0, ok3, ok4, ok5⟩) (fun v hv ρ y hy => by subst hv; exact hy) (us := [v0, v1, v2, v3, v4, v5]) (fun ρ hM => (.cons (dn0 ρ hM) (.cons (dn1 ρ hM) (.cons (dn2 ρ hM) (.cons (dn3 ρ hM) (.cons (dn4 ρ hM) (.cons (dn5 ρ hM) .nil)))))))).mono fun e W' ⟨he, bel⟩ => ?_
  subst he
  exact ⟨_, rfl, _, _, _, [], _, [], hW', trodAll_mk1 (shut_bool Tryz.underlying4 _), (trodAll_cons_mk (Below.trod laidOut (by kernel_rfl) (of_decide_eq_true (by kernel_rfl)) k0 bel lt0) (trodAll_cons_mk (Below.trod laidOut (by kernel_rfl) (of_decide_eq_true (by kernel_rfl)) k1 bel lt1) (trodAll_cons_mk (Below.trod laidOut (by kernel_rfl) (of_decide_eq_true (by kernel_rfl)) k2 bel lt2) (trodAll_cons_mk (Below.trod laidOut (by kernel_rfl) (of_decide_eq_true (by kernel_rfl)) k3 bel lt3) (trodAll_cons_mk (Below.trod laidOut (by kernel_rfl) (of_decide_eq_true (by kernel_rfl)) k4 bel lt4) (trodAll_cons_mk (Below.trod laidOut (by kernel_rfl) (of_decide_eq_true (by kernel_rfl)) k5 bel lt5) trodAll_mk0)))))), rfl, bel.frame _, fun h => by cases h⟩

set_option maxRecDepth 100000 in
theorem over : Go.Proofs.YtcaoldilmnpjoaaGreat.Rows.wholeEpochsRow.holds Go.Proofs.YtcaoldilmnpjoaaGreat.Tryz.pinned (OpenSpec.ofChange Go.Proofs.YtcaoldilmnpjoaaGreat.Rows.wholeEpochsSpec) :=
  OpenClaim.holds_of_wide 3 Tryz.f3 rfl rfl rfl rfl rfl rfl rfl ⟨rfl, rfl, rfl, rfl, rfl⟩ rfl rfl rfl rfl rfl (by kernel_rfl) Tryz.func3 (by kernel_rfl)
    (of_decide_eq_true (by kernel_rfl)) (by unfold Func.isWrapper; first | (rw [if_pos (by decide +kernel)]; kernel_rfl) | (rw [if_neg (by decide +kernel)]; exact ⟨rfl, rfl⟩))
    (fun os started H enc _ => lifted os started H enc)

theorem proved : Go.Proofs.YtcaoldilmnpjoaaGreat.Rows.WholeEpochsSaid := over
#print axioms proved
end Go.Proofs.YtcaoldilmnpjoaaGreat.lawWholeEpochs
