/-
 WholeMulticast: the statement of the law, from its walk: for every input the call returns true, and each argument reads as it did. No conditions.
-/
import Derived.Test.YtcaoldilmnpjoaaGreatRows
import Derived.Test.YtcaoldilmnpjoaaGreatOwn47
import Derived.Test.YtcaoldilmnpjoaaGreatEng3
import Derived.WalkKit
import Derived.ProofKit
import Derived.OpenShut
import Derived.ShutString
import Derived.ChangeOld
import Derived.Below
namespace Go.Proofs.YtcaoldilmnpjoaaGreat.lawWholeMulticast
set_option linter.all false
open Go.ChangeShapes Go.WideShapes Go.ChangeAt Go.RowKit Go.Sx
set_option linter.unusedVariables false
theorem own : ownKnob Tryz.prog.godebug = none := by kernel_rfl
theorem laidOut : laidOutB Tryz.prog = true := by kernel_rfl
set_option maxRecDepth 100000 in
theorem lifted (os : Os) (started : os.Started) (H : Type) (enc : TypeId × Value → H) :
 ReturnsInHanded {} Tryz.checked os 4 .any (Go.Proofs.YtcaoldilmnpjoaaGreat.Rows.wholeMulticastSpec.pre6 enc Tryz.prog Tryz.f4 Go.Proofs.YtcaoldilmnpjoaaGreat.Rows.wholeMulticastRow.domain false) (Go.Proofs.YtcaoldilmnpjoaaGreat.Rows.wholeMulticastSpec.post enc Tryz.prog Tryz.f4 false true false false) := by
 refine returnsInHanded_of_change (C := Tryz.checked) own started (by kernel_rfl) Tryz.func4
  (ChangeSpec.witness6 (enc := enc) (C := Tryz.checked) false ⟨#[], #[.agg #[.slice none 0 0, .slice none 0 0], .slice none 0 0, .int .u8 0, .slice none 0 0], []⟩ 8 (by kernel_rfl) (by kernel_rfl) (by kernel_rfl) (by kernel_rfl)) ?_
 intro W base args ds gs before hval0 hW hcnd _
 have hval : ∀ (j : Nat) t v, Tryz.f4.params[j]? = some t → args[j]? = some v → Value.okWide Tryz.prog W .any base t v := hval0
 have hW' := hW
 obtain ⟨p, q, hA0, hV, rfl, hfz, hnd⟩ := hW
 have hA : DataW.TrodAll enc Tryz.prog W 0 (fun _ => true) true Tryz.f4.params.toList args.toList ds p := hA0
 rw [Tryz.params4] at hA hval
 obtain ⟨v0, vs0, d0, ds0, p0, q0, hargs, rfl, rfl, h0, r0⟩ := trodAll_cons hA
 obtain ⟨v1, vs1, d1, ds1, p1, q1, rfl, rfl, rfl, h1, r1⟩ := trodAll_cons r0
 obtain ⟨v2, vs2, d2, ds2, p2, q2, rfl, rfl, rfl, h2, r2⟩ := trodAll_cons r1
 obtain ⟨v3, vs3, d3, ds3, p3, q3, rfl, rfl, rfl, h3, r3⟩ := trodAll_cons r2
 obtain ⟨rfl, rfl, rfl⟩ := trodAll_nil r3
 obtain rfl : args = #[v0, v1, v2, v3] := by cases args; simp_all
 obtain ⟨rfl, rfl⟩ := trodVars_none hV
 have k0 := h0
 have lt0 : ∀ x ∈ p0, x.block < W.heap.size := by obtain ⟨m, hm⟩ := k0; exact DataW.trod_lt m _ _ _ hm
 have k1 := h1
 have lt1 : ∀ x ∈ p1, x.block < W.heap.size := by obtain ⟨m, hm⟩ := k1; exact DataW.trod_lt m _ _ _ hm
 have k2 := h2
 have lt2 : ∀ x ∈ p2, x.block < W.heap.size := by obtain ⟨m, hm⟩ := k2; exact DataW.trod_lt m _ _ _ hm
 have k3 := h3
 have lt3 : ∀ x ∈ p3, x.block < W.heap.size := by obtain ⟨m, hm⟩ := k3; exact DataW.trod_lt m _ _ _ hm
 obtain ⟨x0, ok0, dn0⟩ := oZ (d := .cell bT) (by kernel_rfl) (hval 0 25 v0 rfl rfl) h0
 obtain ⟨x1, ok1, dn1⟩ := oZ (d := .lst .bool) (by kernel_rfl) (hval 1 26 v1 rfl rfl) h1
 obtain ⟨x2, ok2, dn2⟩ := oZ (d := .cell (.int .u8)) (by kernel_rfl) (hval 2 5 v2 rfl rfl) h2
 obtain ⟨x3, ok3, dn3⟩ := oZ (d := .lst .bytes) (by kernel_rfl) (hval 3 45 v3 rfl rfl) h3
 clear hA0 hval0
 refine (aB.law (k := oa) rfl (fun y h => mcs_ok y.1 y.2.1 y.2.2.1 y.2.2.2.1 h) (x := (x0, x1, x2, x3, ())) (⟨ok0, ok2, ok3⟩) (fun v hv ρ y hy => by subst hv; exact hy) (us := [v0, v1, v2, v3]) (fun ρ hM => (.cons (dn0 ρ hM) (.cons (dn1 ρ hM) (.cons (dn2 ρ hM) (.cons (dn3 ρ hM) .nil)))))).mono fun e W' ⟨he, bel⟩ => ?_
 subst he
 exact ⟨_, rfl, _, _, _, [], _, [], hW', trodAll_mk1 (shut_bool Tryz.underlying4 _), (trodAll_cons_mk (Below.trod laidOut (by kernel_rfl) (of_decide_eq_true (by kernel_rfl)) k0 bel lt0) (trodAll_cons_mk (Below.trod laidOut (by kernel_rfl) (of_decide_eq_true (by kernel_rfl)) k1 bel lt1) (trodAll_cons_mk (Below.trod laidOut (by kernel_rfl) (of_decide_eq_true (by kernel_rfl)) k2 bel lt2) (trodAll_cons_mk (Below.trod laidOut (by kernel_rfl) (of_decide_eq_true (by kernel_rfl)) k3 bel lt3) trodAll_mk0)))), rfl, bel.frame _, fun h => by cases h⟩
set_option maxRecDepth 100000 in
theorem zZ : Go.Proofs.YtcaoldilmnpjoaaGreat.Rows.wholeMulticastRow.holds Go.Proofs.YtcaoldilmnpjoaaGreat.Tryz.pinned (OpenSpec.ofChange Go.Proofs.YtcaoldilmnpjoaaGreat.Rows.wholeMulticastSpec) :=
 OpenClaim.holds_of_wide 4 Tryz.f4 rfl rfl rfl rfl rfl rfl rfl ⟨rfl, rfl, rfl, rfl, rfl⟩ rfl rfl rfl rfl rfl (by kernel_rfl) Tryz.func4 (by kernel_rfl)
  (of_decide_eq_true (by kernel_rfl)) (by unfold Func.isWrapper; first | (rw [if_pos (by decide +kernel)]; kernel_rfl) | (rw [if_neg (by decide +kernel)]; exact ⟨rfl, rfl⟩))
  (fun os started H enc _ => lifted os started H enc)
theorem proved : Go.Proofs.YtcaoldilmnpjoaaGreat.Rows.WholeMulticastSaid := zZ
#print axioms proved
end Go.Proofs.YtcaoldilmnpjoaaGreat.lawWholeMulticast
