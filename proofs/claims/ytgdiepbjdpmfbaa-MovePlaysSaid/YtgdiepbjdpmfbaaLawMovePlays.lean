/-
  MovePlays: the statement of the law, from its walk: for every input the call returns true, and each argument reads as it did. No conditions.
-/
import Derived.Test.YtgdiepbjdpmfbaaRows
import Derived.Test.YtgdiepbjdpmfbaaMpl
import Derived.Test.YtgdiepbjdpmfbaaEng3
import Derived.WalkKit
import Derived.ProofKit
import Derived.OpenShut
import Derived.ShutString
import Derived.ChangeOld
import Derived.Below
namespace Go.Proofs.Ytgdiepbjdpmfbaa.lawMovePlays
set_option linter.all false
set_option linter.unusedVariables false
set_option linter.unusedSimpArgs false
set_option linter.unusedSectionVars false
open Go.ChangeShapes Go.WideShapes Go.ChangeAt Go.RowKit Go.Sx
set_option linter.unusedVariables false

theorem own : ownKnob Try.prog.godebug = none := by kernel_rfl
theorem laidOut : laidOutB Try.prog = true := by kernel_rfl

set_option maxRecDepth 100000 in
theorem lifted (os : Os) (started : os.Started) (H : Type) (enc : TypeId × Value → H) :
    ReturnsInHanded {} Try.checked os 10 .any (Go.Proofs.Ytgdiepbjdpmfbaa.Rows.movePlaysSpec.pre6 enc Try.prog Try.f10 Go.Proofs.Ytgdiepbjdpmfbaa.Rows.movePlaysRow.domain false) (Go.Proofs.Ytgdiepbjdpmfbaa.Rows.movePlaysSpec.post enc Try.prog Try.f10 false true false false) := by
  refine returnsInHanded_of_change (C := Try.checked) own started (by kernel_rfl) Try.func10
    (ChangeSpec.witness6 (enc := enc) (C := Try.checked) false ⟨#[], #[.int .i64 0, .slice none 0 0], []⟩ 8 (by kernel_rfl) (by kernel_rfl) (by kernel_rfl) (by kernel_rfl)) ?_
  intro W base args ds gs before hval0 hW hcnd _
  have hval : ∀ (j : Nat) t v, Try.f10.params[j]? = some t → args[j]? = some v → Value.okWide Try.prog W .any base t v := hval0
  have hW' := hW
  obtain ⟨p, q, hA0, hV, rfl, hfz, hnd⟩ := hW
  have hA : DataW.TrodAll enc Try.prog W 0 (fun _ => true) true Try.f10.params.toList args.toList ds p := hA0
  rw [Try.params10] at hA hval
  obtain ⟨v0, vs0, d0, ds0, p0, q0, hargs, rfl, rfl, h0, r0⟩ := trodAll_cons hA
  obtain ⟨v1, vs1, d1, ds1, p1, q1, rfl, rfl, rfl, h1, r1⟩ := trodAll_cons r0
  obtain ⟨rfl, rfl, rfl⟩ := trodAll_nil r1
  obtain rfl : args = #[v0, v1] := by cases args; simp_all
  obtain ⟨rfl, rfl⟩ := trodVars_none hV
  have k0 := h0
  have lt0 : ∀ x ∈ p0, x.block < W.heap.size := by obtain ⟨m, hm⟩ := k0; exact DataW.trod_lt m _ _ _ hm
  have k1 := h1
  have lt1 : ∀ x ∈ p1, x.block < W.heap.size := by obtain ⟨m, hm⟩ := k1; exact DataW.trod_lt m _ _ _ hm
  obtain ⟨x0, ok0, dn0⟩ := open_dt (d := .cell (.int .i64)) (by kernel_rfl) (hval 0 3 v0 rfl rfl) h0
  obtain ⟨x1, ok1, dn1⟩ := open_dt (d := .lst actE) (by kernel_rfl) (hval 1 54 v1 rfl rfl) h1
  clear hA0 hval0
  refine (PureSpec.law (k := mplSpec) rfl (fun y h => mpl_ok y.1 y.2.1 h) (x := (x0, x1, ())) (ok1) (fun v hv ρ y hy => by subst hv; exact hy) (us := [v0, v1]) (fun ρ hM => (.cons (dn0 ρ hM) (.cons (dn1 ρ hM) .nil)))).mono fun e W' ⟨he, bel⟩ => ?_
  subst he
  exact ⟨_, rfl, _, _, _, [], _, [], hW', trodAll_mk1 (shut_bool Try.underlying4 _), (trodAll_cons_mk (Below.trod laidOut (by kernel_rfl) (of_decide_eq_true (by kernel_rfl)) k0 bel lt0) (trodAll_cons_mk (Below.trod laidOut (by kernel_rfl) (of_decide_eq_true (by kernel_rfl)) k1 bel lt1) trodAll_mk0)), rfl, bel.frame _, fun h => by cases h⟩

set_option maxRecDepth 100000 in
theorem over : Go.Proofs.Ytgdiepbjdpmfbaa.Rows.movePlaysRow.holds Go.Proofs.Ytgdiepbjdpmfbaa.Try.pinned (OpenSpec.ofChange Go.Proofs.Ytgdiepbjdpmfbaa.Rows.movePlaysSpec) :=
  OpenClaim.holds_of_wide 10 Try.f10 rfl rfl rfl rfl rfl rfl rfl ⟨rfl, rfl, rfl, rfl, rfl⟩ rfl rfl rfl rfl rfl (by kernel_rfl) Try.func10 (by kernel_rfl)
    (of_decide_eq_true (by kernel_rfl)) (by unfold Func.isWrapper; first | (rw [if_pos (by decide +kernel)]; kernel_rfl) | (rw [if_neg (by decide +kernel)]; exact ⟨rfl, rfl⟩))
    (fun os started H enc _ => lifted os started H enc)

theorem proved : Go.Proofs.Ytgdiepbjdpmfbaa.Rows.MovePlaysSaid := over
#print axioms proved
end Go.Proofs.Ytgdiepbjdpmfbaa.lawMovePlays
