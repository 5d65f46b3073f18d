/-
  The top: one sum of two wide numbers (its carry is the model's own function).
-/
import Derived.Test.YtcaoldilmnpjoaaGreatTab
import Derived.WalkKit
import Derived.ProofKit
import Derived.WalkLawsBesides
import Derived.Below
import Derived.Laws.Externs
namespace Go.Proofs.YtcaoldilmnpjoaaGreat
set_option linter.all false
open Go.RowKit Go.Sx
set_option maxRecDepth 100000
set_option maxHeartbeats 4000000
theorem add64_at (w : World) : (callFunc 100 #[.int .u64 3, .int .u64 2, .int .u64 0]).run Tryz.prog w = .ok (.value (.tuple #[.int .u64 5, .int .u64 0])) w := by
  rw [run_callFunc_extern Tryz.func100 (by kernel_rfl) (by kernel_rfl) (by kernel_rfl) (e := add64Entry) (by kernel_rfl), run_add64 3 2 0 (by omega) (by omega) (by omega) (by omega)]
  rfl
theorem add64_at0 (w : World) : (callFunc 100 #[.int .u64 0, .int .u64 0, .int .u64 0]).run Tryz.prog w = .ok (.value (.tuple #[.int .u64 0, .int .u64 0])) w := by
  rw [run_callFunc_extern Tryz.func100 (by kernel_rfl) (by kernel_rfl) (by kernel_rfl) (e := add64Entry) (by kernel_rfl), run_add64 0 0 0 (by omega) (by omega) (by omega) (by omega)]
  rfl
theorem wadd_any (w : World) : Calls Tryz.prog 60 #[.agg #[.bool false, .int .u64 0, .int .u64 3], .agg #[.bool false, .int .u64 0, .int .u64 2]] w fun e w' => e = .returned (.agg #[.bool false, .int .u64 0, .int .u64 5]) ∧ Below w.heap.size w w' := by
  go_enter Tryz.func60, Tryz.ntmps60
  go_wp2_with (simp only [add64_at, add64_at0])
  refine bodyPost_ret (v := .agg #[.bool false, .int .u64 0, .int .u64 5]) ?_ rfl ⟨rfl, (((Below.refl _ w).alloc (Nat.le_refl _) _).alloc (by simp) _).alloc (by simp; omega) _⟩
  simp [results, Tryz.results60, go_sem]
abbrev U64 : Ty := .int .u64
abbrev I64 : Ty := .int .i64
abbrev WE : Ty := .pair .bool (.pair U64 U64)
abbrev RatE : Ty := .pair I64 I64
def addSpec : PureSpec := ⟨[.cell WE, .cell WE], fun (x : (Bool × Int × Int) × (Bool × Int × Int) × Unit) => x.1 = (false, 0, 3) ∧ x.2.1 = (false, 0, 2), [.cell WE], fun _ => ((false, 0, 5), ())⟩
theorem add_ok (x y : Bool × Int × Int) (h : addSpec.pre (x, y, ())) : TmplOk Tryz.prog AI 60 (argS addSpec.ds (fun _ => (x, y, ()))) [] (resOf (svs addSpec.rs (fun _ => addSpec.f (x, y, ())))) [] := by
  obtain ⟨h1, h2⟩ := h
  dsimp only at h1 h2
  subst h1; subst h2
  intro G ρ w us hG hsz hh hd
  have e : us = [.agg #[.bool false, .int .u64 0, .int .u64 3], .agg #[.bool false, .int .u64 0, .int .u64 2]] := by
    have key : ∀ (vs : List Value) (n m : Int), All2 (Den1 ρ) [.sb (fun _ => false), .int .u64 (fun _ => n), .int .u64 (fun _ => m)] vs → vs = [.bool false, .int .u64 n, .int .u64 m] := by
      intro vs n m h
      rcases h with _ | ⟨h1, _ | ⟨h2, _ | ⟨h3, h4⟩⟩⟩
      cases h4
      have h1 : _ = Value.bool false := h1
      have h2 : _ = Value.int .u64 n := h2
      have h3 : _ = Value.int .u64 m := h3
      rw [h1, h2, h3]
    rcases hd with _ | ⟨h1, _ | ⟨h2, h3⟩⟩
    cases h3
    obtain ⟨v1, rfl, h1⟩ := h1
    obtain ⟨v2, rfl, h2⟩ := h2
    rw [key v1 0 3 h1, key v2 0 2 h2]
  subst e
  refine (wadd_any w).mono ?_
  rintro e w' ⟨rfl, hb⟩
  exact ⟨_, ρ, rfl, hh.grown hb.block hb.os hb.tape hb.output hb.size, ⟨[.bool false, .int .u64 0, .int .u64 5], rfl, .cons rfl (.cons rfl (.cons rfl .nil))⟩⟩
theorem add_sound : ConSound Tryz.prog AI 60 addSpec.con := PureSpec.sound Tryz.call60 (fun x h => add_ok x.1 x.2.1 h)
end Go.Proofs.YtcaoldilmnpjoaaGreat
