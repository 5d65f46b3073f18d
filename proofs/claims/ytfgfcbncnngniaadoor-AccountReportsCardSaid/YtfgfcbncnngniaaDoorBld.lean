/-
  Layer 50: strings.Builder and strconv.Itoa: copyCheck walked; the contracts for the engine.
-/
import Derived.Test.YtfgfcbncnngniaaDoorLec
import Derived.Test.YtfgfcbncnngniaaDoorIta
import Derived.Test.YtfgfcbncnngniaaDoorEng3
namespace Go.Proofs.YtfgfcbncnngniaaDoor
set_option linter.all false
set_option linter.unusedVariables false
set_option linter.unusedSimpArgs false
set_option linter.unusedSectionVars false
open Go.RowKit Go.Sx
set_option maxRecDepth 100000
set_option maxHeartbeats 4000000
theorem cc_used (b : Nat) (w : World) (h0 : w.cell? ⟨b, 0, none⟩ = some (.pointer (some ⟨b, 0, none⟩))) :
    Calls Tryd.prog 48 #[.pointer (some ⟨b, 0, none⟩)] w fun e w' => e = .returned (.tuple #[]) ∧ w' = w := by
  obtain ⟨j, hj, _⟩ := Option.map_eq_some_iff.1 (show (Tryd.prog.info? 70).map (·.size) = some 2 by kernel_rfl)
  go_enter Tryd.func48, Tryd.ntmps48
  go_wp2
  rw [Lib.run_neq_ptr_same w _ Tryd.underlying67 hj]
  go_wp2
  go_end0
  exact ⟨rfl, rfl⟩
theorem cc_fresh (b : Nat) (w : World) (h0 : w.cell? ⟨b, 0, none⟩ = some (.pointer none)) (hsh : w.shape? b = some (70, 2)) (hfz : w.frozen? ⟨b, 0, none⟩ = false) :
    Calls Tryd.prog 48 #[.pointer (some ⟨b, 0, none⟩)] w fun e w' => e = .returned (.tuple #[]) ∧ w' = w.setCell ⟨b, 0, none⟩ (.pointer (some ⟨b, 0, none⟩)) := by
  obtain ⟨j, hj, hjs⟩ := Option.map_eq_some_iff.1 (show (Tryd.prog.info? 70).map (·.size) = some 2 by kernel_rfl)
  go_enter Tryd.func48, Tryd.ntmps48
  go_wp2
  rw [Lib.run_to_unsafe w ⟨b, 0, none⟩ Tryd.underlying67 Tryd.underlying86 hj (by rw [hjs]; decide) hsh (Nat.zero_lt_succ 1)]
  simp only [Result.andThen]
  rw [Oper.upon_value]
  go_wp2
  rw [run_callFunc_extern Tryd.func54 (by kernel_rfl) (by kernel_rfl) (by kernel_rfl) (e := Extern.AbiNoEscape.same) (by kernel_rfl)]
  rw [Lib.run_noEscape]
  simp only [Result.andThen]
  rw [Oper.upon_value]
  go_wp2
  rw [Lib.run_from_unsafe w ⟨b, 0, none⟩ Tryd.underlying86 Tryd.underlying67 hj hsh (by kernel_rfl)]
  simp only [Result.andThen]
  rw [Oper.upon_value]
  go_wp2
  go_end0
  exact ⟨rfl, rfl⟩
theorem cc_sound : ConSound Tryd.prog AI 48 (copyCon (A := Ab) 70) :=
  copyCon_sound Tryd.call48 cc_fresh cc_used
/-- A number's digits. -/
def dig (n : Int) : List Int := (Lib.itoa n).map fun x => (x.toNat : Int)
theorem u8s_nat (l : List UInt8) : u8s (l.map fun x => (x.toNat : Int)) = l := by
  unfold u8s
  rw [List.map_map]
  conv => rhs; rw [← List.map_id l]
  refine List.map_congr_left fun x _ => ?_
  simp
theorem itoaS_sound : ConSound Tryd.prog AI 37 (itoaCon (A := Ab) inI64 dig) :=
  itoaCon_soundT Tryd.call37 fun n w h0 ht => by
    refine (Any.strconv_Itoa itoaM n h0.1 h0.2 w ht).mono ?_
    rintro e w' ⟨rfl, k, os, rfl⟩
    refine ⟨?_, k, os, rfl⟩
    unfold dig
    rw [u8s_nat]
end Go.Proofs.YtfgfcbncnngniaaDoor
