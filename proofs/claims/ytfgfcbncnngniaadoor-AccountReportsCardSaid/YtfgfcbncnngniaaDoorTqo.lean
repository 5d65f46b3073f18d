/-
  Layer 50: the table of the powers of ten, out of the row's own condition.
-/
import Derived.Test.YtfgfcbncnngniaaDoorRows
import Derived.Test.YtfgfcbncnngniaaDoorTab
import Derived.LaidSub
import Derived.Lib.LaidTab
namespace Go.Proofs.YtfgfcbncnngniaaDoor
set_option linter.all false
set_option linter.unusedVariables false
set_option linter.unusedSimpArgs false
set_option linter.unusedSectionVars false
open Go.RowKit Go.Sx Go.Lib
set_option maxRecDepth 100000
abbrev p10 : String × DataW Unit := ("internal/strconv.uint64pow10", tabData .u64 Lib.pow10Tab)
theorem p10_eq : (Go.Proofs.YtfgfcbncnngniaaDoor.Rows.laid_internal_strconv_uint64pow10 : DataW Unit) = tabData .u64 Lib.pow10Tab := by rfl
def isP (x : String × DataW Unit) : Bool := x.1 == "internal/strconv.uint64pow10"
theorem tq_of {W : World} (h : laidMetH Tryd.prog [("math/bits.deBruijn32tab", Go.Proofs.YtfgfcbncnngniaaDoor.Rows.laid_math_bits_deBruijn32tab), ("math/bits.deBruijn64tab", Go.Proofs.YtfgfcbncnngniaaDoor.Rows.laid_math_bits_deBruijn64tab), ("internal/strconv.uint64pow10", Go.Proofs.YtfgfcbncnngniaaDoor.Rows.laid_internal_strconv_uint64pow10)] W) : AI.tq.T W (fun _ => False) := by
  have h1 : laidMet Tryd.prog [("math/bits.deBruijn32tab", Go.Proofs.YtfgfcbncnngniaaDoor.Rows.laid_math_bits_deBruijn32tab), ("math/bits.deBruijn64tab", Go.Proofs.YtfgfcbncnngniaaDoor.Rows.laid_math_bits_deBruijn64tab), ("internal/strconv.uint64pow10", Go.Proofs.YtfgfcbncnngniaaDoor.Rows.laid_internal_strconv_uint64pow10)] W := h
  have h2 := h1.filter isP
  have e : ([("math/bits.deBruijn32tab", Go.Proofs.YtfgfcbncnngniaaDoor.Rows.laid_math_bits_deBruijn32tab), ("math/bits.deBruijn64tab", Go.Proofs.YtfgfcbncnngniaaDoor.Rows.laid_math_bits_deBruijn64tab), ("internal/strconv.uint64pow10", Go.Proofs.YtfgfcbncnngniaaDoor.Rows.laid_internal_strconv_uint64pow10)] : List (String × DataW Unit)).filter isP = [p10] := by
    rw [List.filter_cons_of_neg (by unfold isP; decide), List.filter_cons_of_neg (by unfold isP; decide), List.filter_cons_of_pos (by unfold isP; decide), p10_eq]
    rfl
  rw [e] at h2
  obtain ⟨g, hg⟩ : ∃ g, Tryd.prog.globalNamed "internal/strconv.uint64pow10" = some g := Option.isSome_iff_exists.1 (by kernel_rfl)
  have hq : (((Tryd.prog.globalNamed "internal/strconv.uint64pow10").bind fun g => (Tryd.prog.globals[g]?).map (·.type)).bind fun t => (match Tryd.prog.underlying t with | some (.array n e) => (match Tryd.prog.underlying e with | some (.int .u64) => (match Tryd.prog.cellsOf e == 1 && Tryd.prog.cellsOf t == n with | true => some () | false => none) | _ => none) | _ => none)) = some () := by kernel_rfl
  rw [hg, Option.bind_some] at hq
  obtain ⟨t, hty, hq⟩ := Option.bind_eq_some_iff.1 hq
  split at hq <;> (try cases hq)
  rename_i n e ht
  split at hq <;> (try cases hq)
  rename_i he
  split at hq <;> (try cases hq)
  rename_i hc
  obtain ⟨c1, c2⟩ := Bool.and_eq_true_iff.1 hc
  exact tabOf_T (tabIs_of_head hg hty ht he (by simpa using c1) (by simpa using c2) h2)
end Go.Proofs.YtfgfcbncnngniaaDoor
