/-
  Layer 40: which strings are names: the contracts of Valid.
-/
import Derived.Test.YtehdhnkkkocffaaTab
import Derived.Test.YtehdhnkkkocffaaVlo
import Derived.Test.YtehdhnkkkocffaaEng3
namespace Go.Proofs.Ytehdhnkkkocffaa
set_option linter.all false
set_option linter.unusedVariables false
set_option linter.unusedSimpArgs false
set_option linter.unusedSectionVars false
open Go.RowKit Go.Sx
/-- Is a string a name? -/
def vldF (l : List Int) : Bool := validB ⟨(u8s l).toArray⟩
theorem vld_sound : ConSound Try.prog AI 21 (strBoolCon vldF) := strBool_sound Try.call21 fun l w => valid_any _ w
theorem rvld_sound : ConSound Try.prog AI 20 (strBoolCon vldF) := strBool_sound Try.call20 fun l w => refvalid_any _ w
end Go.Proofs.Ytehdhnkkkocffaa
