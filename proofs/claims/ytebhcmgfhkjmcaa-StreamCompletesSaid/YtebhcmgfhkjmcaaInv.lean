/-
  Layer 44: what stays true of a writer and a reader with everything that was ever sent between them (plain).
-/
import Derived.Test.YtebhcmgfhkjmcaaWld
import Derived.Test.YtebhcmgfhkjmcaaSti
namespace Go.Proofs.Ytebhcmgfhkjmcaa
set_option linter.all false
set_option linter.unusedVariables false
set_option linter.unusedSimpArgs false
set_option linter.unusedSectionVars false
end Go.Proofs.Ytebhcmgfhkjmcaa
