/-
  NARROWER THAN 'FOR EVERY INPUT', by the rows' own cells (each row's printed sentence says how): AccountBalances: laid · AccountZero: laid · AccountFinal: laid · AccountApart: laid · AccountFull: laid · AccountAudits: laid · AccountBooks: laid · AccountNothing: laid · AccountReports: laid.
  DERIVED. THE GIVEN ROWS OF THIS SEAT. 9 by the template 'for every input the law returns true; each argument reads behind the call as it read before'; 0 by the template 'total and deterministic' (their statements: YtfgfcbncnngniaaDoorTotals.lean).
  GIVEN WITH THE SEED: the statements are not yours to turn. If you find one false, say at which input.
  Laid BY PROGRAM, IN A SANDBOX (cutbox-rows.mjs): the forced cells as the released guide's own fill.sh prints them over the translation 3eaec9231c8d1422… (all of the seat's roots in one cut). By AI agents, Wed Nov 11 2026. No macro, syntax, notation, axiom, sorry.
-/
import Derived.Test.YtfgfcbncnngniaaDoorChecked
import GoSem.Claim
import GoSem.ClaimJoined
import GoSem.ClaimMapViews
import Derived.JoinedTies
import Derived.KernelRfl
namespace Go.Proofs.YtfgfcbncnngniaaDoor
/- THE CELL 'sum', in the pinned program and in every row, IS THE sha256 OF THE DUMP (.gsa) THAT YtfgfcbncnngniaaDoorProg.lean LOADS. Nothing in Lean hashes anything: it is a label: what it is worth is what the hold of that sum in a sandbox is worth. -/
noncomputable def Tryd.pinned : Pinned := { name := "ytfgfcbncnngniaadoor", sum := "3eaec9231c8d1422fba742073377b5e51f968933eb480779653cadad662c9dd9", checked := Tryd.checked }
namespace Rows
def none {H : Type} : Left H := { results := [], args := [] }

/- WHAT THE LISTED PACKAGE-LEVEL VARIABLES READ AS WHEN THE CALL BEGINS. Each datum BY PROGRAM (the guide's laid-datum.mjs) off the statement by which the dump's own 'gosem.cut.vars' lays the variable. In a bare row this is a premise. The card (YtfgfcbncnngniaaDoorCards.lean) ties it to the program's text. -/
def laid_math_bits_deBruijn32tab {H : Type} : DataW H := .agg [.lit (.int .u8 0), .lit (.int .u8 1), .lit (.int .u8 28), .lit (.int .u8 2), .lit (.int .u8 29), .lit (.int .u8 14), .lit (.int .u8 24), .lit (.int .u8 3), .lit (.int .u8 30), .lit (.int .u8 22), .lit (.int .u8 20), .lit (.int .u8 15), .lit (.int .u8 25), .lit (.int .u8 17), .lit (.int .u8 4), .lit (.int .u8 8), .lit (.int .u8 31), .lit (.int .u8 27), .lit (.int .u8 13), .lit (.int .u8 23), .lit (.int .u8 21), .lit (.int .u8 19), .lit (.int .u8 16), .lit (.int .u8 7), .lit (.int .u8 26), .lit (.int .u8 12), .lit (.int .u8 18), .lit (.int .u8 6), .lit (.int .u8 11), .lit (.int .u8 5), .lit (.int .u8 10), .lit (.int .u8 9)]
def laid_math_bits_deBruijn64tab {H : Type} : DataW H := .agg [.lit (.int .u8 0), .lit (.int .u8 1), .lit (.int .u8 56), .lit (.int .u8 2), .lit (.int .u8 57), .lit (.int .u8 49), .lit (.int .u8 28), .lit (.int .u8 3), .lit (.int .u8 61), .lit (.int .u8 58), .lit (.int .u8 42), .lit (.int .u8 50), .lit (.int .u8 38), .lit (.int .u8 29), .lit (.int .u8 17), .lit (.int .u8 4), .lit (.int .u8 62), .lit (.int .u8 47), .lit (.int .u8 59), .lit (.int .u8 36), .lit (.int .u8 45), .lit (.int .u8 43), .lit (.int .u8 51), .lit (.int .u8 22), .lit (.int .u8 53), .lit (.int .u8 39), .lit (.int .u8 33), .lit (.int .u8 30), .lit (.int .u8 24), .lit (.int .u8 18), .lit (.int .u8 12), .lit (.int .u8 5), .lit (.int .u8 63), .lit (.int .u8 55), .lit (.int .u8 48), .lit (.int .u8 27), .lit (.int .u8 60), .lit (.int .u8 41), .lit (.int .u8 37), .lit (.int .u8 16), .lit (.int .u8 46), .lit (.int .u8 35), .lit (.int .u8 44), .lit (.int .u8 21), .lit (.int .u8 52), .lit (.int .u8 32), .lit (.int .u8 23), .lit (.int .u8 11), .lit (.int .u8 54), .lit (.int .u8 26), .lit (.int .u8 40), .lit (.int .u8 15), .lit (.int .u8 34), .lit (.int .u8 20), .lit (.int .u8 31), .lit (.int .u8 10), .lit (.int .u8 25), .lit (.int .u8 14), .lit (.int .u8 19), .lit (.int .u8 9), .lit (.int .u8 13), .lit (.int .u8 8), .lit (.int .u8 7), .lit (.int .u8 6)]
def laid_internal_strconv_uint64pow10 {H : Type} : DataW H := .agg [.lit (.int .u64 1), .lit (.int .u64 10), .lit (.int .u64 100), .lit (.int .u64 1000), .lit (.int .u64 10000), .lit (.int .u64 100000), .lit (.int .u64 1000000), .lit (.int .u64 10000000), .lit (.int .u64 100000000), .lit (.int .u64 1000000000), .lit (.int .u64 10000000000), .lit (.int .u64 100000000000), .lit (.int .u64 1000000000000), .lit (.int .u64 10000000000000), .lit (.int .u64 100000000000000), .lit (.int .u64 1000000000000000), .lit (.int .u64 10000000000000000), .lit (.int .u64 100000000000000000), .lit (.int .u64 1000000000000000000), .lit (.int .u64 10000000000000000000)]

/-- 'fairlinklaw50.AccountBalances': WHATEVER THE INPUT: true; the input reads as it did. -/
def accountBalancesSpec : ChangeSpec := { name := "accountBalances", fn := fun _ => fun
  | [d1, d2, d3] => { results := [.lit (.bool true)], args := [d1, d2, d3] }
  | _ => none }
def accountBalancesRow : OpenClaim := { program := "ytfgfcbncnngniaadoor", sum := "3eaec9231c8d1422fba742073377b5e51f968933eb480779653cadad662c9dd9", func := "fairlink/fairlinklaw50.AccountBalances", spec := "accountBalances", inPlace := ["internal/abi.NoEscape"], unfollowed := true, recurses := true, named := ["internal/strconv.uint64pow10", "math/bits.deBruijn32tab", "math/bits.deBruijn64tab"], apart := false, laid := [("math/bits.deBruijn32tab", laid_math_bits_deBruijn32tab), ("math/bits.deBruijn64tab", laid_math_bits_deBruijn64tab), ("internal/strconv.uint64pow10", laid_internal_strconv_uint64pow10)] }
def AccountBalancesSaid : Prop := accountBalancesRow.holds Tryd.pinned (OpenSpec.ofChange accountBalancesSpec)

/-- ITS FALSE NEIGHBOUR: 'it returns false'. Refute it at one input. -/
def accountBalancesWrong : ChangeSpec := { name := "accountBalances", fn := fun _ => fun
  | [d1, d2, d3] => { results := [.lit (.bool false)], args := [d1, d2, d3] }
  | _ => none }
def AccountBalancesWrongFalsely : Prop := accountBalancesRow.holds Tryd.pinned (OpenSpec.ofChange accountBalancesWrong)

/-- 'fairlinklaw50.AccountZero': WHATEVER THE INPUT: true; the input reads as it did. -/
def accountZeroSpec : ChangeSpec := { name := "accountZero", fn := fun _ => fun
  | [d] => { results := [.lit (.bool true)], args := [d] }
  | _ => none }
def accountZeroRow : OpenClaim := { program := "ytfgfcbncnngniaadoor", sum := "3eaec9231c8d1422fba742073377b5e51f968933eb480779653cadad662c9dd9", func := "fairlink/fairlinklaw50.AccountZero", spec := "accountZero", inPlace := ["internal/abi.NoEscape"], unfollowed := true, recurses := true, named := ["internal/strconv.uint64pow10", "math/bits.deBruijn32tab", "math/bits.deBruijn64tab"], apart := false, laid := [("math/bits.deBruijn32tab", laid_math_bits_deBruijn32tab), ("math/bits.deBruijn64tab", laid_math_bits_deBruijn64tab), ("internal/strconv.uint64pow10", laid_internal_strconv_uint64pow10)] }
def AccountZeroSaid : Prop := accountZeroRow.holds Tryd.pinned (OpenSpec.ofChange accountZeroSpec)

/-- ITS FALSE NEIGHBOUR: 'it returns false'. Refute it at one input. -/
def accountZeroWrong : ChangeSpec := { name := "accountZero", fn := fun _ => fun
  | [d] => { results := [.lit (.bool false)], args := [d] }
  | _ => none }
def AccountZeroWrongFalsely : Prop := accountZeroRow.holds Tryd.pinned (OpenSpec.ofChange accountZeroWrong)

/-- 'fairlinklaw50.AccountFinal': WHATEVER THE INPUT: true; the input reads as it did. -/
def accountFinalSpec : ChangeSpec := { name := "accountFinal", fn := fun _ => fun
  | [d] => { results := [.lit (.bool true)], args := [d] }
  | _ => none }
def accountFinalRow : OpenClaim := { program := "ytfgfcbncnngniaadoor", sum := "3eaec9231c8d1422fba742073377b5e51f968933eb480779653cadad662c9dd9", func := "fairlink/fairlinklaw50.AccountFinal", spec := "accountFinal", inPlace := ["internal/abi.NoEscape"], unfollowed := true, recurses := true, named := ["internal/strconv.uint64pow10", "math/bits.deBruijn32tab", "math/bits.deBruijn64tab"], apart := false, laid := [("math/bits.deBruijn32tab", laid_math_bits_deBruijn32tab), ("math/bits.deBruijn64tab", laid_math_bits_deBruijn64tab), ("internal/strconv.uint64pow10", laid_internal_strconv_uint64pow10)] }
def AccountFinalSaid : Prop := accountFinalRow.holds Tryd.pinned (OpenSpec.ofChange accountFinalSpec)

/-- ITS FALSE NEIGHBOUR: 'it returns false'. Refute it at one input. -/
def accountFinalWrong : ChangeSpec := { name := "accountFinal", fn := fun _ => fun
  | [d] => { results := [.lit (.bool false)], args := [d] }
  | _ => none }
def AccountFinalWrongFalsely : Prop := accountFinalRow.holds Tryd.pinned (OpenSpec.ofChange accountFinalWrong)

/-- 'fairlinklaw50.AccountApart': WHATEVER THE INPUT: true; the input reads as it did. -/
def accountApartSpec : ChangeSpec := { name := "accountApart", fn := fun _ => fun
  | [d1, d2] => { results := [.lit (.bool true)], args := [d1, d2] }
  | _ => none }
def accountApartRow : OpenClaim := { program := "ytfgfcbncnngniaadoor", sum := "3eaec9231c8d1422fba742073377b5e51f968933eb480779653cadad662c9dd9", func := "fairlink/fairlinklaw50.AccountApart", spec := "accountApart", inPlace := ["internal/abi.NoEscape"], unfollowed := true, recurses := true, named := ["internal/strconv.uint64pow10", "math/bits.deBruijn32tab", "math/bits.deBruijn64tab"], apart := false, laid := [("math/bits.deBruijn32tab", laid_math_bits_deBruijn32tab), ("math/bits.deBruijn64tab", laid_math_bits_deBruijn64tab), ("internal/strconv.uint64pow10", laid_internal_strconv_uint64pow10)] }
def AccountApartSaid : Prop := accountApartRow.holds Tryd.pinned (OpenSpec.ofChange accountApartSpec)

/-- ITS FALSE NEIGHBOUR: 'it returns false'. Refute it at one input. -/
def accountApartWrong : ChangeSpec := { name := "accountApart", fn := fun _ => fun
  | [d1, d2] => { results := [.lit (.bool false)], args := [d1, d2] }
  | _ => none }
def AccountApartWrongFalsely : Prop := accountApartRow.holds Tryd.pinned (OpenSpec.ofChange accountApartWrong)

/-- 'fairlinklaw50.AccountFull': WHATEVER THE INPUT: true; the input reads as it did. -/
def accountFullSpec : ChangeSpec := { name := "accountFull", fn := fun _ => fun
  | [d1, d2] => { results := [.lit (.bool true)], args := [d1, d2] }
  | _ => none }
def accountFullRow : OpenClaim := { program := "ytfgfcbncnngniaadoor", sum := "3eaec9231c8d1422fba742073377b5e51f968933eb480779653cadad662c9dd9", func := "fairlink/fairlinklaw50.AccountFull", spec := "accountFull", inPlace := ["internal/abi.NoEscape"], unfollowed := true, recurses := true, named := ["internal/strconv.uint64pow10", "math/bits.deBruijn32tab", "math/bits.deBruijn64tab"], apart := false, laid := [("math/bits.deBruijn32tab", laid_math_bits_deBruijn32tab), ("math/bits.deBruijn64tab", laid_math_bits_deBruijn64tab), ("internal/strconv.uint64pow10", laid_internal_strconv_uint64pow10)] }
def AccountFullSaid : Prop := accountFullRow.holds Tryd.pinned (OpenSpec.ofChange accountFullSpec)

/-- ITS FALSE NEIGHBOUR: 'it returns false'. Refute it at one input. -/
def accountFullWrong : ChangeSpec := { name := "accountFull", fn := fun _ => fun
  | [d1, d2] => { results := [.lit (.bool false)], args := [d1, d2] }
  | _ => none }
def AccountFullWrongFalsely : Prop := accountFullRow.holds Tryd.pinned (OpenSpec.ofChange accountFullWrong)

/-- 'fairlinklaw50.AccountAudits': WHATEVER THE INPUT: true; the input reads as it did. -/
def accountAuditsSpec : ChangeSpec := { name := "accountAudits", fn := fun _ => fun
  | [d] => { results := [.lit (.bool true)], args := [d] }
  | _ => none }
def accountAuditsRow : OpenClaim := { program := "ytfgfcbncnngniaadoor", sum := "3eaec9231c8d1422fba742073377b5e51f968933eb480779653cadad662c9dd9", func := "fairlink/fairlinklaw50.AccountAudits", spec := "accountAudits", inPlace := ["internal/abi.NoEscape"], unfollowed := true, recurses := true, named := ["internal/strconv.uint64pow10", "math/bits.deBruijn32tab", "math/bits.deBruijn64tab"], apart := false, laid := [("math/bits.deBruijn32tab", laid_math_bits_deBruijn32tab), ("math/bits.deBruijn64tab", laid_math_bits_deBruijn64tab), ("internal/strconv.uint64pow10", laid_internal_strconv_uint64pow10)] }
def AccountAuditsSaid : Prop := accountAuditsRow.holds Tryd.pinned (OpenSpec.ofChange accountAuditsSpec)

/-- ITS FALSE NEIGHBOUR: 'it returns false'. Refute it at one input. -/
def accountAuditsWrong : ChangeSpec := { name := "accountAudits", fn := fun _ => fun
  | [d] => { results := [.lit (.bool false)], args := [d] }
  | _ => none }
def AccountAuditsWrongFalsely : Prop := accountAuditsRow.holds Tryd.pinned (OpenSpec.ofChange accountAuditsWrong)

/-- 'fairlinklaw50.AccountBooks': WHATEVER THE INPUT: true; the input reads as it did. -/
def accountBooksSpec : ChangeSpec := { name := "accountBooks", fn := fun _ => fun
  | [d] => { results := [.lit (.bool true)], args := [d] }
  | _ => none }
def accountBooksRow : OpenClaim := { program := "ytfgfcbncnngniaadoor", sum := "3eaec9231c8d1422fba742073377b5e51f968933eb480779653cadad662c9dd9", func := "fairlink/fairlinklaw50.AccountBooks", spec := "accountBooks", inPlace := ["internal/abi.NoEscape"], unfollowed := true, recurses := true, named := ["internal/strconv.uint64pow10", "math/bits.deBruijn32tab", "math/bits.deBruijn64tab"], apart := false, laid := [("math/bits.deBruijn32tab", laid_math_bits_deBruijn32tab), ("math/bits.deBruijn64tab", laid_math_bits_deBruijn64tab), ("internal/strconv.uint64pow10", laid_internal_strconv_uint64pow10)] }
def AccountBooksSaid : Prop := accountBooksRow.holds Tryd.pinned (OpenSpec.ofChange accountBooksSpec)

/-- ITS FALSE NEIGHBOUR: 'it returns false'. Refute it at one input. -/
def accountBooksWrong : ChangeSpec := { name := "accountBooks", fn := fun _ => fun
  | [d] => { results := [.lit (.bool false)], args := [d] }
  | _ => none }
def AccountBooksWrongFalsely : Prop := accountBooksRow.holds Tryd.pinned (OpenSpec.ofChange accountBooksWrong)

/-- 'fairlinklaw50.AccountNothing': WHATEVER THE INPUT: true; the input reads as it did. -/
def accountNothingSpec : ChangeSpec := { name := "accountNothing", fn := fun _ => fun
  | [d1, d2] => { results := [.lit (.bool true)], args := [d1, d2] }
  | _ => none }
def accountNothingRow : OpenClaim := { program := "ytfgfcbncnngniaadoor", sum := "3eaec9231c8d1422fba742073377b5e51f968933eb480779653cadad662c9dd9", func := "fairlink/fairlinklaw50.AccountNothing", spec := "accountNothing", inPlace := ["internal/abi.NoEscape"], unfollowed := true, recurses := true, named := ["internal/strconv.uint64pow10", "math/bits.deBruijn32tab", "math/bits.deBruijn64tab"], apart := false, laid := [("math/bits.deBruijn32tab", laid_math_bits_deBruijn32tab), ("math/bits.deBruijn64tab", laid_math_bits_deBruijn64tab), ("internal/strconv.uint64pow10", laid_internal_strconv_uint64pow10)] }
def AccountNothingSaid : Prop := accountNothingRow.holds Tryd.pinned (OpenSpec.ofChange accountNothingSpec)

/-- ITS FALSE NEIGHBOUR: 'it returns false'. Refute it at one input. -/
def accountNothingWrong : ChangeSpec := { name := "accountNothing", fn := fun _ => fun
  | [d1, d2] => { results := [.lit (.bool false)], args := [d1, d2] }
  | _ => none }
def AccountNothingWrongFalsely : Prop := accountNothingRow.holds Tryd.pinned (OpenSpec.ofChange accountNothingWrong)

/-- 'fairlinklaw50.AccountReports': WHATEVER THE INPUT: true; the input reads as it did. -/
def accountReportsSpec : ChangeSpec := { name := "accountReports", fn := fun _ => fun
  | [d] => { results := [.lit (.bool true)], args := [d] }
  | _ => none }
def accountReportsRow : OpenClaim := { program := "ytfgfcbncnngniaadoor", sum := "3eaec9231c8d1422fba742073377b5e51f968933eb480779653cadad662c9dd9", func := "fairlink/fairlinklaw50.AccountReports", spec := "accountReports", inPlace := ["internal/abi.NoEscape", "internal/bytealg.CountString", "internal/bytealg.IndexByteString", "internal/bytealg.IndexString"], unfollowed := true, recurses := true, named := ["internal/strconv.uint64pow10", "math/bits.deBruijn32tab", "math/bits.deBruijn64tab", "internal/bytealg.MaxLen"], apart := false, laid := [("math/bits.deBruijn32tab", laid_math_bits_deBruijn32tab), ("math/bits.deBruijn64tab", laid_math_bits_deBruijn64tab), ("internal/strconv.uint64pow10", laid_internal_strconv_uint64pow10)] }
def AccountReportsSaid : Prop := accountReportsRow.holds Tryd.pinned (OpenSpec.ofChange accountReportsSpec)

/-- ITS FALSE NEIGHBOUR: 'it returns false'. Refute it at one input. -/
def accountReportsWrong : ChangeSpec := { name := "accountReports", fn := fun _ => fun
  | [d] => { results := [.lit (.bool false)], args := [d] }
  | _ => none }
def AccountReportsWrongFalsely : Prop := accountReportsRow.holds Tryd.pinned (OpenSpec.ofChange accountReportsWrong)

/- THE SECOND FORM. 'bulk': how many values and letters a reading holds, each counted each time it is reached (what is shared counts as often as it is met; a slice's spare places count too). A statement '..UptoSaid' is the law's where the arguments, and the package variables that the reading takes, are together of bulk at most 1048576: NARROWER than '..Said'. Prove '..Said' where nothing that the law and all that it calls make is longer than what came in: it says more and counts as full. Else prove '..UptoSaid'. A law counts once. -/
mutual
def uptoBulk {H : Type} : DataW H → Nat
  | .lit (.string bytes) => bytes.length + 1
  | .lit _ => 1
  | .nil => 1
  | .ptr d => uptoBulk d + 1
  | .slice elems spare => uptoBulkAll elems + uptoBulkAll spare + 1
  | .agg parts => uptoBulkAll parts + 1
  | .iface _ d => uptoBulk d + 1
  | .map entries => uptoBulkEntries entries + 1
  | .held _ => 1
def uptoBulkAll {H : Type} : List (DataW H) → Nat
  | [] => 0
  | d :: r => uptoBulk d + uptoBulkAll r
def uptoBulkEntries {H : Type} : List (Lit × DataW H) → Nat
  | [] => 0
  | x :: r => uptoBulkEntry x + uptoBulkEntries r
def uptoBulkEntry {H : Type} : Lit × DataW H → Nat
  | (.string bytes, d) => bytes.length + uptoBulk d + 1
  | (_, d) => uptoBulk d + 1
 end
def uptoSmall : (H : Type) → List (DataW H) → Bool := fun _ ds => decide (uptoBulkAll ds ≤ 1048576)
def OpenSpec.upto (s : _root_.Go.ChangeSpec) : _root_.Go.OpenSpec := { _root_.Go.OpenSpec.ofChange s with cond := some uptoSmall }

/-- 'fairlinklaw50.AccountBalances', WHERE WHAT IT READS IS OF BULK AT MOST 1048576: true; the input reads as it did. -/
def accountBalancesUptoRow : OpenClaim := { program := "ytfgfcbncnngniaadoor", sum := "3eaec9231c8d1422fba742073377b5e51f968933eb480779653cadad662c9dd9", func := "fairlink/fairlinklaw50.AccountBalances", spec := "accountBalances", inPlace := ["internal/abi.NoEscape"], unfollowed := true, recurses := true, named := ["internal/strconv.uint64pow10", "math/bits.deBruijn32tab", "math/bits.deBruijn64tab"], apart := false, laid := [("math/bits.deBruijn32tab", laid_math_bits_deBruijn32tab), ("math/bits.deBruijn64tab", laid_math_bits_deBruijn64tab), ("internal/strconv.uint64pow10", laid_internal_strconv_uint64pow10)], narrowed := true }
def AccountBalancesUptoSaid : Prop := accountBalancesUptoRow.holds Tryd.pinned (OpenSpec.upto accountBalancesSpec)

/-- 'fairlinklaw50.AccountZero', WHERE WHAT IT READS IS OF BULK AT MOST 1048576: true; the input reads as it did. -/
def accountZeroUptoRow : OpenClaim := { program := "ytfgfcbncnngniaadoor", sum := "3eaec9231c8d1422fba742073377b5e51f968933eb480779653cadad662c9dd9", func := "fairlink/fairlinklaw50.AccountZero", spec := "accountZero", inPlace := ["internal/abi.NoEscape"], unfollowed := true, recurses := true, named := ["internal/strconv.uint64pow10", "math/bits.deBruijn32tab", "math/bits.deBruijn64tab"], apart := false, laid := [("math/bits.deBruijn32tab", laid_math_bits_deBruijn32tab), ("math/bits.deBruijn64tab", laid_math_bits_deBruijn64tab), ("internal/strconv.uint64pow10", laid_internal_strconv_uint64pow10)], narrowed := true }
def AccountZeroUptoSaid : Prop := accountZeroUptoRow.holds Tryd.pinned (OpenSpec.upto accountZeroSpec)

/-- 'fairlinklaw50.AccountFinal', WHERE WHAT IT READS IS OF BULK AT MOST 1048576: true; the input reads as it did. -/
def accountFinalUptoRow : OpenClaim := { program := "ytfgfcbncnngniaadoor", sum := "3eaec9231c8d1422fba742073377b5e51f968933eb480779653cadad662c9dd9", func := "fairlink/fairlinklaw50.AccountFinal", spec := "accountFinal", inPlace := ["internal/abi.NoEscape"], unfollowed := true, recurses := true, named := ["internal/strconv.uint64pow10", "math/bits.deBruijn32tab", "math/bits.deBruijn64tab"], apart := false, laid := [("math/bits.deBruijn32tab", laid_math_bits_deBruijn32tab), ("math/bits.deBruijn64tab", laid_math_bits_deBruijn64tab), ("internal/strconv.uint64pow10", laid_internal_strconv_uint64pow10)], narrowed := true }
def AccountFinalUptoSaid : Prop := accountFinalUptoRow.holds Tryd.pinned (OpenSpec.upto accountFinalSpec)

/-- 'fairlinklaw50.AccountApart', WHERE WHAT IT READS IS OF BULK AT MOST 1048576: true; the input reads as it did. -/
def accountApartUptoRow : OpenClaim := { program := "ytfgfcbncnngniaadoor", sum := "3eaec9231c8d1422fba742073377b5e51f968933eb480779653cadad662c9dd9", func := "fairlink/fairlinklaw50.AccountApart", spec := "accountApart", inPlace := ["internal/abi.NoEscape"], unfollowed := true, recurses := true, named := ["internal/strconv.uint64pow10", "math/bits.deBruijn32tab", "math/bits.deBruijn64tab"], apart := false, laid := [("math/bits.deBruijn32tab", laid_math_bits_deBruijn32tab), ("math/bits.deBruijn64tab", laid_math_bits_deBruijn64tab), ("internal/strconv.uint64pow10", laid_internal_strconv_uint64pow10)], narrowed := true }
def AccountApartUptoSaid : Prop := accountApartUptoRow.holds Tryd.pinned (OpenSpec.upto accountApartSpec)

/-- 'fairlinklaw50.AccountFull', WHERE WHAT IT READS IS OF BULK AT MOST 1048576: true; the input reads as it did. -/
def accountFullUptoRow : OpenClaim := { program := "ytfgfcbncnngniaadoor", sum := "3eaec9231c8d1422fba742073377b5e51f968933eb480779653cadad662c9dd9", func := "fairlink/fairlinklaw50.AccountFull", spec := "accountFull", inPlace := ["internal/abi.NoEscape"], unfollowed := true, recurses := true, named := ["internal/strconv.uint64pow10", "math/bits.deBruijn32tab", "math/bits.deBruijn64tab"], apart := false, laid := [("math/bits.deBruijn32tab", laid_math_bits_deBruijn32tab), ("math/bits.deBruijn64tab", laid_math_bits_deBruijn64tab), ("internal/strconv.uint64pow10", laid_internal_strconv_uint64pow10)], narrowed := true }
def AccountFullUptoSaid : Prop := accountFullUptoRow.holds Tryd.pinned (OpenSpec.upto accountFullSpec)

/-- 'fairlinklaw50.AccountAudits', WHERE WHAT IT READS IS OF BULK AT MOST 1048576: true; the input reads as it did. -/
def accountAuditsUptoRow : OpenClaim := { program := "ytfgfcbncnngniaadoor", sum := "3eaec9231c8d1422fba742073377b5e51f968933eb480779653cadad662c9dd9", func := "fairlink/fairlinklaw50.AccountAudits", spec := "accountAudits", inPlace := ["internal/abi.NoEscape"], unfollowed := true, recurses := true, named := ["internal/strconv.uint64pow10", "math/bits.deBruijn32tab", "math/bits.deBruijn64tab"], apart := false, laid := [("math/bits.deBruijn32tab", laid_math_bits_deBruijn32tab), ("math/bits.deBruijn64tab", laid_math_bits_deBruijn64tab), ("internal/strconv.uint64pow10", laid_internal_strconv_uint64pow10)], narrowed := true }
def AccountAuditsUptoSaid : Prop := accountAuditsUptoRow.holds Tryd.pinned (OpenSpec.upto accountAuditsSpec)

/-- 'fairlinklaw50.AccountBooks', WHERE WHAT IT READS IS OF BULK AT MOST 1048576: true; the input reads as it did. -/
def accountBooksUptoRow : OpenClaim := { program := "ytfgfcbncnngniaadoor", sum := "3eaec9231c8d1422fba742073377b5e51f968933eb480779653cadad662c9dd9", func := "fairlink/fairlinklaw50.AccountBooks", spec := "accountBooks", inPlace := ["internal/abi.NoEscape"], unfollowed := true, recurses := true, named := ["internal/strconv.uint64pow10", "math/bits.deBruijn32tab", "math/bits.deBruijn64tab"], apart := false, laid := [("math/bits.deBruijn32tab", laid_math_bits_deBruijn32tab), ("math/bits.deBruijn64tab", laid_math_bits_deBruijn64tab), ("internal/strconv.uint64pow10", laid_internal_strconv_uint64pow10)], narrowed := true }
def AccountBooksUptoSaid : Prop := accountBooksUptoRow.holds Tryd.pinned (OpenSpec.upto accountBooksSpec)

/-- 'fairlinklaw50.AccountNothing', WHERE WHAT IT READS IS OF BULK AT MOST 1048576: true; the input reads as it did. -/
def accountNothingUptoRow : OpenClaim := { program := "ytfgfcbncnngniaadoor", sum := "3eaec9231c8d1422fba742073377b5e51f968933eb480779653cadad662c9dd9", func := "fairlink/fairlinklaw50.AccountNothing", spec := "accountNothing", inPlace := ["internal/abi.NoEscape"], unfollowed := true, recurses := true, named := ["internal/strconv.uint64pow10", "math/bits.deBruijn32tab", "math/bits.deBruijn64tab"], apart := false, laid := [("math/bits.deBruijn32tab", laid_math_bits_deBruijn32tab), ("math/bits.deBruijn64tab", laid_math_bits_deBruijn64tab), ("internal/strconv.uint64pow10", laid_internal_strconv_uint64pow10)], narrowed := true }
def AccountNothingUptoSaid : Prop := accountNothingUptoRow.holds Tryd.pinned (OpenSpec.upto accountNothingSpec)

/-- 'fairlinklaw50.AccountReports', WHERE WHAT IT READS IS OF BULK AT MOST 1048576: true; the input reads as it did. -/
def accountReportsUptoRow : OpenClaim := { program := "ytfgfcbncnngniaadoor", sum := "3eaec9231c8d1422fba742073377b5e51f968933eb480779653cadad662c9dd9", func := "fairlink/fairlinklaw50.AccountReports", spec := "accountReports", inPlace := ["internal/abi.NoEscape", "internal/bytealg.CountString", "internal/bytealg.IndexByteString", "internal/bytealg.IndexString"], unfollowed := true, recurses := true, named := ["internal/strconv.uint64pow10", "math/bits.deBruijn32tab", "math/bits.deBruijn64tab", "internal/bytealg.MaxLen"], apart := false, laid := [("math/bits.deBruijn32tab", laid_math_bits_deBruijn32tab), ("math/bits.deBruijn64tab", laid_math_bits_deBruijn64tab), ("internal/strconv.uint64pow10", laid_internal_strconv_uint64pow10)], narrowed := true }
def AccountReportsUptoSaid : Prop := accountReportsUptoRow.holds Tryd.pinned (OpenSpec.upto accountReportsSpec)

end Rows
end Go.Proofs.YtfgfcbncnngniaaDoor
