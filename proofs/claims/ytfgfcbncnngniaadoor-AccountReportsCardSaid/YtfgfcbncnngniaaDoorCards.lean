/-
  DERIVED. GIVEN WITH THE SEED: THE CARDS: each row of YtfgfcbncnngniaaDoorRows.lean that lists a variable, with what it lists TIED to the program's text (the seventh form; the later family's looks); each row that meets fmt, with fmt's text TOLD by the authors' own Lean function (tested against real Go, not proved from fmt's source: count such statements apart). THE CARD IS WHAT COUNTS. Prove the row's statement (the work); the ties are given (YtfgfcbncnngniaaDoorTie.lean); close each card by the builder's one call (the guide's Derived/Test/ToyasCard.lean, 'card_holds'). Laid BY PROGRAM, IN A SANDBOX (cutbox-door.mjs). By AI agents, Wed Nov 11 2026. No macro, syntax, notation, axiom, sorry.
-/
import Derived.Test.YtfgfcbncnngniaaDoorRows
import GoSem.ClaimSeven
namespace Go.Proofs.YtfgfcbncnngniaaDoor
namespace Rows

/-- THE TIED CARD OF 'fairlinklaw50.AccountBalances'. -/
def accountBalancesCard : Claim7 := { stood := { row := accountBalancesRow, standIns := [], harness := (true, "09301d7c411a8122753983f1d4cb1761b22ea0c29aaa35d779586d1fc574ed94"), looks := false }, kinds := [], alts := [], laidByText := true, laidKinds := [.data, .data, .data], laidTests := true, laidLooks := .later }
def AccountBalancesCardSaid : Prop := Claim7.holds Tryd.pinned (.plain (OpenSpec.ofChange accountBalancesSpec)) accountBalancesCard

/-- THE TIED CARD OF 'fairlinklaw50.AccountZero'. -/
def accountZeroCard : Claim7 := { stood := { row := accountZeroRow, standIns := [], harness := (true, "09301d7c411a8122753983f1d4cb1761b22ea0c29aaa35d779586d1fc574ed94"), looks := false }, kinds := [], alts := [], laidByText := true, laidKinds := [.data, .data, .data], laidTests := true, laidLooks := .later }
def AccountZeroCardSaid : Prop := Claim7.holds Tryd.pinned (.plain (OpenSpec.ofChange accountZeroSpec)) accountZeroCard

/-- THE TIED CARD OF 'fairlinklaw50.AccountFinal'. -/
def accountFinalCard : Claim7 := { stood := { row := accountFinalRow, standIns := [], harness := (true, "09301d7c411a8122753983f1d4cb1761b22ea0c29aaa35d779586d1fc574ed94"), looks := false }, kinds := [], alts := [], laidByText := true, laidKinds := [.data, .data, .data], laidTests := true, laidLooks := .later }
def AccountFinalCardSaid : Prop := Claim7.holds Tryd.pinned (.plain (OpenSpec.ofChange accountFinalSpec)) accountFinalCard

/-- THE TIED CARD OF 'fairlinklaw50.AccountApart'. -/
def accountApartCard : Claim7 := { stood := { row := accountApartRow, standIns := [], harness := (true, "09301d7c411a8122753983f1d4cb1761b22ea0c29aaa35d779586d1fc574ed94"), looks := false }, kinds := [], alts := [], laidByText := true, laidKinds := [.data, .data, .data], laidTests := true, laidLooks := .later }
def AccountApartCardSaid : Prop := Claim7.holds Tryd.pinned (.plain (OpenSpec.ofChange accountApartSpec)) accountApartCard

/-- THE TIED CARD OF 'fairlinklaw50.AccountFull'. -/
def accountFullCard : Claim7 := { stood := { row := accountFullRow, standIns := [], harness := (true, "09301d7c411a8122753983f1d4cb1761b22ea0c29aaa35d779586d1fc574ed94"), looks := false }, kinds := [], alts := [], laidByText := true, laidKinds := [.data, .data, .data], laidTests := true, laidLooks := .later }
def AccountFullCardSaid : Prop := Claim7.holds Tryd.pinned (.plain (OpenSpec.ofChange accountFullSpec)) accountFullCard

/-- THE TIED CARD OF 'fairlinklaw50.AccountAudits'. -/
def accountAuditsCard : Claim7 := { stood := { row := accountAuditsRow, standIns := [], harness := (true, "09301d7c411a8122753983f1d4cb1761b22ea0c29aaa35d779586d1fc574ed94"), looks := false }, kinds := [], alts := [], laidByText := true, laidKinds := [.data, .data, .data], laidTests := true, laidLooks := .later }
def AccountAuditsCardSaid : Prop := Claim7.holds Tryd.pinned (.plain (OpenSpec.ofChange accountAuditsSpec)) accountAuditsCard

/-- THE TIED CARD OF 'fairlinklaw50.AccountBooks'. -/
def accountBooksCard : Claim7 := { stood := { row := accountBooksRow, standIns := [], harness := (true, "09301d7c411a8122753983f1d4cb1761b22ea0c29aaa35d779586d1fc574ed94"), looks := false }, kinds := [], alts := [], laidByText := true, laidKinds := [.data, .data, .data], laidTests := true, laidLooks := .later }
def AccountBooksCardSaid : Prop := Claim7.holds Tryd.pinned (.plain (OpenSpec.ofChange accountBooksSpec)) accountBooksCard

/-- THE TIED CARD OF 'fairlinklaw50.AccountNothing'. -/
def accountNothingCard : Claim7 := { stood := { row := accountNothingRow, standIns := [], harness := (true, "09301d7c411a8122753983f1d4cb1761b22ea0c29aaa35d779586d1fc574ed94"), looks := false }, kinds := [], alts := [], laidByText := true, laidKinds := [.data, .data, .data], laidTests := true, laidLooks := .later }
def AccountNothingCardSaid : Prop := Claim7.holds Tryd.pinned (.plain (OpenSpec.ofChange accountNothingSpec)) accountNothingCard

/-- THE TIED CARD OF 'fairlinklaw50.AccountReports'. -/
def accountReportsCard : Claim7 := { stood := { row := accountReportsRow, standIns := [], harness := (true, "09301d7c411a8122753983f1d4cb1761b22ea0c29aaa35d779586d1fc574ed94"), looks := false }, kinds := [], alts := [], laidByText := true, laidKinds := [.data, .data, .data], laidTests := true, laidLooks := .later }
def AccountReportsCardSaid : Prop := Claim7.holds Tryd.pinned (.plain (OpenSpec.ofChange accountReportsSpec)) accountReportsCard

/-- THE SECOND FORM's CARD OF 'fairlinklaw50.AccountBalances'. -/
def accountBalancesUptoCard : Claim7 := { stood := { row := accountBalancesUptoRow, standIns := [], harness := (true, "09301d7c411a8122753983f1d4cb1761b22ea0c29aaa35d779586d1fc574ed94"), looks := false }, kinds := [], alts := [], laidByText := true, laidKinds := [.data, .data, .data], laidTests := true, laidLooks := .later }
def AccountBalancesUptoCardSaid : Prop := Claim7.holds Tryd.pinned (.plain (OpenSpec.upto accountBalancesSpec)) accountBalancesUptoCard

/-- THE SECOND FORM's CARD OF 'fairlinklaw50.AccountZero'. -/
def accountZeroUptoCard : Claim7 := { stood := { row := accountZeroUptoRow, standIns := [], harness := (true, "09301d7c411a8122753983f1d4cb1761b22ea0c29aaa35d779586d1fc574ed94"), looks := false }, kinds := [], alts := [], laidByText := true, laidKinds := [.data, .data, .data], laidTests := true, laidLooks := .later }
def AccountZeroUptoCardSaid : Prop := Claim7.holds Tryd.pinned (.plain (OpenSpec.upto accountZeroSpec)) accountZeroUptoCard

/-- THE SECOND FORM's CARD OF 'fairlinklaw50.AccountFinal'. -/
def accountFinalUptoCard : Claim7 := { stood := { row := accountFinalUptoRow, standIns := [], harness := (true, "09301d7c411a8122753983f1d4cb1761b22ea0c29aaa35d779586d1fc574ed94"), looks := false }, kinds := [], alts := [], laidByText := true, laidKinds := [.data, .data, .data], laidTests := true, laidLooks := .later }
def AccountFinalUptoCardSaid : Prop := Claim7.holds Tryd.pinned (.plain (OpenSpec.upto accountFinalSpec)) accountFinalUptoCard

/-- THE SECOND FORM's CARD OF 'fairlinklaw50.AccountApart'. -/
def accountApartUptoCard : Claim7 := { stood := { row := accountApartUptoRow, standIns := [], harness := (true, "09301d7c411a8122753983f1d4cb1761b22ea0c29aaa35d779586d1fc574ed94"), looks := false }, kinds := [], alts := [], laidByText := true, laidKinds := [.data, .data, .data], laidTests := true, laidLooks := .later }
def AccountApartUptoCardSaid : Prop := Claim7.holds Tryd.pinned (.plain (OpenSpec.upto accountApartSpec)) accountApartUptoCard

/-- THE SECOND FORM's CARD OF 'fairlinklaw50.AccountFull'. -/
def accountFullUptoCard : Claim7 := { stood := { row := accountFullUptoRow, standIns := [], harness := (true, "09301d7c411a8122753983f1d4cb1761b22ea0c29aaa35d779586d1fc574ed94"), looks := false }, kinds := [], alts := [], laidByText := true, laidKinds := [.data, .data, .data], laidTests := true, laidLooks := .later }
def AccountFullUptoCardSaid : Prop := Claim7.holds Tryd.pinned (.plain (OpenSpec.upto accountFullSpec)) accountFullUptoCard

/-- THE SECOND FORM's CARD OF 'fairlinklaw50.AccountAudits'. -/
def accountAuditsUptoCard : Claim7 := { stood := { row := accountAuditsUptoRow, standIns := [], harness := (true, "09301d7c411a8122753983f1d4cb1761b22ea0c29aaa35d779586d1fc574ed94"), looks := false }, kinds := [], alts := [], laidByText := true, laidKinds := [.data, .data, .data], laidTests := true, laidLooks := .later }
def AccountAuditsUptoCardSaid : Prop := Claim7.holds Tryd.pinned (.plain (OpenSpec.upto accountAuditsSpec)) accountAuditsUptoCard

/-- THE SECOND FORM's CARD OF 'fairlinklaw50.AccountBooks'. -/
def accountBooksUptoCard : Claim7 := { stood := { row := accountBooksUptoRow, standIns := [], harness := (true, "09301d7c411a8122753983f1d4cb1761b22ea0c29aaa35d779586d1fc574ed94"), looks := false }, kinds := [], alts := [], laidByText := true, laidKinds := [.data, .data, .data], laidTests := true, laidLooks := .later }
def AccountBooksUptoCardSaid : Prop := Claim7.holds Tryd.pinned (.plain (OpenSpec.upto accountBooksSpec)) accountBooksUptoCard

/-- THE SECOND FORM's CARD OF 'fairlinklaw50.AccountNothing'. -/
def accountNothingUptoCard : Claim7 := { stood := { row := accountNothingUptoRow, standIns := [], harness := (true, "09301d7c411a8122753983f1d4cb1761b22ea0c29aaa35d779586d1fc574ed94"), looks := false }, kinds := [], alts := [], laidByText := true, laidKinds := [.data, .data, .data], laidTests := true, laidLooks := .later }
def AccountNothingUptoCardSaid : Prop := Claim7.holds Tryd.pinned (.plain (OpenSpec.upto accountNothingSpec)) accountNothingUptoCard

/-- THE SECOND FORM's CARD OF 'fairlinklaw50.AccountReports'. -/
def accountReportsUptoCard : Claim7 := { stood := { row := accountReportsUptoRow, standIns := [], harness := (true, "09301d7c411a8122753983f1d4cb1761b22ea0c29aaa35d779586d1fc574ed94"), looks := false }, kinds := [], alts := [], laidByText := true, laidKinds := [.data, .data, .data], laidTests := true, laidLooks := .later }
def AccountReportsUptoCardSaid : Prop := Claim7.holds Tryd.pinned (.plain (OpenSpec.upto accountReportsSpec)) accountReportsUptoCard
end Rows
end Go.Proofs.YtfgfcbncnngniaaDoor
