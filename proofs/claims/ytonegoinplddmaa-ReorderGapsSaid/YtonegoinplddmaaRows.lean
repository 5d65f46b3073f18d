/-
  No cell of these rows narrows 'for every input' (looked for: loops, veiled, ifaces, maps, wideKeys, modest, calm, conditions, laid).
  DERIVED. THE GIVEN ROWS OF THIS SEAT. 8 by the template 'for every input the law returns true; each argument reads behind the call as it read before'; 0 by the template 'total and deterministic' (their statements: YtonegoinplddmaaTotals.lean).
  GIVEN WITH THE SEED: the statements are not yours to turn. If you find one false, say at which input.
  Laid BY PROGRAM, IN A SANDBOX (cutbox-rows.mjs): the forced cells as the released guide's own fill.sh prints them over the translation 14d3715fcfbe186c… (all of the seat's roots in one cut). By AI agents, Wed Nov 11 2026. No macro, syntax, notation, axiom, sorry.
-/
import Derived.Test.YtonegoinplddmaaChecked
import GoSem.Claim
import GoSem.ClaimJoined
import GoSem.ClaimMapViews
import Derived.JoinedTies
import Derived.KernelRfl
namespace Go.Proofs.Ytonegoinplddmaa
/- THE CELL 'sum', in the pinned program and in every row, IS THE sha256 OF THE DUMP (.gsa) THAT YtonegoinplddmaaProg.lean LOADS. Nothing in Lean hashes anything: it is a label: what it is worth is what the hold of that sum in a sandbox is worth. -/
noncomputable def Try.pinned : Pinned := { name := "ytonegoinplddmaa", sum := "14d3715fcfbe186c5159472c1b891db8b26283da877240f4de24e418ae64b742", checked := Try.checked }
namespace Rows
def none {H : Type} : Left H := { results := [], args := [] }

/-- 'fairlinklaw43.ReorderGaps': WHATEVER THE INPUT: true; the input reads as it did. -/
def reorderGapsSpec : ChangeSpec := { name := "reorderGaps", fn := fun _ => fun
  | [d1, d2] => { results := [.lit (.bool true)], args := [d1, d2] }
  | _ => none }
def reorderGapsRow : OpenClaim := { program := "ytonegoinplddmaa", sum := "14d3715fcfbe186c5159472c1b891db8b26283da877240f4de24e418ae64b742", func := "fairlink/fairlinklaw43.ReorderGaps", spec := "reorderGaps", unfollowed := true, recurses := true, apart := false }
def ReorderGapsSaid : Prop := reorderGapsRow.holds Try.pinned (OpenSpec.ofChange reorderGapsSpec)

/-- ITS FALSE NEIGHBOUR: 'it returns false'. Refute it at one input. -/
def reorderGapsWrong : ChangeSpec := { name := "reorderGaps", fn := fun _ => fun
  | [d1, d2] => { results := [.lit (.bool false)], args := [d1, d2] }
  | _ => none }
def ReorderGapsWrongFalsely : Prop := reorderGapsRow.holds Try.pinned (OpenSpec.ofChange reorderGapsWrong)

/-- 'fairlinklaw43.ReorderPrefix': WHATEVER THE INPUT: true; the input reads as it did. -/
def reorderPrefixSpec : ChangeSpec := { name := "reorderPrefix", fn := fun _ => fun
  | [d1, d2, d3, d4] => { results := [.lit (.bool true)], args := [d1, d2, d3, d4] }
  | _ => none }
def reorderPrefixRow : OpenClaim := { program := "ytonegoinplddmaa", sum := "14d3715fcfbe186c5159472c1b891db8b26283da877240f4de24e418ae64b742", func := "fairlink/fairlinklaw43.ReorderPrefix", spec := "reorderPrefix", unfollowed := true, recurses := true, apart := false }
def ReorderPrefixSaid : Prop := reorderPrefixRow.holds Try.pinned (OpenSpec.ofChange reorderPrefixSpec)

/-- ITS FALSE NEIGHBOUR: 'it returns false'. Refute it at one input. -/
def reorderPrefixWrong : ChangeSpec := { name := "reorderPrefix", fn := fun _ => fun
  | [d1, d2, d3, d4] => { results := [.lit (.bool false)], args := [d1, d2, d3, d4] }
  | _ => none }
def ReorderPrefixWrongFalsely : Prop := reorderPrefixRow.holds Try.pinned (OpenSpec.ofChange reorderPrefixWrong)

/-- 'fairlinklaw43.ReorderOrder': WHATEVER THE INPUT: true; the input reads as it did. -/
def reorderOrderSpec : ChangeSpec := { name := "reorderOrder", fn := fun _ => fun
  | [d1, d2, d3] => { results := [.lit (.bool true)], args := [d1, d2, d3] }
  | _ => none }
def reorderOrderRow : OpenClaim := { program := "ytonegoinplddmaa", sum := "14d3715fcfbe186c5159472c1b891db8b26283da877240f4de24e418ae64b742", func := "fairlink/fairlinklaw43.ReorderOrder", spec := "reorderOrder", unfollowed := true, recurses := true, apart := false }
def ReorderOrderSaid : Prop := reorderOrderRow.holds Try.pinned (OpenSpec.ofChange reorderOrderSpec)

/-- ITS FALSE NEIGHBOUR: 'it returns false'. Refute it at one input. -/
def reorderOrderWrong : ChangeSpec := { name := "reorderOrder", fn := fun _ => fun
  | [d1, d2, d3] => { results := [.lit (.bool false)], args := [d1, d2, d3] }
  | _ => none }
def ReorderOrderWrongFalsely : Prop := reorderOrderRow.holds Try.pinned (OpenSpec.ofChange reorderOrderWrong)

/-- 'fairlinklaw43.ReorderWhole': WHATEVER THE INPUT: true; the input reads as it did. -/
def reorderWholeSpec : ChangeSpec := { name := "reorderWhole", fn := fun _ => fun
  | [d1, d2, d3] => { results := [.lit (.bool true)], args := [d1, d2, d3] }
  | _ => none }
def reorderWholeRow : OpenClaim := { program := "ytonegoinplddmaa", sum := "14d3715fcfbe186c5159472c1b891db8b26283da877240f4de24e418ae64b742", func := "fairlink/fairlinklaw43.ReorderWhole", spec := "reorderWhole", unfollowed := true, recurses := true, apart := false }
def ReorderWholeSaid : Prop := reorderWholeRow.holds Try.pinned (OpenSpec.ofChange reorderWholeSpec)

/-- ITS FALSE NEIGHBOUR: 'it returns false'. Refute it at one input. -/
def reorderWholeWrong : ChangeSpec := { name := "reorderWhole", fn := fun _ => fun
  | [d1, d2, d3] => { results := [.lit (.bool false)], args := [d1, d2, d3] }
  | _ => none }
def ReorderWholeWrongFalsely : Prop := reorderWholeRow.holds Try.pinned (OpenSpec.ofChange reorderWholeWrong)

/-- 'fairlinklaw43.ReorderWindow': WHATEVER THE INPUT: true; the input reads as it did. -/
def reorderWindowSpec : ChangeSpec := { name := "reorderWindow", fn := fun _ => fun
  | [d1, d2] => { results := [.lit (.bool true)], args := [d1, d2] }
  | _ => none }
def reorderWindowRow : OpenClaim := { program := "ytonegoinplddmaa", sum := "14d3715fcfbe186c5159472c1b891db8b26283da877240f4de24e418ae64b742", func := "fairlink/fairlinklaw43.ReorderWindow", spec := "reorderWindow", unfollowed := true, recurses := true, apart := false }
def ReorderWindowSaid : Prop := reorderWindowRow.holds Try.pinned (OpenSpec.ofChange reorderWindowSpec)

/-- ITS FALSE NEIGHBOUR: 'it returns false'. Refute it at one input. -/
def reorderWindowWrong : ChangeSpec := { name := "reorderWindow", fn := fun _ => fun
  | [d1, d2] => { results := [.lit (.bool false)], args := [d1, d2] }
  | _ => none }
def ReorderWindowWrongFalsely : Prop := reorderWindowRow.holds Try.pinned (OpenSpec.ofChange reorderWindowWrong)

/-- 'fairlinklaw43.ReorderAgain': WHATEVER THE INPUT: true; the input reads as it did. -/
def reorderAgainSpec : ChangeSpec := { name := "reorderAgain", fn := fun _ => fun
  | [d1, d2] => { results := [.lit (.bool true)], args := [d1, d2] }
  | _ => none }
def reorderAgainRow : OpenClaim := { program := "ytonegoinplddmaa", sum := "14d3715fcfbe186c5159472c1b891db8b26283da877240f4de24e418ae64b742", func := "fairlink/fairlinklaw43.ReorderAgain", spec := "reorderAgain", unfollowed := true, recurses := true, apart := false }
def ReorderAgainSaid : Prop := reorderAgainRow.holds Try.pinned (OpenSpec.ofChange reorderAgainSpec)

/-- ITS FALSE NEIGHBOUR: 'it returns false'. Refute it at one input. -/
def reorderAgainWrong : ChangeSpec := { name := "reorderAgain", fn := fun _ => fun
  | [d1, d2] => { results := [.lit (.bool false)], args := [d1, d2] }
  | _ => none }
def ReorderAgainWrongFalsely : Prop := reorderAgainRow.holds Try.pinned (OpenSpec.ofChange reorderAgainWrong)

/-- 'fairlinklaw43.ReorderRefuses': WHATEVER THE INPUT: true; the input reads as it did. -/
def reorderRefusesSpec : ChangeSpec := { name := "reorderRefuses", fn := fun _ => fun
  | [d1, d2] => { results := [.lit (.bool true)], args := [d1, d2] }
  | _ => none }
def reorderRefusesRow : OpenClaim := { program := "ytonegoinplddmaa", sum := "14d3715fcfbe186c5159472c1b891db8b26283da877240f4de24e418ae64b742", func := "fairlink/fairlinklaw43.ReorderRefuses", spec := "reorderRefuses", unfollowed := true, recurses := true, apart := false }
def ReorderRefusesSaid : Prop := reorderRefusesRow.holds Try.pinned (OpenSpec.ofChange reorderRefusesSpec)

/-- ITS FALSE NEIGHBOUR: 'it returns false'. Refute it at one input. -/
def reorderRefusesWrong : ChangeSpec := { name := "reorderRefuses", fn := fun _ => fun
  | [d1, d2] => { results := [.lit (.bool false)], args := [d1, d2] }
  | _ => none }
def ReorderRefusesWrongFalsely : Prop := reorderRefusesRow.holds Try.pinned (OpenSpec.ofChange reorderRefusesWrong)

/-- 'fairlinklaw43.ReorderCalls': WHATEVER THE INPUT: true; the input reads as it did. -/
def reorderCallsSpec : ChangeSpec := { name := "reorderCalls", fn := fun _ => fun
  | [d1, d2] => { results := [.lit (.bool true)], args := [d1, d2] }
  | _ => none }
def reorderCallsRow : OpenClaim := { program := "ytonegoinplddmaa", sum := "14d3715fcfbe186c5159472c1b891db8b26283da877240f4de24e418ae64b742", func := "fairlink/fairlinklaw43.ReorderCalls", spec := "reorderCalls", unfollowed := true, recurses := true, apart := false }
def ReorderCallsSaid : Prop := reorderCallsRow.holds Try.pinned (OpenSpec.ofChange reorderCallsSpec)

/-- ITS FALSE NEIGHBOUR: 'it returns false'. Refute it at one input. -/
def reorderCallsWrong : ChangeSpec := { name := "reorderCalls", fn := fun _ => fun
  | [d1, d2] => { results := [.lit (.bool false)], args := [d1, d2] }
  | _ => none }
def ReorderCallsWrongFalsely : Prop := reorderCallsRow.holds Try.pinned (OpenSpec.ofChange reorderCallsWrong)

/- THE SECOND FORM. 'bulk': how many values and letters a reading holds, each counted each time it is reached (what is shared counts as often as it is met; a slice's spare places count too). A statement '..UptoSaid' is the law's where the arguments, and the package variables that the reading takes, are together of bulk at most 1048576: NARROWER than '..Said'. Prove '..Said' where nothing that the law and all that it calls make is longer than what came in: it says more and counts as full. Else prove '..UptoSaid'. A law counts once. -/
mutual
def uptoBulk {H : Type} : DataW H → Nat
  | .lit (.string bytes) => bytes.length + 1
  | .lit _ => 1
  | .nil => 1
  | .ptr d => uptoBulk d + 1
  | .slice elems spare => uptoBulkAll elems + uptoBulkAll spare + 1
  | .agg parts => uptoBulkAll parts + 1
  | .iface _ d => uptoBulk d + 1
  | .map entries => uptoBulkEntries entries + 1
  | .held _ => 1
def uptoBulkAll {H : Type} : List (DataW H) → Nat
  | [] => 0
  | d :: r => uptoBulk d + uptoBulkAll r
def uptoBulkEntries {H : Type} : List (Lit × DataW H) → Nat
  | [] => 0
  | x :: r => uptoBulkEntry x + uptoBulkEntries r
def uptoBulkEntry {H : Type} : Lit × DataW H → Nat
  | (.string bytes, d) => bytes.length + uptoBulk d + 1
  | (_, d) => uptoBulk d + 1
 end
def uptoSmall : (H : Type) → List (DataW H) → Bool := fun _ ds => decide (uptoBulkAll ds ≤ 1048576)
def OpenSpec.upto (s : _root_.Go.ChangeSpec) : _root_.Go.OpenSpec := { _root_.Go.OpenSpec.ofChange s with cond := some uptoSmall }

/-- 'fairlinklaw43.ReorderGaps', WHERE WHAT IT READS IS OF BULK AT MOST 1048576: true; the input reads as it did. -/
def reorderGapsUptoRow : OpenClaim := { program := "ytonegoinplddmaa", sum := "14d3715fcfbe186c5159472c1b891db8b26283da877240f4de24e418ae64b742", func := "fairlink/fairlinklaw43.ReorderGaps", spec := "reorderGaps", unfollowed := true, recurses := true, apart := false, narrowed := true }
def ReorderGapsUptoSaid : Prop := reorderGapsUptoRow.holds Try.pinned (OpenSpec.upto reorderGapsSpec)

/-- 'fairlinklaw43.ReorderPrefix', WHERE WHAT IT READS IS OF BULK AT MOST 1048576: true; the input reads as it did. -/
def reorderPrefixUptoRow : OpenClaim := { program := "ytonegoinplddmaa", sum := "14d3715fcfbe186c5159472c1b891db8b26283da877240f4de24e418ae64b742", func := "fairlink/fairlinklaw43.ReorderPrefix", spec := "reorderPrefix", unfollowed := true, recurses := true, apart := false, narrowed := true }
def ReorderPrefixUptoSaid : Prop := reorderPrefixUptoRow.holds Try.pinned (OpenSpec.upto reorderPrefixSpec)

/-- 'fairlinklaw43.ReorderOrder', WHERE WHAT IT READS IS OF BULK AT MOST 1048576: true; the input reads as it did. -/
def reorderOrderUptoRow : OpenClaim := { program := "ytonegoinplddmaa", sum := "14d3715fcfbe186c5159472c1b891db8b26283da877240f4de24e418ae64b742", func := "fairlink/fairlinklaw43.ReorderOrder", spec := "reorderOrder", unfollowed := true, recurses := true, apart := false, narrowed := true }
def ReorderOrderUptoSaid : Prop := reorderOrderUptoRow.holds Try.pinned (OpenSpec.upto reorderOrderSpec)

/-- 'fairlinklaw43.ReorderWhole', WHERE WHAT IT READS IS OF BULK AT MOST 1048576: true; the input reads as it did. -/
def reorderWholeUptoRow : OpenClaim := { program := "ytonegoinplddmaa", sum := "14d3715fcfbe186c5159472c1b891db8b26283da877240f4de24e418ae64b742", func := "fairlink/fairlinklaw43.ReorderWhole", spec := "reorderWhole", unfollowed := true, recurses := true, apart := false, narrowed := true }
def ReorderWholeUptoSaid : Prop := reorderWholeUptoRow.holds Try.pinned (OpenSpec.upto reorderWholeSpec)

/-- 'fairlinklaw43.ReorderWindow', WHERE WHAT IT READS IS OF BULK AT MOST 1048576: true; the input reads as it did. -/
def reorderWindowUptoRow : OpenClaim := { program := "ytonegoinplddmaa", sum := "14d3715fcfbe186c5159472c1b891db8b26283da877240f4de24e418ae64b742", func := "fairlink/fairlinklaw43.ReorderWindow", spec := "reorderWindow", unfollowed := true, recurses := true, apart := false, narrowed := true }
def ReorderWindowUptoSaid : Prop := reorderWindowUptoRow.holds Try.pinned (OpenSpec.upto reorderWindowSpec)

/-- 'fairlinklaw43.ReorderAgain', WHERE WHAT IT READS IS OF BULK AT MOST 1048576: true; the input reads as it did. -/
def reorderAgainUptoRow : OpenClaim := { program := "ytonegoinplddmaa", sum := "14d3715fcfbe186c5159472c1b891db8b26283da877240f4de24e418ae64b742", func := "fairlink/fairlinklaw43.ReorderAgain", spec := "reorderAgain", unfollowed := true, recurses := true, apart := false, narrowed := true }
def ReorderAgainUptoSaid : Prop := reorderAgainUptoRow.holds Try.pinned (OpenSpec.upto reorderAgainSpec)

/-- 'fairlinklaw43.ReorderRefuses', WHERE WHAT IT READS IS OF BULK AT MOST 1048576: true; the input reads as it did. -/
def reorderRefusesUptoRow : OpenClaim := { program := "ytonegoinplddmaa", sum := "14d3715fcfbe186c5159472c1b891db8b26283da877240f4de24e418ae64b742", func := "fairlink/fairlinklaw43.ReorderRefuses", spec := "reorderRefuses", unfollowed := true, recurses := true, apart := false, narrowed := true }
def ReorderRefusesUptoSaid : Prop := reorderRefusesUptoRow.holds Try.pinned (OpenSpec.upto reorderRefusesSpec)

/-- 'fairlinklaw43.ReorderCalls', WHERE WHAT IT READS IS OF BULK AT MOST 1048576: true; the input reads as it did. -/
def reorderCallsUptoRow : OpenClaim := { program := "ytonegoinplddmaa", sum := "14d3715fcfbe186c5159472c1b891db8b26283da877240f4de24e418ae64b742", func := "fairlink/fairlinklaw43.ReorderCalls", spec := "reorderCalls", unfollowed := true, recurses := true, apart := false, narrowed := true }
def ReorderCallsUptoSaid : Prop := reorderCallsUptoRow.holds Try.pinned (OpenSpec.upto reorderCallsSpec)

end Rows
end Go.Proofs.Ytonegoinplddmaa
