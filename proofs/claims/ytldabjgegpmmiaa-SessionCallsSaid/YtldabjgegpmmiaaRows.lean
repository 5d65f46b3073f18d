/-
  No cell of these rows narrows 'for every input' (looked for: loops, veiled, ifaces, maps, wideKeys, modest, calm, conditions, laid).
  DERIVED. THE GIVEN ROWS OF THIS SEAT. 8 by the template 'for every input the law returns true; each argument reads behind the call as it read before'; 0 by the template 'total and deterministic' (their statements: YtldabjgegpmmiaaTotals.lean).
  GIVEN WITH THE SEED: the statements are not yours to turn. If you find one false, say at which input.
  Laid BY PROGRAM, IN A SANDBOX (cutbox-rows.mjs): the forced cells as the released guide's own fill.sh prints them over the translation 0f513ff1e7e11590… (all of the seat's roots in one cut). By AI agents, Wed Nov 11 2026. No macro, syntax, notation, axiom, sorry.
-/
import Derived.Test.YtldabjgegpmmiaaChecked
import GoSem.Claim
import GoSem.ClaimJoined
import GoSem.ClaimMapViews
import Derived.JoinedTies
import Derived.KernelRfl
namespace Go.Proofs.Ytldabjgegpmmiaa
/- THE CELL 'sum', in the pinned program and in every row, IS THE sha256 OF THE DUMP (.gsa) THAT YtldabjgegpmmiaaProg.lean LOADS. Nothing in Lean hashes anything: it is a label: what it is worth is what the hold of that sum in a sandbox is worth. -/
noncomputable def Try.pinned : Pinned := { name := "ytldabjgegpmmiaa", sum := "0f513ff1e7e1159019c3d1bd89256cf8f3513f45120feb18f85f68542ab18595", checked := Try.checked }
namespace Rows
def none {H : Type} : Left H := { results := [], args := [] }

/-- 'fairlinklaw47.SessionCross': WHATEVER THE INPUT: true; the input reads as it did. -/
def sessionCrossSpec : ChangeSpec := { name := "sessionCross", fn := fun _ => fun
  | [d1, d2] => { results := [.lit (.bool true)], args := [d1, d2] }
  | _ => none }
def sessionCrossRow : OpenClaim := { program := "ytldabjgegpmmiaa", sum := "0f513ff1e7e1159019c3d1bd89256cf8f3513f45120feb18f85f68542ab18595", func := "fairlink/fairlinklaw47.SessionCross", spec := "sessionCross", unfollowed := true, recurses := true, apart := false }
def SessionCrossSaid : Prop := sessionCrossRow.holds Try.pinned (OpenSpec.ofChange sessionCrossSpec)

/-- ITS FALSE NEIGHBOUR: 'it returns false'. Refute it at one input. -/
def sessionCrossWrong : ChangeSpec := { name := "sessionCross", fn := fun _ => fun
  | [d1, d2] => { results := [.lit (.bool false)], args := [d1, d2] }
  | _ => none }
def SessionCrossWrongFalsely : Prop := sessionCrossRow.holds Try.pinned (OpenSpec.ofChange sessionCrossWrong)

/-- 'fairlinklaw47.SessionResets': WHATEVER THE INPUT: true; the input reads as it did. -/
def sessionResetsSpec : ChangeSpec := { name := "sessionResets", fn := fun _ => fun
  | [d1, d2] => { results := [.lit (.bool true)], args := [d1, d2] }
  | _ => none }
def sessionResetsRow : OpenClaim := { program := "ytldabjgegpmmiaa", sum := "0f513ff1e7e1159019c3d1bd89256cf8f3513f45120feb18f85f68542ab18595", func := "fairlink/fairlinklaw47.SessionResets", spec := "sessionResets", unfollowed := true, recurses := true, apart := false }
def SessionResetsSaid : Prop := sessionResetsRow.holds Try.pinned (OpenSpec.ofChange sessionResetsSpec)

/-- ITS FALSE NEIGHBOUR: 'it returns false'. Refute it at one input. -/
def sessionResetsWrong : ChangeSpec := { name := "sessionResets", fn := fun _ => fun
  | [d1, d2] => { results := [.lit (.bool false)], args := [d1, d2] }
  | _ => none }
def SessionResetsWrongFalsely : Prop := sessionResetsRow.holds Try.pinned (OpenSpec.ofChange sessionResetsWrong)

/-- 'fairlinklaw47.SessionStale': WHATEVER THE INPUT: true; the input reads as it did. -/
def sessionStaleSpec : ChangeSpec := { name := "sessionStale", fn := fun _ => fun
  | [d] => { results := [.lit (.bool true)], args := [d] }
  | _ => none }
def sessionStaleRow : OpenClaim := { program := "ytldabjgegpmmiaa", sum := "0f513ff1e7e1159019c3d1bd89256cf8f3513f45120feb18f85f68542ab18595", func := "fairlink/fairlinklaw47.SessionStale", spec := "sessionStale", unfollowed := true, recurses := true, apart := false }
def SessionStaleSaid : Prop := sessionStaleRow.holds Try.pinned (OpenSpec.ofChange sessionStaleSpec)

/-- ITS FALSE NEIGHBOUR: 'it returns false'. Refute it at one input. -/
def sessionStaleWrong : ChangeSpec := { name := "sessionStale", fn := fun _ => fun
  | [d] => { results := [.lit (.bool false)], args := [d] }
  | _ => none }
def SessionStaleWrongFalsely : Prop := sessionStaleRow.holds Try.pinned (OpenSpec.ofChange sessionStaleWrong)

/-- 'fairlinklaw47.SessionPrefix': WHATEVER THE INPUT: true; the input reads as it did. -/
def sessionPrefixSpec : ChangeSpec := { name := "sessionPrefix", fn := fun _ => fun
  | [d1, d2, d3] => { results := [.lit (.bool true)], args := [d1, d2, d3] }
  | _ => none }
def sessionPrefixRow : OpenClaim := { program := "ytldabjgegpmmiaa", sum := "0f513ff1e7e1159019c3d1bd89256cf8f3513f45120feb18f85f68542ab18595", func := "fairlink/fairlinklaw47.SessionPrefix", spec := "sessionPrefix", unfollowed := true, recurses := true, apart := false }
def SessionPrefixSaid : Prop := sessionPrefixRow.holds Try.pinned (OpenSpec.ofChange sessionPrefixSpec)

/-- ITS FALSE NEIGHBOUR: 'it returns false'. Refute it at one input. -/
def sessionPrefixWrong : ChangeSpec := { name := "sessionPrefix", fn := fun _ => fun
  | [d1, d2, d3] => { results := [.lit (.bool false)], args := [d1, d2, d3] }
  | _ => none }
def SessionPrefixWrongFalsely : Prop := sessionPrefixRow.holds Try.pinned (OpenSpec.ofChange sessionPrefixWrong)

/-- 'fairlinklaw47.SessionRestart': WHATEVER THE INPUT: true; the input reads as it did. -/
def sessionRestartSpec : ChangeSpec := { name := "sessionRestart", fn := fun _ => fun
  | [d1, d2, d3] => { results := [.lit (.bool true)], args := [d1, d2, d3] }
  | _ => none }
def sessionRestartRow : OpenClaim := { program := "ytldabjgegpmmiaa", sum := "0f513ff1e7e1159019c3d1bd89256cf8f3513f45120feb18f85f68542ab18595", func := "fairlink/fairlinklaw47.SessionRestart", spec := "sessionRestart", unfollowed := true, recurses := true, apart := false }
def SessionRestartSaid : Prop := sessionRestartRow.holds Try.pinned (OpenSpec.ofChange sessionRestartSpec)

/-- ITS FALSE NEIGHBOUR: 'it returns false'. Refute it at one input. -/
def sessionRestartWrong : ChangeSpec := { name := "sessionRestart", fn := fun _ => fun
  | [d1, d2, d3] => { results := [.lit (.bool false)], args := [d1, d2, d3] }
  | _ => none }
def SessionRestartWrongFalsely : Prop := sessionRestartRow.holds Try.pinned (OpenSpec.ofChange sessionRestartWrong)

/-- 'fairlinklaw47.SessionAsks': WHATEVER THE INPUT: true; the input reads as it did. -/
def sessionAsksSpec : ChangeSpec := { name := "sessionAsks", fn := fun _ => fun
  | [d1, d2] => { results := [.lit (.bool true)], args := [d1, d2] }
  | _ => none }
def sessionAsksRow : OpenClaim := { program := "ytldabjgegpmmiaa", sum := "0f513ff1e7e1159019c3d1bd89256cf8f3513f45120feb18f85f68542ab18595", func := "fairlink/fairlinklaw47.SessionAsks", spec := "sessionAsks", unfollowed := true, recurses := true, apart := false }
def SessionAsksSaid : Prop := sessionAsksRow.holds Try.pinned (OpenSpec.ofChange sessionAsksSpec)

/-- ITS FALSE NEIGHBOUR: 'it returns false'. Refute it at one input. -/
def sessionAsksWrong : ChangeSpec := { name := "sessionAsks", fn := fun _ => fun
  | [d1, d2] => { results := [.lit (.bool false)], args := [d1, d2] }
  | _ => none }
def SessionAsksWrongFalsely : Prop := sessionAsksRow.holds Try.pinned (OpenSpec.ofChange sessionAsksWrong)

/-- 'fairlinklaw47.SessionCalls': WHATEVER THE INPUT: true; the input reads as it did. -/
def sessionCallsSpec : ChangeSpec := { name := "sessionCalls", fn := fun _ => fun
  | [d1, d2, d3, d4] => { results := [.lit (.bool true)], args := [d1, d2, d3, d4] }
  | _ => none }
def sessionCallsRow : OpenClaim := { program := "ytldabjgegpmmiaa", sum := "0f513ff1e7e1159019c3d1bd89256cf8f3513f45120feb18f85f68542ab18595", func := "fairlink/fairlinklaw47.SessionCalls", spec := "sessionCalls", unfollowed := true, recurses := true, apart := false }
def SessionCallsSaid : Prop := sessionCallsRow.holds Try.pinned (OpenSpec.ofChange sessionCallsSpec)

/-- ITS FALSE NEIGHBOUR: 'it returns false'. Refute it at one input. -/
def sessionCallsWrong : ChangeSpec := { name := "sessionCalls", fn := fun _ => fun
  | [d1, d2, d3, d4] => { results := [.lit (.bool false)], args := [d1, d2, d3, d4] }
  | _ => none }
def SessionCallsWrongFalsely : Prop := sessionCallsRow.holds Try.pinned (OpenSpec.ofChange sessionCallsWrong)

/-- 'fairlinklaw47.SessionComplete': WHATEVER THE INPUT: true; the input reads as it did. -/
def sessionCompleteSpec : ChangeSpec := { name := "sessionComplete", fn := fun _ => fun
  | [d1, d2, d3] => { results := [.lit (.bool true)], args := [d1, d2, d3] }
  | _ => none }
def sessionCompleteRow : OpenClaim := { program := "ytldabjgegpmmiaa", sum := "0f513ff1e7e1159019c3d1bd89256cf8f3513f45120feb18f85f68542ab18595", func := "fairlink/fairlinklaw47.SessionComplete", spec := "sessionComplete", unfollowed := true, recurses := true, apart := false }
def SessionCompleteSaid : Prop := sessionCompleteRow.holds Try.pinned (OpenSpec.ofChange sessionCompleteSpec)

/-- ITS FALSE NEIGHBOUR: 'it returns false'. Refute it at one input. -/
def sessionCompleteWrong : ChangeSpec := { name := "sessionComplete", fn := fun _ => fun
  | [d1, d2, d3] => { results := [.lit (.bool false)], args := [d1, d2, d3] }
  | _ => none }
def SessionCompleteWrongFalsely : Prop := sessionCompleteRow.holds Try.pinned (OpenSpec.ofChange sessionCompleteWrong)

/- THE SECOND FORM. 'bulk': how many values and letters a reading holds, each counted each time it is reached (what is shared counts as often as it is met; a slice's spare places count too). A statement '..UptoSaid' is the law's where the arguments, and the package variables that the reading takes, are together of bulk at most 1048576: NARROWER than '..Said'. Prove '..Said' where nothing that the law and all that it calls make is longer than what came in: it says more and counts as full. Else prove '..UptoSaid'. A law counts once. -/
mutual
def uptoBulk {H : Type} : DataW H → Nat
  | .lit (.string bytes) => bytes.length + 1
  | .lit _ => 1
  | .nil => 1
  | .ptr d => uptoBulk d + 1
  | .slice elems spare => uptoBulkAll elems + uptoBulkAll spare + 1
  | .agg parts => uptoBulkAll parts + 1
  | .iface _ d => uptoBulk d + 1
  | .map entries => uptoBulkEntries entries + 1
  | .held _ => 1
def uptoBulkAll {H : Type} : List (DataW H) → Nat
  | [] => 0
  | d :: r => uptoBulk d + uptoBulkAll r
def uptoBulkEntries {H : Type} : List (Lit × DataW H) → Nat
  | [] => 0
  | x :: r => uptoBulkEntry x + uptoBulkEntries r
def uptoBulkEntry {H : Type} : Lit × DataW H → Nat
  | (.string bytes, d) => bytes.length + uptoBulk d + 1
  | (_, d) => uptoBulk d + 1
 end
def uptoSmall : (H : Type) → List (DataW H) → Bool := fun _ ds => decide (uptoBulkAll ds ≤ 1048576)
def OpenSpec.upto (s : _root_.Go.ChangeSpec) : _root_.Go.OpenSpec := { _root_.Go.OpenSpec.ofChange s with cond := some uptoSmall }

/-- 'fairlinklaw47.SessionCross', WHERE WHAT IT READS IS OF BULK AT MOST 1048576: true; the input reads as it did. -/
def sessionCrossUptoRow : OpenClaim := { program := "ytldabjgegpmmiaa", sum := "0f513ff1e7e1159019c3d1bd89256cf8f3513f45120feb18f85f68542ab18595", func := "fairlink/fairlinklaw47.SessionCross", spec := "sessionCross", unfollowed := true, recurses := true, apart := false, narrowed := true }
def SessionCrossUptoSaid : Prop := sessionCrossUptoRow.holds Try.pinned (OpenSpec.upto sessionCrossSpec)

/-- 'fairlinklaw47.SessionResets', WHERE WHAT IT READS IS OF BULK AT MOST 1048576: true; the input reads as it did. -/
def sessionResetsUptoRow : OpenClaim := { program := "ytldabjgegpmmiaa", sum := "0f513ff1e7e1159019c3d1bd89256cf8f3513f45120feb18f85f68542ab18595", func := "fairlink/fairlinklaw47.SessionResets", spec := "sessionResets", unfollowed := true, recurses := true, apart := false, narrowed := true }
def SessionResetsUptoSaid : Prop := sessionResetsUptoRow.holds Try.pinned (OpenSpec.upto sessionResetsSpec)

/-- 'fairlinklaw47.SessionStale', WHERE WHAT IT READS IS OF BULK AT MOST 1048576: true; the input reads as it did. -/
def sessionStaleUptoRow : OpenClaim := { program := "ytldabjgegpmmiaa", sum := "0f513ff1e7e1159019c3d1bd89256cf8f3513f45120feb18f85f68542ab18595", func := "fairlink/fairlinklaw47.SessionStale", spec := "sessionStale", unfollowed := true, recurses := true, apart := false, narrowed := true }
def SessionStaleUptoSaid : Prop := sessionStaleUptoRow.holds Try.pinned (OpenSpec.upto sessionStaleSpec)

/-- 'fairlinklaw47.SessionPrefix', WHERE WHAT IT READS IS OF BULK AT MOST 1048576: true; the input reads as it did. -/
def sessionPrefixUptoRow : OpenClaim := { program := "ytldabjgegpmmiaa", sum := "0f513ff1e7e1159019c3d1bd89256cf8f3513f45120feb18f85f68542ab18595", func := "fairlink/fairlinklaw47.SessionPrefix", spec := "sessionPrefix", unfollowed := true, recurses := true, apart := false, narrowed := true }
def SessionPrefixUptoSaid : Prop := sessionPrefixUptoRow.holds Try.pinned (OpenSpec.upto sessionPrefixSpec)

/-- 'fairlinklaw47.SessionRestart', WHERE WHAT IT READS IS OF BULK AT MOST 1048576: true; the input reads as it did. -/
def sessionRestartUptoRow : OpenClaim := { program := "ytldabjgegpmmiaa", sum := "0f513ff1e7e1159019c3d1bd89256cf8f3513f45120feb18f85f68542ab18595", func := "fairlink/fairlinklaw47.SessionRestart", spec := "sessionRestart", unfollowed := true, recurses := true, apart := false, narrowed := true }
def SessionRestartUptoSaid : Prop := sessionRestartUptoRow.holds Try.pinned (OpenSpec.upto sessionRestartSpec)

/-- 'fairlinklaw47.SessionAsks', WHERE WHAT IT READS IS OF BULK AT MOST 1048576: true; the input reads as it did. -/
def sessionAsksUptoRow : OpenClaim := { program := "ytldabjgegpmmiaa", sum := "0f513ff1e7e1159019c3d1bd89256cf8f3513f45120feb18f85f68542ab18595", func := "fairlink/fairlinklaw47.SessionAsks", spec := "sessionAsks", unfollowed := true, recurses := true, apart := false, narrowed := true }
def SessionAsksUptoSaid : Prop := sessionAsksUptoRow.holds Try.pinned (OpenSpec.upto sessionAsksSpec)

/-- 'fairlinklaw47.SessionCalls', WHERE WHAT IT READS IS OF BULK AT MOST 1048576: true; the input reads as it did. -/
def sessionCallsUptoRow : OpenClaim := { program := "ytldabjgegpmmiaa", sum := "0f513ff1e7e1159019c3d1bd89256cf8f3513f45120feb18f85f68542ab18595", func := "fairlink/fairlinklaw47.SessionCalls", spec := "sessionCalls", unfollowed := true, recurses := true, apart := false, narrowed := true }
def SessionCallsUptoSaid : Prop := sessionCallsUptoRow.holds Try.pinned (OpenSpec.upto sessionCallsSpec)

/-- 'fairlinklaw47.SessionComplete', WHERE WHAT IT READS IS OF BULK AT MOST 1048576: true; the input reads as it did. -/
def sessionCompleteUptoRow : OpenClaim := { program := "ytldabjgegpmmiaa", sum := "0f513ff1e7e1159019c3d1bd89256cf8f3513f45120feb18f85f68542ab18595", func := "fairlink/fairlinklaw47.SessionComplete", spec := "sessionComplete", unfollowed := true, recurses := true, apart := false, narrowed := true }
def SessionCompleteUptoSaid : Prop := sessionCompleteUptoRow.holds Try.pinned (OpenSpec.upto sessionCompleteSpec)

end Rows
end Go.Proofs.Ytldabjgegpmmiaa
