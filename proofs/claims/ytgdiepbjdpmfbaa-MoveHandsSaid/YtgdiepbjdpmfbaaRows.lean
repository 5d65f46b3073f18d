/-
  No cell of these rows narrows 'for every input' (looked for: loops, veiled, ifaces, maps, wideKeys, modest, calm, conditions, laid).
  DERIVED. THE GIVEN ROWS OF THIS SEAT. 8 by the template 'for every input the law returns true; each argument reads behind the call as it read before'; 0 by the template 'total and deterministic' (their statements: YtgdiepbjdpmfbaaTotals.lean).
  GIVEN WITH THE SEED: the statements are not yours to turn. If you find one false, say at which input.
  Laid BY PROGRAM, IN A SANDBOX (cutbox-rows.mjs): the forced cells as the released guide's own fill.sh prints them over the translation 16fa50ba73f352f0… (all of the seat's roots in one cut). By AI agents, Wed Nov 11 2026. No macro, syntax, notation, axiom, sorry.
-/
import Derived.Test.YtgdiepbjdpmfbaaChecked
import GoSem.Claim
import GoSem.ClaimJoined
import GoSem.ClaimMapViews
import Derived.JoinedTies
import Derived.KernelRfl
namespace Go.Proofs.Ytgdiepbjdpmfbaa
/- THE CELL 'sum', in the pinned program and in every row, IS THE sha256 OF THE DUMP (.gsa) THAT YtgdiepbjdpmfbaaProg.lean LOADS. Nothing in Lean hashes anything: it is a label: what it is worth is what the hold of that sum in a sandbox is worth. -/
noncomputable def Try.pinned : Pinned := { name := "ytgdiepbjdpmfbaa", sum := "16fa50ba73f352f07d36f4e88cb71af48b3ef5ed978f187faa114020a03ff55e", checked := Try.checked }
namespace Rows
def none {H : Type} : Left H := { results := [], args := [] }

/-- 'fairlinklaw48.MoveHands': WHATEVER THE INPUT: true; the input reads as it did. -/
def moveHandsSpec : ChangeSpec := { name := "moveHands", fn := fun _ => fun
  | [d1, d2, d3] => { results := [.lit (.bool true)], args := [d1, d2, d3] }
  | _ => none }
def moveHandsRow : OpenClaim := { program := "ytgdiepbjdpmfbaa", sum := "16fa50ba73f352f07d36f4e88cb71af48b3ef5ed978f187faa114020a03ff55e", func := "fairlink/fairlinklaw48.MoveHands", spec := "moveHands", unfollowed := true, recurses := true, apart := false }
def MoveHandsSaid : Prop := moveHandsRow.holds Try.pinned (OpenSpec.ofChange moveHandsSpec)

/-- ITS FALSE NEIGHBOUR: 'it returns false'. Refute it at one input. -/
def moveHandsWrong : ChangeSpec := { name := "moveHands", fn := fun _ => fun
  | [d1, d2, d3] => { results := [.lit (.bool false)], args := [d1, d2, d3] }
  | _ => none }
def MoveHandsWrongFalsely : Prop := moveHandsRow.holds Try.pinned (OpenSpec.ofChange moveHandsWrong)

/-- 'fairlinklaw48.MovePhases': WHATEVER THE INPUT: true; the input reads as it did. -/
def movePhasesSpec : ChangeSpec := { name := "movePhases", fn := fun _ => fun
  | [d] => { results := [.lit (.bool true)], args := [d] }
  | _ => none }
def movePhasesRow : OpenClaim := { program := "ytgdiepbjdpmfbaa", sum := "16fa50ba73f352f07d36f4e88cb71af48b3ef5ed978f187faa114020a03ff55e", func := "fairlink/fairlinklaw48.MovePhases", spec := "movePhases", unfollowed := true, recurses := true, apart := false }
def MovePhasesSaid : Prop := movePhasesRow.holds Try.pinned (OpenSpec.ofChange movePhasesSpec)

/-- ITS FALSE NEIGHBOUR: 'it returns false'. Refute it at one input. -/
def movePhasesWrong : ChangeSpec := { name := "movePhases", fn := fun _ => fun
  | [d] => { results := [.lit (.bool false)], args := [d] }
  | _ => none }
def MovePhasesWrongFalsely : Prop := movePhasesRow.holds Try.pinned (OpenSpec.ofChange movePhasesWrong)

/-- 'fairlinklaw48.MoveNil': WHATEVER THE INPUT: true; the input reads as it did. -/
def moveNilSpec : ChangeSpec := { name := "moveNil", fn := fun _ => fun
  | [d] => { results := [.lit (.bool true)], args := [d] }
  | _ => none }
def moveNilRow : OpenClaim := { program := "ytgdiepbjdpmfbaa", sum := "16fa50ba73f352f07d36f4e88cb71af48b3ef5ed978f187faa114020a03ff55e", func := "fairlink/fairlinklaw48.MoveNil", spec := "moveNil", unfollowed := true, recurses := true, apart := false }
def MoveNilSaid : Prop := moveNilRow.holds Try.pinned (OpenSpec.ofChange moveNilSpec)

/-- ITS FALSE NEIGHBOUR: 'it returns false'. Refute it at one input. -/
def moveNilWrong : ChangeSpec := { name := "moveNil", fn := fun _ => fun
  | [d] => { results := [.lit (.bool false)], args := [d] }
  | _ => none }
def MoveNilWrongFalsely : Prop := moveNilRow.holds Try.pinned (OpenSpec.ofChange moveNilWrong)

/-- 'fairlinklaw48.MovePrefix': WHATEVER THE INPUT: true; the input reads as it did. -/
def movePrefixSpec : ChangeSpec := { name := "movePrefix", fn := fun _ => fun
  | [d1, d2, d3, d4] => { results := [.lit (.bool true)], args := [d1, d2, d3, d4] }
  | _ => none }
def movePrefixRow : OpenClaim := { program := "ytgdiepbjdpmfbaa", sum := "16fa50ba73f352f07d36f4e88cb71af48b3ef5ed978f187faa114020a03ff55e", func := "fairlink/fairlinklaw48.MovePrefix", spec := "movePrefix", unfollowed := true, recurses := true, apart := false }
def MovePrefixSaid : Prop := movePrefixRow.holds Try.pinned (OpenSpec.ofChange movePrefixSpec)

/-- ITS FALSE NEIGHBOUR: 'it returns false'. Refute it at one input. -/
def movePrefixWrong : ChangeSpec := { name := "movePrefix", fn := fun _ => fun
  | [d1, d2, d3, d4] => { results := [.lit (.bool false)], args := [d1, d2, d3, d4] }
  | _ => none }
def MovePrefixWrongFalsely : Prop := movePrefixRow.holds Try.pinned (OpenSpec.ofChange movePrefixWrong)

/-- 'fairlinklaw48.MoveStays': WHATEVER THE INPUT: true; the input reads as it did. -/
def moveStaysSpec : ChangeSpec := { name := "moveStays", fn := fun _ => fun
  | [d1, d2] => { results := [.lit (.bool true)], args := [d1, d2] }
  | _ => none }
def moveStaysRow : OpenClaim := { program := "ytgdiepbjdpmfbaa", sum := "16fa50ba73f352f07d36f4e88cb71af48b3ef5ed978f187faa114020a03ff55e", func := "fairlink/fairlinklaw48.MoveStays", spec := "moveStays", unfollowed := true, recurses := true, apart := false }
def MoveStaysSaid : Prop := moveStaysRow.holds Try.pinned (OpenSpec.ofChange moveStaysSpec)

/-- ITS FALSE NEIGHBOUR: 'it returns false'. Refute it at one input. -/
def moveStaysWrong : ChangeSpec := { name := "moveStays", fn := fun _ => fun
  | [d1, d2] => { results := [.lit (.bool false)], args := [d1, d2] }
  | _ => none }
def MoveStaysWrongFalsely : Prop := moveStaysRow.holds Try.pinned (OpenSpec.ofChange moveStaysWrong)

/-- 'fairlinklaw48.MoveCompletes': WHATEVER THE INPUT: true; the input reads as it did. -/
def moveCompletesSpec : ChangeSpec := { name := "moveCompletes", fn := fun _ => fun
  | [d1, d2, d3, d4] => { results := [.lit (.bool true)], args := [d1, d2, d3, d4] }
  | _ => none }
def moveCompletesRow : OpenClaim := { program := "ytgdiepbjdpmfbaa", sum := "16fa50ba73f352f07d36f4e88cb71af48b3ef5ed978f187faa114020a03ff55e", func := "fairlink/fairlinklaw48.MoveCompletes", spec := "moveCompletes", unfollowed := true, recurses := true, apart := false }
def MoveCompletesSaid : Prop := moveCompletesRow.holds Try.pinned (OpenSpec.ofChange moveCompletesSpec)

/-- ITS FALSE NEIGHBOUR: 'it returns false'. Refute it at one input. -/
def moveCompletesWrong : ChangeSpec := { name := "moveCompletes", fn := fun _ => fun
  | [d1, d2, d3, d4] => { results := [.lit (.bool false)], args := [d1, d2, d3, d4] }
  | _ => none }
def MoveCompletesWrongFalsely : Prop := moveCompletesRow.holds Try.pinned (OpenSpec.ofChange moveCompletesWrong)

/-- 'fairlinklaw48.MoveRefuses': WHATEVER THE INPUT: true; the input reads as it did. -/
def moveRefusesSpec : ChangeSpec := { name := "moveRefuses", fn := fun _ => fun
  | [d1, d2, d3] => { results := [.lit (.bool true)], args := [d1, d2, d3] }
  | _ => none }
def moveRefusesRow : OpenClaim := { program := "ytgdiepbjdpmfbaa", sum := "16fa50ba73f352f07d36f4e88cb71af48b3ef5ed978f187faa114020a03ff55e", func := "fairlink/fairlinklaw48.MoveRefuses", spec := "moveRefuses", unfollowed := true, recurses := true, apart := false }
def MoveRefusesSaid : Prop := moveRefusesRow.holds Try.pinned (OpenSpec.ofChange moveRefusesSpec)

/-- ITS FALSE NEIGHBOUR: 'it returns false'. Refute it at one input. -/
def moveRefusesWrong : ChangeSpec := { name := "moveRefuses", fn := fun _ => fun
  | [d1, d2, d3] => { results := [.lit (.bool false)], args := [d1, d2, d3] }
  | _ => none }
def MoveRefusesWrongFalsely : Prop := moveRefusesRow.holds Try.pinned (OpenSpec.ofChange moveRefusesWrong)

/-- 'fairlinklaw48.MovePlays': WHATEVER THE INPUT: true; the input reads as it did. -/
def movePlaysSpec : ChangeSpec := { name := "movePlays", fn := fun _ => fun
  | [d1, d2] => { results := [.lit (.bool true)], args := [d1, d2] }
  | _ => none }
def movePlaysRow : OpenClaim := { program := "ytgdiepbjdpmfbaa", sum := "16fa50ba73f352f07d36f4e88cb71af48b3ef5ed978f187faa114020a03ff55e", func := "fairlink/fairlinklaw48.MovePlays", spec := "movePlays", unfollowed := true, recurses := true, apart := false }
def MovePlaysSaid : Prop := movePlaysRow.holds Try.pinned (OpenSpec.ofChange movePlaysSpec)

/-- ITS FALSE NEIGHBOUR: 'it returns false'. Refute it at one input. -/
def movePlaysWrong : ChangeSpec := { name := "movePlays", fn := fun _ => fun
  | [d1, d2] => { results := [.lit (.bool false)], args := [d1, d2] }
  | _ => none }
def MovePlaysWrongFalsely : Prop := movePlaysRow.holds Try.pinned (OpenSpec.ofChange movePlaysWrong)

/- THE SECOND FORM. 'bulk': how many values and letters a reading holds, each counted each time it is reached (what is shared counts as often as it is met; a slice's spare places count too). A statement '..UptoSaid' is the law's where the arguments, and the package variables that the reading takes, are together of bulk at most 1048576: NARROWER than '..Said'. Prove '..Said' where nothing that the law and all that it calls make is longer than what came in: it says more and counts as full. Else prove '..UptoSaid'. A law counts once. -/
mutual
def uptoBulk {H : Type} : DataW H → Nat
  | .lit (.string bytes) => bytes.length + 1
  | .lit _ => 1
  | .nil => 1
  | .ptr d => uptoBulk d + 1
  | .slice elems spare => uptoBulkAll elems + uptoBulkAll spare + 1
  | .agg parts => uptoBulkAll parts + 1
  | .iface _ d => uptoBulk d + 1
  | .map entries => uptoBulkEntries entries + 1
  | .held _ => 1
def uptoBulkAll {H : Type} : List (DataW H) → Nat
  | [] => 0
  | d :: r => uptoBulk d + uptoBulkAll r
def uptoBulkEntries {H : Type} : List (Lit × DataW H) → Nat
  | [] => 0
  | x :: r => uptoBulkEntry x + uptoBulkEntries r
def uptoBulkEntry {H : Type} : Lit × DataW H → Nat
  | (.string bytes, d) => bytes.length + uptoBulk d + 1
  | (_, d) => uptoBulk d + 1
 end
def uptoSmall : (H : Type) → List (DataW H) → Bool := fun _ ds => decide (uptoBulkAll ds ≤ 1048576)
def OpenSpec.upto (s : _root_.Go.ChangeSpec) : _root_.Go.OpenSpec := { _root_.Go.OpenSpec.ofChange s with cond := some uptoSmall }

/-- 'fairlinklaw48.MoveHands', WHERE WHAT IT READS IS OF BULK AT MOST 1048576: true; the input reads as it did. -/
def moveHandsUptoRow : OpenClaim := { program := "ytgdiepbjdpmfbaa", sum := "16fa50ba73f352f07d36f4e88cb71af48b3ef5ed978f187faa114020a03ff55e", func := "fairlink/fairlinklaw48.MoveHands", spec := "moveHands", unfollowed := true, recurses := true, apart := false, narrowed := true }
def MoveHandsUptoSaid : Prop := moveHandsUptoRow.holds Try.pinned (OpenSpec.upto moveHandsSpec)

/-- 'fairlinklaw48.MovePhases', WHERE WHAT IT READS IS OF BULK AT MOST 1048576: true; the input reads as it did. -/
def movePhasesUptoRow : OpenClaim := { program := "ytgdiepbjdpmfbaa", sum := "16fa50ba73f352f07d36f4e88cb71af48b3ef5ed978f187faa114020a03ff55e", func := "fairlink/fairlinklaw48.MovePhases", spec := "movePhases", unfollowed := true, recurses := true, apart := false, narrowed := true }
def MovePhasesUptoSaid : Prop := movePhasesUptoRow.holds Try.pinned (OpenSpec.upto movePhasesSpec)

/-- 'fairlinklaw48.MoveNil', WHERE WHAT IT READS IS OF BULK AT MOST 1048576: true; the input reads as it did. -/
def moveNilUptoRow : OpenClaim := { program := "ytgdiepbjdpmfbaa", sum := "16fa50ba73f352f07d36f4e88cb71af48b3ef5ed978f187faa114020a03ff55e", func := "fairlink/fairlinklaw48.MoveNil", spec := "moveNil", unfollowed := true, recurses := true, apart := false, narrowed := true }
def MoveNilUptoSaid : Prop := moveNilUptoRow.holds Try.pinned (OpenSpec.upto moveNilSpec)

/-- 'fairlinklaw48.MovePrefix', WHERE WHAT IT READS IS OF BULK AT MOST 1048576: true; the input reads as it did. -/
def movePrefixUptoRow : OpenClaim := { program := "ytgdiepbjdpmfbaa", sum := "16fa50ba73f352f07d36f4e88cb71af48b3ef5ed978f187faa114020a03ff55e", func := "fairlink/fairlinklaw48.MovePrefix", spec := "movePrefix", unfollowed := true, recurses := true, apart := false, narrowed := true }
def MovePrefixUptoSaid : Prop := movePrefixUptoRow.holds Try.pinned (OpenSpec.upto movePrefixSpec)

/-- 'fairlinklaw48.MoveStays', WHERE WHAT IT READS IS OF BULK AT MOST 1048576: true; the input reads as it did. -/
def moveStaysUptoRow : OpenClaim := { program := "ytgdiepbjdpmfbaa", sum := "16fa50ba73f352f07d36f4e88cb71af48b3ef5ed978f187faa114020a03ff55e", func := "fairlink/fairlinklaw48.MoveStays", spec := "moveStays", unfollowed := true, recurses := true, apart := false, narrowed := true }
def MoveStaysUptoSaid : Prop := moveStaysUptoRow.holds Try.pinned (OpenSpec.upto moveStaysSpec)

/-- 'fairlinklaw48.MoveCompletes', WHERE WHAT IT READS IS OF BULK AT MOST 1048576: true; the input reads as it did. -/
def moveCompletesUptoRow : OpenClaim := { program := "ytgdiepbjdpmfbaa", sum := "16fa50ba73f352f07d36f4e88cb71af48b3ef5ed978f187faa114020a03ff55e", func := "fairlink/fairlinklaw48.MoveCompletes", spec := "moveCompletes", unfollowed := true, recurses := true, apart := false, narrowed := true }
def MoveCompletesUptoSaid : Prop := moveCompletesUptoRow.holds Try.pinned (OpenSpec.upto moveCompletesSpec)

/-- 'fairlinklaw48.MoveRefuses', WHERE WHAT IT READS IS OF BULK AT MOST 1048576: true; the input reads as it did. -/
def moveRefusesUptoRow : OpenClaim := { program := "ytgdiepbjdpmfbaa", sum := "16fa50ba73f352f07d36f4e88cb71af48b3ef5ed978f187faa114020a03ff55e", func := "fairlink/fairlinklaw48.MoveRefuses", spec := "moveRefuses", unfollowed := true, recurses := true, apart := false, narrowed := true }
def MoveRefusesUptoSaid : Prop := moveRefusesUptoRow.holds Try.pinned (OpenSpec.upto moveRefusesSpec)

/-- 'fairlinklaw48.MovePlays', WHERE WHAT IT READS IS OF BULK AT MOST 1048576: true; the input reads as it did. -/
def movePlaysUptoRow : OpenClaim := { program := "ytgdiepbjdpmfbaa", sum := "16fa50ba73f352f07d36f4e88cb71af48b3ef5ed978f187faa114020a03ff55e", func := "fairlink/fairlinklaw48.MovePlays", spec := "movePlays", unfollowed := true, recurses := true, apart := false, narrowed := true }
def MovePlaysUptoSaid : Prop := movePlaysUptoRow.holds Try.pinned (OpenSpec.upto movePlaysSpec)

end Rows
end Go.Proofs.Ytgdiepbjdpmfbaa
