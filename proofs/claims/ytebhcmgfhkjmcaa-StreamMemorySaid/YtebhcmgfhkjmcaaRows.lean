/-
  No cell of these rows narrows 'for every input' (looked for: loops, veiled, ifaces, maps, wideKeys, modest, calm, conditions, laid).
  DERIVED. THE GIVEN ROWS OF THIS SEAT. 8 by the template 'for every input the law returns true; each argument reads behind the call as it read before'; 0 by the template 'total and deterministic' (their statements: YtebhcmgfhkjmcaaTotals.lean).
  GIVEN WITH THE SEED: the statements are not yours to turn. If you find one false, say at which input.
  Laid BY PROGRAM, IN A SANDBOX (cutbox-rows.mjs): the forced cells as the released guide's own fill.sh prints them over the translation 8ff36c30c2d3b8cc… (all of the seat's roots in one cut). By AI agents, Wed Nov 11 2026. No macro, syntax, notation, axiom, sorry.
-/
import Derived.Test.YtebhcmgfhkjmcaaChecked
import GoSem.Claim
import GoSem.ClaimJoined
import GoSem.ClaimMapViews
import Derived.JoinedTies
import Derived.KernelRfl
namespace Go.Proofs.Ytebhcmgfhkjmcaa
/- THE CELL 'sum', in the pinned program and in every row, IS THE sha256 OF THE DUMP (.gsa) THAT YtebhcmgfhkjmcaaProg.lean LOADS. Nothing in Lean hashes anything: it is a label: what it is worth is what the hold of that sum in a sandbox is worth. -/
noncomputable def Try.pinned : Pinned := { name := "ytebhcmgfhkjmcaa", sum := "8ff36c30c2d3b8ccc707c1c1a3f50ea0a5ea76de3073b12b402b9eed60bdf8b5", checked := Try.checked }
namespace Rows
def none {H : Type} : Left H := { results := [], args := [] }

/-- 'fairlinklaw44.StreamWrites': WHATEVER THE INPUT: true; the input reads as it did. -/
def streamWritesSpec : ChangeSpec := { name := "streamWrites", fn := fun _ => fun
  | [d1, d2, d3] => { results := [.lit (.bool true)], args := [d1, d2, d3] }
  | _ => none }
def streamWritesRow : OpenClaim := { program := "ytebhcmgfhkjmcaa", sum := "8ff36c30c2d3b8ccc707c1c1a3f50ea0a5ea76de3073b12b402b9eed60bdf8b5", func := "fairlink/fairlinklaw44.StreamWrites", spec := "streamWrites", apart := false }
def StreamWritesSaid : Prop := streamWritesRow.holds Try.pinned (OpenSpec.ofChange streamWritesSpec)

/-- ITS FALSE NEIGHBOUR: 'it returns false'. Refute it at one input. -/
def streamWritesWrong : ChangeSpec := { name := "streamWrites", fn := fun _ => fun
  | [d1, d2, d3] => { results := [.lit (.bool false)], args := [d1, d2, d3] }
  | _ => none }
def StreamWritesWrongFalsely : Prop := streamWritesRow.holds Try.pinned (OpenSpec.ofChange streamWritesWrong)

/-- 'fairlinklaw44.StreamMemory': WHATEVER THE INPUT: true; the input reads as it did. -/
def streamMemorySpec : ChangeSpec := { name := "streamMemory", fn := fun _ => fun
  | [d] => { results := [.lit (.bool true)], args := [d] }
  | _ => none }
def streamMemoryRow : OpenClaim := { program := "ytebhcmgfhkjmcaa", sum := "8ff36c30c2d3b8ccc707c1c1a3f50ea0a5ea76de3073b12b402b9eed60bdf8b5", func := "fairlink/fairlinklaw44.StreamMemory", spec := "streamMemory", apart := false }
def StreamMemorySaid : Prop := streamMemoryRow.holds Try.pinned (OpenSpec.ofChange streamMemorySpec)

/-- ITS FALSE NEIGHBOUR: 'it returns false'. Refute it at one input. -/
def streamMemoryWrong : ChangeSpec := { name := "streamMemory", fn := fun _ => fun
  | [d] => { results := [.lit (.bool false)], args := [d] }
  | _ => none }
def StreamMemoryWrongFalsely : Prop := streamMemoryRow.holds Try.pinned (OpenSpec.ofChange streamMemoryWrong)

/-- 'fairlinklaw44.StreamReads': WHATEVER THE INPUT: true; the input reads as it did. -/
def streamReadsSpec : ChangeSpec := { name := "streamReads", fn := fun _ => fun
  | [d1, d2, d3] => { results := [.lit (.bool true)], args := [d1, d2, d3] }
  | _ => none }
def streamReadsRow : OpenClaim := { program := "ytebhcmgfhkjmcaa", sum := "8ff36c30c2d3b8ccc707c1c1a3f50ea0a5ea76de3073b12b402b9eed60bdf8b5", func := "fairlink/fairlinklaw44.StreamReads", spec := "streamReads", apart := false }
def StreamReadsSaid : Prop := streamReadsRow.holds Try.pinned (OpenSpec.ofChange streamReadsSpec)

/-- ITS FALSE NEIGHBOUR: 'it returns false'. Refute it at one input. -/
def streamReadsWrong : ChangeSpec := { name := "streamReads", fn := fun _ => fun
  | [d1, d2, d3] => { results := [.lit (.bool false)], args := [d1, d2, d3] }
  | _ => none }
def StreamReadsWrongFalsely : Prop := streamReadsRow.holds Try.pinned (OpenSpec.ofChange streamReadsWrong)

/-- 'fairlinklaw44.StreamWindow': WHATEVER THE INPUT: true; the input reads as it did. -/
def streamWindowSpec : ChangeSpec := { name := "streamWindow", fn := fun _ => fun
  | [d1, d2, d3, d4] => { results := [.lit (.bool true)], args := [d1, d2, d3, d4] }
  | _ => none }
def streamWindowRow : OpenClaim := { program := "ytebhcmgfhkjmcaa", sum := "8ff36c30c2d3b8ccc707c1c1a3f50ea0a5ea76de3073b12b402b9eed60bdf8b5", func := "fairlink/fairlinklaw44.StreamWindow", spec := "streamWindow", apart := false }
def StreamWindowSaid : Prop := streamWindowRow.holds Try.pinned (OpenSpec.ofChange streamWindowSpec)

/-- ITS FALSE NEIGHBOUR: 'it returns false'. Refute it at one input. -/
def streamWindowWrong : ChangeSpec := { name := "streamWindow", fn := fun _ => fun
  | [d1, d2, d3, d4] => { results := [.lit (.bool false)], args := [d1, d2, d3, d4] }
  | _ => none }
def StreamWindowWrongFalsely : Prop := streamWindowRow.holds Try.pinned (OpenSpec.ofChange streamWindowWrong)

/-- 'fairlinklaw44.StreamRepeats': WHATEVER THE INPUT: true; the input reads as it did. -/
def streamRepeatsSpec : ChangeSpec := { name := "streamRepeats", fn := fun _ => fun
  | [d1, d2, d3, d4, d5] => { results := [.lit (.bool true)], args := [d1, d2, d3, d4, d5] }
  | _ => none }
def streamRepeatsRow : OpenClaim := { program := "ytebhcmgfhkjmcaa", sum := "8ff36c30c2d3b8ccc707c1c1a3f50ea0a5ea76de3073b12b402b9eed60bdf8b5", func := "fairlink/fairlinklaw44.StreamRepeats", spec := "streamRepeats", apart := false }
def StreamRepeatsSaid : Prop := streamRepeatsRow.holds Try.pinned (OpenSpec.ofChange streamRepeatsSpec)

/-- ITS FALSE NEIGHBOUR: 'it returns false'. Refute it at one input. -/
def streamRepeatsWrong : ChangeSpec := { name := "streamRepeats", fn := fun _ => fun
  | [d1, d2, d3, d4, d5] => { results := [.lit (.bool false)], args := [d1, d2, d3, d4, d5] }
  | _ => none }
def StreamRepeatsWrongFalsely : Prop := streamRepeatsRow.holds Try.pinned (OpenSpec.ofChange streamRepeatsWrong)

/-- 'fairlinklaw44.StreamCompletes': WHATEVER THE INPUT: true; the input reads as it did. -/
def streamCompletesSpec : ChangeSpec := { name := "streamCompletes", fn := fun _ => fun
  | [d1, d2, d3, d4, d5] => { results := [.lit (.bool true)], args := [d1, d2, d3, d4, d5] }
  | _ => none }
def streamCompletesRow : OpenClaim := { program := "ytebhcmgfhkjmcaa", sum := "8ff36c30c2d3b8ccc707c1c1a3f50ea0a5ea76de3073b12b402b9eed60bdf8b5", func := "fairlink/fairlinklaw44.StreamCompletes", spec := "streamCompletes", apart := false }
def StreamCompletesSaid : Prop := streamCompletesRow.holds Try.pinned (OpenSpec.ofChange streamCompletesSpec)

/-- ITS FALSE NEIGHBOUR: 'it returns false'. Refute it at one input. -/
def streamCompletesWrong : ChangeSpec := { name := "streamCompletes", fn := fun _ => fun
  | [d1, d2, d3, d4, d5] => { results := [.lit (.bool false)], args := [d1, d2, d3, d4, d5] }
  | _ => none }
def StreamCompletesWrongFalsely : Prop := streamCompletesRow.holds Try.pinned (OpenSpec.ofChange streamCompletesWrong)

/-- 'fairlinklaw44.StreamNil': WHATEVER THE INPUT: true; the input reads as it did. -/
def streamNilSpec : ChangeSpec := { name := "streamNil", fn := fun _ => fun
  | [d1, d2, d3, d4] => { results := [.lit (.bool true)], args := [d1, d2, d3, d4] }
  | _ => none }
def streamNilRow : OpenClaim := { program := "ytebhcmgfhkjmcaa", sum := "8ff36c30c2d3b8ccc707c1c1a3f50ea0a5ea76de3073b12b402b9eed60bdf8b5", func := "fairlink/fairlinklaw44.StreamNil", spec := "streamNil", apart := false }
def StreamNilSaid : Prop := streamNilRow.holds Try.pinned (OpenSpec.ofChange streamNilSpec)

/-- ITS FALSE NEIGHBOUR: 'it returns false'. Refute it at one input. -/
def streamNilWrong : ChangeSpec := { name := "streamNil", fn := fun _ => fun
  | [d1, d2, d3, d4] => { results := [.lit (.bool false)], args := [d1, d2, d3, d4] }
  | _ => none }
def StreamNilWrongFalsely : Prop := streamNilRow.holds Try.pinned (OpenSpec.ofChange streamNilWrong)

/-- 'fairlinklaw44.StreamPrefix': WHATEVER THE INPUT: true; the input reads as it did. -/
def streamPrefixSpec : ChangeSpec := { name := "streamPrefix", fn := fun _ => fun
  | [d1, d2, d3, d4, d5] => { results := [.lit (.bool true)], args := [d1, d2, d3, d4, d5] }
  | _ => none }
def streamPrefixRow : OpenClaim := { program := "ytebhcmgfhkjmcaa", sum := "8ff36c30c2d3b8ccc707c1c1a3f50ea0a5ea76de3073b12b402b9eed60bdf8b5", func := "fairlink/fairlinklaw44.StreamPrefix", spec := "streamPrefix", apart := false }
def StreamPrefixSaid : Prop := streamPrefixRow.holds Try.pinned (OpenSpec.ofChange streamPrefixSpec)

/-- ITS FALSE NEIGHBOUR: 'it returns false'. Refute it at one input. -/
def streamPrefixWrong : ChangeSpec := { name := "streamPrefix", fn := fun _ => fun
  | [d1, d2, d3, d4, d5] => { results := [.lit (.bool false)], args := [d1, d2, d3, d4, d5] }
  | _ => none }
def StreamPrefixWrongFalsely : Prop := streamPrefixRow.holds Try.pinned (OpenSpec.ofChange streamPrefixWrong)

/- THE SECOND FORM. 'bulk': how many values and letters a reading holds, each counted each time it is reached (what is shared counts as often as it is met; a slice's spare places count too). A statement '..UptoSaid' is the law's where the arguments, and the package variables that the reading takes, are together of bulk at most 1048576: NARROWER than '..Said'. Prove '..Said' where nothing that the law and all that it calls make is longer than what came in: it says more and counts as full. Else prove '..UptoSaid'. A law counts once. -/
mutual
def uptoBulk {H : Type} : DataW H → Nat
  | .lit (.string bytes) => bytes.length + 1
  | .lit _ => 1
  | .nil => 1
  | .ptr d => uptoBulk d + 1
  | .slice elems spare => uptoBulkAll elems + uptoBulkAll spare + 1
  | .agg parts => uptoBulkAll parts + 1
  | .iface _ d => uptoBulk d + 1
  | .map entries => uptoBulkEntries entries + 1
  | .held _ => 1
def uptoBulkAll {H : Type} : List (DataW H) → Nat
  | [] => 0
  | d :: r => uptoBulk d + uptoBulkAll r
def uptoBulkEntries {H : Type} : List (Lit × DataW H) → Nat
  | [] => 0
  | x :: r => uptoBulkEntry x + uptoBulkEntries r
def uptoBulkEntry {H : Type} : Lit × DataW H → Nat
  | (.string bytes, d) => bytes.length + uptoBulk d + 1
  | (_, d) => uptoBulk d + 1
 end
def uptoSmall : (H : Type) → List (DataW H) → Bool := fun _ ds => decide (uptoBulkAll ds ≤ 1048576)
def OpenSpec.upto (s : _root_.Go.ChangeSpec) : _root_.Go.OpenSpec := { _root_.Go.OpenSpec.ofChange s with cond := some uptoSmall }

/-- 'fairlinklaw44.StreamWrites', WHERE WHAT IT READS IS OF BULK AT MOST 1048576: true; the input reads as it did. -/
def streamWritesUptoRow : OpenClaim := { program := "ytebhcmgfhkjmcaa", sum := "8ff36c30c2d3b8ccc707c1c1a3f50ea0a5ea76de3073b12b402b9eed60bdf8b5", func := "fairlink/fairlinklaw44.StreamWrites", spec := "streamWrites", apart := false, narrowed := true }
def StreamWritesUptoSaid : Prop := streamWritesUptoRow.holds Try.pinned (OpenSpec.upto streamWritesSpec)

/-- 'fairlinklaw44.StreamMemory', WHERE WHAT IT READS IS OF BULK AT MOST 1048576: true; the input reads as it did. -/
def streamMemoryUptoRow : OpenClaim := { program := "ytebhcmgfhkjmcaa", sum := "8ff36c30c2d3b8ccc707c1c1a3f50ea0a5ea76de3073b12b402b9eed60bdf8b5", func := "fairlink/fairlinklaw44.StreamMemory", spec := "streamMemory", apart := false, narrowed := true }
def StreamMemoryUptoSaid : Prop := streamMemoryUptoRow.holds Try.pinned (OpenSpec.upto streamMemorySpec)

/-- 'fairlinklaw44.StreamReads', WHERE WHAT IT READS IS OF BULK AT MOST 1048576: true; the input reads as it did. -/
def streamReadsUptoRow : OpenClaim := { program := "ytebhcmgfhkjmcaa", sum := "8ff36c30c2d3b8ccc707c1c1a3f50ea0a5ea76de3073b12b402b9eed60bdf8b5", func := "fairlink/fairlinklaw44.StreamReads", spec := "streamReads", apart := false, narrowed := true }
def StreamReadsUptoSaid : Prop := streamReadsUptoRow.holds Try.pinned (OpenSpec.upto streamReadsSpec)

/-- 'fairlinklaw44.StreamWindow', WHERE WHAT IT READS IS OF BULK AT MOST 1048576: true; the input reads as it did. -/
def streamWindowUptoRow : OpenClaim := { program := "ytebhcmgfhkjmcaa", sum := "8ff36c30c2d3b8ccc707c1c1a3f50ea0a5ea76de3073b12b402b9eed60bdf8b5", func := "fairlink/fairlinklaw44.StreamWindow", spec := "streamWindow", apart := false, narrowed := true }
def StreamWindowUptoSaid : Prop := streamWindowUptoRow.holds Try.pinned (OpenSpec.upto streamWindowSpec)

/-- 'fairlinklaw44.StreamRepeats', WHERE WHAT IT READS IS OF BULK AT MOST 1048576: true; the input reads as it did. -/
def streamRepeatsUptoRow : OpenClaim := { program := "ytebhcmgfhkjmcaa", sum := "8ff36c30c2d3b8ccc707c1c1a3f50ea0a5ea76de3073b12b402b9eed60bdf8b5", func := "fairlink/fairlinklaw44.StreamRepeats", spec := "streamRepeats", apart := false, narrowed := true }
def StreamRepeatsUptoSaid : Prop := streamRepeatsUptoRow.holds Try.pinned (OpenSpec.upto streamRepeatsSpec)

/-- 'fairlinklaw44.StreamCompletes', WHERE WHAT IT READS IS OF BULK AT MOST 1048576: true; the input reads as it did. -/
def streamCompletesUptoRow : OpenClaim := { program := "ytebhcmgfhkjmcaa", sum := "8ff36c30c2d3b8ccc707c1c1a3f50ea0a5ea76de3073b12b402b9eed60bdf8b5", func := "fairlink/fairlinklaw44.StreamCompletes", spec := "streamCompletes", apart := false, narrowed := true }
def StreamCompletesUptoSaid : Prop := streamCompletesUptoRow.holds Try.pinned (OpenSpec.upto streamCompletesSpec)

/-- 'fairlinklaw44.StreamNil', WHERE WHAT IT READS IS OF BULK AT MOST 1048576: true; the input reads as it did. -/
def streamNilUptoRow : OpenClaim := { program := "ytebhcmgfhkjmcaa", sum := "8ff36c30c2d3b8ccc707c1c1a3f50ea0a5ea76de3073b12b402b9eed60bdf8b5", func := "fairlink/fairlinklaw44.StreamNil", spec := "streamNil", apart := false, narrowed := true }
def StreamNilUptoSaid : Prop := streamNilUptoRow.holds Try.pinned (OpenSpec.upto streamNilSpec)

/-- 'fairlinklaw44.StreamPrefix', WHERE WHAT IT READS IS OF BULK AT MOST 1048576: true; the input reads as it did. -/
def streamPrefixUptoRow : OpenClaim := { program := "ytebhcmgfhkjmcaa", sum := "8ff36c30c2d3b8ccc707c1c1a3f50ea0a5ea76de3073b12b402b9eed60bdf8b5", func := "fairlink/fairlinklaw44.StreamPrefix", spec := "streamPrefix", apart := false, narrowed := true }
def StreamPrefixUptoSaid : Prop := streamPrefixUptoRow.holds Try.pinned (OpenSpec.upto streamPrefixSpec)

end Rows
end Go.Proofs.Ytebhcmgfhkjmcaa
