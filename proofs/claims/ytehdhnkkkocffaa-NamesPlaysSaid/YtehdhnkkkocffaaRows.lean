/-
  No cell of these rows narrows 'for every input' (looked for: loops, veiled, ifaces, maps, wideKeys, modest, calm, conditions, laid).
  DERIVED. THE GIVEN ROWS OF THIS SEAT. 9 by the template 'for every input the law returns true; each argument reads behind the call as it read before'; 0 by the template 'total and deterministic' (their statements: YtehdhnkkkocffaaTotals.lean).
  GIVEN WITH THE SEED: the statements are not yours to turn. If you find one false, say at which input.
  Laid BY PROGRAM, IN A SANDBOX (cutbox-rows.mjs): the forced cells as the released guide's own fill.sh prints them over the translation e580f4533da40c8b… (all of the seat's roots in one cut). By AI agents, Wed Nov 11 2026. No macro, syntax, notation, axiom, sorry.
-/
import Derived.Test.YtehdhnkkkocffaaChecked
import GoSem.Claim
import GoSem.ClaimJoined
import GoSem.ClaimMapViews
import Derived.JoinedTies
import Derived.KernelRfl
namespace Go.Proofs.Ytehdhnkkkocffaa
/- THE CELL 'sum', in the pinned program and in every row, IS THE sha256 OF THE DUMP (.gsa) THAT YtehdhnkkkocffaaProg.lean LOADS. Nothing in Lean hashes anything: it is a label: what it is worth is what the hold of that sum in a sandbox is worth. -/
noncomputable def Try.pinned : Pinned := { name := "ytehdhnkkkocffaa", sum := "e580f4533da40c8b6592571b34b205238e99551ced6c98d9b3249cb08d3b8ea6", checked := Try.checked }
namespace Rows
def none {H : Type} : Left H := { results := [], args := [] }

/-- 'fairlinklaw40.NamesVersions': WHATEVER THE INPUT: true; the input reads as it did. -/
def namesVersionsSpec : ChangeSpec := { name := "namesVersions", fn := fun _ => fun
  | [d] => { results := [.lit (.bool true)], args := [d] }
  | _ => none }
def namesVersionsRow : OpenClaim := { program := "ytehdhnkkkocffaa", sum := "e580f4533da40c8b6592571b34b205238e99551ced6c98d9b3249cb08d3b8ea6", func := "fairlink/fairlinklaw40.NamesVersions", spec := "namesVersions", apart := false }
def NamesVersionsSaid : Prop := namesVersionsRow.holds Try.pinned (OpenSpec.ofChange namesVersionsSpec)

/-- ITS FALSE NEIGHBOUR: 'it returns false'. Refute it at one input. -/
def namesVersionsWrong : ChangeSpec := { name := "namesVersions", fn := fun _ => fun
  | [d] => { results := [.lit (.bool false)], args := [d] }
  | _ => none }
def NamesVersionsWrongFalsely : Prop := namesVersionsRow.holds Try.pinned (OpenSpec.ofChange namesVersionsWrong)

/-- 'fairlinklaw40.NamesApart': WHATEVER THE INPUT: true; the input reads as it did. -/
def namesApartSpec : ChangeSpec := { name := "namesApart", fn := fun _ => fun
  | [d1, d2] => { results := [.lit (.bool true)], args := [d1, d2] }
  | _ => none }
def namesApartRow : OpenClaim := { program := "ytehdhnkkkocffaa", sum := "e580f4533da40c8b6592571b34b205238e99551ced6c98d9b3249cb08d3b8ea6", func := "fairlink/fairlinklaw40.NamesApart", spec := "namesApart", apart := false }
def NamesApartSaid : Prop := namesApartRow.holds Try.pinned (OpenSpec.ofChange namesApartSpec)

/-- ITS FALSE NEIGHBOUR: 'it returns false'. Refute it at one input. -/
def namesApartWrong : ChangeSpec := { name := "namesApart", fn := fun _ => fun
  | [d1, d2] => { results := [.lit (.bool false)], args := [d1, d2] }
  | _ => none }
def NamesApartWrongFalsely : Prop := namesApartRow.holds Try.pinned (OpenSpec.ofChange namesApartWrong)

/-- 'fairlinklaw40.NamesStale': WHATEVER THE INPUT: true; the input reads as it did. -/
def namesStaleSpec : ChangeSpec := { name := "namesStale", fn := fun _ => fun
  | [d1, d2, d3, d4] => { results := [.lit (.bool true)], args := [d1, d2, d3, d4] }
  | _ => none }
def namesStaleRow : OpenClaim := { program := "ytehdhnkkkocffaa", sum := "e580f4533da40c8b6592571b34b205238e99551ced6c98d9b3249cb08d3b8ea6", func := "fairlink/fairlinklaw40.NamesStale", spec := "namesStale", apart := false }
def NamesStaleSaid : Prop := namesStaleRow.holds Try.pinned (OpenSpec.ofChange namesStaleSpec)

/-- ITS FALSE NEIGHBOUR: 'it returns false'. Refute it at one input. -/
def namesStaleWrong : ChangeSpec := { name := "namesStale", fn := fun _ => fun
  | [d1, d2, d3, d4] => { results := [.lit (.bool false)], args := [d1, d2, d3, d4] }
  | _ => none }
def NamesStaleWrongFalsely : Prop := namesStaleRow.holds Try.pinned (OpenSpec.ofChange namesStaleWrong)

/-- 'fairlinklaw40.NamesValid': WHATEVER THE INPUT: true; the input reads as it did. -/
def namesValidSpec : ChangeSpec := { name := "namesValid", fn := fun _ => fun
  | [d1, d2, d3, d4] => { results := [.lit (.bool true)], args := [d1, d2, d3, d4] }
  | _ => none }
def namesValidRow : OpenClaim := { program := "ytehdhnkkkocffaa", sum := "e580f4533da40c8b6592571b34b205238e99551ced6c98d9b3249cb08d3b8ea6", func := "fairlink/fairlinklaw40.NamesValid", spec := "namesValid", apart := false }
def NamesValidSaid : Prop := namesValidRow.holds Try.pinned (OpenSpec.ofChange namesValidSpec)

/-- ITS FALSE NEIGHBOUR: 'it returns false'. Refute it at one input. -/
def namesValidWrong : ChangeSpec := { name := "namesValid", fn := fun _ => fun
  | [d1, d2, d3, d4] => { results := [.lit (.bool false)], args := [d1, d2, d3, d4] }
  | _ => none }
def NamesValidWrongFalsely : Prop := namesValidRow.holds Try.pinned (OpenSpec.ofChange namesValidWrong)

/-- 'fairlinklaw40.NamesMost': WHATEVER THE INPUT: true; the input reads as it did. -/
def namesMostSpec : ChangeSpec := { name := "namesMost", fn := fun _ => fun
  | [d] => { results := [.lit (.bool true)], args := [d] }
  | _ => none }
def namesMostRow : OpenClaim := { program := "ytehdhnkkkocffaa", sum := "e580f4533da40c8b6592571b34b205238e99551ced6c98d9b3249cb08d3b8ea6", func := "fairlink/fairlinklaw40.NamesMost", spec := "namesMost", unfollowed := true, recurses := true, apart := false }
def NamesMostSaid : Prop := namesMostRow.holds Try.pinned (OpenSpec.ofChange namesMostSpec)

/-- ITS FALSE NEIGHBOUR: 'it returns false'. Refute it at one input. -/
def namesMostWrong : ChangeSpec := { name := "namesMost", fn := fun _ => fun
  | [d] => { results := [.lit (.bool false)], args := [d] }
  | _ => none }
def NamesMostWrongFalsely : Prop := namesMostRow.holds Try.pinned (OpenSpec.ofChange namesMostWrong)

/-- 'fairlinklaw40.NamesLeases': WHATEVER THE INPUT: true; the input reads as it did. -/
def namesLeasesSpec : ChangeSpec := { name := "namesLeases", fn := fun _ => fun
  | [d1, d2, d3] => { results := [.lit (.bool true)], args := [d1, d2, d3] }
  | _ => none }
def namesLeasesRow : OpenClaim := { program := "ytehdhnkkkocffaa", sum := "e580f4533da40c8b6592571b34b205238e99551ced6c98d9b3249cb08d3b8ea6", func := "fairlink/fairlinklaw40.NamesLeases", spec := "namesLeases", unfollowed := true, recurses := true, apart := false }
def NamesLeasesSaid : Prop := namesLeasesRow.holds Try.pinned (OpenSpec.ofChange namesLeasesSpec)

/-- ITS FALSE NEIGHBOUR: 'it returns false'. Refute it at one input. -/
def namesLeasesWrong : ChangeSpec := { name := "namesLeases", fn := fun _ => fun
  | [d1, d2, d3] => { results := [.lit (.bool false)], args := [d1, d2, d3] }
  | _ => none }
def NamesLeasesWrongFalsely : Prop := namesLeasesRow.holds Try.pinned (OpenSpec.ofChange namesLeasesWrong)

/-- 'fairlinklaw40.NamesNil': WHATEVER THE INPUT: true; the input reads as it did. -/
def namesNilSpec : ChangeSpec := { name := "namesNil", fn := fun _ => fun
  | [d] => { results := [.lit (.bool true)], args := [d] }
  | _ => none }
def namesNilRow : OpenClaim := { program := "ytehdhnkkkocffaa", sum := "e580f4533da40c8b6592571b34b205238e99551ced6c98d9b3249cb08d3b8ea6", func := "fairlink/fairlinklaw40.NamesNil", spec := "namesNil", recurses := true, apart := false }
def NamesNilSaid : Prop := namesNilRow.holds Try.pinned (OpenSpec.ofChange namesNilSpec)

/-- ITS FALSE NEIGHBOUR: 'it returns false'. Refute it at one input. -/
def namesNilWrong : ChangeSpec := { name := "namesNil", fn := fun _ => fun
  | [d] => { results := [.lit (.bool false)], args := [d] }
  | _ => none }
def NamesNilWrongFalsely : Prop := namesNilRow.holds Try.pinned (OpenSpec.ofChange namesNilWrong)

/-- 'fairlinklaw40.NamesPlays': WHATEVER THE INPUT: true; the input reads as it did. -/
def namesPlaysSpec : ChangeSpec := { name := "namesPlays", fn := fun _ => fun
  | [d1, d2] => { results := [.lit (.bool true)], args := [d1, d2] }
  | _ => none }
def namesPlaysRow : OpenClaim := { program := "ytehdhnkkkocffaa", sum := "e580f4533da40c8b6592571b34b205238e99551ced6c98d9b3249cb08d3b8ea6", func := "fairlink/fairlinklaw40.NamesPlays", spec := "namesPlays", recurses := true, apart := false }
def NamesPlaysSaid : Prop := namesPlaysRow.holds Try.pinned (OpenSpec.ofChange namesPlaysSpec)

/-- ITS FALSE NEIGHBOUR: 'it returns false'. Refute it at one input. -/
def namesPlaysWrong : ChangeSpec := { name := "namesPlays", fn := fun _ => fun
  | [d1, d2] => { results := [.lit (.bool false)], args := [d1, d2] }
  | _ => none }
def NamesPlaysWrongFalsely : Prop := namesPlaysRow.holds Try.pinned (OpenSpec.ofChange namesPlaysWrong)

/-- 'fairlinklaw40.NamesFails': WHATEVER THE INPUT: true; the input reads as it did. -/
def namesFailsSpec : ChangeSpec := { name := "namesFails", fn := fun _ => fun
  | [d] => { results := [.lit (.bool true)], args := [d] }
  | _ => none }
def namesFailsRow : OpenClaim := { program := "ytehdhnkkkocffaa", sum := "e580f4533da40c8b6592571b34b205238e99551ced6c98d9b3249cb08d3b8ea6", func := "fairlink/fairlinklaw40.NamesFails", spec := "namesFails", recurses := true, apart := false }
def NamesFailsSaid : Prop := namesFailsRow.holds Try.pinned (OpenSpec.ofChange namesFailsSpec)

/-- ITS FALSE NEIGHBOUR: 'it returns false'. Refute it at one input. -/
def namesFailsWrong : ChangeSpec := { name := "namesFails", fn := fun _ => fun
  | [d] => { results := [.lit (.bool false)], args := [d] }
  | _ => none }
def NamesFailsWrongFalsely : Prop := namesFailsRow.holds Try.pinned (OpenSpec.ofChange namesFailsWrong)

/- THE SECOND FORM. 'bulk': how many values and letters a reading holds, each counted each time it is reached (what is shared counts as often as it is met; a slice's spare places count too). A statement '..UptoSaid' is the law's where the arguments, and the package variables that the reading takes, are together of bulk at most 1048576: NARROWER than '..Said'. Prove '..Said' where nothing that the law and all that it calls make is longer than what came in: it says more and counts as full. Else prove '..UptoSaid'. A law counts once. -/
mutual
def uptoBulk {H : Type} : DataW H → Nat
  | .lit (.string bytes) => bytes.length + 1
  | .lit _ => 1
  | .nil => 1
  | .ptr d => uptoBulk d + 1
  | .slice elems spare => uptoBulkAll elems + uptoBulkAll spare + 1
  | .agg parts => uptoBulkAll parts + 1
  | .iface _ d => uptoBulk d + 1
  | .map entries => uptoBulkEntries entries + 1
  | .held _ => 1
def uptoBulkAll {H : Type} : List (DataW H) → Nat
  | [] => 0
  | d :: r => uptoBulk d + uptoBulkAll r
def uptoBulkEntries {H : Type} : List (Lit × DataW H) → Nat
  | [] => 0
  | x :: r => uptoBulkEntry x + uptoBulkEntries r
def uptoBulkEntry {H : Type} : Lit × DataW H → Nat
  | (.string bytes, d) => bytes.length + uptoBulk d + 1
  | (_, d) => uptoBulk d + 1
 end
def uptoSmall : (H : Type) → List (DataW H) → Bool := fun _ ds => decide (uptoBulkAll ds ≤ 1048576)
def OpenSpec.upto (s : _root_.Go.ChangeSpec) : _root_.Go.OpenSpec := { _root_.Go.OpenSpec.ofChange s with cond := some uptoSmall }

/-- 'fairlinklaw40.NamesVersions', WHERE WHAT IT READS IS OF BULK AT MOST 1048576: true; the input reads as it did. -/
def namesVersionsUptoRow : OpenClaim := { program := "ytehdhnkkkocffaa", sum := "e580f4533da40c8b6592571b34b205238e99551ced6c98d9b3249cb08d3b8ea6", func := "fairlink/fairlinklaw40.NamesVersions", spec := "namesVersions", apart := false, narrowed := true }
def NamesVersionsUptoSaid : Prop := namesVersionsUptoRow.holds Try.pinned (OpenSpec.upto namesVersionsSpec)

/-- 'fairlinklaw40.NamesApart', WHERE WHAT IT READS IS OF BULK AT MOST 1048576: true; the input reads as it did. -/
def namesApartUptoRow : OpenClaim := { program := "ytehdhnkkkocffaa", sum := "e580f4533da40c8b6592571b34b205238e99551ced6c98d9b3249cb08d3b8ea6", func := "fairlink/fairlinklaw40.NamesApart", spec := "namesApart", apart := false, narrowed := true }
def NamesApartUptoSaid : Prop := namesApartUptoRow.holds Try.pinned (OpenSpec.upto namesApartSpec)

/-- 'fairlinklaw40.NamesStale', WHERE WHAT IT READS IS OF BULK AT MOST 1048576: true; the input reads as it did. -/
def namesStaleUptoRow : OpenClaim := { program := "ytehdhnkkkocffaa", sum := "e580f4533da40c8b6592571b34b205238e99551ced6c98d9b3249cb08d3b8ea6", func := "fairlink/fairlinklaw40.NamesStale", spec := "namesStale", apart := false, narrowed := true }
def NamesStaleUptoSaid : Prop := namesStaleUptoRow.holds Try.pinned (OpenSpec.upto namesStaleSpec)

/-- 'fairlinklaw40.NamesValid', WHERE WHAT IT READS IS OF BULK AT MOST 1048576: true; the input reads as it did. -/
def namesValidUptoRow : OpenClaim := { program := "ytehdhnkkkocffaa", sum := "e580f4533da40c8b6592571b34b205238e99551ced6c98d9b3249cb08d3b8ea6", func := "fairlink/fairlinklaw40.NamesValid", spec := "namesValid", apart := false, narrowed := true }
def NamesValidUptoSaid : Prop := namesValidUptoRow.holds Try.pinned (OpenSpec.upto namesValidSpec)

/-- 'fairlinklaw40.NamesMost', WHERE WHAT IT READS IS OF BULK AT MOST 1048576: true; the input reads as it did. -/
def namesMostUptoRow : OpenClaim := { program := "ytehdhnkkkocffaa", sum := "e580f4533da40c8b6592571b34b205238e99551ced6c98d9b3249cb08d3b8ea6", func := "fairlink/fairlinklaw40.NamesMost", spec := "namesMost", unfollowed := true, recurses := true, apart := false, narrowed := true }
def NamesMostUptoSaid : Prop := namesMostUptoRow.holds Try.pinned (OpenSpec.upto namesMostSpec)

/-- 'fairlinklaw40.NamesLeases', WHERE WHAT IT READS IS OF BULK AT MOST 1048576: true; the input reads as it did. -/
def namesLeasesUptoRow : OpenClaim := { program := "ytehdhnkkkocffaa", sum := "e580f4533da40c8b6592571b34b205238e99551ced6c98d9b3249cb08d3b8ea6", func := "fairlink/fairlinklaw40.NamesLeases", spec := "namesLeases", unfollowed := true, recurses := true, apart := false, narrowed := true }
def NamesLeasesUptoSaid : Prop := namesLeasesUptoRow.holds Try.pinned (OpenSpec.upto namesLeasesSpec)

/-- 'fairlinklaw40.NamesNil', WHERE WHAT IT READS IS OF BULK AT MOST 1048576: true; the input reads as it did. -/
def namesNilUptoRow : OpenClaim := { program := "ytehdhnkkkocffaa", sum := "e580f4533da40c8b6592571b34b205238e99551ced6c98d9b3249cb08d3b8ea6", func := "fairlink/fairlinklaw40.NamesNil", spec := "namesNil", recurses := true, apart := false, narrowed := true }
def NamesNilUptoSaid : Prop := namesNilUptoRow.holds Try.pinned (OpenSpec.upto namesNilSpec)

/-- 'fairlinklaw40.NamesPlays', WHERE WHAT IT READS IS OF BULK AT MOST 1048576: true; the input reads as it did. -/
def namesPlaysUptoRow : OpenClaim := { program := "ytehdhnkkkocffaa", sum := "e580f4533da40c8b6592571b34b205238e99551ced6c98d9b3249cb08d3b8ea6", func := "fairlink/fairlinklaw40.NamesPlays", spec := "namesPlays", recurses := true, apart := false, narrowed := true }
def NamesPlaysUptoSaid : Prop := namesPlaysUptoRow.holds Try.pinned (OpenSpec.upto namesPlaysSpec)

/-- 'fairlinklaw40.NamesFails', WHERE WHAT IT READS IS OF BULK AT MOST 1048576: true; the input reads as it did. -/
def namesFailsUptoRow : OpenClaim := { program := "ytehdhnkkkocffaa", sum := "e580f4533da40c8b6592571b34b205238e99551ced6c98d9b3249cb08d3b8ea6", func := "fairlink/fairlinklaw40.NamesFails", spec := "namesFails", recurses := true, apart := false, narrowed := true }
def NamesFailsUptoSaid : Prop := namesFailsUptoRow.holds Try.pinned (OpenSpec.upto namesFailsSpec)

end Rows
end Go.Proofs.Ytehdhnkkkocffaa
