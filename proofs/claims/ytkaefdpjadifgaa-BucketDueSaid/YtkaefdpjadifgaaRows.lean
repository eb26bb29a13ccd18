/-
  No cell of these rows narrows 'for every input' (looked for: loops, veiled, ifaces, maps, wideKeys, modest, calm, conditions, laid).
  DERIVED. THE GIVEN ROWS OF THIS SEAT. 6 by the template 'for every input the law returns true; each argument reads behind the call as it read before'; 0 by the template 'total and deterministic' (their statements: YtkaefdpjadifgaaTotals.lean).
  GIVEN WITH THE SEED: the statements are not yours to turn. If you find one false, say at which input.
  Laid BY PROGRAM, IN A SANDBOX (cutbox-rows.mjs): the forced cells as the released guide's own fill.sh prints them over the translation a05af979a1db4402… (all of the seat's roots in one cut). By AI agents, Wed Nov 11 2026. No macro, syntax, notation, axiom, sorry.
-/
import Derived.Test.YtkaefdpjadifgaaChecked
import GoSem.Claim
import GoSem.ClaimJoined
import GoSem.ClaimMapViews
import Derived.JoinedTies
import Derived.KernelRfl
namespace Go.Proofs.Ytkaefdpjadifgaa
/- THE CELL 'sum', in the pinned program and in every row, IS THE sha256 OF THE DUMP (.gsa) THAT YtkaefdpjadifgaaProg.lean LOADS. Nothing in Lean hashes anything: it is a label: what it is worth is what the hold of that sum in a sandbox is worth. -/
noncomputable def Try.pinned : Pinned := { name := "ytkaefdpjadifgaa", sum := "a05af979a1db440231a8e0089b8b434f7fda6d9e8554b8a51b68044c1511b235", checked := Try.checked }
namespace Rows
def none {H : Type} : Left H := { results := [], args := [] }

/-- 'trunklinelaw05.BucketWindows': WHATEVER THE INPUT: true; the input reads as it did. -/
def bucketWindowsSpec : ChangeSpec := { name := "bucketWindows", fn := fun _ => fun
  | [d1, d2, d3] => { results := [.lit (.bool true)], args := [d1, d2, d3] }
  | _ => none }
def bucketWindowsRow : OpenClaim := { program := "ytkaefdpjadifgaa", sum := "a05af979a1db440231a8e0089b8b434f7fda6d9e8554b8a51b68044c1511b235", func := "trunkline/trunklinelaw05.BucketWindows", spec := "bucketWindows", apart := false }
def BucketWindowsSaid : Prop := bucketWindowsRow.holds Try.pinned (OpenSpec.ofChange bucketWindowsSpec)

/-- ITS FALSE NEIGHBOUR: 'it returns false'. Refute it at one input. -/
def bucketWindowsWrong : ChangeSpec := { name := "bucketWindows", fn := fun _ => fun
  | [d1, d2, d3] => { results := [.lit (.bool false)], args := [d1, d2, d3] }
  | _ => none }
def BucketWindowsWrongFalsely : Prop := bucketWindowsRow.holds Try.pinned (OpenSpec.ofChange bucketWindowsWrong)

/-- 'trunklinelaw05.BucketSpaced': WHATEVER THE INPUT: true; the input reads as it did. -/
def bucketSpacedSpec : ChangeSpec := { name := "bucketSpaced", fn := fun _ => fun
  | [d1, d2, d3, d4] => { results := [.lit (.bool true)], args := [d1, d2, d3, d4] }
  | _ => none }
def bucketSpacedRow : OpenClaim := { program := "ytkaefdpjadifgaa", sum := "a05af979a1db440231a8e0089b8b434f7fda6d9e8554b8a51b68044c1511b235", func := "trunkline/trunklinelaw05.BucketSpaced", spec := "bucketSpaced", apart := false }
def BucketSpacedSaid : Prop := bucketSpacedRow.holds Try.pinned (OpenSpec.ofChange bucketSpacedSpec)

/-- ITS FALSE NEIGHBOUR: 'it returns false'. Refute it at one input. -/
def bucketSpacedWrong : ChangeSpec := { name := "bucketSpaced", fn := fun _ => fun
  | [d1, d2, d3, d4] => { results := [.lit (.bool false)], args := [d1, d2, d3, d4] }
  | _ => none }
def BucketSpacedWrongFalsely : Prop := bucketSpacedRow.holds Try.pinned (OpenSpec.ofChange bucketSpacedWrong)

/-- 'trunklinelaw05.BucketSchedules': WHATEVER THE INPUT: true; the input reads as it did. -/
def bucketSchedulesSpec : ChangeSpec := { name := "bucketSchedules", fn := fun _ => fun
  | [d1, d2, d3] => { results := [.lit (.bool true)], args := [d1, d2, d3] }
  | _ => none }
def bucketSchedulesRow : OpenClaim := { program := "ytkaefdpjadifgaa", sum := "a05af979a1db440231a8e0089b8b434f7fda6d9e8554b8a51b68044c1511b235", func := "trunkline/trunklinelaw05.BucketSchedules", spec := "bucketSchedules", apart := false }
def BucketSchedulesSaid : Prop := bucketSchedulesRow.holds Try.pinned (OpenSpec.ofChange bucketSchedulesSpec)

/-- ITS FALSE NEIGHBOUR: 'it returns false'. Refute it at one input. -/
def bucketSchedulesWrong : ChangeSpec := { name := "bucketSchedules", fn := fun _ => fun
  | [d1, d2, d3] => { results := [.lit (.bool false)], args := [d1, d2, d3] }
  | _ => none }
def BucketSchedulesWrongFalsely : Prop := bucketSchedulesRow.holds Try.pinned (OpenSpec.ofChange bucketSchedulesWrong)

/-- 'trunklinelaw05.BucketShift': WHATEVER THE INPUT: true; the input reads as it did. -/
def bucketShiftSpec : ChangeSpec := { name := "bucketShift", fn := fun _ => fun
  | [d1, d2, d3, d4] => { results := [.lit (.bool true)], args := [d1, d2, d3, d4] }
  | _ => none }
def bucketShiftRow : OpenClaim := { program := "ytkaefdpjadifgaa", sum := "a05af979a1db440231a8e0089b8b434f7fda6d9e8554b8a51b68044c1511b235", func := "trunkline/trunklinelaw05.BucketShift", spec := "bucketShift", apart := false }
def BucketShiftSaid : Prop := bucketShiftRow.holds Try.pinned (OpenSpec.ofChange bucketShiftSpec)

/-- ITS FALSE NEIGHBOUR: 'it returns false'. Refute it at one input. -/
def bucketShiftWrong : ChangeSpec := { name := "bucketShift", fn := fun _ => fun
  | [d1, d2, d3, d4] => { results := [.lit (.bool false)], args := [d1, d2, d3, d4] }
  | _ => none }
def BucketShiftWrongFalsely : Prop := bucketShiftRow.holds Try.pinned (OpenSpec.ofChange bucketShiftWrong)

/-- 'trunklinelaw05.BucketDue': WHATEVER THE INPUT: true; the input reads as it did. -/
def bucketDueSpec : ChangeSpec := { name := "bucketDue", fn := fun _ => fun
  | [d1, d2, d3, d4] => { results := [.lit (.bool true)], args := [d1, d2, d3, d4] }
  | _ => none }
def bucketDueRow : OpenClaim := { program := "ytkaefdpjadifgaa", sum := "a05af979a1db440231a8e0089b8b434f7fda6d9e8554b8a51b68044c1511b235", func := "trunkline/trunklinelaw05.BucketDue", spec := "bucketDue", apart := false }
def BucketDueSaid : Prop := bucketDueRow.holds Try.pinned (OpenSpec.ofChange bucketDueSpec)

/-- ITS FALSE NEIGHBOUR: 'it returns false'. Refute it at one input. -/
def bucketDueWrong : ChangeSpec := { name := "bucketDue", fn := fun _ => fun
  | [d1, d2, d3, d4] => { results := [.lit (.bool false)], args := [d1, d2, d3, d4] }
  | _ => none }
def BucketDueWrongFalsely : Prop := bucketDueRow.holds Try.pinned (OpenSpec.ofChange bucketDueWrong)

/-- 'trunklinelaw05.BucketNil': WHATEVER THE INPUT: true; the input reads as it did. -/
def bucketNilSpec : ChangeSpec := { name := "bucketNil", fn := fun _ => fun
  | [d] => { results := [.lit (.bool true)], args := [d] }
  | _ => none }
def bucketNilRow : OpenClaim := { program := "ytkaefdpjadifgaa", sum := "a05af979a1db440231a8e0089b8b434f7fda6d9e8554b8a51b68044c1511b235", func := "trunkline/trunklinelaw05.BucketNil", spec := "bucketNil", apart := false }
def BucketNilSaid : Prop := bucketNilRow.holds Try.pinned (OpenSpec.ofChange bucketNilSpec)

/-- ITS FALSE NEIGHBOUR: 'it returns false'. Refute it at one input. -/
def bucketNilWrong : ChangeSpec := { name := "bucketNil", fn := fun _ => fun
  | [d] => { results := [.lit (.bool false)], args := [d] }
  | _ => none }
def BucketNilWrongFalsely : Prop := bucketNilRow.holds Try.pinned (OpenSpec.ofChange bucketNilWrong)

/- THE SECOND FORM. 'bulk': how many values and letters a reading holds, each counted each time it is reached (what is shared counts as often as it is met; a slice's spare places count too). A statement '..UptoSaid' is the law's where the arguments, and the package variables that the reading takes, are together of bulk at most 1048576: NARROWER than '..Said'. Prove '..Said' where nothing that the law and all that it calls make is longer than what came in: it says more and counts as full. Else prove '..UptoSaid'. A law counts once. -/
mutual
def uptoBulk {H : Type} : DataW H → Nat
  | .lit (.string bytes) => bytes.length + 1
  | .lit _ => 1
  | .nil => 1
  | .ptr d => uptoBulk d + 1
  | .slice elems spare => uptoBulkAll elems + uptoBulkAll spare + 1
  | .agg parts => uptoBulkAll parts + 1
  | .iface _ d => uptoBulk d + 1
  | .map entries => uptoBulkEntries entries + 1
  | .held _ => 1
def uptoBulkAll {H : Type} : List (DataW H) → Nat
  | [] => 0
  | d :: r => uptoBulk d + uptoBulkAll r
def uptoBulkEntries {H : Type} : List (Lit × DataW H) → Nat
  | [] => 0
  | x :: r => uptoBulkEntry x + uptoBulkEntries r
def uptoBulkEntry {H : Type} : Lit × DataW H → Nat
  | (.string bytes, d) => bytes.length + uptoBulk d + 1
  | (_, d) => uptoBulk d + 1
 end
def uptoSmall : (H : Type) → List (DataW H) → Bool := fun _ ds => decide (uptoBulkAll ds ≤ 1048576)
def OpenSpec.upto (s : _root_.Go.ChangeSpec) : _root_.Go.OpenSpec := { _root_.Go.OpenSpec.ofChange s with cond := some uptoSmall }

/-- 'trunklinelaw05.BucketWindows', WHERE WHAT IT READS IS OF BULK AT MOST 1048576: true; the input reads as it did. -/
def bucketWindowsUptoRow : OpenClaim := { program := "ytkaefdpjadifgaa", sum := "a05af979a1db440231a8e0089b8b434f7fda6d9e8554b8a51b68044c1511b235", func := "trunkline/trunklinelaw05.BucketWindows", spec := "bucketWindows", apart := false, narrowed := true }
def BucketWindowsUptoSaid : Prop := bucketWindowsUptoRow.holds Try.pinned (OpenSpec.upto bucketWindowsSpec)

/-- 'trunklinelaw05.BucketSpaced', WHERE WHAT IT READS IS OF BULK AT MOST 1048576: true; the input reads as it did. -/
def bucketSpacedUptoRow : OpenClaim := { program := "ytkaefdpjadifgaa", sum := "a05af979a1db440231a8e0089b8b434f7fda6d9e8554b8a51b68044c1511b235", func := "trunkline/trunklinelaw05.BucketSpaced", spec := "bucketSpaced", apart := false, narrowed := true }
def BucketSpacedUptoSaid : Prop := bucketSpacedUptoRow.holds Try.pinned (OpenSpec.upto bucketSpacedSpec)

/-- 'trunklinelaw05.BucketSchedules', WHERE WHAT IT READS IS OF BULK AT MOST 1048576: true; the input reads as it did. -/
def bucketSchedulesUptoRow : OpenClaim := { program := "ytkaefdpjadifgaa", sum := "a05af979a1db440231a8e0089b8b434f7fda6d9e8554b8a51b68044c1511b235", func := "trunkline/trunklinelaw05.BucketSchedules", spec := "bucketSchedules", apart := false, narrowed := true }
def BucketSchedulesUptoSaid : Prop := bucketSchedulesUptoRow.holds Try.pinned (OpenSpec.upto bucketSchedulesSpec)

/-- 'trunklinelaw05.BucketShift', WHERE WHAT IT READS IS OF BULK AT MOST 1048576: true; the input reads as it did. -/
def bucketShiftUptoRow : OpenClaim := { program := "ytkaefdpjadifgaa", sum := "a05af979a1db440231a8e0089b8b434f7fda6d9e8554b8a51b68044c1511b235", func := "trunkline/trunklinelaw05.BucketShift", spec := "bucketShift", apart := false, narrowed := true }
def BucketShiftUptoSaid : Prop := bucketShiftUptoRow.holds Try.pinned (OpenSpec.upto bucketShiftSpec)

/-- 'trunklinelaw05.BucketDue', WHERE WHAT IT READS IS OF BULK AT MOST 1048576: true; the input reads as it did. -/
def bucketDueUptoRow : OpenClaim := { program := "ytkaefdpjadifgaa", sum := "a05af979a1db440231a8e0089b8b434f7fda6d9e8554b8a51b68044c1511b235", func := "trunkline/trunklinelaw05.BucketDue", spec := "bucketDue", apart := false, narrowed := true }
def BucketDueUptoSaid : Prop := bucketDueUptoRow.holds Try.pinned (OpenSpec.upto bucketDueSpec)

/-- 'trunklinelaw05.BucketNil', WHERE WHAT IT READS IS OF BULK AT MOST 1048576: true; the input reads as it did. -/
def bucketNilUptoRow : OpenClaim := { program := "ytkaefdpjadifgaa", sum := "a05af979a1db440231a8e0089b8b434f7fda6d9e8554b8a51b68044c1511b235", func := "trunkline/trunklinelaw05.BucketNil", spec := "bucketNil", apart := false, narrowed := true }
def BucketNilUptoSaid : Prop := bucketNilUptoRow.holds Try.pinned (OpenSpec.upto bucketNilSpec)

end Rows
end Go.Proofs.Ytkaefdpjadifgaa
