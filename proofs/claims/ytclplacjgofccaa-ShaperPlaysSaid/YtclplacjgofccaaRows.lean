/-
  No cell of these rows narrows 'for every input' (looked for: loops, veiled, ifaces, maps, wideKeys, modest, calm, conditions, laid).
  DERIVED. THE GIVEN ROWS OF THIS SEAT. 6 by the template 'for every input the law returns true; each argument reads behind the call as it read before'; 0 by the template 'total and deterministic' (their statements: YtclplacjgofccaaTotals.lean).
  GIVEN WITH THE SEED: the statements are not yours to turn. If you find one false, say at which input.
  Laid BY PROGRAM, IN A SANDBOX (cutbox-rows.mjs): the forced cells as the released guide's own fill.sh prints them over the translation 325c4426a96a90d5… (all of the seat's roots in one cut). By AI agents, Wed Nov 11 2026. No macro, syntax, notation, axiom, sorry.
-/
import Derived.Test.YtclplacjgofccaaChecked
import GoSem.Claim
import GoSem.ClaimJoined
import GoSem.ClaimMapViews
import Derived.JoinedTies
import Derived.KernelRfl
namespace Go.Proofs.Ytclplacjgofccaa
/- THE CELL 'sum', in the pinned program and in every row, IS THE sha256 OF THE DUMP (.gsa) THAT YtclplacjgofccaaProg.lean LOADS. Nothing in Lean hashes anything: it is a label: what it is worth is what the hold of that sum in a sandbox is worth. -/
noncomputable def Try.pinned : Pinned := { name := "ytclplacjgofccaa", sum := "325c4426a96a90d5c397376c145d76c50be7abd6ac12eb529df8935d64b486b7", checked := Try.checked }
namespace Rows
def none {H : Type} : Left H := { results := [], args := [] }

/-- 'trunklinelaw08.ShaperPlays': WHATEVER THE INPUT: true; the input reads as it did. -/
def shaperPlaysSpec : ChangeSpec := { name := "shaperPlays", fn := fun _ => fun
  | [d1, d2, d3, d4, d5, d6] => { results := [.lit (.bool true)], args := [d1, d2, d3, d4, d5, d6] }
  | _ => none }
def shaperPlaysRow : OpenClaim := { program := "ytclplacjgofccaa", sum := "325c4426a96a90d5c397376c145d76c50be7abd6ac12eb529df8935d64b486b7", func := "trunkline/trunklinelaw08.ShaperPlays", spec := "shaperPlays", unfollowed := true, recurses := true, apart := false }
def ShaperPlaysSaid : Prop := shaperPlaysRow.holds Try.pinned (OpenSpec.ofChange shaperPlaysSpec)

/-- ITS FALSE NEIGHBOUR: 'it returns false'. Refute it at one input. -/
def shaperPlaysWrong : ChangeSpec := { name := "shaperPlays", fn := fun _ => fun
  | [d1, d2, d3, d4, d5, d6] => { results := [.lit (.bool false)], args := [d1, d2, d3, d4, d5, d6] }
  | _ => none }
def ShaperPlaysWrongFalsely : Prop := shaperPlaysRow.holds Try.pinned (OpenSpec.ofChange shaperPlaysWrong)

/-- 'trunklinelaw08.ShaperWindows': WHATEVER THE INPUT: true; the input reads as it did. -/
def shaperWindowsSpec : ChangeSpec := { name := "shaperWindows", fn := fun _ => fun
  | [d1, d2, d3, d4, d5, d6] => { results := [.lit (.bool true)], args := [d1, d2, d3, d4, d5, d6] }
  | _ => none }
def shaperWindowsRow : OpenClaim := { program := "ytclplacjgofccaa", sum := "325c4426a96a90d5c397376c145d76c50be7abd6ac12eb529df8935d64b486b7", func := "trunkline/trunklinelaw08.ShaperWindows", spec := "shaperWindows", unfollowed := true, recurses := true, apart := false }
def ShaperWindowsSaid : Prop := shaperWindowsRow.holds Try.pinned (OpenSpec.ofChange shaperWindowsSpec)

/-- ITS FALSE NEIGHBOUR: 'it returns false'. Refute it at one input. -/
def shaperWindowsWrong : ChangeSpec := { name := "shaperWindows", fn := fun _ => fun
  | [d1, d2, d3, d4, d5, d6] => { results := [.lit (.bool false)], args := [d1, d2, d3, d4, d5, d6] }
  | _ => none }
def ShaperWindowsWrongFalsely : Prop := shaperWindowsRow.holds Try.pinned (OpenSpec.ofChange shaperWindowsWrong)

/-- 'trunklinelaw08.ShaperLags': WHATEVER THE INPUT: true; the input reads as it did. -/
def shaperLagsSpec : ChangeSpec := { name := "shaperLags", fn := fun _ => fun
  | [d1, d2, d3, d4, d5] => { results := [.lit (.bool true)], args := [d1, d2, d3, d4, d5] }
  | _ => none }
def shaperLagsRow : OpenClaim := { program := "ytclplacjgofccaa", sum := "325c4426a96a90d5c397376c145d76c50be7abd6ac12eb529df8935d64b486b7", func := "trunkline/trunklinelaw08.ShaperLags", spec := "shaperLags", unfollowed := true, recurses := true, apart := false }
def ShaperLagsSaid : Prop := shaperLagsRow.holds Try.pinned (OpenSpec.ofChange shaperLagsSpec)

/-- ITS FALSE NEIGHBOUR: 'it returns false'. Refute it at one input. -/
def shaperLagsWrong : ChangeSpec := { name := "shaperLags", fn := fun _ => fun
  | [d1, d2, d3, d4, d5] => { results := [.lit (.bool false)], args := [d1, d2, d3, d4, d5] }
  | _ => none }
def ShaperLagsWrongFalsely : Prop := shaperLagsRow.holds Try.pinned (OpenSpec.ofChange shaperLagsWrong)

/-- 'trunklinelaw08.ShaperFull': WHATEVER THE INPUT: true; the input reads as it did. -/
def shaperFullSpec : ChangeSpec := { name := "shaperFull", fn := fun _ => fun
  | [d1, d2, d3] => { results := [.lit (.bool true)], args := [d1, d2, d3] }
  | _ => none }
def shaperFullRow : OpenClaim := { program := "ytclplacjgofccaa", sum := "325c4426a96a90d5c397376c145d76c50be7abd6ac12eb529df8935d64b486b7", func := "trunkline/trunklinelaw08.ShaperFull", spec := "shaperFull", unfollowed := true, recurses := true, apart := false }
def ShaperFullSaid : Prop := shaperFullRow.holds Try.pinned (OpenSpec.ofChange shaperFullSpec)

/-- ITS FALSE NEIGHBOUR: 'it returns false'. Refute it at one input. -/
def shaperFullWrong : ChangeSpec := { name := "shaperFull", fn := fun _ => fun
  | [d1, d2, d3] => { results := [.lit (.bool false)], args := [d1, d2, d3] }
  | _ => none }
def ShaperFullWrongFalsely : Prop := shaperFullRow.holds Try.pinned (OpenSpec.ofChange shaperFullWrong)

/-- 'trunklinelaw08.ShaperSame': WHATEVER THE INPUT: true; the input reads as it did. -/
def shaperSameSpec : ChangeSpec := { name := "shaperSame", fn := fun _ => fun
  | [d1, d2, d3, d4, d5, d6] => { results := [.lit (.bool true)], args := [d1, d2, d3, d4, d5, d6] }
  | _ => none }
def shaperSameRow : OpenClaim := { program := "ytclplacjgofccaa", sum := "325c4426a96a90d5c397376c145d76c50be7abd6ac12eb529df8935d64b486b7", func := "trunkline/trunklinelaw08.ShaperSame", spec := "shaperSame", unfollowed := true, recurses := true, apart := false }
def ShaperSameSaid : Prop := shaperSameRow.holds Try.pinned (OpenSpec.ofChange shaperSameSpec)

/-- ITS FALSE NEIGHBOUR: 'it returns false'. Refute it at one input. -/
def shaperSameWrong : ChangeSpec := { name := "shaperSame", fn := fun _ => fun
  | [d1, d2, d3, d4, d5, d6] => { results := [.lit (.bool false)], args := [d1, d2, d3, d4, d5, d6] }
  | _ => none }
def ShaperSameWrongFalsely : Prop := shaperSameRow.holds Try.pinned (OpenSpec.ofChange shaperSameWrong)

/-- 'trunklinelaw08.ShaperOne': WHATEVER THE INPUT: true; the input reads as it did. -/
def shaperOneSpec : ChangeSpec := { name := "shaperOne", fn := fun _ => fun
  | [d1, d2, d3, d4, d5] => { results := [.lit (.bool true)], args := [d1, d2, d3, d4, d5] }
  | _ => none }
def shaperOneRow : OpenClaim := { program := "ytclplacjgofccaa", sum := "325c4426a96a90d5c397376c145d76c50be7abd6ac12eb529df8935d64b486b7", func := "trunkline/trunklinelaw08.ShaperOne", spec := "shaperOne", unfollowed := true, recurses := true, apart := false }
def ShaperOneSaid : Prop := shaperOneRow.holds Try.pinned (OpenSpec.ofChange shaperOneSpec)

/-- ITS FALSE NEIGHBOUR: 'it returns false'. Refute it at one input. -/
def shaperOneWrong : ChangeSpec := { name := "shaperOne", fn := fun _ => fun
  | [d1, d2, d3, d4, d5] => { results := [.lit (.bool false)], args := [d1, d2, d3, d4, d5] }
  | _ => none }
def ShaperOneWrongFalsely : Prop := shaperOneRow.holds Try.pinned (OpenSpec.ofChange shaperOneWrong)

/- THE SECOND FORM. 'bulk': how many values and letters a reading holds, each counted each time it is reached (what is shared counts as often as it is met; a slice's spare places count too). A statement '..UptoSaid' is the law's where the arguments, and the package variables that the reading takes, are together of bulk at most 1048576: NARROWER than '..Said'. Prove '..Said' where nothing that the law and all that it calls make is longer than what came in: it says more and counts as full. Else prove '..UptoSaid'. A law counts once. -/
mutual
def uptoBulk {H : Type} : DataW H → Nat
  | .lit (.string bytes) => bytes.length + 1
  | .lit _ => 1
  | .nil => 1
  | .ptr d => uptoBulk d + 1
  | .slice elems spare => uptoBulkAll elems + uptoBulkAll spare + 1
  | .agg parts => uptoBulkAll parts + 1
  | .iface _ d => uptoBulk d + 1
  | .map entries => uptoBulkEntries entries + 1
  | .held _ => 1
def uptoBulkAll {H : Type} : List (DataW H) → Nat
  | [] => 0
  | d :: r => uptoBulk d + uptoBulkAll r
def uptoBulkEntries {H : Type} : List (Lit × DataW H) → Nat
  | [] => 0
  | x :: r => uptoBulkEntry x + uptoBulkEntries r
def uptoBulkEntry {H : Type} : Lit × DataW H → Nat
  | (.string bytes, d) => bytes.length + uptoBulk d + 1
  | (_, d) => uptoBulk d + 1
 end
def uptoSmall : (H : Type) → List (DataW H) → Bool := fun _ ds => decide (uptoBulkAll ds ≤ 1048576)
def OpenSpec.upto (s : _root_.Go.ChangeSpec) : _root_.Go.OpenSpec := { _root_.Go.OpenSpec.ofChange s with cond := some uptoSmall }

/-- 'trunklinelaw08.ShaperPlays', WHERE WHAT IT READS IS OF BULK AT MOST 1048576: true; the input reads as it did. -/
def shaperPlaysUptoRow : OpenClaim := { program := "ytclplacjgofccaa", sum := "325c4426a96a90d5c397376c145d76c50be7abd6ac12eb529df8935d64b486b7", func := "trunkline/trunklinelaw08.ShaperPlays", spec := "shaperPlays", unfollowed := true, recurses := true, apart := false, narrowed := true }
def ShaperPlaysUptoSaid : Prop := shaperPlaysUptoRow.holds Try.pinned (OpenSpec.upto shaperPlaysSpec)

/-- 'trunklinelaw08.ShaperWindows', WHERE WHAT IT READS IS OF BULK AT MOST 1048576: true; the input reads as it did. -/
def shaperWindowsUptoRow : OpenClaim := { program := "ytclplacjgofccaa", sum := "325c4426a96a90d5c397376c145d76c50be7abd6ac12eb529df8935d64b486b7", func := "trunkline/trunklinelaw08.ShaperWindows", spec := "shaperWindows", unfollowed := true, recurses := true, apart := false, narrowed := true }
def ShaperWindowsUptoSaid : Prop := shaperWindowsUptoRow.holds Try.pinned (OpenSpec.upto shaperWindowsSpec)

/-- 'trunklinelaw08.ShaperLags', WHERE WHAT IT READS IS OF BULK AT MOST 1048576: true; the input reads as it did. -/
def shaperLagsUptoRow : OpenClaim := { program := "ytclplacjgofccaa", sum := "325c4426a96a90d5c397376c145d76c50be7abd6ac12eb529df8935d64b486b7", func := "trunkline/trunklinelaw08.ShaperLags", spec := "shaperLags", unfollowed := true, recurses := true, apart := false, narrowed := true }
def ShaperLagsUptoSaid : Prop := shaperLagsUptoRow.holds Try.pinned (OpenSpec.upto shaperLagsSpec)

/-- 'trunklinelaw08.ShaperFull', WHERE WHAT IT READS IS OF BULK AT MOST 1048576: true; the input reads as it did. -/
def shaperFullUptoRow : OpenClaim := { program := "ytclplacjgofccaa", sum := "325c4426a96a90d5c397376c145d76c50be7abd6ac12eb529df8935d64b486b7", func := "trunkline/trunklinelaw08.ShaperFull", spec := "shaperFull", unfollowed := true, recurses := true, apart := false, narrowed := true }
def ShaperFullUptoSaid : Prop := shaperFullUptoRow.holds Try.pinned (OpenSpec.upto shaperFullSpec)

/-- 'trunklinelaw08.ShaperSame', WHERE WHAT IT READS IS OF BULK AT MOST 1048576: true; the input reads as it did. -/
def shaperSameUptoRow : OpenClaim := { program := "ytclplacjgofccaa", sum := "325c4426a96a90d5c397376c145d76c50be7abd6ac12eb529df8935d64b486b7", func := "trunkline/trunklinelaw08.ShaperSame", spec := "shaperSame", unfollowed := true, recurses := true, apart := false, narrowed := true }
def ShaperSameUptoSaid : Prop := shaperSameUptoRow.holds Try.pinned (OpenSpec.upto shaperSameSpec)

/-- 'trunklinelaw08.ShaperOne', WHERE WHAT IT READS IS OF BULK AT MOST 1048576: true; the input reads as it did. -/
def shaperOneUptoRow : OpenClaim := { program := "ytclplacjgofccaa", sum := "325c4426a96a90d5c397376c145d76c50be7abd6ac12eb529df8935d64b486b7", func := "trunkline/trunklinelaw08.ShaperOne", spec := "shaperOne", unfollowed := true, recurses := true, apart := false, narrowed := true }
def ShaperOneUptoSaid : Prop := shaperOneUptoRow.holds Try.pinned (OpenSpec.upto shaperOneSpec)

end Rows
end Go.Proofs.Ytclplacjgofccaa
