/-
  No cell of these rows narrows 'for every input' (looked for: loops, veiled, ifaces, maps, wideKeys, modest, calm, conditions, laid).
  DERIVED. THE GIVEN ROWS OF THIS SEAT. 6 by the template 'for every input the law returns true; each argument reads behind the call as it read before'; 0 by the template 'total and deterministic' (their statements: YtjgdbmkddmjaeaaTotals.lean).
  GIVEN WITH THE SEED: the statements are not yours to turn. If you find one false, say at which input.
  Laid BY PROGRAM, IN A SANDBOX (cutbox-rows.mjs): the forced cells as the released guide's own fill.sh prints them over the translation c9c84f3cc0e2af8c… (all of the seat's roots in one cut). By AI agents, Wed Nov 11 2026. No macro, syntax, notation, axiom, sorry.
-/
import Derived.Test.YtjgdbmkddmjaeaaChecked
import GoSem.Claim
import GoSem.ClaimJoined
import GoSem.ClaimMapViews
import Derived.JoinedTies
import Derived.KernelRfl
namespace Go.Proofs.Ytjgdbmkddmjaeaa
/- THE CELL 'sum', in the pinned program and in every row, IS THE sha256 OF THE DUMP (.gsa) THAT YtjgdbmkddmjaeaaProg.lean LOADS. Nothing in Lean hashes anything: it is a label: what it is worth is what the hold of that sum in a sandbox is worth. -/
noncomputable def Try.pinned : Pinned := { name := "ytjgdbmkddmjaeaa", sum := "c9c84f3cc0e2af8c8b541c934549301f3d58318ec211d2351c6583cf8b9d9f8f", checked := Try.checked }
namespace Rows
def none {H : Type} : Left H := { results := [], args := [] }

/-- 'trunklinelaw19.CallHolds': WHATEVER THE INPUT: true; the input reads as it did. -/
def callHoldsSpec : ChangeSpec := { name := "callHolds", fn := fun _ => fun
  | [d1, d2] => { results := [.lit (.bool true)], args := [d1, d2] }
  | _ => none }
def callHoldsRow : OpenClaim := { program := "ytjgdbmkddmjaeaa", sum := "c9c84f3cc0e2af8c8b541c934549301f3d58318ec211d2351c6583cf8b9d9f8f", func := "trunkline/trunklinelaw19.CallHolds", spec := "callHolds", unfollowed := true, recurses := true, apart := false }
def CallHoldsSaid : Prop := callHoldsRow.holds Try.pinned (OpenSpec.ofChange callHoldsSpec)

/-- ITS FALSE NEIGHBOUR: 'it returns false'. Refute it at one input. -/
def callHoldsWrong : ChangeSpec := { name := "callHolds", fn := fun _ => fun
  | [d1, d2] => { results := [.lit (.bool false)], args := [d1, d2] }
  | _ => none }
def CallHoldsWrongFalsely : Prop := callHoldsRow.holds Try.pinned (OpenSpec.ofChange callHoldsWrong)

/-- 'trunklinelaw19.CallEnds': WHATEVER THE INPUT: true; the input reads as it did. -/
def callEndsSpec : ChangeSpec := { name := "callEnds", fn := fun _ => fun
  | [d1, d2] => { results := [.lit (.bool true)], args := [d1, d2] }
  | _ => none }
def callEndsRow : OpenClaim := { program := "ytjgdbmkddmjaeaa", sum := "c9c84f3cc0e2af8c8b541c934549301f3d58318ec211d2351c6583cf8b9d9f8f", func := "trunkline/trunklinelaw19.CallEnds", spec := "callEnds", unfollowed := true, recurses := true, apart := false }
def CallEndsSaid : Prop := callEndsRow.holds Try.pinned (OpenSpec.ofChange callEndsSpec)

/-- ITS FALSE NEIGHBOUR: 'it returns false'. Refute it at one input. -/
def callEndsWrong : ChangeSpec := { name := "callEnds", fn := fun _ => fun
  | [d1, d2] => { results := [.lit (.bool false)], args := [d1, d2] }
  | _ => none }
def CallEndsWrongFalsely : Prop := callEndsRow.holds Try.pinned (OpenSpec.ofChange callEndsWrong)

/-- 'trunklinelaw19.CallTimer': WHATEVER THE INPUT: true; the input reads as it did. -/
def callTimerSpec : ChangeSpec := { name := "callTimer", fn := fun _ => fun
  | [d1, d2, d3] => { results := [.lit (.bool true)], args := [d1, d2, d3] }
  | _ => none }
def callTimerRow : OpenClaim := { program := "ytjgdbmkddmjaeaa", sum := "c9c84f3cc0e2af8c8b541c934549301f3d58318ec211d2351c6583cf8b9d9f8f", func := "trunkline/trunklinelaw19.CallTimer", spec := "callTimer", unfollowed := true, recurses := true, apart := false }
def CallTimerSaid : Prop := callTimerRow.holds Try.pinned (OpenSpec.ofChange callTimerSpec)

/-- ITS FALSE NEIGHBOUR: 'it returns false'. Refute it at one input. -/
def callTimerWrong : ChangeSpec := { name := "callTimer", fn := fun _ => fun
  | [d1, d2, d3] => { results := [.lit (.bool false)], args := [d1, d2, d3] }
  | _ => none }
def CallTimerWrongFalsely : Prop := callTimerRow.holds Try.pinned (OpenSpec.ofChange callTimerWrong)

/-- 'trunklinelaw19.CallSends': WHATEVER THE INPUT: true; the input reads as it did. -/
def callSendsSpec : ChangeSpec := { name := "callSends", fn := fun _ => fun
  | [d1, d2, d3, d4] => { results := [.lit (.bool true)], args := [d1, d2, d3, d4] }
  | _ => none }
def callSendsRow : OpenClaim := { program := "ytjgdbmkddmjaeaa", sum := "c9c84f3cc0e2af8c8b541c934549301f3d58318ec211d2351c6583cf8b9d9f8f", func := "trunkline/trunklinelaw19.CallSends", spec := "callSends", unfollowed := true, recurses := true, apart := false }
def CallSendsSaid : Prop := callSendsRow.holds Try.pinned (OpenSpec.ofChange callSendsSpec)

/-- ITS FALSE NEIGHBOUR: 'it returns false'. Refute it at one input. -/
def callSendsWrong : ChangeSpec := { name := "callSends", fn := fun _ => fun
  | [d1, d2, d3, d4] => { results := [.lit (.bool false)], args := [d1, d2, d3, d4] }
  | _ => none }
def CallSendsWrongFalsely : Prop := callSendsRow.holds Try.pinned (OpenSpec.ofChange callSendsWrong)

/-- 'trunklinelaw19.CallReaches': WHATEVER THE INPUT: true; the input reads as it did. -/
def callReachesSpec : ChangeSpec := { name := "callReaches", fn := fun _ => fun
  | [d1, d2, d3] => { results := [.lit (.bool true)], args := [d1, d2, d3] }
  | _ => none }
def callReachesRow : OpenClaim := { program := "ytjgdbmkddmjaeaa", sum := "c9c84f3cc0e2af8c8b541c934549301f3d58318ec211d2351c6583cf8b9d9f8f", func := "trunkline/trunklinelaw19.CallReaches", spec := "callReaches", unfollowed := true, recurses := true, apart := false }
def CallReachesSaid : Prop := callReachesRow.holds Try.pinned (OpenSpec.ofChange callReachesSpec)

/-- ITS FALSE NEIGHBOUR: 'it returns false'. Refute it at one input. -/
def callReachesWrong : ChangeSpec := { name := "callReaches", fn := fun _ => fun
  | [d1, d2, d3] => { results := [.lit (.bool false)], args := [d1, d2, d3] }
  | _ => none }
def CallReachesWrongFalsely : Prop := callReachesRow.holds Try.pinned (OpenSpec.ofChange callReachesWrong)

/-- 'trunklinelaw19.CallPaths': WHATEVER THE INPUT: true; the input reads as it did. -/
def callPathsSpec : ChangeSpec := { name := "callPaths", fn := fun _ => fun
  | [d1, d2, d3, d4] => { results := [.lit (.bool true)], args := [d1, d2, d3, d4] }
  | _ => none }
def callPathsRow : OpenClaim := { program := "ytjgdbmkddmjaeaa", sum := "c9c84f3cc0e2af8c8b541c934549301f3d58318ec211d2351c6583cf8b9d9f8f", func := "trunkline/trunklinelaw19.CallPaths", spec := "callPaths", unfollowed := true, recurses := true, apart := false }
def CallPathsSaid : Prop := callPathsRow.holds Try.pinned (OpenSpec.ofChange callPathsSpec)

/-- ITS FALSE NEIGHBOUR: 'it returns false'. Refute it at one input. -/
def callPathsWrong : ChangeSpec := { name := "callPaths", fn := fun _ => fun
  | [d1, d2, d3, d4] => { results := [.lit (.bool false)], args := [d1, d2, d3, d4] }
  | _ => none }
def CallPathsWrongFalsely : Prop := callPathsRow.holds Try.pinned (OpenSpec.ofChange callPathsWrong)

/- THE SECOND FORM. 'bulk': how many values and letters a reading holds, each counted each time it is reached (what is shared counts as often as it is met; a slice's spare places count too). A statement '..UptoSaid' is the law's where the arguments, and the package variables that the reading takes, are together of bulk at most 1048576: NARROWER than '..Said'. Prove '..Said' where nothing that the law and all that it calls make is longer than what came in: it says more and counts as full. Else prove '..UptoSaid'. A law counts once. -/
mutual
def uptoBulk {H : Type} : DataW H → Nat
  | .lit (.string bytes) => bytes.length + 1
  | .lit _ => 1
  | .nil => 1
  | .ptr d => uptoBulk d + 1
  | .slice elems spare => uptoBulkAll elems + uptoBulkAll spare + 1
  | .agg parts => uptoBulkAll parts + 1
  | .iface _ d => uptoBulk d + 1
  | .map entries => uptoBulkEntries entries + 1
  | .held _ => 1
def uptoBulkAll {H : Type} : List (DataW H) → Nat
  | [] => 0
  | d :: r => uptoBulk d + uptoBulkAll r
def uptoBulkEntries {H : Type} : List (Lit × DataW H) → Nat
  | [] => 0
  | x :: r => uptoBulkEntry x + uptoBulkEntries r
def uptoBulkEntry {H : Type} : Lit × DataW H → Nat
  | (.string bytes, d) => bytes.length + uptoBulk d + 1
  | (_, d) => uptoBulk d + 1
 end
def uptoSmall : (H : Type) → List (DataW H) → Bool := fun _ ds => decide (uptoBulkAll ds ≤ 1048576)
def OpenSpec.upto (s : _root_.Go.ChangeSpec) : _root_.Go.OpenSpec := { _root_.Go.OpenSpec.ofChange s with cond := some uptoSmall }

/-- 'trunklinelaw19.CallHolds', WHERE WHAT IT READS IS OF BULK AT MOST 1048576: true; the input reads as it did. -/
def callHoldsUptoRow : OpenClaim := { program := "ytjgdbmkddmjaeaa", sum := "c9c84f3cc0e2af8c8b541c934549301f3d58318ec211d2351c6583cf8b9d9f8f", func := "trunkline/trunklinelaw19.CallHolds", spec := "callHolds", unfollowed := true, recurses := true, apart := false, narrowed := true }
def CallHoldsUptoSaid : Prop := callHoldsUptoRow.holds Try.pinned (OpenSpec.upto callHoldsSpec)

/-- 'trunklinelaw19.CallEnds', WHERE WHAT IT READS IS OF BULK AT MOST 1048576: true; the input reads as it did. -/
def callEndsUptoRow : OpenClaim := { program := "ytjgdbmkddmjaeaa", sum := "c9c84f3cc0e2af8c8b541c934549301f3d58318ec211d2351c6583cf8b9d9f8f", func := "trunkline/trunklinelaw19.CallEnds", spec := "callEnds", unfollowed := true, recurses := true, apart := false, narrowed := true }
def CallEndsUptoSaid : Prop := callEndsUptoRow.holds Try.pinned (OpenSpec.upto callEndsSpec)

/-- 'trunklinelaw19.CallTimer', WHERE WHAT IT READS IS OF BULK AT MOST 1048576: true; the input reads as it did. -/
def callTimerUptoRow : OpenClaim := { program := "ytjgdbmkddmjaeaa", sum := "c9c84f3cc0e2af8c8b541c934549301f3d58318ec211d2351c6583cf8b9d9f8f", func := "trunkline/trunklinelaw19.CallTimer", spec := "callTimer", unfollowed := true, recurses := true, apart := false, narrowed := true }
def CallTimerUptoSaid : Prop := callTimerUptoRow.holds Try.pinned (OpenSpec.upto callTimerSpec)

/-- 'trunklinelaw19.CallSends', WHERE WHAT IT READS IS OF BULK AT MOST 1048576: true; the input reads as it did. -/
def callSendsUptoRow : OpenClaim := { program := "ytjgdbmkddmjaeaa", sum := "c9c84f3cc0e2af8c8b541c934549301f3d58318ec211d2351c6583cf8b9d9f8f", func := "trunkline/trunklinelaw19.CallSends", spec := "callSends", unfollowed := true, recurses := true, apart := false, narrowed := true }
def CallSendsUptoSaid : Prop := callSendsUptoRow.holds Try.pinned (OpenSpec.upto callSendsSpec)

/-- 'trunklinelaw19.CallReaches', WHERE WHAT IT READS IS OF BULK AT MOST 1048576: true; the input reads as it did. -/
def callReachesUptoRow : OpenClaim := { program := "ytjgdbmkddmjaeaa", sum := "c9c84f3cc0e2af8c8b541c934549301f3d58318ec211d2351c6583cf8b9d9f8f", func := "trunkline/trunklinelaw19.CallReaches", spec := "callReaches", unfollowed := true, recurses := true, apart := false, narrowed := true }
def CallReachesUptoSaid : Prop := callReachesUptoRow.holds Try.pinned (OpenSpec.upto callReachesSpec)

/-- 'trunklinelaw19.CallPaths', WHERE WHAT IT READS IS OF BULK AT MOST 1048576: true; the input reads as it did. -/
def callPathsUptoRow : OpenClaim := { program := "ytjgdbmkddmjaeaa", sum := "c9c84f3cc0e2af8c8b541c934549301f3d58318ec211d2351c6583cf8b9d9f8f", func := "trunkline/trunklinelaw19.CallPaths", spec := "callPaths", unfollowed := true, recurses := true, apart := false, narrowed := true }
def CallPathsUptoSaid : Prop := callPathsUptoRow.holds Try.pinned (OpenSpec.upto callPathsSpec)

end Rows
end Go.Proofs.Ytjgdbmkddmjaeaa
