/-
  No cell of these rows narrows 'for every input' (looked for: loops, veiled, ifaces, maps, wideKeys, modest, calm, conditions, laid).
  DERIVED. THE GIVEN ROWS OF THIS SEAT. 6 by the template 'for every input the law returns true; each argument reads behind the call as it read before'; 0 by the template 'total and deterministic' (their statements: YthgjccbmfbileaaTotals.lean).
  GIVEN WITH THE SEED: the statements are not yours to turn. If you find one false, say at which input.
  Laid BY PROGRAM, IN A SANDBOX (cutbox-rows.mjs): the forced cells as the released guide's own fill.sh prints them over the translation c77110d16f60d642… (all of the seat's roots in one cut). By AI agents, Wed Nov 11 2026. No macro, syntax, notation, axiom, sorry.
-/
import Derived.Test.YthgjccbmfbileaaChecked
import GoSem.Claim
import GoSem.ClaimJoined
import GoSem.ClaimMapViews
import Derived.JoinedTies
import Derived.KernelRfl
namespace Go.Proofs.Ythgjccbmfbileaa
/- THE CELL 'sum', in the pinned program and in every row, IS THE sha256 OF THE DUMP (.gsa) THAT YthgjccbmfbileaaProg.lean LOADS. Nothing in Lean hashes anything: it is a label: what it is worth is what the hold of that sum in a sandbox is worth. -/
noncomputable def Try.pinned : Pinned := { name := "ythgjccbmfbileaa", sum := "c77110d16f60d6425276d21240e63fe350d38bc5f9113fd1e814d39e441fb71d", checked := Try.checked }
namespace Rows
def none {H : Type} : Left H := { results := [], args := [] }

/-- 'trunklinelaw18.LedgerFits': WHATEVER THE INPUT: true; the input reads as it did. -/
def ledgerFitsSpec : ChangeSpec := { name := "ledgerFits", fn := fun _ => fun
  | [d1, d2, d3, d4] => { results := [.lit (.bool true)], args := [d1, d2, d3, d4] }
  | _ => none }
def ledgerFitsRow : OpenClaim := { program := "ythgjccbmfbileaa", sum := "c77110d16f60d6425276d21240e63fe350d38bc5f9113fd1e814d39e441fb71d", func := "trunkline/trunklinelaw18.LedgerFits", spec := "ledgerFits", apart := false }
def LedgerFitsSaid : Prop := ledgerFitsRow.holds Try.pinned (OpenSpec.ofChange ledgerFitsSpec)

/-- ITS FALSE NEIGHBOUR: 'it returns false'. Refute it at one input. -/
def ledgerFitsWrong : ChangeSpec := { name := "ledgerFits", fn := fun _ => fun
  | [d1, d2, d3, d4] => { results := [.lit (.bool false)], args := [d1, d2, d3, d4] }
  | _ => none }
def LedgerFitsWrongFalsely : Prop := ledgerFitsRow.holds Try.pinned (OpenSpec.ofChange ledgerFitsWrong)

/-- 'trunklinelaw18.LedgerOrder': WHATEVER THE INPUT: true; the input reads as it did. -/
def ledgerOrderSpec : ChangeSpec := { name := "ledgerOrder", fn := fun _ => fun
  | [d] => { results := [.lit (.bool true)], args := [d] }
  | _ => none }
def ledgerOrderRow : OpenClaim := { program := "ythgjccbmfbileaa", sum := "c77110d16f60d6425276d21240e63fe350d38bc5f9113fd1e814d39e441fb71d", func := "trunkline/trunklinelaw18.LedgerOrder", spec := "ledgerOrder", inPlace := ["maps.clone"], unfollowed := true, recurses := true, apart := false }
def LedgerOrderSaid : Prop := ledgerOrderRow.holds Try.pinned (OpenSpec.ofChange ledgerOrderSpec)

/-- ITS FALSE NEIGHBOUR: 'it returns false'. Refute it at one input. -/
def ledgerOrderWrong : ChangeSpec := { name := "ledgerOrder", fn := fun _ => fun
  | [d] => { results := [.lit (.bool false)], args := [d] }
  | _ => none }
def LedgerOrderWrongFalsely : Prop := ledgerOrderRow.holds Try.pinned (OpenSpec.ofChange ledgerOrderWrong)

/-- 'trunklinelaw18.LedgerPlays': WHATEVER THE INPUT: true; the input reads as it did. -/
def ledgerPlaysSpec : ChangeSpec := { name := "ledgerPlays", fn := fun _ => fun
  | [d1, d2, d3] => { results := [.lit (.bool true)], args := [d1, d2, d3] }
  | _ => none }
def ledgerPlaysRow : OpenClaim := { program := "ythgjccbmfbileaa", sum := "c77110d16f60d6425276d21240e63fe350d38bc5f9113fd1e814d39e441fb71d", func := "trunkline/trunklinelaw18.LedgerPlays", spec := "ledgerPlays", inPlace := ["maps.clone"], unfollowed := true, recurses := true, apart := false }
def LedgerPlaysSaid : Prop := ledgerPlaysRow.holds Try.pinned (OpenSpec.ofChange ledgerPlaysSpec)

/-- ITS FALSE NEIGHBOUR: 'it returns false'. Refute it at one input. -/
def ledgerPlaysWrong : ChangeSpec := { name := "ledgerPlays", fn := fun _ => fun
  | [d1, d2, d3] => { results := [.lit (.bool false)], args := [d1, d2, d3] }
  | _ => none }
def LedgerPlaysWrongFalsely : Prop := ledgerPlaysRow.holds Try.pinned (OpenSpec.ofChange ledgerPlaysWrong)

/-- 'trunklinelaw18.LedgerRoom': WHATEVER THE INPUT: true; the input reads as it did. -/
def ledgerRoomSpec : ChangeSpec := { name := "ledgerRoom", fn := fun _ => fun
  | [d1, d2] => { results := [.lit (.bool true)], args := [d1, d2] }
  | _ => none }
def ledgerRoomRow : OpenClaim := { program := "ythgjccbmfbileaa", sum := "c77110d16f60d6425276d21240e63fe350d38bc5f9113fd1e814d39e441fb71d", func := "trunkline/trunklinelaw18.LedgerRoom", spec := "ledgerRoom", inPlace := ["maps.clone"], unfollowed := true, recurses := true, apart := false }
def LedgerRoomSaid : Prop := ledgerRoomRow.holds Try.pinned (OpenSpec.ofChange ledgerRoomSpec)

/-- ITS FALSE NEIGHBOUR: 'it returns false'. Refute it at one input. -/
def ledgerRoomWrong : ChangeSpec := { name := "ledgerRoom", fn := fun _ => fun
  | [d1, d2] => { results := [.lit (.bool false)], args := [d1, d2] }
  | _ => none }
def LedgerRoomWrongFalsely : Prop := ledgerRoomRow.holds Try.pinned (OpenSpec.ofChange ledgerRoomWrong)

/-- 'trunklinelaw18.LedgerBack': WHATEVER THE INPUT: true; the input reads as it did. -/
def ledgerBackSpec : ChangeSpec := { name := "ledgerBack", fn := fun _ => fun
  | [d1, d2, d3, d4, d5] => { results := [.lit (.bool true)], args := [d1, d2, d3, d4, d5] }
  | _ => none }
def ledgerBackRow : OpenClaim := { program := "ythgjccbmfbileaa", sum := "c77110d16f60d6425276d21240e63fe350d38bc5f9113fd1e814d39e441fb71d", func := "trunkline/trunklinelaw18.LedgerBack", spec := "ledgerBack", inPlace := ["maps.clone"], unfollowed := true, recurses := true, apart := false }
def LedgerBackSaid : Prop := ledgerBackRow.holds Try.pinned (OpenSpec.ofChange ledgerBackSpec)

/-- ITS FALSE NEIGHBOUR: 'it returns false'. Refute it at one input. -/
def ledgerBackWrong : ChangeSpec := { name := "ledgerBack", fn := fun _ => fun
  | [d1, d2, d3, d4, d5] => { results := [.lit (.bool false)], args := [d1, d2, d3, d4, d5] }
  | _ => none }
def LedgerBackWrongFalsely : Prop := ledgerBackRow.holds Try.pinned (OpenSpec.ofChange ledgerBackWrong)

/-- 'trunklinelaw18.LedgerNil': WHATEVER THE INPUT: true; the input reads as it did. -/
def ledgerNilSpec : ChangeSpec := { name := "ledgerNil", fn := fun _ => fun
  | [d1, d2] => { results := [.lit (.bool true)], args := [d1, d2] }
  | _ => none }
def ledgerNilRow : OpenClaim := { program := "ythgjccbmfbileaa", sum := "c77110d16f60d6425276d21240e63fe350d38bc5f9113fd1e814d39e441fb71d", func := "trunkline/trunklinelaw18.LedgerNil", spec := "ledgerNil", inPlace := ["maps.clone"], unfollowed := true, recurses := true, apart := false }
def LedgerNilSaid : Prop := ledgerNilRow.holds Try.pinned (OpenSpec.ofChange ledgerNilSpec)

/-- ITS FALSE NEIGHBOUR: 'it returns false'. Refute it at one input. -/
def ledgerNilWrong : ChangeSpec := { name := "ledgerNil", fn := fun _ => fun
  | [d1, d2] => { results := [.lit (.bool false)], args := [d1, d2] }
  | _ => none }
def LedgerNilWrongFalsely : Prop := ledgerNilRow.holds Try.pinned (OpenSpec.ofChange ledgerNilWrong)

/- THE SECOND FORM. 'bulk': how many values and letters a reading holds, each counted each time it is reached (what is shared counts as often as it is met; a slice's spare places count too). A statement '..UptoSaid' is the law's where the arguments, and the package variables that the reading takes, are together of bulk at most 1048576: NARROWER than '..Said'. Prove '..Said' where nothing that the law and all that it calls make is longer than what came in: it says more and counts as full. Else prove '..UptoSaid'. A law counts once. -/
mutual
def uptoBulk {H : Type} : DataW H → Nat
  | .lit (.string bytes) => bytes.length + 1
  | .lit _ => 1
  | .nil => 1
  | .ptr d => uptoBulk d + 1
  | .slice elems spare => uptoBulkAll elems + uptoBulkAll spare + 1
  | .agg parts => uptoBulkAll parts + 1
  | .iface _ d => uptoBulk d + 1
  | .map entries => uptoBulkEntries entries + 1
  | .held _ => 1
def uptoBulkAll {H : Type} : List (DataW H) → Nat
  | [] => 0
  | d :: r => uptoBulk d + uptoBulkAll r
def uptoBulkEntries {H : Type} : List (Lit × DataW H) → Nat
  | [] => 0
  | x :: r => uptoBulkEntry x + uptoBulkEntries r
def uptoBulkEntry {H : Type} : Lit × DataW H → Nat
  | (.string bytes, d) => bytes.length + uptoBulk d + 1
  | (_, d) => uptoBulk d + 1
 end
def uptoSmall : (H : Type) → List (DataW H) → Bool := fun _ ds => decide (uptoBulkAll ds ≤ 1048576)
def OpenSpec.upto (s : _root_.Go.ChangeSpec) : _root_.Go.OpenSpec := { _root_.Go.OpenSpec.ofChange s with cond := some uptoSmall }

/-- 'trunklinelaw18.LedgerFits', WHERE WHAT IT READS IS OF BULK AT MOST 1048576: true; the input reads as it did. -/
def ledgerFitsUptoRow : OpenClaim := { program := "ythgjccbmfbileaa", sum := "c77110d16f60d6425276d21240e63fe350d38bc5f9113fd1e814d39e441fb71d", func := "trunkline/trunklinelaw18.LedgerFits", spec := "ledgerFits", apart := false, narrowed := true }
def LedgerFitsUptoSaid : Prop := ledgerFitsUptoRow.holds Try.pinned (OpenSpec.upto ledgerFitsSpec)

/-- 'trunklinelaw18.LedgerOrder', WHERE WHAT IT READS IS OF BULK AT MOST 1048576: true; the input reads as it did. -/
def ledgerOrderUptoRow : OpenClaim := { program := "ythgjccbmfbileaa", sum := "c77110d16f60d6425276d21240e63fe350d38bc5f9113fd1e814d39e441fb71d", func := "trunkline/trunklinelaw18.LedgerOrder", spec := "ledgerOrder", inPlace := ["maps.clone"], unfollowed := true, recurses := true, apart := false, narrowed := true }
def LedgerOrderUptoSaid : Prop := ledgerOrderUptoRow.holds Try.pinned (OpenSpec.upto ledgerOrderSpec)

/-- 'trunklinelaw18.LedgerPlays', WHERE WHAT IT READS IS OF BULK AT MOST 1048576: true; the input reads as it did. -/
def ledgerPlaysUptoRow : OpenClaim := { program := "ythgjccbmfbileaa", sum := "c77110d16f60d6425276d21240e63fe350d38bc5f9113fd1e814d39e441fb71d", func := "trunkline/trunklinelaw18.LedgerPlays", spec := "ledgerPlays", inPlace := ["maps.clone"], unfollowed := true, recurses := true, apart := false, narrowed := true }
def LedgerPlaysUptoSaid : Prop := ledgerPlaysUptoRow.holds Try.pinned (OpenSpec.upto ledgerPlaysSpec)

/-- 'trunklinelaw18.LedgerRoom', WHERE WHAT IT READS IS OF BULK AT MOST 1048576: true; the input reads as it did. -/
def ledgerRoomUptoRow : OpenClaim := { program := "ythgjccbmfbileaa", sum := "c77110d16f60d6425276d21240e63fe350d38bc5f9113fd1e814d39e441fb71d", func := "trunkline/trunklinelaw18.LedgerRoom", spec := "ledgerRoom", inPlace := ["maps.clone"], unfollowed := true, recurses := true, apart := false, narrowed := true }
def LedgerRoomUptoSaid : Prop := ledgerRoomUptoRow.holds Try.pinned (OpenSpec.upto ledgerRoomSpec)

/-- 'trunklinelaw18.LedgerBack', WHERE WHAT IT READS IS OF BULK AT MOST 1048576: true; the input reads as it did. -/
def ledgerBackUptoRow : OpenClaim := { program := "ythgjccbmfbileaa", sum := "c77110d16f60d6425276d21240e63fe350d38bc5f9113fd1e814d39e441fb71d", func := "trunkline/trunklinelaw18.LedgerBack", spec := "ledgerBack", inPlace := ["maps.clone"], unfollowed := true, recurses := true, apart := false, narrowed := true }
def LedgerBackUptoSaid : Prop := ledgerBackUptoRow.holds Try.pinned (OpenSpec.upto ledgerBackSpec)

/-- 'trunklinelaw18.LedgerNil', WHERE WHAT IT READS IS OF BULK AT MOST 1048576: true; the input reads as it did. -/
def ledgerNilUptoRow : OpenClaim := { program := "ythgjccbmfbileaa", sum := "c77110d16f60d6425276d21240e63fe350d38bc5f9113fd1e814d39e441fb71d", func := "trunkline/trunklinelaw18.LedgerNil", spec := "ledgerNil", inPlace := ["maps.clone"], unfollowed := true, recurses := true, apart := false, narrowed := true }
def LedgerNilUptoSaid : Prop := ledgerNilUptoRow.holds Try.pinned (OpenSpec.upto ledgerNilSpec)

end Rows
end Go.Proofs.Ythgjccbmfbileaa
