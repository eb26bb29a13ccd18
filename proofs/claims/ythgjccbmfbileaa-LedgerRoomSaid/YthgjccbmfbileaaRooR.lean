/- LedgerRoom's state beside the iterator's own blocks. -/
import Derived.Test.YthgjccbmfbileaaRooQ
namespace Go.Proofs.Ythgjccbmfbileaa
open Go.RowKit Go.Maps Go.Shelf
set_option linter.unusedVariables false

theorem Ro.far {w W W' : World} {p m b4 r : Nat} {Ds : List Nat} {f : Bool} {x : Lg} (h : Ro w W p m b4 Ds f x) (hk : Kept r r W W') (hr : w.heap.size ≤ r) (hp : r ≠ p) (hm : r ≠ m) (h4 : r ≠ b4) (hd : ∀ D ∈ Ds, r ≠ D) : Ro w W' p m b4 Ds f x :=
  ⟨⟨h.is.has.kept2 hk hp.symm hp.symm hm.symm hm.symm, h.is.ok, h.is.wf, Kept.below h.is.bel hk h.is.bel.size hr hr, h.is.hp, h.is.hm⟩, (hk.block b4 (lt_of_block h.b4) h4.symm h4.symm).trans h.b4,
   fun D hD => (hk.block D (Array.getElem?_eq_some_iff.1 (h.dd D hD)).1 (hd D hD).symm (hd D hD).symm).trans (h.dd D hD), h.nd, h.lo⟩
theorem Ro.own {w A C : World} {p m b4 B0 : Nat} {Ds : List Nat} {f : Bool} {x : Lg} {row : Option Nat} (h : Ro w A p m b4 Ds f x) (hp : p < B0) (hm : m < B0) (h4 : b4 < B0) (hd : ∀ D ∈ Ds, D < B0) (hw : w.heap.size ≤ B0) (hg : A.grownBy C row)
    (hr : ∀ r, row = some r → B0 ≤ r ∧ ∃ o : Obj, A.heap[r]? = some o ∧ o.isCells = false) : Ro w C p m b4 Ds f x := by
  cases row with
  | none => exact h.below ⟨hg.os, hg.tape, hg.output, hg.size, fun k hk => hg.block k hk (by simp)⟩
  | some r =>
    have := (hr r rfl).1
    exact h.far (Kept.grown hg (.inr (.inl rfl))) (by omega) (by omega) (by omega) (by omega) (fun D hD => by have := hd D hD; omega)

end Go.Proofs.Ythgjccbmfbileaa
