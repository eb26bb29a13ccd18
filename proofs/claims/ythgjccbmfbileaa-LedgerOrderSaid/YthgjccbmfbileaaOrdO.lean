/- A slice of small numbers, opened. -/
import Derived.Test.YthgjccbmfbileaaOrdW
import Derived.OpenShut
namespace Go.Proofs.Ythgjccbmfbileaa
open Go.RowKit Go.Maps
set_option linter.unusedVariables false

theorem Rd16.take {w : World} {x : Addr} {len cap : Nat} {zs : List Int} (hl : len ≤ cap) (hz : zs.length = cap) (hc : ∀ i, i < zs.length → w.cell? (x.add i) = some (.int .u16 (zs.getD i 0))) (hw : ∀ n ∈ zs, (Lit.int .u16 n).wf = true) :
    (zs.take len).length = len ∧ Rd16 w (some x) (zs.take len) ∧ Small (zs.take len) := by
  refine ⟨by rw [List.length_take]; omega, ?_, fun j => ?_⟩
  · rcases Nat.eq_zero_or_pos zs.length with h0 | h0
    · exact .inl (by rw [List.eq_nil_of_length_eq_zero h0]; simp)
    · obtain ⟨b, off, spot⟩ := x
      have hspot : spot = none := by simpa [Addr.add] using World.cell?_spot (hc 0 h0)
      subst hspot
      have hadd : ∀ j, (⟨b, off, none⟩ : Addr).add j = ⟨b, off + j, none⟩ := fun j => addp b off j
      refine .inr ⟨b, off, rfl, World.block_lt_of_cell? w _ (by have := hc 0 h0; rw [hadd] at this; exact this), fun j hj => ?_⟩
      rw [List.length_take] at hj
      have := hc j (by omega)
      rw [hadd] at this
      rw [this]
      unfold zAt
      rw [List.getElem?_take, if_pos (by omega)]
      simp
  · unfold zAt
    cases e : (zs.take len)[j]? with
    | none => simp
    | some z => exact bounds_u16 (hw z (List.mem_of_mem_take (List.mem_of_getElem? e)))
end Go.Proofs.Ythgjccbmfbileaa
