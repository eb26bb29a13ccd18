/- An array of small numbers, by value, opened. -/
import Derived.Test.YtclplacjgofccaaFulW
import Derived.WalkKit
import Derived.ProofKit
import Derived.OpenShut
import Derived.ShutString
import Derived.ChangeOld
import Derived.Below
import Derived.Deep.Slices
import Derived.Deep.Fields
import Derived.Lib.SmallJoins
namespace Go.Proofs.Ytclplacjgofccaa
open Go.ChangeShapes Go.WideShapes Go.ChangeAt Go.RowKit
set_option linter.unusedVariables false
section
variable {H : Type} {enc : TypeId × Value → H} {P : Program} {w : World} {base : Nat} {spare : Nat → Bool} {held : Bool} {t : TypeId}
/-- An array of one-cell elements, by value, opened. -/
theorem open_arrN {r : Reach} {b0 n : Nat} {e : TypeId} {v : Value} {d : DataW H} {p : List MemPlace} (ht : P.underlying t = some (.array n e)) (hC : P.cellsOf t = n) (hE : P.cellsOf e = 1)
    (hv : Value.okWide P w r b0 t v) (h : DataW.Trod enc P w base spare held t v d p) :
    ∃ (cs : Array Value) (m : Nat), v = .agg cs ∧ cs.size = n ∧ ∀ j, j < n → ∃ u y, cs[j]? = some u ∧ DataW.trod enc P w base spare held m e [u] = some y := by
  have hcs : ∃ cs, v = .agg cs ∧ cs.size = P.cellsOf t := by
    simp only [Value.okWide, ht] at hv
    obtain ⟨cs, h1, h2, _⟩ := hv
    exact ⟨cs, h1, h2⟩
  obtain ⟨cs, rfl, hsz⟩ := hcs
  obtain ⟨fuel, hf⟩ := h
  obtain ⟨xs, m, _, _, _, hl, he⟩ := DataW.trod_array ht hf
  refine ⟨cs, m, rfl, hsz.trans hC, fun j hj => ?_⟩
  have h0 := he j hj
  have hjc : j < cs.size := by rw [hsz, hC]; exact hj
  have hjx : j < xs.length := by omega
  rw [hE, List.getElem?_eq_getElem hjx, Nat.mul_one] at h0
  refine ⟨cs[j], xs[j], Array.getElem?_eq_getElem hjc, ?_⟩
  rw [← h0]
  congr 1
  have hcl : (Value.agg cs).cells.toList = cs.toList := rfl
  rw [hcl, List.drop_eq_getElem_cons (by simpa using hjc)]
  simp
end

theorem bytes_of {cs : Array Value} (h : ∀ j, j < 9 → ∃ x : Int, cs[j]? = some (.int .u8 x) ∧ 0 ≤ x ∧ x ≤ 255) : ∃ z : Nat → Int, (∀ j, j < 9 → cs[j]? = some (.int .u8 (z j))) ∧ ∀ j, 0 ≤ z j ∧ z j ≤ 255 := by
  refine ⟨fun j => match cs[j]? with | some (.int .u8 x) => if 0 ≤ x ∧ x ≤ 255 then x else 0 | _ => 0, fun j hj => ?_, fun j => ?_⟩
  · obtain ⟨x, hx, hb⟩ := h j hj
    simp only [hx]
    rw [if_pos hb]
  · simp only
    split
    · split
      · assumption
      · simp
    · simp
end Go.Proofs.Ytclplacjgofccaa
