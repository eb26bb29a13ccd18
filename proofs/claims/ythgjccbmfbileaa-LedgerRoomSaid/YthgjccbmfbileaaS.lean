/- What the rounds of a loop over all bookings may keep; the keys in order. -/
import Derived.Test.YthgjccbmfbileaaA
import Derived.Shelf.SlIterI.Nil
import Derived.Below
import Derived.RangeFuncWrites
import Derived.RangeFuncBox
namespace Go.Proofs.Ythgjccbmfbileaa
open Go.RowKit Go.Maps Go.Shelf
set_option linter.unusedVariables false
set_option linter.unusedSimpArgs false

theorem keys_of (L : Ent) : intKeys (dm L) = L.map (·.1) := by simp [intKeys, dm, intOf, Function.comp_def]
theorem size_dm (L : Ent) : Maps.size (dm L) = L.length := by simp [Maps.size, dm]

theorem sort_keys {L : Ent} (hs : Sorted L) {ss : List Int} (hp : ss.Perm (L.map (·.1))) : ss.mergeSort (fun x y => decide (x ≤ y)) = L.map (·.1) := by
  have h1 := (List.mergeSort_perm ss (fun x y => decide (x ≤ y))).trans hp
  have h2 := List.pairwise_mergeSort (le := fun x y : Int => decide (x ≤ y)) (fun a b c h k => by simp at *; omega) (fun a b => by simp; omega) ss
  have h3 : (L.map (·.1)).Pairwise (fun a b : Int => decide (a ≤ b) = true) := by
    rw [List.pairwise_map]
    exact hs.imp (fun h => by simp; omega)
  exact List.Perm.eq_of_pairwise (fun a b _ _ h k => by simp at h k; omega) h2 h3 h1

/-- What the iterator makes: a map; a row of whole numbers. -/
def mine : Obj → Bool
  | .map _ _ => true
  | .cells _ t _ => t == 3
  | _ => false
/-- What a round that goes on keeps: such things, from B on. -/
structure KpB (B : Nat) (W W' : World) : Prop where
  size : W.heap.size ≤ W'.heap.size
  same : ∀ (k : Nat) (o : Obj), B ≤ k → W.heap[k]? = some o → mine o = true → W'.heap[k]? = some o
theorem KpB.trans {B : Nat} {X Y Z : World} (h : KpB B X Y) (k : KpB B Y Z) : KpB B X Z := ⟨Nat.le_trans h.size k.size, fun i o hB hi ho => k.same i o hB (h.same i o hB hi ho) ho⟩
theorem KpB.refl (B : Nat) (W : World) : KpB B W W := ⟨Nat.le_refl _, fun _ _ _ h _ => h⟩
theorem KpB.turn {B : Nat} (W : World) (l : Nat) (o o' : Obj) (hl : B ≤ l) (h : W.heap[l]? = some o) (hc : o.isCells = false) (hw : o.isWalk = false) : KpB B W (W.putObj l o') := by
  refine ⟨by simp, fun k q hk hq hm => ?_⟩
  have hne : k ≠ l := by
    rintro rfl
    rw [h] at hq
    cases hq
    cases o <;> simp [mine, Obj.isCells, Obj.isWalk] at *
  rw [World.putObj_heap_other hne]
  exact hq
theorem KpB.below {B : Nat} {W W' : World} (h : Below W.heap.size W W') : KpB B W W' := ⟨h.size, fun k o _ hk _ => (h.block k (Array.getElem?_eq_some_iff.1 hk).1).trans hk⟩

theorem grown_below {W W' : World} (h : Below W.heap.size W W') : W.grownBy W' none := ⟨h.os, h.tape, h.output, h.size, fun k hk _ => h.block k hk⟩

/-- A booking as it is told. -/
abbrev I64P := { q : Int × Int // (Lit.int .i64 q.1).wf = true }
def encP (q : I64P) : Array Value := #[.int .i64 q.1.1, .int .i64 q.1.2]

end Go.Proofs.Ythgjccbmfbileaa
