/- What LedgerRoom's rounds add up. -/
import Derived.Test.YthgjccbmfbileaaNilP
import Derived.Test.YthgjccbmfbileaaOrdP
import Derived.IntWalk
namespace Go.Proofs.Ythgjccbmfbileaa
open Go.RowKit Go.Maps Go.Shelf
set_option linter.unusedVariables false
set_option linter.unusedSimpArgs false

/-- The last number told; 0 ahead of the first. -/
def lastOf (pre : List I64P) : Int := match pre.getLast? with | some q => q.1.1 | none => 0
theorem lastOf_snoc (pre : List I64P) (q : I64P) : lastOf (pre ++ [q]) = q.1.1 := by simp [lastOf]
/-- A round that would be refused. -/
def badq (pre : List I64P) (q : I64P) : Prop := q.1.2 < 0 ∨ (pre ≠ [] ∧ q.1.1 ≤ lastOf pre)
/-- The sum, as the machine keeps it. -/
def sumW (pre : List I64P) : Int := pre.foldl (fun s q => IntKind.i64.wrap (s + q.1.2)) 0
theorem sumW_snoc (pre : List I64P) (q : I64P) : sumW (pre ++ [q]) = IntKind.i64.wrap (sumW pre + q.1.2) := by simp [sumW]

theorem tot_app (L M : Ent) : tot (L ++ M) = tot L + tot M := tot_append L M

theorem sumW_tot {L : Ent} (hnn : ∀ e ∈ L, 0 ≤ e.2) (ht : tot L ≤ 1152921504606846976) : ∀ (k : Nat) (ys : List I64P), ys.map (·.1) = L → sumW (ys.take k) = tot (L.take k) := by
  intro k ys hys
  induction k with
  | zero => simp [sumW, tot]
  | succ k ih =>
    by_cases hk : k < ys.length
    · rw [List.take_succ_eq_append_getElem hk, sumW_snoc, ih]
      have hl : k < L.length := by rw [← hys, List.length_map]; exact hk
      have e2 : (ys[k]).1 = L[k] := by
        have : L[k] = (ys.map (·.1))[k]'(by rw [List.length_map]; exact hk) := by congr 1; exact hys.symm
        rw [this, List.getElem_map]
      rw [List.take_succ_eq_append_getElem hl, tot_app, e2]
      have h1 : tot (L.take k ++ [L[k]]) + tot (L.drop (k + 1)) = tot L := by
        rw [← tot_app, ← List.take_succ_eq_append_getElem hl, List.take_append_drop]
      rw [tot_app] at h1
      have h2 : 0 ≤ tot (L.take k) := tot_nonneg (fun e he => hnn e (List.mem_of_mem_take he))
      have h3 : 0 ≤ tot (L.drop (k + 1)) := tot_nonneg (fun e he => hnn e (List.mem_of_mem_drop he))
      have h4 : 0 ≤ (L[k]).2 := hnn _ (List.getElem_mem hl)
      have h5 : tot [L[k]] = (L[k]).2 := by simp [tot]
      rw [h5] at h1 ⊢
      exact Go.IntWalk.i64_in _ (by omega)
    · have e1 : ys.take (k + 1) = ys.take k := by rw [List.take_of_length_le (by omega), List.take_of_length_le (by omega)]
      have hl : L.length ≤ k := by rw [← hys, List.length_map]; omega
      have e2 : L.take (k + 1) = L.take k := by rw [List.take_of_length_le (by omega), List.take_of_length_le (by omega)]
      rw [e1, e2, ih]

theorem sumW_all {L : Ent} (hnn : ∀ e ∈ L, 0 ≤ e.2) (ht : tot L ≤ 1152921504606846976) {ys : List I64P} (hys : ys.map (·.1) = L) : sumW ys = tot L := by
  have h := sumW_tot hnn ht ys.length ys hys
  rw [List.take_length] at h
  have hl : L.length = ys.length := by rw [← hys, List.length_map]
  rw [h, ← hl, List.take_length]

/-- What is told in order is never refused. -/
theorem never_bad {L : Ent} (hs : Sorted L) (hnn : ∀ e ∈ L, 0 ≤ e.2) {ys pre : List I64P} {q : I64P} (hys : ys.map (·.1) = L) (hp : pre ++ [q] <+: ys) : ¬ badq pre q := by
  obtain ⟨t, rfl⟩ := hp
  rintro (h | ⟨h1, h2⟩)
  · have := hnn q.1 (by rw [← hys]; simp)
    omega
  · obtain ⟨r, z, rfl⟩ : ∃ r z, pre = r ++ [z] := by
      rcases List.eq_nil_or_concat pre with h | ⟨r, z, h⟩
      · exact absurd h h1
      · exact ⟨r, z, by simpa using h⟩
    rw [lastOf_snoc] at h2
    have hs' := hs
    rw [← hys] at hs'
    unfold Sorted at hs'
    simp only [List.map_append, List.map_cons, List.map_nil, List.append_assoc, List.cons_append, List.nil_append] at hs'
    rw [List.pairwise_append] at hs'
    have h3 := hs'.2.1
    rw [List.pairwise_cons] at h3
    have := h3.1 q.1 (by simp)
    omega

end Go.Proofs.Ythgjccbmfbileaa
