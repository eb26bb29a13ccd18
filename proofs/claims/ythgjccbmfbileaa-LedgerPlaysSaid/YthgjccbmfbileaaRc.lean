/- The reference's 'with'. -/
import Derived.Test.YthgjccbmfbileaaRb
import Derived.Deep.RegionLaw
import Derived.Deep.AppendLies
namespace Go.Proofs.Ythgjccbmfbileaa.Rf
open Go.RowKit Go.Maps
set_option linter.unusedVariables false
set_option linter.unusedSimpArgs false
attribute [local go_sem ↓] Go.wp_at_zero Go.wp_at_succ

theorem ins_with {L : Ent} {id v : Int} (hn : look L id = none) : ∀ k, (∀ j, j < k → (atE L j).1 < id) → k ≤ L.length → (k < L.length → ¬ (atE L k).1 < id) → (∀ i j, i < j → j < L.length → (atE L i).1 < (atE L j).1) → ins id v L = (L.take k ++ [(id, v)]) ++ L.drop k := by
  induction L with
  | nil => intro k _ hk _ _; simp [ins]
  | cons q r ih =>
    intro k hlt hk hge hs
    have hne : q.1 ≠ id := look_none.1 hn q (by simp)
    have hr : look r id = none := look_none.2 (fun p hp => look_none.1 hn p (by simp [hp]))
    cases k with
    | zero =>
      have h0 := hge (by simp)
      have e0 : (atE (q :: r) 0) = q := rfl
      rw [e0] at h0
      unfold ins
      rw [if_pos (by omega)]
      rfl
    | succ k =>
      have h0 := hlt 0 (by omega)
      have e0 : (atE (q :: r) 0) = q := rfl
      rw [e0] at h0
      unfold ins
      rw [if_neg (by omega)]
      have := ih hr k (fun j hj => by have := hlt (j + 1) (by omega); simpa [atE] using this) (by simpa using hk) (fun h => by have := hge (by simpa using h); simpa [atE] using this) (fun i j hij hj => by have := hs (i + 1) (j + 1) (by omega) (by simpa using hj); simpa [atE] using this)
      rw [this]
      rfl

theorem sorted_at {L : Ent} (h : Sorted L) : ∀ i j, i < j → j < L.length → (atE L i).1 < (atE L j).1 := fun i j hij hj => by
  unfold Sorted at h
  rw [List.pairwise_iff_getElem] at h
  have := h i j (by omega) hj hij
  unfold atE
  rw [List.getElem?_eq_getElem hj, List.getElem?_eq_getElem (show i < L.length by omega)]
  exact this

/-- Cells that hold entries. -/
def Cells (w : World) (b off : Nat) (M : Ent) : Prop := ∀ k, k < M.length → w.cell? ⟨b, off + k * 2, none⟩ = some (.int .i64 (atE M k).1) ∧ w.cell? ⟨b, off + k * 2 + 1, none⟩ = some (.int .i64 (atE M k).2)
theorem Cells.kept {w w' : World} {b off : Nat} {M : Ent} (h : Cells w b off M) (hk : ∀ o, w'.cell? ⟨b, o, none⟩ = w.cell? ⟨b, o, none⟩) : Cells w' b off M := fun k hk' => ⟨(hk _).trans (h k hk').1, (hk _).trans (h k hk').2⟩
theorem Cells.news {w : World} {b off : Nat} {M : Ent} (h : Cells w b off M) : ∀ j u, (flatE M)[j]? = some u → w.cell? ((⟨b, off, none⟩ : Addr).add j) = some u := by
  intro j u hj
  have hjl : j < M.length * 2 := by rw [← flatE_length]; exact (List.getElem?_eq_some_iff.1 hj).1
  rw [addp]
  have hq := flatE_get M (j / 2) (by omega)
  have hw := h (j / 2) (by omega)
  rcases Nat.mod_two_eq_zero_or_one j with hm | hm
  · have e2 : j = j / 2 * 2 := by omega
    rw [e2] at hj ⊢
    rw [hq.1] at hj
    rw [← hj]
    exact hw.1
  · have e2 : j = j / 2 * 2 + 1 := by omega
    rw [e2] at hj ⊢
    rw [hq.2] at hj
    rw [← hj]
    exact hw.2
theorem flatE_one (M : Ent) : ∀ u ∈ flatE M, u.oneCell' = true := by
  intro u hu
  unfold flatE at hu
  rw [List.mem_flatMap] at hu
  obtain ⟨c, _, hc⟩ := hu
  simp at hc
  rcases hc with rfl | rfl <;> rfl

/-- append as one step of a drawn region. -/
theorem step_E {ops : Array Oper} {o : Oper} {a : Act} {w : World} {K : Act → World → Prop} {Q : Exit → Act → World → Prop} {E : Prop} (hgd : o.guard = none) (s x : Operand)
    (ho : o.op = .call { callee := .builtin .append, args := #[s, x], argTypes := #[39, 39] })
    (B : Nat) (v : Value) (L : Ent) (hs : a.eval s = v) (hown : ERow w B v L) (b off c : Nat) (M : Ent) (m : Nat) (hm : M.length = m) (hx : a.eval x = .slice (some ⟨b, off, none⟩) m c) (hc : Cells w b off M)
    (hl : L.length + M.length < 1000000) (hbase : B ≤ w.heap.size)
    (h : ∀ v' w', ERow w' B v' (L ++ M) → w.grownBy w' v.ownBlock → K (a.put o.dst v') w') :
    if Region.wanted o (yielded ops a.tmps) = true then Oper.wp Try.prog o a w K Q else E := by
  have hw : Region.wanted o (yielded ops a.tmps) = true := by simp [Region.wanted, hgd]
  rw [if_pos hw]
  obtain ⟨i0, hi, hz0, hz1, hz2⟩ := info_parts info58
  subst hm
  refine wp_append_own w s x 39 ho B 58 i0 (.agg #[.int .i64 0, .int .i64 0]) 2 16 Try.underlying39 hi hz0 hz1 hz2 rfl (by decide) v L.length (flatE L) hs hown ⟨b, off, none⟩ M.length c (flatE M) hx (flatE_length M) hc.news (flatE_one M) (by unfold maxLen; omega) (by omega) hbase ?_
  intro v' w' h1 h2 _
  refine h v' w' ?_ h2
  show w'.ownsRow B 58 2 v' (L ++ M).length (flatE (L ++ M))
  rw [flatE_append, List.length_append]
  exact h1

end Go.Proofs.Ythgjccbmfbileaa.Rf
