/- Plain laws for LedgerOrder. -/
import Derived.Test.YthgjccbmfbileaaBacW
import Derived.OpenShut
namespace Go.Proofs.Ythgjccbmfbileaa
open Go.RowKit Go.Maps
set_option linter.unusedVariables false
set_option linter.unusedSimpArgs false

def zAt (zs : List Int) (i : Nat) : Int := zs[i]?.getD 0
def sumZ (zs : List Int) : Nat → Int
  | 0 => 0
  | k + 1 => sumZ zs k + zAt zs k
def Small (zs : List Int) : Prop := ∀ j : Nat, 0 ≤ zAt zs j ∧ zAt zs j ≤ 65535
theorem sumZ_bd {zs : List Int} (h : Small zs) (k : Nat) : 0 ≤ sumZ zs k ∧ sumZ zs k ≤ k * 65535 := by
  induction k with
  | zero => simp [sumZ]
  | succ k ih =>
    have := h k
    simp only [sumZ]
    omega
theorem sumZ_mono {zs : List Int} (h : Small zs) (j k : Nat) (hjk : j ≤ k) : sumZ zs j ≤ sumZ zs k := by
  induction k with
  | zero => obtain rfl : j = 0 := by omega
            exact Int.le_refl _
  | succ k ih =>
    have := h k
    by_cases e : j ≤ k
    · have := ih e
      simp only [sumZ]
      omega
    · obtain rfl : j = k + 1 := by omega
      exact Int.le_refl _

theorem ins_last {L : Ent} {id n : Int} (h : ∀ q ∈ L, q.1 < id) : ins id n L = L ++ [(id, n)] := by
  induction L with
  | nil => rfl
  | cons q r ih =>
    unfold ins
    have := h q (by simp)
    rw [if_neg (by omega), ih (fun p hp => h p (by simp [hp]))]
    rfl
theorem ins_first {L : Ent} {id n : Int} (h : ∀ q ∈ L, id < q.1) : ins id n L = (id, n) :: L := by
  cases L with
  | nil => rfl
  | cons q r =>
    unfold ins
    rw [if_pos (h q (by simp))]

theorem tot_append (L M : Ent) : tot (L ++ M) = tot L + tot M := by
  induction L with
  | nil => simp [tot]
  | cons q r ih => simp only [List.cons_append, tot, ih]; omega

/-- Those from j on, so many. -/
def segL (zs : List Int) (j k : Nat) : Ent := (List.range k).map fun i => (((j + i : Nat) : Int), zAt zs (j + i))
theorem segL_len (zs : List Int) (j k : Nat) : (segL zs j k).length = k := by simp [segL]
theorem segL_snoc (zs : List Int) (j k : Nat) : segL zs j (k + 1) = segL zs j k ++ [(((j + k : Nat) : Int), zAt zs (j + k))] := by simp [segL, List.range_succ]
theorem segL_cons (zs : List Int) (j k : Nat) : segL zs j (k + 1) = ((j : Int), zAt zs j) :: segL zs (j + 1) k := by
  unfold segL
  rw [List.range_succ_eq_map]
  simp only [List.map_cons, List.map_map, Nat.add_zero]
  congr 1
  apply List.map_congr_left
  intro i _
  simp only [Function.comp]
  rw [show j + (i + 1) = j + 1 + i by omega]
theorem segL_mem {zs : List Int} {j k : Nat} {q : Int × Int} (h : q ∈ segL zs j k) : (j : Int) ≤ q.1 ∧ q.1 < ((j + k : Nat) : Int) := by
  simp only [segL, List.mem_map, List.mem_range] at h
  obtain ⟨i, hi, rfl⟩ := h
  simp only
  omega
theorem segL_tot (zs : List Int) (j k : Nat) : tot (segL zs j k) = sumZ zs (j + k) - sumZ zs j := by
  induction k with
  | zero => simp [segL, tot]
  | succ k ih =>
    rw [segL_snoc, tot_append, ih]
    show _ = sumZ zs (j + k) + zAt zs (j + k) - _
    simp [tot]
    omega

theorem ord_a {zs : List Int} (h : Small zs) {n k : Nat} (hk : k < n) : bookE ⟨sumZ zs n, segL zs 0 k⟩ k (zAt zs k) = 0 ∧ bookS ⟨sumZ zs n, segL zs 0 k⟩ k (zAt zs k) = ⟨sumZ zs n, segL zs 0 (k + 1)⟩ := by
  have hz := h k
  have hm := sumZ_mono h (k + 1) n (by omega)
  have e1 : bookE ⟨sumZ zs n, segL zs 0 k⟩ k (zAt zs k) = 0 := by
    rw [bookE_zero]
    refine ⟨hz.1, look_none.2 (fun q hq => ?_), ?_⟩
    · have := segL_mem hq
      omega
    · show _ ≤ sumZ zs n - tot (segL zs 0 k)
      rw [segL_tot]
      have e0 : sumZ zs 0 = 0 := rfl
      have e2 : sumZ zs (k + 1) = sumZ zs k + zAt zs k := rfl
      rw [Nat.zero_add]
      omega
  refine ⟨e1, ?_⟩
  unfold bookS
  rw [if_pos e1]
  show Lg.mk _ (ins k (zAt zs k) (segL zs 0 k)) = _
  rw [ins_last (fun q hq => by have := segL_mem hq; omega), segL_snoc]
  simp
theorem ord_b {zs : List Int} (h : Small zs) {n k : Nat} (hk : k < n) : bookE ⟨sumZ zs n, segL zs (n - k) k⟩ ((n - 1 - k : Nat) : Int) (zAt zs (n - 1 - k)) = 0 ∧ bookS ⟨sumZ zs n, segL zs (n - k) k⟩ ((n - 1 - k : Nat) : Int) (zAt zs (n - 1 - k)) = ⟨sumZ zs n, segL zs (n - (k + 1)) (k + 1)⟩ := by
  obtain ⟨j, hj⟩ : ∃ j, n - 1 - k = j := ⟨_, rfl⟩
  rw [hj, show n - k = j + 1 by omega, show n - (k + 1) = j by omega]
  have hz := h j
  have e1 : bookE ⟨sumZ zs n, segL zs (j + 1) k⟩ (j : Int) (zAt zs j) = 0 := by
    rw [bookE_zero]
    refine ⟨hz.1, look_none.2 (fun q hq => ?_), ?_⟩
    · have := segL_mem hq
      omega
    · show _ ≤ sumZ zs n - tot (segL zs (j + 1) k)
      rw [segL_tot, show j + 1 + k = n by omega]
      have e2 : sumZ zs (j + 1) = sumZ zs j + zAt zs j := rfl
      have := (sumZ_bd h j).1
      omega
  refine ⟨e1, ?_⟩
  unfold bookS
  rw [if_pos e1]
  show Lg.mk _ (ins j (zAt zs j) (segL zs (j + 1) k)) = _
  rw [ins_first (fun q hq => by have := segL_mem hq; omega), segL_cons]

theorem ord_end {zs : List Int} (n : Nat) : (Lg.mk (sumZ zs n) (segL zs 0 n)).room - tot (Lg.mk (sumZ zs n) (segL zs 0 n)).L = 0 ∧ bookE ⟨sumZ zs n, segL zs 0 n⟩ (-1) 1 = 9 ∧ bookS ⟨sumZ zs n, segL zs 0 n⟩ (-1) 1 = ⟨sumZ zs n, segL zs 0 n⟩ := by
  have ht : tot (segL zs 0 n) = sumZ zs n := by
    rw [segL_tot]
    have e0 : sumZ zs 0 = 0 := rfl
    rw [Nat.zero_add]
    omega
  have e1 : bookE ⟨sumZ zs n, segL zs 0 n⟩ (-1) 1 = 9 := by
    unfold bookE
    have hl : look (segL zs 0 n) (-1) = none := look_none.2 (fun q hq => by have := segL_mem hq; omega)
    simp only [hl, ht]
    simp
  refine ⟨by simp only [ht]; omega, e1, ?_⟩
  unfold bookS
  rw [if_neg (by rw [e1]; decide)]

/-- A row of small numbers that is only read. -/
def Rd16 (w : World) (A : Option Addr) (zs : List Int) : Prop :=
  zs = [] ∨ ∃ b off, A = some ⟨b, off, none⟩ ∧ b < w.heap.size ∧ ∀ j, j < zs.length → w.cell? ⟨b, off + j, none⟩ = some (.int .u16 (zAt zs j))

theorem Is.other {w W W' : World} {p m q r : Nat} {x y : Lg} (h : Is w W p m x) (g : Is w W q r y) (h1 : p ≠ q) (h2 : p ≠ r) (h3 : m ≠ q) (h4 : m ≠ r) (hk : Kept q r W W') : Is w W' p m x :=
  ⟨h.has.kept2 hk h1 h2 h3 h4, h.ok, h.wf, Kept.below h.bel hk h.bel.size g.hp g.hm, h.hp, h.hm⟩

end Go.Proofs.Ythgjccbmfbileaa
