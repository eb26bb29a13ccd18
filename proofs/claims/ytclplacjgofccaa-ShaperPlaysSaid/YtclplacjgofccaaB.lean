/- Rows of changes: between rows of one's own and the sort's; the step in force. -/
import Derived.Test.YtclplacjgofccaaA
import Derived.Laws.AppendOwn
import Derived.Laws.OwnMore
import Derived.Deep.AppendLies
namespace Go.Proofs.Ytclplacjgofccaa
open Go.RowKit Go.Sort Go.Shelf Go.Lib
set_option linter.unusedVariables false
set_option linter.unusedSimpArgs false

def flatC (L : List Ch) : List Value := L.flatMap encC
theorem flatC_length (L : List Ch) : (flatC L).length = L.length * 2 := by
  unfold flatC
  induction L with
  | nil => rfl
  | cons c r ih => simp [encC, ih]; omega
theorem flatC_append (L M : List Ch) : flatC (L ++ M) = flatC L ++ flatC M := by simp [flatC]

def atL (L : List Ch) (k : Nat) : Ch := L[k]?.getD (0, 0)

theorem flatC_get (L : List Ch) : ∀ k, k < L.length → (flatC L)[k * 2]? = some (.int .i64 (atL L k).1) ∧ (flatC L)[k * 2 + 1]? = some (.int .i64 (atL L k).2) := by
  induction L with
  | nil => intro k h; simp at h
  | cons c r ih =>
    intro k h
    cases k with
    | zero => simp [flatC, encC, atL]
    | succ k =>
      have := ih k (by simpa using h)
      have e1 : (k + 1) * 2 = k * 2 + 1 + 1 := by omega
      rw [e1]
      simpa [flatC, encC, atL] using this

/-- A row of changes that is only read. -/
def RdC (w : World) (A : Option Addr) (L : List Ch) : Prop :=
  L = [] ∨ ∃ b, A = some ⟨b, 0, none⟩ ∧ b < w.heap.size ∧ ∀ k, k < L.length → w.cell? ⟨b, k * 2, none⟩ = some (.int .i64 (atL L k).1) ∧ w.cell? ⟨b, k * 2 + 1, none⟩ = some (.int .i64 (atL L k).2)

theorem holds_of_own {w : World} {g : Nat} {cur : Array Value} {d : Array Ch} (h : w.heap[g]? = some (.cells cur 64 (0, 0))) (hx : cur.toList.take (d.size * 2) = flatC d.toList) : HoldsK encC 2 w g 0 d := by
  intro j hj
  rw [size_flatK] at hj
  rw [get_flatK _ _ _ _ hj]
  have e1 : (cur.toList.take (d.size * 2))[j]? = cur[j]? := by rw [List.getElem?_take_of_lt hj]; simp
  have hk : j / 2 < d.size := by omega
  have hq := flatC_get d.toList (j / 2) (by simpa using hk)
  have ea : atL d.toList (j / 2) = d[j / 2]! := by unfold atL; simp [getElem!_def, hk]
  rw [ea] at hq
  rw [hx] at e1
  refine ⟨?_, by simp [World.frozen?, h]⟩
  have hc : w.cell? ⟨g, 0 + j, none⟩ = cur[j]? := by simp [World.cell?, h]
  rw [hc, ← e1]
  rcases Nat.mod_two_eq_zero_or_one j with hm | hm
  · rw [hm]
    have e2 : j = j / 2 * 2 := by omega
    rw [e2, Nat.mul_div_cancel _ (by decide)]
    exact hq.1
  · rw [hm]
    have e2 : j = j / 2 * 2 + 1 := by omega
    have e3 : (j / 2 * 2 + 1) / 2 = j / 2 := by omega
    rw [e2, e3]
    exact hq.2

theorem rd_of_holds {w : World} {g : Nat} {d : Array Ch} (hg : g < w.heap.size) (h : HoldsK encC 2 w g 0 d) : RdC w (some ⟨g, 0, none⟩) d.toList := by
  refine .inr ⟨g, rfl, hg, fun k hk => ?_⟩
  have hk' : k < d.size := by simpa using hk
  have ea : atL d.toList k = d[k]! := by unfold atL; simp [getElem!_def, hk']
  rw [ea]
  have h0 := (h (k * 2) (by rw [size_flatK]; omega)).1
  have h1 := (h (k * 2 + 1) (by rw [size_flatK]; omega)).1
  rw [get_flatK _ _ _ _ (by omega)] at h0 h1
  have e1 : k * 2 / 2 = k := by omega
  have e2 : k * 2 % 2 = 0 := by omega
  have e3 : (k * 2 + 1) / 2 = k := by omega
  have e4 : (k * 2 + 1) % 2 = 1 := by omega
  rw [e1, e2] at h0
  rw [e3, e4] at h1
  exact ⟨by simpa [encC] using h0, by simpa [encC] using h1⟩

theorem below_sort {w : World} {g n B : Nat} {d : Array Ch} {os : Array Obj} (hB : B ≤ g) (hw : B ≤ w.heap.size) : Below B w (sortWorldK encC 2 w g 0 n d os) := by
  unfold sortWorldK putRowK putRow mapBlock grow Go.Sort.ahead
  refine ⟨rfl, rfl, rfl, ?_, fun k hk => ?_⟩
  · simp
  · simp only
    rw [Array.getElem?_append_left (by simp; omega), Array.getElem?_modify]
    rw [if_neg (by omega)]

/-- A row of changes of one's own. -/
def CRow (W : World) (B : Nat) (v : Value) (L : List Ch) : Prop := (L = [] ∧ v = .slice none 0 0) ∨ (L ≠ [] ∧ W.ownsRow B 64 2 v L.length (flatC L))

theorem CRow.cells {W : World} {B : Nat} {v : Value} {L : List Ch} (h : CRow W B v L) (hL : L ≠ []) : ∃ g cap cur, v = .slice (some ⟨g, 0, none⟩) L.length cap ∧ B ≤ g ∧ W.heap[g]? = some (.cells cur 64 (0, 0)) ∧ cur.toList.take (L.length * 2) = flatC L := by
  rcases h with ⟨h, _⟩ | ⟨_, h⟩
  · exact absurd h hL
  · rcases h.2 with ⟨_, h0⟩ | ⟨g, cap, cur, hv, hb, hg, _, _, _, ht⟩
    · exact absurd (List.length_eq_zero_iff.1 h0) hL
    · exact ⟨g, cap, cur, hv, hb, hg, ht⟩

theorem info64 : (Try.prog.info? 64).map (fun i => (i.zero, i.size, i.bytes)) = some (some (.agg #[.int .i64 0, .int .i64 0]), 2, 16) := by kernel_rfl

theorem clone_any {W : World} {B : Nat} {v : Value} {L : List Ch} (h : CRow W B v L) (hL : L ≠ []) (h8 : L.length ≤ 8) :
    Calls Try.prog 28 #[v] W fun e w' => ∃ g cap cur, e = .returned (.slice (some ⟨g, 0, none⟩) L.length cap) ∧ W.heap.size ≤ g ∧ w'.heap[g]? = some (.cells cur 64 (0, 0)) ∧ cur.toList.take (L.length * 2) = flatC L ∧ Below W.heap.size W w' := by
  obtain ⟨g, cap, cur, rfl, hb, hg, ht⟩ := h.cells hL
  obtain ⟨i0, hi, hz, hsz, hby⟩ := info_parts info64
  have hn : 0 < L.length := List.length_pos_iff.2 hL
  have hc := AnyE.slices_Clone clone28 i0 (.agg #[.int .i64 0, .int .i64 0]) 2 16 hi hz hsz hby rfl (by decide) Try.sizeOf64 g 0 L.length cap (flatC L) W (flatC_length L) (by show L.length ≤ 9223372036854775807; omega) (by omega) (fun j u hj => by
      have hjl : j < L.length * 2 := by rw [← flatC_length]; exact (List.getElem?_eq_some_iff.1 hj).1
      have e1 : (cur.toList.take (L.length * 2))[j]? = cur[j]? := by rw [List.getElem?_take_of_lt hjl]; simp
      rw [ht] at e1
      have hcc : W.cell? ⟨g, 0 + j, none⟩ = cur[j]? := by simp [World.cell?, hg]
      rw [hcc, ← e1]
      exact hj) (fun u hu => by
      unfold flatC at hu
      rw [List.mem_flatMap] at hu
      obtain ⟨c, _, hc⟩ := hu
      simp [encC] at hc
      rcases hc with rfl | rfl <;> rfl)
  refine hc.mono ?_
  rintro e w' ⟨v', rfl, ho, _, hbel⟩
  rcases ho.2 with ⟨_, h0⟩ | ⟨g', cap', cur', rfl, hb', hg', _, _, _, ht'⟩
  · omega
  · exact ⟨g', cap', cur', rfl, hb', hg', ht', hbel⟩

theorem clone_nil (W : World) : Calls Try.prog 28 #[.slice none 0 0] W fun e w' => e = .returned (.slice none 0 0) ∧ w' = W := AnyE.slices_Clone_nil clone28 0 0 W

end Go.Proofs.Ytclplacjgofccaa
