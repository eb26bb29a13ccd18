/- The contracts of bytes, and of send. -/
import Derived.Test.YtcfhjkmebnmcjaaGreatF
namespace Go.Proofs.YtcfhjkmebnmcjaaGreat
open Go.RowKit
set_option linter.unusedVariables false
set_option linter.unusedSimpArgs false
attribute [local go_sem] Oper.semAt_some

set_option maxRecDepth 100000 in
set_option maxHeartbeats 4000000 in
theorem bytes_at (w : World) : Calls Tryz.prog 11 #[.int .i64 40, .int .i64 0, .int .i64 0, payV] w fun e w' => ∃ gb cap, e = .returned (.slice (some ⟨gb, 0, none⟩) 53 cap) ∧ 53 ≤ cap ∧ In40 w' gb ∧ Below w.heap.size w w' := by
  go_enter Tryz.func11, Tryz.ntmps11
  go_wp2_with (refine wpList_load_row rfl 45 (.tmp 7) rfl w.heap.size rfl 45 _ (0, 0) _ (heap_new' _ rfl) Tryz.underlying45 rfl (by kernel_rfl) ?_)
  refine (build_at hd40 _).mono ?_
  rintro e w1 ⟨v, rfl, hown, hb1⟩
  have HB1 := Lib.hid (((Below.refl w.heap.size w).alloc (Nat.le_refl _) _).trans (hb1.mono (by simp)))
  have HO := Lib.hid hown
  clear hown hb1
  go_wp2_with fail
  go_ret
  obtain ⟨gb, cap, rfl, _, hcap, hi⟩ := In40.of_row HO.out
  exact ⟨gb, cap, rfl, hcap, hi, HB1.out⟩

set_option maxRecDepth 100000 in
set_option maxHeartbeats 4000000 in
theorem send_at {clp x y r : Int} (H : Hd 50 clp x y r) (w : World) : Calls Tryz.prog 51 #[.agg #[.int .i64 1, .int .i64 0, .int .i64 50], .int .i64 0, .int .i64 clp, payV] w fun e w' => ∃ v, e = .returned (.agg #[.int .i64 1, v]) ∧ Below w.heap.size w w' := by
  have HH := Lib.hid H
  clear H
  go_enter Tryz.func51, Tryz.ntmps51
  go_wp2_with (refine wpList_load_row rfl 45 (.tmp 7) rfl (w.heap.size + 1) rfl 45 _ (0, 0) _ ((Below.heap_alloc _ _ _ (by simp)).trans (heap_new' _ (by simp))) Tryz.underlying45 rfl (by kernel_rfl) ?_)
  refine (build_at HH.out _).mono ?_
  rintro e w1 ⟨v, rfl, hown, hb1⟩
  obtain ⟨g5, cap5, rfl⟩ : ∃ g5 cap5, v = .slice (some ⟨g5, 0, none⟩) 53 cap5 := by
    rcases hown.2 with ⟨_, h0⟩ | ⟨gb, cap, cur, rfl, _⟩
    · omega
    · exact ⟨_, _, rfl⟩
  have hs1 : w.heap.size + 3 ≤ w1.heap.size := by have := hb1.size; simpa using this
  have HB1 := Lib.hid (((((Below.refl w.heap.size w).alloc (Nat.le_refl _) (.cells #[.int .i64 1, .int .i64 0, .int .i64 50] 35)).alloc (by simp) (.cells #[.int .u8 0, .int .u8 0, .int .u8 0, .int .u8 0, .int .u8 0, .int .u8 0, .int .u8 0, .int .u8 0, .int .u8 0, .int .u8 0, .int .u8 0, .int .u8 0, .int .u8 0, .int .u8 0, .int .u8 0, .int .u8 0, .int .u8 0, .int .u8 0, .int .u8 0, .int .u8 0, .int .u8 0, .int .u8 0, .int .u8 0, .int .u8 0, .int .u8 0, .int .u8 0, .int .u8 0, .int .u8 0, .int .u8 0, .int .u8 0, .int .u8 0, .int .u8 0, .int .u8 0, .int .u8 0, .int .u8 0, .int .u8 0, .int .u8 0, .int .u8 0, .int .u8 0, .int .u8 0, .int .u8 0, .int .u8 0, .int .u8 0, .int .u8 0, .int .u8 0, .int .u8 0, .int .u8 0, .int .u8 0] 45)).alloc (by simp; omega) (.cells #[.int .i64 0, .slice none 0 0] 145)).trans (hb1.mono (by simp; omega)))
  have k0 := (hb1.block w.heap.size (by simp; omega)).trans ((Below.heap_alloc _ _ _ (by simp; omega)).trans ((Below.heap_alloc _ _ _ (by simp)).trans (heap_new' _ rfl)))
  have k2 := (hb1.block (w.heap.size + 1 + 1) (by simp)).trans (heap_new' _ (by simp))
  have hc0 : w1.cell? ⟨w.heap.size, 0, none⟩ = some (.int .i64 1) := by simp [World.cell?, k0]
  obtain ⟨d0, d1⟩ := at2 k2
  have df := fz k2
  have HK := Lib.hid k2
  clear k0 k2 hb1 hown hs1
  go_wp2_with fail
  have R := heap_set (heap_set HK.out 0 (.int .i64 1)) 1 (.slice (some ⟨g5, 0, none⟩) 53 cap5)
  have HB2 := (HB1.out.setCell (p := ⟨w.heap.size + 1 + 1, 0, none⟩) (by simp; omega) (.int .i64 1)).setCell (p := ⟨w.heap.size + 1 + 1, 1, none⟩) (by simp; omega) (.slice (some ⟨g5, 0, none⟩) 53 cap5)
  generalize (w1.setCell ⟨w.heap.size + 1 + 1, 0, none⟩ (.int .i64 1)).setCell ⟨w.heap.size + 1 + 1, 1, none⟩ (.slice (some ⟨g5, 0, none⟩) 53 cap5) = w2 at R HB2 ⊢
  have R' : w2.heap[w.heap.size + 1 + 1]? = some (.cells #[.int .i64 1, .slice (some ⟨g5, 0, none⟩) 53 cap5] 145 (0, 0)) := R
  exact bodyPost_ret (results_cell_row rfl _ _ (w.heap.size + 1 + 1) _ _ _ _ rfl R' Tryz.underlying145 rfl (by kernel_rfl)) rfl ⟨_, rfl, HB2⟩

end Go.Proofs.YtcfhjkmebnmcjaaGreat
