/- A new table; how many it has; a number put to a key. -/
import Derived.Test.YtcfhjkmebnmcjaaGreatG
namespace Go.Proofs.YtcfhjkmebnmcjaaGreat
open Go.RowKit
set_option linter.unusedVariables false
set_option linter.unusedSimpArgs false
attribute [local go_sem] Oper.semAt_some

theorem tabX : TbC (Tryz.zeroCells108.setIfInBounds 641 (.int .i64 64)) 0 40 15 false ∧ TbC (Tryz.zeroCells108.setIfInBounds 641 (.int .i64 64)) 1 50 355 false :=
  ⟨⟨by kernel_rfl, by kernel_rfl, by kernel_rfl, by kernel_rfl, by kernel_rfl, by kernel_rfl, by kernel_rfl, by kernel_rfl⟩,
   ⟨by kernel_rfl, by kernel_rfl, by kernel_rfl, by kernel_rfl, by kernel_rfl, by kernel_rfl, by kernel_rfl, by kernel_rfl⟩⟩

/-- A new table, that has neither key. -/
def TNew (w : World) (e : Ending) (w' : World) : Prop := ∃ t, e = .returned (.pointer (some ⟨t, 0, none⟩)) ∧ w.heap.size ≤ t ∧ Tb w' t 0 40 15 false ∧ Tb w' t 1 50 355 false ∧ Below w.heap.size w w'

set_option maxRecDepth 100000 in
set_option maxHeartbeats 2000000 in
theorem tnew_at (w : World) : Calls Tryz.prog 15 #[.int .i64 64] w (TNew w) := by
  go_enter Tryz.func15, Tryz.ntmps15
  go_wp2
  go_ret
  exact ⟨w.heap.size, rfl, Nat.le_refl _, ⟨_, heap_new' w rfl, tabX.1⟩, ⟨_, heap_new' w rfl, tabX.2⟩, (Below.refl _ _).alloc (Nat.le_refl _) _⟩

theorem tlen_at {p c : Int} {o : Nat} (t : Nat) (w : World) (h : Tb w t p c o false) : Calls Tryz.prog 58 #[.pointer (some ⟨t, 0, none⟩)] w fun e w' => e = .returned (.int .i64 0) ∧ ∃ n, w' = w.drewN n := by
  obtain ⟨_, _, _, _, _, t5, _, _⟩ := h.at
  simp only [Bool.false_eq_true, if_false] at t5
  clear h
  go_enter Tryz.func58, Tryz.ntmps58
  go_wp2
  go_ret
  exact ⟨rfl, 0, rfl⟩

end Go.Proofs.YtcfhjkmebnmcjaaGreat
