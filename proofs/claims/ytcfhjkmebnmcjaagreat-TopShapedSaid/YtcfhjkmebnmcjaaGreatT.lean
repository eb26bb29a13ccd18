/- A plane's Counts. -/
import Derived.Test.YtcfhjkmebnmcjaaGreatS
import Derived.Test.YtcfhjkmebnmcjaaGreatF
namespace Go.Proofs.YtcfhjkmebnmcjaaGreat
open Go.RowKit
set_option linter.unusedVariables false
set_option linter.unusedSimpArgs false
attribute [local go_sem] Oper.semAt_some

abbrev cntL (a g : Int) : List Value := [.int .i64 0, .int .i64 0, .int .i64 0, .int .i64 0, .int .i64 0, .int .i64 0, .int .i64 a, .int .i64 g, .int .i64 0]
theorem Pl.cnt {W : World} {p nb tb wm cm : Nat} {L : Value} {nx now a g : Int} (h : Pl W p nb tb wm cm L nx now a g) : W.rangeAt p 11 (cntL a g) := by
  unfold Pl at h
  intro j v hv
  have hj : j < 9 := (List.getElem?_eq_some_iff.1 hv).1
  have h9 : j = 0 ∨ j = 1 ∨ j = 2 ∨ j = 3 ∨ j = 4 ∨ j = 5 ∨ j = 6 ∨ j = 7 ∨ j = 8 := by omega
  rcases h9 with rfl | rfl | rfl | rfl | rfl | rfl | rfl | rfl | rfl <;> (simp [World.cell?, h] at hv ⊢; exact hv)

set_option maxRecDepth 100000 in
theorem counts_at {p nb tb wm cm : Nat} {L : Value} {nx now a g : Int} (w : World) (hP : Pl w p nb tb wm cm L nx now a g) :
    Calls Tryz.prog 12 #[.pointer (some ⟨p, 0, none⟩)] w fun e w' => e = .returned (.agg (cntL a g).toArray) ∧ Below w.heap.size w w' := by
  have hR := (hP.below ((Below.refl w.heap.size w).alloc (Nat.le_refl _) (.cells #[.int .i64 0, .int .i64 0, .int .i64 0, .int .i64 0, .int .i64 0, .int .i64 0, .int .i64 0, .int .i64 0, .int .i64 0] 46))).cnt
  have HR := Lib.hid hR
  clear hR hP
  go_enter Tryz.func12, Tryz.ntmps12
  go_wp2_with (refine wpList_load_mid rfl 46 (.tmp 8) rfl p 11 rfl (cntL a g) _ HR.out Tryz.underlying46 rfl (by kernel_rfl) ?_)
  exact bodyPost_ret (results_cell_row rfl _ _ w.heap.size _ _ _ _ rfl (heap_new' _ rfl) Tryz.underlying46 rfl (by kernel_rfl)) rfl ⟨rfl, (Below.refl _ _).alloc (Nat.le_refl _) _⟩

end Go.Proofs.YtcfhjkmebnmcjaaGreat
