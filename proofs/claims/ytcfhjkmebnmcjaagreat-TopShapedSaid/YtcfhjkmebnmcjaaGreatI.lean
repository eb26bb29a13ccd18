/- The contracts of an alarm's functions, of gather.New. -/
import Derived.Test.YtcfhjkmebnmcjaaGreatF
import Derived.StillTailTactics
namespace Go.Proofs.YtcfhjkmebnmcjaaGreat
open Go.RowKit
set_option linter.unusedVariables false
set_option linter.unusedSimpArgs false
attribute [local go_sem] Oper.semAt_some

abbrev place : Value := .agg #[.int .u8 0, .int .u8 0, .int .u8 0, .int .u8 0, .int .u8 0, .int .u8 0, .int .u8 0, .int .u8 0, .int .u8 0, .int .u8 0, .int .u8 0, .int .u8 0, .int .u8 0, .int .u8 0, .int .u8 0, .int .u8 0]
/-- A way's alarm. -/
abbrev alarmC : Array Value := #[.int .i64 0, .int .i64 0, .int .u8 0, .int .u8 0, .int .u8 0, .int .u8 0, .int .u8 0, .int .u8 0, .int .u8 0, .int .u8 0, .int .u8 0, .int .u8 0, .int .u8 0, .int .u8 0, .int .u8 0, .int .u8 0, .int .u8 0, .int .u8 0, .int .i64 10, .bool false]
def HasA (W : World) (a : Nat) : Prop := W.heap[a]? = some (.cells alarmC 120 (0, 0))

theorem held_10 (w : World) : Calls Tryz.prog 41 #[.int .i64 10] w fun e w' => e = .returned (.int .i64 10) ∧ w' = w := by
  go_enter Tryz.func41, Tryz.ntmps41
  go_wp2
  go_ret
  exact ⟨rfl, rfl⟩
theorem held_10' (w : World) : Calls Tryz.prog 41 #[.int .i64 10] w fun e w' => e = .returned (.int .i64 10) ∧ w' = w := held_10 w

def ANew (w : World) (e : Ending) (w' : World) : Prop := ∃ a, e = .returned (.pointer (some ⟨a, 0, none⟩)) ∧ w.heap.size ≤ a ∧ HasA w' a ∧ Below w.heap.size w w'

set_option maxRecDepth 100000 in
set_option maxHeartbeats 2000000 in
theorem anew_at (w : World) : Calls Tryz.prog 21 #[place, .int .i64 10] w (ANew w) := by
  have hk := heap_new' w (o := .cells #[.int .u8 0, .int .u8 0, .int .u8 0, .int .u8 0, .int .u8 0, .int .u8 0, .int .u8 0, .int .u8 0, .int .u8 0, .int .u8 0, .int .u8 0, .int .u8 0, .int .u8 0, .int .u8 0, .int .u8 0, .int .u8 0] 75) rfl
  have hr : (w.alloc (.cells #[.int .u8 0, .int .u8 0, .int .u8 0, .int .u8 0, .int .u8 0, .int .u8 0, .int .u8 0, .int .u8 0, .int .u8 0, .int .u8 0, .int .u8 0, .int .u8 0, .int .u8 0, .int .u8 0, .int .u8 0, .int .u8 0] 75)).drew.rangeAt w.heap.size 0 [.int .u8 0, .int .u8 0, .int .u8 0, .int .u8 0, .int .u8 0, .int .u8 0, .int .u8 0, .int .u8 0, .int .u8 0, .int .u8 0, .int .u8 0, .int .u8 0, .int .u8 0, .int .u8 0, .int .u8 0, .int .u8 0] := fun j v hv => by
    rw [Nat.zero_add, cell_of_row _ _ _ _ _ _ (show (w.alloc (.cells #[.int .u8 0, .int .u8 0, .int .u8 0, .int .u8 0, .int .u8 0, .int .u8 0, .int .u8 0, .int .u8 0, .int .u8 0, .int .u8 0, .int .u8 0, .int .u8 0, .int .u8 0, .int .u8 0, .int .u8 0, .int .u8 0] 75)).drew.heap[w.heap.size]? = _ from hk)]
    simpa using hv
  have HB0 := Lib.hid (((Below.refl w.heap.size w).alloc (Nat.le_refl _) (.cells #[.int .u8 0, .int .u8 0, .int .u8 0, .int .u8 0, .int .u8 0, .int .u8 0, .int .u8 0, .int .u8 0, .int .u8 0, .int .u8 0, .int .u8 0, .int .u8 0, .int .u8 0, .int .u8 0, .int .u8 0, .int .u8 0] 75)).drew)
  have HR := Lib.hid hr
  clear hk hr
  go_enter Tryz.func21, Tryz.ntmps21
  go_wp2_with fail
  refine wp_region_still_tail 5 (by kernel_rfl) (by kernel_rfl) ?_
  simp only [List.take_succ_cons, List.take_zero, List.drop_succ_cons, List.drop_zero]
  refine wpStill_step (fun K hK => ?_)
  refine still_load_mid rfl 75 (.tmp 2) rfl w.heap.size 0 rfl [.int .u8 0, .int .u8 0, .int .u8 0, .int .u8 0, .int .u8 0, .int .u8 0, .int .u8 0, .int .u8 0, .int .u8 0, .int .u8 0, .int .u8 0, .int .u8 0, .int .u8 0, .int .u8 0, .int .u8 0, .int .u8 0] _ HR.out Tryz.underlying75 rfl (by kernel_rfl) (hK _ ?_)
  clear hK K
  still_step
  still_call (held_10 _)
  repeat still_step
  refine wpStill_nil ?_
  change wpList _ _ _ _ _ (w.alloc (.cells #[.int .u8 0, .int .u8 0, .int .u8 0, .int .u8 0, .int .u8 0, .int .u8 0, .int .u8 0, .int .u8 0, .int .u8 0, .int .u8 0, .int .u8 0, .int .u8 0, .int .u8 0, .int .u8 0, .int .u8 0, .int .u8 0] 75)).drew
  go_wp2_with fail
  go_ret
  exact ⟨w.heap.size + 1, rfl, by omega, heap_new' (w.alloc (.cells #[.int .u8 0, .int .u8 0, .int .u8 0, .int .u8 0, .int .u8 0, .int .u8 0, .int .u8 0, .int .u8 0, .int .u8 0, .int .u8 0, .int .u8 0, .int .u8 0, .int .u8 0, .int .u8 0, .int .u8 0, .int .u8 0] 75)) (by simp), (((Below.refl w.heap.size w).alloc (Nat.le_refl _) _).alloc (by simp) _).drew⟩

theorem HasA.lt {W : World} {a : Nat} (h : HasA W a) : a < W.heap.size := (Array.getElem?_eq_some_iff.1 h).1
theorem HasA.below {W W' : World} {a : Nat} (h : HasA W a) (hb : Below W.heap.size W W') : HasA W' a := (hb.block a h.lt).trans h

set_option maxRecDepth 100000 in
theorem adown_at (a : Nat) (w : World) (h : HasA w a) : Calls Tryz.prog 22 #[.pointer (some ⟨a, 0, none⟩), .bool false] w fun e w' => (∃ v, e = .returned v) ∧ Below w.heap.size w w' := by
  have c : w.cell? ⟨a, 19, none⟩ = some (.bool false) := by simp [World.cell?, show w.heap[a]? = _ from h]
  have f : ∀ o, w.frozen? ⟨a, o, none⟩ = false := fun o => by simp [World.frozen?, show w.heap[a]? = _ from h]
  have H := Lib.hid h
  clear h
  go_enter Tryz.func22, Tryz.ntmps22
  go_wp2
  go_end0
  exact ⟨⟨_, rfl⟩, below_same (Below.refl _ _) H.out rfl⟩

set_option maxRecDepth 100000 in
theorem aover_at (a : Nat) (w : World) (h : HasA w a) : Calls Tryz.prog 85 #[.pointer (some ⟨a, 0, none⟩)] w fun e w' => (∃ v, e = .returned v) ∧ Below w.heap.size w w' := by
  have c : w.cell? ⟨a, 0, none⟩ = some (.int .i64 0) := by simp [World.cell?, show w.heap[a]? = _ from h]
  have f : ∀ o, w.frozen? ⟨a, o, none⟩ = false := fun o => by simp [World.frozen?, show w.heap[a]? = _ from h]
  have H := Lib.hid h
  clear h
  go_enter Tryz.func85, Tryz.ntmps85
  go_wp2
  go_end0
  exact ⟨⟨_, rfl⟩, below_same (Below.refl _ _) H.out rfl⟩

set_option maxRecDepth 100000 in
theorem auser_at (a : Nat) (t : Int) (w : World) (h : HasA w a) : Calls Tryz.prog 53 #[.pointer (some ⟨a, 0, none⟩), .int .i64 t] w fun e w' => (∃ v, e = .returned v) ∧ Below w.heap.size w w' := by
  have HO := Lib.hid (aover_at a w h)
  clear h
  go_enter Tryz.func53, Tryz.ntmps53
  go_wp2_with fail
  refine HO.out.mono ?_
  rintro e w1 ⟨⟨v, rfl⟩, hb⟩
  have HB := Lib.hid hb
  clear hb
  go_wp2
  go_end0
  exact ⟨⟨_, rfl⟩, HB.out⟩

/-- A new gatherer. -/
theorem gnew_at (w : World) : Calls Tryz.prog 16 #[.int .i64 10] w fun e w' => ∃ g, e = .returned (.pointer (some ⟨g, 0, none⟩)) ∧ Below w.heap.size w w' := by
  go_enter Tryz.func16, Tryz.ntmps16
  go_wp2
  go_ret
  exact ⟨_, rfl, (Below.refl _ _).alloc (Nat.le_refl _) _⟩

end Go.Proofs.YtcfhjkmebnmcjaaGreat
