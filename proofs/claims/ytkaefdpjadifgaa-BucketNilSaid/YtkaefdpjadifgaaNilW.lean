/- The walk of BucketNil. -/
import Derived.Test.YtkaefdpjadifgaaB
namespace Go.Proofs.Ytkaefdpjadifgaa
open Go.RowKit
set_option linter.unusedVariables false
set_option linter.unusedSimpArgs false

theorem nil_walk (t : Int) (w : World) : Calls Try.prog 8 #[.int .i64 t] w fun e w' => e = .returned (.bool true) ∧ Below w.heap.size w w' := by
  go_enter Try.func8, Try.ntmps8
  go_wp2_with fail
  refine (awake_any _).mono ?_
  rintro e w1 ⟨rfl, b1⟩
  go_wp2_with fail
  refine (fits_nil _ _).mono ?_
  rintro e w2 ⟨rfl, n2, rfl⟩
  go_wp2_with fail
  refine (take_nil _ _).mono ?_
  rintro e w2 ⟨rfl, n3, rfl⟩
  go_wp2_with fail
  refine (due_nil _).mono ?_
  rintro e w2 ⟨rfl, n4, rfl⟩
  go_wp2_with fail
  refine (level_nil _ _).mono ?_
  rintro e w2 ⟨rfl, n5, rfl⟩
  go_wp2_with fail
  refine (copy_nil _).mono ?_
  rintro e w2 ⟨rfl, n6, rfl⟩
  go_wp2_with fail
  go_ret
  exact ⟨rfl, below_drewN b1 _⟩

end Go.Proofs.Ytkaefdpjadifgaa
