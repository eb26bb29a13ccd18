/- A plane's linked and comes. -/
import Derived.Test.YtcfhjkmebnmcjaaGreatKb
namespace Go.Proofs.YtcfhjkmebnmcjaaGreat
open Go.RowKit
set_option linter.unusedVariables false
set_option linter.unusedSimpArgs false
attribute [local go_sem] Oper.semAt_some

theorem linked_at {p nb tb wm cm lg cap : Nat} {nx now a g : Int} (w : World) (hP : Pl w p nb tb wm cm (.slice (some ⟨lg, 0, none⟩) 2 cap) nx now a g) :
    Calls Tryz.prog 17 #[.pointer (some ⟨p, 0, none⟩), .int .i64 0] w fun e w' => e = .returned (.bool true) ∧ w' = w := by
  have c1 := hP.c1
  clear hP
  go_enter Tryz.func17, Tryz.ntmps17
  go_wp2_with fail
  go_ret
  exact ⟨rfl, rfl⟩

theorem comes_at {p nb tb wm cm : Nat} {L : Value} {nx now a g : Int} (t : Int) (h0 : now ≤ t) (h1 : t ≤ 1152921504606846976) (w : World) (hP : Pl w p nb tb wm cm L nx now a g) :
    Calls Tryz.prog 26 #[.pointer (some ⟨p, 0, none⟩), .int .i64 t] w fun e w' => e = .returned (.int .i64 0) ∧ w' = w := by
  have c10 := hP.c10
  have n1 : decide (t < now) = false := by simp; omega
  have n2 : decide (1152921504606846976 < t) = false := by simp; omega
  clear hP
  go_enter Tryz.func26, Tryz.ntmps26
  go_wp2_with fail
  all_goals first | omega | skip
  go_ret
  exact ⟨rfl, rfl⟩

end Go.Proofs.YtcfhjkmebnmcjaaGreat
