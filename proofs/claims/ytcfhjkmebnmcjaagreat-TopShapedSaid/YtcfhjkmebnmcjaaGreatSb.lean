/- The walk of TopShaped. -/
import Derived.Test.YtcfhjkmebnmcjaaGreatSa
namespace Go.Proofs.YtcfhjkmebnmcjaaGreat
open Go.RowKit Go.Shelf
set_option linter.unusedVariables false
set_option linter.unusedSimpArgs false
attribute [local go_sem] Oper.semAt_some

set_option maxHeartbeats 4000000 in
theorem shaped_long (c : Ct) (A : Option Addr) (n cap : Nat) (w : World) (hn : 100 < n) :
    Calls Tryz.prog 3 #[c.v, .slice A n cap] w fun e w' => e = .returned (.bool true) ∧ Below w.heap.size w w' := by
  have HB0 := Lib.hid ((Below.refl w.heap.size w).alloc (Nat.le_refl _) (.cells #[.int .i64 c.k, .int .i64 c.p, .int .i64 c.e, .int .i64 c.w, .int .i64 c.b, .int .i64 c.l] 23))
  go_enter Tryz.func3, Tryz.ntmps3
  go_wp2_with fail
  refine (alive_at _).mono ?_
  rintro e w1 ⟨rfl, b1⟩
  have HB1 := Lib.hid (HB0.out.trans (b1.mono HB0.out.size))
  clear b1
  go_wp2_with fail
  go_ret
  exact ⟨rfl, HB1.out⟩

set_option maxHeartbeats 4000000 in
theorem shaped_wrong (c : Ct) (hc : ¬ c.Ok) (A : Option Addr) (n cap : Nat) (w : World) (hn : n ≤ 100) :
    Calls Tryz.prog 3 #[c.v, .slice A n cap] w fun e w' => e = .returned (.bool true) ∧ Below w.heap.size w w' := by
  have HB0 := Lib.hid ((Below.refl w.heap.size w).alloc (Nat.le_refl _) (.cells #[.int .i64 c.k, .int .i64 c.p, .int .i64 c.e, .int .i64 c.w, .int .i64 c.b, .int .i64 c.l] 23))
  have hk := heap_new' w (o := .cells #[.int .i64 c.k, .int .i64 c.p, .int .i64 c.e, .int .i64 c.w, .int .i64 c.b, .int .i64 c.l] 23) rfl
  have HK := Lib.hid hk
  have HC := Lib.hid hc
  clear hk hc
  go_enter Tryz.func3, Tryz.ntmps3
  go_wp2_with fail
  refine (alive_at _).mono ?_
  rintro e w1 ⟨rfl, b1⟩
  have HB1 := Lib.hid (HB0.out.trans (b1.mono HB0.out.size))
  obtain ⟨a0, a1, a2, a3, a4, a5⟩ := at6 ((b1.block w.heap.size (by simp)).trans HK.out)
  clear b1
  go_wp2_with fail
  refine (right_any c _).mono ?_
  rintro e w2 ⟨n2, rfl, hn2, b2⟩
  have HB2 := Lib.hid (HB1.out.trans (b2.mono HB1.out.size))
  have hne : (n2 != 0) = true := by simpa using fun e => HC.out (hn2.1 e)
  clear b2 hn2
  go_wp2_with fail
  go_ret
  exact ⟨rfl, HB2.out⟩

end Go.Proofs.YtcfhjkmebnmcjaaGreat
