/- LedgerNil of a slice that is too long. -/
import Derived.Test.YthgjccbmfbileaaNilP
namespace Go.Proofs.Ythgjccbmfbileaa
open Go.RowKit Go.Maps Go.Shelf Go.Sort
set_option linter.unusedVariables false
set_option linter.unusedSimpArgs false

theorem nil_long (stop : Int) (A : Option Addr) (n cap : Nat) (w : World) (hn : 100 < n) :
    Calls Try.prog 8 #[.slice A n cap, .int .u8 stop] w fun e w' => e = .returned (.bool true) ∧ Below w.heap.size w w' := by
  refine (callsIn_wide (n := 7)).1 (callsIn_of_wp_marks Try.func8 rfl trivial ?_ rfl)
  simp only [Try.ntmps8, List.size_toArray, List.length_cons, List.length_nil, Nat.reduceAdd, Nat.reduceSub, Array.replicate_succ, Array.replicate_zero, List.push_toArray, List.append_toArray, List.nil_append, List.cons_append]
  refine wpIn_wide.2 ?_
  have HB0 := Lib.hid ((Below.refl w.heap.size w).alloc (Nat.le_refl _) (.cells #[.int .u8 stop] 5))
  go_wp2_with fail
  refine (awake_any _).mono ?_
  rintro e w1 ⟨rfl, b1⟩
  have HB1 := Lib.hid (HB0.out.trans (b1.mono HB0.out.size))
  clear b1
  go_wp2_with fail
  refine (awake_any _).mono ?_
  rintro e w2 ⟨rfl, b2⟩
  have HB2 := Lib.hid (HB1.out.trans (b2.mono HB1.out.size))
  clear b2
  go_wp2_with fail
  exact ⟨_, results_tmp rfl _ _ _, rfl, HB2.out⟩

end Go.Proofs.Ythgjccbmfbileaa
