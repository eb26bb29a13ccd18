/- The contracts of the contract's functions, and of what one costs. -/
import Derived.Test.YtcfhjkmebnmcjaaGreatA
import Derived.Below
namespace Go.Proofs.YtcfhjkmebnmcjaaGreat
open Go.RowKit
set_option linter.unusedVariables false
set_option linter.unusedSimpArgs false

/-- Is a number from least to the longest? -/
def spanB (n least : Int) : Bool := decide (least ≤ n) && decide (n ≤ 1099511627776)
theorem spanB_iff {n least : Int} : spanB n least = true ↔ least ≤ n ∧ n ≤ 1099511627776 := by simp [spanB]
theorem spanB_no {n least : Int} : spanB n least = false ↔ ¬ (least ≤ n ∧ n ≤ 1099511627776) := by rw [← spanB_iff]; simp

theorem span_any (n least : Int) (w : World) : Calls Tryz.prog 13 #[.int .i64 n, .int .i64 least] w fun e w' => e = .returned (.bool (spanB n least)) ∧ w' = w := by
  have hk : spanB n least = (decide (least ≤ n) && decide (n ≤ 1099511627776)) := rfl
  rw [hk]
  clear hk
  by_cases h : least ≤ n
  · go_enter Tryz.func13, Tryz.ntmps13
    go_wp2
    all_goals
      go_ret
      simp_all
  · go_enter Tryz.func13, Tryz.ntmps13
    go_wp2
    all_goals
      go_ret
      simp_all
      try omega

/-- A contract. -/
structure Ct where
  k : Int
  p : Int
  e : Int
  w : Int
  b : Int
  l : Int
abbrev Ct.v (c : Ct) : Value := .agg #[.int .i64 c.k, .int .i64 c.p, .int .i64 c.e, .int .i64 c.w, .int .i64 c.b, .int .i64 c.l]
def Ct.Ok (c : Ct) : Prop := 1 ≤ c.p ∧ c.p ≤ 1099511627776 ∧ 0 ≤ c.e ∧ c.e ≤ 1099511627776 ∧
  (((c.k = 2 ∨ c.k = 3 ∨ c.k = 4) ∧ c.p ≤ c.w ∧ c.w ≤ 1099511627776 ∧ 0 ≤ c.b ∧ c.b ≤ 1099511627776 ∧ c.l = 0) ∨
   (c.k = 5 ∧ c.w = 0 ∧ c.b = 0 ∧ (c.l = 0 ∨ (c.p ≤ c.l ∧ c.l ≤ 1099511627776))) ∨
   ((c.k = 1 ∨ c.k = 6 ∨ c.k = 7) ∧ c.w = 0 ∧ c.b = 0 ∧ c.l = 0))

/-- What Right tells. -/
def RightP (c : Ct) (w : World) (e : Ending) (w' : World) : Prop := ∃ n : Int, e = .returned (.int .i64 n) ∧ (n = 0 ↔ c.Ok) ∧ Below w.heap.size w w'

set_option maxHeartbeats 4000000 in
theorem right_any (c : Ct) (w : World) : Calls Tryz.prog 5 #[c.v] w (RightP c w) := by
  obtain ⟨k, p, e, wh, b, l⟩ := c
  by_cases h2 : k = 2 ∨ k = 3 ∨ k = 4
  · rcases h2 with rfl | rfl | rfl
    all_goals
      go_enter Tryz.func5, Tryz.ntmps5
      go_wp2_with (go_at_call 13; refine (span_any _ _ _).mono ?_; rintro e w' ⟨rfl, rfl⟩)
      all_goals
        go_ret
        refine ⟨_, rfl, ?_, (Below.refl _ _).alloc (Nat.le_refl _) _⟩
        unfold Ct.Ok
        simp only [spanB_iff, spanB_no, Bool.not_eq_true, Bool.not_eq_eq_eq_not, Bool.not_true, Bool.not_false, beq_iff_eq, beq_eq_false_iff_ne, ne_eq, true_iff] at *
        first | omega | (simp; omega)
  · by_cases h5 : k = 5
    · subst h5
      go_enter Tryz.func5, Tryz.ntmps5
      go_wp2_with (go_at_call 13; refine (span_any _ _ _).mono ?_; rintro e w' ⟨rfl, rfl⟩)
      all_goals
        go_ret
        refine ⟨_, rfl, ?_, (Below.refl _ _).alloc (Nat.le_refl _) _⟩
        unfold Ct.Ok
        simp only [spanB_iff, spanB_no, Bool.not_eq_true, Bool.not_eq_eq_eq_not, Bool.not_true, Bool.not_false, beq_iff_eq, beq_eq_false_iff_ne, ne_eq, true_iff] at *
        first | omega | (simp; omega)
    · by_cases h1 : k = 1 ∨ k = 6 ∨ k = 7
      · rcases h1 with rfl | rfl | rfl
        all_goals
          go_enter Tryz.func5, Tryz.ntmps5
          go_wp2_with (go_at_call 13; refine (span_any _ _ _).mono ?_; rintro e w' ⟨rfl, rfl⟩)
          all_goals
            go_ret
            refine ⟨_, rfl, ?_, (Below.refl _ _).alloc (Nat.le_refl _) _⟩
            unfold Ct.Ok
            simp only [spanB_iff, spanB_no, Bool.not_eq_true, Bool.not_eq_eq_eq_not, Bool.not_true, Bool.not_false, beq_iff_eq, beq_eq_false_iff_ne, ne_eq, true_iff] at *
            first | omega | (simp; omega)
      · go_enter Tryz.func5, Tryz.ntmps5
        go_wp2_with (go_at_call 13; refine (span_any _ _ _).mono ?_; rintro e w' ⟨rfl, rfl⟩)
        all_goals
          go_ret
          refine ⟨_, rfl, ?_, (Below.refl _ _).alloc (Nat.le_refl _) _⟩
          unfold Ct.Ok
          simp only [spanB_iff, spanB_no, Bool.not_eq_true, Bool.not_eq_eq_eq_not, Bool.not_true, Bool.not_false, beq_iff_eq, beq_eq_false_iff_ne, ne_eq, true_iff] at *
          first | omega | (simp; omega)

end Go.Proofs.YtcfhjkmebnmcjaaGreat
