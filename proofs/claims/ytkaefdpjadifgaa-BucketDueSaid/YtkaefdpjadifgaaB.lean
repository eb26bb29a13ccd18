/- The contract of awake. -/
import Derived.Test.YtkaefdpjadifgaaA
namespace Go.Proofs.Ytkaefdpjadifgaa
open Go.RowKit
set_option linter.unusedVariables false
set_option linter.unusedSimpArgs false

theorem ok_a : (Bk.mk 10 3 0 false).Ok := ⟨by simp, by simp, by simp, by simp, by simp, by simp, by simp⟩
theorem ok_b : (Bk.mk 10 3 10 true).Ok := ⟨by simp, by simp, by simp, by simp, by simp, by simp, by simp⟩
theorem ok_c : (Bk.mk 10 3 20 true).Ok := ⟨by simp, by simp, by simp, by simp, by simp, by simp, by simp⟩

theorem new_10 (w : World) : Calls Try.prog 10 #[.int .i64 10, .int .i64 3] w (NewB ⟨10, 3, 0, false⟩ w) := by
  have h := new_any 10 3 w
  rwa [show hold 10 1 1152921504606846976 = 10 by unfold hold; omega, show hold 3 0 1152921504606846976 = 3 by unfold hold; omega] at h

theorem hold_0 : hold 0 0 1152921504606846976 = 0 := by unfold hold; omega
theorem hold_6 : hold 6 0 1152921504606846976 = 6 := by unfold hold; omega
theorem hold_7 : hold 7 0 1152921504606846976 = 7 := by unfold hold; omega
theorem hold_18 : hold 18 0 1152921504606846976 = 18 := by unfold hold; omega

theorem take_0 {b : Nat} {w : World} (h : HasB w b ⟨10, 3, 0, false⟩) : Calls Try.prog 12 #[.pointer (some ⟨b, 0, none⟩), .int .i64 0] w (SetsB b ⟨10, 3, 10, true⟩ (.bool true) w) := by
  have e := take_yes _ ok_a b 0 w h rfl
  unfold tookB at e
  simpa [hold_0] using e
theorem take_6 {b : Nat} {w : World} (h : HasB w b ⟨10, 3, 10, true⟩) : Calls Try.prog 12 #[.pointer (some ⟨b, 0, none⟩), .int .i64 6] w fun e w' => e = .returned (.bool false) ∧ ∃ n, w' = w.drewN n :=
  take_no _ ok_b b 6 w h (by simp [fitB, hold_6])
theorem take_7 {b : Nat} {w : World} (h : HasB w b ⟨10, 3, 10, true⟩) : Calls Try.prog 12 #[.pointer (some ⟨b, 0, none⟩), .int .i64 7] w (SetsB b ⟨10, 3, 20, true⟩ (.bool true) w) := by
  have e := take_yes _ ok_b b 7 w h (by simp [fitB, hold_7])
  unfold tookB at e
  simpa [hold_7, Int.max_def] using e
theorem due_20 {b : Nat} {w : World} (h : HasB w b ⟨10, 3, 20, true⟩) : Calls Try.prog 15 #[.pointer (some ⟨b, 0, none⟩)] w fun e w' => e = .returned (.int .i64 17) ∧ ∃ n, w' = w.drewN n := by
  have e := due_any _ ok_c b w h
  simpa [dueB, Int.max_def] using e
theorem level_18 {b : Nat} {w : World} (h : HasB w b ⟨10, 3, 20, true⟩) : Calls Try.prog 13 #[.pointer (some ⟨b, 0, none⟩), .int .i64 18] w fun e w' => e = .returned (.int .i64 2) ∧ ∃ n, w' = w.drewN n := by
  have e := level_any _ ok_c b 18 w h
  simpa [levelB, hold_18, Int.max_def] using e

/-- All below B stays as it was behind a store into a block from B on. -/
theorem below_grown {B b : Nat} {a w w' : World} (h : Below B a w) (hg : w.grownBy w' (some b)) (hB : B ≤ w.heap.size) (hb : B ≤ b) : Below B a w' :=
  h.grown hg hB (fun k hk => by cases hk; exact hb)

theorem below_drewN {B : Nat} {a w : World} (h : Below B a w) (n : Nat) : Below B a (w.drewN n) := ⟨h.os, h.tape, h.output, h.size, h.block⟩

theorem awake_any (w : World) : Calls Try.prog 9 #[] w fun e w' => e = .returned (.bool true) ∧ Below w.heap.size w w' := by
  go_enter Try.func9, Try.ntmps9
  go_wp2_with fail
  refine (new_10 _).mono ?_
  rintro e w1 ⟨b, rfl, hb, h1, g1⟩
  have HB := Lib.hid hb
  clear hb
  go_wp2_with fail
  refine (take_0 h1).mono ?_
  rintro e w2 ⟨rfl, h2, g2, s2⟩
  go_wp2_with fail
  refine (take_6 h2).mono ?_
  rintro e w2' ⟨rfl, n2, rfl⟩
  go_wp2_with fail
  refine (take_7 (w := w2.drewN n2) h2).mono ?_
  rintro e w3 ⟨rfl, h3, g3, s3⟩
  go_wp2_with fail
  refine (due_20 h3).mono ?_
  rintro e w3' ⟨rfl, n3, rfl⟩
  go_wp2_with fail
  refine (level_18 (w := w3.drewN n3) h3).mono ?_
  rintro e w3' ⟨rfl, n4, rfl⟩
  go_wp2_with fail
  go_ret
  have hb := HB.out
  have b1 : Below w.heap.size w w1 := ⟨g1.os, g1.tape, g1.output, g1.size, fun k hk => g1.block k hk (by simp)⟩
  have b2 := below_grown b1 g2 b1.size hb
  have b3 := below_grown (below_drewN b2 n2) g3 b2.size hb
  exact ⟨rfl, below_drewN b3 _⟩

end Go.Proofs.Ytkaefdpjadifgaa
