/- The walk of CallTimer. -/
import Derived.Test.YtjgdbmkddmjaeaaHolW
namespace Go.Proofs.Ytjgdbmkddmjaeaa
open Go.RowKit
set_option linter.unusedVariables false
set_option linter.unusedSimpArgs false

theorem ends9 (s : St) (t : Int) (m : Tm) : endsF s 9 t m = (s, []) := by unfold endsF; rw [if_neg (by omega), if_neg (by omega), if_neg (by omega)]

theorem tim_no {s : St} {t : Int} {m : Tm} (h : s.du < 1 ∨ t < s.du ∨ s.ph = 0 ∨ s.ph = 4 ∨ s.ph < 0 ∨ 5 < s.ph) : stepF s 9 t m = (s, []) := by
  by_cases h0 : s.ph = 0
  · unfold stepF nullF
    rw [if_pos h0, if_neg (by omega), if_neg (by omega), if_neg (by omega)]
  by_cases h4 : s.ph = 4
  · unfold stepF
    rw [if_neg (by omega), if_neg (by omega), if_neg (by omega), if_neg (by omega), if_pos h4]
    exact ends9 s t m
  by_cases ho : s.ph < 0 ∨ 5 < s.ph
  · unfold stepF
    rw [if_neg (by omega), if_neg (by omega), if_neg (by omega), if_neg (by omega), if_neg (by omega), if_neg (by omega)]
  have hd : dueB s 9 t = false := by
    unfold dueB
    simp
    omega
  have hd' : ¬ dueB s 9 t = true := by rw [hd]; simp
  unfold stepF
  by_cases h1 : s.ph = 1
  · rw [if_neg (by omega), if_pos h1]
    unfold incomingF
    rw [if_neg (by omega), if_neg hd']
    exact ends9 s t m
  by_cases h2 : s.ph = 2
  · rw [if_neg (by omega), if_neg (by omega), if_pos h2]
    unfold presentF
    rw [if_neg (by omega), if_neg (by omega), if_neg (fun h => hd' h.1), if_neg hd']
    exact ends9 s t m
  by_cases h3 : s.ph = 3
  · rw [if_neg (by omega), if_neg (by omega), if_neg (by omega), if_pos h3]
    unfold outgoingF
    rw [if_neg (by omega), if_neg hd']
    exact ends9 s t m
  · rw [if_neg (by omega), if_neg (by omega), if_neg (by omega), if_neg (by omega), if_neg (by omega), if_pos (by omega)]
    unfold releasingF
    rw [if_neg (fun h => hd' h.1), if_neg (fun h => by rcases h with h | h | h; exact hd' h; omega; omega)]

theorem tim_yes {s : St} {t : Int} {m : Tm} (h1 : 0 < s.du) (h2 : s.du ≤ t) (h3 : s.ph = 1 ∨ s.ph = 2 ∨ s.ph = 3 ∨ s.ph = 5) :
    (stepF s 9 t m).2.length = 1 ∧ ((stepF s 9 t m).1.ph ≠ s.ph ∨ (stepF s 9 t m).1.ph = s.ph ∧ s.tr = 1 ∧ (stepF s 9 t m).1.tr = 2) ∧ (t < (stepF s 9 t m).1.du ∨ (stepF s 9 t m).1.ph = 0) := by
  have ha := hd_bd m.a
  have hb := hd_bd m.b
  have hc := hd_bd m.c
  have hd : dueB s 9 t = true := by unfold dueB; simp [h1, h2]
  unfold stepF
  rcases h3 with h3 | h3 | h3 | h3
  · rw [if_neg (by omega), if_pos h3]
    unfold incomingF
    rw [if_neg (by omega), if_pos hd]
    refine ⟨rfl, .inl (by simp only; omega), .inl (by simp only; omega)⟩
  · rw [if_neg (by omega), if_neg (by omega), if_pos h3]
    unfold presentF
    rw [if_neg (by omega), if_neg (by omega)]
    by_cases ht : s.tr = 1
    · rw [if_pos ⟨hd, ht⟩]
      refine ⟨rfl, .inr ⟨by simp only; omega, ht, rfl⟩, .inl (by simp only; omega)⟩
    · rw [if_neg (fun h => ht h.2), if_pos hd]
      refine ⟨rfl, .inl (by simp only; omega), .inr rfl⟩
  · rw [if_neg (by omega), if_neg (by omega), if_neg (by omega), if_pos h3]
    unfold outgoingF
    rw [if_neg (by omega), if_pos hd]
    refine ⟨rfl, .inl (by simp only; omega), .inl (by simp only; omega)⟩
  · rw [if_neg (by omega), if_neg (by omega), if_neg (by omega), if_neg (by omega), if_neg (by omega), if_pos h3]
    unfold releasingF
    by_cases ht : s.tr = 1
    · rw [if_pos ⟨hd, ht⟩]
      refine ⟨rfl, .inr ⟨by simp only; omega, ht, rfl⟩, .inl (by simp only; omega)⟩
    · rw [if_neg (fun h => ht h.2), if_pos (.inl hd)]
      refine ⟨rfl, .inl (by simp only; omega), .inr rfl⟩

set_option maxHeartbeats 1600000 in
theorem tim_walk (s : St) (t : Int) (m : Tm) (w : World) (ht : 0 ≤ t ∧ t ≤ 1152921504606846976) :
    Calls Try.prog 5 #[.agg #[.int .i64 s.ph, .int .i64 s.du, .int .i64 s.tr], .int .i64 t, .agg #[.int .i64 m.a, .int .i64 m.b, .int .i64 m.c]] w fun e w' => e = .returned (.bool true) ∧ Below w.heap.size w w' := by
  obtain ⟨t0, t1⟩ := ht
  have hB0 : Below w.heap.size w ((w.alloc (.cells #[.int .i64 s.ph, .int .i64 s.du, .int .i64 s.tr] 27)).alloc (.cells #[.int .i64 m.a, .int .i64 m.b, .int .i64 m.c] 24)) := below2 _ _ _
  have hS0 : HasS ((w.alloc (.cells #[.int .i64 s.ph, .int .i64 s.du, .int .i64 s.tr] 27)).alloc (.cells #[.int .i64 m.a, .int .i64 m.b, .int .i64 m.c] 24)) w.heap.size s := (Below.heap_alloc _ _ _ (by simp)).trans (heap_alloc_new w _)
  have hT0 : HasT ((w.alloc (.cells #[.int .i64 s.ph, .int .i64 s.du, .int .i64 s.tr] 27)).alloc (.cells #[.int .i64 m.a, .int .i64 m.b, .int .i64 m.c] 24)) (w.heap.size + 1) m := by
    have := heap_alloc_new (w.alloc (.cells #[.int .i64 s.ph, .int .i64 s.du, .int .i64 s.tr] 27)) (.cells #[.int .i64 m.a, .int .i64 m.b, .int .i64 m.c] 24)
    simpa [HasT] using this
  have H0 := Lib.hid (And.intro hS0 (And.intro hT0 hB0))
  clear hS0 hT0 hB0
  go_enter Try.func5, Try.ntmps5
  go_wp2_with fail
  refine (awake_any _).mono ?_
  rintro e w1 ⟨rfl, b1⟩
  have hS1 := H0.out.1.below b1
  have hT1 := H0.out.2.1.below b1
  have hB1 := H0.out.2.2.trans (b1.mono H0.out.2.2.size)
  have s0 := hS1.c0
  have s1 := hS1.c1
  have s2 := hS1.c2
  have m0 := hT1.c0
  have m1 := hT1.c1
  have m2 := hT1.c2
  have H1 := Lib.hid (And.intro hS1 (And.intro hT1 hB1))
  clear hS1 hT1 hB1 b1 H0
  have hk0 := fun W => step_at s 9 t m W ⟨t0, t1⟩
  by_cases hc : s.du < 1 ∨ t < s.du ∨ s.ph = 0 ∨ s.ph = 4 ∨ s.ph < 0 ∨ 5 < s.ph
  · have hno := tim_no (m := m) hc
    rw [hno] at hk0
    simp only at hk0
    clear hno
    go_wp2_with fail
    refine (hk0 _).mono ?_
    rintro e w3 ⟨A3, c3, rfl, hr3, hf3, hb3⟩
    have hS3 := H1.out.1.below hb3
    have hB3 := H1.out.2.2.trans (hb3.mono H1.out.2.2.size)
    have d0 := hS3.c0
    have d1 := hS3.c1
    have d2 := hS3.c2
    have hlt := hS3.lt
    have HB := Lib.hid hB3
    clear hr3 hf3 hb3 hS3 hB3 hk0 s0 s1 s2 m0 m1 m2
    have hne : w3.heap.size ≠ w.heap.size := by omega
    by_cases q1 : s.du < 1
    · go_wp2_with fail
      go_ret
      exact ⟨by first | rfl | simp, HB.out.alloc HB.out.size _⟩
    by_cases q2 : t < s.du
    · go_wp2_with fail
      go_ret
      exact ⟨by first | rfl | simp, HB.out.alloc HB.out.size _⟩
    by_cases q3 : s.ph = 0
    · go_wp2_with fail
      go_ret
      exact ⟨by first | rfl | simp, HB.out.alloc HB.out.size _⟩
    by_cases q4 : s.ph = 4
    · go_wp2_with fail
      go_ret
      exact ⟨by first | rfl | simp, HB.out.alloc HB.out.size _⟩
    by_cases q5 : s.ph < 0
    · go_wp2_with fail
      go_ret
      exact ⟨by first | rfl | simp, HB.out.alloc HB.out.size _⟩
    have q6 : 5 < s.ph := by omega
    go_wp2_with fail
    go_ret
    exact ⟨by first | rfl | simp, HB.out.alloc HB.out.size _⟩
  · have hyes := tim_yes (s := s) (t := t) (m := m) (by omega) (by omega) (by omega)
    obtain ⟨F, hF⟩ : ∃ F, stepF s 9 t m = F := ⟨_, rfl⟩
    rw [hF] at hk0 hyes
    obtain ⟨s', l⟩ := F
    simp only at hk0 hyes
    clear hF
    obtain ⟨y1, y2, y3⟩ := hyes
    go_wp2_with fail
    refine (hk0 _).mono ?_
    rintro e w3 ⟨A3, c3, rfl, hr3, hf3, hb3⟩
    have hS3 := H1.out.1.below hb3
    have hB3 := H1.out.2.2.trans (hb3.mono H1.out.2.2.size)
    have d0 := hS3.c0
    have d1 := hS3.c1
    have d2 := hS3.c2
    have hlt := hS3.lt
    have HB := Lib.hid hB3
    clear hr3 hf3 hb3 hS3 hB3 hk0 s0 s1 s2 m0 m1 m2
    have hne : w3.heap.size ≠ w.heap.size := by omega
    rw [y1]
    have p1 : ¬ s.du < 1 := by omega
    have p2 : ¬ t < s.du := by omega
    have p3 : (s.ph == 0) = false := by simp only [beq_eq_false_iff_ne]; omega
    have p4 : (s.ph == 4) = false := by simp only [beq_eq_false_iff_ne]; omega
    have p5 : ¬ s.ph < 0 := by omega
    have p6 : ¬ 5 < s.ph := by omega
    clear hc
    rcases y2 with y2 | ⟨y2, y4, y5⟩
    · rcases y3 with y3 | y3
      · go_wp2_with fail
        go_ret
        exact ⟨by first | rfl | simp, HB.out.alloc HB.out.size _⟩
      · by_cases y6 : t < s'.du
        · go_wp2_with fail
          go_ret
          exact ⟨by first | rfl | simp, HB.out.alloc HB.out.size _⟩
        · go_wp2_with fail
          go_ret
          exact ⟨by first | rfl | simp, HB.out.alloc HB.out.size _⟩
    · rcases y3 with y3 | y3
      · go_wp2_with fail
        go_ret
        exact ⟨by first | rfl | simp, HB.out.alloc HB.out.size _⟩
      · exact absurd (y2.symm.trans y3) (by simpa using p3)

theorem tim_out (s : St) (t : Int) (m : Tm) (w : World) (ht : ¬ (0 ≤ t ∧ t ≤ 1152921504606846976)) :
    Calls Try.prog 5 #[.agg #[.int .i64 s.ph, .int .i64 s.du, .int .i64 s.tr], .int .i64 t, .agg #[.int .i64 m.a, .int .i64 m.b, .int .i64 m.c]] w fun e w' => e = .returned (.bool true) ∧ Below w.heap.size w w' := by
  have hB0 : Below w.heap.size w ((w.alloc (.cells #[.int .i64 s.ph, .int .i64 s.du, .int .i64 s.tr] 27)).alloc (.cells #[.int .i64 m.a, .int .i64 m.b, .int .i64 m.c] 24)) := below2 _ _ _
  have HB := Lib.hid hB0
  clear hB0
  go_enter Try.func5, Try.ntmps5
  go_wp2_with fail
  refine (awake_any _).mono ?_
  rintro e w1 ⟨rfl, b1⟩
  have HB1 := Lib.hid (HB.out.trans (b1.mono HB.out.size))
  clear b1
  by_cases h0 : t < 0
  · go_wp2_with fail
    refine (awake_any _).mono ?_
    rintro e w2 ⟨rfl, b2⟩
    go_wp2_with fail
    go_ret
    exact ⟨rfl, HB1.out.trans (b2.mono HB1.out.size)⟩
  · have h1 : 1152921504606846976 < t := by omega
    go_wp2_with fail
    refine (awake_any _).mono ?_
    rintro e w2 ⟨rfl, b2⟩
    go_wp2_with fail
    go_ret
    exact ⟨rfl, HB1.out.trans (b2.mono HB1.out.size)⟩

end Go.Proofs.Ytjgdbmkddmjaeaa
