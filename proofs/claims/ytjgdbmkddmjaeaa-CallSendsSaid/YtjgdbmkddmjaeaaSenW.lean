/- The walk of CallSends. -/
import Derived.Test.YtjgdbmkddmjaeaaHolW
namespace Go.Proofs.Ytjgdbmkddmjaeaa
open Go.RowKit
set_option linter.unusedVariables false
set_option linter.unusedSimpArgs false

/-- How many of these are sent. -/
def sentF : List Int → Int
  | [] => 0
  | d :: r => (if d ≤ 5 then 1 else 0) + sentF r
theorem sentF_cons (d : Int) (r : List Int) : sentF (d :: r) = (if d ≤ 5 then 1 else 0) + sentF r := rfl
theorem sentF_pos (l : List Int) : 0 ≤ sentF l := by
  induction l with
  | nil => simp [sentF]
  | cons d r ih => rw [sentF_cons]; split <;> omega

def NoComplete (l : List Int) : Prop := ∀ j, j < l.length → l[j]?.getD 0 ≠ 5

theorem sen_ends (s : St) (what t : Int) (m : Tm) (h : s.ph ≠ 0) : (what ≠ 4 → NoComplete (endsF s what t m).2) ∧ (what = 5 → sentF (endsF s what t m).2 = 0 ∧ (endsF s what t m).1.ph = 0) ∧ (what = 4 → (endsF s what t m).1.ph = 0) ∧ sentF (endsF s what t m).2 ≤ 1 := by
  unfold endsF
  split
  · simp [sentF]; omega
  · split
    · simp [sentF, NoComplete]
    · split
      · simp [sentF, NoComplete]; omega
      · simp [sentF, NoComplete]; omega

theorem sen_step (s : St) (what t : Int) (m : Tm) (h : 0 ≤ s.ph ∧ s.ph ≤ 5) : (what ≠ 4 → s.ph ≠ 0 → NoComplete (stepF s what t m).2) ∧ (what = 5 → sentF (stepF s what t m).2 = 0 ∧ (stepF s what t m).1.ph = 0) ∧ (what = 4 → (stepF s what t m).1.ph = 0) ∧ sentF (stepF s what t m).2 ≤ 1 := by
  have hd5 : what ≠ 9 → ¬ dueB s what t = true := fun h9 h => by unfold dueB at h; simp at h; omega
  unfold stepF
  by_cases h0 : s.ph = 0
  · rw [if_pos h0]
    unfold nullF
    refine ⟨fun _ h => absurd h0 h, ?_⟩
    split
    · simp [sentF]; omega
    · split
      · simp [sentF]; omega
      · split
        · simp [sentF, h0]; omega
        · simp [sentF, h0]
  rw [if_neg h0]
  have he := sen_ends s what t m h0
  have he' : (what ≠ 4 → s.ph ≠ 0 → NoComplete (endsF s what t m).2) ∧ (what = 5 → sentF (endsF s what t m).2 = 0 ∧ (endsF s what t m).1.ph = 0) ∧ (what = 4 → (endsF s what t m).1.ph = 0) ∧ sentF (endsF s what t m).2 ≤ 1 := ⟨fun h _ => he.1 h, he.2⟩
  by_cases h1 : s.ph = 1
  · rw [if_pos h1]
    unfold incomingF
    split
    · simp [sentF, NoComplete]; omega
    · split
      · rename_i hdu
        have : what = 9 := Decidable.byContradiction fun h => hd5 h hdu
        simp [sentF, NoComplete]; omega
      · exact he'
  rw [if_neg h1]
  by_cases h2 : s.ph = 2
  · rw [if_pos h2]
    unfold presentF
    split
    · simp [sentF, NoComplete]; omega
    · split
      · simp [sentF, NoComplete]; omega
      · split
        · rename_i hdu
          have : what = 9 := Decidable.byContradiction fun h => hd5 h hdu.1
          simp [sentF, NoComplete]; omega
        · split
          · rename_i hdu
            have : what = 9 := Decidable.byContradiction fun h => hd5 h hdu
            simp [sentF, NoComplete]
          · exact he'
  rw [if_neg h2]
  by_cases h3 : s.ph = 3
  · rw [if_pos h3]
    unfold outgoingF
    split
    · simp [sentF, NoComplete]; omega
    · split
      · rename_i hdu
        have : what = 9 := Decidable.byContradiction fun h => hd5 h hdu
        simp [sentF, NoComplete]; omega
      · exact he'
  rw [if_neg h3]
  by_cases h4 : s.ph = 4
  · rw [if_pos h4]; exact he'
  rw [if_neg h4, if_pos (by omega)]
  unfold releasingF
  split
  · rename_i hdu
    have : what = 9 := Decidable.byContradiction fun h => hd5 h hdu.1
    simp [sentF, NoComplete]; omega
  · split
    · simp [sentF, NoComplete]
    · rename_i hdu
      simp [sentF, NoComplete]; omega

def SenR (l : List Int) (v i : Value) : Prop := ∃ (k : Nat) (nk : Int), k ≤ l.length ∧ i = .int .i64 k ∧ v = .int .i64 nk ∧ 0 ≤ nk ∧ nk ≤ k ∧ nk + sentF (l.drop k) = sentF l

set_option maxHeartbeats 1600000 in
theorem sen_walk (s : St) (what t : Int) (m : Tm) (w : World) (ht : 0 ≤ t ∧ t ≤ 1152921504606846976) (hph : 0 ≤ s.ph ∧ s.ph ≤ 5) :
    Calls Try.prog 6 #[.agg #[.int .i64 s.ph, .int .i64 s.du, .int .i64 s.tr], .int .i64 what, .int .i64 t, .agg #[.int .i64 m.a, .int .i64 m.b, .int .i64 m.c]] w fun e w' => e = .returned (.bool true) ∧ Below w.heap.size w w' := by
  obtain ⟨t0, t1⟩ := ht
  obtain ⟨g1, g2⟩ := hph
  have hB0 : Below w.heap.size w ((w.alloc (.cells #[.int .i64 s.ph, .int .i64 s.du, .int .i64 s.tr] 27)).alloc (.cells #[.int .i64 m.a, .int .i64 m.b, .int .i64 m.c] 24)) := below2 _ _ _
  have hS0 : HasS ((w.alloc (.cells #[.int .i64 s.ph, .int .i64 s.du, .int .i64 s.tr] 27)).alloc (.cells #[.int .i64 m.a, .int .i64 m.b, .int .i64 m.c] 24)) w.heap.size s := (Below.heap_alloc _ _ _ (by simp)).trans (heap_alloc_new w _)
  have hT0 : HasT ((w.alloc (.cells #[.int .i64 s.ph, .int .i64 s.du, .int .i64 s.tr] 27)).alloc (.cells #[.int .i64 m.a, .int .i64 m.b, .int .i64 m.c] 24)) (w.heap.size + 1) m := by
    have := heap_alloc_new (w.alloc (.cells #[.int .i64 s.ph, .int .i64 s.du, .int .i64 s.tr] 27)) (.cells #[.int .i64 m.a, .int .i64 m.b, .int .i64 m.c] 24)
    simpa [HasT] using this
  have H0 := Lib.hid (And.intro hS0 (And.intro hT0 hB0))
  clear hS0 hT0 hB0
  go_enter Try.func6, Try.ntmps6
  go_wp2_with fail
  refine (awake_any _).mono ?_
  rintro e w1 ⟨rfl, b1⟩
  have hS1 := H0.out.1.below b1
  have hT1 := H0.out.2.1.below b1
  have hB1 := H0.out.2.2.trans (b1.mono H0.out.2.2.size)
  have s0 := hS1.c0
  have s1 := hS1.c1
  have s2 := hS1.c2
  have m0 := hT1.c0
  have m1 := hT1.c1
  have m2 := hT1.c2
  have H1 := Lib.hid (And.intro hS1 (And.intro hT1 hB1))
  clear hS1 hT1 hB1 b1 H0
  have hk0 := fun W => step_at s what t m W ⟨t0, t1⟩
  have hle := step_len s what t m
  have HQ := Lib.hid (sen_step s what t m ⟨g1, g2⟩)
  obtain ⟨F, hF⟩ : ∃ F, stepF s what t m = F := ⟨_, rfl⟩
  rw [hF] at hk0 HQ hle
  obtain ⟨s', l⟩ := F
  simp only at hk0 HQ hle
  clear hF
  go_wp2_with fail
  refine (hk0 _).mono ?_
  rintro e w3 ⟨A3, c3, rfl, hr3, hf3, hb3⟩
  have hS3 := H1.out.1.below hb3
  have hB3 := H1.out.2.2.trans (hb3.mono H1.out.2.2.size)
  have hlt := hS3.lt
  have hszw := hB3.size
  have hS4 : HasS (w3.alloc (.cells #[.int .i64 s'.ph, .int .i64 s'.du, .int .i64 s'.tr] 27)) w.heap.size s := (Below.heap_alloc _ _ _ hlt).trans hS3
  have hX4 : HasS (w3.alloc (.cells #[.int .i64 s'.ph, .int .i64 s'.du, .int .i64 s'.tr] 27)) w3.heap.size s' := heap_alloc_new _ _
  have hB4 := hB3.alloc hszw (.cells #[.int .i64 s'.ph, .int .i64 s'.du, .int .i64 s'.tr] 27)
  have hR4 : Rd (w3.alloc (.cells #[.int .i64 s'.ph, .int .i64 s'.du, .int .i64 s'.tr] 27)) A3 l := hr3.below ((Below.refl w3.heap.size w3).alloc (Nat.le_refl _) _) (Nat.le_refl _)
  have d0 := hS4.c0
  have f0 := hX4.c0
  have HB := Lib.hid hB4
  clear hf3 hb3 hS3 hB3 hk0 s0 s1 s2 m0 m1 m2 hr3 hS4 hX4 hB4 H1
  go_wp2_with fail
  obtain ⟨p, ep⟩ : ∃ p, w3.heap.size = p := ⟨_, rfl⟩
  obtain ⟨w4, hw4⟩ : ∃ w4, (w3.alloc (.cells #[.int .i64 s'.ph, .int .i64 s'.du, .int .i64 s'.tr] 27)) = w4 := ⟨_, rfl⟩
  rw [hw4] at d0 f0 HB hR4 ⊢
  rw [ep] at f0
  clear hw4
  go_loop [11, 44] (SenR l) (fun _ i => l.length - (intOf i).toNat)
  case atStart => exact ⟨0, 0, Nat.zero_le _, rfl, rfl, by omega, by omega, by simp⟩
  case round =>
    obtain ⟨k, nk, hk, rfl, rfl, h0, h1, hf⟩ := hrel
    by_cases hlk : k < l.length
    · rcases hR4 with hr | ⟨b, rfl, hb, hc⟩
      · subst hr; simp at hlk
      have hcell := hc k hlk
      have hd : l.drop k = (l[k]?.getD 0) :: l.drop (k + 1) := by
        rw [List.drop_eq_getElem_cons hlk, List.getElem?_eq_getElem hlk]; rfl
      have hno := fun h4 h5 => HQ.out.1 h4 h5 k hlk
      obtain ⟨d, ed⟩ : ∃ d, l[k]?.getD 0 = d := ⟨_, rfl⟩
      rw [ed] at hcell hd hno
      rw [hd, sentF_cons] at hf
      have HF := Lib.hid hf
      have HN := Lib.hid hno
      clear hc hd hf ed hno
      by_cases h5 : d = 5
      · subst h5
        by_cases hw4 : what = 4
        · go_wp2_with fail
          go_round
          case rel => exact ⟨k + 1, nk + 1, by omega, by go_num, rfl, by omega, by omega, by have := HF.out; simp at this; omega⟩
          case measure => simp [intOf]; omega
        · have hp0 : s.ph = 0 := Decidable.byContradiction fun h => HN.out hw4 h rfl
          go_wp2_with fail
          all_goals try (exfalso; omega)
          refine ⟨⟨_, _, _, _, ?rel, rfl, rfl, rfl, rfl⟩, ?measure⟩
          case rel => exact ⟨k + 1, nk + 1, by omega, by go_num, rfl, by omega, by omega, by have := HF.out; simp at this; omega⟩
          case measure => simp [intOf]; omega
      · have h5' : (d == 5) = false := by simpa using h5
        by_cases hd5 : d ≤ 5
        · go_wp2_with fail
          go_round
          case rel => exact ⟨k + 1, nk + 1, by omega, by go_num, rfl, by omega, by omega, by have := HF.out; rw [if_pos hd5] at this; omega⟩
          case measure => simp [intOf]; omega
        · go_wp2_with fail
          go_round
          case rel => exact ⟨k + 1, nk, by omega, by go_num, rfl, by omega, by omega, by have := HF.out; rw [if_neg hd5] at this; omega⟩
          case measure => simp [intOf]; omega
    · have hkl : k = l.length := by omega
      have hfin : nk = sentF l := by rw [← hf, hkl]; simp [sentF]
      have q2 := HQ.out.2.1
      have q3 := HQ.out.2.2.1
      have q4 := HQ.out.2.2.2
      rw [← hfin] at q2 q4
      clear hf hfin
      have hz0 : 0 ≤ nk := h0
      by_cases hw5 : what = 5
      · obtain ⟨q5, q6⟩ := q2 hw5
        subst q5
        rw [q6] at f0
        clear q2 q3 q6
        go_wp2_with fail
        go_ret
        exact ⟨rfl, HB.out⟩
      · by_cases hw4 : what = 4
        · have q6 := q3 hw4
          rw [q6] at f0
          clear q2 q3 q6
          go_wp2_with fail
          go_ret
          exact ⟨by first | rfl | simp, HB.out⟩
        · clear q2 q3
          go_wp2_with fail
          all_goals try (exfalso; omega)
          go_ret
          exact ⟨by first | rfl | simp, HB.out⟩

set_option maxHeartbeats 1600000 in
theorem sen_out (s : St) (what t : Int) (m : Tm) (w : World) (ht : t < 0 ∨ 1152921504606846976 < t ∨ s.ph < 0 ∨ 5 < s.ph) :
    Calls Try.prog 6 #[.agg #[.int .i64 s.ph, .int .i64 s.du, .int .i64 s.tr], .int .i64 what, .int .i64 t, .agg #[.int .i64 m.a, .int .i64 m.b, .int .i64 m.c]] w fun e w' => e = .returned (.bool true) ∧ Below w.heap.size w w' := by
  have hB0 : Below w.heap.size w ((w.alloc (.cells #[.int .i64 s.ph, .int .i64 s.du, .int .i64 s.tr] 27)).alloc (.cells #[.int .i64 m.a, .int .i64 m.b, .int .i64 m.c] 24)) := below2 _ _ _
  have hS0 : HasS ((w.alloc (.cells #[.int .i64 s.ph, .int .i64 s.du, .int .i64 s.tr] 27)).alloc (.cells #[.int .i64 m.a, .int .i64 m.b, .int .i64 m.c] 24)) w.heap.size s := (Below.heap_alloc _ _ _ (by simp)).trans (heap_alloc_new w _)
  have HB := Lib.hid (And.intro hS0 hB0)
  clear hB0 hS0
  go_enter Try.func6, Try.ntmps6
  go_wp2_with fail
  refine (awake_any _).mono ?_
  rintro e w1 ⟨rfl, b1⟩
  have s0 := (HB.out.1.below b1).c0
  have HB1 := Lib.hid (HB.out.2.trans (b1.mono HB.out.2.size))
  clear b1 HB
  by_cases h0 : t < 0
  · go_wp2_with fail
    refine (awake_any _).mono ?_
    rintro e w2 ⟨rfl, b2⟩
    go_wp2_with fail
    go_ret
    exact ⟨rfl, HB1.out.trans (b2.mono HB1.out.size)⟩
  by_cases h1 : 1152921504606846976 < t
  · go_wp2_with fail
    refine (awake_any _).mono ?_
    rintro e w2 ⟨rfl, b2⟩
    go_wp2_with fail
    go_ret
    exact ⟨rfl, HB1.out.trans (b2.mono HB1.out.size)⟩
  by_cases h2 : s.ph < 0
  · go_wp2_with fail
    refine (awake_any _).mono ?_
    rintro e w2 ⟨rfl, b2⟩
    go_wp2_with fail
    go_ret
    exact ⟨rfl, HB1.out.trans (b2.mono HB1.out.size)⟩
  · have h3 : 5 < s.ph := by omega
    go_wp2_with fail
    refine (awake_any _).mono ?_
    rintro e w2 ⟨rfl, b2⟩
    go_wp2_with fail
    go_ret
    exact ⟨rfl, HB1.out.trans (b2.mono HB1.out.size)⟩

end Go.Proofs.Ytjgdbmkddmjaeaa
