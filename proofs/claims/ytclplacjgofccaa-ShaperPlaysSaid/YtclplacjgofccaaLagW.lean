/- The walk of ShaperLags. -/
import Derived.Test.YtclplacjgofccaaI
namespace Go.Proofs.Ytclplacjgofccaa
open Go.RowKit Go.Sort Go.Shelf Go.Lib
set_option linter.unusedVariables false
set_option linter.unusedSimpArgs false
attribute [local go_sem ↓] Go.wp_at_zero Go.wp_at_succ

theorem held_in {t : Int} (h : 0 ≤ t ∧ t ≤ 1152921504606846976) : held t = t := by unfold held; omega
theorem ret_bool {a b : Bool} (h : a = b) : Ending.returned (.bool a) = .returned (.bool b) := by rw [h]

theorem lag_new {step slow quick : Int} (h1 : 1 ≤ step ∧ step ≤ 4294967295) (h2 : 0 ≤ slow ∧ slow ≤ 4294967295) (h3 : 0 ≤ quick ∧ quick ≤ 4294967295) :
    newSh step 0 slow quick = ⟨step, 0, slow, min quick slow, 0, false, []⟩ := by
  unfold newSh
  rw [held_in (by omega), held_in (by omega), held_in (by omega), held_in (by omega), show max 1 step = step by omega]

theorem come_nil (t s : Int) : comeF t s [] = s := rfl
theorem come_one_at {s d t : Int} {step : Int} (h : d ≤ t) (h0 : 0 ≤ d) : comeF t step [(s, d)] = s := by
  unfold comeF comeOne
  simp only [List.foldl_cons, List.foldl_nil]
  rw [if_pos ⟨h, by omega⟩]
theorem come_one_ahead {s d t : Int} {step : Int} (h : t < d) : comeF t step [(s, d)] = step := by
  unfold comeF comeOne
  simp only [List.foldl_cons, List.foldl_nil]
  rw [if_neg (by omega)]

theorem set_nil_eq (t s step early slow quick next : Int) (any : Bool) (h : 1 ≤ s ∧ s ≤ 1152921504606846976) (ht : 0 ≤ t ∧ t ≤ 1152921504606846976) :
    setR t ⟨step, early, slow, quick, next, any, []⟩ = 0 ∧ setSh t s ⟨step, early, slow, quick, next, any, []⟩ = ⟨step, early, slow, quick, next, any, [(s, t + if s < step then quick else slow)]⟩ := by
  have e : comeSh t ⟨step, early, slow, quick, next, any, []⟩ = ⟨step, early, slow, quick, next, any, []⟩ := by
    simp [comeSh, come_nil, leftF]
  unfold setR setSh newCh
  rw [e, held_in ht, held_in (by omega : 0 ≤ s ∧ s ≤ 1152921504606846976), show max 1 s = s by omega]
  simp [lastSet]
  rfl

set_option maxHeartbeats 1600000 in
theorem lag_walk (step z slow quick t : Int) (w : World) (h1 : 1 ≤ step ∧ step ≤ 4294967295) (h2 : 1 ≤ z ∧ z ≤ 4294967295) (h3 : 0 ≤ slow ∧ slow ≤ 4294967295) (h4 : 0 ≤ quick ∧ quick ≤ 4294967295) (h5 : 0 ≤ t ∧ t ≤ 4294967295) :
    Calls Try.prog 5 #[.int .u32 step, .int .u32 z, .int .u32 slow, .int .u32 quick, .int .u32 t] w fun e w' => e = .returned (.bool true) ∧ Below w.heap.size w w' := by
  have hs0 : (step == 0) = false := by simp; omega
  have hz0 : (z == 0) = false := by simp; omega
  have hn := lag_new h1 h3 h4
  have hs := set_nil_eq t z step 0 slow (min quick slow) 0 false (by omega) (by omega)
  have hc : (¬ z < step ∧ (if z < step then min quick slow else slow) = slow) ∨ (z < step ∧ (if z < step then min quick slow else slow) = min quick slow) := by
    split <;> omega
  have cn := fun W => new_st step 0 slow quick W
  simp only [hn] at cn
  rcases hc with ⟨q1, q2⟩ | ⟨q1, q2⟩
  · rw [q2] at hs
    have c1 := fun (W : World) (B p : Nat) (h : St W B p ⟨step, 0, slow, min quick slow, 0, false, []⟩) => set_st t z h
    simp only [hs.1, hs.2] at c1
    have c2 := fun (W : World) (B p : Nat) (h : St W B p ⟨step, 0, slow, min quick slow, 0, false, [(z, t + slow)]⟩) => step_st (t + slow) h
    simp only [held_in (show 0 ≤ t + slow ∧ t + slow ≤ 1152921504606846976 by omega), come_one_at (Int.le_refl (t + slow)) (show 0 ≤ t + slow by omega)] at c2
    have c4 := fun (W : World) (B p : Nat) (h : St W B p ⟨step, 0, slow, min quick slow, 0, false, [(z, t + slow)]⟩) => wait_st h
    simp only [List.length_cons, List.length_nil] at c4
    have c3 := fun (hd : 1 ≤ t + slow) (W : World) (B p : Nat) (h : St W B p ⟨step, 0, slow, min quick slow, 0, false, [(z, t + slow)]⟩) => step_st (t + slow - 1) h
    have c3' : ∀ (hd : 1 ≤ t + slow) (W : World) (B p : Nat) (h : St W B p ⟨step, 0, slow, min quick slow, 0, false, [(z, t + slow)]⟩), Calls Try.prog 18 #[.pointer (some ⟨p, 0, none⟩), .int .i64 (t + slow - 1)] W fun e w' => e = .returned (.int .i64 step) ∧ St w' B p ⟨step, 0, slow, min quick slow, 0, false, [(z, t + slow)]⟩ ∧ Below W.heap.size W w' := fun hd W B p h => by
      have := c3 hd W B p h
      rwa [held_in (show 0 ≤ t + slow - 1 ∧ t + slow - 1 ≤ 1152921504606846976 by omega), come_one_ahead (show t + slow - 1 < t + slow by omega)] at this
    clear hs hn q2 c3
    have HC1 := Lib.hid c1
    have HC2 := Lib.hid c2
    have HC3 := Lib.hid c3'
    have HC4 := Lib.hid c4
    have HN := Lib.hid cn
    clear c1 c2 c3' c4 cn
    go_enter Try.func5, Try.ntmps5
    go_wp2_with fail
    refine (awake_any _).mono ?_
    rintro e w1 ⟨rfl, b1⟩
    have HB1 := Lib.hid b1
    clear b1
    go_wp2_with fail
    refine (HN.out _).mono ?_
    rintro e w2 ⟨p, rfl, hp, s2, b2⟩
    have HB2 := Lib.hid (And.intro hp b2)
    clear hp b2
    go_wp2_with fail
    refine (HC1.out _ _ _ s2).mono ?_
    rintro e w3 ⟨rfl, s3, k3⟩
    clear s2
    have HB3 := Lib.hid k3
    clear k3
    go_wp2_with fail
    all_goals try (exfalso; omega)
    refine (HC2.out _ _ _ s3).mono ?_
    rintro e w4 ⟨rfl, s4, b4⟩
    clear s3
    have hb4 : Below w.heap.size w w4 := by
      have h2 := HB1.out.trans (HB2.out.2.mono HB1.out.size)
      have h3 := below_kept h2 HB3.out (Nat.le_trans HB1.out.size HB2.out.1) h2.size
      exact h3.trans (b4.mono h3.size)
    have HB4 := Lib.hid hb4
    clear b4 hb4
    go_wp2_with fail
    · refine (HC4.out _ _ _ s4).mono ?_
      rintro e w5 ⟨rfl, rfl⟩
      go_wp2_with fail
      go_ret
      exact ⟨rfl, HB4.out⟩
    · refine (HC3.out (by omega) _ _ _ s4).mono ?_
      rintro e w5 ⟨rfl, s5, b5⟩
      have hb5 : Below w.heap.size w w5 := HB4.out.trans (b5.mono HB4.out.size)
      clear s4 b5
      go_wp2_with fail
      refine (HC4.out _ _ _ s5).mono ?_
      rintro e w6 ⟨rfl, rfl⟩
      go_wp2_with fail
      go_ret
      exact ⟨rfl, hb5⟩
  · rw [q2] at hs
    have c1 := fun (W : World) (B p : Nat) (h : St W B p ⟨step, 0, slow, min quick slow, 0, false, []⟩) => set_st t z h
    simp only [hs.1, hs.2] at c1
    have c2 := fun (W : World) (B p : Nat) (h : St W B p ⟨step, 0, slow, min quick slow, 0, false, [(z, t + min quick slow)]⟩) => step_st (t + min quick slow) h
    simp only [held_in (show 0 ≤ t + min quick slow ∧ t + min quick slow ≤ 1152921504606846976 by omega), come_one_at (Int.le_refl (t + min quick slow)) (show 0 ≤ t + min quick slow by omega)] at c2
    have c4 := fun (W : World) (B p : Nat) (h : St W B p ⟨step, 0, slow, min quick slow, 0, false, [(z, t + min quick slow)]⟩) => wait_st h
    simp only [List.length_cons, List.length_nil] at c4
    have c3 := fun (hd : 1 ≤ t + min quick slow) (W : World) (B p : Nat) (h : St W B p ⟨step, 0, slow, min quick slow, 0, false, [(z, t + min quick slow)]⟩) => step_st (t + min quick slow - 1) h
    have c3' : ∀ (hd : 1 ≤ t + min quick slow) (W : World) (B p : Nat) (h : St W B p ⟨step, 0, slow, min quick slow, 0, false, [(z, t + min quick slow)]⟩), Calls Try.prog 18 #[.pointer (some ⟨p, 0, none⟩), .int .i64 (t + min quick slow - 1)] W fun e w' => e = .returned (.int .i64 step) ∧ St w' B p ⟨step, 0, slow, min quick slow, 0, false, [(z, t + min quick slow)]⟩ ∧ Below W.heap.size W w' := fun hd W B p h => by
      have := c3 hd W B p h
      rwa [held_in (show 0 ≤ t + min quick slow - 1 ∧ t + min quick slow - 1 ≤ 1152921504606846976 by omega), come_one_ahead (show t + min quick slow - 1 < t + min quick slow by omega)] at this
    clear hs hn q2 c3
    have HC1 := Lib.hid c1
    have HC2 := Lib.hid c2
    have HC3 := Lib.hid c3'
    have HC4 := Lib.hid c4
    have HN := Lib.hid cn
    clear c1 c2 c3' c4 cn
    go_enter Try.func5, Try.ntmps5
    go_wp2_with fail
    refine (awake_any _).mono ?_
    rintro e w1 ⟨rfl, b1⟩
    have HB1 := Lib.hid b1
    clear b1
    go_wp2_with fail
    refine (HN.out _).mono ?_
    rintro e w2 ⟨p, rfl, hp, s2, b2⟩
    have HB2 := Lib.hid (And.intro hp b2)
    clear hp b2
    go_wp2_with fail
    refine (HC1.out _ _ _ s2).mono ?_
    rintro e w3 ⟨rfl, s3, k3⟩
    clear s2
    have HB3 := Lib.hid k3
    clear k3
    go_wp2_with fail
    all_goals try (exfalso; omega)
    refine (HC2.out _ _ _ s3).mono ?_
    rintro e w4 ⟨rfl, s4, b4⟩
    clear s3
    have hb4 : Below w.heap.size w w4 := by
      have h2 := HB1.out.trans (HB2.out.2.mono HB1.out.size)
      have h3 := below_kept h2 HB3.out (Nat.le_trans HB1.out.size HB2.out.1) h2.size
      exact h3.trans (b4.mono h3.size)
    have HB4 := Lib.hid hb4
    clear b4 hb4
    go_wp2_with fail
    · refine (HC4.out _ _ _ s4).mono ?_
      rintro e w5 ⟨rfl, rfl⟩
      go_wp2_with fail
      go_ret
      exact ⟨rfl, HB4.out⟩
    · refine (HC3.out (by omega) _ _ _ s4).mono ?_
      rintro e w5 ⟨rfl, s5, b5⟩
      have hb5 : Below w.heap.size w w5 := HB4.out.trans (b5.mono HB4.out.size)
      clear s4 b5
      go_wp2_with fail
      refine (HC4.out _ _ _ s5).mono ?_
      rintro e w6 ⟨rfl, rfl⟩
      go_wp2_with fail
      go_ret
      exact ⟨rfl, hb5⟩

theorem lag_none (step z slow quick t : Int) (w : World) (h : step = 0 ∨ z = 0) :
    Calls Try.prog 5 #[.int .u32 step, .int .u32 z, .int .u32 slow, .int .u32 quick, .int .u32 t] w fun e w' => e = .returned (.bool true) ∧ Below w.heap.size w w' := by
  have hs0 : (step == 0) = true ∨ ((step == 0) = false ∧ (z == 0) = true) := by
    rcases h with rfl | rfl
    · exact .inl rfl
    · by_cases e : step = 0
      · subst e; exact .inl rfl
      · exact .inr ⟨by simpa using e, rfl⟩
  clear h
  rcases hs0 with hs0 | ⟨hs0, hz0⟩
  all_goals
    go_enter Try.func5, Try.ntmps5
    go_wp2_with fail
    refine (awake_any _).mono ?_
    rintro e w1 ⟨rfl, b1⟩
    go_wp2_with fail
    refine (awake_any _).mono ?_
    rintro e w2 ⟨rfl, b2⟩
    go_wp2_with fail
    go_ret
    exact ⟨rfl, b1.trans (b2.mono b1.size)⟩

end Go.Proofs.Ytclplacjgofccaa
