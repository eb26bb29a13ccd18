/- The contracts of the call's phases. -/
import Derived.Test.YtjgdbmkddmjaeaaA
namespace Go.Proofs.Ytjgdbmkddmjaeaa
open Go.RowKit
set_option linter.unusedVariables false
set_option linter.unusedSimpArgs false
attribute [local go_sem ↓] Go.wp_at_zero Go.wp_at_succ

theorem below3 (w : World) (o o' o'' : Obj) : Below w.heap.size w (((w.alloc o).alloc o').alloc o'') := (below2 w o o').alloc (by simp; omega) o''

def nullF (s : St) (what t : Int) (m : Tm) : St × List Int :=
  if what = 1 then (⟨1, t + hd m.b, 0⟩, [2, 6]) else if what = 6 then (⟨2, t + hd m.a, 1⟩, [6, 1]) else if what = 4 ∨ what = 2 ∨ what = 3 then (s, [5]) else (s, [])

set_option maxHeartbeats 1600000 in
theorem null_any (s : St) (what t : Int) (m : Tm) (w : World) (ht : 0 ≤ t ∧ t ≤ 1152921504606846976) : Calls Try.prog 13 #[spV s what t m] w (Steps (nullF s what t m).1 (nullF s what t m).2 w) := by
  have ha := hd_bd m.a
  have hb := hd_bd m.b
  by_cases h1 : what = 1
  · subst h1
    show Calls Try.prog 13 #[spV s 1 t m] w (Steps ⟨1, t + hd m.b, 0⟩ [2, 6] w)
    have hwr : IntKind.i64.wrap (t + hd m.b) = t + hd m.b := Go.IntWalk.i64_in _ (by omega)
    unfold spV
    go_enter Try.func13, Try.ntmps13
    go_wp2
    go_region_held3 (fun w' => w'.cell? ⟨w.heap.size, 4, none⟩ = some (.int .i64 t) ∧ w'.cell? ⟨w.heap.size, 6, none⟩ = some (.int .i64 m.b)) (go_keep)
      (first | (go_at_call 19; refine (held_any _ _).mono ?_; rintro e w' ⟨rfl, rfl⟩))
    all_goals go_wp2_with fail
    all_goals (refine bodyPost_ret (v := .tuple #[.agg #[.int .i64 1, .int .i64 (t + hd m.b), .int .i64 0], .slice (some ⟨w.heap.size + 1 + 1, 0, none⟩) 2 2]) (by simp [results, Try.results13, go_sem]) rfl ?_)
    all_goals exact steps_new_drew (zs := [2, 6]) (by simp) (below2 _ _ _) (by simp; omega)
  · by_cases h6 : what = 6
    · subst h6
      show Calls Try.prog 13 #[spV s 6 t m] w (Steps ⟨2, t + hd m.a, 1⟩ [6, 1] w)
      have hwr : IntKind.i64.wrap (t + hd m.a) = t + hd m.a := Go.IntWalk.i64_in _ (by omega)
      unfold spV
      go_enter Try.func13, Try.ntmps13
      go_wp2
      go_region_held3 (fun w' => w'.cell? ⟨w.heap.size, 4, none⟩ = some (.int .i64 t) ∧ w'.cell? ⟨w.heap.size, 5, none⟩ = some (.int .i64 m.a)) (go_keep)
        (first | (go_at_call 19; refine (held_any _ _).mono ?_; rintro e w' ⟨rfl, rfl⟩))
      all_goals go_wp2_with fail
      all_goals (refine bodyPost_ret (v := .tuple #[.agg #[.int .i64 2, .int .i64 (t + hd m.a), .int .i64 1], .slice (some ⟨w.heap.size + 1 + 1, 0, none⟩) 2 2]) (by simp [results, Try.results13, go_sem]) rfl ?_)
      all_goals exact steps_new_drew (zs := [6, 1]) (by simp) (below2 _ _ _) (by simp; omega)
    · by_cases h4 : what = 4 ∨ what = 2 ∨ what = 3
      · have hF : nullF s what t m = (s, [5]) := by unfold nullF; rw [if_neg h1, if_neg h6, if_pos h4]
        rw [hF]
        clear hF h1 h6
        unfold spV
        rcases h4 with rfl | rfl | rfl
        all_goals
          go_enter Try.func13, Try.ntmps13
          go_wp2
          refine bodyPost_ret (v := .tuple #[.agg #[.int .i64 s.ph, .int .i64 s.du, .int .i64 s.tr], .slice (some ⟨w.heap.size + 1 + 1, 0, none⟩) 1 1]) (by simp [results, Try.results13, go_sem]) rfl ?_
          exact steps_new (zs := [5]) (by simp) (below2 _ _ _) (by simp; omega)
      · have hF : nullF s what t m = (s, []) := by unfold nullF; rw [if_neg h1, if_neg h6, if_neg h4]
        rw [hF]
        have g1 : (what == 1) = false := by simpa using h1
        have g6 : (what == 6) = false := by simpa using h6
        have g4 : (what == 4) = false := by simp; omega
        have g2 : (what == 2) = false := by simp; omega
        have g3 : (what == 3) = false := by simp; omega
        clear hF h1 h6 h4
        unfold spV
        go_enter Try.func13, Try.ntmps13
        go_wp2
        refine bodyPost_ret (v := .tuple #[.agg #[.int .i64 s.ph, .int .i64 s.du, .int .i64 s.tr], .slice none 0 0]) (by simp [results, Try.results13, go_sem]) rfl ?_
        exact steps_nil (below2 _ _ _)

def incomingF (s : St) (what t : Int) (m : Tm) : St × List Int :=
  if what = 7 then (⟨4, 0, 0⟩, [3]) else if dueB s what t = true then (⟨5, t + hd m.c, 1⟩, [4]) else endsF s what t m

set_option maxHeartbeats 1600000 in
theorem incoming_any (s : St) (what t : Int) (m : Tm) (w : World) (ht : 0 ≤ t ∧ t ≤ 1152921504606846976) : Calls Try.prog 14 #[spV s what t m] w (Steps (incomingF s what t m).1 (incomingF s what t m).2 w) := by
  by_cases h7 : what = 7
  · subst h7
    show Calls Try.prog 14 #[spV s 7 t m] w (Steps ⟨4, 0, 0⟩ [3] w)
    unfold spV
    go_enter Try.func14, Try.ntmps14
    go_wp2
    refine bodyPost_ret (v := .tuple #[.agg #[.int .i64 4, .int .i64 0, .int .i64 0], .slice (some ⟨w.heap.size + 1 + 1, 0, none⟩) 1 1]) (by simp [results, Try.results14, go_sem]) rfl ?_
    exact steps_new (zs := [3]) (by simp) (below2 _ _ _) (by simp; omega)
  · have g7 : (what == 7) = false := by simpa using h7
    by_cases hd9 : dueB s what t = true
    · have hF : incomingF s what t m = (⟨5, t + hd m.c, 1⟩, [4]) := by unfold incomingF; rw [if_neg h7, if_pos hd9]
      rw [hF]
      have hk := fun W => hangup_any s what t m W ht
      have hdu := fun W => due_at hd9 m W
      clear hF h7 hd9
      unfold spV at hk hdu ⊢
      unfold spO at hdu
      go_enter Try.func14, Try.ntmps14
      go_wp2_with (first
        | (go_at_call 20; refine (hdu _).mono ?_; rintro e w1 ⟨rfl, rfl⟩)
        | (go_at_call 21; refine (hk _).mono ?_; rintro e w1 ⟨A, c, rfl, hr, hfr, hb⟩; have HB := Lib.hid (And.intro hfr hb); clear hfr; obtain ⟨hc, hf⟩ := bcell hb; have hz : w.heap.size + 1 < w1.heap.size := by have := hb.size; simp at this; omega))
      refine bodyPost_ret (v := .tuple #[.agg #[.int .i64 5, .int .i64 (t + hd m.c), .int .i64 1], .slice A 1 c]) (by simp [results, Try.results14, go_sem, hc, hz]) rfl ?_
      exact steps_on (s := ⟨5, t + hd m.c, 1⟩) (l := [4]) hr HB.out.1 HB.out.2 (below3 _ _ _ _) (by omega) (by simp)
    · have hd8 : dueB s what t = false := by simpa using hd9
      have hF : incomingF s what t m = endsF s what t m := by unfold incomingF; rw [if_neg h7, if_neg hd9]
      rw [hF]
      have hk := fun W => ends_any s what t m W ht
      have hdu := fun W => due_at hd8 m W
      obtain ⟨F, hFe⟩ : ∃ F, endsF s what t m = F := ⟨_, rfl⟩
      rw [hFe] at hk ⊢
      obtain ⟨s', l⟩ := F
      simp only at hk ⊢
      clear hF h7 hd9 hd8 hFe
      unfold spV at hk hdu ⊢
      unfold spO at hdu
      go_enter Try.func14, Try.ntmps14
      go_wp2_with (first
        | (go_at_call 20; refine (hdu _).mono ?_; rintro e w1 ⟨rfl, rfl⟩)
        | (go_at_call 17; refine (hk _).mono ?_; rintro e w1 ⟨A, c, rfl, hr, hfr, hb⟩; have HB := Lib.hid (And.intro hfr hb); clear hfr; obtain ⟨hc, hf⟩ := bcell hb; have hz : w.heap.size + 1 < w1.heap.size := by have := hb.size; simp at this; omega))
      refine bodyPost_ret (v := .tuple #[.agg #[.int .i64 s'.ph, .int .i64 s'.du, .int .i64 s'.tr], .slice A l.length c]) (by simp [results, Try.results14, go_sem, hc, hz]) rfl ?_
      exact steps_on (s := s') (l := l) hr HB.out.1 HB.out.2 (below3 _ _ _ _) (by omega) (by simp)

def outgoingF (s : St) (what t : Int) (m : Tm) : St × List Int :=
  if what = 3 then (⟨4, 0, 0⟩, []) else if dueB s what t = true then (⟨5, t + hd m.c, 1⟩, [4]) else endsF s what t m

set_option maxHeartbeats 1600000 in
theorem outgoing_any (s : St) (what t : Int) (m : Tm) (w : World) (ht : 0 ≤ t ∧ t ≤ 1152921504606846976) : Calls Try.prog 16 #[spV s what t m] w (Steps (outgoingF s what t m).1 (outgoingF s what t m).2 w) := by
  by_cases h7 : what = 3
  · subst h7
    show Calls Try.prog 16 #[spV s 3 t m] w (Steps ⟨4, 0, 0⟩ [] w)
    unfold spV
    go_enter Try.func16, Try.ntmps16
    go_wp2
    refine bodyPost_ret (v := .tuple #[.agg #[.int .i64 4, .int .i64 0, .int .i64 0], .slice none 0 0]) (by simp [results, Try.results16, go_sem]) rfl ?_
    exact steps_nil (below2 _ _ _)
  · have g7 : (what == 3) = false := by simpa using h7
    by_cases hd9 : dueB s what t = true
    · have hF : outgoingF s what t m = (⟨5, t + hd m.c, 1⟩, [4]) := by unfold outgoingF; rw [if_neg h7, if_pos hd9]
      rw [hF]
      have hk := fun W => hangup_any s what t m W ht
      have hdu := fun W => due_at hd9 m W
      clear hF h7 hd9
      unfold spV at hk hdu ⊢
      unfold spO at hdu
      go_enter Try.func16, Try.ntmps16
      go_wp2_with (first
        | (go_at_call 20; refine (hdu _).mono ?_; rintro e w1 ⟨rfl, rfl⟩)
        | (go_at_call 21; refine (hk _).mono ?_; rintro e w1 ⟨A, c, rfl, hr, hfr, hb⟩; have HB := Lib.hid (And.intro hfr hb); clear hfr; obtain ⟨hc, hf⟩ := bcell hb; have hz : w.heap.size + 1 < w1.heap.size := by have := hb.size; simp at this; omega))
      refine bodyPost_ret (v := .tuple #[.agg #[.int .i64 5, .int .i64 (t + hd m.c), .int .i64 1], .slice A 1 c]) (by simp [results, Try.results16, go_sem, hc, hz]) rfl ?_
      exact steps_on (s := ⟨5, t + hd m.c, 1⟩) (l := [4]) hr HB.out.1 HB.out.2 (below3 _ _ _ _) (by omega) (by simp)
    · have hd8 : dueB s what t = false := by simpa using hd9
      have hF : outgoingF s what t m = endsF s what t m := by unfold outgoingF; rw [if_neg h7, if_neg hd9]
      rw [hF]
      have hk := fun W => ends_any s what t m W ht
      have hdu := fun W => due_at hd8 m W
      obtain ⟨F, hFe⟩ : ∃ F, endsF s what t m = F := ⟨_, rfl⟩
      rw [hFe] at hk ⊢
      obtain ⟨s', l⟩ := F
      simp only at hk ⊢
      clear hF h7 hd9 hd8 hFe
      unfold spV at hk hdu ⊢
      unfold spO at hdu
      go_enter Try.func16, Try.ntmps16
      go_wp2_with (first
        | (go_at_call 20; refine (hdu _).mono ?_; rintro e w1 ⟨rfl, rfl⟩)
        | (go_at_call 17; refine (hk _).mono ?_; rintro e w1 ⟨A, c, rfl, hr, hfr, hb⟩; have HB := Lib.hid (And.intro hfr hb); clear hfr; obtain ⟨hc, hf⟩ := bcell hb; have hz : w.heap.size + 1 < w1.heap.size := by have := hb.size; simp at this; omega))
      refine bodyPost_ret (v := .tuple #[.agg #[.int .i64 s'.ph, .int .i64 s'.du, .int .i64 s'.tr], .slice A l.length c]) (by simp [results, Try.results16, go_sem, hc, hz]) rfl ?_
      exact steps_on (s := s') (l := l) hr HB.out.1 HB.out.2 (below3 _ _ _ _) (by omega) (by simp)

end Go.Proofs.Ytjgdbmkddmjaeaa
