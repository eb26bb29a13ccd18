/- The contracts of the call's phases, more; and of Step. -/
import Derived.Test.YtjgdbmkddmjaeaaB
namespace Go.Proofs.Ytjgdbmkddmjaeaa
open Go.RowKit
set_option linter.unusedVariables false
set_option linter.unusedSimpArgs false
attribute [local go_sem ↓] Go.wp_at_zero Go.wp_at_succ

theorem below4 (w : World) (o o' o'' o3 : Obj) : Below w.heap.size w ((((w.alloc o).alloc o').alloc o'').alloc o3) := (below3 w o o' o'').alloc (by simp; omega) o3

def presentF (s : St) (what t : Int) (m : Tm) : St × List Int :=
  if what = 2 then (⟨3, t + hd m.b, 0⟩, []) else if what = 3 then (⟨4, 0, 0⟩, []) else if dueB s what t = true ∧ s.tr = 1 then (⟨2, t + hd m.a, 2⟩, [1]) else if dueB s what t = true then (⟨0, 0, 0⟩, [7]) else endsF s what t m

set_option maxHeartbeats 1600000 in
theorem present_any (s : St) (what t : Int) (m : Tm) (w : World) (ht : 0 ≤ t ∧ t ≤ 1152921504606846976) : Calls Try.prog 15 #[spV s what t m] w (Steps (presentF s what t m).1 (presentF s what t m).2 w) := by
  have ha := hd_bd m.a
  have hb := hd_bd m.b
  by_cases h2 : what = 2
  · subst h2
    show Calls Try.prog 15 #[spV s 2 t m] w (Steps ⟨3, t + hd m.b, 0⟩ [] w)
    have hwr : IntKind.i64.wrap (t + hd m.b) = t + hd m.b := Go.IntWalk.i64_in _ (by omega)
    unfold spV
    go_enter Try.func15, Try.ntmps15
    go_wp2
    go_region_held3 (fun w' => w'.cell? ⟨w.heap.size, 4, none⟩ = some (.int .i64 t) ∧ w'.cell? ⟨w.heap.size, 6, none⟩ = some (.int .i64 m.b)) (go_keep)
      (first | (go_at_call 19; refine (held_any _ _).mono ?_; rintro e w' ⟨rfl, rfl⟩))
    all_goals go_wp2_with fail
    all_goals (refine bodyPost_ret (v := .tuple #[.agg #[.int .i64 3, .int .i64 (t + hd m.b), .int .i64 0], .slice none 0 0]) (by simp [results, Try.results15, go_sem]) rfl ?_)
    all_goals exact steps_nil (below2 _ _ _).drew
  · by_cases h3 : what = 3
    · subst h3
      show Calls Try.prog 15 #[spV s 3 t m] w (Steps ⟨4, 0, 0⟩ [] w)
      unfold spV
      go_enter Try.func15, Try.ntmps15
      go_wp2
      refine bodyPost_ret (v := .tuple #[.agg #[.int .i64 4, .int .i64 0, .int .i64 0], .slice none 0 0]) (by simp [results, Try.results15, go_sem]) rfl ?_
      exact steps_nil (below2 _ _ _)
    · have g2 : (what == 2) = false := by simpa using h2
      have g3 : (what == 3) = false := by simpa using h3
      by_cases hd9 : dueB s what t = true
      · have hdu := fun W => due_at hd9 m W
        by_cases h1 : s.tr = 1
        · have hF : presentF s what t m = (⟨2, t + hd m.a, 2⟩, [1]) := by unfold presentF; rw [if_neg h2, if_neg h3, if_pos ⟨hd9, h1⟩]
          rw [hF]
          have hwr : IntKind.i64.wrap (t + hd m.a) = t + hd m.a := Go.IntWalk.i64_in _ (by omega)
          have g1 : (s.tr == 1) = true := by simpa using h1
          clear hF h2 h3 hd9 h1
          unfold spV at hdu ⊢
          unfold spO at hdu
          go_enter Try.func15, Try.ntmps15
          go_wp2_with (go_at_call 20; refine (hdu _).mono ?_; rintro e w1 ⟨rfl, rfl⟩)
          go_region_held3 (fun w' => w'.cell? ⟨w.heap.size, 4, none⟩ = some (.int .i64 t) ∧ w'.cell? ⟨w.heap.size, 5, none⟩ = some (.int .i64 m.a)) (go_keep)
            (first | (go_at_call 19; refine (held_any _ _).mono ?_; rintro e w' ⟨rfl, rfl⟩))
          all_goals go_wp2_with fail
          all_goals (refine bodyPost_ret (v := .tuple #[.agg #[.int .i64 2, .int .i64 (t + hd m.a), .int .i64 2], .slice (some ⟨w.heap.size + 1 + 1 + 1, 0, none⟩) 1 1]) (by simp [results, Try.results15, go_sem]) rfl ?_)
          all_goals exact steps_new_drew (zs := [1]) (by simp) (below3 _ _ _ _) (by simp; omega)
        · have hF : presentF s what t m = (⟨0, 0, 0⟩, [7]) := by unfold presentF; rw [if_neg h2, if_neg h3, if_neg (fun h => h1 h.2), if_pos hd9]
          rw [hF]
          have g1 : (s.tr == 1) = false := by simpa using h1
          clear hF h2 h3 hd9 h1
          unfold spV at hdu ⊢
          unfold spO at hdu
          go_enter Try.func15, Try.ntmps15
          go_wp2_with (go_at_call 20; refine (hdu _).mono ?_; rintro e w1 ⟨rfl, rfl⟩)
          refine bodyPost_ret (v := .tuple #[.agg #[.int .i64 0, .int .i64 0, .int .i64 0], .slice (some ⟨w.heap.size + 1 + 1 + 1 + 1, 0, none⟩) 1 1]) (by simp [results, Try.results15, go_sem]) rfl ?_
          exact steps_new (zs := [7]) (by simp) (below4 _ _ _ _ _) (by simp; omega)
      · have hd8 : dueB s what t = false := by simpa using hd9
        have hF : presentF s what t m = endsF s what t m := by unfold presentF; rw [if_neg h2, if_neg h3, if_neg (fun h => hd9 h.1), if_neg hd9]
        rw [hF]
        have hk := fun W => ends_any s what t m W ht
        have hdu := fun W => due_at hd8 m W
        obtain ⟨F, hFe⟩ : ∃ F, endsF s what t m = F := ⟨_, rfl⟩
        rw [hFe] at hk ⊢
        obtain ⟨s', l⟩ := F
        simp only at hk ⊢
        clear hF h2 h3 hd9 hd8 hFe
        unfold spV at hk hdu ⊢
        unfold spO at hdu
        go_enter Try.func15, Try.ntmps15
        go_wp2_with (first
          | (go_at_call 20; refine (hdu _).mono ?_; rintro e w1 ⟨rfl, rfl⟩)
          | (go_at_call 17; refine (hk _).mono ?_; rintro e w1 ⟨A, c, rfl, hr, hfr, hb⟩; have HB := Lib.hid (And.intro hfr hb); clear hfr; obtain ⟨hc, hf⟩ := bcell hb; have hz : w.heap.size + 1 < w1.heap.size := by have := hb.size; simp at this; omega))
        refine bodyPost_ret (v := .tuple #[.agg #[.int .i64 s'.ph, .int .i64 s'.du, .int .i64 s'.tr], .slice A l.length c]) (by simp [results, Try.results15, go_sem, hc, hz]) rfl ?_
        exact steps_on (s := s') (l := l) hr HB.out.1 HB.out.2 (below4 _ _ _ _ _) (by omega) (by simp)

def releasingF (s : St) (what t : Int) (m : Tm) : St × List Int :=
  if dueB s what t = true ∧ s.tr = 1 then (⟨5, t + hd m.c, 2⟩, [4]) else if dueB s what t = true ∨ what = 4 ∨ what = 5 then (⟨0, 0, 0⟩, [7]) else (s, [])

set_option maxHeartbeats 1600000 in
theorem releasing_any (s : St) (what t : Int) (m : Tm) (w : World) (ht : 0 ≤ t ∧ t ≤ 1152921504606846976) : Calls Try.prog 18 #[spV s what t m] w (Steps (releasingF s what t m).1 (releasingF s what t m).2 w) := by
  have ha := hd_bd m.c
  by_cases hd9 : dueB s what t = true
  · have hdu := fun W => due_at hd9 m W
    by_cases h1 : s.tr = 1
    · have hF : releasingF s what t m = (⟨5, t + hd m.c, 2⟩, [4]) := by unfold releasingF; rw [if_pos ⟨hd9, h1⟩]
      rw [hF]
      have hwr : IntKind.i64.wrap (t + hd m.c) = t + hd m.c := Go.IntWalk.i64_in _ (by omega)
      have g1 : (s.tr == 1) = true := by simpa using h1
      clear hF hd9 h1
      unfold spV at hdu ⊢
      unfold spO at hdu
      go_enter Try.func18, Try.ntmps18
      go_wp2_with (go_at_call 20; refine (hdu _).mono ?_; rintro e w1 ⟨rfl, rfl⟩)
      go_region_held3 (fun w' => w'.cell? ⟨w.heap.size, 4, none⟩ = some (.int .i64 t) ∧ w'.cell? ⟨w.heap.size, 7, none⟩ = some (.int .i64 m.c)) (go_keep)
        (first | (go_at_call 19; refine (held_any _ _).mono ?_; rintro e w' ⟨rfl, rfl⟩))
      all_goals go_wp2_with fail
      all_goals (refine bodyPost_ret (v := .tuple #[.agg #[.int .i64 5, .int .i64 (t + hd m.c), .int .i64 2], .slice (some ⟨w.heap.size + 1 + 1 + 1, 0, none⟩) 1 1]) (by simp [results, Try.results18, go_sem]) rfl ?_)
      all_goals exact steps_new_drew (zs := [4]) (by simp) (below3 _ _ _ _) (by simp; omega)
    · have hF : releasingF s what t m = (⟨0, 0, 0⟩, [7]) := by unfold releasingF; rw [if_neg (fun h => h1 h.2), if_pos (.inl hd9)]
      rw [hF]
      have g1 : (s.tr == 1) = false := by simpa using h1
      clear hF hd9 h1
      unfold spV at hdu ⊢
      unfold spO at hdu
      go_enter Try.func18, Try.ntmps18
      go_wp2_with (go_at_call 20; refine (hdu _).mono ?_; rintro e w1 ⟨rfl, rfl⟩)
      refine bodyPost_ret (v := .tuple #[.agg #[.int .i64 0, .int .i64 0, .int .i64 0], .slice (some ⟨w.heap.size + 1 + 1 + 1 + 1, 0, none⟩) 1 1]) (by simp [results, Try.results18, go_sem]) rfl ?_
      exact steps_new (zs := [7]) (by simp) (below4 _ _ _ _ _) (by simp; omega)
  · have hd8 : dueB s what t = false := by simpa using hd9
    have hdu := fun W => due_at hd8 m W
    by_cases h4 : what = 4 ∨ what = 5
    · have hF : releasingF s what t m = (⟨0, 0, 0⟩, [7]) := by unfold releasingF; rw [if_neg (fun h => hd9 h.1), if_pos (.inr h4)]
      rw [hF]
      clear hF hd9 hd8
      unfold spV at hdu ⊢
      unfold spO at hdu
      rcases h4 with rfl | rfl
      all_goals
        go_enter Try.func18, Try.ntmps18
        go_wp2_with (go_at_call 20; refine (hdu _).mono ?_; rintro e w1 ⟨rfl, rfl⟩)
        refine bodyPost_ret (v := .tuple #[.agg #[.int .i64 0, .int .i64 0, .int .i64 0], .slice (some ⟨w.heap.size + 1 + 1 + 1 + 1, 0, none⟩) 1 1]) (by simp [results, Try.results18, go_sem]) rfl ?_
        exact steps_new (zs := [7]) (by simp) (below4 _ _ _ _ _) (by simp; omega)
    · have hF : releasingF s what t m = (s, []) := by unfold releasingF; rw [if_neg (fun h => hd9 h.1), if_neg (fun h => h.elim hd9 h4)]
      rw [hF]
      have g4 : (what == 4) = false := by simp; omega
      have g5 : (what == 5) = false := by simp; omega
      clear hF hd9 hd8 h4
      unfold spV at hdu ⊢
      unfold spO at hdu
      go_enter Try.func18, Try.ntmps18
      go_wp2_with (go_at_call 20; refine (hdu _).mono ?_; rintro e w1 ⟨rfl, rfl⟩)
      refine bodyPost_ret (v := .tuple #[.agg #[.int .i64 s.ph, .int .i64 s.du, .int .i64 s.tr], .slice none 0 0]) (by simp [results, Try.results18, go_sem]) rfl ?_
      exact steps_nil (below4 _ _ _ _ _)

end Go.Proofs.Ytjgdbmkddmjaeaa
