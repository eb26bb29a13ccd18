/- The contract of Step. -/
import Derived.Test.YtjgdbmkddmjaeaaC
import Derived.Laws.EntriesVeiled
namespace Go.Proofs.Ytjgdbmkddmjaeaa
open Go.RowKit
set_option linter.unusedVariables false
set_option linter.unusedSimpArgs false
attribute [local go_sem ↓] Go.wp_at_zero Go.wp_at_succ

theorem set3 {w1 : World} {b b' o : Nat} {x y z : Value} (h : b' ≠ b) : (((w1.setCell ⟨b, 0, none⟩ x).setCell ⟨b, 1, none⟩ y).setCell ⟨b, 2, none⟩ z).cell? ⟨b', o, none⟩ = w1.cell? ⟨b', o, none⟩ :=
  World.cell?_of_block (a := ⟨b', o, none⟩) (by rw [Below.heap_setCell _ _ _ _ h, Below.heap_setCell _ _ _ _ h, Below.heap_setCell _ _ _ _ h])

theorem below5 (w : World) (o0 o1 o2 o3 : Obj) : Below w.heap.size w (((((w.alloc o0).alloc o1).alloc o2).alloc o3).drew) := (below4 w o0 o1 o2 o3).drew

set_option maxHeartbeats 1600000 in
theorem step_0 (du tr what t : Int) (m : Tm) (w : World) (ht : 0 ≤ t ∧ t ≤ 1152921504606846976) : Calls Try.prog 10 #[.agg #[.int .i64 0, .int .i64 du, .int .i64 tr], .int .i64 what, .int .i64 t, .agg #[.int .i64 m.a, .int .i64 m.b, .int .i64 m.c]] w (Steps (nullF ⟨0, du, tr⟩ what t m).1 (nullF ⟨0, du, tr⟩ what t m).2 w) := by
  have hk := fun W => null_any ⟨0, du, tr⟩ what t m W ht
  obtain ⟨F, hFe⟩ : ∃ F, nullF ⟨0, du, tr⟩ what t m = F := ⟨_, rfl⟩
  rw [hFe] at hk ⊢
  obtain ⟨s', l⟩ := F
  simp only at hk ⊢
  clear hFe
  unfold spV at hk
  simp only at hk
  go_enter Try.func10, Try.ntmps10
  go_wp2
  obtain ⟨W, hW⟩ : ∃ W, ((((w.alloc (.cells #[.int .i64 0, .int .i64 du, .int .i64 tr] 27)).alloc (.cells #[.int .i64 m.a, .int .i64 m.b, .int .i64 m.c] 24)).alloc (.cells #[.int .i64 0, .int .i64 0, .int .i64 0] 27)).alloc (.cells #[.func (.func 13) #[] #[], .func (.func 14) #[] #[], .func (.func 15) #[] #[], .func (.func 16) #[] #[], .func (.func 17) #[] #[], .func (.func 18) #[] #[]] 46)) = W := ⟨_, rfl⟩
  rw [hW]
  obtain ⟨B, eB⟩ : ∃ B, w.heap.size = B := ⟨_, rfl⟩
  have x0 : W.cell? ⟨B, 0, none⟩ = some (.int .i64 0) := by rw [← hW, ← eB, World.cell?_alloc_lt _ _ _ (by simp; omega), World.cell?_alloc_lt _ _ _ (by simp; omega), World.cell?_alloc_lt _ _ _ (by simp), World.cell?_alloc_at _ _ _ _ (by simp)]; rfl
  have x1 : W.cell? ⟨B, 1, none⟩ = some (.int .i64 du) := by rw [← hW, ← eB, World.cell?_alloc_lt _ _ _ (by simp; omega), World.cell?_alloc_lt _ _ _ (by simp; omega), World.cell?_alloc_lt _ _ _ (by simp), World.cell?_alloc_at _ _ _ _ (by simp)]; rfl
  have x2 : W.cell? ⟨B, 2, none⟩ = some (.int .i64 tr) := by rw [← hW, ← eB, World.cell?_alloc_lt _ _ _ (by simp; omega), World.cell?_alloc_lt _ _ _ (by simp; omega), World.cell?_alloc_lt _ _ _ (by simp), World.cell?_alloc_at _ _ _ _ (by simp)]; rfl
  have y0 : W.cell? ⟨B + 1, 0, none⟩ = some (.int .i64 m.a) := by rw [← hW, ← eB, World.cell?_alloc_lt _ _ _ (by simp), World.cell?_alloc_lt _ _ _ (by simp), World.cell?_alloc_at _ _ _ _ (by simp)]; rfl
  have y1 : W.cell? ⟨B + 1, 1, none⟩ = some (.int .i64 m.b) := by rw [← hW, ← eB, World.cell?_alloc_lt _ _ _ (by simp), World.cell?_alloc_lt _ _ _ (by simp), World.cell?_alloc_at _ _ _ _ (by simp)]; rfl
  have y2 : W.cell? ⟨B + 1, 2, none⟩ = some (.int .i64 m.c) := by rw [← hW, ← eB, World.cell?_alloc_lt _ _ _ (by simp), World.cell?_alloc_lt _ _ _ (by simp), World.cell?_alloc_at _ _ _ _ (by simp)]; rfl
  have z0 : W.cell? ⟨B + 1 + 1, 0, none⟩ = some (.int .i64 0) := by rw [← hW, ← eB, World.cell?_alloc_lt _ _ _ (by simp), World.cell?_alloc_at _ _ _ _ (by simp)]; rfl
  have z1 : W.cell? ⟨B + 1 + 1, 1, none⟩ = some (.int .i64 0) := by rw [← hW, ← eB, World.cell?_alloc_lt _ _ _ (by simp), World.cell?_alloc_at _ _ _ _ (by simp)]; rfl
  have z2 : W.cell? ⟨B + 1 + 1, 2, none⟩ = some (.int .i64 0) := by rw [← hW, ← eB, World.cell?_alloc_lt _ _ _ (by simp), World.cell?_alloc_at _ _ _ _ (by simp)]; rfl
  have g0 : ∀ o, W.frozen? ⟨B + 1 + 1, o, none⟩ = false := fun o => by rw [← hW, ← eB, World.frozen?_alloc_old _ _ _ (by simp), World.frozen?_alloc_at _ _ _ _ (by simp)]
  have q0 : W.cell? ⟨B + 1 + 1 + 1, 0, none⟩ = some (.func (.func 13) #[] #[]) := by rw [← hW, ← eB, World.cell?_alloc_at _ _ _ _ (by simp)]; rfl
  have hsW : B + 1 + 1 + 1 < W.heap.size := by rw [← hW, ← eB]; simp
  have hbW : Below w.heap.size w W := by rw [← hW]; exact below4 _ _ _ _ _
  have HE := Lib.hid (And.intro eB hbW)
  rw [eB]
  clear hW eB hbW
  go_region_held3 (fun w' => w'.cell? ⟨B, 0, none⟩ = some (.int .i64 0) ∧ w'.cell? ⟨B, 1, none⟩ = some (.int .i64 du) ∧ w'.cell? ⟨B, 2, none⟩ = some (.int .i64 tr) ∧ w'.cell? ⟨B + 1, 0, none⟩ = some (.int .i64 m.a) ∧ w'.cell? ⟨B + 1, 1, none⟩ = some (.int .i64 m.b) ∧ w'.cell? ⟨B + 1, 2, none⟩ = some (.int .i64 m.c) ∧ w'.cell? ⟨B + 1 + 1 + 1, 0, none⟩ = some (.func (.func 13) #[] #[])) (first | exact ⟨x0, x1, x2, y0, y1, y2, q0⟩ | exact ⟨(hc _ _ (by simp; omega)).trans x0, (hc _ _ (by simp; omega)).trans x1, (hc _ _ (by simp; omega)).trans x2, (hc _ _ (by simp; omega)).trans y0, (hc _ _ (by simp; omega)).trans y1, (hc _ _ (by simp; omega)).trans y2, (hc _ _ (by simp; omega)).trans q0⟩ | exact ⟨(set3 (by omega)).trans ((hc _ _ (by simp; omega)).trans x0), (set3 (by omega)).trans ((hc _ _ (by simp; omega)).trans x1), (set3 (by omega)).trans ((hc _ _ (by simp; omega)).trans x2), (set3 (by omega)).trans ((hc _ _ (by simp; omega)).trans y0), (set3 (by omega)).trans ((hc _ _ (by simp; omega)).trans y1), (set3 (by omega)).trans ((hc _ _ (by simp; omega)).trans y2), (set3 (by omega)).trans ((hc _ _ (by simp; omega)).trans q0)⟩ | go_keep)
    (first | (go_at_call 13; refine (hk _).mono ?_; rintro e w1 ⟨A, c, rfl, hr, hfr, hb⟩; have HB := Lib.hid (And.intro hfr hb); clear hfr; obtain ⟨hc, hf⟩ := bcell hb; have k0 : w1.cell? ⟨B + 1 + 1, 0, none⟩ = some (.int .i64 0) := (hc _ _ (by simp; omega)).trans z0; have k1 : w1.cell? ⟨B + 1 + 1, 1, none⟩ = some (.int .i64 0) := (hc _ _ (by simp; omega)).trans z1; have k2 : w1.cell? ⟨B + 1 + 1, 2, none⟩ = some (.int .i64 0) := (hc _ _ (by simp; omega)).trans z2; have k3 : w1.frozen? ⟨B + 1 + 1, 0, none⟩ = false := (hf _ _ (by simp; omega)).trans (g0 0); have k4 : w1.frozen? ⟨B + 1 + 1, 1, none⟩ = false := (hf _ _ (by simp; omega)).trans (g0 1); have k5 : w1.frozen? ⟨B + 1 + 1, 2, none⟩ = false := (hf _ _ (by simp; omega)).trans (g0 2)))
  go_wp2_with fail
  refine bodyPost_ret (v := .tuple #[.agg #[.int .i64 s'.ph, .int .i64 s'.du, .int .i64 s'.tr], .slice A l.length c]) (by simp [results, Try.results10, go_sem, k0, k1, k2]) rfl ?_
  exact steps_on (s := s') (l := l) hr HB.out.1 HB.out.2 HE.out.2.drew (by rw [HE.out.1]; omega) (by simp; omega)

set_option maxHeartbeats 1600000 in
theorem step_1 (du tr what t : Int) (m : Tm) (w : World) (ht : 0 ≤ t ∧ t ≤ 1152921504606846976) : Calls Try.prog 10 #[.agg #[.int .i64 1, .int .i64 du, .int .i64 tr], .int .i64 what, .int .i64 t, .agg #[.int .i64 m.a, .int .i64 m.b, .int .i64 m.c]] w (Steps (incomingF ⟨1, du, tr⟩ what t m).1 (incomingF ⟨1, du, tr⟩ what t m).2 w) := by
  have hk := fun W => incoming_any ⟨1, du, tr⟩ what t m W ht
  obtain ⟨F, hFe⟩ : ∃ F, incomingF ⟨1, du, tr⟩ what t m = F := ⟨_, rfl⟩
  rw [hFe] at hk ⊢
  obtain ⟨s', l⟩ := F
  simp only at hk ⊢
  clear hFe
  unfold spV at hk
  simp only at hk
  go_enter Try.func10, Try.ntmps10
  go_wp2
  obtain ⟨W, hW⟩ : ∃ W, ((((w.alloc (.cells #[.int .i64 1, .int .i64 du, .int .i64 tr] 27)).alloc (.cells #[.int .i64 m.a, .int .i64 m.b, .int .i64 m.c] 24)).alloc (.cells #[.int .i64 0, .int .i64 0, .int .i64 0] 27)).alloc (.cells #[.func (.func 13) #[] #[], .func (.func 14) #[] #[], .func (.func 15) #[] #[], .func (.func 16) #[] #[], .func (.func 17) #[] #[], .func (.func 18) #[] #[]] 46)) = W := ⟨_, rfl⟩
  rw [hW]
  obtain ⟨B, eB⟩ : ∃ B, w.heap.size = B := ⟨_, rfl⟩
  have x0 : W.cell? ⟨B, 0, none⟩ = some (.int .i64 1) := by rw [← hW, ← eB, World.cell?_alloc_lt _ _ _ (by simp; omega), World.cell?_alloc_lt _ _ _ (by simp; omega), World.cell?_alloc_lt _ _ _ (by simp), World.cell?_alloc_at _ _ _ _ (by simp)]; rfl
  have x1 : W.cell? ⟨B, 1, none⟩ = some (.int .i64 du) := by rw [← hW, ← eB, World.cell?_alloc_lt _ _ _ (by simp; omega), World.cell?_alloc_lt _ _ _ (by simp; omega), World.cell?_alloc_lt _ _ _ (by simp), World.cell?_alloc_at _ _ _ _ (by simp)]; rfl
  have x2 : W.cell? ⟨B, 2, none⟩ = some (.int .i64 tr) := by rw [← hW, ← eB, World.cell?_alloc_lt _ _ _ (by simp; omega), World.cell?_alloc_lt _ _ _ (by simp; omega), World.cell?_alloc_lt _ _ _ (by simp), World.cell?_alloc_at _ _ _ _ (by simp)]; rfl
  have y0 : W.cell? ⟨B + 1, 0, none⟩ = some (.int .i64 m.a) := by rw [← hW, ← eB, World.cell?_alloc_lt _ _ _ (by simp), World.cell?_alloc_lt _ _ _ (by simp), World.cell?_alloc_at _ _ _ _ (by simp)]; rfl
  have y1 : W.cell? ⟨B + 1, 1, none⟩ = some (.int .i64 m.b) := by rw [← hW, ← eB, World.cell?_alloc_lt _ _ _ (by simp), World.cell?_alloc_lt _ _ _ (by simp), World.cell?_alloc_at _ _ _ _ (by simp)]; rfl
  have y2 : W.cell? ⟨B + 1, 2, none⟩ = some (.int .i64 m.c) := by rw [← hW, ← eB, World.cell?_alloc_lt _ _ _ (by simp), World.cell?_alloc_lt _ _ _ (by simp), World.cell?_alloc_at _ _ _ _ (by simp)]; rfl
  have z0 : W.cell? ⟨B + 1 + 1, 0, none⟩ = some (.int .i64 0) := by rw [← hW, ← eB, World.cell?_alloc_lt _ _ _ (by simp), World.cell?_alloc_at _ _ _ _ (by simp)]; rfl
  have z1 : W.cell? ⟨B + 1 + 1, 1, none⟩ = some (.int .i64 0) := by rw [← hW, ← eB, World.cell?_alloc_lt _ _ _ (by simp), World.cell?_alloc_at _ _ _ _ (by simp)]; rfl
  have z2 : W.cell? ⟨B + 1 + 1, 2, none⟩ = some (.int .i64 0) := by rw [← hW, ← eB, World.cell?_alloc_lt _ _ _ (by simp), World.cell?_alloc_at _ _ _ _ (by simp)]; rfl
  have g0 : ∀ o, W.frozen? ⟨B + 1 + 1, o, none⟩ = false := fun o => by rw [← hW, ← eB, World.frozen?_alloc_old _ _ _ (by simp), World.frozen?_alloc_at _ _ _ _ (by simp)]
  have q0 : W.cell? ⟨B + 1 + 1 + 1, 1, none⟩ = some (.func (.func 14) #[] #[]) := by rw [← hW, ← eB, World.cell?_alloc_at _ _ _ _ (by simp)]; rfl
  have hsW : B + 1 + 1 + 1 < W.heap.size := by rw [← hW, ← eB]; simp
  have hbW : Below w.heap.size w W := by rw [← hW]; exact below4 _ _ _ _ _
  have HE := Lib.hid (And.intro eB hbW)
  rw [eB]
  clear hW eB hbW
  go_region_held3 (fun w' => w'.cell? ⟨B, 0, none⟩ = some (.int .i64 1) ∧ w'.cell? ⟨B, 1, none⟩ = some (.int .i64 du) ∧ w'.cell? ⟨B, 2, none⟩ = some (.int .i64 tr) ∧ w'.cell? ⟨B + 1, 0, none⟩ = some (.int .i64 m.a) ∧ w'.cell? ⟨B + 1, 1, none⟩ = some (.int .i64 m.b) ∧ w'.cell? ⟨B + 1, 2, none⟩ = some (.int .i64 m.c) ∧ w'.cell? ⟨B + 1 + 1 + 1, 1, none⟩ = some (.func (.func 14) #[] #[])) (first | exact ⟨x0, x1, x2, y0, y1, y2, q0⟩ | exact ⟨(hc _ _ (by simp; omega)).trans x0, (hc _ _ (by simp; omega)).trans x1, (hc _ _ (by simp; omega)).trans x2, (hc _ _ (by simp; omega)).trans y0, (hc _ _ (by simp; omega)).trans y1, (hc _ _ (by simp; omega)).trans y2, (hc _ _ (by simp; omega)).trans q0⟩ | exact ⟨(set3 (by omega)).trans ((hc _ _ (by simp; omega)).trans x0), (set3 (by omega)).trans ((hc _ _ (by simp; omega)).trans x1), (set3 (by omega)).trans ((hc _ _ (by simp; omega)).trans x2), (set3 (by omega)).trans ((hc _ _ (by simp; omega)).trans y0), (set3 (by omega)).trans ((hc _ _ (by simp; omega)).trans y1), (set3 (by omega)).trans ((hc _ _ (by simp; omega)).trans y2), (set3 (by omega)).trans ((hc _ _ (by simp; omega)).trans q0)⟩ | go_keep)
    (first | (go_at_call 14; refine (hk _).mono ?_; rintro e w1 ⟨A, c, rfl, hr, hfr, hb⟩; have HB := Lib.hid (And.intro hfr hb); clear hfr; obtain ⟨hc, hf⟩ := bcell hb; have k0 : w1.cell? ⟨B + 1 + 1, 0, none⟩ = some (.int .i64 0) := (hc _ _ (by simp; omega)).trans z0; have k1 : w1.cell? ⟨B + 1 + 1, 1, none⟩ = some (.int .i64 0) := (hc _ _ (by simp; omega)).trans z1; have k2 : w1.cell? ⟨B + 1 + 1, 2, none⟩ = some (.int .i64 0) := (hc _ _ (by simp; omega)).trans z2; have k3 : w1.frozen? ⟨B + 1 + 1, 0, none⟩ = false := (hf _ _ (by simp; omega)).trans (g0 0); have k4 : w1.frozen? ⟨B + 1 + 1, 1, none⟩ = false := (hf _ _ (by simp; omega)).trans (g0 1); have k5 : w1.frozen? ⟨B + 1 + 1, 2, none⟩ = false := (hf _ _ (by simp; omega)).trans (g0 2)))
  go_wp2_with fail
  refine bodyPost_ret (v := .tuple #[.agg #[.int .i64 s'.ph, .int .i64 s'.du, .int .i64 s'.tr], .slice A l.length c]) (by simp [results, Try.results10, go_sem, k0, k1, k2]) rfl ?_
  exact steps_on (s := s') (l := l) hr HB.out.1 HB.out.2 HE.out.2.drew (by rw [HE.out.1]; omega) (by simp; omega)

set_option maxHeartbeats 1600000 in
theorem step_2 (du tr what t : Int) (m : Tm) (w : World) (ht : 0 ≤ t ∧ t ≤ 1152921504606846976) : Calls Try.prog 10 #[.agg #[.int .i64 2, .int .i64 du, .int .i64 tr], .int .i64 what, .int .i64 t, .agg #[.int .i64 m.a, .int .i64 m.b, .int .i64 m.c]] w (Steps (presentF ⟨2, du, tr⟩ what t m).1 (presentF ⟨2, du, tr⟩ what t m).2 w) := by
  have hk := fun W => present_any ⟨2, du, tr⟩ what t m W ht
  obtain ⟨F, hFe⟩ : ∃ F, presentF ⟨2, du, tr⟩ what t m = F := ⟨_, rfl⟩
  rw [hFe] at hk ⊢
  obtain ⟨s', l⟩ := F
  simp only at hk ⊢
  clear hFe
  unfold spV at hk
  simp only at hk
  go_enter Try.func10, Try.ntmps10
  go_wp2
  obtain ⟨W, hW⟩ : ∃ W, ((((w.alloc (.cells #[.int .i64 2, .int .i64 du, .int .i64 tr] 27)).alloc (.cells #[.int .i64 m.a, .int .i64 m.b, .int .i64 m.c] 24)).alloc (.cells #[.int .i64 0, .int .i64 0, .int .i64 0] 27)).alloc (.cells #[.func (.func 13) #[] #[], .func (.func 14) #[] #[], .func (.func 15) #[] #[], .func (.func 16) #[] #[], .func (.func 17) #[] #[], .func (.func 18) #[] #[]] 46)) = W := ⟨_, rfl⟩
  rw [hW]
  obtain ⟨B, eB⟩ : ∃ B, w.heap.size = B := ⟨_, rfl⟩
  have x0 : W.cell? ⟨B, 0, none⟩ = some (.int .i64 2) := by rw [← hW, ← eB, World.cell?_alloc_lt _ _ _ (by simp; omega), World.cell?_alloc_lt _ _ _ (by simp; omega), World.cell?_alloc_lt _ _ _ (by simp), World.cell?_alloc_at _ _ _ _ (by simp)]; rfl
  have x1 : W.cell? ⟨B, 1, none⟩ = some (.int .i64 du) := by rw [← hW, ← eB, World.cell?_alloc_lt _ _ _ (by simp; omega), World.cell?_alloc_lt _ _ _ (by simp; omega), World.cell?_alloc_lt _ _ _ (by simp), World.cell?_alloc_at _ _ _ _ (by simp)]; rfl
  have x2 : W.cell? ⟨B, 2, none⟩ = some (.int .i64 tr) := by rw [← hW, ← eB, World.cell?_alloc_lt _ _ _ (by simp; omega), World.cell?_alloc_lt _ _ _ (by simp; omega), World.cell?_alloc_lt _ _ _ (by simp), World.cell?_alloc_at _ _ _ _ (by simp)]; rfl
  have y0 : W.cell? ⟨B + 1, 0, none⟩ = some (.int .i64 m.a) := by rw [← hW, ← eB, World.cell?_alloc_lt _ _ _ (by simp), World.cell?_alloc_lt _ _ _ (by simp), World.cell?_alloc_at _ _ _ _ (by simp)]; rfl
  have y1 : W.cell? ⟨B + 1, 1, none⟩ = some (.int .i64 m.b) := by rw [← hW, ← eB, World.cell?_alloc_lt _ _ _ (by simp), World.cell?_alloc_lt _ _ _ (by simp), World.cell?_alloc_at _ _ _ _ (by simp)]; rfl
  have y2 : W.cell? ⟨B + 1, 2, none⟩ = some (.int .i64 m.c) := by rw [← hW, ← eB, World.cell?_alloc_lt _ _ _ (by simp), World.cell?_alloc_lt _ _ _ (by simp), World.cell?_alloc_at _ _ _ _ (by simp)]; rfl
  have z0 : W.cell? ⟨B + 1 + 1, 0, none⟩ = some (.int .i64 0) := by rw [← hW, ← eB, World.cell?_alloc_lt _ _ _ (by simp), World.cell?_alloc_at _ _ _ _ (by simp)]; rfl
  have z1 : W.cell? ⟨B + 1 + 1, 1, none⟩ = some (.int .i64 0) := by rw [← hW, ← eB, World.cell?_alloc_lt _ _ _ (by simp), World.cell?_alloc_at _ _ _ _ (by simp)]; rfl
  have z2 : W.cell? ⟨B + 1 + 1, 2, none⟩ = some (.int .i64 0) := by rw [← hW, ← eB, World.cell?_alloc_lt _ _ _ (by simp), World.cell?_alloc_at _ _ _ _ (by simp)]; rfl
  have g0 : ∀ o, W.frozen? ⟨B + 1 + 1, o, none⟩ = false := fun o => by rw [← hW, ← eB, World.frozen?_alloc_old _ _ _ (by simp), World.frozen?_alloc_at _ _ _ _ (by simp)]
  have q0 : W.cell? ⟨B + 1 + 1 + 1, 2, none⟩ = some (.func (.func 15) #[] #[]) := by rw [← hW, ← eB, World.cell?_alloc_at _ _ _ _ (by simp)]; rfl
  have hsW : B + 1 + 1 + 1 < W.heap.size := by rw [← hW, ← eB]; simp
  have hbW : Below w.heap.size w W := by rw [← hW]; exact below4 _ _ _ _ _
  have HE := Lib.hid (And.intro eB hbW)
  rw [eB]
  clear hW eB hbW
  go_region_held3 (fun w' => w'.cell? ⟨B, 0, none⟩ = some (.int .i64 2) ∧ w'.cell? ⟨B, 1, none⟩ = some (.int .i64 du) ∧ w'.cell? ⟨B, 2, none⟩ = some (.int .i64 tr) ∧ w'.cell? ⟨B + 1, 0, none⟩ = some (.int .i64 m.a) ∧ w'.cell? ⟨B + 1, 1, none⟩ = some (.int .i64 m.b) ∧ w'.cell? ⟨B + 1, 2, none⟩ = some (.int .i64 m.c) ∧ w'.cell? ⟨B + 1 + 1 + 1, 2, none⟩ = some (.func (.func 15) #[] #[])) (first | exact ⟨x0, x1, x2, y0, y1, y2, q0⟩ | exact ⟨(hc _ _ (by simp; omega)).trans x0, (hc _ _ (by simp; omega)).trans x1, (hc _ _ (by simp; omega)).trans x2, (hc _ _ (by simp; omega)).trans y0, (hc _ _ (by simp; omega)).trans y1, (hc _ _ (by simp; omega)).trans y2, (hc _ _ (by simp; omega)).trans q0⟩ | exact ⟨(set3 (by omega)).trans ((hc _ _ (by simp; omega)).trans x0), (set3 (by omega)).trans ((hc _ _ (by simp; omega)).trans x1), (set3 (by omega)).trans ((hc _ _ (by simp; omega)).trans x2), (set3 (by omega)).trans ((hc _ _ (by simp; omega)).trans y0), (set3 (by omega)).trans ((hc _ _ (by simp; omega)).trans y1), (set3 (by omega)).trans ((hc _ _ (by simp; omega)).trans y2), (set3 (by omega)).trans ((hc _ _ (by simp; omega)).trans q0)⟩ | go_keep)
    (first | (go_at_call 15; refine (hk _).mono ?_; rintro e w1 ⟨A, c, rfl, hr, hfr, hb⟩; have HB := Lib.hid (And.intro hfr hb); clear hfr; obtain ⟨hc, hf⟩ := bcell hb; have k0 : w1.cell? ⟨B + 1 + 1, 0, none⟩ = some (.int .i64 0) := (hc _ _ (by simp; omega)).trans z0; have k1 : w1.cell? ⟨B + 1 + 1, 1, none⟩ = some (.int .i64 0) := (hc _ _ (by simp; omega)).trans z1; have k2 : w1.cell? ⟨B + 1 + 1, 2, none⟩ = some (.int .i64 0) := (hc _ _ (by simp; omega)).trans z2; have k3 : w1.frozen? ⟨B + 1 + 1, 0, none⟩ = false := (hf _ _ (by simp; omega)).trans (g0 0); have k4 : w1.frozen? ⟨B + 1 + 1, 1, none⟩ = false := (hf _ _ (by simp; omega)).trans (g0 1); have k5 : w1.frozen? ⟨B + 1 + 1, 2, none⟩ = false := (hf _ _ (by simp; omega)).trans (g0 2)))
  go_wp2_with fail
  refine bodyPost_ret (v := .tuple #[.agg #[.int .i64 s'.ph, .int .i64 s'.du, .int .i64 s'.tr], .slice A l.length c]) (by simp [results, Try.results10, go_sem, k0, k1, k2]) rfl ?_
  exact steps_on (s := s') (l := l) hr HB.out.1 HB.out.2 HE.out.2.drew (by rw [HE.out.1]; omega) (by simp; omega)

set_option maxHeartbeats 1600000 in
theorem step_3 (du tr what t : Int) (m : Tm) (w : World) (ht : 0 ≤ t ∧ t ≤ 1152921504606846976) : Calls Try.prog 10 #[.agg #[.int .i64 3, .int .i64 du, .int .i64 tr], .int .i64 what, .int .i64 t, .agg #[.int .i64 m.a, .int .i64 m.b, .int .i64 m.c]] w (Steps (outgoingF ⟨3, du, tr⟩ what t m).1 (outgoingF ⟨3, du, tr⟩ what t m).2 w) := by
  have hk := fun W => outgoing_any ⟨3, du, tr⟩ what t m W ht
  obtain ⟨F, hFe⟩ : ∃ F, outgoingF ⟨3, du, tr⟩ what t m = F := ⟨_, rfl⟩
  rw [hFe] at hk ⊢
  obtain ⟨s', l⟩ := F
  simp only at hk ⊢
  clear hFe
  unfold spV at hk
  simp only at hk
  go_enter Try.func10, Try.ntmps10
  go_wp2
  obtain ⟨W, hW⟩ : ∃ W, ((((w.alloc (.cells #[.int .i64 3, .int .i64 du, .int .i64 tr] 27)).alloc (.cells #[.int .i64 m.a, .int .i64 m.b, .int .i64 m.c] 24)).alloc (.cells #[.int .i64 0, .int .i64 0, .int .i64 0] 27)).alloc (.cells #[.func (.func 13) #[] #[], .func (.func 14) #[] #[], .func (.func 15) #[] #[], .func (.func 16) #[] #[], .func (.func 17) #[] #[], .func (.func 18) #[] #[]] 46)) = W := ⟨_, rfl⟩
  rw [hW]
  obtain ⟨B, eB⟩ : ∃ B, w.heap.size = B := ⟨_, rfl⟩
  have x0 : W.cell? ⟨B, 0, none⟩ = some (.int .i64 3) := by rw [← hW, ← eB, World.cell?_alloc_lt _ _ _ (by simp; omega), World.cell?_alloc_lt _ _ _ (by simp; omega), World.cell?_alloc_lt _ _ _ (by simp), World.cell?_alloc_at _ _ _ _ (by simp)]; rfl
  have x1 : W.cell? ⟨B, 1, none⟩ = some (.int .i64 du) := by rw [← hW, ← eB, World.cell?_alloc_lt _ _ _ (by simp; omega), World.cell?_alloc_lt _ _ _ (by simp; omega), World.cell?_alloc_lt _ _ _ (by simp), World.cell?_alloc_at _ _ _ _ (by simp)]; rfl
  have x2 : W.cell? ⟨B, 2, none⟩ = some (.int .i64 tr) := by rw [← hW, ← eB, World.cell?_alloc_lt _ _ _ (by simp; omega), World.cell?_alloc_lt _ _ _ (by simp; omega), World.cell?_alloc_lt _ _ _ (by simp), World.cell?_alloc_at _ _ _ _ (by simp)]; rfl
  have y0 : W.cell? ⟨B + 1, 0, none⟩ = some (.int .i64 m.a) := by rw [← hW, ← eB, World.cell?_alloc_lt _ _ _ (by simp), World.cell?_alloc_lt _ _ _ (by simp), World.cell?_alloc_at _ _ _ _ (by simp)]; rfl
  have y1 : W.cell? ⟨B + 1, 1, none⟩ = some (.int .i64 m.b) := by rw [← hW, ← eB, World.cell?_alloc_lt _ _ _ (by simp), World.cell?_alloc_lt _ _ _ (by simp), World.cell?_alloc_at _ _ _ _ (by simp)]; rfl
  have y2 : W.cell? ⟨B + 1, 2, none⟩ = some (.int .i64 m.c) := by rw [← hW, ← eB, World.cell?_alloc_lt _ _ _ (by simp), World.cell?_alloc_lt _ _ _ (by simp), World.cell?_alloc_at _ _ _ _ (by simp)]; rfl
  have z0 : W.cell? ⟨B + 1 + 1, 0, none⟩ = some (.int .i64 0) := by rw [← hW, ← eB, World.cell?_alloc_lt _ _ _ (by simp), World.cell?_alloc_at _ _ _ _ (by simp)]; rfl
  have z1 : W.cell? ⟨B + 1 + 1, 1, none⟩ = some (.int .i64 0) := by rw [← hW, ← eB, World.cell?_alloc_lt _ _ _ (by simp), World.cell?_alloc_at _ _ _ _ (by simp)]; rfl
  have z2 : W.cell? ⟨B + 1 + 1, 2, none⟩ = some (.int .i64 0) := by rw [← hW, ← eB, World.cell?_alloc_lt _ _ _ (by simp), World.cell?_alloc_at _ _ _ _ (by simp)]; rfl
  have g0 : ∀ o, W.frozen? ⟨B + 1 + 1, o, none⟩ = false := fun o => by rw [← hW, ← eB, World.frozen?_alloc_old _ _ _ (by simp), World.frozen?_alloc_at _ _ _ _ (by simp)]
  have q0 : W.cell? ⟨B + 1 + 1 + 1, 3, none⟩ = some (.func (.func 16) #[] #[]) := by rw [← hW, ← eB, World.cell?_alloc_at _ _ _ _ (by simp)]; rfl
  have hsW : B + 1 + 1 + 1 < W.heap.size := by rw [← hW, ← eB]; simp
  have hbW : Below w.heap.size w W := by rw [← hW]; exact below4 _ _ _ _ _
  have HE := Lib.hid (And.intro eB hbW)
  rw [eB]
  clear hW eB hbW
  go_region_held3 (fun w' => w'.cell? ⟨B, 0, none⟩ = some (.int .i64 3) ∧ w'.cell? ⟨B, 1, none⟩ = some (.int .i64 du) ∧ w'.cell? ⟨B, 2, none⟩ = some (.int .i64 tr) ∧ w'.cell? ⟨B + 1, 0, none⟩ = some (.int .i64 m.a) ∧ w'.cell? ⟨B + 1, 1, none⟩ = some (.int .i64 m.b) ∧ w'.cell? ⟨B + 1, 2, none⟩ = some (.int .i64 m.c) ∧ w'.cell? ⟨B + 1 + 1 + 1, 3, none⟩ = some (.func (.func 16) #[] #[])) (first | exact ⟨x0, x1, x2, y0, y1, y2, q0⟩ | exact ⟨(hc _ _ (by simp; omega)).trans x0, (hc _ _ (by simp; omega)).trans x1, (hc _ _ (by simp; omega)).trans x2, (hc _ _ (by simp; omega)).trans y0, (hc _ _ (by simp; omega)).trans y1, (hc _ _ (by simp; omega)).trans y2, (hc _ _ (by simp; omega)).trans q0⟩ | exact ⟨(set3 (by omega)).trans ((hc _ _ (by simp; omega)).trans x0), (set3 (by omega)).trans ((hc _ _ (by simp; omega)).trans x1), (set3 (by omega)).trans ((hc _ _ (by simp; omega)).trans x2), (set3 (by omega)).trans ((hc _ _ (by simp; omega)).trans y0), (set3 (by omega)).trans ((hc _ _ (by simp; omega)).trans y1), (set3 (by omega)).trans ((hc _ _ (by simp; omega)).trans y2), (set3 (by omega)).trans ((hc _ _ (by simp; omega)).trans q0)⟩ | go_keep)
    (first | (go_at_call 16; refine (hk _).mono ?_; rintro e w1 ⟨A, c, rfl, hr, hfr, hb⟩; have HB := Lib.hid (And.intro hfr hb); clear hfr; obtain ⟨hc, hf⟩ := bcell hb; have k0 : w1.cell? ⟨B + 1 + 1, 0, none⟩ = some (.int .i64 0) := (hc _ _ (by simp; omega)).trans z0; have k1 : w1.cell? ⟨B + 1 + 1, 1, none⟩ = some (.int .i64 0) := (hc _ _ (by simp; omega)).trans z1; have k2 : w1.cell? ⟨B + 1 + 1, 2, none⟩ = some (.int .i64 0) := (hc _ _ (by simp; omega)).trans z2; have k3 : w1.frozen? ⟨B + 1 + 1, 0, none⟩ = false := (hf _ _ (by simp; omega)).trans (g0 0); have k4 : w1.frozen? ⟨B + 1 + 1, 1, none⟩ = false := (hf _ _ (by simp; omega)).trans (g0 1); have k5 : w1.frozen? ⟨B + 1 + 1, 2, none⟩ = false := (hf _ _ (by simp; omega)).trans (g0 2)))
  go_wp2_with fail
  refine bodyPost_ret (v := .tuple #[.agg #[.int .i64 s'.ph, .int .i64 s'.du, .int .i64 s'.tr], .slice A l.length c]) (by simp [results, Try.results10, go_sem, k0, k1, k2]) rfl ?_
  exact steps_on (s := s') (l := l) hr HB.out.1 HB.out.2 HE.out.2.drew (by rw [HE.out.1]; omega) (by simp; omega)

set_option maxHeartbeats 1600000 in
theorem step_4 (du tr what t : Int) (m : Tm) (w : World) (ht : 0 ≤ t ∧ t ≤ 1152921504606846976) : Calls Try.prog 10 #[.agg #[.int .i64 4, .int .i64 du, .int .i64 tr], .int .i64 what, .int .i64 t, .agg #[.int .i64 m.a, .int .i64 m.b, .int .i64 m.c]] w (Steps (endsF ⟨4, du, tr⟩ what t m).1 (endsF ⟨4, du, tr⟩ what t m).2 w) := by
  have hk := fun W => ends_any ⟨4, du, tr⟩ what t m W ht
  obtain ⟨F, hFe⟩ : ∃ F, endsF ⟨4, du, tr⟩ what t m = F := ⟨_, rfl⟩
  rw [hFe] at hk ⊢
  obtain ⟨s', l⟩ := F
  simp only at hk ⊢
  clear hFe
  unfold spV at hk
  simp only at hk
  go_enter Try.func10, Try.ntmps10
  go_wp2
  obtain ⟨W, hW⟩ : ∃ W, ((((w.alloc (.cells #[.int .i64 4, .int .i64 du, .int .i64 tr] 27)).alloc (.cells #[.int .i64 m.a, .int .i64 m.b, .int .i64 m.c] 24)).alloc (.cells #[.int .i64 0, .int .i64 0, .int .i64 0] 27)).alloc (.cells #[.func (.func 13) #[] #[], .func (.func 14) #[] #[], .func (.func 15) #[] #[], .func (.func 16) #[] #[], .func (.func 17) #[] #[], .func (.func 18) #[] #[]] 46)) = W := ⟨_, rfl⟩
  rw [hW]
  obtain ⟨B, eB⟩ : ∃ B, w.heap.size = B := ⟨_, rfl⟩
  have x0 : W.cell? ⟨B, 0, none⟩ = some (.int .i64 4) := by rw [← hW, ← eB, World.cell?_alloc_lt _ _ _ (by simp; omega), World.cell?_alloc_lt _ _ _ (by simp; omega), World.cell?_alloc_lt _ _ _ (by simp), World.cell?_alloc_at _ _ _ _ (by simp)]; rfl
  have x1 : W.cell? ⟨B, 1, none⟩ = some (.int .i64 du) := by rw [← hW, ← eB, World.cell?_alloc_lt _ _ _ (by simp; omega), World.cell?_alloc_lt _ _ _ (by simp; omega), World.cell?_alloc_lt _ _ _ (by simp), World.cell?_alloc_at _ _ _ _ (by simp)]; rfl
  have x2 : W.cell? ⟨B, 2, none⟩ = some (.int .i64 tr) := by rw [← hW, ← eB, World.cell?_alloc_lt _ _ _ (by simp; omega), World.cell?_alloc_lt _ _ _ (by simp; omega), World.cell?_alloc_lt _ _ _ (by simp), World.cell?_alloc_at _ _ _ _ (by simp)]; rfl
  have y0 : W.cell? ⟨B + 1, 0, none⟩ = some (.int .i64 m.a) := by rw [← hW, ← eB, World.cell?_alloc_lt _ _ _ (by simp), World.cell?_alloc_lt _ _ _ (by simp), World.cell?_alloc_at _ _ _ _ (by simp)]; rfl
  have y1 : W.cell? ⟨B + 1, 1, none⟩ = some (.int .i64 m.b) := by rw [← hW, ← eB, World.cell?_alloc_lt _ _ _ (by simp), World.cell?_alloc_lt _ _ _ (by simp), World.cell?_alloc_at _ _ _ _ (by simp)]; rfl
  have y2 : W.cell? ⟨B + 1, 2, none⟩ = some (.int .i64 m.c) := by rw [← hW, ← eB, World.cell?_alloc_lt _ _ _ (by simp), World.cell?_alloc_lt _ _ _ (by simp), World.cell?_alloc_at _ _ _ _ (by simp)]; rfl
  have z0 : W.cell? ⟨B + 1 + 1, 0, none⟩ = some (.int .i64 0) := by rw [← hW, ← eB, World.cell?_alloc_lt _ _ _ (by simp), World.cell?_alloc_at _ _ _ _ (by simp)]; rfl
  have z1 : W.cell? ⟨B + 1 + 1, 1, none⟩ = some (.int .i64 0) := by rw [← hW, ← eB, World.cell?_alloc_lt _ _ _ (by simp), World.cell?_alloc_at _ _ _ _ (by simp)]; rfl
  have z2 : W.cell? ⟨B + 1 + 1, 2, none⟩ = some (.int .i64 0) := by rw [← hW, ← eB, World.cell?_alloc_lt _ _ _ (by simp), World.cell?_alloc_at _ _ _ _ (by simp)]; rfl
  have g0 : ∀ o, W.frozen? ⟨B + 1 + 1, o, none⟩ = false := fun o => by rw [← hW, ← eB, World.frozen?_alloc_old _ _ _ (by simp), World.frozen?_alloc_at _ _ _ _ (by simp)]
  have q0 : W.cell? ⟨B + 1 + 1 + 1, 4, none⟩ = some (.func (.func 17) #[] #[]) := by rw [← hW, ← eB, World.cell?_alloc_at _ _ _ _ (by simp)]; rfl
  have hsW : B + 1 + 1 + 1 < W.heap.size := by rw [← hW, ← eB]; simp
  have hbW : Below w.heap.size w W := by rw [← hW]; exact below4 _ _ _ _ _
  have HE := Lib.hid (And.intro eB hbW)
  rw [eB]
  clear hW eB hbW
  go_region_held3 (fun w' => w'.cell? ⟨B, 0, none⟩ = some (.int .i64 4) ∧ w'.cell? ⟨B, 1, none⟩ = some (.int .i64 du) ∧ w'.cell? ⟨B, 2, none⟩ = some (.int .i64 tr) ∧ w'.cell? ⟨B + 1, 0, none⟩ = some (.int .i64 m.a) ∧ w'.cell? ⟨B + 1, 1, none⟩ = some (.int .i64 m.b) ∧ w'.cell? ⟨B + 1, 2, none⟩ = some (.int .i64 m.c) ∧ w'.cell? ⟨B + 1 + 1 + 1, 4, none⟩ = some (.func (.func 17) #[] #[])) (first | exact ⟨x0, x1, x2, y0, y1, y2, q0⟩ | exact ⟨(hc _ _ (by simp; omega)).trans x0, (hc _ _ (by simp; omega)).trans x1, (hc _ _ (by simp; omega)).trans x2, (hc _ _ (by simp; omega)).trans y0, (hc _ _ (by simp; omega)).trans y1, (hc _ _ (by simp; omega)).trans y2, (hc _ _ (by simp; omega)).trans q0⟩ | exact ⟨(set3 (by omega)).trans ((hc _ _ (by simp; omega)).trans x0), (set3 (by omega)).trans ((hc _ _ (by simp; omega)).trans x1), (set3 (by omega)).trans ((hc _ _ (by simp; omega)).trans x2), (set3 (by omega)).trans ((hc _ _ (by simp; omega)).trans y0), (set3 (by omega)).trans ((hc _ _ (by simp; omega)).trans y1), (set3 (by omega)).trans ((hc _ _ (by simp; omega)).trans y2), (set3 (by omega)).trans ((hc _ _ (by simp; omega)).trans q0)⟩ | go_keep)
    (first | (go_at_call 17; refine (hk _).mono ?_; rintro e w1 ⟨A, c, rfl, hr, hfr, hb⟩; have HB := Lib.hid (And.intro hfr hb); clear hfr; obtain ⟨hc, hf⟩ := bcell hb; have k0 : w1.cell? ⟨B + 1 + 1, 0, none⟩ = some (.int .i64 0) := (hc _ _ (by simp; omega)).trans z0; have k1 : w1.cell? ⟨B + 1 + 1, 1, none⟩ = some (.int .i64 0) := (hc _ _ (by simp; omega)).trans z1; have k2 : w1.cell? ⟨B + 1 + 1, 2, none⟩ = some (.int .i64 0) := (hc _ _ (by simp; omega)).trans z2; have k3 : w1.frozen? ⟨B + 1 + 1, 0, none⟩ = false := (hf _ _ (by simp; omega)).trans (g0 0); have k4 : w1.frozen? ⟨B + 1 + 1, 1, none⟩ = false := (hf _ _ (by simp; omega)).trans (g0 1); have k5 : w1.frozen? ⟨B + 1 + 1, 2, none⟩ = false := (hf _ _ (by simp; omega)).trans (g0 2)))
  go_wp2_with fail
  refine bodyPost_ret (v := .tuple #[.agg #[.int .i64 s'.ph, .int .i64 s'.du, .int .i64 s'.tr], .slice A l.length c]) (by simp [results, Try.results10, go_sem, k0, k1, k2]) rfl ?_
  exact steps_on (s := s') (l := l) hr HB.out.1 HB.out.2 HE.out.2.drew (by rw [HE.out.1]; omega) (by simp; omega)

set_option maxHeartbeats 1600000 in
theorem step_5 (du tr what t : Int) (m : Tm) (w : World) (ht : 0 ≤ t ∧ t ≤ 1152921504606846976) : Calls Try.prog 10 #[.agg #[.int .i64 5, .int .i64 du, .int .i64 tr], .int .i64 what, .int .i64 t, .agg #[.int .i64 m.a, .int .i64 m.b, .int .i64 m.c]] w (Steps (releasingF ⟨5, du, tr⟩ what t m).1 (releasingF ⟨5, du, tr⟩ what t m).2 w) := by
  have hk := fun W => releasing_any ⟨5, du, tr⟩ what t m W ht
  obtain ⟨F, hFe⟩ : ∃ F, releasingF ⟨5, du, tr⟩ what t m = F := ⟨_, rfl⟩
  rw [hFe] at hk ⊢
  obtain ⟨s', l⟩ := F
  simp only at hk ⊢
  clear hFe
  unfold spV at hk
  simp only at hk
  go_enter Try.func10, Try.ntmps10
  go_wp2
  obtain ⟨W, hW⟩ : ∃ W, ((((w.alloc (.cells #[.int .i64 5, .int .i64 du, .int .i64 tr] 27)).alloc (.cells #[.int .i64 m.a, .int .i64 m.b, .int .i64 m.c] 24)).alloc (.cells #[.int .i64 0, .int .i64 0, .int .i64 0] 27)).alloc (.cells #[.func (.func 13) #[] #[], .func (.func 14) #[] #[], .func (.func 15) #[] #[], .func (.func 16) #[] #[], .func (.func 17) #[] #[], .func (.func 18) #[] #[]] 46)) = W := ⟨_, rfl⟩
  rw [hW]
  obtain ⟨B, eB⟩ : ∃ B, w.heap.size = B := ⟨_, rfl⟩
  have x0 : W.cell? ⟨B, 0, none⟩ = some (.int .i64 5) := by rw [← hW, ← eB, World.cell?_alloc_lt _ _ _ (by simp; omega), World.cell?_alloc_lt _ _ _ (by simp; omega), World.cell?_alloc_lt _ _ _ (by simp), World.cell?_alloc_at _ _ _ _ (by simp)]; rfl
  have x1 : W.cell? ⟨B, 1, none⟩ = some (.int .i64 du) := by rw [← hW, ← eB, World.cell?_alloc_lt _ _ _ (by simp; omega), World.cell?_alloc_lt _ _ _ (by simp; omega), World.cell?_alloc_lt _ _ _ (by simp), World.cell?_alloc_at _ _ _ _ (by simp)]; rfl
  have x2 : W.cell? ⟨B, 2, none⟩ = some (.int .i64 tr) := by rw [← hW, ← eB, World.cell?_alloc_lt _ _ _ (by simp; omega), World.cell?_alloc_lt _ _ _ (by simp; omega), World.cell?_alloc_lt _ _ _ (by simp), World.cell?_alloc_at _ _ _ _ (by simp)]; rfl
  have y0 : W.cell? ⟨B + 1, 0, none⟩ = some (.int .i64 m.a) := by rw [← hW, ← eB, World.cell?_alloc_lt _ _ _ (by simp), World.cell?_alloc_lt _ _ _ (by simp), World.cell?_alloc_at _ _ _ _ (by simp)]; rfl
  have y1 : W.cell? ⟨B + 1, 1, none⟩ = some (.int .i64 m.b) := by rw [← hW, ← eB, World.cell?_alloc_lt _ _ _ (by simp), World.cell?_alloc_lt _ _ _ (by simp), World.cell?_alloc_at _ _ _ _ (by simp)]; rfl
  have y2 : W.cell? ⟨B + 1, 2, none⟩ = some (.int .i64 m.c) := by rw [← hW, ← eB, World.cell?_alloc_lt _ _ _ (by simp), World.cell?_alloc_lt _ _ _ (by simp), World.cell?_alloc_at _ _ _ _ (by simp)]; rfl
  have z0 : W.cell? ⟨B + 1 + 1, 0, none⟩ = some (.int .i64 0) := by rw [← hW, ← eB, World.cell?_alloc_lt _ _ _ (by simp), World.cell?_alloc_at _ _ _ _ (by simp)]; rfl
  have z1 : W.cell? ⟨B + 1 + 1, 1, none⟩ = some (.int .i64 0) := by rw [← hW, ← eB, World.cell?_alloc_lt _ _ _ (by simp), World.cell?_alloc_at _ _ _ _ (by simp)]; rfl
  have z2 : W.cell? ⟨B + 1 + 1, 2, none⟩ = some (.int .i64 0) := by rw [← hW, ← eB, World.cell?_alloc_lt _ _ _ (by simp), World.cell?_alloc_at _ _ _ _ (by simp)]; rfl
  have g0 : ∀ o, W.frozen? ⟨B + 1 + 1, o, none⟩ = false := fun o => by rw [← hW, ← eB, World.frozen?_alloc_old _ _ _ (by simp), World.frozen?_alloc_at _ _ _ _ (by simp)]
  have q0 : W.cell? ⟨B + 1 + 1 + 1, 5, none⟩ = some (.func (.func 18) #[] #[]) := by rw [← hW, ← eB, World.cell?_alloc_at _ _ _ _ (by simp)]; rfl
  have hsW : B + 1 + 1 + 1 < W.heap.size := by rw [← hW, ← eB]; simp
  have hbW : Below w.heap.size w W := by rw [← hW]; exact below4 _ _ _ _ _
  have HE := Lib.hid (And.intro eB hbW)
  rw [eB]
  clear hW eB hbW
  go_region_held3 (fun w' => w'.cell? ⟨B, 0, none⟩ = some (.int .i64 5) ∧ w'.cell? ⟨B, 1, none⟩ = some (.int .i64 du) ∧ w'.cell? ⟨B, 2, none⟩ = some (.int .i64 tr) ∧ w'.cell? ⟨B + 1, 0, none⟩ = some (.int .i64 m.a) ∧ w'.cell? ⟨B + 1, 1, none⟩ = some (.int .i64 m.b) ∧ w'.cell? ⟨B + 1, 2, none⟩ = some (.int .i64 m.c) ∧ w'.cell? ⟨B + 1 + 1 + 1, 5, none⟩ = some (.func (.func 18) #[] #[])) (first | exact ⟨x0, x1, x2, y0, y1, y2, q0⟩ | exact ⟨(hc _ _ (by simp; omega)).trans x0, (hc _ _ (by simp; omega)).trans x1, (hc _ _ (by simp; omega)).trans x2, (hc _ _ (by simp; omega)).trans y0, (hc _ _ (by simp; omega)).trans y1, (hc _ _ (by simp; omega)).trans y2, (hc _ _ (by simp; omega)).trans q0⟩ | exact ⟨(set3 (by omega)).trans ((hc _ _ (by simp; omega)).trans x0), (set3 (by omega)).trans ((hc _ _ (by simp; omega)).trans x1), (set3 (by omega)).trans ((hc _ _ (by simp; omega)).trans x2), (set3 (by omega)).trans ((hc _ _ (by simp; omega)).trans y0), (set3 (by omega)).trans ((hc _ _ (by simp; omega)).trans y1), (set3 (by omega)).trans ((hc _ _ (by simp; omega)).trans y2), (set3 (by omega)).trans ((hc _ _ (by simp; omega)).trans q0)⟩ | go_keep)
    (first | (go_at_call 18; refine (hk _).mono ?_; rintro e w1 ⟨A, c, rfl, hr, hfr, hb⟩; have HB := Lib.hid (And.intro hfr hb); clear hfr; obtain ⟨hc, hf⟩ := bcell hb; have k0 : w1.cell? ⟨B + 1 + 1, 0, none⟩ = some (.int .i64 0) := (hc _ _ (by simp; omega)).trans z0; have k1 : w1.cell? ⟨B + 1 + 1, 1, none⟩ = some (.int .i64 0) := (hc _ _ (by simp; omega)).trans z1; have k2 : w1.cell? ⟨B + 1 + 1, 2, none⟩ = some (.int .i64 0) := (hc _ _ (by simp; omega)).trans z2; have k3 : w1.frozen? ⟨B + 1 + 1, 0, none⟩ = false := (hf _ _ (by simp; omega)).trans (g0 0); have k4 : w1.frozen? ⟨B + 1 + 1, 1, none⟩ = false := (hf _ _ (by simp; omega)).trans (g0 1); have k5 : w1.frozen? ⟨B + 1 + 1, 2, none⟩ = false := (hf _ _ (by simp; omega)).trans (g0 2)))
  go_wp2_with fail
  refine bodyPost_ret (v := .tuple #[.agg #[.int .i64 s'.ph, .int .i64 s'.du, .int .i64 s'.tr], .slice A l.length c]) (by simp [results, Try.results10, go_sem, k0, k1, k2]) rfl ?_
  exact steps_on (s := s') (l := l) hr HB.out.1 HB.out.2 HE.out.2.drew (by rw [HE.out.1]; omega) (by simp; omega)

theorem step_out (s : St) (what t : Int) (m : Tm) (w : World) (h : s.ph < 0 ∨ 6 ≤ s.ph) : Calls Try.prog 10 #[.agg #[.int .i64 s.ph, .int .i64 s.du, .int .i64 s.tr], .int .i64 what, .int .i64 t, .agg #[.int .i64 m.a, .int .i64 m.b, .int .i64 m.c]] w (Steps s [] w) := by
  rcases h with h | h
  · go_enter Try.func10, Try.ntmps10
    go_wp2
    refine bodyPost_ret (v := .tuple #[.agg #[.int .i64 s.ph, .int .i64 s.du, .int .i64 s.tr], .slice none 0 0]) (by simp [results, Try.results10, go_sem]) rfl ?_
    exact steps_nil (below4 _ _ _ _ _)
  · have h0 : ¬ s.ph < 0 := by omega
    go_enter Try.func10, Try.ntmps10
    go_wp2
    refine bodyPost_ret (v := .tuple #[.agg #[.int .i64 s.ph, .int .i64 s.du, .int .i64 s.tr], .slice none 0 0]) (by simp [results, Try.results10, go_sem]) rfl ?_
    exact steps_nil (below4 _ _ _ _ _)

/-- What happens next. -/
def stepF (s : St) (what t : Int) (m : Tm) : St × List Int :=
  if s.ph = 0 then nullF s what t m else if s.ph = 1 then incomingF s what t m else if s.ph = 2 then presentF s what t m else if s.ph = 3 then outgoingF s what t m else if s.ph = 4 then endsF s what t m else if s.ph = 5 then releasingF s what t m else (s, [])

theorem step_any (s : St) (what t : Int) (m : Tm) (w : World) (ht : 0 ≤ t ∧ t ≤ 1152921504606846976) : Calls Try.prog 10 #[stV s, .int .i64 what, .int .i64 t, tmV m] w (Steps (stepF s what t m).1 (stepF s what t m).2 w) := by
  obtain ⟨ph, du, tr⟩ := s
  unfold stepF stV tmV
  simp only
  by_cases h0 : ph = 0
  · subst h0; exact step_0 du tr what t m w ht
  rw [if_neg h0]
  by_cases h1 : ph = 1
  · subst h1; exact step_1 du tr what t m w ht
  rw [if_neg h1]
  by_cases h2 : ph = 2
  · subst h2; exact step_2 du tr what t m w ht
  rw [if_neg h2]
  by_cases h3 : ph = 3
  · subst h3; exact step_3 du tr what t m w ht
  rw [if_neg h3]
  by_cases h4 : ph = 4
  · subst h4; exact step_4 du tr what t m w ht
  rw [if_neg h4]
  by_cases h5 : ph = 5
  · subst h5; exact step_5 du tr what t m w ht
  rw [if_neg h5]
  exact step_out ⟨ph, du, tr⟩ what t m w (by simp only; omega)

end Go.Proofs.Ytjgdbmkddmjaeaa
