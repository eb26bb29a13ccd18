/- What a contract costs; its rules. -/
import Derived.Test.YtcfhjkmebnmcjaaGreatB
import Derived.IntWalk
namespace Go.Proofs.YtcfhjkmebnmcjaaGreat
open Go.RowKit
set_option linter.unusedVariables false
set_option linter.unusedSimpArgs false

theorem heap_new' (W : World) {n : Nat} {o : Obj} (h : W.heap.size = n) : (W.alloc o).heap[n]? = some o := by subst h; exact heap_alloc_new W o
theorem bcell {W w1 : World} (hb : Below W.heap.size W w1) : (∀ b o, b < W.heap.size → w1.cell? ⟨b, o, none⟩ = W.cell? ⟨b, o, none⟩) ∧ (∀ b o, b < W.heap.size → w1.frozen? ⟨b, o, none⟩ = W.frozen? ⟨b, o, none⟩) :=
  ⟨fun b o h => hb.cell (p := ⟨b, o, none⟩) h, fun b o h => hb.frozen (p := ⟨b, o, none⟩) h⟩

theorem below_drewN {B : Nat} {a w : World} (h : Below B a w) (n : Nat) : Below B a (w.drewN n) := ⟨h.os, h.tape, h.output, h.size, h.block⟩

theorem right_ok {c : Ct} (h : c.Ok) (w : World) : Calls Tryz.prog 5 #[c.v] w fun e w' => e = .returned (.int .i64 0) ∧ Below w.heap.size w w' := by
  refine (right_any c w).mono ?_
  rintro e w' ⟨n, rfl, hn, hb⟩
  obtain rfl := hn.2 h
  exact ⟨rfl, hb⟩

theorem always_any {c : Ct} (h : c.Ok) (w : World) : Calls Tryz.prog 94 #[c.v] w fun e w' => e = .returned (.bool (c.k == 7)) ∧ Below w.heap.size w w' := by
  have hr := fun w => right_ok h w
  have HR := Lib.hid hr
  obtain ⟨k, p, e, wh, b, l⟩ := c
  clear h hr
  by_cases hk : k = 7
  · subst hk
    go_enter Tryz.func94, Tryz.ntmps94
    go_wp2_with fail
    refine (HR.out _).mono ?_
    rintro e' w' ⟨rfl, hb⟩
    have HB := Lib.hid hb
    clear hb
    go_wp2_with fail
    go_ret
    exact ⟨rfl, ((Below.refl _ _).alloc (Nat.le_refl _) _).trans (HB.out.mono (by simp))⟩
  · have e1 : (k == 7) = false := by simpa using hk
    go_enter Tryz.func94, Tryz.ntmps94
    go_wp2_with fail
    go_ret
    exact ⟨by simp [hk], (Below.refl _ _).alloc (Nat.le_refl _) _⟩

/-- How many a unit. -/
def perN (s : Int) : Int := 1 + 1048575 / s
theorem perN_bd {s : Int} (h : 1 ≤ s) : 1 ≤ perN s ∧ perN s ≤ 1048576 := by
  unfold perN
  have h1 : 0 ≤ 1048575 / s := Int.ediv_nonneg (by omega) (by omega)
  have h2 : 1048575 / s ≤ 1048575 := Int.ediv_le_self _ (by omega)
  omega

theorem per_yes (s : Int) (w : World) (h : 1 ≤ s) : Calls Tryz.prog 60 #[.int .i64 s] w fun e w' => e = .returned (.int .i64 (perN s)) ∧ w' = w := by
  have hb := perN_bd h
  unfold perN at hb ⊢
  have h1 : (1048575 : Int).tdiv s = 1048575 / s := Int.tdiv_eq_ediv_of_nonneg (by omega)
  go_enter Tryz.func60, Tryz.ntmps60
  go_wp2
  go_ret
  exact ⟨rfl, rfl⟩
theorem per_no (s : Int) (w : World) (h : s < 1) : Calls Tryz.prog 60 #[.int .i64 s] w fun e w' => e = .returned (.int .i64 0) ∧ w' = w := by
  go_enter Tryz.func60, Tryz.ntmps60
  go_wp2
  go_ret
  exact ⟨rfl, rfl⟩

/-- A quotient, cut off up. -/
def upN (n b : Int) : Int := (n + b - 1) / b
theorem upN_bd {n b : Int} (h0 : 0 ≤ n) (h1 : n ≤ 1152921508901814272) (h2 : 4096 ≤ b) (h3 : b ≤ 1099511631872) : 0 ≤ upN n b ∧ upN n b ≤ 1152921504606846976 := by
  unfold upN
  have e1 : 0 ≤ (n + b - 1) / b := Int.ediv_nonneg (by omega) (by omega)
  have e2 : (n + b - 1) / b * b ≤ n + b - 1 := Int.ediv_mul_le _ (by omega)
  have e3 : (n + b - 1) / b * 4096 ≤ (n + b - 1) / b * b := Int.mul_le_mul_of_nonneg_left h2 e1
  omega

theorem up_any (n b : Int) (w : World) (h0 : 0 ≤ n) (h1 : n ≤ 1152921508901814272) (h2 : 4096 ≤ b) (h3 : b ≤ 1099511631872) :
    Calls Tryz.prog 61 #[.int .i64 n, .int .i64 b] w fun e w' => e = .returned (.int .i64 (upN n b)) ∧ w' = w := by
  have hb := upN_bd h0 h1 h2 h3
  unfold upN at hb ⊢
  have h5 : (n + b - 1).tdiv b = (n + b - 1) / b := Int.tdiv_eq_ediv_of_nonneg (by omega)
  go_enter Tryz.func61, Tryz.ntmps61
  go_wp2
  go_ret
  exact ⟨rfl, rfl⟩

/-- What Need tells. -/
def NeedP (c : Ct) (w : World) (e : Ending) (w' : World) : Prop := ∃ n : Int, e = .returned (.int .i64 n) ∧ (0 ≤ n ∧ n ≤ 1152921504606846976 ∧ (c.k = 6 → n = 0)) ∧ Below w.heap.size w w'

theorem prod_bd {x b : Int} (h0 : 0 ≤ x) (h1 : x ≤ 1048576) (h2 : 0 ≤ b) (h3 : b ≤ 1099511627776) : 0 ≤ x * b ∧ x * b ≤ 1152921504606846976 := by
  have e1 : 0 ≤ x * b := Int.mul_nonneg h0 h2
  have e2 : x * b ≤ 1048576 * b := Int.mul_le_mul_of_nonneg_right h1 h2
  omega

set_option maxHeartbeats 2000000 in
theorem need_any {c : Ct} (h : c.Ok) (w : World) : Calls Tryz.prog 39 #[c.v] w (NeedP c w) := by
  have hr := fun w => right_ok h w
  have HR := Lib.hid hr
  have HO := Lib.hid h
  obtain ⟨k, p, e, wh, b, l⟩ := c
  have HB0 := Lib.hid ((Below.refl w.heap.size w).alloc (Nat.le_refl _) (.cells #[.int .i64 k, .int .i64 p, .int .i64 e, .int .i64 wh, .int .i64 b, .int .i64 l] 23))
  unfold Ct.Ok at h
  simp only at h
  obtain ⟨h1, h2, h3, h4, h5⟩ := h
  clear hr
  rcases h5 with ⟨hk, h6, h7, h8, h9, rfl⟩ | ⟨rfl, rfl, rfl, hl⟩ | ⟨hk, rfl, rfl, rfl⟩
  · have q1 := perN_bd (s := wh) (by omega)
    have q2 := perN_bd (s := p) (by omega)
    have Q1 := Lib.hid (fun w => per_yes wh w (by omega))
    have Q2 := Lib.hid (fun w => per_yes p w (by omega))
    obtain ⟨x, ex⟩ : ∃ x, perN wh = x := ⟨_, rfl⟩
    obtain ⟨y, ey⟩ : ∃ x, perN p = x := ⟨_, rfl⟩
    rw [ex] at q1 Q1
    rw [ey] at q2 Q2
    clear ex ey
    have q3 := prod_bd (x := y) (b := b) (by omega) (by omega) (by omega) (by omega)
    have Q3 := Lib.hid (fun w => up_any (x * 4096 + y * b) (b + 4096) w (by omega) (by omega) (by omega) (by omega))
    have Q4 := Lib.hid (upN_bd (n := x * 4096 + y * b) (b := b + 4096) (by omega) (by omega) (by omega) (by omega))
    have w1 : IntKind.i64.wrap (x * 4096) = x * 4096 := Go.IntWalk.i64_in _ (by omega)
    have w2 : IntKind.i64.wrap (y * b) = y * b := Go.IntWalk.i64_in _ (by omega)
    have w3 : IntKind.i64.wrap (x * 4096 + y * b) = x * 4096 + y * b := Go.IntWalk.i64_in _ (by omega)
    have w4 : IntKind.i64.wrap (b + 4096) = b + 4096 := Go.IntWalk.i64_in _ (by omega)
    obtain ⟨m, em⟩ : ∃ m, y * b = m := ⟨_, rfl⟩
    rw [em] at w2 w3 q3 Q3 Q4
    have W2 := Lib.hid (And.intro em w2)
    have hbs : 0 ≤ b ∧ b ≤ 1099511627776 := ⟨h8, h9⟩
    have HK := Lib.hid hk
    clear hk em w2 h1 h2 h3 h4 h6 h7
    rcases HK.out with rfl | rfl | rfl
    all_goals
      go_enter Tryz.func39, Tryz.ntmps39
      go_wp2_with fail
      refine (HR.out _).mono ?_
      rintro e' w1 ⟨rfl, hb1⟩
      have HB1 := Lib.hid (HB0.out.trans (hb1.mono (by simp)))
      obtain ⟨hc, hf⟩ := bcell hb1
      clear hb1
      go_wp2_with fail
      have w2 : IntKind.i64.wrap (y * b) = m := by rw [W2.out.1]; exact W2.out.2
      go_quiet ((first | (go_at_call 60; with_reducible exact Calls.quiet_of_same (Q1.out _)) | (go_at_call 60; with_reducible exact Calls.quiet_of_same (Q2.out _)) | (go_at_call 61; with_reducible exact Calls.quiet_of_same (Q3.out _))))
      clear w2
      go_wp2
      go_ret
      exact ⟨_, rfl, ⟨Q4.out.1, Q4.out.2, fun h => by simp at h⟩, HB1.out.trans (below_drewN (Below.refl _ _) _)⟩
  · rcases hl with rfl | hl
    · go_enter Tryz.func39, Tryz.ntmps39
      go_wp2_with fail
      refine (HR.out _).mono ?_
      rintro e' w1 ⟨rfl, hb1⟩
      have HB1 := Lib.hid (HB0.out.trans (hb1.mono (by simp)))
      obtain ⟨hc, hf⟩ := bcell hb1
      clear hb1
      go_wp2_with (go_at_call 60; refine (per_no _ _ (by omega)).mono ?_; rintro e w' ⟨rfl, rfl⟩)
      go_ret
      exact ⟨_, rfl, ⟨by omega, by omega, fun h => by simp at h⟩, HB1.out⟩
    · have q1 := perN_bd (s := l) (by omega)
      go_enter Tryz.func39, Tryz.ntmps39
      go_wp2_with fail
      refine (HR.out _).mono ?_
      rintro e' w1 ⟨rfl, hb1⟩
      have HB1 := Lib.hid (HB0.out.trans (hb1.mono (by simp)))
      obtain ⟨hc, hf⟩ := bcell hb1
      clear hb1
      go_wp2_with (go_at_call 60; refine (per_yes _ _ (by omega)).mono ?_; rintro e w' ⟨rfl, rfl⟩)
      go_ret
      exact ⟨_, rfl, ⟨by omega, by omega, fun h => by simp at h⟩, HB1.out⟩
  · have q1 := perN_bd (s := p) (by omega)
    rcases hk with rfl | rfl | rfl
    all_goals
      go_enter Tryz.func39, Tryz.ntmps39
      go_wp2_with fail
      refine (HR.out _).mono ?_
      rintro e' w1 ⟨rfl, hb1⟩
      have HB1 := Lib.hid (HB0.out.trans (hb1.mono (by simp)))
      obtain ⟨hc, hf⟩ := bcell hb1
      clear hb1
      go_wp2_with (go_at_call 60; refine (per_yes _ _ (by omega)).mono ?_; rintro e w' ⟨rfl, rfl⟩)
      go_ret
      exact ⟨_, rfl, ⟨by omega, by omega, fun h => by first | omega | simp at h⟩, HB1.out⟩

end Go.Proofs.YtcfhjkmebnmcjaaGreat
