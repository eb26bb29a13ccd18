/- The reference's bucket: Take; its shaper's Come. -/
import Derived.Test.YtclplacjgofccaaRf
namespace Go.Proofs.Ytclplacjgofccaa.Rf
open Go.RowKit Go.Sort Go.Shelf Go.Lib
set_option linter.unusedVariables false
set_option linter.unusedSimpArgs false
attribute [local go_sem ↓] Go.wp_at_zero Go.wp_at_succ

theorem HasR.three {W W2 : World} {p : Nat} {v : Value} {y : Re} {a b : Int} (h : HasR W p v y) (hb : Below W.heap.size W W2) :
    HasR (((W2.setCell ⟨p, 2, none⟩ (.int .i64 a)).setCell ⟨p, 3, none⟩ (.int .i64 b)).setCell ⟨p, 4, none⟩ (.bool true)) p v { y with x := a, ut := b, any := true } ∧
    Kept p W (((W2.setCell ⟨p, 2, none⟩ (.int .i64 a)).setCell ⟨p, 3, none⟩ (.int .i64 b)).setCell ⟨p, 4, none⟩ (.bool true)) := by
  refine ⟨?_, (((Kept.of hb).set 2 _).set 3 _).set 4 _⟩
  have h2 := h.below hb
  unfold HasR at h2 ⊢
  rw [heap_set (heap_set (heap_set h2 _ _) _ _) _ _]
  rfl

set_option maxHeartbeats 1600000 in
theorem btake_any {W : World} {p : Nat} {v : Value} {y : Re} (t : Int) (h : HasR W p v y) (ok : OkR y) :
    Calls Try.prog 25 #[.pointer (some ⟨p, 0, none⟩), .int .i64 t] W fun e w' => e = .returned (.bool (fitR t y)) ∧ HasR w' p v (btakeR t y) ∧ Kept p W w' := by
  have hf := fun n => fits_any t (h.drewN n) ok
  have hl := fun n => level_any t (h.drewN n) ok
  obtain ⟨l, el⟩ : ∃ l, levelR t y = l := ⟨_, rfl⟩
  have hbt := held_bd t
  have k1 := ok.s1
  have k2 := ok.s2
  have k3 := ok.e2
  have HO := Lib.hid (And.intro h ok)
  have hlb : l ≤ 2305843009213693952 + 1152921504606846976 := by
    have := ok.x2
    have := ok.u2
    unfold levelR at el
    omega
  have hfit : y.any = true → fitR t y = true → l ≤ y.early := fun ha hf => by
    unfold fitR at hf
    rw [ha, el] at hf
    simpa using hf
  simp only [el] at hl
  by_cases hft : fitR t y = true
  · simp only [hft] at hf
    have c0 := h.c0
    have c2 := h.c2
    have c3 := h.c3
    have c4 := h.c4
    have ff := h.fr
    have hlt := h.lt
    have HF := Lib.hid hf
    have HL := Lib.hid hl
    have HX := Lib.hid (And.intro hft el)
    rw [hft]
    clear hf hl h ok el
    obtain ⟨a, ea⟩ : ∃ a, y.any = a := ⟨_, rfl⟩
    rw [ea] at c4
    cases a with
    | false =>
      have HA := Lib.hid ea
      clear ea hfit hft
      go_enter Try.func25, Try.ntmps25
      go_wp2_with fail
      refine (HF.out 0).mono ?_
      rintro e w2 ⟨rfl, n2, rfl⟩
      have f2 := ff 2
      have f3 := ff 3
      have f4 := ff 4
      go_wp2_with (go_at_call 23; refine (held_any _ _).mono ?_; rintro e w' ⟨rfl, rfl⟩)
      go_ret
      have e3 := HO.out.1.three (a := y.step) (b := held t) (below_drewN (Below.refl W.heap.size W) n2)
      have e4 : btakeR t y = { y with x := y.step, ut := held t, any := true } := by
        unfold btakeR tookR
        rw [if_pos HX.out.1, HA.out]
        simp
      rw [e4]
      exact ⟨rfl, e3⟩
    | true =>
      have hle := hfit ea hft
      have HA := Lib.hid ea
      clear ea hfit hft
      go_enter Try.func25, Try.ntmps25
      go_wp2_with fail
      refine (HF.out 0).mono ?_
      rintro e w2 ⟨rfl, n2, rfl⟩
      have f2 := ff 2
      have f3 := ff 3
      have f4 := ff 4
      go_wp2_with fail
      refine (HL.out _).mono ?_
      rintro e w3 ⟨rfl, n3, rfl⟩
      go_wp2_with (go_at_call 23; refine (held_any _ _).mono ?_; rintro e w' ⟨rfl, rfl⟩)
      go_ret
      have e3 := HO.out.1.three (a := max 0 l + y.step) (b := held t) (below_drewN (Below.refl W.heap.size W) (n2 + n3))
      have e4 : btakeR t y = { y with x := max 0 l + y.step, ut := held t, any := true } := by
        unfold btakeR tookR
        rw [if_pos HX.out.1, HA.out, HX.out.2]
        simp
      rw [e4]
      exact ⟨rfl, e3⟩
  · have hft' : fitR t y = false := by simpa using hft
    simp only [hft'] at hf
    have HF := Lib.hid hf
    have HX := Lib.hid hft'
    rw [hft']
    clear hf hl h ok el hft hft' hfit
    go_enter Try.func25, Try.ntmps25
    go_wp2_with fail
    refine (HF.out 0).mono ?_
    rintro e w2 ⟨rfl, n2, rfl⟩
    go_wp2_with fail
    go_ret
    have e4 : btakeR t y = y := by
      unfold btakeR
      rw [HX.out]
      rfl
    rw [e4]
    exact ⟨rfl, HO.out.1, Kept.of (below_drewN (Below.refl _ _) _)⟩

end Go.Proofs.Ytclplacjgofccaa.Rf
