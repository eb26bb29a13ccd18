/- The contracts of the reference's small functions. -/
import Derived.Test.YtclplacjgofccaaRr
namespace Go.Proofs.Ytclplacjgofccaa.Rf
open Go.RowKit Go.Sort Go.Shelf Go.Lib
set_option linter.unusedVariables false
set_option linter.unusedSimpArgs false
attribute [local go_sem ↓] Go.wp_at_zero Go.wp_at_succ

theorem held_any (n : Int) (w : World) : Calls Try.prog 23 #[.int .i64 n] w fun e w' => e = .returned (.int .i64 (held n)) ∧ w' = w := by
  have hk : ∀ r : Int, r = max 0 (min n 1152921504606846976) → Ending.returned (.int .i64 r) = .returned (.int .i64 (held n)) := fun r h => by rw [h]; rfl
  go_enter Try.func23, Try.ntmps23
  go_wp2
  all_goals
    go_ret
    exact ⟨hk _ (by omega), rfl⟩

/-- The reference's shaper. -/
structure Re where
  step : Int
  early : Int
  x : Int
  ut : Int
  any : Bool
  slow : Int
  quick : Int
  L : List Ch

def HasR (W : World) (p : Nat) (v : Value) (y : Re) : Prop := W.heap[p]? = some (.cells #[.int .i64 y.step, .int .i64 y.early, .int .i64 y.x, .int .i64 y.ut, .bool y.any, .int .i64 y.slow, .int .i64 y.quick, v] 41 (0, 0))
section
variable {W : World} {p : Nat} {v : Value} {y : Re} (h : HasR W p v y)
include h
theorem HasR.c0 : W.cell? ⟨p, 0, none⟩ = some (.int .i64 y.step) := by unfold HasR at h; simp [World.cell?, h]
theorem HasR.c1 : W.cell? ⟨p, 1, none⟩ = some (.int .i64 y.early) := by unfold HasR at h; simp [World.cell?, h]
theorem HasR.c2 : W.cell? ⟨p, 2, none⟩ = some (.int .i64 y.x) := by unfold HasR at h; simp [World.cell?, h]
theorem HasR.c3 : W.cell? ⟨p, 3, none⟩ = some (.int .i64 y.ut) := by unfold HasR at h; simp [World.cell?, h]
theorem HasR.c4 : W.cell? ⟨p, 4, none⟩ = some (.bool y.any) := by unfold HasR at h; simp [World.cell?, h]
theorem HasR.c5 : W.cell? ⟨p, 5, none⟩ = some (.int .i64 y.slow) := by unfold HasR at h; simp [World.cell?, h]
theorem HasR.c6 : W.cell? ⟨p, 6, none⟩ = some (.int .i64 y.quick) := by unfold HasR at h; simp [World.cell?, h]
theorem HasR.c7 : W.cell? ⟨p, 7, none⟩ = some v := by unfold HasR at h; simp [World.cell?, h]
theorem HasR.fr (o : Nat) : W.frozen? ⟨p, o, none⟩ = false := by unfold HasR at h; simp [World.frozen?, h]
theorem HasR.lt : p < W.heap.size := lt_of_block h
end
theorem HasR.below {W W' : World} {p : Nat} {v : Value} {y : Re} (h : HasR W p v y) (hb : Below W.heap.size W W') : HasR W' p v y := (hb.block p h.lt).trans h
theorem HasR.drewN {W : World} {p : Nat} {v : Value} {y : Re} (h : HasR W p v y) (n : Nat) : HasR (W.drewN n) p v y := h

/-- The bucket's numbers are as they may be. -/
structure OkR (y : Re) : Prop where
  s1 : 1 ≤ y.step
  s2 : y.step ≤ 1152921504606846976
  e0 : 0 ≤ y.early
  e2 : y.early ≤ 1152921504606846976
  x0 : 0 ≤ y.x
  x2 : y.x ≤ 2305843009213693952
  u0 : 0 ≤ y.ut
  u2 : y.ut ≤ 1152921504606846976

def levelR (t : Int) (y : Re) : Int := y.x - (held t - y.ut)
def fitR (t : Int) (y : Re) : Bool := !y.any || decide (levelR t y ≤ y.early)
def tookR (t : Int) (y : Re) : Re := { y with x := (if y.any then max 0 (levelR t y) else 0) + y.step, ut := held t, any := true }
def btakeR (t : Int) (y : Re) : Re := if fitR t y then tookR t y else y

theorem level_any {W : World} {p : Nat} {v : Value} {y : Re} (t : Int) (h : HasR W p v y) (ok : OkR y) :
    Calls Try.prog 33 #[.pointer (some ⟨p, 0, none⟩), .int .i64 t] W fun e w' => e = .returned (.int .i64 (levelR t y)) ∧ ∃ n, w' = W.drewN n := by
  have c2 := h.c2
  have c3 := h.c3
  have hb := held_bd t
  have k1 := ok.x0
  have k2 := ok.x2
  have k3 := ok.u0
  have k4 := ok.u2
  unfold levelR
  clear h ok
  go_enter Try.func33, Try.ntmps33
  go_wp2
  go_quiet ((go_at_call 23; exact Calls.quiet_of_same (held_any _ _)))
  go_wp2
  go_ret
  exact ⟨rfl, _, rfl⟩

theorem fits_any {W : World} {p : Nat} {v : Value} {y : Re} (t : Int) (h : HasR W p v y) (ok : OkR y) :
    Calls Try.prog 32 #[.pointer (some ⟨p, 0, none⟩), .int .i64 t] W fun e w' => e = .returned (.bool (fitR t y)) ∧ ∃ n, w' = W.drewN n := by
  have c1 := h.c1
  have c4 := h.c4
  have hl := fun n => level_any t (h.drewN n) ok
  unfold fitR
  obtain ⟨l, el⟩ : ∃ l, levelR t y = l := ⟨_, rfl⟩
  rw [el]
  simp only [el] at hl
  have HL := Lib.hid hl
  clear el hl h
  obtain ⟨a, ea⟩ : ∃ a, y.any = a := ⟨_, rfl⟩
  rw [ea] at c4 ⊢
  clear ea
  cases a
  · go_enter Try.func32, Try.ntmps32
    go_wp2
    go_quiet ((go_at_call 33; exact HL.out _))
    go_wp2
    go_ret
    exact ⟨rfl, _, rfl⟩
  · go_enter Try.func32, Try.ntmps32
    go_wp2
    go_quiet ((go_at_call 33; exact Calls.quiet_of (HL.out _)))
    go_wp2
    go_ret
    exact ⟨rfl, _, rfl⟩

end Go.Proofs.Ytclplacjgofccaa.Rf
