/- The contracts of Step, Waiting, New. -/
import Derived.Test.YtclplacjgofccaaD
namespace Go.Proofs.Ytclplacjgofccaa
open Go.RowKit Go.Sort Go.Shelf Go.Lib
set_option linter.unusedVariables false
set_option linter.unusedSimpArgs false
attribute [local go_sem ↓] Go.wp_at_zero Go.wp_at_succ

/-- A shaper that is as it may be. -/
structure Good (W : World) (B p : Nat) (x : Sh) (v : Value) : Prop where
  sh : HasSh W p v x
  row : CRow W B v x.L
  l8 : x.L.length ≤ 8
  at0 : ∀ c ∈ x.L, 0 ≤ c.2

theorem Good.below {W W' : World} {B p : Nat} {x : Sh} {v : Value} (h : Good W B p x v) (hb : Below W.heap.size W W') : Good W' B p x v := ⟨h.sh.below hb, h.row.below hb, h.l8, h.at0⟩

theorem step_any {W : World} {B p : Nat} {v : Value} {x : Sh} (t : Int) (h : Good W B p x v) :
    Calls Try.prog 18 #[.pointer (some ⟨p, 0, none⟩), .int .i64 t] W fun e w' => e = .returned (.int .i64 (comeF (held t) x.step x.L)) ∧ Below W.heap.size W w' := by
  have ha := at_all t h.sh h.row h.l8 h.at0
  clear h
  obtain ⟨F, eF⟩ : ∃ F, comeF (held t) x.step x.L = F := ⟨_, rfl⟩
  rw [eF]
  simp only [eF] at ha
  clear eF
  go_enter Try.func18, Try.ntmps18
  go_wp2_with fail
  refine ha.mono ?_
  rintro e w' ⟨v', rfl, _, hb⟩
  go_wp2_with fail
  go_ret
  exact ⟨rfl, hb⟩

theorem step_nil (t : Int) (W : World) : Calls Try.prog 18 #[.pointer none, .int .i64 t] W fun e w' => e = .returned (.int .i64 0) ∧ w' = W := by
  go_enter Try.func18, Try.ntmps18
  go_wp2_with fail
  go_ret
  exact ⟨rfl, rfl⟩

theorem waiting_any {W : World} {B p : Nat} {v : Value} {x : Sh} (h : Good W B p x v) :
    Calls Try.prog 17 #[.pointer (some ⟨p, 0, none⟩)] W fun e w' => e = .returned (.int .i64 x.L.length) ∧ w' = W := by
  obtain ⟨A, c, rfl, _⟩ := h.row.rd
  have h6 := h.sh.c6
  clear h
  go_enter Try.func17, Try.ntmps17
  go_wp2_with fail
  go_ret
  exact ⟨rfl, rfl⟩

theorem waiting_nil (W : World) : Calls Try.prog 17 #[.pointer none] W fun e w' => e = .returned (.int .i64 0) ∧ w' = W := by
  go_enter Try.func17, Try.ntmps17
  go_wp2_with fail
  go_ret
  exact ⟨rfl, rfl⟩

def newSh (step early slow quick : Int) : Sh := ⟨max 1 (held step), held early, held slow, min (held quick) (held slow), 0, false, []⟩

theorem new_any (step early slow quick : Int) (W : World) : Calls Try.prog 10 #[.int .i64 step, .int .i64 early, .int .i64 slow, .int .i64 quick] W fun e w' => ∃ p, e = .returned (.pointer (some ⟨p, 0, none⟩)) ∧ W.heap.size ≤ p ∧ Good w' W.heap.size p (newSh step early slow quick) (.slice none 0 0) ∧ Below W.heap.size W w' := by
  go_enter Try.func10, Try.ntmps10
  go_wp2_with (go_at_call 21; refine (held_any _ _).mono ?_; rintro e w' ⟨rfl, rfl⟩)
  go_ret
  exact ⟨_, rfl, Nat.le_refl _, ⟨heap_alloc_new _ _, .inl ⟨rfl, rfl⟩, by simp [newSh], by simp [newSh]⟩, (Below.refl _ _).alloc (Nat.le_refl _) _⟩

theorem CRow.mono {W : World} {B B' : Nat} {v : Value} {L : List Ch} (h : CRow W B v L) (hb : B' ≤ B) : CRow W B' v L := by
  rcases h with h | ⟨h1, h2, h3⟩
  · exact .inl h
  · refine .inr ⟨h1, h2, ?_⟩
    rcases h3 with h3 | ⟨g, cap, cur, k1, k2, k3⟩
    · exact .inl h3
    · exact .inr ⟨g, cap, cur, k1, Nat.le_trans hb k2, k3⟩

end Go.Proofs.Ytclplacjgofccaa
