/- 'at' with and without changes. -/
import Derived.Test.YtclplacjgofccaaC
namespace Go.Proofs.Ytclplacjgofccaa
open Go.RowKit Go.Sort Go.Shelf Go.Lib
set_option linter.unusedVariables false
set_option linter.unusedSimpArgs false
attribute [local go_sem ↓] Go.wp_at_zero Go.wp_at_succ

theorem at_nil {W : World} {p : Nat} {x : Sh} (t : Int) (hp : HasSh W p (.slice none 0 0) x) :
    Calls Try.prog 24 #[.pointer (some ⟨p, 0, none⟩), .int .i64 t] W fun e w' => e = .returned (.tuple #[.int .i64 x.step, .slice none 0 0]) ∧ w' = W := by
  have h0c := hp.c0
  have h6c := hp.c6
  clear hp
  go_enter Try.func24, Try.ntmps24
  go_wp2_with fail
  go_step3
  go_wp2_with fail
  refine (clone_nil _).mono ?_
  rintro e w1 ⟨rfl, rfl⟩
  go_wp2_with fail
  refine (by_time_nil _).mono ?_
  rintro e w1 ⟨rfl, rfl⟩
  go_wp2_with fail
  go_loop [6, 26] (fun sv i => sv = .int .i64 x.step ∧ i = .int .i64 0) (fun _ _ => 0)
  case atStart => exact ⟨rfl, rfl⟩
  case round =>
    obtain ⟨rfl, rfl⟩ := hrel
    go_wp2_with fail
    go_step3
    go_wp2_with fail
    go_loop [7, 43] (fun sv i => sv = .slice none 0 0 ∧ i = .int .i64 0) (fun _ _ => 0)
    case atStart => exact ⟨rfl, rfl⟩
    case round =>
      obtain ⟨rfl, rfl⟩ := hrel
      go_wp2_with fail
      try rw [Exit.noGoto_ret]
      refine bodyPost_ret (v := .tuple #[.int .i64 x.step, .slice none 0 0]) (by simp [results, Try.results24, go_sem]) rfl ?_
      exact ⟨rfl, rfl⟩

theorem at_all {W : World} {B p : Nat} {v : Value} {x : Sh} (t : Int) (hp : HasSh W p v x) (hr : CRow W B v x.L) (h8 : x.L.length ≤ 8) (h0 : ∀ c ∈ x.L, 0 ≤ c.2) :
    Calls Try.prog 24 #[.pointer (some ⟨p, 0, none⟩), .int .i64 t] W fun e w' => ∃ v', e = .returned (.tuple #[.int .i64 (comeF (held t) x.step x.L), v']) ∧ CRow w' W.heap.size v' (leftF (held t) x.L) ∧ Below W.heap.size W w' := by
  by_cases hL : x.L = []
  · rcases hr with ⟨_, rfl⟩ | ⟨h, _⟩
    · refine (at_nil t hp).mono ?_
      rintro e w' ⟨rfl, rfl⟩
      rw [hL]
      exact ⟨_, rfl, .inl ⟨rfl, rfl⟩, Below.refl _ _⟩
    · exact absurd hL h
  · exact at_any t hp hr h8 h0 hL

end Go.Proofs.Ytclplacjgofccaa
