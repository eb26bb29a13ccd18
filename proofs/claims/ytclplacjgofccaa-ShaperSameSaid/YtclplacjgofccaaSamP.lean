/- Plain laws for ShaperSame. -/
import Derived.Test.YtclplacjgofccaaFulP
import Derived.Test.YtclplacjgofccaaBp
namespace Go.Proofs.Ytclplacjgofccaa
open Go.RowKit Go.Sort Go.Shelf Go.Lib
set_option linter.unusedVariables false
set_option linter.unusedSimpArgs false
attribute [local go_sem ↓] Go.wp_at_zero Go.wp_at_succ

def fitP (t e nx : Int) (an : Bool) : Bool := !(an && decide (held t < nx - e))
theorem fitP_eq (t n e s q nx : Int) (an : Bool) (L : List Ch) : fitSh t ⟨n, e, s, q, nx, an, L⟩ = fitP t e nx an := rfl
def nxP (t n e nx : Int) (an : Bool) : Int := if fitP t e nx an then max nx (held t) + n else nx
theorem same_take {t n e s q nx : Int} {an : Bool} {L : List Ch} (h : comeF (held t) n L = n) : takeSh t ⟨n, e, s, q, nx, an, L⟩ = ⟨n, e, s, q, nxP t n e nx an, fitP t e nx an || an, leftF (held t) L⟩ := by
  unfold takeSh nxP
  rw [fitP_eq]
  unfold comeSh
  simp only [h]
  cases fitP t e nx an <;> simp

theorem set_empty {t s n e sl q nx : Int} {an : Bool} : setR t ⟨n, e, sl, q, nx, an, []⟩ = 0 ∧ setSh t s ⟨n, e, sl, q, nx, an, []⟩ = ⟨n, e, sl, q, nx, an, [(max 1 (held s), held t + if max 1 (held s) < n then q else sl)]⟩ := ⟨rfl, rfl⟩

/-- What b may have on its way, what c. -/
def okB (n : Int) (L : List Ch) : Prop := L = [] ∨ ∃ d, L = [(n, d)]
def okC (L : List Ch) : Prop := L = [] ∨ ∃ o d, L = [(o, d)] ∧ 1152921504606846976 ≤ d
theorem okB.come {n t : Int} {L : List Ch} (h : okB n L) : comeF t n L = n := by
  rcases h with rfl | ⟨d, rfl⟩
  · rfl
  · unfold comeF comeOne
    simp only [List.foldl_cons, List.foldl_nil]
    split <;> rfl
theorem okB.left {n t : Int} {L : List Ch} (h : okB n L) : okB n (leftF t L) := by
  rcases h with rfl | ⟨d, rfl⟩
  · exact .inl rfl
  · unfold leftF
    by_cases hd : t < d
    · exact .inr ⟨d, by simp [hd]⟩
    · exact .inl (by simp; omega)
theorem okC.ahead {t : Int} {L : List Ch} (h : okC L) (ht : t < 1152921504606846976) : ∀ c ∈ L, t < c.2 := by
  intro c hc
  rcases h with rfl | ⟨o, d, rfl, hd⟩
  · simp at hc
  · obtain rfl : c = (o, d) := by simpa using hc
    simp only
    omega

structure Three (w W : World) (pa pb pc : Nat) (xa xb xc : Sh) : Prop where
  a : St W w.heap.size pa xa
  b : St W w.heap.size pb xb
  c : St W w.heap.size pc xc
  bel : Below w.heap.size w W
  ha : w.heap.size ≤ pa
  hab : pa < pb
  hbc : pb < pc
section
variable {w W : World} {pa pb pc : Nat} {xa xb xc : Sh} (h : Three w W pa pb pc xa xb xc)
include h
theorem Three.takeA (t : Int) {r : Bool} {y : Sh} (hr : fitSh t xa = r) (hy : takeSh t xa = y) :
    Calls Try.prog 14 #[.pointer (some ⟨pa, 0, none⟩), .int .i64 t] W fun e w' => e = .returned (.bool r) ∧ Three w w' pa pb pc y xb xc := by
  refine (take_st t h.a).mono ?_
  rintro e w' ⟨rfl, h1, h2⟩
  have h3 := h.hab
  have h4 := h.hbc
  exact ⟨by rw [hr], by rw [← hy]; exact h1, h.b.kept h.a h2 (by omega), h.c.kept h.a h2 (by omega), below_kept h.bel h2 h.ha h.bel.size, h.ha, h3, h4⟩
theorem Three.takeB (t : Int) {r : Bool} {y : Sh} (hr : fitSh t xb = r) (hy : takeSh t xb = y) :
    Calls Try.prog 14 #[.pointer (some ⟨pb, 0, none⟩), .int .i64 t] W fun e w' => e = .returned (.bool r) ∧ Three w w' pa pb pc xa y xc := by
  refine (take_st t h.b).mono ?_
  rintro e w' ⟨rfl, h1, h2⟩
  have h3 := h.hab
  have h4 := h.hbc
  have h5 := h.ha
  exact ⟨by rw [hr], h.a.kept h.b h2 (by omega), by rw [← hy]; exact h1, h.c.kept h.b h2 (by omega), below_kept h.bel h2 (by omega) h.bel.size, h.ha, h3, h4⟩
theorem Three.takeC (t : Int) {r : Bool} {y : Sh} (hr : fitSh t xc = r) (hy : takeSh t xc = y) :
    Calls Try.prog 14 #[.pointer (some ⟨pc, 0, none⟩), .int .i64 t] W fun e w' => e = .returned (.bool r) ∧ Three w w' pa pb pc xa xb y := by
  refine (take_st t h.c).mono ?_
  rintro e w' ⟨rfl, h1, h2⟩
  have h3 := h.hab
  have h4 := h.hbc
  have h5 := h.ha
  exact ⟨by rw [hr], h.a.kept h.c h2 (by omega), h.b.kept h.c h2 (by omega), by rw [← hy]; exact h1, below_kept h.bel h2 (by omega) h.bel.size, h.ha, h3, h4⟩
theorem Three.setB (t s : Int) {r : Int} {y : Sh} (hr : setR t xb = r) (hy : setSh t s xb = y) :
    Calls Try.prog 12 #[.pointer (some ⟨pb, 0, none⟩), .int .i64 t, .int .i64 s] W fun e w' => e = .returned (.int .i64 r) ∧ Three w w' pa pb pc xa y xc := by
  refine (set_st t s h.b).mono ?_
  rintro e w' ⟨rfl, h1, h2⟩
  have h3 := h.hab
  have h4 := h.hbc
  have h5 := h.ha
  exact ⟨by rw [hr], h.a.kept h.b h2 (by omega), by rw [← hy]; exact h1, h.c.kept h.b h2 (by omega), below_kept h.bel h2 (by omega) h.bel.size, h.ha, h3, h4⟩
theorem Three.setC (t s : Int) {r : Int} {y : Sh} (hr : setR t xc = r) (hy : setSh t s xc = y) :
    Calls Try.prog 12 #[.pointer (some ⟨pc, 0, none⟩), .int .i64 t, .int .i64 s] W fun e w' => e = .returned (.int .i64 r) ∧ Three w w' pa pb pc xa xb y := by
  refine (set_st t s h.c).mono ?_
  rintro e w' ⟨rfl, h1, h2⟩
  have h3 := h.hab
  have h4 := h.hbc
  have h5 := h.ha
  exact ⟨by rw [hr], h.a.kept h.c h2 (by omega), h.b.kept h.c h2 (by omega), by rw [← hy]; exact h1, below_kept h.bel h2 (by omega) h.bel.size, h.ha, h3, h4⟩
end

/-- Behind k rounds. -/
def Rel3 (w : World) (pa pb pc : Nat) (n e s : Int) (z : Int) (k : Nat) (W : World) : Prop :=
  ∃ (nx : Int) (an : Bool) (Lb Lc : List Ch), Three w W pa pb pc ⟨n, e, s, s, nx, an, []⟩ ⟨n, e, s, s, nx, an, Lb⟩ ⟨n, e, 1152921504606846976, 1152921504606846976, nx, an, Lc⟩ ∧
    okB n Lb ∧ okC Lc ∧ ((k : Int) ≤ z → Lb = [] ∧ Lc = [])

end Go.Proofs.Ytclplacjgofccaa
