/- Plain laws for ShaperWindows. -/
import Derived.Test.YtclplacjgofccaaFulP
import Derived.Test.YtclplacjgofccaaBp
namespace Go.Proofs.Ytclplacjgofccaa
open Go.RowKit Go.Sort Go.Shelf Go.Lib
set_option linter.unusedVariables false
set_option linter.unusedSimpArgs false

/-- Behind the cells T, all taken, when no step was shorter than m. -/
structure Inv (m : Int) (x : Sh) (T : List Int) : Prop where
  m1 : 1 ≤ m
  m2 : m ≤ 65535
  st : m ≤ x.step
  ch : ∀ c ∈ x.L, m ≤ c.1
  an : x.any = false → T = []
  ahead : ∀ j : Nat, j < T.length → T[j]?.getD 0 + ((T.length : Int) - j) * m ≤ x.next
  far : ∀ i k : Nat, i ≤ k → k < T.length → ((k : Int) - i) * m ≤ T[k]?.getD 0 - T[i]?.getD 0 + x.early
  bd : ∀ j : Nat, 0 ≤ T[j]?.getD 0 ∧ T[j]?.getD 0 ≤ 1288490188500

theorem mul_le (a m m' : Int) (ha : 0 ≤ a) (h : m' ≤ m) : a * m' ≤ a * m := Int.mul_le_mul_of_nonneg_left h ha

theorem Inv.less {m m' : Int} {x : Sh} {T : List Int} (h : Inv m x T) (h1 : 1 ≤ m') (h2 : m' ≤ m) : Inv m' x T :=
  ⟨h1, Int.le_trans h2 h.m2, Int.le_trans h2 h.st, fun c hc => Int.le_trans h2 (h.ch c hc), h.an,
    fun j hj => by have := h.ahead j hj; have := mul_le ((T.length : Int) - j) m m' (by omega) h2; omega,
    fun i k hik hk => by have := h.far i k hik hk; have := mul_le ((k : Int) - i) m m' (by omega) h2; omega, h.bd⟩

theorem Inv.come {m : Int} {x : Sh} {T : List Int} (h : Inv m x T) (t : Int) : Inv m (comeSh t x) T :=
  ⟨h.m1, h.m2, comeF_P (fun s => m ≤ s) _ _ _ h.st h.ch, fun c hc => h.ch c (List.mem_filter.1 hc).1, h.an, h.ahead, h.far, h.bd⟩

/-- A step is set, all the same whether it is let in. -/
theorem Inv.set {m : Int} {x : Sh} {T : List Int} (h : Inv m x T) (t s : Int) (hs : 1 ≤ s ∧ s ≤ 65535) : (setR t x = 0 → Inv (min m s) (setSh t s x) T) ∧ (setR t x ≠ 0 → Inv m (setSh t s x) T) := by
  have h1 := h.m1
  unfold setR setSh
  split
  · exact ⟨fun e => absurd e (by decide), fun _ => h.come t⟩
  · refine ⟨fun _ => ?_, fun e => absurd rfl e⟩
    have hl := (h.come t).less (m' := min m s) (by omega) (by omega)
    refine ⟨hl.m1, hl.m2, hl.st, fun c hc => ?_, hl.an, hl.ahead, hl.far, hl.bd⟩
    rcases List.mem_append.1 hc with hc | hc
    · exact hl.ch c hc
    · obtain rfl : c = newCh t s x := by simpa using hc
      unfold newCh
      simp only
      have : held s = s := held_in (by omega)
      omega

theorem Inv.took {m : Int} {x : Sh} {T : List Int} (hx : OkSh x) (h : Inv m x T) {t : Int} (h0 : 0 ≤ t) (h1 : t ≤ 1288490188500) (hf : fitSh t x = true) : Inv m (takeSh t x) (T ++ [t]) := by
  have hc := h.come t
  have hm := h.m1
  have ht : held t = t := held_in (by omega)
  have hF : m ≤ comeF (held t) x.step x.L := hc.st
  have hfit : T ≠ [] → x.next - x.early ≤ t := by
    intro hT
    cases hxa : x.any with
    | false => exact absurd (h.an hxa) hT
    | true =>
      unfold fitSh at hf
      rw [hxa, ht] at hf
      simpa using hf
  have hlast : (T ++ [t])[T.length]?.getD 0 = t := by rw [List.getElem?_append_right (Nat.le_refl _)]; simp
  have hold' : ∀ j, j < T.length → (T ++ [t])[j]?.getD 0 = T[j]?.getD 0 := fun j hj => by rw [List.getElem?_append_left hj]
  have hy : takeSh t x = { comeSh t x with next := max x.next (held t) + comeF (held t) x.step x.L, any := true } := by
    unfold takeSh
    rw [if_pos hf]
  rw [hy]
  refine ⟨h.m1, h.m2, hc.st, hc.ch, fun e => by simp at e, fun j hj => ?_, fun i k hik hk => ?_, fun j => ?_⟩
  · simp only [List.length_append, List.length_cons, List.length_nil] at hj
    simp only
    rw [ht] at hF ⊢
    by_cases hjl : j < T.length
    · rw [hold' j hjl]
      have := h.ahead j hjl
      have e2 : (((T ++ [t]).length : Int) - j) * m = ((T.length : Int) - j) * m + m := by
        simp only [List.length_append, List.length_cons, List.length_nil]
        rw [show (((T.length + (0 + 1) : Nat) : Int) - j) = ((T.length : Int) - j) + 1 by omega, Int.add_mul, Int.one_mul]
      rw [e2]
      omega
    · obtain rfl : j = T.length := by omega
      rw [hlast]
      have e2 : (((T ++ [t]).length : Int) - (T.length : Nat)) * m = m := by
        simp only [List.length_append, List.length_cons, List.length_nil]
        rw [show (((T.length + (0 + 1) : Nat) : Int) - (T.length : Nat)) = 1 by omega, Int.one_mul]
      rw [e2]
      omega
  · simp only [List.length_append, List.length_cons, List.length_nil] at hk
    have ee : (comeSh t x).early = x.early := rfl
    simp only [ee]
    by_cases hkl : k < T.length
    · rw [hold' k hkl, hold' i (by omega)]
      exact h.far i k hik hkl
    · obtain rfl : k = T.length := by omega
      rw [hlast]
      by_cases hil : i < T.length
      · rw [hold' i hil]
        have := h.ahead i hil
        have := hfit (by intro e; rw [e] at hil; simp at hil)
        omega
      · obtain rfl : i = T.length := by omega
        rw [hlast]
        have := hx.e0
        simp
        omega
  · by_cases hjl : j < T.length
    · rw [hold' j hjl]; exact h.bd j
    · by_cases hj : j = T.length
      · subst hj; rw [hlast]; exact ⟨h0, h1⟩
      · rw [List.getElem?_eq_none (by simp; omega)]; simp

theorem Inv.not {m : Int} {x : Sh} {T : List Int} (h : Inv m x T) (t : Int) (hf : fitSh t x = false) : Inv m (takeSh t x) T := by
  unfold takeSh
  rw [hf]
  exact h.come t

theorem take_early (t : Int) (x : Sh) : (takeSh t x).early = x.early := by unfold takeSh; split <;> rfl
theorem set_early (t s : Int) (x : Sh) : (setSh t s x).early = x.early := by unfold setSh; split <;> rfl

theorem far_div {s d : Int} {i k : Nat} (hs : 1 ≤ s) (h : ((k : Int) - i) * s ≤ d) (hik : i ≤ k) : 0 ≤ d ∧ (k : Int) - i ≤ d / s := by
  refine ⟨?_, ?_⟩
  · have : 0 ≤ ((k : Int) - i) * s := Int.mul_nonneg (by omega) (by omega)
    omega
  · exact (Int.le_ediv_iff_mul_le (by omega)).2 h

/-- A row of numbers beside a shaper. -/
theorem row_kept {W W' : World} {B p : Nat} {v : Value} {T : List Int} {x : Sh} {B' : Nat} (h : Bu.Row W B v T) (hp : St W B' p x) (hk : Kept p W W') : Bu.Row W' B v T := by
  obtain ⟨u, g1, _, _⟩ := hp
  refine ⟨h.1, ?_⟩
  rcases h.2 with h2 | ⟨g, cap, cur, k1, k2, k3, k4⟩
  · exact .inl h2
  · have hne : g ≠ p := fun e => by
      subst e
      have h4 := g1.sh
      unfold HasSh at h4
      rw [k3] at h4
      simp at h4
    exact .inr ⟨g, cap, cur, k1, k2, (hk.block g (lt_of_block k3) hne).trans k3, k4⟩

theorem St.push {W W' : World} {B p : Nat} {v : Value} {T : List Int} {x : Sh} {B' : Nat} (h : St W B p x) (hr : Bu.Row W B' v T) (hg : W.grownBy W' v.ownBlock) : St W' B p x := by
  obtain ⟨u, h1, h2, h3⟩ := h
  rcases hr.2 with ⟨hv, _⟩ | ⟨g, cap, cur, k1, k2, k3, _⟩
  · rw [hv] at hg
    have hb : Below W.heap.size W W' := ⟨hg.os, hg.tape, hg.output, hg.size, fun k hk => hg.block k hk (by simp [Value.ownBlock])⟩
    exact ⟨u, h1.below hb, h2, Nat.le_trans h3 hb.size⟩
  · have hap := h1.row.apart k3 (by decide)
    have hpg : p ≠ g := fun e => by
      subst e
      have h4 := h1.sh
      unfold HasSh at h4
      rw [k3] at h4
      simp at h4
    rw [k1] at hg
    have hg' : W.grownBy W' (some g) := hg
    refine ⟨u, ⟨(hg'.block p h1.sh.lt (fun e => hpg (by simpa using e))).trans h1.sh, ?_, h1.l8, h1.at0⟩, h2, Nat.le_trans h3 hg.size⟩
    rcases h1.row with h | ⟨q1, q2, q3⟩
    · exact .inl h
    · refine .inr ⟨q1, q2, ?_⟩
      rcases q3 with q3 | ⟨g', cap', cur', q3, q4, q5, q6⟩
      · exact .inl q3
      · refine .inr ⟨g', cap', cur', q3, q4, ?_, q6⟩
        rw [hg'.block g' (lt_of_block q5) (fun e => hap (by rw [q3, show g = g' by simpa using e.symm]; rfl))]
        exact q5

end Go.Proofs.Ytclplacjgofccaa
