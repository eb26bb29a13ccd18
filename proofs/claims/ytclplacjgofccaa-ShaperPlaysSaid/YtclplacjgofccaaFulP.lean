/- Plain laws for ShaperFull. -/
import Derived.Test.YtclplacjgofccaaLagW
namespace Go.Proofs.Ytclplacjgofccaa
open Go.RowKit Go.Sort Go.Shelf Go.Lib
set_option linter.unusedVariables false
set_option linter.unusedSimpArgs false
attribute [local go_sem ↓] Go.wp_at_zero Go.wp_at_succ

theorem come_ahead (t s : Int) : ∀ (L : List Ch) (r : Ch), (∀ c ∈ L, t < c.2) → L.foldl (comeOne t) r = r
  | [], r, _ => rfl
  | c :: L, r, h => by
    have h0 := h c (by simp)
    rw [List.foldl_cons, show comeOne t r c = r by unfold comeOne; rw [if_neg (by omega)]]
    exact come_ahead t s L r (fun d hd => h d (by simp [hd]))
theorem comeF_ahead {t s : Int} {L : List Ch} (h : ∀ c ∈ L, t < c.2) : comeF t s L = s := by unfold comeF; rw [come_ahead t s L _ h]
theorem leftF_ahead {t : Int} {L : List Ch} (h : ∀ c ∈ L, t < c.2) : leftF t L = L := by
  unfold leftF
  rw [List.filter_eq_self]
  intro c hc
  simpa using h c hc
theorem leftF_come {t : Int} {L : List Ch} (h : ∀ c ∈ L, c.2 ≤ t) : leftF t L = [] := by
  unfold leftF
  rw [List.filter_eq_nil_iff]
  intro c hc
  have := h c hc
  simp; omega
theorem come_max (t d : Int) : ∀ (L : List Ch) (r : Ch), r.2 ≤ d → (∀ c ∈ L, c.2 ≤ d) → (L.foldl (comeOne t) r).2 ≤ d
  | [], r, hr, _ => hr
  | c :: L, r, hr, h => by
    rw [List.foldl_cons]
    refine come_max t d L _ ?_ (fun x hx => h x (by simp [hx]))
    unfold comeOne
    split
    · exact h c (by simp)
    · exact hr
theorem comeF_snoc {t s : Int} {L : List Ch} {c : Ch} (h0 : 0 ≤ c.2) (ht : c.2 ≤ t) (h : ∀ x ∈ L, x.2 ≤ c.2) : comeF t s (L ++ [c]) = c.1 := by
  unfold comeF
  rw [List.foldl_append, List.foldl_cons, List.foldl_nil]
  have := come_max t c.2 L (s, -1) (by simp only; omega) h
  unfold comeOne at this ⊢
  rw [if_pos ⟨ht, this⟩]

/-- The changes behind k rounds. -/
def fulL (z : Nat → Int) (d : Int) (k : Nat) : List Ch := (List.range k).map fun j => (1 + z j, d)
theorem fulL_len (z : Nat → Int) (d : Int) (k : Nat) : (fulL z d k).length = k := by simp [fulL]
theorem fulL_succ (z : Nat → Int) (d : Int) (k : Nat) : fulL z d (k + 1) = fulL z d k ++ [(1 + z k, d)] := by simp [fulL, List.range_succ]
theorem fulL_at {z : Nat → Int} {d : Int} {k : Nat} : ∀ c ∈ fulL z d k, c.2 = d := by
  intro c hc
  simp [fulL] at hc
  obtain ⟨_, _, rfl⟩ := hc
  rfl
def fulS (z : Nat → Int) (t lag : Int) (k : Nat) : Sh := ⟨300, 0, lag, lag, 0, false, fulL z (t + lag) k⟩

theorem ful_new {lag : Int} (h : 1 ≤ lag ∧ lag ≤ 65536) (z : Nat → Int) (t : Int) : newSh 300 0 lag lag = fulS z t lag 0 := by
  unfold newSh fulS
  rw [held_in (by omega), held_in (by omega), held_in (by omega), show max 1 (300 : Int) = 300 by omega, show min lag lag = lag by omega]
  rfl

theorem ful_come {z : Nat → Int} {t lag : Int} (ht : 0 ≤ t ∧ t ≤ 65535) (h : 1 ≤ lag ∧ lag ≤ 65536) (k : Nat) : comeSh t (fulS z t lag k) = fulS z t lag k := by
  have e : ∀ c ∈ fulL z (t + lag) k, t < c.2 := fun c hc => by have := fulL_at c hc; omega
  unfold comeSh
  simp only [fulS, held_in (show 0 ≤ t ∧ t ≤ 1152921504606846976 by omega), comeF_ahead e, leftF_ahead e]

theorem ful_set {z : Nat → Int} {t lag : Int} (ht : 0 ≤ t ∧ t ≤ 65535) (h : 1 ≤ lag ∧ lag ≤ 65536) (hz : ∀ j, 0 ≤ z j ∧ z j ≤ 255) (k : Nat) :
    (k < 8 → setR t (fulS z t lag k) = 0 ∧ setSh t (1 + z k) (fulS z t lag k) = fulS z t lag (k + 1)) ∧
    (setR t (fulS z t lag 8) = 9 ∧ ∀ s, setSh t s (fulS z t lag 8) = fulS z t lag 8) := by
  have hk := hz k
  unfold setR setSh newCh
  rw [ful_come ht h, ful_come ht h, held_in (show 0 ≤ t ∧ t ≤ 1152921504606846976 by omega), held_in (show 0 ≤ 1 + z k ∧ 1 + z k ≤ 1152921504606846976 by omega), show max 1 (1 + z k) = 1 + z k by omega]
  have e1 : (fulS z t lag k).L.length = k := fulL_len _ _ _
  have e8 : (fulS z t lag 8).L.length = 8 := fulL_len _ _ _
  rw [e1, e8]
  refine ⟨fun hlt => ?_, by simp⟩
  rw [if_neg (by omega), if_neg (by omega)]
  refine ⟨rfl, ?_⟩
  have e2 : (fulS z t lag k).quick = lag := rfl
  have e3 : (fulS z t lag k).slow = lag := rfl
  rw [e2, e3, ite_self]
  show _ = Sh.mk _ _ _ _ _ _ (fulL z (t + lag) (k + 1))
  rw [fulL_succ]
  rfl

theorem ful_all {z : Nat → Int} {t lag : Int} (ht : 0 ≤ t ∧ t ≤ 65535) (h : 1 ≤ lag ∧ lag ≤ 65536) (hz : ∀ j, 0 ≤ z j ∧ z j ≤ 255) :
    comeF (held (t + lag)) (fulS z t lag 8).step (fulS z t lag 8).L = 1 + z 7 ∧ setR (t + lag) (fulS z t lag 8) = 0 ∧ (setSh (t + lag) (1 + z 8) (fulS z t lag 8)).L.length = 1 := by
  have hd : held (t + lag) = t + lag := held_in (by omega)
  have e : ∀ c ∈ fulL z (t + lag) 8, c.2 ≤ t + lag := fun c hc => by have := fulL_at c hc; omega
  have hl : leftF (held (t + lag)) (fulS z t lag 8).L = [] := by rw [hd]; exact leftF_come e
  have hc : (comeSh (t + lag) (fulS z t lag 8)).L = [] := hl
  refine ⟨?_, ?_, ?_⟩
  · rw [hd]
    show comeF _ _ (fulL z (t + lag) 8) = _
    rw [fulL_succ]
    exact comeF_snoc (by simp only; omega) (by simp only; omega) (fun c hc => by have := fulL_at c hc; simp only; omega)
  · unfold setR
    rw [hc]
    rfl
  · unfold setSh
    rw [hc]
    rfl

end Go.Proofs.Ytclplacjgofccaa
