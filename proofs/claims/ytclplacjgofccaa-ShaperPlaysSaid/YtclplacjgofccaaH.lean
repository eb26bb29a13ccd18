/- Plain laws of a shaper's state. -/
import Derived.Test.YtclplacjgofccaaG
namespace Go.Proofs.Ytclplacjgofccaa
open Go.RowKit Go.Sort Go.Shelf Go.Lib
set_option linter.unusedVariables false
set_option linter.unusedSimpArgs false

theorem come_P (p : Int → Prop) (t : Int) : ∀ (L : List Ch) (r : Ch), p r.1 → (∀ c ∈ L, p c.1) → p (L.foldl (comeOne t) r).1
  | [], r, hr, _ => hr
  | c :: L, r, hr, hL => by
    rw [List.foldl_cons]
    refine come_P p t L _ ?_ (fun d hd => hL d (by simp [hd]))
    unfold comeOne
    split
    · exact hL c (by simp)
    · exact hr
theorem comeF_P (p : Int → Prop) (t s : Int) (L : List Ch) (hs : p s) (hL : ∀ c ∈ L, p c.1) : p (comeF t s L) := come_P p t L _ hs hL

/-- A shaper's numbers are as they may be. -/
structure OkSh (x : Sh) : Prop where
  s1 : 1 ≤ x.step
  s2 : x.step ≤ 1152921504606846976
  e0 : 0 ≤ x.early
  e2 : x.early ≤ 1152921504606846976
  l0 : 0 ≤ x.slow
  l2 : x.slow ≤ 1152921504606846976
  q0 : 0 ≤ x.quick
  q2 : x.quick ≤ 1152921504606846976
  n0 : 0 ≤ x.next
  n2 : x.next ≤ 3458764513820540928
  an : x.any = false → x.next = 0
  ch : ∀ c ∈ x.L, 1 ≤ c.1 ∧ c.1 ≤ 1152921504606846976
  ct : ∀ c ∈ x.L, 0 ≤ c.2 ∧ c.2 ≤ 2305843009213693952

theorem OkSh.new (step early slow quick : Int) : OkSh (newSh step early slow quick) := by
  constructor <;> simp only [newSh, held] <;> first | omega | (intro; trivial) | (intro c hc; simp at hc)

theorem OkSh.come {x : Sh} (h : OkSh x) (t : Int) : 1 ≤ comeF (held t) x.step x.L ∧ comeF (held t) x.step x.L ≤ 1152921504606846976 :=
  comeF_P (fun s => 1 ≤ s ∧ s ≤ 1152921504606846976) _ _ _ ⟨h.s1, h.s2⟩ h.ch

theorem OkSh.comeSh {x : Sh} (h : OkSh x) (t : Int) : OkSh (comeSh t x) :=
  ⟨(h.come t).1, (h.come t).2, h.e0, h.e2, h.l0, h.l2, h.q0, h.q2, h.n0, h.n2, h.an, fun c hc => h.ch c (List.mem_filter.1 hc).1, fun c hc => h.ct c (List.mem_filter.1 hc).1⟩

theorem OkSh.took {x : Sh} (h : OkSh x) (t : Int) : OkSh (takeSh t x) := by
  have hc := h.comeSh t
  unfold takeSh
  split
  · rename_i hf
    have hh := held_bd t
    have h0 := h.n0
    have h1 := h.n2
    have he := h.e2
    have hm : x.next ≤ 2305843009213693952 := by
      unfold fitSh at hf
      cases ha : x.any with
      | false => rw [h.an ha]; omega
      | true =>
        rw [ha] at hf
        simp at hf
        omega
    have hF := h.come t
    refine ⟨hc.s1, hc.s2, hc.e0, hc.e2, hc.l0, hc.l2, hc.q0, hc.q2, ?_, ?_, ?_, hc.ch, hc.ct⟩ <;> simp only
    · omega
    · omega
    · intro e; cases e
  · exact hc

theorem last_P (p : Int → Prop) (x : Sh) (hs : p x.step) (hL : ∀ c ∈ x.L, p c.1) : p (lastSet x) := by
  unfold lastSet
  cases hl : x.L.getLast? with
  | none => exact hs
  | some c => exact hL c (List.mem_of_getLast? hl)

theorem newCh_bd {x : Sh} (h : OkSh x) (t s : Int) : (1 ≤ (newCh t s x).1 ∧ (newCh t s x).1 ≤ 1152921504606846976) ∧ 0 ≤ (newCh t s x).2 ∧ (newCh t s x).2 ≤ 2305843009213693952 := by
  have := held_bd t
  have := held_bd s
  have := h.l0
  have := h.l2
  have := h.q0
  have := h.q2
  unfold newCh
  refine ⟨by simp only; omega, ?_⟩
  simp only
  split <;> omega

theorem OkSh.set {x : Sh} (h : OkSh x) (t s : Int) : OkSh (setSh t s x) := by
  have hc := h.comeSh t
  have hn := newCh_bd h t s
  unfold setSh
  split
  · exact hc
  · exact ⟨hc.s1, hc.s2, hc.e0, hc.e2, hc.l0, hc.l2, hc.q0, hc.q2, hc.n0, hc.n2, hc.an,
      fun c hm => by
        rcases List.mem_append.1 hm with hm | hm
        · exact hc.ch c hm
        · obtain rfl : c = newCh t s x := by simpa using hm
          exact hn.1,
      fun c hm => by
        rcases List.mem_append.1 hm with hm | hm
        · exact hc.ct c hm
        · obtain rfl : c = newCh t s x := by simpa using hm
          exact hn.2⟩

end Go.Proofs.Ytclplacjgofccaa
