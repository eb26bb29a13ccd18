/- The reference's New, Book, Free, Change. -/
import Derived.Test.YthgjccbmfbileaaRd
import Derived.Test.YthgjccbmfbileaaOrdW
namespace Go.Proofs.Ythgjccbmfbileaa.Rf
open Go.RowKit Go.Maps
set_option linter.unusedVariables false
set_option linter.unusedSimpArgs false
attribute [local go_sem ↓] Go.wp_at_zero Go.wp_at_succ

/-- The reference's ledger, whole. -/
def Has (W : World) (B q : Nat) (x : Lg) : Prop := ∃ v, HasF W q x.room v ∧ ERow W B v x.L

/-- Block q may have turned, and there may be new ones. -/
structure Kp1 (q : Nat) (w w' : World) : Prop where
  os : w'.os = w.os
  tape : w'.tape = w.tape
  output : w'.output = w.output
  size : w.heap.size ≤ w'.heap.size
  block : ∀ k, k < w.heap.size → k ≠ q → w'.heap[k]? = w.heap[k]?
theorem Kp1.of {q : Nat} {w w' : World} (h : Below w.heap.size w w') : Kp1 q w w' := ⟨h.os, h.tape, h.output, h.size, fun k hk _ => h.block k hk⟩
theorem Kp1.set {q : Nat} {w w' : World} (h : Kp1 q w w') (o : Nat) (v : Value) : Kp1 q w (w'.setCell ⟨q, o, none⟩ v) :=
  ⟨h.os, h.tape, h.output, by have := h.size; simp [World.setCell]; omega, fun k hk hp => (Below.heap_setCell _ _ _ _ hp).trans (h.block k hk hp)⟩

theorem stored {W w1 : World} {q : Nat} {room : Int} {v u : Value} {L : Ent} (h : HasF W q room v) (hb : Below W.heap.size W w1) (hr : ERow w1 W.heap.size u L) :
    HasF (w1.setCell ⟨q, 1, none⟩ u) q room u ∧ ERow (w1.setCell ⟨q, 1, none⟩ u) W.heap.size u L ∧ Kp1 q W (w1.setCell ⟨q, 1, none⟩ u) := by
  have h1 := h.below hb
  refine ⟨?_, ⟨hr.1, ?_⟩, (Kp1.of hb).set 1 _⟩
  · unfold HasF at h1 ⊢
    rw [heap_set h1]
    rfl
  · rcases hr.2 with h2 | ⟨g, cap, cur, k1, k2, k3, k4⟩
    · exact .inl h2
    · refine .inr ⟨g, cap, cur, k1, k2, ?_, k4⟩
      rw [Below.heap_setCell _ _ _ _ (fun e => by
        subst e
        unfold HasF at h1
        rw [h1] at k3
        simp at k3)]
      exact k3

theorem rnew_any (room : Int) (W : World) : Calls Try.prog 17 #[.int .i64 room] W fun e w' => e = .returned (.pointer (some ⟨W.heap.size, 0, none⟩)) ∧ Has w' W.heap.size W.heap.size ⟨max 0 (min room 1152921504606846976), []⟩ ∧ Below W.heap.size W w' := by
  have hk : ∀ r : Int, r = max 0 (min room 1152921504606846976) → Has (W.alloc (.cells #[.int .i64 r, .slice none 0 0] 46)) W.heap.size W.heap.size ⟨max 0 (min room 1152921504606846976), []⟩ := fun r h => by
    rw [← h]
    exact ⟨.slice none 0 0, heap_alloc_new _ _, World.ownsRow_nil _ _ _ _⟩
  go_enter Try.func17, Try.ntmps17
  go_wp2
  all_goals
    go_ret
    exact ⟨rfl, hk _ (by omega), (Below.refl _ _).alloc (Nat.le_refl _) _⟩

set_option maxHeartbeats 1600000 in
theorem rbook_any {W : World} {B q : Nat} {x : Lg} (id need : Int) (h : Has W B q x) (hB : B ≤ W.heap.size) (hx : x.Ok) (hlen : x.L.length ≤ 100000) :
    Calls Try.prog 18 #[.pointer (some ⟨q, 0, none⟩), .int .i64 id, .int .i64 need] W fun e w' => e = .returned (.int .i64 (bookE x id need)) ∧ Has w' B q (bookS x id need) ∧ Kp1 q W w' := by
  obtain ⟨v0, hF, hrow⟩ := h
  obtain ⟨A, c, ev, hr2, hcap, hmx⟩ := row2_of hrow
  subst ev
  have c0 := hF.c0
  have c1 := hF.c1
  have hfr := hF.fr 1
  have ha := at_any id hF hr2.rd hlen
  have hu := fun n => used_any (hF.drewN n) (W := W.drewN n) (by
    rcases hr2.rd with h | ⟨b, h1, h2, h3⟩
    · exact .inl h
    · exact .inr ⟨b, h1, h2, h3⟩) hlen hx.nn (Int.le_trans hx.le hx.r1)
  have ht := tot_bd hx
  have hr0 := hx.r0
  have hr1 := hx.r1
  have HH := Lib.hid (And.intro hF (And.intro hrow (And.intro hr2 (And.intro hcap hmx))))
  have HA := Lib.hid ha
  have HU := Lib.hid hu
  have HX := Lib.hid hx
  clear hF hrow hr2 ha hu hx
  by_cases hneg : need < 0
  · have e1 : bookE x id need = 1 := by unfold bookE; rw [if_pos hneg]
    have e2 : bookS x id need = x := by unfold bookS; rw [if_neg (by rw [e1]; decide)]
    rw [e1, e2]
    clear e1 e2
    go_enter Try.func18, Try.ntmps18
    go_wp2_with fail
    go_ret
    exact ⟨rfl, ⟨_, HH.out.1, HH.out.2.1⟩, Kp1.of (Below.refl _ _)⟩
  · obtain ⟨r, er⟩ : ∃ r, bookE x id need = r := ⟨_, rfl⟩
    obtain ⟨y, ey⟩ : ∃ y, bookS x id need = y := ⟨_, rfl⟩
    rw [er, ey]
    have HR := Lib.hid (And.intro er ey)
    clear er ey
    go_enter Try.func18, Try.ntmps18
    go_wp2_with fail
    refine HA.out.mono ?_
    rintro e w1 ⟨rfl, (⟨hn, rfl⟩ | ⟨i, hi, hid, hl, rfl⟩)⟩
    · obtain ⟨t, et⟩ : ∃ t, tot x.L = t := ⟨_, rfl⟩
      obtain ⟨rm, erm⟩ : ∃ rm, x.room = rm := ⟨_, rfl⟩
      have hu := HU.out
      rw [et] at ht
      simp only [et] at hu
      rw [erm] at hr0 hr1 c0
      have HU' := Lib.hid (fun n => hu n)
      have HN := Lib.hid (And.intro hn (And.intro et erm))
      clear hn et erm hu
      by_cases h9 : rm - t < need
      · have e9 : r = 9 := by
          rw [← HR.out.1]
          unfold bookE
          rw [if_neg (Int.not_lt.2 hneg), HN.out.1, HN.out.2.1, HN.out.2.2, if_neg (by simp), if_pos h9]
        have ey : y = x := by
          rw [← HR.out.2]; unfold bookS; rw [if_neg (by rw [HR.out.1, e9]; decide)]
        subst e9
        have EY := Lib.hid ey
        clear ey
        go_wp2_with fail
        go_quiet ((go_at_call 24; exact Calls.quiet_of (HU'.out _)))
        go_wp2_with fail
        go_ret
        refine ⟨rfl, ?_, Kp1.of (below_drewN (Below.refl _ _) _)⟩
        rw [EY.out]
        obtain ⟨k1, k2, _⟩ := HH.out
        exact ⟨_, k1.drewN _, row_below k2 (below_drewN (Below.refl _ _) _)⟩
      · have e0 : r = 0 := by
          rw [← HR.out.1]
          unfold bookE
          rw [if_neg (Int.not_lt.2 hneg), HN.out.1, HN.out.2.1, HN.out.2.2, if_neg (by simp), if_neg h9]
        have ey : y = ⟨x.room, ins id need x.L⟩ := by
          rw [← HR.out.2]; unfold bookS; rw [if_pos (by rw [HR.out.1, e0])]
        subst e0
        have EY := Lib.hid ey
        clear ey
        go_wp2_with fail
        go_quiet ((go_at_call 24; exact Calls.quiet_of (HU'.out _)))
        have hr2' : Row2 (w1.drewN nq) A c x.L := by
          rcases HH.out.2.2.1 with h | ⟨b, h1, h2, h3⟩
          · exact .inl h
          · exact .inr ⟨b, h1, h2, h3⟩
        have HWi := Lib.hid (with_any id need hr2' HX.out.so HN.out.1 hlen HH.out.2.2.2.1 HH.out.2.2.2.2)
        clear hr2'
        go_wp2_with fail
        refine HWi.out.mono ?_
        rintro e w3 ⟨u, rfl, hrow3, hb3⟩
        obtain ⟨A3, c3, ev3, _⟩ := row2_of hrow3
        obtain ⟨N3, eN3⟩ : ∃ N3, (ins id need x.L).length = N3 := ⟨_, rfl⟩
        rw [eN3] at ev3
        subst ev3
        have hF3 := (HH.out.1.drewN nq).below hb3
        have k1 := hF3.c1
        have kf := hF3.fr 1
        have HS := Lib.hid (stored (HH.out.1.drewN nq) hb3 hrow3)
        have HB3 := Lib.hid hb3
        clear hF3 hrow3 hb3 eN3
        go_wp2_with fail
        go_ret
        refine ⟨rfl, ?_, ?_⟩
        · rw [EY.out]
          exact ⟨_, HS.out.1, ⟨HS.out.2.1.1, by
            rcases HS.out.2.1.2 with h | ⟨g, cap, cur, k1, k2, k3⟩
            · exact .inl h
            · exact .inr ⟨g, cap, cur, k1, Nat.le_trans hB k2, k3⟩⟩⟩
        · have hk := HS.out.2.2
          exact ⟨hk.os, hk.tape, hk.output, hk.size, hk.block⟩
    · have e7 : r = 7 := by
        rw [← HR.out.1]
        unfold bookE
        rw [if_neg (Int.not_lt.2 hneg), hl, if_pos (by rfl)]
      have ey : y = x := by
        rw [← HR.out.2]; unfold bookS; rw [if_neg (by rw [HR.out.1, e7]; decide)]
      subst e7
      have EY := Lib.hid ey
      clear ey hl hid
      have hi0 : (0 : Int) ≤ (i : Int) := Int.natCast_nonneg _
      go_wp2_with fail
      go_ret
      refine ⟨rfl, ?_, Kp1.of (Below.refl _ _)⟩
      rw [EY.out]
      exact ⟨_, HH.out.1, HH.out.2.1⟩

end Go.Proofs.Ythgjccbmfbileaa.Rf
