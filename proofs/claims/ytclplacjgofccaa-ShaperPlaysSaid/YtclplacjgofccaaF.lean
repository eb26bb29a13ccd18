/- The contracts of Take and Set. -/
import Derived.Test.YtclplacjgofccaaE
import Derived.StillTailTactics
namespace Go.Proofs.Ytclplacjgofccaa
open Go.RowKit Go.Sort Go.Shelf Go.Lib
set_option linter.unusedVariables false
set_option linter.unusedSimpArgs false
attribute [local go_sem ↓] Go.wp_at_zero Go.wp_at_succ

/-- The state once a time has come. -/
def comeSh (t : Int) (x : Sh) : Sh := { x with step := comeF (held t) x.step x.L, L := leftF (held t) x.L }
def fitSh (t : Int) (x : Sh) : Bool := !(x.any && decide (held t < x.next - x.early))
/-- Behind Take. -/
def takeSh (t : Int) (x : Sh) : Sh := if fitSh t x then { comeSh t x with next := max x.next (held t) + comeF (held t) x.step x.L, any := true } else comeSh t x

structure Kept (p : Nat) (w w' : World) : Prop where
  os : w'.os = w.os
  tape : w'.tape = w.tape
  output : w'.output = w.output
  size : w.heap.size ≤ w'.heap.size
  block : ∀ k, k < w.heap.size → k ≠ p → w'.heap[k]? = w.heap[k]?

theorem heap_set {w : World} {b : Nat} {c : Array Value} {T : TypeId} (h : w.heap[b]? = some (.cells c T (0, 0))) (o : Nat) (v : Value) : (w.setCell ⟨b, o, none⟩ v).heap[b]? = some (.cells (c.setIfInBounds o v) T (0, 0)) := by
  simp only [World.setCell, Array.getElem?_modify, ↓reduceIte, h, Option.map_some]
  simp

theorem Kept.of {p : Nat} {w w' : World} (h : Below w.heap.size w w') : Kept p w w' := ⟨h.os, h.tape, h.output, h.size, fun k hk _ => h.block k hk⟩
theorem Kept.set {p : Nat} {w w' : World} (h : Kept p w w') (o : Nat) (v : Value) : Kept p w (w'.setCell ⟨p, o, none⟩ v) :=
  ⟨h.os, h.tape, h.output, by have := h.size; simp [World.setCell]; omega, fun k hk hp => (Below.heap_setCell _ _ _ _ hp).trans (h.block k hk hp)⟩
theorem CRow.set {W : World} {B p : Nat} {v : Value} {L : List Ch} {c : Array Value} (h : CRow W B v L) (hp : W.heap[p]? = some (.cells c 58 (0, 0))) (o : Nat) (u : Value) : CRow (W.setCell ⟨p, o, none⟩ u) B v L := by
  rcases h with h | ⟨h1, h2, h3⟩
  · exact .inl h
  · refine .inr ⟨h1, h2, ?_⟩
    rcases h3 with h3 | ⟨g, cap, cur, k1, k2, k3, k4⟩
    · exact .inl h3
    · refine .inr ⟨g, cap, cur, k1, k2, ?_, k4⟩
      rw [Below.heap_setCell _ _ _ _ (fun e => by subst e; rw [hp] at k3; simp at k3)]
      exact k3

theorem left_len (t : Int) (L : List Ch) : (leftF t L).length ≤ L.length := List.length_filter_le _ _

theorem good_come {W w1 : World} {B p : Nat} {v v' : Value} {x : Sh} {t F : Int} (h : Good W B p x v) (hB : B ≤ W.heap.size) (hrow : CRow w1 W.heap.size v' (leftF (held t) x.L)) (hb : Below W.heap.size W w1) (eF : comeF (held t) x.step x.L = F) :
    Good ((w1.setCell ⟨p, 0, none⟩ (.int .i64 F)).setCell ⟨p, 6, none⟩ v') B p (comeSh t x) v' ∧ Kept p W ((w1.setCell ⟨p, 0, none⟩ (.int .i64 F)).setCell ⟨p, 6, none⟩ v') := by
  have hs := h.sh.below hb
  refine ⟨⟨?_, ((hrow.set hs 0 _).set (heap_set hs _ _) 6 _).mono hB, Nat.le_trans (left_len _ _) h.l8, fun c hc => h.at0 c (List.mem_filter.1 hc).1⟩, ((Kept.of hb).set 0 _).set 6 _⟩
  unfold HasSh comeSh
  rw [heap_set (heap_set hs _ _) _ _, ← eF]
  rfl

theorem Kept.below {p : Nat} {w w' w'' : World} (h : Kept p w w') (hb : Below w'.heap.size w' w'') : Kept p w w'' :=
  ⟨hb.os.trans h.os, hb.tape.trans h.tape, hb.output.trans h.output, Nat.le_trans h.size hb.size, fun k hk hp => (hb.block k (Nat.lt_of_lt_of_le hk h.size)).trans (h.block k hk hp)⟩

theorem good_took {W w5 : World} {B p : Nat} {v : Value} {y : Sh} {m : Int} (h : Good w5 B p y v) (hk : Kept p W w5) :
    Good ((w5.setCell ⟨p, 4, none⟩ (.int .i64 m)).setCell ⟨p, 5, none⟩ (.bool true)) B p { y with next := m, any := true } v ∧ Kept p W ((w5.setCell ⟨p, 4, none⟩ (.int .i64 m)).setCell ⟨p, 5, none⟩ (.bool true)) := by
  refine ⟨⟨?_, ((h.row.set h.sh 4 _).set (heap_set h.sh _ _) 5 _), h.l8, h.at0⟩, (hk.set 4 _).set 5 _⟩
  unfold HasSh
  rw [heap_set (heap_set h.sh _ _) _ _]
  rfl

set_option maxHeartbeats 800000 in
theorem take_any {W : World} {B p : Nat} {v : Value} {x : Sh} (t : Int) (hB : B ≤ W.heap.size) (hx : 0 ≤ x.early ∧ x.early ≤ 1152921504606846976 ∧ 0 ≤ x.next ∧ x.next ≤ 4611686018427387904) (hF : 0 ≤ comeF (held t) x.step x.L ∧ comeF (held t) x.step x.L ≤ 1152921504606846976) (h : Good W B p x v) :
    Calls Try.prog 14 #[.pointer (some ⟨p, 0, none⟩), .int .i64 t] W fun e w' => ∃ v', e = .returned (.bool (fitSh t x)) ∧ Good w' B p (takeSh t x) v' ∧ Kept p W w' := by
  have ha := at_all t h.sh h.row h.l8 h.at0
  have c0 := h.sh.c0
  have c1 := h.sh.c1
  have c4 := h.sh.c4
  have c5 := h.sh.c5
  have H := Lib.hid h
  clear h
  go_enter Try.func14, Try.ntmps14
  go_wp2_with fail
  refine ha.mono ?_
  rintro e w1 ⟨v', rfl, hrow, hb⟩
  obtain ⟨A', c', ev, _⟩ := hrow.rd
  obtain ⟨N, eN⟩ : ∃ N, (leftF (held t) x.L).length = N := ⟨_, rfl⟩
  rw [eN] at ev
  subst ev
  have hs := H.out.sh.below hb
  have k0 := hs.c0
  have k1 := hs.c1
  have k4 := hs.c4
  have k5 := hs.c5
  have k6 := hs.c6
  have kf := hs.fr
  have hlt := hs.lt
  obtain ⟨F, eF⟩ : ∃ F, comeF (held t) x.step x.L = F := ⟨_, rfl⟩
  rw [eF] at hF
  rw [eF]
  have hs5 : HasSh ((w1.setCell ⟨p, 0, none⟩ (.int .i64 F)).setCell ⟨p, 6, none⟩ (.slice A' N c')) p (.slice A' N c') (comeSh t x) := by
    unfold HasSh comeSh
    rw [heap_set (heap_set hs _ _) _ _, ← eF]
    rfl
  have d0 := hs5.c0
  have d1 := hs5.c1
  have d4 := hs5.c4
  have d5 := hs5.c5
  have d6 := hs5.c6
  have df := hs5.fr
  have dl := hs5.lt
  have HG := Lib.hid (good_come H.out hB hrow hb eF)
  have HS := Lib.hid (And.intro hs (And.intro hs5 (And.intro hrow (And.intro hb eF))))
  clear hs hs5 hrow hb eF eN ha c0 c1 c4 c5
  go_wp2_with (go_at_call 21; refine (held_any _ _).mono ?_; rintro e w' ⟨rfl, rfl⟩)
  obtain ⟨w5, hw5⟩ : ∃ w5, ((w1.setCell ⟨p, 0, none⟩ (.int .i64 F)).setCell ⟨p, 6, none⟩ (.slice A' N c')) = w5 := ⟨_, rfl⟩
  have HW := Lib.hid hw5
  rw [hw5] at HG
  rw [hw5] at HS d0 d1 d4 d5 d6 df dl
  rw [hw5]
  clear hw5 k0 k1 k4 k5 k6 kf hlt
  simp only [comeSh] at d0 d1 d4 d5 d6
  rw [HS.out.2.2.2.2] at d0
  have hh := held_bd t
  cases hany : x.any with
  | false =>
    rw [hany] at d5
    have HN := Lib.hid hany
    clear hany
    go_quiet (fail)
    go_wp2_with fail
    refine wp_region_still_tail 14 (by kernel_rfl) (by kernel_rfl) ?_
    simp only [List.take_succ_cons, List.take_zero, List.drop_succ_cons, List.drop_zero]
    obtain ⟨w6, hw6⟩ : ∃ w6, (w5.drewN nq).drew = w6 := ⟨_, rfl⟩
    change wpStill _ _ (w5.drewN nq).drew (fun a' => wpList _ _ _ _ a' (w5.drewN nq).drew) _ _
    rw [hw6]
    have k0 : w6.cell? ⟨p, 0, none⟩ = some (.int .i64 F) := by rw [← hw6]; exact d0
    have k4 : w6.cell? ⟨p, 4, none⟩ = some (.int .i64 x.next) := by rw [← hw6]; exact d4
    have kf : ∀ o, w6.frozen? ⟨p, o, none⟩ = false := fun o => by rw [← hw6]; exact df o
    have f4 := kf 4
    have f5 := kf 5
    have k5 : w6.cell? ⟨p, 5, none⟩ = some (.bool false) := by rw [← hw6]; exact d5
    have H6 := Lib.hid hw6
    clear hw6 kf
    repeat still_step
    refine wpStill_nil ?_
    go_wp2_with fail
    go_ret
    have hb6 : Below w5.heap.size w5 w6 := by rw [← H6.out]; exact (below_drewN (Below.refl _ _) _).drew
    have e := good_took (m := max x.next (held t) + F) (HG.out.1.below hb6) (HG.out.2.below hb6)
    have hfit : fitSh t x = true := by unfold fitSh; rw [HN.out]; rfl
    refine ⟨.slice A' N c', by rw [hfit]; rfl, ?_, e.2⟩
    unfold takeSh
    rw [if_pos hfit, HS.out.2.2.2.2]
    exact e.1
  | true =>
    rw [hany] at d5
    have HN := Lib.hid hany
    clear hany
    by_cases hlt : held t < x.next - x.early
    · go_quiet (fail)
      go_wp2_with fail
      go_ret
      have hfit : fitSh t x = false := by unfold fitSh; rw [HN.out, decide_eq_true hlt]; rfl
      refine ⟨.slice A' N c', by rw [hfit]; rfl, ?_, HG.out.2.below (below_drewN (Below.refl _ _) _)⟩
      unfold takeSh
      rw [if_neg (by rw [hfit]; simp)]
      exact HG.out.1.below (below_drewN (Below.refl _ _) _)
    · go_quiet (fail)
      go_wp2_with fail
      refine wp_region_still_tail 14 (by kernel_rfl) (by kernel_rfl) ?_
      simp only [List.take_succ_cons, List.take_zero, List.drop_succ_cons, List.drop_zero]
      obtain ⟨w6, hw6⟩ : ∃ w6, (w5.drewN nq).drew = w6 := ⟨_, rfl⟩
      change wpStill _ _ (w5.drewN nq).drew (fun a' => wpList _ _ _ _ a' (w5.drewN nq).drew) _ _
      rw [hw6]
      have k0 : w6.cell? ⟨p, 0, none⟩ = some (.int .i64 F) := by rw [← hw6]; exact d0
      have k4 : w6.cell? ⟨p, 4, none⟩ = some (.int .i64 x.next) := by rw [← hw6]; exact d4
      have kf : ∀ o, w6.frozen? ⟨p, o, none⟩ = false := fun o => by rw [← hw6]; exact df o
      have f4 := kf 4
      have f5 := kf 5
      have k5 : w6.cell? ⟨p, 5, none⟩ = some (.bool true) := by rw [← hw6]; exact d5
      have H6 := Lib.hid hw6
      clear hw6 kf
      repeat still_step
      refine wpStill_nil ?_
      go_wp2_with fail
      go_ret
      have hb6 : Below w5.heap.size w5 w6 := by rw [← H6.out]; exact (below_drewN (Below.refl _ _) _).drew
      have e := good_took (m := max x.next (held t) + F) (HG.out.1.below hb6) (HG.out.2.below hb6)
      have hfit : fitSh t x = true := by unfold fitSh; rw [HN.out, decide_eq_false (by omega)]; rfl
      refine ⟨.slice A' N c', by rw [hfit]; rfl, ?_, e.2⟩
      unfold takeSh
      rw [if_pos hfit, HS.out.2.2.2.2]
      exact e.1

end Go.Proofs.Ytclplacjgofccaa
