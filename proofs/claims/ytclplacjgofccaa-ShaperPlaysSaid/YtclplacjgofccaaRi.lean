/- The reference's Take and New. -/
import Derived.Test.YtclplacjgofccaaRh
namespace Go.Proofs.Ytclplacjgofccaa.Rf
open Go.RowKit Go.Sort Go.Shelf Go.Lib
set_option linter.unusedVariables false
set_option linter.unusedSimpArgs false
attribute [local go_sem ↓] Go.wp_at_zero Go.wp_at_succ

def comeR (t : Int) (y : Re) : Re := { y with step := comeF (held t) y.step y.L, L := leftF (held t) y.L }

theorem come_stored {W w1 : World} {p : Nat} {v v' : Value} {y : Re} {t F : Int} (h : HasR W p v y) (hrow : RRow w1 W.heap.size v' (leftF (held t) y.L)) (hb : Below W.heap.size W w1) (eF : comeF (held t) y.step y.L = F) :
    HasR ((w1.setCell ⟨p, 0, none⟩ (.int .i64 F)).setCell ⟨p, 7, none⟩ v') p v' (comeR t y) ∧ RRow ((w1.setCell ⟨p, 0, none⟩ (.int .i64 F)).setCell ⟨p, 7, none⟩ v') W.heap.size v' (leftF (held t) y.L) ∧ Kept p W ((w1.setCell ⟨p, 0, none⟩ (.int .i64 F)).setCell ⟨p, 7, none⟩ v') := by
  have hs := h.below hb
  refine ⟨?_, ((hrow.set hs 0 _).set (heap_set hs _ _) 7 _), ((Kept.of hb).set 0 _).set 7 _⟩
  unfold HasR comeR
  rw [heap_set (heap_set hs _ _) _ _, ← eF]
  rfl

theorem RRow.kept {W W' : World} {B p : Nat} {v u : Value} {L : List Ch} {y : Re} (h : RRow W B v L) (hp : HasR W p u y) (hk : Kept p W W') : RRow W' B v L := by
  have hap := h.apart hp (by decide)
  rcases h with h | ⟨k1, k2, k3⟩
  · exact .inl h
  · refine .inr ⟨k1, k2, ?_⟩
    rcases k3 with k3 | ⟨g, cap, cur, k3, k4, k5, k6⟩
    · exact .inl k3
    · refine .inr ⟨g, cap, cur, k3, k4, ?_, k6⟩
      rw [hk.block g (lt_of_block k5) (fun e => hap (by rw [k3, e]; rfl))]
      exact k5

theorem kept_trans {p : Nat} {a b c : World} (h : Kept p a b) (k : Kept p b c) : Kept p a c :=
  ⟨k.os.trans h.os, k.tape.trans h.tape, k.output.trans h.output, Nat.le_trans h.size k.size, fun i hi hp => (k.block i (Nat.lt_of_lt_of_le hi h.size) hp).trans (h.block i hi hp)⟩

set_option maxHeartbeats 800000 in
theorem take_any {W : World} {B p : Nat} {v : Value} {y : Re} (t : Int) (h : HasR W p v y) (hr : RRow W B v y.L) (h8 : y.L.length ≤ 8) (ok : OkR (comeR t y)) :
    Calls Try.prog 15 #[.pointer (some ⟨p, 0, none⟩), .int .i64 t] W fun e w' => ∃ v', e = .returned (.bool (fitR t (comeR t y))) ∧ HasR w' p v' (btakeR t (comeR t y)) ∧ RRow w' W.heap.size v' (leftF (held t) y.L) ∧ Kept p W w' := by
  have hc := come_any t h hr h8
  have HH := Lib.hid (And.intro h ok)
  have ff := h.fr
  obtain ⟨F, eF⟩ : ∃ F, comeF (held t) y.step y.L = F := ⟨_, rfl⟩
  simp only [eF] at hc
  have HF := Lib.hid eF
  clear h hr eF ok
  go_enter Try.func15, Try.ntmps15
  go_wp2_with fail
  refine hc.mono ?_
  rintro e w1 ⟨v', rfl, hrow, hb⟩
  obtain ⟨A', c', ev, _⟩ := hrow.rd
  obtain ⟨N, eN⟩ : ∃ N, (leftF (held t) y.L).length = N := ⟨_, rfl⟩
  rw [eN] at ev
  subst ev
  have hs := HH.out.1.below hb
  have k0 := hs.c0
  have k7 := hs.c7
  have kf0 := hs.fr 0
  have kf7 := hs.fr 7
  have h5 := come_stored HH.out.1 hrow hb HF.out
  have ct := btake_any t h5.1 HH.out.2
  have H5 := Lib.hid h5
  clear hc h5 hs hrow hb eN
  go_wp2_with fail
  refine ct.mono ?_
  rintro e w2 ⟨rfl, h2, k2⟩
  have H2 := Lib.hid (And.intro h2 k2)
  clear ct h2 k2
  go_wp2_with fail
  go_ret
  exact ⟨.slice A' N c', rfl, H2.out.1, RRow.kept H5.out.2.1 H5.out.1 H2.out.2, kept_trans H5.out.2.2 H2.out.2⟩

/-- A new one. -/
def newR (step early slow quick : Int) : Re := ⟨max 1 (held step), held early, 0, 0, false, held slow, min (held quick) (held slow), []⟩

theorem bnew_any (step early : Int) (W : World) : Calls Try.prog 22 #[.int .i64 step, .int .i64 early] W fun e w' => e = .returned (.pointer (some ⟨W.heap.size, 0, none⟩)) ∧ w' = W.alloc (.cells #[.int .i64 (max 1 (held step)), .int .i64 (held early), .int .i64 0, .int .i64 0, .bool false] 39) := by
  go_enter Try.func22, Try.ntmps22
  go_wp2_with (go_at_call 23; refine (held_any _ _).mono ?_; rintro e w' ⟨rfl, rfl⟩)
  go_ret
  exact ⟨rfl, rfl⟩

theorem new_any (step early slow quick : Int) (W : World) : Calls Try.prog 11 #[.int .i64 step, .int .i64 early, .int .i64 slow, .int .i64 quick] W fun e w' => ∃ p, e = .returned (.pointer (some ⟨p, 0, none⟩)) ∧ W.heap.size ≤ p ∧ HasR w' p (.slice none 0 0) (newR step early slow quick) ∧ Below W.heap.size W w' := by
  go_enter Try.func11, Try.ntmps11
  go_wp2_with fail
  go_region_with (first
    | (go_at_call 22; refine (bnew_any _ _ _).mono ?_; rintro e w' ⟨rfl, rfl⟩)
    | (go_at_call 23; refine (held_any _ _).mono ?_; rintro e w' ⟨rfl, rfl⟩))
  all_goals
    go_wp2_with fail
    obtain ⟨w2, hw2⟩ : ∃ w2, ((W.alloc (.cells #[.int .i64 (max 1 (held step)), .int .i64 (held early), .int .i64 0, .int .i64 0, .bool false] 39)).alloc (.cells #[.int .i64 (max 1 (held step)), .int .i64 (held early), .int .i64 0, .int .i64 0, .bool false, .int .i64 (held slow), .int .i64 0, .slice none 0 0] 41)).drew = w2 := ⟨_, rfl⟩
    rw [hw2]
    obtain ⟨p, ep⟩ : ∃ p, W.heap.size + 1 = p := ⟨_, rfl⟩
    rw [ep]
    have hR : HasR w2 p (.slice none 0 0) ⟨max 1 (held step), held early, 0, 0, false, held slow, 0, []⟩ := by
      rw [← hw2, ← ep]
      have := heap_alloc_new (W.alloc (.cells #[.int .i64 (max 1 (held step)), .int .i64 (held early), .int .i64 0, .int .i64 0, .bool false] 39)) (.cells #[.int .i64 (max 1 (held step)), .int .i64 (held early), .int .i64 0, .int .i64 0, .bool false, .int .i64 (held slow), .int .i64 0, .slice none 0 0] 41)
      rw [World.size_alloc] at this
      exact this
    have hB : Below W.heap.size W w2 := by
      rw [← hw2]
      exact (((Below.refl _ W).alloc (Nat.le_refl _) _).alloc (by simp) _).drew
    have HW := Lib.hid (And.intro hB ep)
    clear hw2 hB ep
    refine wp_region_still_tail 10 (by kernel_rfl) (by kernel_rfl) ?_
    simp only [List.take_succ_cons, List.take_zero, List.drop_succ_cons, List.drop_zero]
    obtain ⟨w3, hw3⟩ : ∃ w3, w2.drew = w3 := ⟨_, rfl⟩
    change wpStill _ _ w2.drew (fun a' => wpList _ _ _ _ a' w2.drew) _ _
    have hR3 : HasR w3 p (.slice none 0 0) ⟨max 1 (held step), held early, 0, 0, false, held slow, 0, []⟩ := by rw [← hw3]; exact hR
    have hB3 : Below W.heap.size W w3 := by rw [← hw3]; exact HW.out.1.drew
    rw [hw3]
    have k5 := hR3.c5
    have k6 := hR3.c6
    have f6 := hR3.fr 6
    simp only at k5 k6
    have H3 := Lib.hid (And.intro hR3 hB3)
    clear hw3 hR hR3 hB3
    repeat still_step
    still_call (held_any _ _)
    repeat still_step
    refine wpStill_nil ?_
    go_wp2_with fail
    go_ret
    refine ⟨p, rfl, by have := HW.out.2; omega, ?_, H3.out.2.setCell (by show W.heap.size ≤ p; have := HW.out.2; omega) _⟩
    have h3 := H3.out.1
    unfold HasR at h3 ⊢
    rw [heap_set h3]
    rfl

end Go.Proofs.Ytclplacjgofccaa.Rf
