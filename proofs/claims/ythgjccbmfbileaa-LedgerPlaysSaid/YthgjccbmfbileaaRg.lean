/- The reference's Free and Change. -/
import Derived.Test.YthgjccbmfbileaaRe
namespace Go.Proofs.Ythgjccbmfbileaa.Rf
open Go.RowKit Go.Maps
set_option linter.unusedVariables false
set_option linter.unusedSimpArgs false
attribute [local go_sem ↓] Go.wp_at_zero Go.wp_at_succ

theorem up_base {w : World} {B B' : Nat} {v : Value} {L : Ent} (h : ERow w B' v L) (hb : B ≤ B') : ERow w B v L := ⟨h.1, by
  rcases h.2 with h | ⟨g, cap, cur, k1, k2, k3⟩
  · exact .inl h
  · exact .inr ⟨g, cap, cur, k1, Nat.le_trans hb k2, k3⟩⟩

set_option maxHeartbeats 1600000 in
theorem rfree_any {W : World} {B q : Nat} {x : Lg} (id : Int) (h : Has W B q x) (hB : B ≤ W.heap.size) (hlen : x.L.length ≤ 100000) {v : Int} {b : Bool} (hv : (look x.L id).getD 0 = v) (hb : (look x.L id).isSome = b) {y : Lg} (hy : freeS x id = y) :
    Calls Try.prog 20 #[.pointer (some ⟨q, 0, none⟩), .int .i64 id] W fun e w' => e = .returned (.tuple #[.int .i64 v, .bool b]) ∧ Has w' B q y ∧ Kp1 q W w' := by
  obtain ⟨v0, hF, hrow⟩ := h
  obtain ⟨A, c, ev, hr2, hcap, hmx⟩ := row2_of hrow
  subst ev
  have c1 := hF.c1
  have hfr := hF.fr 1
  have HG := Lib.hid (get_any id hF hr2.rd hlen hv hb)
  have HW := Lib.hid (without_any id hF hr2.rd hlen)
  have HH := Lib.hid (And.intro hF (And.intro hB hy))
  clear hF hrow hr2 hv hb hy
  go_enter Try.func20, Try.ntmps20
  go_wp2_with fail
  refine HG.out.mono ?_
  rintro e w1 ⟨rfl, rfl⟩
  go_wp2_with fail
  refine HW.out.mono ?_
  rintro e w3 ⟨u, rfl, hrow3, hb3⟩
  obtain ⟨A3, c3, ev3, _⟩ := row2_of hrow3
  obtain ⟨N3, eN3⟩ : ∃ N3, (del x.L id).length = N3 := ⟨_, rfl⟩
  rw [eN3] at ev3
  subst ev3
  have hF3 := HH.out.1.below hb3
  have k1 := hF3.c1
  have kf := hF3.fr 1
  have HS := Lib.hid (stored HH.out.1 hb3 hrow3)
  clear hF3 hrow3 hb3 eN3
  go_wp2_with fail
  go_ret2
  refine ⟨rfl, ?_, ?_⟩
  · rw [← HH.out.2.2]
    exact ⟨_, HS.out.1, up_base HS.out.2.1 HH.out.2.1⟩
  · exact HS.out.2.2

set_option maxHeartbeats 1600000 in
theorem rchange_any {W : World} {B q : Nat} {x : Lg} (id need : Int) (h : Has W B q x) (hB : B ≤ W.heap.size) (hx : x.Ok) (hlen : x.L.length ≤ 100000) :
    Calls Try.prog 19 #[.pointer (some ⟨q, 0, none⟩), .int .i64 id, .int .i64 need] W fun e w' => e = .returned (.int .i64 (changeE x id need)) ∧ Has w' B q (changeS x id need) ∧ Kp1 q W w' := by
  obtain ⟨v0, hF, hrow⟩ := h
  obtain ⟨A, c, ev, hr2, hcap, hmx⟩ := row2_of hrow
  subst ev
  have c0 := hF.c0
  have c1 := hF.c1
  have hfr := hF.fr 1
  have hg := fun v b h1 h2 => get_any (v := v) (b := b) id hF hr2.rd hlen h1 h2
  have hu := used_any hF hr2.rd hlen hx.nn (Int.le_trans hx.le hx.r1)
  have hwo := fun n => without_any (W := W.drewN n) id (hF.drewN n) (by
    rcases hr2.rd with h | ⟨b, h1, h2, h3⟩
    · exact .inl h
    · exact .inr ⟨b, h1, h2, h3⟩) hlen
  have hun := fun n => used_any (hF.drewN n) (W := W.drewN n) (by
    rcases hr2.rd with h | ⟨b, h1, h2, h3⟩
    · exact .inl h
    · exact .inr ⟨b, h1, h2, h3⟩) hlen hx.nn (Int.le_trans hx.le hx.r1)
  have ht := tot_bd hx
  have hlb := look_bd hx id
  have hr0 := hx.r0
  have hr1 := hx.r1
  have HH := Lib.hid (And.intro hF (And.intro hrow (And.intro hr2 (And.intro hcap hmx))))
  have HG := Lib.hid hg
  have HWo := Lib.hid hwo
  have HX := Lib.hid hx
  obtain ⟨t, et⟩ : ∃ t, tot x.L = t := ⟨_, rfl⟩
  obtain ⟨rm, erm⟩ : ∃ rm, x.room = rm := ⟨_, rfl⟩
  rw [et] at ht hlb
  simp only [et] at hun
  rw [erm] at hr0 hr1 c0
  have HU := Lib.hid hun
  have HT := Lib.hid (And.intro et erm)
  clear hF hrow hr2 hg hu hwo hun hx et erm
  obtain ⟨r, er⟩ : ∃ r, changeE x id need = r := ⟨_, rfl⟩
  obtain ⟨y, ey⟩ : ∃ y, changeS x id need = y := ⟨_, rfl⟩
  rw [er, ey]
  have hsame : r ≠ 0 → y = x := fun h => by rw [← ey]; unfold changeS; rw [if_neg (by rw [er]; exact h)]
  have HR := Lib.hid (And.intro er (And.intro ey hsame))
  clear er ey hsame
  by_cases hneg : need < 0
  · have e1 : r = 1 := by rw [← HR.out.1]; unfold changeE; rw [if_pos hneg]
    subst e1
    go_enter Try.func19, Try.ntmps19
    go_wp2_with fail
    go_ret
    refine ⟨rfl, ?_, Kp1.of (Below.refl _ _)⟩
    rw [HR.out.2.2 (by decide)]
    exact ⟨_, HH.out.1, HH.out.2.1⟩
  · cases hlk : look x.L id with
    | none =>
      have e8 : r = 8 := by rw [← HR.out.1]; unfold changeE; rw [if_neg hneg, hlk, if_pos (by rfl)]
      subst e8
      have HG1 := Lib.hid (HG.out 0 false (by rw [hlk]; rfl) (by rw [hlk]; rfl))
      clear hlk hlb
      go_enter Try.func19, Try.ntmps19
      go_wp2_with fail
      refine HG1.out.mono ?_
      rintro e w1 ⟨rfl, rfl⟩
      go_wp2_with fail
      go_ret
      refine ⟨rfl, ?_, Kp1.of (Below.refl _ _)⟩
      rw [HR.out.2.2 (by decide)]
      exact ⟨_, HH.out.1, HH.out.2.1⟩
    | some n =>
      rw [hlk] at hlb
      simp only [Option.getD_some] at hlb
      have HG1 := Lib.hid (HG.out n true (by rw [hlk]; rfl) (by rw [hlk]; rfl))
      have HLK := Lib.hid hlk
      clear hlk
      by_cases h9 : rm - t + n < need
      · have e9 : r = 9 := by
          rw [← HR.out.1]; unfold changeE
          rw [if_neg hneg, HLK.out, if_neg (by simp), HT.out.1, HT.out.2]
          simp only [Option.getD_some]
          rw [if_pos h9]
        subst e9
        go_enter Try.func19, Try.ntmps19
        go_wp2_with fail
        refine HG1.out.mono ?_
        rintro e w1 ⟨rfl, rfl⟩
        go_wp2_with fail
        go_quiet ((go_at_call 24; exact Calls.quiet_of (HU.out _)))
        go_wp2_with fail
        go_ret
        refine ⟨rfl, ?_, Kp1.of (below_drewN (Below.refl _ _) _)⟩
        rw [HR.out.2.2 (by decide)]
        obtain ⟨k1, k2, _⟩ := HH.out
        exact ⟨_, k1.drewN _, row_below k2 (below_drewN (Below.refl _ _) _)⟩
      · have e0 : r = 0 := by
          rw [← HR.out.1]; unfold changeE
          rw [if_neg hneg, HLK.out, if_neg (by simp), HT.out.1, HT.out.2]
          simp only [Option.getD_some]
          rw [if_neg h9]
        have ey : y = ⟨x.room, ins id need (del x.L id)⟩ := by
          rw [← HR.out.2.1]; unfold changeS; rw [if_pos (by rw [HR.out.1, e0])]
        subst e0
        have EY := Lib.hid ey
        clear ey
        go_enter Try.func19, Try.ntmps19
        go_wp2_with fail
        refine HG1.out.mono ?_
        rintro e w1 ⟨rfl, rfl⟩
        go_wp2_with fail
        go_quiet ((go_at_call 24; exact Calls.quiet_of (HU.out _)))
        have HWn := Lib.hid (HWo.out nq)
        go_wp2_with fail
        refine HWn.out.mono ?_
        rintro e w2 ⟨u2, rfl, hrow2, hb2⟩
        obtain ⟨A2, c2, ev2, hr22, hcap2, hmx2⟩ := row2_of hrow2
        obtain ⟨N2, eN2⟩ : ∃ N2, (del x.L id).length = N2 := ⟨_, rfl⟩
        have hN2 : N2 ≤ 100000 := by rw [← eN2]; exact Nat.le_trans (length_del _ _) hlen
        have HWi := Lib.hid (with_any id need hr22 (sorted_del HX.out.so id) (look_del _ _) (by rw [eN2]; exact hN2) hcap2 hmx2)
        have hw0 := HWi.out
        rw [eN2] at ev2 hw0
        subst ev2
        have HWj := Lib.hid hw0
        have HB2 := Lib.hid hb2
        clear hrow2 hb2 hr22 eN2 hw0 hcap2 hmx2
        go_wp2_with fail
        refine HWj.out.mono ?_
        rintro e w3 ⟨u, rfl, hrow3, hb3⟩
        obtain ⟨A3, c3, ev3, _⟩ := row2_of hrow3
        obtain ⟨N3, eN3⟩ : ∃ N3, (ins id need (del x.L id)).length = N3 := ⟨_, rfl⟩
        rw [eN3] at ev3
        subst ev3
        have hbb : Below (w1.drewN nq).heap.size (w1.drewN nq) w3 := HB2.out.trans (hb3.mono HB2.out.size)
        have hF3 := (HH.out.1.drewN nq).below hbb
        have k1 := hF3.c1
        have kf := hF3.fr 1
        have HS := Lib.hid (stored (HH.out.1.drewN nq) hbb (up_base hrow3 HB2.out.size))
        have HB3 := Lib.hid hbb
        clear hF3 hrow3 hb3 eN3 hbb
        go_wp2_with fail
        go_ret
        refine ⟨rfl, ?_, ?_⟩
        · rw [EY.out]
          exact ⟨_, HS.out.1, up_base HS.out.2.1 (by exact hB)⟩
        · have hk := HS.out.2.2
          exact ⟨hk.os, hk.tape, hk.output, hk.size, hk.block⟩

end Go.Proofs.Ythgjccbmfbileaa.Rf
