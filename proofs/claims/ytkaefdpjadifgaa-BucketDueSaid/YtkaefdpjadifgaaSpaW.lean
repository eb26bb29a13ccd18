/- The walk of BucketSpaced. -/
import Derived.Test.YtkaefdpjadifgaaP
namespace Go.Proofs.Ytkaefdpjadifgaa
open Go.RowKit
set_option linter.unusedVariables false
set_option linter.unusedSimpArgs false

theorem below_none {w w' : World} (g : w.grownBy w' none) : Below w.heap.size w w' := ⟨g.os, g.tape, g.output, g.size, fun k hk => g.block k hk (by simp)⟩

/-- A cell at a step behind the last one fits; the bucket is ahead by a step then. -/
theorem spaced_fit {x : Bk} {t m : Int} (hx : x.Ok) (h : x.n ≤ t + x.s) (h0 : 0 ≤ t) (hm : 0 ≤ m) (ht : t + x.s + m ≤ 1152921504606846976) : fitB x (t + (x.s + m)) = true ∧ (tookB x (t + (x.s + m))).n ≤ t + (x.s + m) + x.s := by
  have hs := hx.s1
  have he := hx.e0
  have e : hold (t + (x.s + m)) 0 1152921504606846976 = t + (x.s + m) := by unfold hold; omega
  refine ⟨?_, ?_⟩
  · unfold fitB
    rw [e]
    cases x.a
    · rfl
    · simp only [Bool.not_true, Bool.false_or, decide_eq_true_eq]; omega
  · show max x.n (hold (t + (x.s + m)) 0 1152921504606846976) + x.s ≤ _
    rw [e]
    omega

theorem new_small {sv ea : Int} (h : 1 ≤ sv ∧ sv ≤ 4294967295) (he : 0 ≤ ea ∧ ea ≤ 4294967295) (w : World) : Calls Try.prog 10 #[.int .i64 sv, .int .i64 ea] w (NewB ⟨sv, ea, 0, false⟩ w) := by
  have e := new_any sv ea w
  rwa [show hold sv 1 1152921504606846976 = sv by unfold hold; omega, show hold ea 0 1152921504606846976 = ea by unfold hold; omega] at e
theorem small_ok {sv ea : Int} (h : 1 ≤ sv ∧ sv ≤ 4294967295) (he : 0 ≤ ea ∧ ea ≤ 4294967295) : (Bk.mk sv ea 0 false).Ok :=
  ⟨by simp; omega, by simp; omega, by simp; omega, by simp; omega, by simp, by simp, by simp⟩

theorem below_sets {B b : Nat} {a w w' : World} {y : Bk} {v : Value} {e : Ending} (h : Below B a w) (hs : SetsB b y v w e w') (hB : B ≤ w.heap.size) (hb : B ≤ b) : Below B a w' := below_grown h hs.2.2.1 hB hb

/-- A new bucket behind what lay below. -/
theorem new_below {B : Nat} {a w w' : World} (h : Below B a w) (hB : B ≤ w.heap.size) (g : w.grownBy w' none) : Below B a w' := h.trans ((below_none g).mono hB)

theorem rem_lt {y sv t : Int} (hy : 0 ≤ y) (h : 1 ≤ sv) : 0 ≤ y % sv ∧ y % sv < sv := ⟨Int.emod_nonneg _ (by omega), Int.emod_lt_of_pos _ (by omega)⟩

set_option maxHeartbeats 1600000 in
theorem spa_walk (st ea : Int) (A : Option Addr) (cap : Nat) (zs : List Int) (A' : Option Addr) (cap' : Nat) (ys : List Int) (w : World) (hst : 0 ≤ st ∧ st ≤ 4294967295) (hea : 0 ≤ ea ∧ ea ≤ 4294967295)
    (hs : Small zs) (hn : zs.length ≤ 300) (hr : Rd .u32 w A zs) (hs' : Small ys) (hn' : ys.length ≤ maxLen) (hr' : Rd .u32 w A' ys) :
    Calls Try.prog 4 #[.int .u32 st, .int .u32 ea, .slice A zs.length cap, .slice A' ys.length cap'] w fun e w' => e = .returned (.bool true) ∧ Below w.heap.size w w' := by
  obtain ⟨s0, s1⟩ := hst
  obtain ⟨e0, e1⟩ := hea
  unfold maxLen at hn'
  obtain ⟨sv, esv⟩ : ∃ sv, (if 1 < st then st else 1) = sv := ⟨_, rfl⟩
  have hsv : 1 ≤ sv ∧ sv ≤ 4294967295 := by rw [← esv]; split <;> omega
  have HS := Lib.hid hs
  have HS' := Lib.hid hs'
  have HR := Lib.hid hr
  have HR' := Lib.hid hr'
  clear hs hs' hr hr'
  go_enter Try.func4, Try.ntmps4
  go_wp2_with fail
  refine (awake_any _).mono ?_
  rintro e w1 ⟨rfl, b1⟩
  go_wp2_with fail
  clear esv
  refine (new_small hsv ⟨e0, e1⟩ _).mono ?_
  rintro e w2 ⟨b, rfl, hb, h2, g2⟩
  have b2 := new_below b1 b1.size g2
  have hbw : w.heap.size ≤ b := Nat.le_trans b1.size hb
  clear hb g2 b1 w1
  go_wp2_with fail
  go_loopw [11, 32] (fun t i wr => ∃ (k : Nat) (x : Bk) (tv : Int), k ≤ zs.length ∧ i = .int .i64 k ∧ t = .int .i64 tv ∧ 0 ≤ tv ∧ tv ≤ k * 8589934592 ∧ HasB wr b x ∧ x.Ok ∧ x.s = sv ∧ x.n ≤ tv + sv ∧ Below w.heap.size w wr) (fun _ i _ => zs.length - (intOf i).toNat)
  case atStart => exact ⟨0, ⟨sv, ea, 0, false⟩, 0, Nat.zero_le _, rfl, rfl, Int.le_refl _, by omega, h2, small_ok hsv ⟨e0, e1⟩, rfl, by simp; omega, b2⟩
  case round =>
    clear h2 b2 w2
    obtain ⟨k, x, tv, hk, rfl, rfl, ht0, ht1, hbx, hxo, hxs, hxn, hbel⟩ := hrel
    by_cases hlt : k < zs.length
    · have hz := HS.out k
      rcases HR.out.below hbel (Nat.le_refl _) with hra | ⟨ba, oa, rfl, hla, hca⟩
      · subst hra; simp at hlt
      have hcell := hca k hlt
      obtain ⟨z, ez⟩ : ∃ z, zs[k]?.getD 0 = z := ⟨_, rfl⟩
      rw [ez] at hcell hz
      clear ez hca
      have HX := Lib.hid hxs
      have hfit := spaced_fit (m := z) hxo (by rw [hxs]; exact hxn) ht0 hz.1 (by have := hxo.s2; omega)
      rw [hxs] at hfit
      have HF := Lib.hid hfit
      have htk := take_yes x hxo b (tv + (sv + z)) wr hbx hfit.1
      clear hxs hfit
      go_wp2_with (go_at_call 12; refine htk.mono ?_; rintro e w4 ⟨rfl, hb4, hg4, hs4⟩; clear hs4)
      have hbel4 := below_grown hbel hg4 hbel.size hbw
      have hT5 : tookB x (tv + (sv + z)) = takeB x (tv + (sv + z)) := by unfold takeB; rw [HF.out.1]; rfl
      have hok := takeB_ok hxo (tv + (sv + z))
      rw [← hT5] at hok
      go_roundw
      case rel => exact ⟨k + 1, tookB x (tv + (sv + z)), tv + (sv + z), by omega, by go_num, rfl, by omega, by omega, hb4, hok, HX.out, HF.out.2, hbel4⟩
      case measure => simp [intOf]; omega
    · clear hbx hxo hxs hxn
      go_wp2_with fail
      refine (new_small (ea := 0) hsv (by omega) _).mono ?_
      rintro e w5 ⟨o, rfl, ho, h5, g5⟩
      have b5 := new_below hbel hbel.size g5
      have how : w.heap.size ≤ o := Nat.le_trans hbel.size ho
      clear ho g5 hbel
      go_wp2_with fail
      go_loopw [11, 53] (fun t i wr => ∃ (k : Nat) (x : Bk) (tv : Int), k ≤ zs.length ∧ i = .int .i64 k ∧ t = .int .i64 tv ∧ 0 ≤ tv ∧ tv ≤ k * 8589934592 ∧ HasB wr o x ∧ x.Ok ∧ x.s = sv ∧ x.e = 0 ∧ x.n ≤ tv ∧ Below w.heap.size w wr) (fun _ i _ => zs.length - (intOf i).toNat)
      case atStart => exact ⟨0, ⟨sv, 0, 0, false⟩, 0, Nat.zero_le _, rfl, rfl, Int.le_refl _, by omega, h5, small_ok hsv (by omega), rfl, rfl, by simp, b5⟩
      case round =>
        clear h5 b5 w5
        obtain ⟨k, x, tv, hk, rfl, rfl, ht0, ht1, hbx, hxo, hxs, hxe, hxn, hbel⟩ := hrel
        by_cases hlt : k < zs.length
        · have hfit : fitB x tv = true := by
            unfold fitB
            rw [hxe, show hold tv 0 1152921504606846976 = tv by unfold hold; omega]
            cases x.a
            · rfl
            · simp only [Bool.not_true, Bool.false_or, decide_eq_true_eq]; omega
          have htk := take_yes x hxo o tv wr hbx hfit
          have hT5 : tookB x tv = takeB x tv := by unfold takeB; rw [hfit]; rfl
          have hok := takeB_ok hxo tv
          rw [← hT5] at hok
          have ht5 : tookB x tv = ⟨sv, 0, tv + sv, true⟩ := by
            unfold tookB
            rw [hxs, hxe, show hold tv 0 1152921504606846976 = tv by unfold hold; omega, show max x.n tv = tv by omega]
          rw [ht5] at htk hok
          clear hT5 ht5 hfit hxn hxs hxe hxo hbx
          by_cases hlt2 : k < ys.length
          · rcases HR'.out with hra | ⟨ba, oa, rfl, hla, hca⟩
            · subst hra; simp at hlt2
            have hcell := hca k hlt2
            have hz := HS'.out k
            obtain ⟨z, ez⟩ : ∃ z, ys[k]?.getD 0 = z := ⟨_, rfl⟩
            rw [ez] at hcell hz
            have hrem := rem_lt (t := 0) hz.1 hsv.1
            have hno : fitB ⟨sv, 0, tv + sv, true⟩ (tv + z % sv) = false := by
              unfold fitB
              rw [show hold (tv + z % sv) 0 1152921504606846976 = tv + z % sv by unfold hold; omega]
              simp only [Bool.not_true, Bool.false_or, decide_eq_false_iff_not]; omega
            have HN := Lib.hid hno
            clear ez hca hno
            go_wp2_with fail
            refine htk.mono ?_
            rintro e w6 ⟨rfl, h6, g6, s6⟩
            have b6 := below_grown hbel g6 hbel.size how
            have hcell6 := (b6.cell (p := ⟨ba, oa + k, none⟩) hla).trans hcell
            clear hcell g6 s6 hbel htk
            go_wp2_with fail
            refine (take_no _ hok o _ _ h6 HN.out).mono ?_
            rintro e w7 ⟨rfl, n7, rfl⟩
            go_wp2_with fail
            go_roundw
            case rel => exact ⟨k + 1, _, tv + sv, by omega, by go_num, rfl, by omega, by omega, h6, hok, rfl, rfl, Int.le_refl _, below_drewN b6 _⟩
            case measure => simp [intOf]; omega
          · go_wp2_with fail
            refine htk.mono ?_
            rintro e w6 ⟨rfl, h6, g6, s6⟩
            have b6 := below_grown hbel g6 hbel.size how
            clear g6 s6 hbel htk
            go_wp2_with fail
            go_roundw
            case rel => exact ⟨k + 1, _, tv + sv, by omega, by go_num, rfl, by omega, by omega, h6, hok, rfl, rfl, Int.le_refl _, b6⟩
            case measure => simp [intOf]; omega
        · go_wp2_with fail
          go_ret
          exact ⟨rfl, hbel⟩

theorem spa_long (st ea : Int) (A A' : Option Addr) (n cap n' cap' : Nat) (w : World) (hn : 300 < n) :
    Calls Try.prog 4 #[.int .u32 st, .int .u32 ea, .slice A n cap, .slice A' n' cap'] w fun e w' => e = .returned (.bool true) ∧ Below w.heap.size w w' := by
  go_enter Try.func4, Try.ntmps4
  go_wp2_with fail
  refine (awake_any _).mono ?_
  rintro e w1 ⟨rfl, b1⟩
  go_wp2_with fail
  refine (awake_any _).mono ?_
  rintro e w2 ⟨rfl, b2⟩
  go_wp2_with fail
  go_ret
  exact ⟨rfl, b1.trans (b2.mono b1.size)⟩

end Go.Proofs.Ytkaefdpjadifgaa
