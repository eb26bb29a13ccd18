/- The walk of BucketDue. -/
import Derived.Test.YtkaefdpjadifgaaShiW
namespace Go.Proofs.Ytkaefdpjadifgaa
open Go.RowKit
set_option linter.unusedVariables false
set_option linter.unusedSimpArgs false

theorem two_ne {w : World} {b c : Nat} {x : Bk} (hb : HasB w b x) (hc : w.heap.size ≤ c) : b ≠ c := by have := hb.lt; omega

set_option maxHeartbeats 1600000 in
theorem due_walk (st ea : Int) (A : Option Addr) (cap : Nat) (zs : List Int) (t : Int) (w : World) (hn : zs.length ≤ 300) (hr : Rd .i64 w A zs) :
    Calls Try.prog 7 #[.int .i64 st, .int .i64 ea, .slice A zs.length cap, .int .i64 t] w fun e w' => e = .returned (.bool true) ∧ Below w.heap.size w w' := by
  obtain ⟨x0, hx0e⟩ : ∃ x0, Bk.mk (hold st 1 1152921504606846976) (hold ea 0 1152921504606846976) 0 false = x0 := ⟨_, rfl⟩
  have hx0 := hold_ok st ea
  have hnew : ∀ w, Calls Try.prog 10 #[.int .i64 st, .int .i64 ea] w (NewB x0 w) := fun w => by
    have e := new_any st ea w
    rwa [hx0e] at e
  rw [hx0e] at hx0
  clear hx0e
  go_enter Try.func7, Try.ntmps7
  go_wp2_with fail
  refine (awake_any _).mono ?_
  rintro e w1 ⟨rfl, b1⟩
  go_wp2_with fail
  refine (hnew _).mono ?_
  rintro e w2 ⟨a, rfl, ha, h2, g2⟩
  have b2 := new_below b1 b1.size g2
  have haw : w.heap.size ≤ a := Nat.le_trans b1.size ha
  clear ha g2 b1 w1 hnew
  go_wp2_with fail
  go_loopw [27] (fun i wr => ∃ (k : Nat) (x : Bk), k ≤ zs.length ∧ i = .int .i64 k ∧ HasB wr a x ∧ x.Ok ∧ Below w.heap.size w wr) (fun i _ => zs.length - (intOf i).toNat)
  case atStart => exact ⟨0, x0, Nat.zero_le _, rfl, h2, hx0, b2⟩
  case round =>
    clear h2 b2
    obtain ⟨k, x, hk, rfl, hax, hxo, hbel⟩ := hrel
    by_cases hlt : k < zs.length
    · rcases hr with hrd | ⟨bl, off, rfl, hbl, hc⟩
      · exfalso; rw [hrd] at hlt; simp at hlt
      have hcell := (hbel.cell (p := ⟨bl, off + k, none⟩) hbl).trans (hc k hlt)
      have HC := Lib.hid hc
      obtain ⟨u, eu⟩ : ∃ u, zs[k]?.getD 0 = u := ⟨_, rfl⟩
      rw [eu] at hcell
      clear eu hc
      have htk := take_any x hxo a u wr hax
      go_wp2_with fail
      refine htk.mono ?_
      rintro e w3 ⟨rfl, h3, g3, s3⟩
      have b3 := below_grown hbel g3 hbel.size haw
      clear s3 g3 hcell hbel hax htk
      go_wp2_with fail
      go_roundw
      case rel => exact ⟨k + 1, _, by omega, by go_num, h3, takeB_ok hxo u, b3⟩
      case measure => simp [intOf]; omega
    · clear hr hk
      have t5 : ∀ W b, HasB W b x → Calls Try.prog 15 #[.pointer (some ⟨b, 0, none⟩)] W fun e w' => e = .returned (.int .i64 (dueB x)) ∧ ∃ n, w' = W.drewN n := fun W b h => due_at hxo h rfl
      have t6 : ∀ W b, HasB W b x → Calls Try.prog 13 #[.pointer (some ⟨b, 0, none⟩), .int .i64 t] W fun e w' => e = .returned (.int .i64 (levelB x t)) ∧ ∃ n, w' = W.drewN n := fun W b h => level_at hxo h rfl
      have hdue : 0 ≤ dueB x ∧ dueB x ≤ 3458764513820540928 := by unfold dueB; have := hxo.n2; have := hxo.e0; split <;> omega
      have hfit : dueB x ≤ 1152921504606846976 → fitB x (dueB x) = true := fun h => by
        unfold fitB
        rw [hold60 hdue.1 h]
        cases hxa : x.a with
        | false => rfl
        | true => unfold dueB; rw [hxa]; simp only [if_true, Bool.not_true, Bool.false_or, decide_eq_true_eq]; omega
      have hnot : 0 < dueB x → dueB x ≤ 1152921504606846976 → fitB x (dueB x - 1) = false := fun h0 h => by
        unfold fitB
        rw [hold60 (by omega) (by omega)]
        cases hxa : x.a with
        | false => unfold dueB at h0; rw [hxa] at h0; simp at h0
        | true => unfold dueB at h0 ⊢; rw [hxa] at h0 ⊢; simp only [if_true, Bool.not_true, Bool.false_or, decide_eq_false_iff_not] at h0 ⊢; omega
      have t7 : dueB x ≤ 1152921504606846976 → ∀ W, HasB W a x → Calls Try.prog 14 #[.pointer (some ⟨a, 0, none⟩), .int .i64 (dueB x)] W fun e w' => e = .returned (.bool true) ∧ ∃ n, w' = W.drewN n := fun h W hh => fits_at hxo hh (hfit h)
      have t8 : 0 < dueB x → dueB x ≤ 1152921504606846976 → ∀ W, HasB W a x → Calls Try.prog 14 #[.pointer (some ⟨a, 0, none⟩), .int .i64 (dueB x - 1)] W fun e w' => e = .returned (.bool false) ∧ ∃ n, w' = W.drewN n := fun h0 h W hh => fits_at hxo hh (hnot h0 h)
      have t9 : 0 < dueB x → dueB x ≤ 1152921504606846976 → ∀ W, HasB W a x → Calls Try.prog 12 #[.pointer (some ⟨a, 0, none⟩), .int .i64 (dueB x - 1)] W fun e w' => e = .returned (.bool false) ∧ ∃ n, w' = W.drewN n := fun h0 h W hh => take_no x hxo a _ W hh (hnot h0 h)
      have t10 : ∀ W c, HasB W c x → Calls Try.prog 12 #[.pointer (some ⟨c, 0, none⟩), .int .i64 (dueB x)] W (SetsB c (takeB x (dueB x)) (.bool (fitB x (dueB x))) W) := fun W c h => take_any x hxo c _ W h
      have t11 : ∀ W b, HasB W b x → Calls Try.prog 16 #[.pointer (some ⟨b, 0, none⟩)] W (NewB x W) := fun W b h => copy_any x b W h
      obtain ⟨du, edu⟩ : ∃ du, dueB x = du := ⟨_, rfl⟩
      obtain ⟨lv, elv⟩ : ∃ lv, levelB x t = lv := ⟨_, rfl⟩
      rw [edu] at t5 hdue t7 t8 t9 t10
      rw [elv] at t6
      clear edu elv hfit hnot
      go_wp2_with fail
      refine (t5 _ _ (by exact hax)).mono ?_
      rintro e w3 ⟨rfl, n3, rfl⟩
      go_wp2_with fail
      refine (t6 _ _ (by exact hax)).mono ?_
      rintro e w3 ⟨rfl, n4, rfl⟩
      go_wp2_with fail
      refine (t11 _ _ (by exact hax)).mono ?_
      rintro e w5 ⟨c, rfl, hc, h5, g5⟩
      have b5 := new_below (below_drewN hbel _) hbel.size g5
      have hcw : w.heap.size ≤ c := Nat.le_trans hbel.size hc
      have hne : a ≠ c := two_ne hax hc
      have k5 : HasB w5 a x := HasB.kept' g5 hax rfl (by simp)
      clear hc g5 hbel hax t11
      go_wp2_with fail
      refine (t5 _ _ (by exact h5)).mono ?_
      rintro e w6 ⟨rfl, n6, rfl⟩
      go_wp2_with fail
      refine (t6 _ _ (by exact h5)).mono ?_
      rintro e w6 ⟨rfl, n7, rfl⟩
      by_cases hd1 : du ≤ 1152921504606846976
      · by_cases hd0 : 0 < du
        · have t7' := t7 hd1
          have t8' := t8 hd0 hd1
          have t9' := t9 hd0 hd1
          clear t7 t8 t9
          go_wp2_with fail
          refine (t7' _ (by exact k5)).mono ?_
          rintro e w6 ⟨rfl, n8, rfl⟩
          go_wp2_with fail
          refine (t8' _ (by exact k5)).mono ?_
          rintro e w6 ⟨rfl, n9, rfl⟩
          go_wp2_with fail
          refine (t9' _ (by exact k5)).mono ?_
          rintro e w6 ⟨rfl, n10, rfl⟩
          go_wp2_with fail
          refine (t5 _ _ (by exact k5)).mono ?_
          rintro e w6 ⟨rfl, n11, rfl⟩
          go_wp2_with fail
          refine (t10 _ _ (by exact h5)).mono ?_
          rintro e w7 ⟨rfl, h7, g7, s7⟩
          have k7 : HasB w7 a x := HasB.kept' g7 k5 rfl (by simp; omega)
          have b7 := below_grown (below_drewN b5 _) g7 b5.size hcw
          clear g7 s7 h5 k5
          go_wp2_with fail
          refine (t5 _ _ (by exact k7)).mono ?_
          rintro e w8 ⟨rfl, n12, rfl⟩
          go_wp2_with fail
          refine (t6 _ _ (by exact k7)).mono ?_
          rintro e w8 ⟨rfl, n13, rfl⟩
          go_wp2_with fail
          go_ret
          exact ⟨rfl, below_drewN b7 _⟩
        · have t7' := t7 hd1
          clear t7 t8 t9
          go_wp2_with fail
          refine (t7' _ (by exact k5)).mono ?_
          rintro e w6 ⟨rfl, n8, rfl⟩
          go_wp2_with fail
          refine (t5 _ _ (by exact k5)).mono ?_
          rintro e w6 ⟨rfl, n11, rfl⟩
          go_wp2_with fail
          refine (t10 _ _ (by exact h5)).mono ?_
          rintro e w7 ⟨rfl, h7, g7, s7⟩
          have k7 : HasB w7 a x := HasB.kept' g7 k5 rfl (by simp; omega)
          have b7 := below_grown (below_drewN b5 _) g7 b5.size hcw
          clear g7 s7 h5 k5
          go_wp2_with fail
          refine (t5 _ _ (by exact k7)).mono ?_
          rintro e w8 ⟨rfl, n12, rfl⟩
          go_wp2_with fail
          refine (t6 _ _ (by exact k7)).mono ?_
          rintro e w8 ⟨rfl, n13, rfl⟩
          go_wp2_with fail
          go_ret
          exact ⟨rfl, below_drewN b7 _⟩
      · clear t7 t8 t9
        go_wp2_with fail
        refine (t5 _ _ (by exact k5)).mono ?_
        rintro e w6 ⟨rfl, n11, rfl⟩
        go_wp2_with fail
        refine (t10 _ _ (by exact h5)).mono ?_
        rintro e w7 ⟨rfl, h7, g7, s7⟩
        have k7 : HasB w7 a x := HasB.kept' g7 k5 rfl (by simp; omega)
        have b7 := below_grown (below_drewN b5 _) g7 b5.size hcw
        clear g7 s7 h5 k5
        go_wp2_with fail
        refine (t5 _ _ (by exact k7)).mono ?_
        rintro e w8 ⟨rfl, n12, rfl⟩
        go_wp2_with fail
        refine (t6 _ _ (by exact k7)).mono ?_
        rintro e w8 ⟨rfl, n13, rfl⟩
        go_wp2_with fail
        go_ret
        exact ⟨rfl, below_drewN b7 _⟩

theorem due_long (st ea : Int) (A : Option Addr) (n cap : Nat) (d : Int) (w : World) (hn : 300 < n) :
    Calls Try.prog 7 #[.int .i64 st, .int .i64 ea, .slice A n cap, .int .i64 d] w fun e w' => e = .returned (.bool true) ∧ Below w.heap.size w w' := by
  go_enter Try.func7, Try.ntmps7
  go_wp2_with fail
  refine (awake_any _).mono ?_
  rintro e w1 ⟨rfl, b1⟩
  go_wp2_with fail
  refine (awake_any _).mono ?_
  rintro e w2 ⟨rfl, b2⟩
  go_wp2_with fail
  go_ret
  exact ⟨rfl, b1.trans (b2.mono b1.size)⟩

end Go.Proofs.Ytkaefdpjadifgaa
