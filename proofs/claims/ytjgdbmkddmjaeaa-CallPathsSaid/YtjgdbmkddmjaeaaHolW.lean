/- The walk of CallHolds. -/
import Derived.Test.YtjgdbmkddmjaeaaF
import Derived.Deep.RegionWith
namespace Go.Proofs.Ytjgdbmkddmjaeaa
open Go.RowKit
set_option linter.unusedVariables false
set_option linter.unusedSimpArgs false
attribute [local go_sem ↓] Go.wp_at_zero Go.wp_at_succ

theorem step_at (s : St) (what t : Int) (m : Tm) (w : World) (ht : 0 ≤ t ∧ t ≤ 1152921504606846976) : Calls Try.prog 10 #[.agg #[.int .i64 s.ph, .int .i64 s.du, .int .i64 s.tr], .int .i64 what, .int .i64 t, .agg #[.int .i64 m.a, .int .i64 m.b, .int .i64 m.c]] w (Steps (stepF s what t m).1 (stepF s what t m).2 w) := step_any s what t m w ht

set_option maxHeartbeats 3200000 in
theorem hol_walk (A : Option Addr) (cap : Nat) (zs : List Op2) (m : Tm) (w : World) (hz : WfO zs) (hn : zs.length ≤ 100) (hr : RdO w A zs) :
    Calls Try.prog 3 #[.slice A zs.length cap, .agg #[.int .i64 m.a, .int .i64 m.b, .int .i64 m.c]] w fun e w' => e = .returned (.bool true) ∧ Below w.heap.size w w' := by
  have HZ := Lib.hid hz
  have HR := Lib.hid hr
  have hT0 : HasT (w.alloc (.cells #[.int .i64 m.a, .int .i64 m.b, .int .i64 m.c] 24)) w.heap.size m := heap_alloc_new w _
  have hB0 : Below w.heap.size w (w.alloc (.cells #[.int .i64 m.a, .int .i64 m.b, .int .i64 m.c] 24)) := (Below.refl _ _).alloc (Nat.le_refl _) _
  have HT := Lib.hid (And.intro hT0 hB0)
  clear hz hr hT0 hB0
  go_enter Try.func3, Try.ntmps3
  go_wp2_with fail
  refine (awake_any _).mono ?_
  rintro e w1 ⟨rfl, b1⟩
  have hT1 := HT.out.1.below b1
  have hB1 := HT.out.2.trans (b1.mono HT.out.2.size)
  have hT2 : HasT (w1.alloc (.cells #[.int .i64 0, .int .i64 0, .int .i64 0] 27)) w.heap.size m := (Below.heap_alloc w1 _ _ hT1.lt).trans hT1
  have hS2 : HasS (w1.alloc (.cells #[.int .i64 0, .int .i64 0, .int .i64 0] 27)) w1.heap.size ⟨0, 0, 0⟩ := heap_alloc_new w1 _
  have hB2 : Below w.heap.size w (w1.alloc (.cells #[.int .i64 0, .int .i64 0, .int .i64 0] 27)) := hB1.alloc hB1.size _
  obtain ⟨p, ep⟩ : ∃ p, w1.heap.size = p := ⟨_, rfl⟩
  have hpw : w.heap.size ≤ p := by rw [← ep]; exact hB1.size
  rw [ep] at hS2
  have HE := Lib.hid (And.intro hT2 (And.intro hS2 hB2))
  clear b1 hT1 hB1 HT hT2 hS2 hB2
  go_wp2_with fail
  clear ep
  obtain ⟨w2, hw2⟩ : ∃ w2, (w1.alloc (.cells #[.int .i64 0, .int .i64 0, .int .i64 0] 27)) = w2 := ⟨_, rfl⟩
  rw [hw2] at HE ⊢
  clear hw2 w1
  go_loopw [6, 7, 20] (fun tv nv i wr => ∃ (k : Nat) (s : St) (n t : Int), k ≤ zs.length ∧ i = .int .i64 k ∧ tv = .int .i64 t ∧ nv = .int .i64 n ∧ 0 ≤ t ∧ t ≤ k * 4294967295 ∧ HasS wr p s ∧ HasT wr w.heap.size m ∧ Inv s n t m ∧ Below w.heap.size w wr) (fun _ _ i _ => zs.length - (intOf i).toNat)
  case atStart => exact ⟨0, ⟨0, 0, 0⟩, 0, 0, Nat.zero_le _, rfl, rfl, rfl, Int.le_refl _, by omega, HE.out.2.1, HE.out.1, .inl ⟨rfl, rfl, rfl, rfl⟩, HE.out.2.2⟩
  case round =>
    clear HE
    obtain ⟨k, s, n, t, hk, rfl, rfl, rfl, ht0, ht1, hS, hT, hI, hbel⟩ := hrel
    by_cases hlt : k < zs.length
    · obtain ⟨b, off, rfl, hbl, c0, c1⟩ := HR.out.cells hbel hlt
      have hz := HZ.out k
      obtain ⟨o, eo⟩ : ∃ o, opAt zs k = o := ⟨_, rfl⟩
      rw [eo] at c0 c1 hz
      obtain ⟨what, gap⟩ := o
      simp only at c0 c1 hz
      obtain ⟨hz1, hz2, hz3⟩ := hz
      clear eo
      have hk0 := step_at s what (t + gap) m
      have hI' := step_inv (hI.later (t' := t + gap) (by omega)) (by omega) what
      have hl' := step_len s what (t + gap) m
      obtain ⟨F, hF⟩ : ∃ F, stepF s what (t + gap) m = F := ⟨_, rfl⟩
      rw [hF] at hk0 hI' hl'
      obtain ⟨s', l⟩ := F
      simp only at hk0 hI' hl'
      have hol := fun A c w hr => holds_any n hI.n01 l (by omega) A c w hr
      obtain ⟨n', en⟩ : ∃ n', holdsF n l = n' := ⟨_, rfl⟩
      rw [en] at hol hI'
      clear en
      have hs0 := hS.c0
      have hs1 := hS.c1
      have hs2 := hS.c2
      have hm0 := hT.c0
      have hm1 := hT.c1
      have hm2 := hT.c2
      have hfr := hS.fr
      have hpl := hS.lt
      have hql := hT.lt
      have hpq : w.heap.size ≠ p := hS.ne hT
      have hbp : b ≠ p := by omega
      have hbwr : b < wr.heap.size := Nat.lt_of_lt_of_le hbl hbel.size
      have HH := Lib.hid (And.intro hS (And.intro hT (And.intro hI' (And.intro hbel (And.intro hI.n01 hl')))))
      clear hF hS hT hI hI' hl'
      go_wp2_with fail
      go_region_with
        (first | (go_at_call 10; refine (hk0 _ (by omega)).mono ?_; rintro e w3 ⟨A3, c3, rfl, hr3, hf3, hb3⟩; have HB := Lib.hid (And.intro hr3 (And.intro hf3 hb3)); clear hf3 hr3; obtain ⟨hc, hf⟩ := bcell hb3; have k0 : w3.cell? ⟨p, 0, none⟩ = some (.int .i64 s.ph) := (hc _ _ hpl).trans hs0; have k1 : w3.cell? ⟨p, 1, none⟩ = some (.int .i64 s.du) := (hc _ _ hpl).trans hs1; have k2 : w3.cell? ⟨p, 2, none⟩ = some (.int .i64 s.tr) := (hc _ _ hpl).trans hs2; have k3 : w3.frozen? ⟨p, 0, none⟩ = false := (hf _ _ hpl).trans (hfr 0); have k4 : w3.frozen? ⟨p, 1, none⟩ = false := (hf _ _ hpl).trans (hfr 1); have k5 : w3.frozen? ⟨p, 2, none⟩ = false := (hf _ _ hpl).trans (hfr 2)))
      all_goals
        go_wp2_with fail
        have hst := stored (w := w) (B := w.heap.size) (w0 := wr.drew) (w1 := w3) (s' := s') HH.out.1 HH.out.2.1 HB.out.1 HB.out.2.1 HB.out.2.2 HH.out.2.2.2.1.drew HH.out.2.2.2.1.size hpw
        obtain ⟨W5, hW5⟩ : ∃ W5, (((w3.setCell ⟨p, 0, none⟩ (.int .i64 s'.ph)).setCell ⟨p, 1, none⟩ (.int .i64 s'.du)).setCell ⟨p, 2, none⟩ (.int .i64 s'.tr)) = W5 := ⟨_, rfl⟩
        rw [hW5] at hst ⊢
        obtain ⟨t1, t2, t3, t4⟩ := hst
        clear hW5 hc hf k0 k1 k2 k3 k4 k5 HB hb3 hs0 hs1 hs2 hm0 hm1 hm2 c0 c1 hfr hpl hql hbwr hbel
        refine (hol _ _ _ t3).mono ?_
        rintro e w6 ⟨rfl, rfl⟩
        have hI5 := HH.out.2.2.1
        have d0 := t1.c0
        have d1 := t1.c1
        have d2 := t1.c2
        have HP := Lib.hid (And.intro t1 (And.intro t2 (And.intro hI5 t4)))
        clear t1 t2 t3 t4 hol hk0 HH
        obtain ⟨ph, du, tr⟩ := s'
        simp only at d0 d1 d2
        have HI := Lib.hid hI5
        rcases hI5 with ⟨h1, h2, h3, h4⟩ | ⟨h1, h2, h3, h4, h5⟩ | ⟨h1, h2, h3, h4, h5⟩ | ⟨h1, h2, h3, h4, h5⟩ | ⟨h1, h2, h3, h4⟩ | ⟨h1, h2, h3, h4, h5⟩
        · simp only at h1 h2
          clear HI h3
          subst h1 h2 h4
          go_wp2_with fail
          go_roundw
          case rel => exact ⟨k + 1, _, _, _, by omega, by go_num, rfl, rfl, by omega, by omega, HP.out.1, HP.out.2.1, HP.out.2.2.1, HP.out.2.2.2⟩
          case measure => simp [intOf]; omega
        · simp only at h1 h2
          clear HI h3 h4
          subst h1 h5
          go_wp2_with fail
          go_roundw
          case rel => exact ⟨k + 1, _, _, _, by omega, by go_num, rfl, rfl, by omega, by omega, HP.out.1, HP.out.2.1, HP.out.2.2.1, HP.out.2.2.2⟩
          case measure => simp [intOf]; omega
        · simp only at h1 h2
          clear HI h3 h4
          subst h1 h5
          go_wp2_with fail
          go_roundw
          case rel => exact ⟨k + 1, _, _, _, by omega, by go_num, rfl, rfl, by omega, by omega, HP.out.1, HP.out.2.1, HP.out.2.2.1, HP.out.2.2.2⟩
          case measure => simp [intOf]; omega
        · simp only at h1 h2
          clear HI h3 h4
          subst h1 h5
          go_wp2_with fail
          go_roundw
          case rel => exact ⟨k + 1, _, _, _, by omega, by go_num, rfl, rfl, by omega, by omega, HP.out.1, HP.out.2.1, HP.out.2.2.1, HP.out.2.2.2⟩
          case measure => simp [intOf]; omega
        · simp only at h1 h2
          clear HI h3
          subst h1 h2 h4
          go_wp2_with fail
          go_roundw
          case rel => exact ⟨k + 1, _, _, _, by omega, by go_num, rfl, rfl, by omega, by omega, HP.out.1, HP.out.2.1, HP.out.2.2.1, HP.out.2.2.2⟩
          case measure => simp [intOf]; omega
        · simp only at h1 h2
          clear HI h3 h4
          subst h1 h5
          go_wp2_with fail
          go_roundw
          case rel => exact ⟨k + 1, _, _, _, by omega, by go_num, rfl, rfl, by omega, by omega, HP.out.1, HP.out.2.1, HP.out.2.2.1, HP.out.2.2.2⟩
          case measure => simp [intOf]; omega
    · go_wp2_with fail
      go_ret
      exact ⟨rfl, hbel⟩

theorem hol_long (A : Option Addr) (n cap : Nat) (m : Tm) (w : World) (hn : 100 < n) :
    Calls Try.prog 3 #[.slice A n cap, .agg #[.int .i64 m.a, .int .i64 m.b, .int .i64 m.c]] w fun e w' => e = .returned (.bool true) ∧ Below w.heap.size w w' := by
  have hB0 : Below w.heap.size w (w.alloc (.cells #[.int .i64 m.a, .int .i64 m.b, .int .i64 m.c] 24)) := (Below.refl _ _).alloc (Nat.le_refl _) _
  have HB := Lib.hid hB0
  clear hB0
  go_enter Try.func3, Try.ntmps3
  go_wp2_with fail
  refine (awake_any _).mono ?_
  rintro e w1 ⟨rfl, b1⟩
  have HB1 := Lib.hid (HB.out.trans (b1.mono HB.out.size))
  clear b1
  go_wp2_with fail
  refine (awake_any _).mono ?_
  rintro e w2 ⟨rfl, b2⟩
  go_wp2_with fail
  go_ret
  exact ⟨rfl, HB1.out.trans (b2.mono HB1.out.size)⟩

end Go.Proofs.Ytjgdbmkddmjaeaa
