/- The walk of ShaperPlays. -/
import Derived.Test.YtclplacjgofccaaPlaP
namespace Go.Proofs.Ytclplacjgofccaa
open Go.RowKit Go.Sort Go.Shelf Go.Lib
set_option linter.unusedVariables false
set_option linter.unusedSimpArgs false
attribute [local go_sem ↓] Go.wp_at_zero Go.wp_at_succ

set_option maxRecDepth 100000 in
set_option maxHeartbeats 3200000 in
theorem pla_walk (step early slow quick t : Int) (A : Option Addr) (cap : Nat) (zs : List Op2) (w : World) (hn : zs.length ≤ 200) (hr : RdO w A zs) :
    Calls Try.prog 3 #[.int .i64 step, .int .i64 early, .int .i64 slow, .int .i64 quick, .slice A zs.length cap, .int .i64 t] w fun e w' => e = .returned (.bool true) ∧ Below w.heap.size w w' := by
  obtain ⟨n, en⟩ : ∃ n, zs.length = n := ⟨_, rfl⟩
  rw [en] at hn ⊢
  have HE := Lib.hid (And.intro hr en)
  clear hr en
  go_enter Try.func3, Try.ntmps3
  go_wp2_with fail
  refine (awake_any _).mono ?_
  rintro e w1 ⟨rfl, b1⟩
  have HB1 := Lib.hid b1
  clear b1
  go_wp2_with fail
  refine (new_st _ _ _ _ _).mono ?_
  rintro e w2 ⟨p, rfl, hp, s2, b2⟩
  have HB2 := Lib.hid (And.intro hp (And.intro s2 b2))
  clear hp s2 b2
  go_wp2_with fail
  refine (Rf.new_any _ _ _ _ _).mono ?_
  rintro e w3 ⟨q, rfl, hq, r3, b3⟩
  have hb12 : Below w.heap.size w w2 := HB1.out.trans (HB2.out.2.2.mono HB1.out.size)
  have hD : Duo w w3 p q (newSh step early slow quick) (Rf.newR step early slow quick) :=
    ⟨(HB2.out.2.1.base HB1.out.size).below b3, ⟨_, r3, .inl ⟨rfl, rfl⟩⟩, by simp [Rf.newR], hb12.trans (b3.mono hb12.size), Nat.le_trans HB1.out.size HB2.out.1, Nat.le_trans hb12.size hq⟩
  have HD := Lib.hid hD
  clear hb12 hD hq r3 b3 HB1 HB2
  go_wp2_with fail
  go_loopw [40] (fun i wr => ∃ (k : Nat) (x : Sh) (y : Rf.Re), k ≤ n ∧ i = .int .i64 k ∧ Duo w wr p q x y ∧ Sim x y) (fun i _ => n - (intOf i).toNat)
  case atStart => exact ⟨0, _, _, Nat.zero_le _, rfl, HD.out, Sim.new _ _ _ _⟩
  case round =>
    obtain ⟨k, x, y, hk, rfl, hD, hS⟩ := hrel
    by_cases hlt : k < n
    · obtain ⟨b, off, rfl, hbl, hc0, hc1⟩ := HE.out.1.cells hD.bel (k := k) (by have := HE.out.2; omega)
      obtain ⟨_, _, e0, _, hw0, hw1⟩ := HE.out.1.cells (Below.refl w.heap.size w) (k := k) (by have := HE.out.2; omega)
      simp only [Option.some.injEq, Addr.mk.injEq, and_true] at e0
      obtain ⟨rfl, rfl⟩ := e0
      obtain ⟨o, eo⟩ : ∃ o, opAt zs k = o := ⟨_, rfl⟩
      obtain ⟨T, S⟩ := o
      rw [eo] at hc0 hc1 hw0 hw1
      simp only at hc0 hc1 hw0 hw1
      have HW := Lib.hid (And.intro hbl (And.intro hw0 hw1))
      have HDS := Lib.hid (And.intro hD hS)
      have hk0 : (0 : Int) ≤ (k : Int) := Int.natCast_nonneg _
      have hk1 : (k : Int) < (n : Int) := by omega
      clear hD hS hbl hw0 hw1 eo HD
      go_upto_if 48 with fail
      go_cut [] (fun wx => ∃ (x' : Sh) (y' : Rf.Re), Duo w wx p q x' y' ∧ Sim x' y')
      case first =>
        by_cases hs : 0 < S
        · have hset := HDS.out.2.set HDS.out.1.st.l8 T S
          obtain ⟨r, er⟩ : ∃ r, setR T x = r := ⟨_, rfl⟩
          rw [er] at hset
          have HR := Lib.hid (And.intro er hset)
          have hbr : 0 ≤ y.slow ∧ y.slow ≤ 1152921504606846976 ∧ 0 ≤ y.quick ∧ y.quick ≤ 1152921504606846976 := by
            rw [HDS.out.2.l, HDS.out.2.q]
            have ok := HDS.out.1.st.ok
            exact ⟨ok.l0, ok.l2, ok.q0, ok.q2⟩
          have HBR := Lib.hid hbr
          have hDd := HDS.out.1.drew
          clear er hset hbr
          go_wp2_with fail
          go_region_held3 (fun w' => w'.cell? ⟨b, off + k * 2, none⟩ = some (.int .i64 T) ∧ w'.cell? ⟨b, off + k * 2 + 1, none⟩ = some (.int .i64 S)) (first | (exact ⟨by assumption, by assumption⟩) | go_keep)
            (first
              | (go_at_call 12; refine (Duo.set (by assumption) T S HR.out.1).mono ?_; rintro e w4 ⟨rfl, h4⟩; have hc4 := (h4.bel.cell (p := ⟨b, off + k * 2, none⟩) HW.out.1).trans HW.out.2.1; have hc4' := (h4.bel.cell (p := ⟨b, off + k * 2 + 1, none⟩) HW.out.1).trans HW.out.2.2)
              | (go_at_call 13; refine (Duo.setRe (by assumption) T S HR.out.2.1 HBR.out).mono ?_; rintro e w5 ⟨rfl, h5⟩; have hc5 := (h5.bel.cell (p := ⟨b, off + k * 2, none⟩) HW.out.1).trans HW.out.2.1; have hc5' := (h5.bel.cell (p := ⟨b, off + k * 2 + 1, none⟩) HW.out.1).trans HW.out.2.2))
          all_goals
            go_wp2_with fail
            go_meet
            case rel => exact ⟨_, _, by assumption, HR.out.2.2⟩
        · have hfit := HDS.out.2.fit T
          have htk := HDS.out.2.take HDS.out.1.st.ok T
          have hok := HDS.out.2.okR HDS.out.1.st.ok T
          obtain ⟨r, er⟩ : ∃ r, fitSh T x = r := ⟨_, rfl⟩
          rw [er] at hfit
          have HR := Lib.hid (And.intro er (And.intro hfit (And.intro htk hok)))
          have hDd := HDS.out.1.drew
          clear er hfit htk hok
          go_wp2_with fail
          go_region_held3 (fun w' => w'.cell? ⟨b, off + k * 2, none⟩ = some (.int .i64 T)) (first | assumption | go_keep)
            (first
              | (go_at_call 14; refine (Duo.take (by assumption) T HR.out.1).mono ?_; rintro e w4 ⟨rfl, h4⟩; have hc4 := (h4.bel.cell (p := ⟨b, off + k * 2, none⟩) HW.out.1).trans HW.out.2.1)
              | (go_at_call 15; refine (Duo.takeRe (by assumption) T HR.out.2.1 HR.out.2.2.2).mono ?_; rintro e w5 ⟨rfl, h5⟩; have hc5 := (h5.bel.cell (p := ⟨b, off + k * 2, none⟩) HW.out.1).trans HW.out.2.1))
          all_goals
            go_wp2_with fail
            go_meet
            case rel => exact ⟨_, _, by assumption, HR.out.2.2.1⟩
      case rest =>
        obtain ⟨x', y', hD, hS⟩ := hcut
        obtain ⟨w6, rfl⟩ : ∃ w6 : World, w6 = wc := ⟨_, rfl⟩
        have ey : comeF (held t) y'.step y'.L = comeF (held t) x'.step x'.L := by rw [hS.s, hS.L]
        obtain ⟨F, eF⟩ : ∃ F, comeF (held t) x'.step x'.L = F := ⟨_, rfl⟩
        rw [eF] at ey
        have cc := hD.come t ey
        have HS := Lib.hid (And.intro eF hS)
        clear ey eF hS hc0 hc1 HDS hD
        go_wp2_with fail
        refine cc.mono ?_
        rintro e w7 ⟨v7, rfl, hD7⟩
        clear cc
        have hDd := hD7.drew
        obtain ⟨A7, c7, h7⟩ := hDd.c7
        have hyl : y'.L.length = x'.L.length := by rw [HS.out.2.L]
        obtain ⟨N, eN⟩ : ∃ N, x'.L.length = N := ⟨_, rfl⟩
        rw [hyl, eN] at h7
        have HN := Lib.hid eN
        clear hyl eN hD7
        go_wp2_with fail
        go_region_held3 (fun w' => w'.cell? ⟨q, 7, none⟩ = some (.slice A7 N c7)) (first | assumption | exact hc8' | go_keep)
            (first
              | (go_at_call 17; refine (Duo.wait (by assumption) HN.out).mono ?_; rintro e w8 ⟨rfl, rfl⟩)
              | (go_at_call 18; refine (Duo.step (by assumption) t HS.out.1).mono ?_; rintro e w8 ⟨rfl, h8, hc8⟩; have hc8' := hc8.trans h7))
        all_goals
          go_wp2_with fail
          go_roundw
          case rel => exact ⟨k + 1, _, _, by omega, by go_num, by assumption, HS.out.2⟩
          case measure => simp [intOf]; omega
    · have hDd := hD.drew
      obtain ⟨A7, c7, h7⟩ := hDd.c7
      have hyl : y.L.length = x.L.length := by rw [hS.L]
      obtain ⟨N, eN⟩ : ∃ N, x.L.length = N := ⟨_, rfl⟩
      rw [hyl, eN] at h7
      have HN := Lib.hid eN
      have HDD := Lib.hid hD
      clear hyl eN hD hS HD
      go_wp2_with fail
      go_region_held3 (fun w' => w'.cell? ⟨q, 7, none⟩ = some (.slice A7 N c7)) (first | assumption | go_keep)
        (first | (go_at_call 17; refine (Duo.wait (by assumption) HN.out).mono ?_; rintro e w8 ⟨rfl, rfl⟩))
      all_goals
        go_wp2_with fail
        go_ret
        exact ⟨rfl, hDd.bel⟩

theorem pla_long (step early slow quick t : Int) (A : Option Addr) (n cap : Nat) (w : World) (hn : 200 < n) :
    Calls Try.prog 3 #[.int .i64 step, .int .i64 early, .int .i64 slow, .int .i64 quick, .slice A n cap, .int .i64 t] w fun e w' => e = .returned (.bool true) ∧ Below w.heap.size w w' := by
  go_enter Try.func3, Try.ntmps3
  go_wp2_with fail
  refine (awake_any _).mono ?_
  rintro e w1 ⟨rfl, b1⟩
  go_wp2_with fail
  refine (awake_any _).mono ?_
  rintro e w2 ⟨rfl, b2⟩
  go_wp2_with fail
  go_ret
  exact ⟨rfl, b1.trans (b2.mono b1.size)⟩

end Go.Proofs.Ytclplacjgofccaa
