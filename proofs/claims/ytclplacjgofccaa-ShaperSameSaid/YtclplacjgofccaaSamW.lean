/- The walk of ShaperSame. -/
import Derived.Test.YtclplacjgofccaaSamP
namespace Go.Proofs.Ytclplacjgofccaa
open Go.RowKit Go.Sort Go.Shelf Go.Lib
set_option linter.unusedVariables false
set_option linter.unusedSimpArgs false
attribute [local go_sem ↓] Go.wp_at_zero Go.wp_at_succ

set_option maxHeartbeats 3200000 in
theorem sam_walk (step early slow z other : Int) (A : Option Addr) (cap : Nat) (zs : List Int) (w : World) (h1 : 0 ≤ step ∧ step ≤ 65535) (h2 : 0 ≤ early ∧ early ≤ 65535) (h3 : 0 ≤ slow ∧ slow ≤ 65535) (h4 : 0 ≤ z ∧ z ≤ 255) (h5 : 0 ≤ other ∧ other ≤ 65535)
    (hn : zs.length ≤ 200) (hs : Bu.Small zs) (hr : Bu.Rd .u16 w A zs) :
    Calls Try.prog 7 #[.int .u16 step, .int .u16 early, .int .u16 slow, .slice A zs.length cap, .int .u8 z, .int .u16 other] w fun e w' => e = .returned (.bool true) ∧ Below w.heap.size w w' := by
  obtain ⟨n, en⟩ : ∃ n, max 1 step = n := ⟨_, rfl⟩
  have hnb : 1 ≤ n ∧ n ≤ 65535 := by omega
  have eA : newSh n early slow slow = ⟨n, early, slow, slow, 0, false, []⟩ := by
    unfold newSh
    rw [held_in (by omega), held_in (by omega), held_in (by omega), show max 1 n = n by omega, show min slow slow = slow by omega]
  have eC : newSh n early 1152921504606846976 1152921504606846976 = ⟨n, early, 1152921504606846976, 1152921504606846976, 0, false, []⟩ := by
    unfold newSh
    rw [held_in (by omega), held_in (by omega), held_in (by omega), show max 1 n = n by omega, Int.min_self]
  have cA := fun W => new_st n early slow slow W
  have cC := fun W => new_st n early 1152921504606846976 1152921504606846976 W
  simp only [eA] at cA
  simp only [eC] at cC
  have HA := Lib.hid cA
  have HC := Lib.hid cC
  obtain ⟨m, em⟩ : ∃ m, zs.length = m := ⟨_, rfl⟩
  rw [em] at hn ⊢
  have HE := Lib.hid (And.intro en (And.intro hr em))
  have HS := Lib.hid hs
  clear cA cC eA eC hr em hs
  go_enter Try.func7, Try.ntmps7
  go_wp2_with fail
  refine (awake_any _).mono ?_
  rintro e w1 ⟨rfl, b1⟩
  have HB1 := Lib.hid b1
  clear b1
  clear en
  go_wp2_with fail
  simp only [HE.out.1]
  refine (HA.out _).mono ?_
  rintro e w2 ⟨pa, rfl, hp2, s2, b2⟩
  have HB2 := Lib.hid (And.intro hp2 (And.intro s2 b2))
  clear hp2 s2 b2
  go_wp2_with fail
  refine (HA.out _).mono ?_
  rintro e w3 ⟨pb, rfl, hp3, s3, b3⟩
  have HB3 := Lib.hid (And.intro hp3 (And.intro s3 b3))
  clear hp3 s3 b3
  go_wp2_with fail
  refine (HC.out _).mono ?_
  rintro e w4 ⟨pc, rfl, hp4, s4, b4⟩
  have hb12 : Below w.heap.size w w2 := HB1.out.trans (HB2.out.2.2.mono HB1.out.size)
  have hb13 : Below w.heap.size w w3 := hb12.trans (HB3.out.2.2.mono hb12.size)
  have hb14 : Below w.heap.size w w4 := hb13.trans (b4.mono hb13.size)
  have hT : Rel3 w pa pb pc n early slow z 0 w4 := by
    have t1 := HB2.out.2.1.lt
    have t2 := HB3.out.2.1.lt
    have q2 := HB2.out.1
    have q3 := HB3.out.1
    exact ⟨0, false, [], [], ⟨(((HB2.out.2.1.base HB1.out.size).below HB3.out.2.2).below b4), ((HB3.out.2.1.base hb12.size).below b4), s4.base hb13.size, hb14, Nat.le_trans HB1.out.size q2, by omega, by omega⟩, .inl rfl, .inl rfl, fun _ => ⟨rfl, rfl⟩⟩
  have HT := Lib.hid hT
  clear hb12 hb13 hb14 hT hp4 s4 b4 HB1 HB2 HB3 HA HC
  go_wp2_with fail
  go_loopw [17, 53] (fun tv i wr => ∃ k : Nat, k ≤ m ∧ i = .int .i64 k ∧ tv = .int .i64 (Bu.sumTo zs k) ∧ Rel3 w pa pb pc n early slow z k wr) (fun _ i _ => m - (intOf i).toNat)
  case atStart => exact ⟨0, Nat.zero_le _, rfl, rfl, HT.out⟩
  case round =>
    obtain ⟨k, hk, rfl, rfl, hR⟩ := hrel
    have hb1 := Bu.sumTo_bd HS.out k
    by_cases hlt : k < m
    · obtain ⟨nx, an, Lb, Lc, hT, hB, hC, h0⟩ := hR
      rcases HE.out.2.1 with hr | ⟨bl, off, rfl, hbl, hc⟩
      · exfalso; have := HE.out.2.2; rw [hr] at this; simp at this; omega
      have hb2 := HS.out k
      have hcell : wr.cell? ⟨bl, off + k, none⟩ = some (.int .u16 (zs[k]?.getD 0)) := (hT.bel.cell (p := ⟨bl, off + k, none⟩) hbl).trans (hc k (by have := HE.out.2.2; omega))
      have hz : Bu.sumTo zs (k + 1) = Bu.sumTo zs k + zs[k]?.getD 0 := rfl
      have hb3 := Bu.sumTo_bd HS.out (k + 1)
      obtain ⟨g, eg⟩ : ∃ g, zs[k]?.getD 0 = g := ⟨_, rfl⟩
      obtain ⟨t, et⟩ : ∃ t, Bu.sumTo zs k = t := ⟨_, rfl⟩
      rw [eg] at hcell hz hb2
      rw [et] at hz hb1 ⊢
      rw [hz] at hb3
      have HZ := Lib.hid hz
      have hh : held (t + g) = t + g := held_in (by omega)
      have HR := Lib.hid (And.intro hT (And.intro hB (And.intro hC (And.intro h0 hh))))
      clear hT hB hC h0 hh hz eg et hc hbl
      go_upto_if 66 with fail
      go_cut [] (fun wx => ∃ (Lb Lc : List Ch), Three w wx pa pb pc ⟨n, early, slow, slow, nx, an, []⟩ ⟨n, early, slow, slow, nx, an, Lb⟩ ⟨n, early, 1152921504606846976, 1152921504606846976, nx, an, Lc⟩ ∧ okB n Lb ∧ okC Lc ∧ ((k : Int) + 1 ≤ z → Lb = [] ∧ Lc = []))
      case first =>
        by_cases hkz : (k : Int) = z
        · have hbq : ((k : Int) == z) = true := by simpa using hkz
          obtain ⟨rfl, rfl⟩ := HR.out.2.2.2.1 (by omega)
          have cB := HR.out.1.setB (t + g) n (set_empty (s := n)).1 (set_empty (s := n)).2
          have HKZ := Lib.hid hkz
          clear hkz
          go_wp2_with fail
          refine cB.mono ?_
          rintro e w5 ⟨rfl, hT5⟩
          have cC := hT5.setC (t + g) other (set_empty (s := other)).1 (set_empty (s := other)).2
          clear cB hT5
          go_wp2_with fail
          refine cC.mono ?_
          rintro e w6 ⟨rfl, hT6⟩
          have HT6 := Lib.hid hT6
          clear cC hT6
          go_wp2_with fail
          go_meet
          case rel =>
            have e1 : max 1 (held n) = n := by rw [held_in (by omega)]; omega
            have hq := HT6.out
            rw [e1, HR.out.2.2.2.2] at hq
            exact ⟨_, _, hq, .inr ⟨_, rfl⟩, .inr ⟨_, _, rfl, by simp only [ite_self]; omega⟩, fun h => absurd h (by have := HKZ.out; omega)⟩
        · have hbq : ((k : Int) == z) = false := by simpa using hkz
          have HKZ := Lib.hid hkz
          clear hkz
          go_wp2_with fail
          go_meet
          case rel => exact ⟨_, _, HR.out.1, HR.out.2.1, HR.out.2.2.1, fun h => HR.out.2.2.2.1 (by omega)⟩
      case rest =>
        obtain ⟨Lb', Lc', hT, hB, hC, h0⟩ := hcut
        have hh := HR.out.2.2.2.2
        have htl : t + g < 1152921504606846976 := by omega
        have hac := hC.ahead htl
        have eA := same_take (t := t + g) (n := n) (e := early) (s := slow) (q := slow) (nx := nx) (an := an) (L := []) rfl
        have eB := same_take (t := t + g) (n := n) (e := early) (s := slow) (q := slow) (nx := nx) (an := an) (L := Lb') (okB.come hB)
        have eC := same_take (t := t + g) (n := n) (e := early) (s := 1152921504606846976) (q := 1152921504606846976) (nx := nx) (an := an) (L := Lc') (by rw [hh]; exact comeF_ahead hac)
        rw [hh, leftF_ahead hac] at eC
        obtain ⟨r, er⟩ : ∃ r, fitP (t + g) early nx an = r := ⟨_, rfl⟩
        obtain ⟨nx', enx⟩ : ∃ nx', nxP (t + g) n early nx an = nx' := ⟨_, rfl⟩
        rw [er, enx] at eA eB eC
        have fA : fitSh (t + g) ⟨n, early, slow, slow, nx, an, []⟩ = r := er
        have fB : fitSh (t + g) ⟨n, early, slow, slow, nx, an, Lb'⟩ = r := er
        have fC : fitSh (t + g) ⟨n, early, 1152921504606846976, 1152921504606846976, nx, an, Lc'⟩ = r := er
        have H1 := Lib.hid (And.intro eB (And.intro eC (And.intro fB fC)))
        have H2 := Lib.hid (And.intro (okB.left (t := held (t + g)) hB) (And.intro hC h0))
        have cA := hT.takeA (t + g) fA eA
        clear eA eB eC fA fB fC er enx hac hh hB hC h0 hT
        go_wp2_with fail
        refine cA.mono ?_
        rintro e w5 ⟨rfl, hT5⟩
        have cB := hT5.takeB (t + g) H1.out.2.2.1 H1.out.1
        clear cA hT5
        go_wp2_with fail
        refine cB.mono ?_
        rintro e w6 ⟨rfl, hT6⟩
        have cC := hT6.takeC (t + g) H1.out.2.2.2 H1.out.2.1
        clear cB hT6
        go_wp2_with fail
        refine cC.mono ?_
        rintro e w7 ⟨rfl, hT7⟩
        have HT7 := Lib.hid hT7
        clear cC hT7
        go_wp2_with fail
        go_roundw
        case rel => exact ⟨k + 1, by omega, by go_num, by rw [HZ.out], nx', _, _, _, HT7.out, H2.out.1, H2.out.2.1, fun h => by
          obtain ⟨q1, q2⟩ := H2.out.2.2 (by push_cast at h; omega)
          subst q1
          subst q2
          exact ⟨rfl, rfl⟩⟩
        case measure => simp [intOf]; omega
    · obtain ⟨nx, an, Lb, Lc, hT, hB, hC, h0⟩ := hR
      obtain ⟨t, et⟩ : ∃ t, Bu.sumTo zs k = t := ⟨_, rfl⟩
      rw [et] at hb1 ⊢
      have htl : t < 1152921504606846976 := by omega
      have hac := hC.ahead htl
      have cc := step_st t hT.c
      have e1 : comeF (held t) n Lc = n := by rw [held_in (by omega)]; exact comeF_ahead hac
      simp only [e1] at cc
      have HT := Lib.hid hT
      clear hac e1 hT hB hC h0 et
      go_wp2_with fail
      refine cc.mono ?_
      rintro e w5 ⟨rfl, s5, b5⟩
      have hb5 : Below w.heap.size w w5 := HT.out.bel.trans (b5.mono HT.out.bel.size)
      clear cc s5 b5
      go_wp2_with fail
      go_ret
      exact ⟨rfl, hb5⟩

theorem sam_long (step early slow z other : Int) (A : Option Addr) (n cap : Nat) (w : World) (hn : 200 < n) :
    Calls Try.prog 7 #[.int .u16 step, .int .u16 early, .int .u16 slow, .slice A n cap, .int .u8 z, .int .u16 other] w fun e w' => e = .returned (.bool true) ∧ Below w.heap.size w w' := by
  go_enter Try.func7, Try.ntmps7
  go_wp2_with fail
  refine (awake_any _).mono ?_
  rintro e w1 ⟨rfl, b1⟩
  go_wp2_with fail
  refine (awake_any _).mono ?_
  rintro e w2 ⟨rfl, b2⟩
  go_wp2_with fail
  go_ret
  exact ⟨rfl, b1.trans (b2.mono b1.size)⟩

end Go.Proofs.Ytclplacjgofccaa
