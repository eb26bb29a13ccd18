/- The walk of LedgerOrder. -/
import Derived.Test.YthgjccbmfbileaaOrdP
namespace Go.Proofs.Ythgjccbmfbileaa
open Go.RowKit Go.Maps
set_option linter.unusedVariables false
set_option linter.unusedSimpArgs false

theorem left_is {w W : World} {p m : Nat} {x : Lg} {r : Int} (h : Is w W p m x) (hr : x.room - tot x.L = r) : Calls Try.prog 13 #[.pointer (some ⟨p, 0, none⟩)] W fun e w' => e = .returned (.int .i64 r) ∧ ∃ n, w' = W.drewN n := left_at h.ok h.has hr

set_option maxRecDepth 100000 in
set_option maxHeartbeats 3200000 in
theorem ord_walk (A : Option Addr) (cap : Nat) (zs : List Int) (w : World) (hs : Small zs) (hn : zs.length ≤ 100) (hr : Rd16 w A zs) :
    Calls Try.prog 4 #[.slice A zs.length cap] w fun e w' => e = .returned (.bool true) ∧ Below w.heap.size w w' := by
  obtain ⟨n, en⟩ : ∃ n, zs.length = n := ⟨_, rfl⟩
  rw [en] at hn ⊢
  have HE := Lib.hid (And.intro hr (And.intro en hs))
  clear hr en hs
  go_enter Try.func4, Try.ntmps4
  go_wp2_with fail
  refine (awake_any _).mono ?_
  rintro e w1 ⟨rfl, b1⟩
  have HB := Lib.hid b1
  clear b1
  go_wp2_with fail
  go_loop [3, 19] (fun s i => ∃ k : Nat, k ≤ n ∧ i = .int .i64 k ∧ s = .int .i64 (sumZ zs k)) (fun _ i => n - (intOf i).toNat)
  case atStart => exact ⟨0, Nat.zero_le _, rfl, rfl⟩
  case round =>
    obtain ⟨k, hk, rfl, rfl⟩ := hrel
    have hb1 := sumZ_bd HE.out.2.2 k
    by_cases hlt : k < n
    · rcases HE.out.1 with hr | ⟨bl, off, rfl, hbl, hc⟩
      · exfalso; have := HE.out.2.1; rw [hr] at this; simp at this; omega
      have hcell : w1.cell? ⟨bl, off + k, none⟩ = some (.int .u16 (zAt zs k)) := (HB.out.cell (p := ⟨bl, off + k, none⟩) hbl).trans (hc k (by have := HE.out.2.1; omega))
      have hz := HE.out.2.2 k
      have hsk : sumZ zs (k + 1) = sumZ zs k + zAt zs k := rfl
      obtain ⟨z, ez⟩ : ∃ z, zAt zs k = z := ⟨_, rfl⟩
      obtain ⟨t, et⟩ : ∃ t, sumZ zs k = t := ⟨_, rfl⟩
      rw [ez] at hcell hz hsk
      rw [et] at hsk hb1 ⊢
      have HS := Lib.hid hsk
      clear hsk ez et hc hbl
      go_wp2_with fail
      go_round
      case rel => exact ⟨k + 1, by omega, by go_num, by rw [HS.out]⟩
      case measure => simp [intOf]; omega
    · obtain rfl : k = n := by omega
      obtain ⟨N, eN⟩ : ∃ N, sumZ zs k = N := ⟨_, rfl⟩
      have hN : max 0 (min N 1152921504606846976) = N := by omega
      rw [eN] at hb1 ⊢
      have cn := fun W (hb : Below w.heap.size w W) => Is.new (w := w) N hb
      simp only [hN] at cn
      have HN := Lib.hid cn
      have HEN := Lib.hid eN
      clear cn hN eN
      go_wp2_with fail
      refine (HN.out _ HB.out).mono ?_
      rintro e w2 ⟨p, m, rfl, hp, hm, h2, b2⟩
      have hpl := h2.has.lt
      have hml := h2.has.own.lt
      have H2 := Lib.hid (And.intro h2 (And.intro hpl hml))
      clear hp hm h2 b2 hpl hml
      go_wp2_with fail
      refine (HN.out _ H2.out.1.bel).mono ?_
      rintro e w3 ⟨q, r, rfl, hq, hr', h3, b3⟩
      have hne : p ≠ q ∧ p ≠ r ∧ m ≠ q ∧ m ≠ r := by
        have := H2.out.2
        omega
      have H3 := Lib.hid (And.intro (H2.out.1.below b3) (And.intro h3 hne))
      clear hq hr' h3 b3 hne
      go_wp2_with fail
      go_loopw [36] (fun i wr => ∃ j : Nat, j ≤ k ∧ i = .int .i64 j ∧ Is w wr p m ⟨N, segL zs 0 j⟩ ∧ Is w wr q r ⟨N, segL zs (k - j) j⟩) (fun i _ => k - (intOf i).toNat)
      case atStart => exact ⟨0, Nat.zero_le _, rfl, H3.out.1, H3.out.2.1⟩
      case round =>
        obtain ⟨j, hj, rfl, hA, hB⟩ := hrel
        by_cases hlt2 : j < k
        · rcases HE.out.1 with hr | ⟨bl, off, rfl, hbl, hc⟩
          · exfalso; have := HE.out.2.1; rw [hr] at this; simp at this; omega
          obtain ⟨i, ei⟩ : ∃ i, k - 1 - j = i := ⟨_, rfl⟩
          have hca := hc j (by have := HE.out.2.1; omega)
          have hcb := hc i (by have := HE.out.2.1; omega)
          have hcj : wr.cell? ⟨bl, off + j, none⟩ = some (.int .u16 (zAt zs j)) := (hA.bel.cell (p := ⟨bl, off + j, none⟩) hbl).trans hca
          have hci : wr.cell? ⟨bl, off + i, none⟩ = some (.int .u16 (zAt zs i)) := (hA.bel.cell (p := ⟨bl, off + i, none⟩) hbl).trans hcb
          have hzj := HE.out.2.2 j
          have hzi := HE.out.2.2 i
          have oa := ord_a HE.out.2.2 hlt2
          have ob := ord_b HE.out.2.2 hlt2
          rw [ei] at ob
          rw [HEN.out] at oa ob
          have hA' := hA.book (WalkArith.wf_i64 (by omega)) (by rw [segL_len]; omega) oa.1 oa.2
          have HBo := Lib.hid (And.intro hB (And.intro ob (And.intro hbl (And.intro hcb hA))))
          have hkk : (k : Int) - 1 - (j : Int) = (i : Int) := by omega
          have hi0 : (0 : Int) ≤ (i : Int) := Int.natCast_nonneg _
          have hi1 : (i : Int) < (k : Int) := by omega
          have hj0 : (0 : Int) ≤ (j : Int) := Int.natCast_nonneg _
          have HEI := Lib.hid ei
          obtain ⟨zj, ezj⟩ : ∃ z, zAt zs j = z := ⟨_, rfl⟩
          obtain ⟨zi, ezi⟩ : ∃ z, zAt zs i = z := ⟨_, rfl⟩
          rw [ezj] at hcj hzj hA'
          rw [ezi] at hci hzi HBo
          have HA' := Lib.hid hA'
          clear hA hB oa ob hc hca hcb hbl ei ezj ezi hA'
          go_wp2_with fail
          refine HA'.out.mono ?_
          rintro e w4 ⟨rfl, hA4, kA⟩
          have hne := H3.out.2.2
          have hB4 := HBo.out.1.other HBo.out.2.2.2.2 (Ne.symm hne.1) (Ne.symm hne.2.2.1) (Ne.symm hne.2.1) (Ne.symm hne.2.2.2) kA
          have hcb4 : w4.cell? ⟨bl, off + i, none⟩ = some (.int .u16 zi) := (hA4.bel.cell (p := ⟨bl, off + i, none⟩) HBo.out.2.2.1).trans HBo.out.2.2.2.1
          have hB' := hB4.book (WalkArith.wf_i64 (by omega)) (by rw [segL_len]; omega) HBo.out.2.1.1 HBo.out.2.1.2
          have HB' := Lib.hid hB'
          have H4 := Lib.hid (And.intro hA4 hB4)
          clear hA4 kA hB4 hB' hne hcj hci
          go_wp2_with fail
          refine HB'.out.mono ?_
          rintro e w5 ⟨rfl, hB5, kB⟩
          have hne := H3.out.2.2
          have hA5 := H4.out.1.other H4.out.2 hne.1 hne.2.1 hne.2.2.1 hne.2.2.2 kB
          have H5 := Lib.hid (And.intro hA5 hB5)
          clear hB5 kB hA5 hne
          go_wp2_with fail
          go_roundw
          case rel => exact ⟨j + 1, by omega, by go_num, H5.out.1, H5.out.2⟩
          case measure => simp [intOf]; omega
        · obtain rfl : j = k := by omega
          rw [Nat.sub_self] at hB
          have he := ord_end (zs := zs) j
          rw [HEN.out] at he
          have hlen : (segL zs 0 j).length = j := segL_len zs 0 j
          obtain ⟨L, eL⟩ : ∃ L, segL zs 0 j = L := ⟨_, rfl⟩
          rw [eL] at hA hB he hlen
          have HL1 := Lib.hid (left_is hA he.1)
          have HL2 := Lib.hid (fun n => left_is (hB.drewN n) he.1)
          have HBk := Lib.hid (fun n => (hA.drewN n).book (id := -1) (need := 1) (by decide) (show L.length < 1000000 by omega) he.2.1 he.2.2)
          have HAB := Lib.hid (And.intro hA hB)
          have HLen := Lib.hid hlen
          have hL1000 : L.length ≤ 1000 := by omega
          clear hA hB he eL hlen
          go_wp2_with fail
          refine HL1.out.mono ?_
          rintro e w4 ⟨rfl, n4, rfl⟩
          go_wp2_with fail
          refine (HL2.out n4).mono ?_
          rintro e w5 ⟨rfl, n5, rfl⟩
          go_wp2_with fail
          refine (HBk.out _).mono ?_
          rintro e w6 ⟨rfl, hA6, k6⟩
          have hne := H3.out.2.2
          have hB6 := (HAB.out.2.drewN (n4 + n5)).other (HAB.out.1.drewN (n4 + n5)) (Ne.symm hne.1) (Ne.symm hne.2.2.1) (Ne.symm hne.2.1) (Ne.symm hne.2.2.2) k6
          have HA6 := Lib.hid (hA6.all hL1000)
          have HB6 := Lib.hid hB6
          clear hA6 k6 hB6 hne
          go_wp2_with fail
          refine HA6.out.mono ?_
          rintro e w7 ⟨v7, rfl, r7, hA7, b7⟩
          have hB7 := HB6.out.below b7
          have HB7 := Lib.hid (hB7.all hL1000)
          have HA7 := Lib.hid (And.intro hA7 r7)
          obtain ⟨A7, c7, rfl, _⟩ := r7.rd
          clear r7 hA7 b7 hB7
          go_wp2_with fail
          refine HB7.out.mono ?_
          rintro e w8 ⟨v8, rfl, r8, _, b8⟩
          have r7' := row_below HA7.out.2 b8
          have hA8 := HA7.out.1.below b8
          obtain ⟨A7', c7', e7, d7⟩ := r7'.rd
          simp only [Value.slice.injEq] at e7
          obtain ⟨e71, _, e72⟩ := e7
          subst e71
          subst e72
          obtain ⟨A8, c8, rfl, d8⟩ := r8.rd
          have HSm := Lib.hid (same_eq (c := c7) (c' := c8) (by omega) d7 d8)
          have HA8 := Lib.hid (fun n => (hA8.drewN n).all hL1000)
          clear r7' hA8 d7 d8 r8 b8
          go_wp2_with fail
          refine HSm.out.mono ?_
          rintro e w9 ⟨rfl, n9, rfl⟩
          go_wp2_with fail
          refine (HA8.out n9).mono ?_
          rintro e wa ⟨va, rfl, ra, ha, _⟩
          obtain ⟨Aa, ca, eva, _⟩ := ra.rd
          rw [HLen.out] at eva
          subst eva
          have Ha := Lib.hid ha.bel
          clear ra ha
          go_wp2_with fail
          go_ret
          exact ⟨rfl, Ha.out⟩

theorem ord_long (A : Option Addr) (n cap : Nat) (w : World) (hn : 100 < n) :
    Calls Try.prog 4 #[.slice A n cap] w fun e w' => e = .returned (.bool true) ∧ Below w.heap.size w w' := by
  go_enter Try.func4, Try.ntmps4
  go_wp2_with fail
  refine (awake_any _).mono ?_
  rintro e w1 ⟨rfl, b1⟩
  go_wp2_with fail
  refine (awake_any _).mono ?_
  rintro e w2 ⟨rfl, b2⟩
  go_wp2_with fail
  go_ret
  exact ⟨rfl, b1.trans (b2.mono b1.size)⟩

end Go.Proofs.Ythgjccbmfbileaa
