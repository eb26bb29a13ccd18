/- The walk of LedgerPlays. -/
import Derived.Test.YthgjccbmfbileaaPlaP
import Derived.Deep.CutBlock
import Derived.Deep.RegionHeld3
namespace Go.Proofs.Ythgjccbmfbileaa
open Go.RowKit Go.Maps
set_option linter.unusedVariables false
set_option linter.unusedSimpArgs false

set_option maxRecDepth 100000 in
set_option maxHeartbeats 3200000 in
theorem pla_walk (room id : Int) (A : Option Addr) (cap : Nat) (zs : List Op3) (w : World) (hwi : (Lit.int .i64 id).wf = true) (hz : WfO zs) (hn : zs.length ≤ 100) (hr : RdO w A zs) :
    Calls Try.prog 5 #[.int .i64 room, .slice A zs.length cap, .int .i64 id] w fun e w' => e = .returned (.bool true) ∧ Below w.heap.size w w' := by
  have HZ := Lib.hid hz
  have HR := Lib.hid hr
  clear hz hr
  go_enter Try.func5, Try.ntmps5
  go_wp2_with fail
  refine (awake_any _).mono ?_
  rintro e w1 ⟨rfl, b1⟩
  have HB := Lib.hid b1
  clear b1
  go_wp2_with fail
  refine (Is.new _ HB.out).mono ?_
  rintro e w2 ⟨p, m, rfl, _, _, hI, _⟩
  have H2 := Lib.hid hI
  clear hI
  go_wp2_with fail
  refine (Duo.new H2.out room).mono ?_
  rintro e w3 ⟨q, rfl, hD⟩
  have HD := Lib.hid hD
  clear hD H2 HB
  go_wp2_with fail
  go_loopw [35] (fun i wr => ∃ (k : Nat) (x : Lg), k ≤ zs.length ∧ i = .int .i64 k ∧ Duo w wr p m q x x ∧ x.L.length ≤ k) (fun i _ => zs.length - (intOf i).toNat)
  case atStart => exact ⟨0, _, Nat.zero_le _, rfl, HD.out, Nat.le_refl _⟩
  case round =>
    obtain ⟨k, x, hk, rfl, hD, hxl⟩ := hrel
    by_cases hlt : k < zs.length
    · have hbel : Below w.heap.size w wr := hD.choose_spec.is.bel
      obtain ⟨b, off, rfl, c0, c1, c2⟩ := HR.out.cells hbel hlt
      have hz := HZ.out k
      obtain ⟨o, eo⟩ : ∃ o, opAt zs k = o := ⟨_, rfl⟩
      rw [eo] at c0 c1 c2 hz
      obtain ⟨d, oid, need⟩ := o
      simp only at c0 c1 c2 hz
      have HDK := Lib.hid hD
      have hk0 : (0 : Int) ≤ (k : Int) := Int.natCast_nonneg _
      obtain ⟨E, eE⟩ : ∃ E, doE x (d, oid, need) = E := ⟨_, rfl⟩
      obtain ⟨n, eN⟩ : ∃ n, doN x (d, oid, need) = n := ⟨_, rfl⟩
      obtain ⟨y, eY⟩ : ∃ y, doS x (d, oid, need) = y := ⟨_, rfl⟩
      have hyl : y.L.length ≤ x.L.length + 1 := by rw [← eY]; exact doS_len x _
      have HDo := Lib.hid ((hD.box #[.int .i64 d, .int .i64 oid, .int .i64 need] 30).does (o := (d, oid, need)) hz.2.1 (by omega) eY eE eN)
      have HY := Lib.hid (And.intro eE (And.intro eN eY))
      clear eo hD HD eE eN eY
      go_wp2_with fail
      refine HDo.out.mono ?_
      rintro e w4 ⟨rfl, h4, k4⟩
      obtain ⟨g0, g1, g2⟩ := HDK.out.boxed k4
      have H4 := Lib.hid h4
      clear h4 k4
      go_upto_block 2 with fail
      go_cut [13, 14] (fun s13 s14 wx => s13 = .int .i64 E ∧ s14 = .int .i64 n ∧ Duo w wx p m q y y)
      case first =>
        by_cases h1 : d = 1
        · subst h1
          have e1 : bookE x oid need = E := HY.out.1
          have e2 : n = 0 := HY.out.2.1.symm
          have e3 : bookS x oid need = y := HY.out.2.2
          subst e2
          have HC := Lib.hid (H4.out.book (by omega) e1 e3)
          clear e1 e3
          go_wp2_with fail
          refine HC.out.mono ?_
          rintro e w5 ⟨rfl, h5⟩
          have H5 := Lib.hid h5
          clear h5
          go_wp2_with fail
          go_meet
          case rel => exact ⟨rfl, rfl, H5.out⟩
        · by_cases h2 : d = 2
          · subst h2
            have e1 : changeE x oid need = E := HY.out.1
            have e2 : n = 0 := HY.out.2.1.symm
            have e3 : changeS x oid need = y := HY.out.2.2
            subst e2
            have HC := Lib.hid (H4.out.change (by omega) e1 e3)
            clear e1 e3
            go_wp2_with fail
            refine HC.out.mono ?_
            rintro e w5 ⟨rfl, h5⟩
            have H5 := Lib.hid h5
            clear h5
            go_wp2_with fail
            go_meet
            case rel => exact ⟨rfl, rfl, H5.out⟩
          · by_cases h3 : d = 3
            · subst h3
              have e1 : E = 0 := HY.out.1.symm
              have e2 : (look x.L oid).getD 0 = n := HY.out.2.1
              have e3 : freeS x oid = y := HY.out.2.2
              subst e1
              obtain ⟨bb, eb⟩ : ∃ bb, (look x.L oid).isSome = bb := ⟨_, rfl⟩
              have HC := Lib.hid (H4.out.free (by omega) e2 eb e3)
              clear e2 e3 eb
              go_wp2_with fail
              refine HC.out.mono ?_
              rintro e w5 ⟨rfl, h5⟩
              have H5 := Lib.hid h5
              clear h5
              go_wp2_with fail
              go_meet
              case rel => exact ⟨rfl, rfl, H5.out⟩
            · have b1 : (d == 1) = false := by simpa using h1
              have b2 : (d == 2) = false := by simpa using h2
              have b3 : (d == 3) = false := by simpa using h3
              have e1 : E = 0 := by rw [← HY.out.1]; unfold doE; rw [if_neg h1, if_neg h2]
              have e2 : n = 0 := by rw [← HY.out.2.1]; unfold doN; rw [if_neg h1, if_neg h2, if_neg h3]
              have e3 : y = x := by rw [← HY.out.2.2]; unfold doS; rw [if_neg h1, if_neg h2, if_neg h3]
              subst e1
              subst e2
              have H5 := Lib.hid e3
              clear e3 h1 h2 h3
              go_wp2_with fail
              go_meet
              case rel => exact ⟨rfl, rfl, by have := H4.out; rw [H5.out] at this ⊢; exact this⟩
      case rest =>
        obtain ⟨rfl, rfl, hD⟩ := hcut
        obtain ⟨w5, rfl⟩ : ∃ w5 : World, w5 = wc := ⟨_, rfl⟩
        have H5 := Lib.hid hD
        have hyo := hD.choose_spec.ok
        have hr0 := hyo.r0
        have hr1 := hyo.r1
        have ht := tot_bd hyo
        have hle := hyo.le
        obtain ⟨v, ev⟩ : ∃ v, (look y.L id).getD 0 = v := ⟨_, rfl⟩
        obtain ⟨bb, eb⟩ : ∃ bb, (look y.L id).isSome = bb := ⟨_, rfl⟩
        obtain ⟨t, et⟩ : ∃ t, tot y.L = t := ⟨_, rfl⟩
        obtain ⟨rm, erm⟩ : ∃ rm, y.room = rm := ⟨_, rfl⟩
        obtain ⟨N, eN⟩ : ∃ N, y.L.length = N := ⟨_, rfl⟩
        have HG := Lib.hid (hD.get hwi ev eb)
        have HV := Lib.hid (And.intro ev eb)
        have HT := Lib.hid (And.intro et (And.intro erm eN))
        rw [et] at ht hle
        rw [erm] at hr0 hr1 hle
        rw [eN] at hyl
        clear hD hyo ev eb et erm eN g0 g1 g2 c0 c1 c2 H4 HDo HDK
        go_wp2_with fail
        refine HG.out.mono ?_
        rintro e w6 ⟨rfl, h6⟩
        have HG2 := Lib.hid (h6.get2 (by have := HT.out.2.2; omega) HV.out.1 HV.out.2)
        clear h6
        go_wp2_with fail
        refine HG2.out.mono ?_
        rintro e w7 ⟨rfl, h7⟩
        obtain ⟨A7, c7, h7v⟩ := h7.open
        rw [HT.out.2.2] at h7v
        have k0 := h7v.has.c0
        rw [HT.out.2.1] at k0
        have k1 := h7v.has.c1
        clear h7
        go_wp2_with fail
        have hN1 : N ≤ 101 := by omega
        have hw0 : IntKind.i64.wrap (rm - t) = rm - t := Go.IntWalk.i64_in _ (by omega)
        have h7d := h7v.drew
        have HX := Lib.hid (And.intro h7v.is.bel hN1)
        have HP := Lib.hid (show y.room - tot y.L = rm - t by rw [HT.out.2.1, HT.out.1])
        clear h7v hN1
        go_region_held3 (fun w' => w'.cell? ⟨q, 0, none⟩ = some (.int .i64 rm) ∧ w'.cell? ⟨q, 1, none⟩ = some (.slice A7 N c7)) (first | (exact ⟨by assumption, by assumption⟩) | go_keep)
          (first
            | (go_at_call 23; refine (DuV.used (by assumption) HT.out.1).mono ?_; rintro e w8 ⟨rfl, h8⟩; have j0 := h8.has.c0; rw [HT.out.2.1] at j0; have j1 := h8.has.c1)
            | (go_at_call 24; refine (DuV.used2 (by assumption) (by have := HT.out.2.2; have := HX.out.2; omega) HT.out.1).mono ?_; rintro e w8 ⟨rfl, h8⟩; have j0 := h8.has.c0; rw [HT.out.2.1] at j0; have j1 := h8.has.c1)
            | (go_at_call 13; refine (DuV.lft (by assumption) HP.out).mono ?_; rintro e w8 ⟨rfl, h8⟩; have j0 := h8.has.c0; rw [HT.out.2.1] at j0; have j1 := h8.has.c1)
            | (go_at_call 16; refine (DuV.all (by assumption) (by have := HT.out.2.2; have := HX.out.2; omega) HT.out.2.2).mono ?_; rintro e w8 ⟨A8, c8, rfl, hrd, h8⟩; have j0 := h8.has.c0; rw [HT.out.2.1] at j0; have j1 := h8.has.c1)
            | (go_at_call 15; refine (DuV.same (by assumption) HT.out.2.2 (by have := HX.out.2; omega) rfl (by assumption)).mono ?_; rintro e w8 ⟨rfl, h8⟩; have j0 := h8.has.c0; rw [HT.out.2.1] at j0; have j1 := h8.has.c1))
        all_goals
          have hfin : ∃ v, DuV w w8 p m q y y v := ⟨_, h8⟩
          have HF := Lib.hid hfin
          clear hfin hrd
          go_wp2_with fail
          go_roundw
          case rel => exact ⟨k + 1, y, by omega, by go_num, HF.out, by have := HT.out.2.2; omega⟩
          case measure => simp [intOf]; omega
    · have HDK := Lib.hid hD.choose_spec.is.bel
      clear hD HD
      go_wp2_with fail
      go_ret
      exact ⟨rfl, HDK.out⟩

theorem pla_long (room id : Int) (A : Option Addr) (n cap : Nat) (w : World) (hn : 100 < n) :
    Calls Try.prog 5 #[.int .i64 room, .slice A n cap, .int .i64 id] w fun e w' => e = .returned (.bool true) ∧ Below w.heap.size w w' := by
  go_enter Try.func5, Try.ntmps5
  go_wp2_with fail
  refine (awake_any _).mono ?_
  rintro e w1 ⟨rfl, b1⟩
  go_wp2_with fail
  refine (awake_any _).mono ?_
  rintro e w2 ⟨rfl, b2⟩
  go_wp2_with fail
  go_ret
  exact ⟨rfl, b1.trans (b2.mono b1.size)⟩

end Go.Proofs.Ythgjccbmfbileaa
