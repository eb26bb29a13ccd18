/- The walk of BucketSchedules. -/
import Derived.Test.YtkaefdpjadifgaaSpaW
namespace Go.Proofs.Ytkaefdpjadifgaa
open Go.RowKit
set_option linter.unusedVariables false
set_option linter.unusedSimpArgs false

theorem hold32 {t : Int} (h : 0 ≤ t ∧ t ≤ 4294967295) : hold t 0 1152921504606846976 = t := by unfold hold; omega
theorem fits_at {x : Bk} (hx : x.Ok) {b : Nat} {t : Int} {w : World} {r : Bool} (hb : HasB w b x) (hf : fitB x t = r) : Calls Try.prog 14 #[.pointer (some ⟨b, 0, none⟩), .int .i64 t] w fun e w' => e = .returned (.bool r) ∧ ∃ n, w' = w.drewN n := by
  have e := fits_any x hx b t w hb
  rwa [hf] at e
theorem level_at {x : Bk} (hx : x.Ok) {b : Nat} {t r : Int} {w : World} (hb : HasB w b x) (hf : levelB x t = r) : Calls Try.prog 13 #[.pointer (some ⟨b, 0, none⟩), .int .i64 t] w fun e w' => e = .returned (.int .i64 r) ∧ ∃ n, w' = w.drewN n := by
  have e := level_any x hx b t w hb
  rwa [hf] at e

set_option maxHeartbeats 1600000 in
theorem sch_walk (st ea : Int) (A : Option Addr) (cap : Nat) (zs : List Int) (w : World) (hst : 0 ≤ st ∧ st ≤ 4294967295) (hea : 0 ≤ ea ∧ ea ≤ 4294967295)
    (hs : Small zs) (hn : zs.length ≤ 300) (hr : Rd .u32 w A zs) :
    Calls Try.prog 5 #[.int .u32 st, .int .u32 ea, .slice A zs.length cap] w fun e w' => e = .returned (.bool true) ∧ Below w.heap.size w w' := by
  obtain ⟨s0, s1⟩ := hst
  obtain ⟨e0, e1⟩ := hea
  obtain ⟨sv, esv⟩ : ∃ sv, (if 1 < st then st else 1) = sv := ⟨_, rfl⟩
  have hsv : 1 ≤ sv ∧ sv ≤ 4294967295 := by rw [← esv]; split <;> omega
  have HS := Lib.hid hs
  have HR := Lib.hid hr
  clear hs hr
  go_enter Try.func5, Try.ntmps5
  go_wp2_with fail
  refine (awake_any _).mono ?_
  rintro e w1 ⟨rfl, b1⟩
  go_wp2_with fail
  clear esv
  refine (new_small hsv ⟨e0, e1⟩ _).mono ?_
  rintro e w2 ⟨b, rfl, hb, h2, g2⟩
  have b2 := new_below b1 b1.size g2
  have hbw : w.heap.size ≤ b := Nat.le_trans b1.size hb
  clear hb g2 b1 w1
  go_wp2_with fail
  go_loopw [30] (fun i wr => ∃ (k : Nat) (x : Bk), k ≤ zs.length ∧ i = .int .i64 k ∧ HasB wr b x ∧ x.Ok ∧ x.s = sv ∧ x.e = ea ∧ x.n ≤ 4294967295 + k * 4294967295 ∧ (k = 0 → x = ⟨sv, ea, 0, false⟩) ∧ (0 < k → x.a = true) ∧ Below w.heap.size w wr) (fun i _ => zs.length - (intOf i).toNat)
  case atStart => exact ⟨0, ⟨sv, ea, 0, false⟩, Nat.zero_le _, rfl, h2, small_ok hsv ⟨e0, e1⟩, rfl, rfl, by simp, fun _ => rfl, fun h => by omega, b2⟩
  case round =>
    clear h2 b2 w2
    obtain ⟨k, x, hk, rfl, hbx, hxo, hxs, hxe, hxn, hx0, hxa, hbel⟩ := hrel
    by_cases hlt : k < zs.length
    · have hz := HS.out k
      rcases HR.out with hra | ⟨ba, oa, rfl, hla, hca⟩
      · subst hra; simp at hlt
      have hcell := (hbel.cell (p := ⟨ba, oa + k, none⟩) hla).trans (hca k hlt)
      obtain ⟨t, ez⟩ : ∃ z, zs[k]?.getD 0 = z := ⟨_, rfl⟩
      rw [ez] at hcell hz
      clear ez hca
      by_cases hk0 : k = 0
      · subst hk0
        obtain rfl := hx0 rfl
        have hfit : fitB ⟨sv, ea, 0, false⟩ t = true := rfl
        have hcell0 : wr.cell? ⟨ba, oa, none⟩ = some (.int .u32 t) := hcell
        have ht5 : tookB ⟨sv, ea, 0, false⟩ t = ⟨sv, ea, t + sv, true⟩ := by
          unfold tookB
          rw [hold32 hz]
          simp only
          rw [show max 0 t = t by omega]
        have hok := takeB_ok hxo t
        rw [show takeB ⟨sv, ea, 0, false⟩ t = ⟨sv, ea, t + sv, true⟩ by unfold takeB; rw [hfit]; exact ht5] at hok
        have HF := Lib.hid (fits_at hxo (w := wr) hbx hfit)
        have hlev : levelB ⟨sv, ea, t + sv, true⟩ 0 = t + sv := by unfold levelB; rw [hold_0]; simp only; omega
        have HL := Lib.hid hlev
        have HT := Lib.hid ht5
        clear hlev hfit ht5 hx0 hxa hxs hxe hxn hcell
        go_wp2_with fail
        refine HF.out.mono ?_
        rintro e w4 ⟨rfl, n4, rfl⟩
        go_wp2_with fail
        refine (take_yes (w := wr.drewN n4) _ hxo b t hbx rfl).mono ?_
        rintro e w5 ⟨rfl, h5, g5, s5⟩
        rw [HT.out] at h5
        have b5 := below_grown (below_drewN hbel n4) g5 hbel.size hbw
        clear g5 s5 hbel hcell0 hbx
        go_wp2_with fail
        refine (level_at hok h5 HL.out).mono ?_
        rintro e w6 ⟨rfl, n6, rfl⟩
        go_wp2_with fail
        go_roundw
        case rel => exact ⟨1, _, by omega, by go_num, h5, hok, rfl, rfl, by simp; omega, fun h => by omega, fun _ => rfl, below_drewN b5 _⟩
        case measure => simp [intOf]; omega
      · have hxa1 := hxa (by omega)
        have hk1 : ((k : Int) == 0) = false := by simp; omega
        have hlev : levelB x 0 = x.n := by unfold levelB; rw [hold_0]; have := hxo.n0; omega
        have hfx : fitB x t = decide (x.n - ea ≤ t) := by unfold fitB; rw [hold32 hz, hxa1, hxe]; rfl
        have hn0 := hxo.n0
        obtain ⟨nx, enx⟩ : ∃ nx, x.n = nx := ⟨_, rfl⟩
        by_cases hft : nx - ea ≤ t
        · have hfit : fitB x t = true := by rw [hfx, enx]; simpa using hft
          have HF := Lib.hid (fits_at hxo (w := wr) hbx hfit)
          have HL0 := Lib.hid (level_at hxo (w := wr) hbx (hlev.trans enx))
          obtain ⟨mx, emx⟩ : ∃ mx, (if nx < t then t else nx) = mx := ⟨_, rfl⟩
          have hmx : mx = max nx t := by rw [← emx]; split <;> omega
          have hT : tookB x t = ⟨sv, ea, mx + sv, true⟩ := by unfold tookB; rw [hold32 hz, hxs, hxe, enx, hmx]
          have hok := takeB_ok hxo t
          rw [show takeB x t = ⟨sv, ea, mx + sv, true⟩ by unfold takeB; rw [hfit]; exact hT] at hok
          have hlev' : levelB ⟨sv, ea, mx + sv, true⟩ 0 = mx + sv := by unfold levelB; rw [hold_0]; simp only; omega
          rw [enx] at hxn hn0
          have hmb : 0 ≤ mx ∧ mx ≤ 4294967295 + k * 4294967295 := by omega
          have HL := Lib.hid hlev'
          have HT := Lib.hid hT
          have HX := Lib.hid hfit
          have HK := Lib.hid hk0
          have hH : ∀ n, HasB (wr.drewN n) b x := fun n => hbx
          clear hlev hlev' hfx hfit hT hx0 hxa hxs hxe hxa1 enx hk0 hmx
          go_wp2_with fail
          refine HL0.out.mono ?_
          rintro e w3 ⟨rfl, n3, rfl⟩
          go_wp2_with fail
          refine (fits_at hxo (hH _) HX.out).mono ?_
          rintro e w4 ⟨rfl, n4, rfl⟩
          go_wp2_with fail
          refine (take_yes _ hxo b t _ (hH _) HX.out).mono ?_
          rintro e w5 ⟨rfl, h5, g5, s5⟩
          rw [HT.out] at h5
          have b5 := below_grown (below_drewN hbel _) g5 hbel.size hbw
          clear g5 s5 hbel hcell hbx
          go_wp2_with fail
          refine (level_at hok h5 HL.out).mono ?_
          rintro e w6 ⟨rfl, n6, rfl⟩
          go_wp2_with fail
          go_roundw
          case rel => exact ⟨k + 1, _, by omega, by go_num, h5, hok, rfl, rfl, by simp; omega, fun h => by omega, fun _ => rfl, below_drewN b5 _⟩
          case measure => simp [intOf]; omega
        · have hfit : fitB x t = false := by rw [hfx, enx]; simpa using hft
          have HL0 := Lib.hid (level_at hxo (w := wr) hbx (hlev.trans enx))
          rw [enx] at hxn hn0
          have HX := Lib.hid hfit
          have HK := Lib.hid hk0
          have HE := Lib.hid (And.intro hxs (And.intro hxe (And.intro hxa enx)))
          have hH : ∀ n, HasB (wr.drewN n) b x := fun n => hbx
          clear hlev hfx hfit hx0 hxa hxs hxe hxa1 enx hk0
          go_wp2_with fail
          refine HL0.out.mono ?_
          rintro e w3 ⟨rfl, n3, rfl⟩
          go_wp2_with fail
          refine (fits_at hxo (hH _) HX.out).mono ?_
          rintro e w4 ⟨rfl, n4, rfl⟩
          go_wp2_with fail
          refine (take_no _ hxo b t _ (hH _) HX.out).mono ?_
          rintro e w5 ⟨rfl, n5, rfl⟩
          go_wp2_with fail
          go_roundw
          case rel => exact ⟨k + 1, x, by omega, by go_num, hbx, hxo, HE.out.1, HE.out.2.1, by rw [HE.out.2.2.2]; simp; omega, fun h => by omega, fun _ => HE.out.2.2.1 (by have := HK.out; omega), below_drewN hbel _⟩
          case measure => simp [intOf]; omega
    · go_wp2_with fail
      go_ret
      exact ⟨rfl, hbel⟩

theorem sch_long (st ea : Int) (A : Option Addr) (n cap : Nat) (w : World) (hn : 300 < n) :
    Calls Try.prog 5 #[.int .u32 st, .int .u32 ea, .slice A n cap] w fun e w' => e = .returned (.bool true) ∧ Below w.heap.size w w' := by
  go_enter Try.func5, Try.ntmps5
  go_wp2_with fail
  refine (awake_any _).mono ?_
  rintro e w1 ⟨rfl, b1⟩
  go_wp2_with fail
  refine (awake_any _).mono ?_
  rintro e w2 ⟨rfl, b2⟩
  go_wp2_with fail
  go_ret
  exact ⟨rfl, b1.trans (b2.mono b1.size)⟩

end Go.Proofs.Ytkaefdpjadifgaa
