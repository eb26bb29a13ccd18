/- The walk of BucketWindows. -/
import Derived.Test.YtkaefdpjadifgaaP
namespace Go.Proofs.Ytkaefdpjadifgaa
open Go.RowKit
set_option linter.unusedVariables false
set_option linter.unusedSimpArgs false

/-- Behind the cells T, all taken, in a bucket: each is so many steps ahead of its time from which on one fits; and no two are too near. -/
structure Inv (x : Bk) (T : List Int) : Prop where
  ahead : ∀ j : Nat, j < T.length → T[j]?.getD 0 + ((T.length : Int) - j) * x.s ≤ x.n
  far : ∀ i k : Nat, i ≤ k → k < T.length → ((k : Int) - i) * x.s ≤ T[k]?.getD 0 - T[i]?.getD 0 + x.e
  bd : ∀ j : Nat, 0 ≤ T[j]?.getD 0 ∧ T[j]?.getD 0 ≤ 1288490188500

theorem Inv.nil (x : Bk) : Inv x [] := ⟨fun j h => by simp at h, fun i k h1 h2 => by simp at h2, fun j => by simp⟩

theorem Inv.took {x : Bk} {T : List Int} (hx : x.Ok) (h : Inv x T) (ha : x.a = false → T = []) {t : Int} (h0 : 0 ≤ t) (h1 : t ≤ 1288490188500) (hf : fitB x t = true) : Inv (tookB x t) (T ++ [t]) := by
  have hs := hx.s1
  have hfit : T ≠ [] → x.n - x.e ≤ t := by
    intro hT
    cases hxa : x.a with
    | false => exact absurd (ha hxa) hT
    | true =>
      unfold fitB at hf
      rw [hxa, hold_small h0 h1] at hf
      simpa using hf
  have hlast : (T ++ [t])[T.length]?.getD 0 = t := by rw [List.getElem?_append_right (Nat.le_refl _)]; simp
  have hold' : ∀ j, j < T.length → (T ++ [t])[j]?.getD 0 = T[j]?.getD 0 := fun j hj => by rw [List.getElem?_append_left hj]
  refine ⟨fun j hj => ?_, fun i k hik hk => ?_, fun j => ?_⟩
  · simp only [List.length_append, List.length_cons, List.length_nil] at hj
    have e : (tookB x t).n = max x.n t + x.s := by unfold tookB; simp only [hold_small h0 h1]
    have es : (tookB x t).s = x.s := rfl
    rw [e, es]
    by_cases hjl : j < T.length
    · rw [hold' j hjl]
      have := h.ahead j hjl
      have e2 : (((T ++ [t]).length : Int) - j) * x.s = ((T.length : Int) - j) * x.s + x.s := by
        simp only [List.length_append, List.length_cons, List.length_nil]
        rw [show (((T.length + (0 + 1) : Nat) : Int) - j) = ((T.length : Int) - j) + 1 by omega, Int.add_mul, Int.one_mul]
      rw [e2]
      omega
    · obtain rfl : j = T.length := by omega
      rw [hlast]
      have e2 : (((T ++ [t]).length : Int) - (T.length : Nat)) * x.s = x.s := by
        simp only [List.length_append, List.length_cons, List.length_nil]
        rw [show (((T.length + (0 + 1) : Nat) : Int) - (T.length : Nat)) = 1 by omega, Int.one_mul]
      rw [e2]
      omega
  · simp only [List.length_append, List.length_cons, List.length_nil] at hk
    have es : (tookB x t).s = x.s := rfl
    have ee : (tookB x t).e = x.e := rfl
    rw [es, ee]
    by_cases hkl : k < T.length
    · rw [hold' k hkl, hold' i (by omega)]
      exact h.far i k hik hkl
    · obtain rfl : k = T.length := by omega
      rw [hlast]
      by_cases hil : i < T.length
      · rw [hold' i hil]
        have := h.ahead i hil
        have := hfit (by intro e; rw [e] at hil; simp at hil)
        omega
      · obtain rfl : i = T.length := by omega
        rw [hlast]
        have := hx.e0
        simp
        omega
  · by_cases hjl : j < T.length
    · rw [hold' j hjl]; exact h.bd j
    · by_cases hj : j = T.length
      · subst hj; rw [hlast]; exact ⟨h0, h1⟩
      · rw [List.getElem?_eq_none (by simp; omega)]; simp

theorem far_div {s d : Int} {i k : Nat} (hs : 1 ≤ s) (h : ((k : Int) - i) * s ≤ d) (hik : i ≤ k) : 0 ≤ d ∧ (k : Int) - i ≤ d / s := by
  refine ⟨?_, ?_⟩
  · have : 0 ≤ ((k : Int) - i) * s := Int.mul_nonneg (by omega) (by omega)
    omega
  · exact (Int.le_ediv_iff_mul_le (by omega)).2 h

theorem too_far {st d : Int} {i k : Nat} (h0 : 1 ≤ st) (hd : d ≤ 1000000000000000) (hk : k ≤ 1000) (hq0 : 0 ≤ d) (hq1 : (k : Int) - i ≤ d / st) : ¬ (wrap64 (1 + d / if 1 < st then st else 1) < (k : Int) - i + 1) := by
  have em : (if 1 < st then st else 1) = st := by split <;> omega
  rw [em]
  have h1 : 0 ≤ d / st := Int.ediv_nonneg hq0 (by omega)
  have h2 : d / st ≤ d := Int.ediv_le_self _ hq0
  unfold wrap64
  omega

set_option maxHeartbeats 1600000 in
theorem win_walk (st ea : Int) (A : Option Addr) (cap : Nat) (zs : List Int) (w : World) (hst : 0 ≤ st ∧ st ≤ 4294967295) (hea : 0 ≤ ea ∧ ea ≤ 4294967295) (hs : Small zs) (hn : zs.length ≤ 300) (hr : Rd .u32 w A zs) :
    Calls Try.prog 3 #[.int .u32 st, .int .u32 ea, .slice A zs.length cap] w fun e w' => e = .returned (.bool true) ∧ Below w.heap.size w w' := by
  obtain ⟨s0, s1⟩ := hst
  obtain ⟨e0, e1⟩ := hea
  go_enter Try.func3, Try.ntmps3
  go_wp2_with fail
  refine (awake_any _).mono ?_
  rintro e w1 ⟨rfl, b1⟩
  have hr1 := hr.below b1 (Nat.le_refl _)
  have HB1 := Lib.hid b1
  clear b1 hr
  go_wp2_with fail
  refine (new_any _ _ _).mono ?_
  rintro e w2 ⟨b, rfl, hb, h2, g2⟩
  have hr2 : Rd .u32 w2 A zs := hr1.below (B := w1.heap.size) ⟨g2.os, g2.tape, g2.output, g2.size, fun k hk => g2.block k hk (by simp)⟩ (Nat.le_refl _)
  have HB2 := Lib.hid hb
  have HG2 := Lib.hid g2
  clear hb g2 hr1
  go_wp2_with fail
  refine (rising_any A cap zs _ hs hn hr2).mono ?_
  rintro e w3 ⟨v, rfl, hrow, b3⟩
  have hl := ups_length zs zs.length
  have hups : ∀ j : Nat, j < zs.length → 0 ≤ (ups zs zs.length)[j]?.getD 0 ∧ (ups zs zs.length)[j]?.getD 0 ≤ 1288490188500 := fun j hj => by
    rw [ups_at _ _ _ hj]
    have := sumTo_bd hs (j + 1)
    omega
  have h3 : HasB w3 b ⟨hold st 1 1152921504606846976, hold ea 0 1152921504606846976, 0, false⟩ := by
    have hlt := h2.lt
    unfold HasB at *
    rw [b3.block b hlt]
    exact h2
  obtain ⟨l, el⟩ : ∃ l, ups zs zs.length = l := ⟨_, rfl⟩
  rw [el] at hrow hl hups
  have hx0 := hold_ok st ea
  have ex0 : (Bk.mk (hold st 1 1152921504606846976) (hold ea 0 1152921504606846976) 0 false).s = max 1 st ∧ (Bk.mk (hold st 1 1152921504606846976) (hold ea 0 1152921504606846976) 0 false).e = ea := by
    simp only [hold]; omega
  obtain ⟨x0, hx0e⟩ : ∃ x0, Bk.mk (hold st 1 1152921504606846976) (hold ea 0 1152921504606846976) 0 false = x0 := ⟨_, rfl⟩
  have hxa0 : x0.a = false := by rw [← hx0e]
  rw [hx0e] at h3 hx0 ex0
  have b3' : Below w.heap.size w w3 := ((HB1.out.trans (Below.mono ⟨HG2.out.os, HG2.out.tape, HG2.out.output, HG2.out.size, fun k hk => HG2.out.block k hk (by simp)⟩ HB1.out.size)).trans (b3.mono (by have := HB1.out.size; have := HG2.out.size; omega)))
  have hbw : w.heap.size ≤ b := Nat.le_trans HB1.out.size HB2.out
  obtain ⟨A3, c3, rfl, hrd3⟩ := hrow.rd
  have hrd := hrd3
  have HX := Lib.hid (And.intro hx0 (And.intro ex0 hxa0))
  have HU := Lib.hid hups
  have HL := Lib.hid hl
  obtain ⟨B2, eB2⟩ : ∃ B2, w2.heap.size = B2 := ⟨_, rfl⟩
  rw [eB2] at hrow
  have hlo : ∀ g, (Value.slice A3 l.length c3).ownBlock = some g → g < w3.heap.size := fun g hg => (World.ownsRow.lt hrow g hg).2
  clear hups b3 HB1 HB2 HG2 hr2 h2 hx0 ex0 hx0e hs hxa0 el hrd3 eB2 w2 w1
  rw [hl] at hrow hlo ⊢
  have HO := Lib.hid hlo
  clear hl hlo
  have hsz3 := b3'.size
  go_wp2
  go_loopw [9, 30] (fun v i wr => ∃ (k : Nat) (x : Bk) (T : List Int), k ≤ zs.length ∧ i = .int .i64 k ∧ HasB wr b x ∧ x.Ok ∧ x.s = x0.s ∧ x.e = x0.e ∧ (x.a = false → T = []) ∧ (T = [] → k = 0 ∧ x.a = false) ∧ T.length ≤ k ∧ Inv x T ∧ Row wr w3.heap.size v T ∧ Row wr B2 (.slice A3 zs.length c3) l ∧ w3.heap.size ≤ wr.heap.size ∧ Below w.heap.size w wr)
    (fun _ i _ => zs.length - (intOf i).toNat)
  case atStart => exact ⟨0, x0, [], Nat.zero_le _, rfl, h3, HX.out.1, rfl, rfl, fun _ => rfl, fun _ => ⟨rfl, HX.out.2.2⟩, Nat.zero_le _, Inv.nil _, Row.nil _ _, hrow, Nat.le_refl _, b3'⟩
  case round =>
    obtain ⟨k, x, T, hk, rfl, hbx, hxo, hxs, hxe, hxa, hT0, hTk, hInv, hrT, hrl, hsz, hbel⟩ := hrel
    by_cases hlt : k < zs.length
    · rcases hrd with hrd | ⟨bl, off, rfl, _, _⟩
      · exfalso; have := HL.out; rw [hrd] at this; simp at this; omega
      have hcell := hrl.cellAt k (by have := HL.out; omega)
      have hbd := HU.out k hlt
      obtain ⟨t, et⟩ : ∃ t, l[k]?.getD 0 = t := ⟨_, rfl⟩
      rw [et] at hcell hbd
      clear et
      have H1 := Lib.hid (And.intro hxs (And.intro hxe (And.intro hxa hT0)))
      clear hxs hxe hxa hT0
      by_cases hf : fitB x t = true
      · have HF := Lib.hid hf
        have htk := take_yes x hxo b t wr hbx hf
        clear hf
        go_wp2_with (first
          | (go_at_call 12; refine htk.mono ?_; rintro e w4 ⟨rfl, hb4, hg4, hs4⟩; have hsz4 : w3.heap.size ≤ w4.heap.size := Nat.le_trans hsz hg4.size; clear hs4; obtain ⟨hrT4, hrl4, hbel4, hcell4⟩ : Row w4 w3.heap.size _ T ∧ Row w4 B2 (.slice (some ⟨bl, off, none⟩) zs.length c3) l ∧ Below w.heap.size w w4 ∧ w4.cell? ⟨bl, off + k, none⟩ = some (.int .i64 t) := ⟨hrT.kept hg4 (.inr (hrT.ne hbx)), hrl.kept hg4 (.inr (hrl.ne hbx)), below_grown hbel hg4 hbel.size hbw, hg4.cell hcell (fun e => hrl.ne hbx (by simpa [Value.ownBlock] using e))⟩)
          | (at_builtin; refine wpList_push rfl _ _ rfl w3.heap.size _ T rfl hrT4 _ rfl (by omega) (by omega) ?_))
        intro v' w5 hrow' hg5
        have hT5 : tookB x t = takeB x t := by unfold takeB; rw [HF.out]; rfl
        have hb5 : HasB w5 b (tookB x t) := hb4.kept hg5 (hrT4.ne hb4)
        have hl5 : Row w5 B2 (.slice (some ⟨bl, off, none⟩) zs.length c3) l := hrl4.kept hg5 (.inr (fun e => by
          have h1 := hrT4.block bl (by rw [← e]; rfl)
          have h2 := HO.out bl rfl
          omega))
        have hbel5 : Below w.heap.size w w5 := hbel4.grown hg5 hbel4.size (fun j hj => Nat.le_trans hsz3 (hrT4.block j hj))
        have hok5 : (tookB x t).Ok := by rw [hT5]; exact takeB_ok hxo t
        have hin5 : Inv (tookB x t) (T ++ [t]) := hInv.took hxo H1.out.2.2.1 hbd.1 hbd.2 HF.out
        have hsz5 : w3.heap.size ≤ w5.heap.size := Nat.le_trans hsz4 hg5.size
        have HP := Lib.hid (And.intro hb5 (And.intro hok5 (And.intro hin5 (And.intro hrow' (And.intro hl5 (And.intro hsz5 hbel5))))))
        clear hrow' hg5 hT5 hb5 hl5 hbel5 hok5 hin5 hsz5 hrT4 hrl4 hbel4 hcell4 hb4 hg4 hsz4 hcell hrT hrl hbel hInv hxo htk hbx
        go_wp2
        go_roundw
        case rel => exact ⟨k + 1, tookB x t, T ++ [t], by omega, by go_num, HP.out.1, HP.out.2.1, H1.out.1, H1.out.2.1, (fun h => by cases h), (fun h => absurd h (by simp)), (by simp; omega), HP.out.2.2.1, HP.out.2.2.2.1, HP.out.2.2.2.2.1, HP.out.2.2.2.2.2.1, HP.out.2.2.2.2.2.2⟩
        case measure => simp [intOf]; omega
      · have hf' : fitB x t = false := by simpa using hf
        have htk := take_no x hxo b t wr hbx hf'
        have HF := Lib.hid hf'
        clear hf hf'
        go_wp2_with (go_at_call 12; refine htk.mono ?_; rintro e w4 ⟨rfl, n4, rfl⟩)
        have hT0 : T ≠ [] := by
          intro e
          have h1 := (H1.out.2.2.2 e).2
          have h2 : fitB x t = false := HF.out
          unfold fitB at h2
          rw [h1] at h2
          simp at h2
        go_roundw
        case rel => exact ⟨k + 1, x, T, by omega, by go_num, hbx, hxo, H1.out.1, H1.out.2.1, H1.out.2.2.1, fun h => absurd h hT0, by omega, hInv, hrT, hrl, hsz, below_drewN hbel _⟩
        case measure => simp [intOf]; omega
    · have hkz : k = zs.length := by omega
      subst hkz
      have hfar : ∀ i k : Nat, i ≤ k → k < T.length → ((k : Int) - i) * max 1 st ≤ T[k]?.getD 0 - T[i]?.getD 0 + ea := fun i k h1 h2 => by
        have := hInv.far i k h1 h2
        rw [hxs, hxe, HX.out.2.1.1, HX.out.2.1.2] at this
        exact this
      have hT300 : T.length ≤ 300 := by omega
      have HF := Lib.hid hfar
      have HB := Lib.hid hInv.bd
      have HN := Lib.hid hT0
      obtain ⟨AT, cT, rfl, hrdT⟩ := hrT.rd
      clear hfar hInv hT0 hxa hxs hxe hxo hbx hrl h3 hrow b3' hrd
      go_wp2
      go_loopw [49] (fun i2 wr2 => ∃ (i : Nat) (n : Nat), i ≤ T.length ∧ i2 = .int .i64 i ∧ wr2 = wr.drewN n) (fun i2 _ => T.length - (intOf i2).toNat)
      case atStart => exact ⟨0, 0, Nat.zero_le _, rfl, rfl⟩
      case round =>
        obtain ⟨i, n, hi, rfl, rfl⟩ := hrel
        by_cases hlt2 : i < T.length
        · rcases hrdT with hrdT | ⟨bt, offt, rfl, _, hct⟩
          · subst hrdT; simp at hlt2
          have HCT := Lib.hid hct
          have hci := hct i hlt2
          have hbi := HB.out i
          obtain ⟨ti, eti⟩ : ∃ t, T[i]?.getD 0 = t := ⟨_, rfl⟩
          rw [eti] at hci hbi
          have HTI := Lib.hid eti
          clear hct eti
          go_wp2
          go_loopw [12] (fun k2 wr2 => ∃ (k m : Nat), i ≤ k ∧ k ≤ T.length ∧ k2 = .int .i64 k ∧ wr2 = wr.drewN m) (fun k2 _ => T.length - (intOf k2).toNat)
          case atStart => exact ⟨i, _, Nat.le_refl _, hi, rfl, rfl⟩
          case round =>
            obtain ⟨k, m, hik, hk, rfl, rfl⟩ := hrel
            by_cases hlt3 : k < T.length
            · have hck := HCT.out k hlt3
              have hbk := HB.out k
              have hf := HF.out i k hik hlt3
              rw [HTI.out] at hf
              obtain ⟨tk, etk⟩ : ∃ t, T[k]?.getD 0 = t := ⟨_, rfl⟩
              rw [etk] at hck hbk hf
              have hq := far_div (by omega) hf hik
              have HQ := Lib.hid hq
              clear etk hf hq
              have hq0 := HQ.out.1
              rcases (by omega : st = 0 ∨ 1 ≤ st) with h0 | h0
              · have hq1 := HQ.out.2
                have em : max 1 st = 1 := by omega
                rw [em] at hq1
                clear em
                subst h0
                go_wp2
                go_quiet (fail)
                go_wp2_with fail
                go_roundw
                case rel => exact ⟨k + 1, _, by omega, by omega, by go_num, rfl⟩
                case measure => simp [intOf]; omega
              · have hq1 := HQ.out.2
                have em : max 1 st = st := by omega
                rw [em] at hq1
                clear em
                go_wp2
                have HX1 := Lib.hid (too_far (d := tk - ti + ea) h0 (by omega) (by omega) hq0 hq1)
                go_quiet (fail)
                go_wp2_with fail
                go_roundw
                case rel => exact ⟨k + 1, _, by omega, by omega, by go_num, rfl⟩
                case measure => simp [intOf]; omega
            · go_wp2
              go_roundw
              case rel => exact ⟨i + 1, _, by omega, by go_num, rfl⟩
              case measure => simp [intOf]; omega
        · have hT1 : zs.length ≠ 0 → 0 < T.length := fun h => by
            cases T with
            | nil => exact absurd (HN.out rfl).1 h
            | cons => simp
          have HT := Lib.hid hT1
          clear hT1
          go_wp2
          all_goals
            go_ret
            refine ⟨?_, below_drewN hbel _⟩
            first
              | rfl
              | (refine ret_bool ?_
                 have h1 := HT.out (by intro e; exact absurd (List.eq_nil_of_length_eq_zero e) (by assumption))
                 simp [h1])

theorem win_long (st ea : Int) (A : Option Addr) (n cap : Nat) (w : World) (hn : 300 < n) :
    Calls Try.prog 3 #[.int .u32 st, .int .u32 ea, .slice A n cap] w fun e w' => e = .returned (.bool true) ∧ Below w.heap.size w w' := by
  go_enter Try.func3, Try.ntmps3
  go_wp2_with fail
  refine (awake_any _).mono ?_
  rintro e w1 ⟨rfl, b1⟩
  go_wp2_with fail
  refine (awake_any _).mono ?_
  rintro e w2 ⟨rfl, b2⟩
  go_wp2_with fail
  go_ret
  exact ⟨rfl, b1.trans (b2.mono b1.size)⟩

end Go.Proofs.Ytkaefdpjadifgaa
