/- The walk of ShaperWindows. -/
import Derived.Test.YtclplacjgofccaaWinP
namespace Go.Proofs.Ytclplacjgofccaa
open Go.RowKit Go.Sort Go.Shelf Go.Lib
set_option linter.unusedVariables false
set_option linter.unusedSimpArgs false
attribute [local go_sem ↓] Go.wp_at_zero Go.wp_at_succ

theorem setR_two (t : Int) (x : Sh) : setR t x = 0 ∨ setR t x = 9 := by unfold setR; split <;> simp

theorem inv_new {step early slow quick : Int} (h1 : 0 ≤ step ∧ step ≤ 65535) (h2 : 0 ≤ early ∧ early ≤ 65535) : Inv (max 1 step) (newSh step early slow quick) [] ∧ (newSh step early slow quick).early = early := by
  unfold newSh
  rw [held_in (t := step) (by omega), held_in (t := early) (by omega)]
  exact ⟨⟨by omega, by omega, by simp only; omega, fun c hc => by simp at hc, fun _ => rfl, fun j hj => by simp at hj, fun i k _ hk => by simp at hk, fun j => by simp⟩, rfl⟩

/-- Behind k rounds. -/
structure RelW (w : World) (p : Nat) (ea : Int) (k : Nat) (m : Int) (x : Sh) (T : List Int) (v : Value) (W : World) : Prop where
  st : St W w.heap.size p x
  ea : x.early = ea
  inv : Inv m x T
  len : T.length ≤ k
  row : Bu.Row W w.heap.size v T
  bel : Below w.heap.size w W

set_option maxHeartbeats 3200000 in
theorem win_walk (step early slow quick : Int) (A A2 : Option Addr) (cap cap2 : Nat) (zs zt : List Int) (w : World) (h1 : 0 ≤ step ∧ step ≤ 65535) (h2 : 0 ≤ early ∧ early ≤ 65535) (h3 : 0 ≤ slow ∧ slow ≤ 65535) (h4 : 0 ≤ quick ∧ quick ≤ 65535)
    (hn : zs.length ≤ 200) (hs : Bu.Small zs) (hr : Bu.Rd .u16 w A zs) (hm2 : zt.length ≤ maxLen) (hs2 : ∀ j : Nat, 0 ≤ zt[j]?.getD 0 ∧ zt[j]?.getD 0 ≤ 65535) (hr2 : Bu.Rd .u16 w A2 zt) :
    Calls Try.prog 4 #[.int .u16 step, .int .u16 early, .int .u16 slow, .int .u16 quick, .slice A zs.length cap, .slice A2 zt.length cap2] w fun e w' => e = .returned (.bool true) ∧ Below w.heap.size w w' := by
  have hi := inv_new (slow := slow) (quick := quick) h1 h2
  have HI := Lib.hid hi
  obtain ⟨n, en⟩ : ∃ n, zs.length = n := ⟨_, rfl⟩
  obtain ⟨n2, en2⟩ : ∃ n2, zt.length = n2 := ⟨_, rfl⟩
  rw [en] at hn ⊢
  rw [en2] at hm2 ⊢
  unfold maxLen at hm2
  have HE := Lib.hid (And.intro hr (And.intro en (And.intro hr2 en2)))
  have HS := Lib.hid (And.intro hs hs2)
  clear hr en hs hr2 en2 hs2 hi
  go_enter Try.func4, Try.ntmps4
  go_wp2_with fail
  refine (awake_any _).mono ?_
  rintro e w1 ⟨rfl, b1⟩
  have HB1 := Lib.hid b1
  clear b1
  go_wp2_with fail
  refine (new_st _ _ _ _ _).mono ?_
  rintro e w2 ⟨p, rfl, hp, s2, b2⟩
  have hb2 : Below w.heap.size w w2 := HB1.out.trans (b2.mono HB1.out.size)
  have hR : RelW w p early 0 (max 1 step) (newSh step early slow quick) [] (.slice none 0 0) w2 := ⟨s2.base HB1.out.size, HI.out.2, HI.out.1, Nat.zero_le _, Bu.Row.nil _ _, hb2⟩
  have hpw : w.heap.size ≤ p := Nat.le_trans HB1.out.size hp
  have HR := Lib.hid hR
  clear hR hb2 b2 s2 hp HB1
  go_wp2_with fail
  go_loopw [14, 15, 16, 42] (fun mv tv v i wr => ∃ (k : Nat) (m : Int) (x : Sh) (T : List Int), k ≤ n ∧ i = .int .i64 k ∧ mv = .int .i64 m ∧ tv = .int .i64 (Bu.sumTo zs k) ∧ RelW w p early k m x T v wr) (fun _ _ _ i _ => n - (intOf i).toNat)
  case atStart => exact ⟨0, max 1 step, _, [], Nat.zero_le _, rfl, rfl, rfl, HR.out⟩
  case round =>
    obtain ⟨k, m, x, T, hk, rfl, rfl, rfl, hR⟩ := hrel
    have hb1 := Bu.sumTo_bd HS.out.1 k
    by_cases hlt : k < n
    · rcases HE.out.1 with hr | ⟨bl, off, rfl, hbl, hc⟩
      · exfalso; have := HE.out.2.1; rw [hr] at this; simp at this; omega
      have hb2 := HS.out.1 k
      have hcell : wr.cell? ⟨bl, off + k, none⟩ = some (.int .u16 (zs[k]?.getD 0)) := (hR.bel.cell (p := ⟨bl, off + k, none⟩) hbl).trans (hc k (by have := HE.out.2.1; omega))
      have hz : Bu.sumTo zs (k + 1) = Bu.sumTo zs k + zs[k]?.getD 0 := rfl
      have hb3 := Bu.sumTo_bd HS.out.1 (k + 1)
      obtain ⟨g, eg⟩ : ∃ g, zs[k]?.getD 0 = g := ⟨_, rfl⟩
      obtain ⟨t, et⟩ : ∃ t, Bu.sumTo zs k = t := ⟨_, rfl⟩
      rw [eg] at hcell hz hb2
      rw [et] at hz hb1 ⊢
      rw [hz] at hb3
      have HZ := Lib.hid hz
      have HR1 := Lib.hid hR
      clear hz eg et hc hbl hR HR HI
      go_upto_region 11 with fail
      go_cut [62] (fun s62 wx => ∃ b : Bool, s62 = .bool b ∧ wx = wr ∧ (b = true → k < n2 ∧ 0 < zt[k]?.getD 0))
      case first =>
        by_cases hk2 : k < n2
        · rcases HE.out.2.2.1 with hr | ⟨bl2, off2, rfl, hbl2, hc2⟩
          · exfalso; have := HE.out.2.2.2; rw [hr] at this; simp at this; omega
          have hcell2 : wr.cell? ⟨bl2, off2 + k, none⟩ = some (.int .u16 (zt[k]?.getD 0)) := (HR1.out.bel.cell (p := ⟨bl2, off2 + k, none⟩) hbl2).trans (hc2 k (by have := HE.out.2.2.2; omega))
          have hs2 := HS.out.2 k
          obtain ⟨s, es⟩ : ∃ s, zt[k]?.getD 0 = s := ⟨_, rfl⟩
          rw [es] at hcell2 hs2
          have HES := Lib.hid es
          clear es hc2 hbl2 hcell
          by_cases hs0 : 0 < s
          · go_wp2_with fail
            go_meet
            case rel => exact ⟨true, by simp [hs0], rfl, fun _ => ⟨hk2, by rw [HES.out]; exact hs0⟩⟩
          · go_wp2_with fail
            go_meet
            case rel => exact ⟨false, by simp <;> omega, rfl, fun h => by cases h⟩
        · go_wp2_with fail
          go_meet
          case rel => exact ⟨false, by simp <;> omega, rfl, fun h => by cases h⟩
      case rest =>
        obtain ⟨b, rfl, rfl, hb⟩ := hcut
        obtain ⟨w4, rfl⟩ : ∃ w4 : World, w4 = wc := ⟨_, rfl⟩
        have HBB := Lib.hid hb
        clear hb hcell
        go_upto_if 62 with fail
        go_cut [14] (fun s14 wx => ∃ (m' : Int) (x' : Sh), s14 = .int .i64 m' ∧ RelW w p early k m' x' T u16 wx)
        case first =>
          cases b with
          | false =>
            go_wp2_with fail
            go_meet
            case rel => exact ⟨m, x, rfl, HR1.out⟩
          | true =>
            obtain ⟨hk2, hs0⟩ := HBB.out rfl
            rcases HE.out.2.2.1 with hr | ⟨bl2, off2, rfl, hbl2, hc2⟩
            · exfalso; have := HE.out.2.2.2; rw [hr] at this; simp at this; omega
            have hcw := hc2 k (by have := HE.out.2.2.2; omega)
            have hcell2 : w4.cell? ⟨bl2, off2 + k, none⟩ = some (.int .u16 (zt[k]?.getD 0)) := (HR1.out.bel.cell (p := ⟨bl2, off2 + k, none⟩) hbl2).trans hcw
            have hs2 := HS.out.2 k
            obtain ⟨s, es⟩ : ∃ s, zt[k]?.getD 0 = s := ⟨_, rfl⟩
            rw [es] at hcell2 hs2 hs0 hcw
            have HCW := Lib.hid (And.intro hbl2 hcw)
            have hin := HR1.out.inv.set (t + g) s (by omega)
            have hst := HR1.out.st
            have hea := set_early (t + g) s x
            have cs := set_st (t + g) s hst
            rcases setR_two (t + g) x with h0 | h9
            · have HIN := Lib.hid (And.intro (hin.1 h0) hea)
              rw [h0] at cs
              clear hin h0 hst hea hcw hbl2 hc2 es
              go_wp2_with fail
              refine cs.mono ?_
              rintro e w5 ⟨rfl, s5, k5⟩
              have hb5 := below_kept HR1.out.bel k5 hpw HR1.out.bel.size
              have hcell5 : w5.cell? ⟨bl2, off2 + k, none⟩ = some (.int .u16 s) := (hb5.cell (p := ⟨bl2, off2 + k, none⟩) HCW.out.1).trans HCW.out.2
              have hR5 : RelW w p early k (min m s) (setSh (t + g) s x) T u16 w5 := ⟨s5, HIN.out.2.trans HR1.out.ea, HIN.out.1, HR1.out.len, row_kept HR1.out.row HR1.out.st k5, hb5⟩
              have HR5 := Lib.hid hR5
              clear cs s5 k5 hb5 hR5 hcell2
              go_wp2_with fail
              go_meet
              case rel => exact ⟨_, _, rfl, HR5.out⟩
            · have HIN := Lib.hid (And.intro (hin.2 (by omega)) hea)
              rw [h9] at cs
              clear hin h9 hst hea hcw hbl2 hc2 es
              go_wp2_with fail
              refine cs.mono ?_
              rintro e w5 ⟨rfl, s5, k5⟩
              have hb5 := below_kept HR1.out.bel k5 hpw HR1.out.bel.size
              have hR5 : RelW w p early k m (setSh (t + g) s x) T u16 w5 := ⟨s5, HIN.out.2.trans HR1.out.ea, HIN.out.1, HR1.out.len, row_kept HR1.out.row HR1.out.st k5, hb5⟩
              have HR5 := Lib.hid hR5
              clear cs s5 k5 hb5 hR5 hcell2
              go_wp2_with fail
              go_meet
              case rel => exact ⟨_, _, rfl, HR5.out⟩
        case rest =>
          obtain ⟨m', x', rfl, hR⟩ := hcut
          obtain ⟨w5, rfl⟩ : ∃ w5 : World, w5 = wc := ⟨_, rfl⟩
          have cT := take_st (t + g) hR.st
          have hte := (take_early (t + g) x').trans hR.ea
          by_cases hf : fitSh (t + g) x' = true
          · have hin := hR.inv.took hR.st.ok (t := t + g) (by omega) (by omega) hf
            rw [hf] at cT
            have hlen := hR.len
            have HR5 := Lib.hid hR
            have HIN := Lib.hid (And.intro hin hte)
            clear hR hin hte hf HR1
            go_wp2_with fail
            refine cT.mono ?_
            rintro e w6 ⟨rfl, s6, k6⟩
            have hr6 := row_kept HR5.out.row HR5.out.st k6
            have hb6 := below_kept HR5.out.bel k6 hpw HR5.out.bel.size
            have HS6 := Lib.hid s6
            clear cT s6 k6
            have hsz := hb6.size
            go_wp2_with (at_builtin; refine Bu.wpList_push rfl _ _ rfl w.heap.size _ T rfl hr6 _ rfl (by omega) (by omega) ?_)
            intro v' w7 hrow' hg7
            have s7 := HS6.out.push hr6 hg7
            have hb7 : Below w.heap.size w w7 := hb6.grown hg7 hb6.size (fun j hj => hr6.block j hj)
            have hR7 : RelW w p early (k + 1) m' (takeSh (t + g) x') (T ++ [t + g]) v' w7 := ⟨s7, HIN.out.2, HIN.out.1, by simp; omega, hrow', hb7⟩
            have HR7 := Lib.hid hR7
            clear hrow' hg7 s7 hb7 hR7 hr6 hb6
            go_wp2_with fail
            go_roundw
            case rel => exact ⟨k + 1, m', _, _, by omega, by go_num, rfl, by rw [HZ.out], HR7.out⟩
            case measure => simp [intOf]; omega
          · have hf' : fitSh (t + g) x' = false := by simpa using hf
            have hin := hR.inv.not (t + g) hf'
            rw [hf'] at cT
            have HR5 := Lib.hid hR
            have HIN := Lib.hid (And.intro hin hte)
            clear hR hin hte hf hf' HR1
            go_wp2_with fail
            refine cT.mono ?_
            rintro e w6 ⟨rfl, s6, k6⟩
            have hR7 : RelW w p early (k + 1) m' (takeSh (t + g) x') T u16 w6 := ⟨s6, HIN.out.2, HIN.out.1, by have := HR5.out.len; omega, row_kept HR5.out.row HR5.out.st k6, below_kept HR5.out.bel k6 hpw HR5.out.bel.size⟩
            have HR7 := Lib.hid hR7
            clear cT s6 k6 hR7
            go_wp2_with fail
            go_roundw
            case rel => exact ⟨k + 1, m', _, _, by omega, by go_num, rfl, by rw [HZ.out], HR7.out⟩
            case measure => simp [intOf]; omega
    · have hkn : k = n := by omega
      subst hkn
      have hfar := hR.inv.far
      rw [hR.ea] at hfar
      have hm1 := hR.inv.m1
      have hm3 := hR.inv.m2
      have hT200 : T.length ≤ 200 := Nat.le_trans hR.len hn
      obtain ⟨AT, cT, rfl, hrdT⟩ := hR.row.rd
      have HF := Lib.hid hfar
      have HB := Lib.hid hR.inv.bd
      have HR9 := Lib.hid hR
      clear hfar hR HR HI hb1
      go_wp2_with fail
      go_loopw [89] (fun i2 wr2 => ∃ (i : Nat) (a : Nat), i ≤ T.length ∧ i2 = .int .i64 i ∧ wr2 = wr.drewN a) (fun i2 _ => T.length - (intOf i2).toNat)
      case atStart => exact ⟨0, 0, Nat.zero_le _, rfl, rfl⟩
      case round =>
        obtain ⟨i, a, hi, rfl, rfl⟩ := hrel
        by_cases hlt2 : i < T.length
        · rcases hrdT with hrdT | ⟨bt, offt, rfl, _, hct⟩
          · subst hrdT; simp at hlt2
          have HCT := Lib.hid hct
          have hci := hct i hlt2
          have hbi := HB.out i
          obtain ⟨ti, eti⟩ : ∃ t, T[i]?.getD 0 = t := ⟨_, rfl⟩
          rw [eti] at hci hbi
          have HTI := Lib.hid eti
          clear hct eti
          go_wp2_with fail
          go_loopw [19] (fun k2 wr2 => ∃ (q b : Nat), i ≤ q ∧ q ≤ T.length ∧ k2 = .int .i64 q ∧ wr2 = wr.drewN b) (fun k2 _ => T.length - (intOf k2).toNat)
          case atStart => exact ⟨i, _, Nat.le_refl _, hi, rfl, rfl⟩
          case round =>
            obtain ⟨q, b, hiq, hq, rfl, rfl⟩ := hrel
            by_cases hlt3 : q < T.length
            · have hck := HCT.out q hlt3
              have hbk := HB.out q
              have hf := HF.out i q hiq hlt3
              rw [HTI.out] at hf
              obtain ⟨tk, etk⟩ : ∃ t, T[q]?.getD 0 = t := ⟨_, rfl⟩
              rw [etk] at hck hbk hf
              have hq2 := far_div (by omega) hf hiq
              have hq0 := hq2.1
              have hq1 := hq2.2
              have hq3 : 0 ≤ (tk - ti + early) / m := Int.ediv_nonneg hq0 (by omega)
              have hq4 : (tk - ti + early) / m ≤ tk - ti + early := Int.ediv_le_self _ hq0
              clear etk hf hq2
              go_wp2_with fail
              go_quiet (fail)
              go_wp2_with fail
              go_roundw
              case rel => exact ⟨q + 1, _, by omega, by omega, by go_num, rfl⟩
              case measure => simp [intOf]; omega
            · go_wp2_with fail
              go_roundw
              case rel => exact ⟨i + 1, _, by omega, by go_num, rfl⟩
              case measure => simp [intOf]; omega
        · go_wp2_with fail
          go_ret
          exact ⟨rfl, below_drewN HR9.out.bel _⟩

theorem win_long (step early slow quick : Int) (A A2 : Option Addr) (n cap n2 cap2 : Nat) (w : World) (hn : 200 < n) :
    Calls Try.prog 4 #[.int .u16 step, .int .u16 early, .int .u16 slow, .int .u16 quick, .slice A n cap, .slice A2 n2 cap2] w fun e w' => e = .returned (.bool true) ∧ Below w.heap.size w w' := by
  go_enter Try.func4, Try.ntmps4
  go_wp2_with fail
  refine (awake_any _).mono ?_
  rintro e w1 ⟨rfl, b1⟩
  go_wp2_with fail
  refine (awake_any _).mono ?_
  rintro e w2 ⟨rfl, b2⟩
  go_wp2_with fail
  go_ret
  exact ⟨rfl, b1.trans (b2.mono b1.size)⟩

end Go.Proofs.Ytclplacjgofccaa
