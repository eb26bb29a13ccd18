/- The walk of LedgerBack. -/
import Derived.Test.YthgjccbmfbileaaBacP
import Derived.Deep.DeepCutAuto
namespace Go.Proofs.Ythgjccbmfbileaa
open Go.RowKit Go.Maps
set_option linter.unusedVariables false
set_option linter.unusedSimpArgs false

/-- A ledger whose numbers are as they may be. -/
structure Is (w W : World) (p m : Nat) (x : Lg) : Prop where
  has : HasL W p m x
  ok : x.Ok
  wf : WfL x.L
  bel : Below w.heap.size w W
  hp : w.heap.size ≤ p
  hm : w.heap.size ≤ m

theorem Is.turn {w W W' : World} {p m : Nat} {x y : Lg} (h : Is w W p m x) (hy : y.Ok) (hw : WfL y.L) (h1 : HasL W' p m y) (h2 : Kept p m W W') : Is w W' p m y :=
  ⟨h1, hy, hw, Kept.below h.bel h2 h.bel.size h.hp h.hm, h.hp, h.hm⟩
theorem Is.below {w W W' : World} {p m : Nat} {x : Lg} (h : Is w W p m x) (hb : Below W.heap.size W W') : Is w W' p m x :=
  ⟨h.has.below hb, h.ok, h.wf, h.bel.trans (hb.mono h.bel.size), h.hp, h.hm⟩
theorem Is.drewN {w W : World} {p m : Nat} {x : Lg} (h : Is w W p m x) (n : Nat) : Is w (W.drewN n) p m x :=
  ⟨h.has.drewN n, h.ok, h.wf, below_drewN h.bel n, h.hp, h.hm⟩

section
variable {w W : World} {p m : Nat} {x : Lg} (h : Is w W p m x)
include h
theorem Is.book {id need : Int} {r : Int} {y : Lg} (hwi : (Lit.int .i64 id).wf = true) (hlen : x.L.length < 1000000) (hr : bookE x id need = r) (hy : bookS x id need = y) :
    Calls Try.prog 14 #[.pointer (some ⟨p, 0, none⟩), .int .i64 id, .int .i64 need] W fun e w' => e = .returned (.int .i64 r) ∧ Is w w' p m y ∧ Kept p m W w' := by
  refine (book_at h.ok hwi hlen h.has hr hy).mono ?_
  rintro e w' ⟨rfl, h1, h2⟩
  exact ⟨rfl, h.turn (by rw [← hy]; exact bookS_ok h.ok _ _) (by rw [← hy]; exact wf_book h.wf hwi) h1 h2, h2⟩
theorem Is.change {id need : Int} {r : Int} {y : Lg} (hwi : (Lit.int .i64 id).wf = true) (hlen : x.L.length < 1000000) (hr : changeE x id need = r) (hy : changeS x id need = y) :
    Calls Try.prog 26 #[.pointer (some ⟨p, 0, none⟩), .int .i64 id, .int .i64 need] W fun e w' => e = .returned (.int .i64 r) ∧ Is w w' p m y ∧ Kept p m W w' := by
  refine (change_at h.ok hwi hlen h.has hr hy).mono ?_
  rintro e w' ⟨rfl, h1, h2⟩
  exact ⟨rfl, h.turn (by rw [← hy]; exact changeS_ok h.ok _ _) (by rw [← hy]; exact wf_change h.wf hwi) h1 h2, h2⟩
theorem Is.free {id : Int} {v : Int} {b : Bool} {y : Lg} (hwi : (Lit.int .i64 id).wf = true) (hv : (look x.L id).getD 0 = v) (hb : (look x.L id).isSome = b) (hy : freeS x id = y) :
    Calls Try.prog 12 #[.pointer (some ⟨p, 0, none⟩), .int .i64 id] W fun e w' => e = .returned (.tuple #[.int .i64 v, .bool b]) ∧ Is w w' p m y ∧ Kept p m W w' := by
  refine (free_at h.ok hwi h.has hy).mono ?_
  rintro e w' ⟨rfl, h1, h2⟩
  exact ⟨by rw [hv, hb], h.turn (by rw [← hy]; exact freeS_ok h.ok _) (by rw [← hy]; exact wf_free h.wf _) h1 h2, h2⟩
theorem Is.does {o : Op3} (hwi : (Lit.int .i64 o.2.1).wf = true) (hlen : x.L.length < 1000000) {y : Lg} (hy : doS x o = y) :
    Calls Try.prog 11 #[.pointer (some ⟨p, 0, none⟩), .agg #[.int .i64 o.1, .int .i64 o.2.1, .int .i64 o.2.2]] W fun e w' => e = .returned (.tuple #[.int .i64 (doE x o), .int .i64 (doN x o)]) ∧ Is w w' p m y ∧ Kept p m W w' := by
  refine (do_any x h.ok p m o hwi hlen W h.has).mono ?_
  rintro e w' ⟨rfl, h1, h2⟩
  rw [hy] at h1
  exact ⟨rfl, h.turn (by rw [← hy]; exact doS_ok h.ok _) (by rw [← hy]; exact wf_do h.wf hwi) h1 h2, h2⟩
theorem Is.all (hlen : x.L.length ≤ 1000) :
    Calls Try.prog 16 #[.pointer (some ⟨p, 0, none⟩)] W fun e w' => ∃ v, e = .returned v ∧ ERow w' W.heap.size v x.L ∧ Is w w' p m x ∧ Below W.heap.size W w' := by
  refine (all_any h.ok hlen h.wf h.has).mono ?_
  rintro e w' ⟨v, rfl, h1, h2⟩
  exact ⟨v, rfl, h1, h.below h2, h2⟩
end

theorem Is.new {w W : World} (room : Int) (hb : Below w.heap.size w W) : Calls Try.prog 10 #[.int .i64 room] W fun e w' => ∃ p m, e = .returned (.pointer (some ⟨p, 0, none⟩)) ∧ W.heap.size ≤ p ∧ W.heap.size ≤ m ∧ Is w w' p m ⟨max 0 (min room 1152921504606846976), []⟩ ∧ Below W.heap.size W w' := by
  refine (new_any room W).mono ?_
  rintro e w' ⟨p, m, rfl, hp, hm, h1, g1⟩
  have hb' := below_none g1
  exact ⟨p, m, rfl, hp, hm, ⟨h1, new_ok room, (fun q hq => by simp at hq), hb.trans (hb'.mono hb.size), Nat.le_trans hb.size hp, Nat.le_trans hb.size hm⟩, hb'⟩

set_option maxRecDepth 100000 in
set_option maxHeartbeats 3200000 in
theorem back_walk (room id need other : Int) (A : Option Addr) (cap : Nat) (zs : List Op3) (w : World) (hwi : (Lit.int .i64 id).wf = true) (hz : WfO zs) (hn : zs.length ≤ 100) (hr : RdO w A zs) :
    Calls Try.prog 7 #[.int .i64 room, .slice A zs.length cap, .int .i64 id, .int .i64 need, .int .i64 other] w fun e w' => e = .returned (.bool true) ∧ Below w.heap.size w w' := by
  have HZ := Lib.hid hz
  have HR := Lib.hid hr
  clear hz hr
  go_enter Try.func7, Try.ntmps7
  go_wp2_with fail
  refine (awake_any _).mono ?_
  rintro e w1 ⟨rfl, b1⟩
  have HB := Lib.hid b1
  clear b1
  go_wp2_with fail
  refine (Is.new _ HB.out).mono ?_
  rintro e w2 ⟨p, m, rfl, _, _, hI, _⟩
  have H2 := Lib.hid hI
  clear hI
  go_wp2_with fail
  go_loopw [30] (fun i wr => ∃ (k : Nat) (x : Lg), k ≤ zs.length ∧ i = .int .i64 k ∧ Is w wr p m x ∧ x.L.length ≤ k) (fun i _ => zs.length - (intOf i).toNat)
  case atStart => exact ⟨0, _, Nat.zero_le _, rfl, H2.out, Nat.le_refl _⟩
  case round =>
    obtain ⟨k, x, hk, rfl, hI, hxl⟩ := hrel
    by_cases hlt : k < zs.length
    · obtain ⟨b, off, rfl, c0, c1, c2⟩ := HR.out.cells hI.bel hlt
      have hz := HZ.out k
      obtain ⟨o, eo⟩ : ∃ o, opAt zs k = o := ⟨_, rfl⟩
      rw [eo] at c0 c1 c2 hz
      have HD := Lib.hid (hI.does hz.2.1 (by omega) rfl)
      have hl3 := doS_len x o
      clear eo hI H2
      go_wp2_with fail
      refine HD.out.mono ?_
      rintro e w3 ⟨rfl, h3, _⟩
      have H3 := Lib.hid h3
      clear h3 c0 c1 c2
      go_wp2_with fail
      go_roundw
      case rel => exact ⟨k + 1, _, by omega, by go_num, H3.out, by omega⟩
      case measure => simp [intOf]; omega
    · have HI := Lib.hid hI
      have hx1 : x.L.length ≤ 100 := by omega
      have HA := Lib.hid (hI.all (by omega))
      clear hI H2
      go_wp2_with fail
      refine HA.out.mono ?_
      rintro e w3 ⟨v, rfl, hrow, h3, _⟩
      obtain ⟨B3, eB3⟩ : ∃ B3, wr.heap.size = B3 := ⟨_, rfl⟩
      rw [eB3] at hrow
      have H3 := Lib.hid (And.intro h3 hrow)
      clear hrow h3 eB3 HI HA
      obtain ⟨r, er⟩ : ∃ r, bookE x id need = r := ⟨_, rfl⟩
      obtain ⟨y, ey⟩ : ∃ y, bookS x id need = y := ⟨_, rfl⟩
      have HBK := Lib.hid (H3.out.1.book hwi (by omega) er ey)
      have HR0 := Lib.hid (And.intro er ey)
      clear er ey
      go_wp2_with fail
      refine HBK.out.mono ?_
      rintro e w4 ⟨rfl, h4, k4⟩
      have H4 := Lib.hid (And.intro h4 (row_kept H3.out.2 H3.out.1.has k4))
      clear h4 k4
      go_upto_if 46 with fail
      go_cut [] (fun wx => Is w wx p m x ∧ ERow wx B3 v x.L)
      case first =>
        by_cases h0 : r = 0
        · subst h0
          obtain ⟨u, hu, hlk, hfr⟩ := book_back HR0.out.1 other
          rw [HR0.out.2] at hlk hfr
          obtain ⟨r2, er2⟩ : ∃ r2, changeE y id other = r2 := ⟨_, rfl⟩
          obtain ⟨z, ez⟩ : ∃ z, changeS y id other = z := ⟨_, rfl⟩
          rw [ez] at hlk hfr
          have hyl : y.L.length ≤ x.L.length + 1 := by rw [← HR0.out.2]; exact bookS_len x id need
          have HCH := Lib.hid (H4.out.1.change hwi (by omega) er2 ez)
          have HZL := Lib.hid (And.intro hlk hfr)
          clear hlk hfr er2 ez
          go_wp2_with fail
          refine HCH.out.mono ?_
          rintro e w5 ⟨rfl, h5, k5⟩
          have HFR := Lib.hid (h5.free (v := u) (b := true) hwi (by rw [HZL.out.1]; rfl) (by rw [HZL.out.1]; rfl) HZL.out.2)
          have H5 := Lib.hid (And.intro h5 (row_kept H4.out.2 H4.out.1.has k5))
          clear h5 k5
          go_wp2_with fail
          refine HFR.out.mono ?_
          rintro e w6 ⟨rfl, h6, k6⟩
          have H6 := Lib.hid (And.intro h6 (row_kept H5.out.2 H5.out.1.has k6))
          clear h6 k6
          have hbt : (u != need) = false ∨ ((u != need) = true ∧ (u != other) = false) := by
            by_cases h : u = need
            · exact .inl (by simpa using h)
            · rcases hu with e | e
              · exact absurd e h
              · exact .inr ⟨by simpa using h, by simpa using e⟩
          clear hu
          rcases hbt with hb1 | ⟨hb1, hb2⟩
          all_goals
            go_wp2_with fail
            go_meet
            case rel => exact H6.out
        · have hbr : (r == 0) = false := by simpa using h0
          have hyx : y = x := by
            rw [← HR0.out.2]
            unfold bookS
            rw [if_neg (by rw [HR0.out.1]; exact h0)]
          have HYX := Lib.hid hyx
          clear hyx h0
          go_wp2_with fail
          go_meet
          case rel =>
            have := H4.out
            rwa [HYX.out] at this
      case rest =>
        obtain ⟨h7, r7⟩ := hcut
        obtain ⟨w7, rfl⟩ : ∃ w7 : World, w7 = wc := ⟨_, rfl⟩
        cases hlk : look x.L id with
        | none =>
          have HG := Lib.hid (get_at hwi h7.has (v := 0) (bb := false) (by rw [hlk]; rfl) (by rw [hlk]; rfl))
          have HA := Lib.hid (fun n => (h7.drewN n).all (by omega))
          have H7 := Lib.hid r7
          clear h7 r7 hlk
          go_wp2_with fail
          refine HG.out.mono ?_
          rintro e w8 ⟨rfl, n8, rfl⟩
          go_wp2_with fail
          refine (HA.out n8).mono ?_
          rintro e w9 ⟨v9, rfl, r9, h9, b9⟩
          have r9' := row_below (row_below H7.out (below_drewN (Below.refl _ _) n8)) b9
          obtain ⟨A1, c1, rfl, d1⟩ := r9.rd
          obtain ⟨A2, c2, rfl, d2⟩ := r9'.rd
          have HSm := Lib.hid (same_eq (c := c1) (c' := c2) (by omega) d1 d2)
          have H9 := Lib.hid h9.bel
          clear r9 r9' d1 d2 h9 b9
          go_wp2_with fail
          refine HSm.out.mono ?_
          rintro e w10 ⟨rfl, n10, rfl⟩
          go_wp2_with fail
          go_ret
          exact ⟨rfl, below_drewN H9.out _⟩
        | some n0 =>
          have HG := Lib.hid (get_at hwi h7.has (v := n0) (bb := true) (by rw [hlk]; rfl) (by rw [hlk]; rfl))
          have H7 := Lib.hid (And.intro h7 (And.intro r7 hlk))
          clear h7 r7 hlk
          go_wp2_with fail
          refine HG.out.mono ?_
          rintro e w8 ⟨rfl, n8, rfl⟩
          by_cases hc0 : changeE x id other = 0
          · have hcb := change_back H7.out.1.ok H7.out.2.2 hc0
            obtain ⟨z, ez⟩ : ∃ z, changeS x id other = z := ⟨_, rfl⟩
            rw [ez] at hcb
            have hzl : z.L.length ≤ x.L.length + 1 := by rw [← ez]; exact changeS_len x id other
            have HC1 := Lib.hid ((H7.out.1.drewN n8).change hwi (by omega) hc0 ez)
            have HCB := Lib.hid hcb
            have HRW := Lib.hid (row_below H7.out.2.1 (below_drewN (Below.refl _ _) n8))
            have HH8 := Lib.hid (H7.out.1.drewN n8)
            clear hcb ez hc0
            go_wp2_with fail
            refine HC1.out.mono ?_
            rintro e wa ⟨rfl, ha, ka⟩
            have HC2 := Lib.hid (ha.change hwi (by omega) HCB.out.1 HCB.out.2)
            have Ha := Lib.hid (And.intro ha (row_kept HRW.out HH8.out.has ka))
            clear ha ka
            go_wp2_with fail
            refine HC2.out.mono ?_
            rintro e wb ⟨rfl, hb, kb⟩
            have H8 := Lib.hid (row_kept Ha.out.2 Ha.out.1.has kb)
            have HA := Lib.hid (hb.all (by omega))
            clear hb kb
            go_wp2_with fail
            refine HA.out.mono ?_
            rintro e w9 ⟨v9, rfl, r9, h9, b9⟩
            have r9' := row_below H8.out b9
            obtain ⟨A1, c1, rfl, d1⟩ := r9.rd
            obtain ⟨A2, c2, rfl, d2⟩ := r9'.rd
            have HSm := Lib.hid (same_eq (c := c1) (c' := c2) (by omega) d1 d2)
            have H9 := Lib.hid h9.bel
            clear r9 r9' d1 d2 h9 b9
            go_wp2_with fail
            refine HSm.out.mono ?_
            rintro e w10 ⟨rfl, n10, rfl⟩
            go_wp2_with fail
            go_ret
            exact ⟨rfl, below_drewN H9.out _⟩
          · obtain ⟨r2, er2⟩ : ∃ r2, changeE x id other = r2 := ⟨_, rfl⟩
            have hzx : changeS x id other = x := by unfold changeS; rw [if_neg hc0]
            rw [er2] at hc0
            have hbr : (r2 == 0) = false := by simpa using hc0
            have HC1 := Lib.hid ((H7.out.1.drewN n8).change hwi (by omega) er2 hzx)
            have HRW := Lib.hid (row_below H7.out.2.1 (below_drewN (Below.refl _ _) n8))
            have HH8 := Lib.hid (H7.out.1.drewN n8)
            clear er2 hzx hc0
            go_wp2_with fail
            refine HC1.out.mono ?_
            rintro e wa ⟨rfl, ha, ka⟩
            have H8 := Lib.hid (row_kept HRW.out HH8.out.has ka)
            have HA := Lib.hid (ha.all (by omega))
            clear ha ka
            go_wp2_with fail
            refine HA.out.mono ?_
            rintro e w9 ⟨v9, rfl, r9, h9, b9⟩
            have r9' := row_below H8.out b9
            obtain ⟨A1, c1, rfl, d1⟩ := r9.rd
            obtain ⟨A2, c2, rfl, d2⟩ := r9'.rd
            have HSm := Lib.hid (same_eq (c := c1) (c' := c2) (by omega) d1 d2)
            have H9 := Lib.hid h9.bel
            clear r9 r9' d1 d2 h9 b9
            go_wp2_with fail
            refine HSm.out.mono ?_
            rintro e w10 ⟨rfl, n10, rfl⟩
            go_wp2_with fail
            go_ret
            exact ⟨rfl, below_drewN H9.out _⟩

theorem back_long (room id need other : Int) (A : Option Addr) (n cap : Nat) (w : World) (hn : 100 < n) :
    Calls Try.prog 7 #[.int .i64 room, .slice A n cap, .int .i64 id, .int .i64 need, .int .i64 other] w fun e w' => e = .returned (.bool true) ∧ Below w.heap.size w w' := by
  go_enter Try.func7, Try.ntmps7
  go_wp2_with fail
  refine (awake_any _).mono ?_
  rintro e w1 ⟨rfl, b1⟩
  go_wp2_with fail
  refine (awake_any _).mono ?_
  rintro e w2 ⟨rfl, b2⟩
  go_wp2_with fail
  go_ret
  exact ⟨rfl, b1.trans (b2.mono b1.size)⟩

end Go.Proofs.Ythgjccbmfbileaa
