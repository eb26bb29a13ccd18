/- The walk of LedgerNil. -/
import Derived.Test.YthgjccbmfbileaaNilP
import Derived.Deep.DeepCutAuto
import Derived.Deep.RegionHeld3
namespace Go.Proofs.Ythgjccbmfbileaa
open Go.RowKit Go.Maps Go.Shelf Go.Sort
set_option linter.unusedVariables false
set_option linter.unusedSimpArgs false

attribute [local go_sem] Oper.semAt_some

set_option maxRecDepth 100000 in
set_option maxHeartbeats 12800000 in
theorem nil_walk (stop : Int) (A : Option Addr) (cap : Nat) (zs : List Op3) (w : World) (hs0 : 0 ≤ stop) (hs1 : stop ≤ 255) (hz : WfO zs) (hn : zs.length ≤ 100) (hr : RdO w A zs) :
    Calls Try.prog 8 #[.slice A zs.length cap, .int .u8 stop] w fun e w' => e = .returned (.bool true) ∧ Below w.heap.size w w' := by
  have HZ := Lib.hid hz
  have HR := Lib.hid hr
  clear hz hr
  refine (callsIn_wide (n := 7)).1 (callsIn_of_wp_marks Try.func8 rfl trivial ?_ rfl)
  simp only [Try.ntmps8, List.size_toArray, List.length_cons, List.length_nil, Nat.reduceAdd, Nat.reduceSub, Array.replicate_succ, Array.replicate_zero, List.push_toArray, List.append_toArray, List.nil_append, List.cons_append]
  refine wpIn_wide.2 ?_
  have HBS := Lib.hid (Boxed.new w 5 (.int .u8 stop))
  have HB0 := Lib.hid ((Below.refl w.heap.size w).alloc (Nat.le_refl _) (.cells #[.int .u8 stop] 5))
  obtain ⟨b3, eb3⟩ : ∃ b3, w.heap.size = b3 := ⟨_, rfl⟩
  go_wp2_with fail
  refine (awake_any _).mono ?_
  rintro e w1 ⟨rfl, b1⟩
  have HB := Lib.hid (And.intro (HB0.out.trans (b1.mono HB0.out.size)) (Boxed.below HBS.out b1))
  clear b1
  go_wp2_with fail
  refine (Is.new _ HB.out.1).mono ?_
  rintro e w2 ⟨p, m, rfl, _, _, hI, hb2⟩
  have H2 := Lib.hid (And.intro hI (Boxed.below HB.out.2 hb2))
  clear hI hb2
  have hN2 : Nl w (w2.alloc (.cells #[.pointer (some ⟨p, 0, none⟩)] 24)) p m w.heap.size w2.heap.size stop ⟨max 0 (min 1152921504606846976 1152921504606846976), []⟩ :=
    ⟨H2.out.1.below ((Below.refl _ _).alloc (Nat.le_refl _) _), H2.out.2.alloc _, Boxed.new _ _ _⟩
  obtain ⟨b5, eb5⟩ : ∃ b5, w2.heap.size = b5 := ⟨_, rfl⟩
  rw [eb5] at hN2
  have HN2 := Lib.hid hN2
  clear hN2
  go_wp2_with fail
  go_loopw [26] (fun i wr => ∃ (k : Nat) (x : Lg), k ≤ zs.length ∧ i = .int .i64 k ∧ Nl w wr p m b3 b5 stop x ∧ x.L.length ≤ k) (fun i _ => zs.length - (intOf i).toNat)
  case atStart => exact ⟨0, _, Nat.zero_le _, rfl, by have := HN2.out; rw [eb3] at this; exact this, Nat.le_refl _⟩
  case round =>
    obtain ⟨k, x, hk, rfl, hD, hxl⟩ := hrel
    have hbc := hD.bx.cell
    by_cases hlt : k < zs.length
    · have hbel : Below w.heap.size w wr := hD.is.bel
      rcases HR.out with h0 | ⟨b, off, rfl, hbl, hc⟩
      · exfalso; rw [h0] at hlt; simp at hlt
      obtain ⟨q0, q1, q2⟩ := hc k hlt
      have hz := HZ.out k
      obtain ⟨o, eo⟩ : ∃ o, opAt zs k = o := ⟨_, rfl⟩
      rw [eo] at q0 q1 q2 hz
      have c0 := (hbel.cell (p := ⟨b, off + k * 3, none⟩) hbl).trans q0
      have c1 := (hbel.cell (p := ⟨b, off + k * 3 + 1, none⟩) hbl).trans q1
      have c2 := (hbel.cell (p := ⟨b, off + k * 3 + 1 + 1, none⟩) hbl).trans q2
      have hl3 := doS_len x o
      have hDd := hD.drew
      obtain ⟨d, oid, need⟩ := o
      simp only at c0 c1 c2 hz q0 q1 q2
      have HW := Lib.hid (And.intro hbl (And.intro q0 (And.intro q1 q2)))
      have hk0 : (0 : Int) ≤ (k : Int) := Int.natCast_nonneg _
      have hk1 : (k : Int) < (zs.length : Int) := by omega
      clear eo hD HN2 hc hbl q0 q1 q2
      go_wp2_with fail
      go_region_held3 (fun w' => w'.cell? ⟨b5, 0, none⟩ = some (.pointer (some ⟨p, 0, none⟩)) ∧ w'.cell? ⟨b, off + k * 3, none⟩ = some (.int .i64 d) ∧ w'.cell? ⟨b, off + k * 3 + 1, none⟩ = some (.int .i64 oid) ∧ w'.cell? ⟨b, off + k * 3 + 1 + 1, none⟩ = some (.int .i64 need)) (first | (exact ⟨by assumption, by assumption, by assumption, by assumption⟩) | go_keep)
        (first | (go_at_call 11; refine (Nl.does (o := (d, oid, need)) (by assumption) hz.2.1 (by omega) rfl).mono ?_; rintro e w3 ⟨rfl, h3⟩; have j0 := h3.bx.cell; have j1 := (h3.is.bel.cell (p := ⟨b, off + k * 3, none⟩) HW.out.1).trans HW.out.2.1; have j2 := (h3.is.bel.cell (p := ⟨b, off + k * 3 + 1, none⟩) HW.out.1).trans HW.out.2.2.1; have j3 := (h3.is.bel.cell (p := ⟨b, off + k * 3 + 1 + 1, none⟩) HW.out.1).trans HW.out.2.2.2))
      all_goals
        have H3 := Lib.hid h3
        clear h3 j0 j1 j2 j3 c0 c1 c2 hbc
        go_wp2_with fail
        go_roundw
        case rel => exact ⟨k + 1, _, by omega, by go_num, H3.out, by omega⟩
        case measure => simp [intOf]; omega
    · have HD := Lib.hid hD
      have hNl : x.L.length ≤ 100 := by omega
      obtain ⟨N, eN⟩ : ∃ N, x.L.length = N := ⟨_, rfl⟩
      have HA := Lib.hid (hD.all (by omega) eN)
      have HN := Lib.hid eN
      clear hD HN2
      go_wp2_with fail
      refine HA.out.mono ?_
      rintro e w3 ⟨A3, c3, rfl, h3, _⟩
      have H3 := Lib.hid h3
      have hbx3 := (h3.bx.alloc (.cells #[.int .i64 0] 3)).cell
      clear h3 hbc
      go_wp2_with (go_at_call 25; refine ((callsIn_wide (n := 7)).1 (All_in 7 _ _)).mono ?_; rintro e w' ⟨rfl, rfl⟩)
      obtain ⟨ys, hys⟩ := H3.out.is.wf.ys
      have hyl : ys.length = N := by rw [← HN.out, ← hys, List.length_map]
      have hN0 : Nl w ((w3.alloc (.cells #[.int .i64 0] 3)).alloc (.cells #[.pointer (some ⟨p, 0, none⟩)] 24)) p m b3 b5 stop x :=
        H3.out.below (((Below.refl _ _).alloc (Nat.le_refl _) _).alloc (by simp) _)
      have h80 : Boxed ((w3.alloc (.cells #[.int .i64 0] 3)).alloc (.cells #[.pointer (some ⟨p, 0, none⟩)] 24)) w3.heap.size 3 (.int .i64 0) := (Boxed.new _ _ _).alloc _
      have bN : Boxed ((w3.alloc (.cells #[.int .i64 0] 3)).alloc (.cells #[.pointer (some ⟨p, 0, none⟩)] 24)) (w3.heap.size + 1) 24 (.pointer (some ⟨p, 0, none⟩)) := by
        have := Boxed.new (w3.alloc (.cells #[.int .i64 0] 3)) 24 (.pointer (some ⟨p, 0, none⟩))
        rw [World.size_alloc] at this
        exact this
      obtain ⟨b8, eb8⟩ : ∃ b8, w3.heap.size = b8 := ⟨_, rfl⟩
      have hw8 : w.heap.size ≤ b8 := by rw [← eb8]; exact H3.out.is.bel.size
      have hp8 : p < b8 := by rw [← eb8]; exact H3.out.is.has.lt
      have hm8 : m < b8 := by rw [← eb8]; exact H3.out.is.has.own.lt
      have h38 : b3 < b8 := by rw [← eb8]; exact lt_of_block H3.out.bs
      have h58 : b5 < b8 := by rw [← eb8]; exact lt_of_block H3.out.bx
      refine (wpIn_wide (n := 7)).1 ?_
      generalize hW0 : (w3.alloc (.cells #[.int .i64 0] 3)).alloc (.cells #[.pointer (some ⟨p, 0, none⟩)] 24) = W0
      rw [hW0] at hN0 h80 bN
      have hsz0 : W0.heap.size = b8 + 2 := by rw [← hW0, ← eb8]; simp
      rw [eb8] at h80 bN
      rw [eb8]
      refine wpIn_rangeFunc_ownG rfl (by omega) (gf := 30) (lb := #[.pointer (some ⟨b8 + 1, 0, none⟩)]) rfl trivial (enters_of Try.func30 (by kernel_rfl) rfl)
        (all_stops (b8 + 1) p m x hN0.is.ok (by omega) ys hys W0 (by omega) (by exact bN.cell) hN0.is.has) KpB.trans (fun W l o o' hl ho hc hw => KpB.turn W l o o' hl ho hc hw) (Below.refl _ _) (fun _ => rfl)
        (fun pre W => Nl w W p m b3 b5 stop ⟨x.room, dels x.L pre⟩ ∧ Boxed W b8 3 (.int .i64 pre.length) ∧ (pre.length : Int) ≤ stop)
        (fun c pre W => c = .exit 2 ∧ Nl w W p m b3 b5 stop ⟨x.room, dels x.L pre⟩ ∧ Boxed W b8 3 (.int .i64 pre.length) ∧ (pre.length : Int) = stop + 1)
        (fun pre C C' row hs hg hr => ⟨hs.1.own (B0 := W0.heap.size) (by omega) (by omega) (by omega) (by omega) (by omega) hg hr, hs.2.1.kept hg (fun e => by have := (hr b8 e.symm).1; omega), hs.2.2⟩)
        (fun c pre C C' row hs hg hr => ⟨hs.1, hs.2.1.own (B0 := W0.heap.size) (by omega) (by omega) (by omega) (by omega) (by omega) hg hr, hs.2.2.1.kept hg (fun e => by have := (hr b8 e.symm).1; omega), hs.2.2.2⟩)
        ⟨hN0, h80, by simpa using hs0⟩
        (fun q => { tmps := #[.slice A zs.length cap, .int .u8 stop, undef, .pointer (some ⟨b3, 0, none⟩), .bool false, .pointer (some ⟨b5, 0, none⟩), u6, .int .i64 N, .pointer (some ⟨b8, 0, none⟩), .int .i64 q.1.1, undef, undef, undef, undef, undef, .bool true, .bool false, .bool false, .slice A zs.length cap, .int .i64 zs.length, .bool (decide (100 < (zs.length : Int))), .bool (decide (100 < (zs.length : Int))), undef, .pointer (some ⟨p, 0, none⟩), .slice A zs.length cap, .int .i64 zs.length, .int .i64 k, .bool false, u28, u29, u30, u31, u32, u33, u34, u35, .pointer (some ⟨p, 0, none⟩), .slice A3 N c3, .int .i64 N, .pointer (some ⟨p, 0, none⟩), .func (.func 30) #[] #[.pointer (some ⟨b8 + 1, 0, none⟩)], .int .i64 q.1.1, .int .i64 q.1.2, undef, undef, undef, undef, undef, undef, undef, undef, undef, undef, undef, undef, undef, undef, undef, undef, undef, undef, undef, undef, undef, undef, undef, undef, undef, undef, undef, undef, undef, undef, undef, undef, undef, undef, undef, undef, undef, undef, undef, undef, undef, undef, undef, undef, undef, undef, undef, undef, undef, undef, undef, undef, undef, undef, undef, undef, undef, undef, undef, undef, undef, undef, undef, undef, undef, undef, undef], defers := [] }) ?assign ?body ?done ?stop
      case assign =>
        intro l q W K hK
        unfold encP
        gi_wp2
        exact hK
      case body =>
        rintro l pre q W ⟨hN1, h81, hle⟩ hlt
        have hf12 : Fence.wide.fn 12 := trivial
        have hbx1 := hN1.bx.cell
        have HF := Lib.hid (CallsIn.inRound l ((callsIn_wide (n := 4)).2 (hN1.free (q := q) h81)))
        obtain ⟨j, ej⟩ : ∃ j, pre.length = j := ⟨_, rfl⟩
        have HJ := Lib.hid (And.intro ej h81)
        have hj1 : j ≤ 255 := by omega
        rw [ej] at hle
        clear ej h81 hN1
        gi_wp2_with (gi_at_call 12; refine HF.out.mono ?_; rintro e w5 ⟨u, rfl, h5, h5b, k5⟩; have hb8 := h5b.cell; have hf8 := h5b.frozen; have hbs := h5.bs.cell)
        have K1 := keeps_of (B := W0.heap.size) k5 (by omega) (by omega)
        have K2 := keeps_of (B := W0.heap.size) (Kept.set (p := b8) (m := b8) w5 0 (.int .i64 ((pre.length : Int) + 1))) (by omega) (by omega)
        have hbx5 : Boxed (w5.setCell ⟨b8, 0, none⟩ (.int .i64 ((pre.length : Int) + 1))) b8 3 (.int .i64 ((pre ++ [q]).length : Nat)) := by
          have := h5b.set (.int .i64 ((pre.length : Int) + 1))
          simpa using this
        · exact ⟨K1.1.trans K2.1, rfl, h5.set h5b hw8 _, hbx5, by simp; have := HJ.out.1; omega⟩
        have K1 := keeps_of (B := W0.heap.size) k5 (by omega) (by omega)
        have K2 := keeps_of (B := W0.heap.size) (Kept.set (p := b8) (m := b8) w5 0 (.int .i64 ((pre.length : Int) + 1))) (by omega) (by omega)
        have hbx5 : Boxed (w5.setCell ⟨b8, 0, none⟩ (.int .i64 ((pre.length : Int) + 1))) b8 3 (.int .i64 ((pre ++ [q]).length : Nat)) := by
          have := h5b.set (.int .i64 ((pre.length : Int) + 1))
          simpa using this
        · exact ⟨K1.1.trans K2.1, K1.2.trans K2.2, h5.set h5b hw8 _, hbx5, by simp; have := HJ.out.1; omega⟩
      case done =>
        rintro D xs W hD hxs ⟨hN1, h81, hle⟩ hK
        subst hxs
        obtain ⟨y, ey⟩ : ∃ y : Lg, Lg.mk x.room (dels x.L xs) = y := ⟨_, rfl⟩
        obtain ⟨M, eM⟩ : ∃ M, y.L.length = M := ⟨_, rfl⟩
        obtain ⟨c, ec⟩ : ∃ c : Int, ((xs).length : Int) = c := ⟨_, rfl⟩
        have hX : Nx w W p m b3 b5 b8 D stop c y := ⟨by rw [← ey]; exact hN1, by rw [← ec]; exact h81, hK⟩
        have hyL : y.L.length = N - (xs).length ∧ (xs).length ≤ N := by
          have := dels_len hN0.is.ok.so hys (List.prefix_refl _)
          rw [HN.out] at this
          rw [← ey]
          exact this
        have hNM : (N : Int) - c = (M : Int) := by rw [← ec, ← eM, hyL.1]; omega
        have hc0 : 0 ≤ c := by rw [← ec]; omega
        have hcN : c ≤ N := by rw [← ec]; omega
        have hN100 : N ≤ 100 := by omega
        have hmin : min (N : Int) (stop + 1) = c := by omega
        have hwr1 : IntKind.i64.wrap stop = stop := Go.IntWalk.i64_in _ (by omega)
        have hwr2 : IntKind.i64.wrap (stop + 1) = stop + 1 := Go.IntWalk.i64_in _ (by omega)
        have hwr3 : IntKind.i64.wrap (M : Int) = M := Go.IntWalk.i64_in _ (by omega)
        have hwr4 : IntKind.i64.wrap 0 = 0 := Go.IntWalk.i64_in _ (by omega)
        have hD' : w.heap.size ≤ D := by omega
        have HM := Lib.hid (And.intro eM (And.intro hD' (show y.L.length ≤ 1000 by omega)))
        clear hyL ey eM ec hN1 h81 hle hK hN0 h80 bN hys
        go_wp2_with fail
        refine (hX.free0 1).mono ?_
        rintro e w6 ⟨rfl, hX6⟩
        go_wp2_with fail
        refine (hX6.get0 1).mono ?_
        rintro e w7 ⟨rfl, hX7⟩
        clear hX hX6
        have hXd := hX7.drew
        have g8 := hX7.b8.cell
        have g3 := hX7.nl.bs.cell
        have g5 := hX7.nl.bx.cell
        go_wp2_with fail
        go_region_held3 (fun w' => w'.cell? ⟨b8, 0, none⟩ = some (.int .i64 c) ∧ w'.cell? ⟨b3, 0, none⟩ = some (.int .u8 stop) ∧ w'.cell? ⟨b5, 0, none⟩ = some (.pointer (some ⟨p, 0, none⟩))) (first | (exact ⟨by assumption, by assumption, by assumption⟩) | go_keep)
          (first
            | (go_at_call 14; refine (Nx.book0 (by assumption) _ _).mono ?_; rintro e w8 ⟨rfl, h8⟩; have j0 := h8.b8.cell; have j1 := h8.nl.bs.cell; have j2 := h8.nl.bx.cell)
            | (go_at_call 26; refine (Nx.change0 (by assumption) _ _).mono ?_; rintro e w8 ⟨rfl, h8⟩; have j0 := h8.b8.cell; have j1 := h8.nl.bs.cell; have j2 := h8.nl.bx.cell)
            | (go_at_call 23; refine (Nx.used0 (by assumption)).mono ?_; rintro e w8 ⟨rfl, h8⟩; have j0 := h8.b8.cell; have j1 := h8.nl.bs.cell; have j2 := h8.nl.bx.cell)
            | (go_at_call 13; refine (Nx.left0 (by assumption)).mono ?_; rintro e w8 ⟨rfl, h8⟩; have j0 := h8.b8.cell; have j1 := h8.nl.bs.cell; have j2 := h8.nl.bx.cell)
            | (go_at_call 16; with_reducible (show Calls Try.prog 16 #[Value.pointer none] _ _); refine (Nx.all0 (by assumption)).mono ?_; rintro e w8 ⟨rfl, h8⟩; have j0 := h8.b8.cell; have j1 := h8.nl.bs.cell; have j2 := h8.nl.bx.cell)
            | (go_at_call 16; refine (Nx.all (by assumption) HM.out.2.2 HM.out.1).mono ?_; rintro e w8 ⟨A8, c8, rfl, h8⟩; have j0 := h8.b8.cell; have j1 := h8.nl.bs.cell; have j2 := h8.nl.bx.cell))
        all_goals
          go_wp2_with fail
          refine ⟨by simp, .inl ⟨_, _, rfl, run_takeDeferred h8.dd, ?_⟩⟩
          exact ⟨_, results_tmp rfl _ _ _, rfl, h8.nl.is.bel.trans (belowK_b (w := w) (Nat.le_refl _) _ D _ _ HM.out.2.1 h8.dd rfl rfl)⟩
      case stop =>
        rintro D c0 pre W hD hp ⟨rfl, hN1, h81, hle⟩ hK
        refine (wpIn_wide (n := 7)).2 ?_
        obtain ⟨y, ey⟩ : ∃ y : Lg, Lg.mk x.room (dels x.L pre) = y := ⟨_, rfl⟩
        obtain ⟨M, eM⟩ : ∃ M, y.L.length = M := ⟨_, rfl⟩
        obtain ⟨c, ec⟩ : ∃ c : Int, ((pre).length : Int) = c := ⟨_, rfl⟩
        have hX : Nx w W p m b3 b5 b8 D stop c y := ⟨by rw [← ey]; exact hN1, by rw [← ec]; exact h81, hK⟩
        have hyL : y.L.length = N - (pre).length ∧ (pre).length ≤ N := by
          have := dels_len hN0.is.ok.so hys hp
          rw [HN.out] at this
          rw [← ey]
          exact this
        have hNM : (N : Int) - c = (M : Int) := by rw [← ec, ← eM, hyL.1]; omega
        have hc0 : 0 ≤ c := by rw [← ec]; omega
        have hcN : c ≤ N := by rw [← ec]; omega
        have hN100 : N ≤ 100 := by omega
        have hmin : min (N : Int) (stop + 1) = c := by omega
        have hwr1 : IntKind.i64.wrap stop = stop := Go.IntWalk.i64_in _ (by omega)
        have hwr2 : IntKind.i64.wrap (stop + 1) = stop + 1 := Go.IntWalk.i64_in _ (by omega)
        have hwr3 : IntKind.i64.wrap (M : Int) = M := Go.IntWalk.i64_in _ (by omega)
        have hwr4 : IntKind.i64.wrap 0 = 0 := Go.IntWalk.i64_in _ (by omega)
        have hD' : w.heap.size ≤ D := by omega
        have HM := Lib.hid (And.intro eM (And.intro hD' (show y.L.length ≤ 1000 by omega)))
        clear hyL ey eM ec hN1 h81 hle hK hN0 h80 bN hys
        go_wp2_with fail
        refine (hX.free0 1).mono ?_
        rintro e w6 ⟨rfl, hX6⟩
        go_wp2_with fail
        refine (hX6.get0 1).mono ?_
        rintro e w7 ⟨rfl, hX7⟩
        clear hX hX6
        have hXd := hX7.drew
        have g8 := hX7.b8.cell
        have g3 := hX7.nl.bs.cell
        have g5 := hX7.nl.bx.cell
        go_wp2_with fail
        go_region_held3 (fun w' => w'.cell? ⟨b8, 0, none⟩ = some (.int .i64 c) ∧ w'.cell? ⟨b3, 0, none⟩ = some (.int .u8 stop) ∧ w'.cell? ⟨b5, 0, none⟩ = some (.pointer (some ⟨p, 0, none⟩))) (first | (exact ⟨by assumption, by assumption, by assumption⟩) | go_keep)
          (first
            | (go_at_call 14; refine (Nx.book0 (by assumption) _ _).mono ?_; rintro e w8 ⟨rfl, h8⟩; have j0 := h8.b8.cell; have j1 := h8.nl.bs.cell; have j2 := h8.nl.bx.cell)
            | (go_at_call 26; refine (Nx.change0 (by assumption) _ _).mono ?_; rintro e w8 ⟨rfl, h8⟩; have j0 := h8.b8.cell; have j1 := h8.nl.bs.cell; have j2 := h8.nl.bx.cell)
            | (go_at_call 23; refine (Nx.used0 (by assumption)).mono ?_; rintro e w8 ⟨rfl, h8⟩; have j0 := h8.b8.cell; have j1 := h8.nl.bs.cell; have j2 := h8.nl.bx.cell)
            | (go_at_call 13; refine (Nx.left0 (by assumption)).mono ?_; rintro e w8 ⟨rfl, h8⟩; have j0 := h8.b8.cell; have j1 := h8.nl.bs.cell; have j2 := h8.nl.bx.cell)
            | (go_at_call 16; with_reducible (show Calls Try.prog 16 #[Value.pointer none] _ _); refine (Nx.all0 (by assumption)).mono ?_; rintro e w8 ⟨rfl, h8⟩; have j0 := h8.b8.cell; have j1 := h8.nl.bs.cell; have j2 := h8.nl.bx.cell)
            | (go_at_call 16; refine (Nx.all (by assumption) HM.out.2.2 HM.out.1).mono ?_; rintro e w8 ⟨A8, c8, rfl, h8⟩; have j0 := h8.b8.cell; have j1 := h8.nl.bs.cell; have j2 := h8.nl.bx.cell))
        all_goals
          go_wp2_with fail
          refine ⟨by simp, .inl ⟨_, _, rfl, run_takeDeferred h8.dd, ?_⟩⟩
          exact ⟨_, results_tmp rfl _ _ _, rfl, h8.nl.is.bel.trans (belowK_b (w := w) (Nat.le_refl _) _ D _ _ HM.out.2.1 h8.dd rfl rfl)⟩

end Go.Proofs.Ythgjccbmfbileaa
