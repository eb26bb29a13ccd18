/- The walk of LedgerRoom. -/
import Derived.Test.YthgjccbmfbileaaRooS
import Derived.Deep.DeepCutAuto
import Derived.Deep.LoopGhost
import Derived.Deep.RegionHeld3
namespace Go.Proofs.Ythgjccbmfbileaa
open Go.RowKit Go.Maps Go.Shelf Go.Sort
set_option linter.unusedVariables false
set_option linter.unusedSimpArgs false
attribute [local go_sem] Oper.semAt_some

set_option maxRecDepth 100000 in
set_option maxHeartbeats 12800000 in
theorem roo_walk (room : Int) (A : Option Addr) (cap : Nat) (zs : List Op3) (w : World) (hz : WfO zs) (hn : zs.length ≤ 100) (hr : RdO w A zs) :
    Calls Try.prog 6 #[.int .i64 room, .slice A zs.length cap] w fun e w' => e = .returned (.bool true) ∧ Below w.heap.size w w' := by
  have HZ := Lib.hid hz
  have HR := Lib.hid hr
  clear hz hr
  refine (callsIn_wide (n := 7)).1 (callsIn_of_wp_marks Try.func6 rfl trivial ?_ rfl)
  simp only [Try.ntmps6, List.size_toArray, List.length_cons, List.length_nil, Nat.reduceAdd, Nat.reduceSub, Array.replicate_succ, Array.replicate_zero, List.push_toArray, List.append_toArray, List.nil_append, List.cons_append]
  refine wpIn_wide.2 ?_
  have HBS := Lib.hid (Boxed.new w 4 (.bool false))
  have HB0 := Lib.hid ((Below.refl w.heap.size w).alloc (Nat.le_refl _) (.cells #[.bool false] 4))
  obtain ⟨b4, eb4⟩ : ∃ b4, w.heap.size = b4 := ⟨_, rfl⟩
  go_wp2_with fail
  refine (awake_any _).mono ?_
  rintro e w1 ⟨rfl, b1⟩
  have HB := Lib.hid (And.intro (HB0.out.trans (b1.mono HB0.out.size)) (Boxed.below HBS.out b1))
  clear b1
  go_wp2_with fail
  refine (Is.new _ HB.out.1).mono ?_
  rintro e w2 ⟨p, m, rfl, _, _, hI, hb2⟩
  have hR2 : Ro w w2 p m b4 [] false ⟨max 0 (min room 1152921504606846976), []⟩ := ⟨hI, by rw [← eb4]; exact Boxed.below HB.out.2 hb2, (fun D hD => by simp at hD), List.nodup_nil, (fun D hD => by simp at hD)⟩
  have HR2 := Lib.hid hR2
  clear hI hb2 hR2
  go_wp2_with fail
  obtain ⟨lim, elim⟩ : ∃ lim, max 0 (min room 1152921504606846976) = lim := ⟨_, rfl⟩
  rw [elim]
  refine wp_loop_ghost_k (fun n a wr => ∃ (k : Nat) (x : Lg) (Ds : List Nat) (u : Nat → Value), (n = zs.length - k ∧ k ≤ zs.length ∧ Ro w wr p m b4 Ds false x ∧ x.room = lim ∧ x.L.length ≤ k) ∧ a = { tmps := #[.int .i64 room, .slice A zs.length cap, undef, undef, .pointer (some ⟨b4, 0, none⟩), .pointer (some ⟨p, 0, none⟩), .int .i64 lim, u 7, u 8, u 9, u 10, u 11, u 12, .bool true, .bool false, .bool false, .slice A zs.length cap, .int .i64 zs.length, .bool (decide (100 < (zs.length : Int))), .bool (decide (100 < (zs.length : Int))), undef, .int .i64 room, .pointer (some ⟨p, 0, none⟩), .int .i64 room, .int .i64 (min room 1152921504606846976), .int .i64 lim, .slice A zs.length cap, .int .i64 zs.length, .int .i64 (k : Int), u 29, u 30, u 31, u 32, u 33, u 34, u 35, u 36, u 37, u 38, u 39, u 40, u 41, u 42, u 43, u 44, u 45, u 46, u 47, u 48, u 49, u 50, u 51, u 52, u 53, u 54, u 55, u 56, u 57, u 58, u 59, u 60, u 61, u 62, u 63, u 64, u 65, u 66, u 67, u 68, u 69, u 70, u 71, u 72, u 73], defers := marksOf Ds }) zs.length ?start ?round
  case start => exact ⟨0, _, [], fun _ => undef, ⟨by omega, Nat.zero_le _, HR2.out, elim, Nat.le_refl _⟩, rfl⟩
  case round =>
    rintro n a wr ⟨k, x, Ds, u, ⟨hnk, hk, hR, hxr, hxl⟩, rfl⟩ J K hJ hK
    have hb4 := hR.b4.cell
    have hf4 := hR.b4.frozen
    by_cases hlt : k < zs.length
    · have hbel : Below w.heap.size w wr := hR.is.bel
      obtain ⟨b, off, rfl, c0, c1, c2⟩ := HR.out.cells hbel hlt
      have hz := HZ.out k
      obtain ⟨o, eo⟩ : ∃ o, opAt zs k = o := ⟨_, rfl⟩
      rw [eo] at c0 c1 c2 hz
      have hl3 := doS_len x o
      have hr3 := doS_room x o
      have HD := Lib.hid (hR.does hz.2.1 (by omega) rfl)
      clear eo hR HR2
      go_wp2_with fail
      refine HD.out.mono ?_
      rintro e w3 ⟨rfl, h3⟩
      have H3 := Lib.hid h3
      clear h3 c0 c1 c2
      go_wp2_with (go_at_call 25; refine ((callsIn_wide (n := 7)).1 (All_in 7 _ _)).mono ?_; rintro e w' ⟨rfl, rfl⟩)
      obtain ⟨y, ey⟩ : ∃ y, doS x o = y := ⟨_, rfl⟩
      have hy := H3.out
      rw [ey] at hy hl3 hr3
      obtain ⟨ys, hys⟩ := hy.is.wf.ys
      have hyl : ys.length = y.L.length := by rw [← hys, List.length_map]
      obtain ⟨b8, eb8⟩ : ∃ b8, w3.heap.size = b8 := ⟨_, rfl⟩
      refine (wpIn_wide (n := 7)).1 ?_
      generalize hW0 : (((w3.alloc (.cells #[.int .i64 0] 3)).alloc (.cells #[.int .i64 0] 3)).alloc (.cells #[.bool true] 4)).alloc (.cells #[.pointer (some ⟨p, 0, none⟩)] 24) = W0
      rw [eb8]
      have hsz0 : W0.heap.size = b8 + 4 := by rw [← hW0, ← eb8]; simp
      have hR0 : Ro w W0 p m b4 Ds false y := by
        rw [← hW0]
        exact hy.below (((((Below.refl _ _).alloc (Nat.le_refl _) _).alloc (by simp) _).alloc (by simp; omega) _).alloc (by simp; omega) _)
      have hp8 : p < b8 := by rw [← eb8]; exact hy.is.has.lt
      have hm8 : m < b8 := by rw [← eb8]; exact hy.is.has.own.lt
      have h48 : b4 < b8 := by rw [← eb8]; exact lt_of_block hy.b4
      have hd8 : ∀ D ∈ Ds, D < b8 := fun D hD => by rw [← eb8]; exact (Array.getElem?_eq_some_iff.1 (hy.dd D hD)).1
      have h80 : Boxed W0 b8 3 (.int .i64 0) := by rw [← hW0, ← eb8]; exact (((Boxed.new _ _ _).alloc _).alloc _).alloc _
      have h90 : Boxed W0 (b8 + 1) 3 (.int .i64 0) := by
        rw [← hW0, ← eb8]
        have := Boxed.new (w3.alloc (.cells #[.int .i64 0] 3)) 3 (.int .i64 0)
        rw [World.size_alloc] at this
        exact (this.alloc _).alloc _
      have ha0 : Boxed W0 (b8 + 1 + 1) 4 (.bool true) := by
        rw [← hW0, ← eb8]
        have := Boxed.new ((w3.alloc (.cells #[.int .i64 0] 3)).alloc (.cells #[.int .i64 0] 3)) 4 (.bool true)
        rw [World.size_alloc, World.size_alloc] at this
        exact this.alloc _
      have bN : Boxed W0 (b8 + 1 + 1 + 1) 24 (.pointer (some ⟨p, 0, none⟩)) := by
        rw [← hW0, ← eb8]
        have := Boxed.new (((w3.alloc (.cells #[.int .i64 0] 3)).alloc (.cells #[.int .i64 0] 3)).alloc (.cells #[.bool true] 4)) 24 (.pointer (some ⟨p, 0, none⟩))
        rw [World.size_alloc, World.size_alloc, World.size_alloc] at this
        exact this
      have hN0 : Rr w W0 p m b4 b8 Ds y 0 0 true := ⟨hR0, h80, h90, ha0, hp8, hm8, h48, hd8⟩
      have HF := Lib.hid (show ∀ (a1 : Act) (W1 : World) (Ds1 : List Nat), Ro w W1 p m b4 Ds1 false y → a1 = { tmps := #[.int .i64 room, .slice (some ⟨b, off, none⟩) zs.length cap, undef, undef, .pointer (some ⟨b4, 0, none⟩), .pointer (some ⟨p, 0, none⟩), .int .i64 lim, a1.tmps.getD 7 undef, a1.tmps.getD 8 undef, a1.tmps.getD 9 undef, a1.tmps.getD 10 undef, a1.tmps.getD 11 undef, a1.tmps.getD 12 undef, .bool true, .bool false, .bool false, .slice (some ⟨b, off, none⟩) zs.length cap, .int .i64 zs.length, .bool (decide (100 < (zs.length : Int))), .bool (decide (100 < (zs.length : Int))), undef, .int .i64 room, .pointer (some ⟨p, 0, none⟩), .int .i64 room, .int .i64 (min room 1152921504606846976), .int .i64 lim, .slice (some ⟨b, off, none⟩) zs.length cap, .int .i64 zs.length, .int .i64 ((k + 1 : Nat) : Int), a1.tmps.getD 29 undef, a1.tmps.getD 30 undef, a1.tmps.getD 31 undef, a1.tmps.getD 32 undef, a1.tmps.getD 33 undef, a1.tmps.getD 34 undef, a1.tmps.getD 35 undef, a1.tmps.getD 36 undef, a1.tmps.getD 37 undef, a1.tmps.getD 38 undef, a1.tmps.getD 39 undef, a1.tmps.getD 40 undef, a1.tmps.getD 41 undef, a1.tmps.getD 42 undef, a1.tmps.getD 43 undef, a1.tmps.getD 44 undef, a1.tmps.getD 45 undef, a1.tmps.getD 46 undef, a1.tmps.getD 47 undef, a1.tmps.getD 48 undef, a1.tmps.getD 49 undef, a1.tmps.getD 50 undef, a1.tmps.getD 51 undef, a1.tmps.getD 52 undef, a1.tmps.getD 53 undef, a1.tmps.getD 54 undef, a1.tmps.getD 55 undef, a1.tmps.getD 56 undef, a1.tmps.getD 57 undef, a1.tmps.getD 58 undef, a1.tmps.getD 59 undef, a1.tmps.getD 60 undef, a1.tmps.getD 61 undef, a1.tmps.getD 62 undef, a1.tmps.getD 63 undef, a1.tmps.getD 64 undef, a1.tmps.getD 65 undef, a1.tmps.getD 66 undef, a1.tmps.getD 67 undef, a1.tmps.getD 68 undef, a1.tmps.getD 69 undef, a1.tmps.getD 70 undef, a1.tmps.getD 71 undef, a1.tmps.getD 72 undef, a1.tmps.getD 73 undef], defers := marksOf Ds1 } → K a1 W1 from fun a1 W1 Ds1 h1 h2 =>
        hK _ _ (Handed.intro (zs.length - (k + 1)) (by omega) (hJ _ _ _ ⟨k + 1, y, Ds1, fun i => a1.tmps.getD i undef, ⟨rfl, by omega, h1, hr3.trans hxr, by omega⟩, h2⟩)))
      clear hJ hK
      refine wpIn_rangeFunc_ownG rfl (by omega) (gf := 30) (lb := #[.pointer (some ⟨b8 + 1 + 1 + 1, 0, none⟩)]) rfl trivial (enters_of Try.func30 (by kernel_rfl) rfl)
        (all_stops (b8 + 1 + 1 + 1) p m y hN0.ro.is.ok (by omega) ys hys W0 (by omega) (by exact bN.cell) hN0.ro.is.has) KpB.trans (fun W l o o' hl ho hc hw => KpB.turn W l o o' hl ho hc hw) (Below.refl _ _) (fun _ => rfl)
        (fun pre W => Rr w W p m b4 b8 Ds y (sumW pre) (lastOf pre) pre.isEmpty)
        (fun c pre W => RStop c pre W)
        (fun pre C C' row hs hg hr => hs.own (B0 := W0.heap.size) (by omega) hg hr)
        (fun c pre C C' row hs hg hr => hs)
        hN0
        (fun q => { tmps := #[.int .i64 room, .slice (some ⟨b, off, none⟩) zs.length cap, undef, undef, .pointer (some ⟨b4, 0, none⟩), .pointer (some ⟨p, 0, none⟩), .int .i64 lim, .int .i64 (k : Int), .pointer (some ⟨b8, 0, none⟩), .pointer (some ⟨b8 + 1, 0, none⟩), .pointer (some ⟨b8 + 1 + 1, 0, none⟩), .int .i64 q.1.1, .int .i64 q.1.2, .bool true, .bool false, .bool false, .slice (some ⟨b, off, none⟩) zs.length cap, .int .i64 zs.length, .bool (decide (100 < (zs.length : Int))), .bool (decide (100 < (zs.length : Int))), undef, .int .i64 room, .pointer (some ⟨p, 0, none⟩), .int .i64 room, .int .i64 (min room 1152921504606846976), .int .i64 lim, .slice (some ⟨b, off, none⟩) zs.length cap, .int .i64 zs.length, .int .i64 (k : Int), .bool true, .int .i64 (k : Int), .pointer (some ⟨p, 0, none⟩), .slice (some ⟨b, off, none⟩) zs.length cap, .int .i64 (k : Int), .pointer (some ⟨b, off + k * 3, none⟩), .agg #[.int .i64 o.1, .int .i64 o.2.1, .int .i64 o.2.2], .tuple #[.int .i64 (doE x o), .int .i64 (doN x o)], .pointer (some ⟨p, 0, none⟩), .func (.func 30) #[] #[.pointer (some ⟨b8 + 1 + 1 + 1, 0, none⟩)], .int .i64 q.1.1, .int .i64 q.1.2, u 41, u 42, u 43, u 44, u 45, u 46, u 47, u 48, u 49, u 50, u 51, u 52, u 53, u 54, u 55, u 56, u 57, u 58, u 59, u 60, u 61, u 62, u 63, u 64, u 65, u 66, u 67, u 68, u 69, u 70, u 71, u 72, u 73], defers := [] }) ?assign ?body ?done ?stop
      case assign =>
        intro l q W K hK
        unfold encP
        gi_wp2
        exact hK
      case body =>
        rintro l pre q W hN1 hlt1
        have hc8 := hN1.k8.cell
        have hc9 := hN1.k9.cell
        have hc10 := hN1.k10.cell
        have hf8 := hN1.k8.frozen
        have hf9 := hN1.k9.frozen
        have hf10 := hN1.k10.frozen
        have hc4 := hN1.ro.b4.cell
        have hfr4 := hN1.ro.b4.frozen
        have HN1 := Lib.hid hN1
        clear hN1
        obtain ⟨n, en⟩ : ∃ n, sumW pre = n := ⟨_, rfl⟩
        obtain ⟨lst, el⟩ : ∃ n, lastOf pre = n := ⟨_, rfl⟩
        obtain ⟨f, ef⟩ : ∃ n, pre.isEmpty = n := ⟨_, rfl⟩
        rw [en] at hc8
        rw [el] at hc9
        rw [ef] at hc10
        have EN := Lib.hid (And.intro en (And.intro el ef))
        clear en el ef
        have e3 : (pre ++ [q]).isEmpty = false := by cases pre <;> rfl
        by_cases hneg : q.1.2 < 0
        · gi_wp2_with fail
          exact ⟨(keeps_of (Kept.set (p := b4) (m := b4) W 0 (.bool false)) (by omega) (by omega)).1, rfl, pre, q, rfl, .inl hneg⟩
        · cases f
          · by_cases hle : q.1.1 ≤ lst
            · gi_wp2_with fail
              exact ⟨(keeps_of (Kept.set (p := b4) (m := b4) W 0 (.bool false)) (by omega) (by omega)).1, rfl, pre, q, rfl, .inr ⟨(fun e => by have := EN.out.2.2; rw [e] at this; simp at this), by rw [EN.out.2.1]; exact hle⟩⟩
            · gi_wp2_with fail
              have K1 := keeps_of (B := b8 + 4) (Kept.set (p := b8) (m := b8) W 0 (.int .i64 (wrap64 (n + q.1.2)))) (by omega) (by omega)
              have K2 := keeps_of (B := b8 + 4) (Kept.set (p := b8 + 1) (m := b8 + 1) (W.setCell ⟨b8, 0, none⟩ (.int .i64 (wrap64 (n + q.1.2)))) 0 (.int .i64 q.1.1)) (by omega) (by omega)
              have K3 := keeps_of (B := b8 + 4) (Kept.set (p := b8 + 1 + 1) (m := b8 + 1 + 1) ((W.setCell ⟨b8, 0, none⟩ (.int .i64 (wrap64 (n + q.1.2)))).setCell ⟨b8 + 1, 0, none⟩ (.int .i64 q.1.1)) 0 (.bool false)) (by omega) (by omega)
              have h1 := ((HN1.out.set8 (wrap64 (n + q.1.2))).set9 q.1.1).set10 false
              refine ⟨(K1.1.trans K2.1).trans K3.1, (K1.2.trans K2.2).trans K3.2, ?_⟩
              show Rr w _ p m b4 b8 Ds y (sumW (pre ++ [q])) (lastOf (pre ++ [q])) (pre ++ [q]).isEmpty
              rw [sumW_snoc, lastOf_snoc, EN.out.1, e3, Go.IntWalk.i64_left]
              exact h1
          · gi_wp2_with fail
            have K1 := keeps_of (B := b8 + 4) (Kept.set (p := b8) (m := b8) W 0 (.int .i64 (wrap64 (n + q.1.2)))) (by omega) (by omega)
            have K2 := keeps_of (B := b8 + 4) (Kept.set (p := b8 + 1) (m := b8 + 1) (W.setCell ⟨b8, 0, none⟩ (.int .i64 (wrap64 (n + q.1.2)))) 0 (.int .i64 q.1.1)) (by omega) (by omega)
            have K3 := keeps_of (B := b8 + 4) (Kept.set (p := b8 + 1 + 1) (m := b8 + 1 + 1) ((W.setCell ⟨b8, 0, none⟩ (.int .i64 (wrap64 (n + q.1.2)))).setCell ⟨b8 + 1, 0, none⟩ (.int .i64 q.1.1)) 0 (.bool false)) (by omega) (by omega)
            have h1 := ((HN1.out.set8 (wrap64 (n + q.1.2))).set9 q.1.1).set10 false
            refine ⟨(K1.1.trans K2.1).trans K3.1, (K1.2.trans K2.2).trans K3.2, ?_⟩
            show Rr w _ p m b4 b8 Ds y (sumW (pre ++ [q])) (lastOf (pre ++ [q])) (pre ++ [q]).isEmpty
            rw [sumW_snoc, lastOf_snoc, EN.out.1, e3, Go.IntWalk.i64_left]
            exact h1
      case done =>
        rintro D xs W hD hxs hN1 hDd
        subst hxs
        have hok := hN0.ro.is.ok
        rw [sumW_all hok.nn (Int.le_trans hok.le hok.r1) hys] at hN1
        obtain ⟨lst, el⟩ : ∃ n, lastOf xs = n := ⟨_, rfl⟩
        obtain ⟨f, ef⟩ : ∃ n, xs.isEmpty = n := ⟨_, rfl⟩
        obtain ⟨t, et⟩ : ∃ n, tot y.L = n := ⟨_, rfl⟩
        rw [el, ef, et] at hN1
        have hyr : y.room = lim := hr3.trans hxr
        have ht0 : 0 ≤ t := by rw [← et]; exact tot_nonneg hok.nn
        have ht1 : t ≤ lim := by rw [← et, ← hyr]; exact hok.le
        have hlm : lim ≤ 1152921504606846976 := by rw [← hyr]; exact hok.r1
        have HL := Lib.hid (show y.room - tot y.L = lim - t by rw [hyr, et])
        have HT := Lib.hid et
        have HM := Lib.hid (And.intro hDd (show b8 ≤ D by omega))
        have hwr1 : IntKind.i64.wrap (lim - t) = lim - t := Go.IntWalk.i64_in _ (by omega)
        have HY := Lib.hid (And.intro hyr (show y.L.length ≤ k + 1 by omega))
        clear el ef et hDd
        have hX : Rx w W p m b4 b8 D Ds y t lst f := ⟨hN1, HM.out.1⟩
        have hN2 := hX.drew
        have hdl : decide (lim < t) = false := by simp; omega
        have g8 := hN1.k8.cell
        have g4 := hN1.ro.b4.cell
        clear hN1
        clear hy hR0 h80 h90 ha0 bN hN0 hys hyl hok hyr
        go_wp2_with fail
        go_region_held3 (fun w' => w'.cell? ⟨b8, 0, none⟩ = some (.int .i64 t) ∧ w'.cell? ⟨b4, 0, none⟩ = some (.bool false)) (first | (exact ⟨by assumption, by assumption⟩) | go_keep)
          (first
            | (go_at_call 23; refine (Rx.used (by assumption) HT.out).mono ?_; rintro e w8 ⟨rfl, h8⟩; have j0 := h8.rr.k8.cell; have j1 := h8.rr.ro.b4.cell)
            | (go_at_call 13; refine (Rx.left (by assumption) HL.out).mono ?_; rintro e w8 ⟨rfl, h8⟩; have j0 := h8.rr.k8.cell; have j1 := h8.rr.ro.b4.cell))
        have H9 := Lib.hid (h8.rr.mark h8.dd HM.out.2)
        go_wp2_with fail
        exact HF.out _ _ (D :: Ds) H9.out rfl
      case stop =>
        rintro D c0 pre W hD hp ⟨rfl, pre0, q, rfl, hb⟩ hDd
        exact absurd hb (never_bad hN0.ro.is.ok.so hN0.ro.is.ok.nn hys hp)
    · have HRo := Lib.hid hR
      clear hR HR2
      go_wp2_with fail
      exact leaves_set HRo.out eb4 true rfl

end Go.Proofs.Ythgjccbmfbileaa

