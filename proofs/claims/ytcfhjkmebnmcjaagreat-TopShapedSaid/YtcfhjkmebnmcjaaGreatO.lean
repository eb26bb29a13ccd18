/- A node's link, what is wrong with a connection, its Check. -/
import Derived.Test.YtcfhjkmebnmcjaaGreatN
import Derived.Deep.RegionHeld3
namespace Go.Proofs.YtcfhjkmebnmcjaaGreat
open Go.RowKit Go.Shelf
set_option linter.unusedVariables false
set_option linter.unusedSimpArgs false
attribute [local go_sem] Oper.semAt_some

/-- A node of two links, of which the second has its ledger at p. -/
structure Nd (W : World) (nb tb mp lg cap p m : Nat) (u : Bool) (nx : Int) (x : Lg) : Prop where
  n : Nb W nb (.slice (some ⟨lg, 0, none⟩) 2 cap) tb mp nx
  t : Tb W tb 1 50 355 u
  r : ∃ cur, W.heap[lg]? = some (.cells cur 102 (0, 0)) ∧ cur[1]? = some (.pointer (some ⟨p, 0, none⟩))
  l : HasL W p m x
  ne : mp ≠ m
theorem Nd.cell {W : World} {nb tb mp lg cap p m : Nat} {u : Bool} {nx : Int} {x : Lg} (h : Nd W nb tb mp lg cap p m u nx x) : W.cell? ⟨lg, 1, none⟩ = some (.pointer (some ⟨p, 0, none⟩)) := by
  obtain ⟨cur, h1, h2⟩ := h.r
  simp [World.cell?, h1, h2]
theorem Nd.lgl {W : World} {nb tb mp lg cap p m : Nat} {u : Bool} {nx : Int} {x : Lg} (h : Nd W nb tb mp lg cap p m u nx x) : lg < W.heap.size := by
  obtain ⟨cur, h1, h2⟩ := h.r
  exact (Array.getElem?_eq_some_iff.1 h1).1
theorem Nd.below {W W' : World} {nb tb mp lg cap p m : Nat} {u : Bool} {nx : Int} {x : Lg} (h : Nd W nb tb mp lg cap p m u nx x) (hb : Below W.heap.size W W') : Nd W' nb tb mp lg cap p m u nx x := by
  have hl := h.lgl
  obtain ⟨cur, h1, h2⟩ := h.r
  exact ⟨h.n.below hb, h.t.below hb, ⟨cur, (hb.block lg hl).trans h1, h2⟩, h.l.below hb, h.ne⟩
theorem An.nd {w W : World} {nb tb mp : Nat} {r : Int} {v : Value} {L : List (Nat × Nat)} (h : An w W nb tb mp r v 2 L) :
    ∃ lg cap p m, v = .slice (some ⟨lg, 0, none⟩) 2 cap ∧ Nd W nb tb mp lg cap p m false 0 ⟨roomOf r, []⟩ ∧ w.heap.size ≤ lg ∧ w.heap.size ≤ p ∧ w.heap.size ≤ m := by
  have hlen := h.len
  have ho := h.o
  have hn := h.n
  match L, hlen, h with
  | [a, b], _, h =>
    rcases ho.2 with ⟨e, e2⟩ | ⟨g, cap, cur, rfl, hB, hg, _, _, hcs, htk⟩
    · cases e2
    · refine ⟨g, cap, b.1, b.2, rfl, ⟨hn, h.t, ⟨cur, hg, ?_⟩, (h.l b (by simp)).1, (h.l b (by simp)).2.1⟩, hB, (h.l b (by simp)).2.2.1, (h.l b (by simp)).2.2.2⟩
      have h1 : (cur.toList.take (2 * 1))[1]? = some (.pointer (some ⟨b.1, 0, none⟩)) := by rw [htk]; rfl
      rw [List.getElem?_take] at h1
      simpa using h1

/-- The boxes of a key (1, 0, 50) and of a contract, side by side. -/
def Kc (X : World) (b : Nat) (c : Ct) : Prop := X.cell? ⟨b, 0, none⟩ = some (.int .i64 1) ∧ X.cell? ⟨b, 1, none⟩ = some (.int .i64 0) ∧ X.cell? ⟨b, 2, none⟩ = some (.int .i64 50) ∧
  X.cell? ⟨b + 1, 0, none⟩ = some (.int .i64 c.k) ∧ X.cell? ⟨b + 1, 1, none⟩ = some (.int .i64 c.p) ∧ X.cell? ⟨b + 1, 2, none⟩ = some (.int .i64 c.e) ∧ X.cell? ⟨b + 1, 3, none⟩ = some (.int .i64 c.w) ∧ X.cell? ⟨b + 1, 4, none⟩ = some (.int .i64 c.b) ∧ X.cell? ⟨b + 1, 5, none⟩ = some (.int .i64 c.l)
theorem Kc.mk' {X : World} {b : Nat} {c : Ct} (h0 : X.heap[b]? = some (.cells #[.int .i64 1, .int .i64 0, .int .i64 50] 35 (0, 0))) (h1 : X.heap[b + 1]? = some (.cells #[.int .i64 c.k, .int .i64 c.p, .int .i64 c.e, .int .i64 c.w, .int .i64 c.b, .int .i64 c.l] 23 (0, 0))) : Kc X b c :=
  ⟨by simp [World.cell?, h0], by simp [World.cell?, h0], by simp [World.cell?, h0], by simp [World.cell?, h1], by simp [World.cell?, h1], by simp [World.cell?, h1], by simp [World.cell?, h1], by simp [World.cell?, h1], by simp [World.cell?, h1]⟩

theorem KS2 {X : World} {nb tb b : Nat} {c : Ct} (h : X.cell? ⟨nb, 1, none⟩ = some (.pointer (some ⟨tb, 0, none⟩)) ∧ Kc X b c) : X.cell? ⟨nb, 1, none⟩ = some (.pointer (some ⟨tb, 0, none⟩)) ∧ X.cell? ⟨b, 0, none⟩ = some (.int .i64 1) ∧ X.cell? ⟨b, 1, none⟩ = some (.int .i64 0) ∧ X.cell? ⟨b, 2, none⟩ = some (.int .i64 50) :=
  ⟨h.1, h.2.1, h.2.2.1, h.2.2.2.1⟩

theorem link_at {nb tb mp lg cap p m : Nat} {u : Bool} {nx : Int} {x : Lg} (w : World) (h : Nd w nb tb mp lg cap p m u nx x) :
    Calls Tryz.prog 37 #[.pointer (some ⟨nb, 0, none⟩), .int .i64 1] w fun e w' => e = .returned (.pointer (some ⟨p, 0, none⟩)) ∧ w' = w := by
  have c0 := h.n.c0
  have c1 := h.cell
  have hl := h.lgl
  clear h
  go_enter Tryz.func37, Tryz.ntmps37
  go_wp2_with fail
  go_ret
  exact ⟨rfl, rfl⟩

set_option maxRecDepth 100000 in
set_option maxHeartbeats 4000000 in
theorem wrong_at {nb tb mp lg cap p m : Nat} {u : Bool} {nx : Int} {x : Lg} {c : Ct} (hc : c.Ok) (w : World) (h : Nd w nb tb mp lg cap p m u nx x) :
    Calls Tryz.prog 57 #[.pointer (some ⟨nb, 0, none⟩), keyV 1 50, c.v] w fun e w' => e = .returned (.int .i64 0) ∧ Below w.heap.size w w' := by
  have HB0 := Lib.hid (((Below.refl w.heap.size w).alloc (Nat.le_refl _) (.cells #[.int .i64 1, .int .i64 0, .int .i64 50] 35)).alloc (by simp) (.cells #[.int .i64 c.k, .int .i64 c.p, .int .i64 c.e, .int .i64 c.w, .int .i64 c.b, .int .i64 c.l] 23))
  have hk0 : ((w.alloc (.cells #[.int .i64 1, .int .i64 0, .int .i64 50] 35)).alloc (.cells #[.int .i64 c.k, .int .i64 c.p, .int .i64 c.e, .int .i64 c.w, .int .i64 c.b, .int .i64 c.l] 23)).heap[w.heap.size]? = some (.cells #[.int .i64 1, .int .i64 0, .int .i64 50] 35 (0, 0)) := by
    rw [Below.heap_alloc _ _ _ (by simp), heap_new' w rfl]
  have hk1 := heap_new' (w.alloc (.cells #[.int .i64 1, .int .i64 0, .int .i64 50] 35)) (o := .cells #[.int .i64 c.k, .int .i64 c.p, .int .i64 c.e, .int .i64 c.w, .int .i64 c.b, .int .i64 c.l] 23) (n := w.heap.size + 1) (by simp)
  have HN := Lib.hid (And.intro (h.below HB0.out) hc)
  clear h hc
  have hxx : ∀ X, Below (((w.alloc (.cells #[.int .i64 1, .int .i64 0, .int .i64 50] 35)).alloc (.cells #[.int .i64 c.k, .int .i64 c.p, .int .i64 c.e, .int .i64 c.w, .int .i64 c.b, .int .i64 c.l] 23))).heap.size (((w.alloc (.cells #[.int .i64 1, .int .i64 0, .int .i64 50] 35)).alloc (.cells #[.int .i64 c.k, .int .i64 c.p, .int .i64 c.e, .int .i64 c.w, .int .i64 c.b, .int .i64 c.l] 23))) X → Kc X w.heap.size c := fun X hX =>
    Kc.mk' ((hX.block w.heap.size (by simp; omega)).trans hk0) ((hX.block (w.heap.size + 1) (by simp)).trans hk1)
  clear hk0 hk1
  go_enter Tryz.func57, Tryz.ntmps57
  go_wp2_with fail
  generalize ((w.alloc (.cells #[.int .i64 1, .int .i64 0, .int .i64 50] 35)).alloc (.cells #[.int .i64 c.k, .int .i64 c.p, .int .i64 c.e, .int .i64 c.w, .int .i64 c.b, .int .i64 c.l] 23)) = W at HB0 hxx HN ⊢
  have HX := Lib.hid hxx
  clear hxx
  obtain ⟨k0, k1, k2, c0, c1, c2, c3, c4, c5⟩ := HX.out W (Below.refl _ _)
  refine (link_at _ HN.out.1).mono ?_
  rintro e w1 ⟨rfl, rfl⟩
  go_wp2_with (first | (go_at_call 18; refine (kright_at ks50 _).mono ?_; rintro e w2 ⟨rfl, hb2⟩; have HB2 := Lib.hid hb2; clear hb2 k0 k1 k2 c0 c1 c2 c3 c4 c5; obtain ⟨k0, k1, k2, c0, c1, c2, c3, c4, c5⟩ := HX.out w2 HB2.out) | (go_at_call 5; refine (right_ok HN.out.2 _).mono ?_; rintro e w3 ⟨rfl, hb3⟩; have HB3 := Lib.hid hb3; clear hb3 k0 k1 k2 c0 c1 c2 c3 c4 c5))
  go_ret
  exact ⟨rfl, (HB0.out.trans (HB2.out.mono HB0.out.size)).trans (HB3.out.mono (Nat.le_trans HB0.out.size HB2.out.size))⟩

set_option maxRecDepth 100000 in
set_option maxHeartbeats 8000000 in
theorem check_at {nb tb mp lg cap p m : Nat} {nx : Int} {x : Lg} {c : Ct} (hc : c.Ok) (hx : x.Ok) (hfit : ∀ n : Int, 0 ≤ n → n ≤ 1152921504606846976 → (c.k = 6 → n = 0) → n ≤ x.room - tot x.L) (w : World) (h : Nd w nb tb mp lg cap p m false nx x) :
    Calls Tryz.prog 36 #[.pointer (some ⟨nb, 0, none⟩), keyV 1 50, c.v] w fun e w' => e = .returned (.int .i64 0) ∧ Below w.heap.size w w' := by
  have HB0 := Lib.hid (((Below.refl w.heap.size w).alloc (Nat.le_refl _) (.cells #[.int .i64 1, .int .i64 0, .int .i64 50] 35)).alloc (by simp) (.cells #[.int .i64 c.k, .int .i64 c.p, .int .i64 c.e, .int .i64 c.w, .int .i64 c.b, .int .i64 c.l] 23))
  have hk0 : ((w.alloc (.cells #[.int .i64 1, .int .i64 0, .int .i64 50] 35)).alloc (.cells #[.int .i64 c.k, .int .i64 c.p, .int .i64 c.e, .int .i64 c.w, .int .i64 c.b, .int .i64 c.l] 23)).heap[w.heap.size]? = some (.cells #[.int .i64 1, .int .i64 0, .int .i64 50] 35 (0, 0)) := by
    rw [Below.heap_alloc _ _ _ (by simp), heap_new' w rfl]
  have hk1 := heap_new' (w.alloc (.cells #[.int .i64 1, .int .i64 0, .int .i64 50] 35)) (o := .cells #[.int .i64 c.k, .int .i64 c.p, .int .i64 c.e, .int .i64 c.w, .int .i64 c.b, .int .i64 c.l] 23) (n := w.heap.size + 1) (by simp)
  have hxx : ∀ X, Below (((w.alloc (.cells #[.int .i64 1, .int .i64 0, .int .i64 50] 35)).alloc (.cells #[.int .i64 c.k, .int .i64 c.p, .int .i64 c.e, .int .i64 c.w, .int .i64 c.b, .int .i64 c.l] 23))).heap.size (((w.alloc (.cells #[.int .i64 1, .int .i64 0, .int .i64 50] 35)).alloc (.cells #[.int .i64 c.k, .int .i64 c.p, .int .i64 c.e, .int .i64 c.w, .int .i64 c.b, .int .i64 c.l] 23))) X → Nd X nb tb mp lg cap p m false nx x ∧ Kc X w.heap.size c := fun X hX =>
    ⟨(h.below HB0.out).below hX, Kc.mk' ((hX.block w.heap.size (by simp; omega)).trans hk0) ((hX.block (w.heap.size + 1) (by simp)).trans hk1)⟩
  have hsz : w.heap.size < ((w.alloc (.cells #[.int .i64 1, .int .i64 0, .int .i64 50] 35)).alloc (.cells #[.int .i64 c.k, .int .i64 c.p, .int .i64 c.e, .int .i64 c.w, .int .i64 c.b, .int .i64 c.l] 23)).heap.size := by simp; omega
  have HC := Lib.hid (And.intro hc (And.intro hx hfit))
  clear hk0 hk1 h hc hx hfit
  go_enter Tryz.func36, Tryz.ntmps36
  go_wp2_with fail
  generalize ((w.alloc (.cells #[.int .i64 1, .int .i64 0, .int .i64 50] 35)).alloc (.cells #[.int .i64 c.k, .int .i64 c.p, .int .i64 c.e, .int .i64 c.w, .int .i64 c.b, .int .i64 c.l] 23)) = W at HB0 hxx hsz ⊢
  have HX := Lib.hid hxx
  clear hxx
  refine (wrong_at HC.out.1 _ (HX.out W (Below.refl _ _)).1).mono ?_
  rintro e w1 ⟨rfl, hb1⟩
  have hG1 : Gs w W w1.drew := ⟨(HB0.out.trans (hb1.mono HB0.out.size)).drew, hsz, hb1.drew⟩
  clear hb1
  go_wp2_with fail
  have hS := Lib.hid (show ∀ X, Below W.heap.size W X → X.cell? ⟨nb, 1, none⟩ = some (.pointer (some ⟨tb, 0, none⟩)) ∧ Kc X w.heap.size c from fun X hX => ⟨(HX.out X hX).1.n.at.2.1, (HX.out X hX).2⟩)
  go_region_held3 (fun X => X.cell? ⟨nb, 1, none⟩ = some (.pointer (some ⟨tb, 0, none⟩)) ∧ X.cell? ⟨w.heap.size, 0, none⟩ = some (.int .i64 1) ∧ X.cell? ⟨w.heap.size, 1, none⟩ = some (.int .i64 0) ∧ X.cell? ⟨w.heap.size, 2, none⟩ = some (.int .i64 50)) (with_reducible exact (KS2 (hS.out _ (Gs.bel (by assumption)))))
    (first | (go_at_call 35; refine (tget_at ks50 tb _ (HX.out _ hG1.bel).1.t).mono ?_; rintro e w2 ⟨rfl, hb2⟩; have hG2 : Gs w W w2 := Gs.next hG1 hb2))
  have HG2 := Lib.hid hG2
  clear hb2 hG1 hG2
  have d1 := (HX.out _ HG2.out.bel).1.n.at.2.1
  go_wp2_with (go_at_call 58; refine (tlen_at tb _ (HX.out _ HG2.out.bel).1.t).mono ?_; rintro e w3 ⟨rfl, nn, hw3⟩; have hG3 : Gs w W w3.drew := (by rw [hw3]; exact HG2.out.next (below_drewN (Below.refl w2.heap.size w2) nn).drew); clear hw3)
  clear d1
  have hS3 := Lib.hid (show ∀ X, Below W.heap.size W X → X.cell? ⟨w.heap.size, 0, none⟩ = some (.int .i64 1) ∧ X.cell? ⟨w.heap.size + 1, 0, none⟩ = some (.int .i64 c.k) ∧ X.cell? ⟨w.heap.size + 1, 1, none⟩ = some (.int .i64 c.p) ∧ X.cell? ⟨w.heap.size + 1, 2, none⟩ = some (.int .i64 c.e) ∧ X.cell? ⟨w.heap.size + 1, 3, none⟩ = some (.int .i64 c.w) ∧ X.cell? ⟨w.heap.size + 1, 4, none⟩ = some (.int .i64 c.b) ∧ X.cell? ⟨w.heap.size + 1, 5, none⟩ = some (.int .i64 c.l) from fun X hX => by
    obtain ⟨k0, k1, k2, c0, c1, c2, c3, c4, c5⟩ := (HX.out X hX).2
    exact ⟨k0, c0, c1, c2, c3, c4, c5⟩)
  obtain ⟨l, el⟩ : ∃ l, x.room - tot x.L = l := ⟨_, rfl⟩
  have hll := fun X (hX : Below W.heap.size W X) => left_any x HC.out.2.1 p m X (HX.out X hX).1.l
  rw [el] at hll
  have HLL := Lib.hid hll
  have HL := Lib.hid el
  clear hll el
  go_region_held3 (fun X => X.cell? ⟨w.heap.size, 0, none⟩ = some (.int .i64 1) ∧ X.cell? ⟨w.heap.size + 1, 0, none⟩ = some (.int .i64 c.k) ∧ X.cell? ⟨w.heap.size + 1, 1, none⟩ = some (.int .i64 c.p) ∧ X.cell? ⟨w.heap.size + 1, 2, none⟩ = some (.int .i64 c.e) ∧ X.cell? ⟨w.heap.size + 1, 3, none⟩ = some (.int .i64 c.w) ∧ X.cell? ⟨w.heap.size + 1, 4, none⟩ = some (.int .i64 c.b) ∧ X.cell? ⟨w.heap.size + 1, 5, none⟩ = some (.int .i64 c.l)) (with_reducible exact hS3.out _ (Gs.bel (by assumption)))
    (first | (go_at_call 39; refine (need_any HC.out.1 _).mono ?_; rintro e w4 ⟨n, rfl, hn, hb4⟩; have hG4 : Gs w W w4 := Gs.next (by assumption) hb4; have hnl : n ≤ l := (by rw [← HL.out]; exact HC.out.2.2 n hn.1 hn.2.1 hn.2.2)) | (go_at_call 37; refine (link_at _ (HX.out _ (Gs.bel (by assumption))).1).mono ?_; rintro e w5 ⟨rfl, rfl⟩) | (go_at_call 59; refine (HLL.out _ (Gs.bel (by assumption))).mono ?_; rintro e w6 ⟨rfl, n6, hn6⟩; have hG6 : Gs w W w6 := (by rw [hn6]; exact Gs.next (by assumption) (below_drewN (Below.refl _ _) n6)); clear hn6))
  all_goals
    have hlt : decide (l < n) = false := by simp; omega
    rw [hlt]
    go_wp2_with fail
    go_ret
    exact ⟨rfl, Gs.b0 (W := W) (by assumption)⟩

end Go.Proofs.YtcfhjkmebnmcjaaGreat
