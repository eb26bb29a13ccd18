/- The contract of awake; and the walk of LedgerFits. -/
import Derived.Test.YthgjccbmfbileaaO
namespace Go.Proofs.Ythgjccbmfbileaa
open Go.RowKit Go.Maps
set_option linter.unusedVariables false
set_option linter.unusedSimpArgs false

theorem book_at {x y : Lg} {r : Int} (hx : x.Ok) {p m : Nat} {id need : Int} {w : World} (hwi : (Lit.int .i64 id).wf = true) (hlen : x.L.length < 1000000) (h : HasL w p m x) (hr : bookE x id need = r) (hs : bookS x id need = y) :
    Calls Try.prog 14 #[.pointer (some ⟨p, 0, none⟩), .int .i64 id, .int .i64 need] w (Turns p m y (.int .i64 r) w) := by
  have e := book_any x hx p m id need hwi hlen w h
  rwa [hr, hs] at e
theorem change_at {x y : Lg} {r : Int} (hx : x.Ok) {p m : Nat} {id need : Int} {w : World} (hwi : (Lit.int .i64 id).wf = true) (hlen : x.L.length < 1000000) (h : HasL w p m x) (hr : changeE x id need = r) (hs : changeS x id need = y) :
    Calls Try.prog 26 #[.pointer (some ⟨p, 0, none⟩), .int .i64 id, .int .i64 need] w (Turns p m y (.int .i64 r) w) := by
  have e := change_any x hx p m id need hwi hlen w h
  rwa [hr, hs] at e
theorem left_at {x : Lg} {r : Int} (hx : x.Ok) {p m : Nat} {w : World} (h : HasL w p m x) (hr : x.room - tot x.L = r) : Calls Try.prog 13 #[.pointer (some ⟨p, 0, none⟩)] w fun e w' => e = .returned (.int .i64 r) ∧ ∃ n, w' = w.drewN n := by
  have e := left_any x hx p m w h
  rwa [hr] at e
theorem used_at {x : Lg} {r : Int} {p m : Nat} {w : World} (h : HasL w p m x) (hr : tot x.L = r) : Calls Try.prog 23 #[.pointer (some ⟨p, 0, none⟩)] w fun e w' => e = .returned (.int .i64 r) ∧ ∃ n, w' = w.drewN n := by
  have e := used_any x p m w h
  rwa [hr] at e

theorem aw0 : (Lg.mk 10 []).Ok := ⟨by simp, by simp, by simp [Sorted], by simp, by simp [tot]⟩
theorem aw1 : (Lg.mk 10 [(1, 7)]).Ok := ⟨by simp, by simp, by simp [Sorted], by simp, by simp [tot]⟩
theorem aw2 : (Lg.mk 10 [(1, 6)]).Ok := ⟨by simp, by simp, by simp [Sorted], by simp, by simp [tot]⟩
theorem aw3 : (Lg.mk 10 [(1, 6), (2, 4)]).Ok := ⟨by simp, by simp, by simp [Sorted], by simp, by simp [tot]⟩

theorem new_10 (w : World) : Calls Try.prog 10 #[.int .i64 10] w (NewL 10 w) := by
  have h := new_any 10 w
  rwa [show max 0 (min 10 1152921504606846976) = (10 : Int) by omega] at h

/-- All below B stays as it was behind a new ledger. -/
theorem new_below {B : Nat} {a w w' : World} (h : Below B a w) (hB : B ≤ w.heap.size) (g : w.grownBy w' none) : Below B a w' := h.trans ((below_none g).mono hB)

theorem awake_any (w : World) : Calls Try.prog 9 #[] w fun e w' => e = .returned (.bool true) ∧ Below w.heap.size w w' := by
  go_enter Try.func9, Try.ntmps9
  go_wp2_with fail
  refine (new_10 _).mono ?_
  rintro e w1 ⟨p, m, rfl, hp, hm, h1, g1⟩
  have HB := Lib.hid (And.intro hp hm)
  clear hp hm
  go_wp2_with fail
  refine (book_at aw0 (by decide) (by decide) h1 (r := 0) (y := ⟨10, [(1, 7)]⟩) (by decide) rfl).mono ?_
  rintro e w2 ⟨rfl, h2, k2⟩
  go_wp2_with fail
  refine (book_at aw1 (by decide) (by decide) h2 (r := 9) (y := ⟨10, [(1, 7)]⟩) (by decide) rfl).mono ?_
  rintro e w3 ⟨rfl, h3, k3⟩
  go_wp2_with fail
  refine (change_at aw1 (by decide) (by decide) h3 (r := 0) (y := ⟨10, [(1, 6)]⟩) (by decide) rfl).mono ?_
  rintro e w4 ⟨rfl, h4, k4⟩
  go_wp2_with fail
  refine (book_at aw2 (by decide) (by decide) h4 (r := 0) (y := ⟨10, [(1, 6), (2, 4)]⟩) (by decide) rfl).mono ?_
  rintro e w5 ⟨rfl, h5, k5⟩
  go_wp2_with fail
  refine (used_at h5 (r := 10) rfl).mono ?_
  rintro e w6 ⟨rfl, n6, rfl⟩
  go_wp2_with fail
  refine (left_at aw3 (h5.drewN n6) (r := 0) rfl).mono ?_
  rintro e w6 ⟨rfl, n7, rfl⟩
  go_wp2_with fail
  go_ret
  have b1 := new_below (Below.refl w.heap.size w) (Nat.le_refl _) g1
  have b5 := Kept.below b1 (((k2.trans k3).trans k4).trans k5) b1.size HB.out.1 HB.out.2
  exact ⟨rfl, below_drewN b5 _⟩

theorem del_ins (id n : Int) (L : Ent) : del (ins id n L) id = del L id := by
  induction L with
  | nil => simp [ins, del]
  | cons q r ih =>
    unfold ins
    split
    · simp [del]
    · unfold del at ih ⊢
      rw [List.filter_cons, List.filter_cons, ih]

theorem RdO.cells {w wr : World} {A : Option Addr} {zs : List Op3} (h : RdO w A zs) (hb : Below w.heap.size w wr) {k : Nat} (hk : k < zs.length) :
    ∃ b off, A = some ⟨b, off, none⟩ ∧ wr.cell? ⟨b, off + k * 3, none⟩ = some (.int .i64 (opAt zs k).1) ∧ wr.cell? ⟨b, off + k * 3 + 1, none⟩ = some (.int .i64 (opAt zs k).2.1) ∧ wr.cell? ⟨b, off + k * 3 + 1 + 1, none⟩ = some (.int .i64 (opAt zs k).2.2) := by
  rcases h with h | ⟨b, off, h1, h2, h3⟩
  · subst h; simp at hk
  · obtain ⟨c0, c1, c2⟩ := h3 k hk
    exact ⟨b, off, h1, (hb.cell (p := ⟨b, _, none⟩) h2).trans c0, (hb.cell (p := ⟨b, _, none⟩) h2).trans c1, (hb.cell (p := ⟨b, _, none⟩) h2).trans c2⟩

theorem new_ok (room : Int) : (Lg.mk (max 0 (min room 1152921504606846976)) []).Ok := ⟨by simp only; omega, by simp only; omega, by simp [Sorted], by simp, by simp only [tot]; omega⟩

/-- A cell behind the ledger's freeing: what fits then. -/
structure Fit (x1 : Lg) (id need left : Int) : Prop where
  l0 : 0 ≤ left
  l1 : left ≤ 1152921504606846976
  e1 : bookE x1 id (left + 1) = 9
  s1 : bookS x1 id (left + 1) = x1
  e2 : bookE x1 id left = 0
  s2 : bookS x1 id left = ⟨x1.room, ins id left x1.L⟩
  t2 : x1.room - tot (ins id left x1.L) = 0
  f3 : freeS ⟨x1.room, ins id left x1.L⟩ id = x1
  e4 : bookE x1 id need = if need < 0 then 1 else if left < need then 9 else 0

theorem fit_of {x : Lg} (hx : x.Ok) (id need : Int) : Fit (freeS x id) id need ((freeS x id).room - tot (freeS x id).L) := by
  have h1 := freeS_ok hx id
  have hl : look (freeS x id).L id = none := look_del x.L id
  have ht := tot_bd h1
  have hle := h1.le
  have hr := h1.r1
  obtain ⟨y, ey⟩ : ∃ y, freeS x id = y := ⟨_, rfl⟩
  have hd : del y.L id = y.L := del_none (by rw [← ey]; exact look_del x.L id)
  rw [ey] at h1 hl ht hle hr ⊢
  have a1 : bookE y id (y.room - tot y.L + 1) = 9 := by
    unfold bookE; rw [if_neg (by omega), hl, if_neg (by simp), if_pos (by omega)]
  have a2 : bookE y id (y.room - tot y.L) = 0 := by
    unfold bookE; rw [if_neg (by omega), hl, if_neg (by simp), if_neg (by omega)]
  refine ⟨by omega, by omega, a1, ?_, a2, ?_, ?_, ?_, ?_⟩
  · unfold bookS; rw [if_neg (by rw [a1]; omega)]
  · unfold bookS; rw [if_pos a2]
  · rw [tot_ins]; omega
  · unfold freeS
    show Lg.mk y.room (del (ins id (y.room - tot y.L) y.L) id) = y
    rw [del_ins, hd]
  · unfold bookE
    rw [hl]
    simp

theorem free_at {x y : Lg} (hx : x.Ok) {p m : Nat} {id : Int} {w : World} (hwi : (Lit.int .i64 id).wf = true) (h : HasL w p m x) (hs : freeS x id = y) :
    Calls Try.prog 12 #[.pointer (some ⟨p, 0, none⟩), .int .i64 id] w (Turns p m y (.tuple #[.int .i64 ((look x.L id).getD 0), .bool (look x.L id).isSome]) w) := by
  have e := free_any x hx p m id hwi w h
  rwa [hs] at e

set_option maxHeartbeats 1600000 in
theorem fits_walk (room id need : Int) (A : Option Addr) (cap : Nat) (zs : List Op3) (w : World) (hwi : (Lit.int .i64 id).wf = true) (hz : WfO zs) (hn : zs.length ≤ 100) (hr : RdO w A zs) :
    Calls Try.prog 3 #[.int .i64 room, .slice A zs.length cap, .int .i64 id, .int .i64 need] w fun e w' => e = .returned (.bool true) ∧ Below w.heap.size w w' := by
  have HZ := Lib.hid hz
  have HR := Lib.hid hr
  clear hz hr
  go_enter Try.func3, Try.ntmps3
  go_wp2_with fail
  refine (awake_any _).mono ?_
  rintro e w1 ⟨rfl, b1⟩
  go_wp2_with fail
  refine (new_any _ _).mono ?_
  rintro e w2 ⟨p, m, rfl, hp, hm, h2, g2⟩
  have b2 := new_below b1 b1.size g2
  have hpw : w.heap.size ≤ p := Nat.le_trans b1.size hp
  have hmw : w.heap.size ≤ m := Nat.le_trans b1.size hm
  have hx2 := new_ok room
  clear hp hm g2 b1 w1
  go_wp2_with fail
  go_loopw [25] (fun i wr => ∃ (k : Nat) (x : Lg), k ≤ zs.length ∧ i = .int .i64 k ∧ HasL wr p m x ∧ x.Ok ∧ x.L.length ≤ k ∧ Below w.heap.size w wr) (fun i _ => zs.length - (intOf i).toNat)
  case atStart => exact ⟨0, _, Nat.zero_le _, rfl, h2, hx2, Nat.le_refl _, b2⟩
  case round =>
    clear h2 hx2 b2
    obtain ⟨k, x, hk, rfl, hh, hxo, hxl, hbel⟩ := hrel
    by_cases hlt : k < zs.length
    · obtain ⟨b, off, rfl, c0, c1, c2⟩ := HR.out.cells hbel hlt
      have hz := HZ.out k
      obtain ⟨o, eo⟩ : ∃ o, opAt zs k = o := ⟨_, rfl⟩
      rw [eo] at c0 c1 c2 hz
      have hdo := do_any x hxo p m o hz.2.1 (by omega) wr hh
      have HD := Lib.hid hdo
      clear eo hdo
      go_wp2_with fail
      refine HD.out.mono ?_
      rintro e w3 ⟨rfl, h3, k3⟩
      have b3 := Kept.below hbel k3 hbel.size hpw hmw
      have hl3 := doS_len x o
      clear k3 hbel hh c0 c1 c2
      go_wp2_with fail
      go_roundw
      case rel => exact ⟨k + 1, _, by omega, by go_num, h3, doS_ok hxo o, by omega, b3⟩
      case measure => simp [intOf]; omega
    · have hf := fit_of hxo id need
      have hx1 := freeS_ok hxo id
      have hl1 : (freeS x id).L.length ≤ x.L.length := length_del x.L id
      have hfr := free_at hxo hwi hh rfl
      obtain ⟨y, ey⟩ : ∃ y, freeS x id = y := ⟨_, rfl⟩
      rw [ey] at hf hx1 hl1 hfr
      obtain ⟨left, el⟩ : ∃ left, y.room - tot y.L = left := ⟨_, rfl⟩
      rw [el] at hf
      have l0 := hf.l0
      have l1 := hf.l1
      have HF := Lib.hid hf
      have HE := Lib.hid el
      have HFR := Lib.hid hfr
      clear hf ey el hfr hh
      go_wp2_with fail
      refine HFR.out.mono ?_
      rintro e w3 ⟨rfl, h3, k3⟩
      have b3 := Kept.below hbel k3 hbel.size hpw hmw
      clear k3 hbel
      go_wp2_with fail
      refine (left_at hx1 h3 HE.out).mono ?_
      rintro e w4 ⟨rfl, n4, rfl⟩
      go_wp2_with fail
      refine (book_at hx1 hwi (by omega) (h3.drewN n4) HF.out.e1 HF.out.s1).mono ?_
      rintro e w5 ⟨rfl, h5, k5⟩
      have b5 := Kept.below (below_drewN b3 n4) k5 b3.size hpw hmw
      clear k5 b3 h3
      go_wp2_with fail
      refine (book_at hx1 hwi (by omega) h5 HF.out.e2 HF.out.s2).mono ?_
      rintro e w6 ⟨rfl, h6, k6⟩
      have b6 := Kept.below b5 k6 b5.size hpw hmw
      have hx6 : (Lg.mk y.room (ins id left y.L)).Ok := by have := bookS_ok hx1 id left; rwa [HF.out.s2] at this
      clear k6 b5 h5
      go_wp2_with fail
      refine (left_at hx6 h6 HF.out.t2).mono ?_
      rintro e w7 ⟨rfl, n7, rfl⟩
      go_wp2_with fail
      refine (free_at hx6 hwi (h6.drewN n7) HF.out.f3).mono ?_
      rintro e w8 ⟨rfl, h8, k8⟩
      have b8 := Kept.below (below_drewN b6 n7) k8 b6.size hpw hmw
      clear k8 b6 h6
      by_cases q1 : need < 0
      · have hq : bookE y id need = 1 := by rw [HF.out.e4, if_pos q1]
        go_wp2_with fail
        refine (book_at hx1 hwi (by omega) h8 hq rfl).mono ?_
        rintro e w9 ⟨rfl, h9, k9⟩
        have b9 := Kept.below b8 k9 b8.size hpw hmw
        clear k9 b8 h8 hq
        go_wp2_with fail
        go_ret
        exact ⟨rfl, b9⟩
      · by_cases q2 : left < need
        · have hq : bookE y id need = 9 := by rw [HF.out.e4, if_neg q1, if_pos q2]
          go_wp2_with fail
          refine (book_at hx1 hwi (by omega) h8 hq rfl).mono ?_
          rintro e w9 ⟨rfl, h9, k9⟩
          have b9 := Kept.below b8 k9 b8.size hpw hmw
          clear k9 b8 h8 hq
          go_wp2_with fail
          go_ret
          exact ⟨ret_bool (by simp; omega), b9⟩
        · have hq : bookE y id need = 0 := by rw [HF.out.e4, if_neg q1, if_neg q2]
          go_wp2_with fail
          refine (book_at hx1 hwi (by omega) h8 hq rfl).mono ?_
          rintro e w9 ⟨rfl, h9, k9⟩
          have b9 := Kept.below b8 k9 b8.size hpw hmw
          clear k9 b8 h8 hq
          go_wp2_with fail
          go_ret
          exact ⟨rfl, b9⟩

theorem fits_long (room id need : Int) (A : Option Addr) (n cap : Nat) (w : World) (hn : 100 < n) :
    Calls Try.prog 3 #[.int .i64 room, .slice A n cap, .int .i64 id, .int .i64 need] w fun e w' => e = .returned (.bool true) ∧ Below w.heap.size w w' := by
  go_enter Try.func3, Try.ntmps3
  go_wp2_with fail
  refine (awake_any _).mono ?_
  rintro e w1 ⟨rfl, b1⟩
  go_wp2_with fail
  refine (awake_any _).mono ?_
  rintro e w2 ⟨rfl, b2⟩
  go_wp2_with fail
  go_ret
  exact ⟨rfl, b1.trans (b2.mono b1.size)⟩

end Go.Proofs.Ythgjccbmfbileaa
