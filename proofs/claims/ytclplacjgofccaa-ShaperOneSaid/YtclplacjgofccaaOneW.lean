/- The walk of ShaperOne. -/
import Derived.Test.YtclplacjgofccaaFulP
import Derived.Test.YtclplacjgofccaaBp
namespace Go.Proofs.Ytclplacjgofccaa
open Go.RowKit Go.Sort Go.Shelf Go.Lib
set_option linter.unusedVariables false
set_option linter.unusedSimpArgs false
attribute [local go_sem ↓] Go.wp_at_zero Go.wp_at_succ

/-- A shaper without changes and a bucket alike. -/
structure Alike1 (x : Sh) (y : Bu.Bk) : Prop where
  s : x.step = y.s
  e : x.early = y.e
  n : x.next = y.n
  a : x.any = y.a
  l : x.L = []

theorem Alike1.fit {x : Sh} {y : Bu.Bk} (h : Alike1 x y) (t : Int) : fitSh t x = Bu.fitB y t := by
  unfold fitSh Bu.fitB
  rw [h.a, h.n, h.e]
  have e : Bu.hold t 0 1152921504606846976 = held t := rfl
  rw [e]
  cases y.a
  · rfl
  · by_cases hh : held t < y.n - y.e
    · simp [hh]
    · simp [hh]; omega

theorem Alike1.took {x : Sh} {y : Bu.Bk} (h : Alike1 x y) (t : Int) : Alike1 (takeSh t x) (Bu.takeB y t) := by
  have hc : comeSh t x = x := by
    unfold comeSh
    rw [h.l]
    have hl := h.l
    cases x
    simp only at hl
    subst hl
    rfl
  unfold takeSh Bu.takeB
  rw [← h.fit t, hc]
  split
  · refine ⟨h.s, h.e, ?_, rfl, h.l⟩
    simp only
    rw [h.l]
    show max x.next (held t) + x.step = max y.n (held t) + y.s
    rw [h.n, h.s]
  · exact h

structure Two (w W : World) (p b : Nat) (x : Sh) (y : Bu.Bk) : Prop where
  st : St W w.heap.size p x
  bk : Bu.HasB W b y
  ok : y.Ok
  bel : Below w.heap.size w W
  hp : w.heap.size ≤ p
  hb : w.heap.size ≤ b

theorem St.grown {W W' : World} {B q b : Nat} {x : Sh} {y : Bu.Bk} (h : St W B q x) (hb : Bu.HasB W b y) (hg : W.grownBy W' (some b)) : St W' B q x := by
  obtain ⟨v, h1, h2, h3⟩ := h
  have hap := h1.row.apart hb (by decide)
  have hqb : q ≠ b := fun e => by
    subst e
    have h4 := h1.sh
    unfold HasSh at h4
    unfold Bu.HasB at hb
    rw [hb] at h4
    simp at h4
  refine ⟨v, ⟨(hg.block q h1.sh.lt (fun e => hqb (by simpa using e))).trans h1.sh, ?_, h1.l8, h1.at0⟩, h2, Nat.le_trans h3 hg.size⟩
  rcases h1.row with h | ⟨k1, k2, k3⟩
  · exact .inl h
  · refine .inr ⟨k1, k2, ?_⟩
    rcases k3 with k3 | ⟨g, cap, cur, k3, k4, k5, k6⟩
    · exact .inl k3
    · refine .inr ⟨g, cap, cur, k3, k4, ?_, k6⟩
      rw [hg.block g (lt_of_block k5) (fun e => hap (by rw [k3, show b = g by simpa using e.symm]; rfl))]
      exact k5

theorem Two.drewN {w W : World} {p b : Nat} {x : Sh} {y : Bu.Bk} (h : Two w W p b x y) (n : Nat) : Two w (W.drewN n) p b x y :=
  ⟨h.st.below (below_drewN (Below.refl _ _) n), h.bk, h.ok, below_drewN h.bel n, h.hp, h.hb⟩
theorem Two.drew {w W : World} {p b : Nat} {x : Sh} {y : Bu.Bk} (h : Two w W p b x y) : Two w W.drew p b x y :=
  ⟨h.st.below (Below.refl _ _).drew, h.bk, h.ok, h.bel.drew, h.hp, h.hb⟩

theorem Two.take {w W : World} {p b : Nat} {x : Sh} {y : Bu.Bk} (h : Two w W p b x y) (t : Int) {r : Bool} (hr : fitSh t x = r) :
    Calls Try.prog 14 #[.pointer (some ⟨p, 0, none⟩), .int .i64 t] W fun e w' => e = .returned (.bool r) ∧ Two w w' p b (takeSh t x) y := by
  refine (take_st t h.st).mono ?_
  rintro e w' ⟨rfl, h1, h2⟩
  have hne : b ≠ p := fun e => by
    obtain ⟨v, h4, _⟩ := h.st
    have h4 := h4.sh
    have h5 := h.bk
    subst e
    unfold HasSh at h4
    unfold Bu.HasB at h5
    rw [h5] at h4
    simp at h4
  exact ⟨by rw [hr], h1, (h2.block b h.bk.lt hne).trans h.bk, h.ok, below_kept h.bel h2 h.hp h.bel.size, h.hp, h.hb⟩

theorem Two.buck {w W : World} {p b : Nat} {x : Sh} {y : Bu.Bk} (h : Two w W p b x y) (t : Int) {r : Bool} (hr : Bu.fitB y t = r) :
    Calls Try.prog 20 #[.pointer (some ⟨b, 0, none⟩), .int .i64 t] W fun e w' => e = .returned (.bool r) ∧ Two w w' p b x (Bu.takeB y t) := by
  refine (Bu.take_any y h.ok b t W h.bk).mono ?_
  rintro e w' ⟨rfl, h1, h2, h3⟩
  exact ⟨by rw [hr], h.st.grown h.bk h2, h1, Bu.takeB_ok h.ok t, Bu.below_grown h.bel h2 h.bel.size h.hb, h.hp, h.hb⟩

set_option maxHeartbeats 1600000 in
theorem one_walk (step early slow quick : Int) (A : Option Addr) (cap : Nat) (zs : List Int) (w : World) (hn : zs.length ≤ 200) (hr : Bu.Rd .i64 w A zs) :
    Calls Try.prog 8 #[.int .i64 step, .int .i64 early, .int .i64 slow, .int .i64 quick, .slice A zs.length cap] w fun e w' => e = .returned (.bool true) ∧ Below w.heap.size w w' := by
  go_enter Try.func8, Try.ntmps8
  go_wp2_with fail
  refine (awake_any _).mono ?_
  rintro e w1 ⟨rfl, b1⟩
  have HB1 := Lib.hid b1
  clear b1
  go_wp2_with fail
  refine (new_st _ _ _ _ _).mono ?_
  rintro e w2 ⟨p, rfl, hp, s2, b2⟩
  have HB2 := Lib.hid (And.intro hp (And.intro s2 b2))
  clear hp s2 b2
  go_wp2_with fail
  refine (Bu.new_any _ _ _).mono ?_
  rintro e w3 ⟨b, rfl, hb, h3, g3⟩
  have b3 : Below w2.heap.size w2 w3 := ⟨g3.os, g3.tape, g3.output, g3.size, fun k hk => g3.block k hk (by simp)⟩
  have hb12 : Below w.heap.size w w2 := HB1.out.trans (HB2.out.2.2.mono HB1.out.size)
  have hT : Two w w3 p b (newSh step early slow quick) ⟨Bu.hold step 1 1152921504606846976, Bu.hold early 0 1152921504606846976, 0, false⟩ :=
    ⟨(HB2.out.2.1.base HB1.out.size).below b3, h3, Bu.hold_ok _ _, hb12.trans (b3.mono hb12.size), Nat.le_trans HB1.out.size HB2.out.1, Nat.le_trans hb12.size hb⟩
  have hA : Alike1 (newSh step early slow quick) ⟨Bu.hold step 1 1152921504606846976, Bu.hold early 0 1152921504606846976, 0, false⟩ := by
    refine ⟨?_, rfl, rfl, rfl, rfl⟩
    unfold newSh held Bu.hold
    simp only
    omega
  obtain ⟨n, en⟩ : ∃ n, zs.length = n := ⟨_, rfl⟩
  have HR := Lib.hid (And.intro hr en)
  rw [en] at hn ⊢
  have HT := Lib.hid (And.intro hT hA)
  clear hb h3 g3 b3 hb12 hT hA HB1 HB2 hr en
  go_wp2_with fail
  go_loopw [32] (fun i wr => ∃ (k : Nat) (x : Sh) (y : Bu.Bk), k ≤ n ∧ i = .int .i64 k ∧ Two w wr p b x y ∧ Alike1 x y) (fun i _ => n - (intOf i).toNat)
  case atStart => exact ⟨0, _, _, Nat.zero_le _, rfl, HT.out.1, HT.out.2⟩
  case round =>
    obtain ⟨k, x, y, hk, rfl, hT, hA⟩ := hrel
    by_cases hlt : k < n
    · rcases HR.out.1 with hr | ⟨bl, off, rfl, hbl, hc⟩
      · exfalso; have := HR.out.2; rw [hr] at this; simp at this; omega
      have hcell : wr.cell? ⟨bl, off + k, none⟩ = some (.int .i64 (zs[k]?.getD 0)) := (hT.bel.cell (p := ⟨bl, off + k, none⟩) hbl).trans (hc k (by have := HR.out.2; omega))
      have HC := Lib.hid (And.intro hbl (hc k (by have := HR.out.2; omega)))
      obtain ⟨t, et⟩ : ∃ t, zs[k]?.getD 0 = t := ⟨_, rfl⟩
      rw [et] at hcell HC
      have hfit := hA.fit t
      obtain ⟨r, er⟩ : ∃ r, Bu.fitB y t = r := ⟨_, rfl⟩
      rw [er] at hfit
      have HF := Lib.hid (And.intro hfit er)
      have HA := Lib.hid hA
      have hTd := hT.drew
      clear hc et hfit er hA hT hbl
      have hk0 : (0 : Int) ≤ (k : Int) := Int.natCast_nonneg _
      have hk1 : (k : Int) < (n : Int) := by omega
      go_wp2_with fail
      go_region_held3 (fun w' => w'.cell? ⟨bl, off + k, none⟩ = some (.int .i64 t)) (first | assumption | go_keep)
        (first
          | (go_at_call 14; refine (Two.take (by assumption) t HF.out.1).mono ?_; rintro e w4 ⟨rfl, h4⟩; have hc4 := (h4.bel.cell (p := ⟨bl, off + k, none⟩) HC.out.1).trans HC.out.2)
          | (go_at_call 20; refine (Two.buck (by assumption) t HF.out.2).mono ?_; rintro e w5 ⟨rfl, h5⟩; have hc5 := (h5.bel.cell (p := ⟨bl, off + k, none⟩) HC.out.1).trans HC.out.2))
      all_goals
        go_wp2_with fail
        go_roundw
        case rel => exact ⟨k + 1, takeSh t x, Bu.takeB y t, by omega, by go_num, by assumption, HA.out.took t⟩
        case measure => simp [intOf]; omega
    · go_wp2_with fail
      refine (wait_st hT.st).mono ?_
      rintro e w4 ⟨rfl, rfl⟩
      have hl : (x.L.length : Int) = 0 := by rw [hA.l]; rfl
      rw [hl]
      have HT4 := Lib.hid hT
      clear hl hT hA
      go_wp2_with fail
      go_ret
      exact ⟨rfl, HT4.out.bel⟩

theorem one_long (step early slow quick : Int) (A : Option Addr) (n cap : Nat) (w : World) (hn : 200 < n) :
    Calls Try.prog 8 #[.int .i64 step, .int .i64 early, .int .i64 slow, .int .i64 quick, .slice A n cap] w fun e w' => e = .returned (.bool true) ∧ Below w.heap.size w w' := by
  go_enter Try.func8, Try.ntmps8
  go_wp2_with fail
  refine (awake_any _).mono ?_
  rintro e w1 ⟨rfl, b1⟩
  go_wp2_with fail
  refine (awake_any _).mono ?_
  rintro e w2 ⟨rfl, b2⟩
  go_wp2_with fail
  go_ret
  exact ⟨rfl, b1.trans (b2.mono b1.size)⟩

end Go.Proofs.Ytclplacjgofccaa
