/- The walk of CallEnds. -/
import Derived.Test.YtjgdbmkddmjaeaaHolW
namespace Go.Proofs.Ytjgdbmkddmjaeaa
open Go.RowKit
set_option linter.unusedVariables false
set_option linter.unusedSimpArgs false
attribute [local go_sem ↓] Go.wp_at_zero Go.wp_at_succ

/-- A call to which nothing but its timer comes, since t0; at most so many times more. -/
def Prog (s : St) (n tt t0 : Int) (m : Tm) (r : Nat) : Prop :=
  (s.ph = 0 ∧ s.du = 0 ∧ n = 0 ∧ tt ≤ t0 + longF m) ∨ (s.ph = 4 ∧ s.du = 0 ∧ n = 1 ∧ tt ≤ t0 + longF m) ∨
  (1 ≤ r ∧ s.ph = 2 ∧ s.tr = 2 ∧ 0 < s.du ∧ s.du ≤ t0 + 2 * hd m.a ∧ tt ≤ t0 + 2 * hd m.a ∧ n = 1) ∨ (2 ≤ r ∧ s.ph = 2 ∧ s.tr = 1 ∧ 0 < s.du ∧ s.du ≤ t0 + hd m.a ∧ tt ≤ t0 ∧ n = 1) ∨
  (1 ≤ r ∧ s.ph = 5 ∧ s.tr = 2 ∧ 0 < s.du ∧ s.du ≤ t0 + hd m.b + 2 * hd m.c ∧ tt ≤ t0 + hd m.b + hd m.c ∧ n = 1) ∨ (2 ≤ r ∧ s.ph = 5 ∧ s.tr = 1 ∧ 0 < s.du ∧ s.du ≤ t0 + hd m.b + hd m.c ∧ tt ≤ t0 + hd m.b ∧ n = 1) ∨
  (3 ≤ r ∧ (s.ph = 1 ∨ s.ph = 3) ∧ 0 < s.du ∧ s.du ≤ t0 + hd m.b ∧ tt ≤ t0 ∧ n = 1)

theorem Inv.prog {s : St} {n t : Int} {m : Tm} (h : Inv s n t m) : Prog s n t t m 6 := by
  have ha := hd_bd m.a
  have hb := hd_bd m.b
  have hc := hd_bd m.c
  have hl : longF m = 2 * hd m.a + hd m.b + 2 * hd m.c := rfl
  unfold Prog
  rcases h with ⟨h1, h2, h3, h4⟩ | ⟨h1, h2, h3, h4, h5⟩ | ⟨h1, h2, h3, h4 | h4, h5⟩ | ⟨h1, h2, h3, h4, h5⟩ | ⟨h1, h2, h3, h4⟩ | ⟨h1, h2, h3, h4 | h4, h5⟩
  · exact .inl ⟨h1, h2, h4, by omega⟩
  · exact .inr (.inr (.inr (.inr (.inr (.inr ⟨by omega, .inl h1, h2, h3, by omega, h5⟩)))))
  · exact .inr (.inr (.inr (.inl ⟨by omega, h1, h4, h2, h3, by omega, h5⟩)))
  · exact .inr (.inr (.inl ⟨by omega, h1, h4, h2, by omega, by omega, h5⟩))
  · exact .inr (.inr (.inr (.inr (.inr (.inr ⟨by omega, .inr h1, h2, h3, by omega, h5⟩)))))
  · exact .inr (.inl ⟨h1, h2, h4, by omega⟩)
  · exact .inr (.inr (.inr (.inr (.inr (.inl ⟨by omega, h1, h4, h2, by omega, by omega, h5⟩)))))
  · exact .inr (.inr (.inr (.inr (.inl ⟨by omega, h1, h4, h2, by omega, by omega, h5⟩))))

theorem due_yes {s : St} {t : Int} (h1 : 0 < s.du) (h2 : s.du ≤ t) : dueB s 9 t = true := by unfold dueB; simp [h1, h2]

theorem prog_step {s : St} {n tt t0 t' : Int} {m : Tm} {r : Nat} (h : Prog s n tt t0 m (r + 1)) (hd0 : s.du ≠ 0) (ht : t' = max tt s.du) (h0 : 0 ≤ t0) : Prog (stepF s 9 t' m).1 (holdsF n (stepF s 9 t' m).2) t' t0 m r ∧ t' ≤ t0 + longF m := by
  have ha := hd_bd m.a
  have hb := hd_bd m.b
  have hc := hd_bd m.c
  have hl : longF m = 2 * hd m.a + hd m.b + 2 * hd m.c := rfl
  unfold stepF
  rcases h with ⟨h1, h2, h3, h4⟩ | ⟨h1, h2, h3, h4⟩ | ⟨g, h1, h2, h3, h4, h5, h6⟩ | ⟨g, h1, h2, h3, h4, h5, h6⟩ | ⟨g, h1, h2, h3, h4, h5, h6⟩ | ⟨g, h1, h2, h3, h4, h5, h6⟩ | ⟨g, h1, h3, h4, h5, h6⟩
  · exact absurd h2 hd0
  · exact absurd h2 hd0
  · have hdu := due_yes (t := t') h3 (by omega)
    rw [if_neg (by omega), if_neg (by omega), if_pos h1]
    unfold presentF
    rw [if_neg (by omega), if_neg (by omega), if_neg (fun h => by have := h.2; omega), if_pos hdu]
    subst h6
    refine ⟨.inl ⟨rfl, rfl, by simp [holdsF, holdOne], by omega⟩, by omega⟩
  · have hdu := due_yes (t := t') h3 (by omega)
    rw [if_neg (by omega), if_neg (by omega), if_pos h1]
    unfold presentF
    rw [if_neg (by omega), if_neg (by omega), if_pos ⟨hdu, h2⟩]
    subst h6
    refine ⟨.inr (.inr (.inl ⟨by omega, rfl, rfl, by simp only; omega, by simp only; omega, by omega, by simp [holdsF, holdOne]⟩)), by omega⟩
  · have hdu := due_yes (t := t') h3 (by omega)
    rw [if_neg (by omega), if_neg (by omega), if_neg (by omega), if_neg (by omega), if_neg (by omega), if_pos h1]
    unfold releasingF
    rw [if_neg (fun h => by have := h.2; omega), if_pos (.inl hdu)]
    subst h6
    refine ⟨.inl ⟨rfl, rfl, by simp [holdsF, holdOne], by omega⟩, by omega⟩
  · have hdu := due_yes (t := t') h3 (by omega)
    rw [if_neg (by omega), if_neg (by omega), if_neg (by omega), if_neg (by omega), if_neg (by omega), if_pos h1]
    unfold releasingF
    rw [if_pos ⟨hdu, h2⟩]
    subst h6
    refine ⟨.inr (.inr (.inr (.inr (.inl ⟨by omega, rfl, rfl, by simp only; omega, by simp only; omega, by omega, by simp [holdsF, holdOne]⟩)))), by omega⟩
  · have hdu := due_yes (t := t') h3 (by omega)
    subst h6
    rcases h1 with h1 | h1
    · rw [if_neg (by omega), if_pos h1]
      unfold incomingF
      rw [if_neg (by omega), if_pos hdu]
      refine ⟨.inr (.inr (.inr (.inr (.inr (.inl ⟨by omega, rfl, rfl, by simp only; omega, by simp only; omega, by omega, by simp [holdsF, holdOne]⟩))))), by omega⟩
    · rw [if_neg (by omega), if_neg (by omega), if_neg (by omega), if_pos h1]
      unfold outgoingF
      rw [if_neg (by omega), if_pos hdu]
      refine ⟨.inr (.inr (.inr (.inr (.inr (.inl ⟨by omega, rfl, rfl, by simp only; omega, by simp only; omega, by omega, by simp [holdsF, holdOne]⟩))))), by omega⟩

theorem Prog.n01 {s : St} {n tt t0 : Int} {m : Tm} {r : Nat} (h : Prog s n tt t0 m r) : 0 ≤ n ∧ n ≤ 1 ∧ 0 ≤ s.du := by
  unfold Prog at h
  rcases h with h | h | h | h | h | h | h <;> omega
theorem Prog.done {s : St} {n tt t0 : Int} {m : Tm} {r : Nat} (h : Prog s n tt t0 m r) (hr : r = 0 ∨ s.du = 0) : s.du = 0 ∧ (s.ph = 0 ∧ n = 0 ∨ s.ph = 4 ∧ n = 1) ∧ tt ≤ t0 + longF m := by
  unfold Prog at h
  rcases h with h | h | h | h | h | h | h <;> omega

set_option maxHeartbeats 3200000 in
theorem ends_walk (A : Option Addr) (cap : Nat) (zs : List Op2) (m : Tm) (w : World) (hz : WfO zs) (hn : zs.length ≤ 100) (hr : RdO w A zs) :
    Calls Try.prog 4 #[.slice A zs.length cap, .agg #[.int .i64 m.a, .int .i64 m.b, .int .i64 m.c]] w fun e w' => e = .returned (.bool true) ∧ Below w.heap.size w w' := by
  have HZ := Lib.hid hz
  have HR := Lib.hid hr
  have hT0 : HasT (w.alloc (.cells #[.int .i64 m.a, .int .i64 m.b, .int .i64 m.c] 24)) w.heap.size m := heap_alloc_new w _
  have hB0 : Below w.heap.size w (w.alloc (.cells #[.int .i64 m.a, .int .i64 m.b, .int .i64 m.c] 24)) := (Below.refl _ _).alloc (Nat.le_refl _) _
  have HT := Lib.hid (And.intro hT0 hB0)
  clear hz hr hT0 hB0
  go_enter Try.func4, Try.ntmps4
  go_wp2_with fail
  refine (awake_any _).mono ?_
  rintro e w1 ⟨rfl, b1⟩
  have hT1 := HT.out.1.below b1
  have hB1 := HT.out.2.trans (b1.mono HT.out.2.size)
  have hT2 : HasT (w1.alloc (.cells #[.int .i64 0, .int .i64 0, .int .i64 0] 27)) w.heap.size m := (Below.heap_alloc w1 _ _ hT1.lt).trans hT1
  have hS2 : HasS (w1.alloc (.cells #[.int .i64 0, .int .i64 0, .int .i64 0] 27)) w1.heap.size ⟨0, 0, 0⟩ := heap_alloc_new w1 _
  have hB2 : Below w.heap.size w (w1.alloc (.cells #[.int .i64 0, .int .i64 0, .int .i64 0] 27)) := hB1.alloc hB1.size _
  obtain ⟨p, ep⟩ : ∃ p, w1.heap.size = p := ⟨_, rfl⟩
  have hpw : w.heap.size ≤ p := by rw [← ep]; exact hB1.size
  rw [ep] at hS2
  have HE := Lib.hid (And.intro hT2 (And.intro hS2 hB2))
  clear b1 hT1 hB1 HT hT2 hS2 hB2
  go_wp2_with fail
  clear ep
  obtain ⟨w2, hw2⟩ : ∃ w2, (w1.alloc (.cells #[.int .i64 0, .int .i64 0, .int .i64 0] 27)) = w2 := ⟨_, rfl⟩
  rw [hw2] at HE ⊢
  clear hw2 w1
  go_loopw [6, 7, 22] (fun tv nv i wr => ∃ (k : Nat) (s : St) (n t : Int), k ≤ zs.length ∧ i = .int .i64 k ∧ tv = .int .i64 t ∧ nv = .int .i64 n ∧ 0 ≤ t ∧ t ≤ k * 4294967295 ∧ HasS wr p s ∧ HasT wr w.heap.size m ∧ Inv s n t m ∧ Below w.heap.size w wr) (fun _ _ i _ => zs.length - (intOf i).toNat)
  case atStart => exact ⟨0, ⟨0, 0, 0⟩, 0, 0, Nat.zero_le _, rfl, rfl, rfl, Int.le_refl _, by omega, HE.out.2.1, HE.out.1, .inl ⟨rfl, rfl, rfl, rfl⟩, HE.out.2.2⟩
  case round =>
    clear HE
    obtain ⟨k, s, n, t, hk, rfl, rfl, rfl, ht0, ht1, hS, hT, hI, hbel⟩ := hrel
    by_cases hlt : k < zs.length
    · obtain ⟨b, off, rfl, hbl, c0, c1⟩ := HR.out.cells hbel hlt
      have hz := HZ.out k
      obtain ⟨o, eo⟩ : ∃ o, opAt zs k = o := ⟨_, rfl⟩
      rw [eo] at c0 c1 hz
      obtain ⟨what, gap⟩ := o
      simp only at c0 c1 hz
      obtain ⟨hz1, hz2, hz3⟩ := hz
      clear eo
      have hk0 := step_at s what (t + gap) m
      have hI' := step_inv (hI.later (t' := t + gap) (by omega)) (by omega) what
      have hl' := step_len s what (t + gap) m
      obtain ⟨F, hF⟩ : ∃ F, stepF s what (t + gap) m = F := ⟨_, rfl⟩
      rw [hF] at hk0 hI' hl'
      obtain ⟨s', l⟩ := F
      simp only at hk0 hI' hl'
      have hol := fun A c w hr => holds_any n hI.n01 l (by omega) A c w hr
      obtain ⟨n', en⟩ : ∃ n', holdsF n l = n' := ⟨_, rfl⟩
      rw [en] at hol hI'
      clear en
      have hs0 := hS.c0
      have hs1 := hS.c1
      have hs2 := hS.c2
      have hm0 := hT.c0
      have hm1 := hT.c1
      have hm2 := hT.c2
      have hfr := hS.fr
      have hpl := hS.lt
      have hql := hT.lt
      have hpq : w.heap.size ≠ p := hS.ne hT
      have hbp : b ≠ p := by omega
      have hbwr : b < wr.heap.size := Nat.lt_of_lt_of_le hbl hbel.size
      have HH := Lib.hid (And.intro hS (And.intro hT (And.intro hI' (And.intro hbel (And.intro hI.n01 hl')))))
      clear hF hS hT hI hI' hl'
      go_wp2_with fail
      go_region_with
        (first | (go_at_call 10; refine (hk0 _ (by omega)).mono ?_; rintro e w3 ⟨A3, c3, rfl, hr3, hf3, hb3⟩; have HB := Lib.hid (And.intro hr3 (And.intro hf3 hb3)); clear hf3 hr3; obtain ⟨hc, hf⟩ := bcell hb3; have k0 : w3.cell? ⟨p, 0, none⟩ = some (.int .i64 s.ph) := (hc _ _ hpl).trans hs0; have k1 : w3.cell? ⟨p, 1, none⟩ = some (.int .i64 s.du) := (hc _ _ hpl).trans hs1; have k2 : w3.cell? ⟨p, 2, none⟩ = some (.int .i64 s.tr) := (hc _ _ hpl).trans hs2; have k3 : w3.frozen? ⟨p, 0, none⟩ = false := (hf _ _ hpl).trans (hfr 0); have k4 : w3.frozen? ⟨p, 1, none⟩ = false := (hf _ _ hpl).trans (hfr 1); have k5 : w3.frozen? ⟨p, 2, none⟩ = false := (hf _ _ hpl).trans (hfr 2)))
      all_goals
        go_wp2_with fail
        have hst := stored (w := w) (B := w.heap.size) (w0 := wr.drew) (w1 := w3) (s' := s') HH.out.1 HH.out.2.1 HB.out.1 HB.out.2.1 HB.out.2.2 HH.out.2.2.2.1.drew HH.out.2.2.2.1.size hpw
        obtain ⟨W5, hW5⟩ : ∃ W5, (((w3.setCell ⟨p, 0, none⟩ (.int .i64 s'.ph)).setCell ⟨p, 1, none⟩ (.int .i64 s'.du)).setCell ⟨p, 2, none⟩ (.int .i64 s'.tr)) = W5 := ⟨_, rfl⟩
        rw [hW5] at hst ⊢
        obtain ⟨t1, t2, t3, t4⟩ := hst
        clear hW5 hc hf k0 k1 k2 k3 k4 k5 HB hb3 hs0 hs1 hs2 hm0 hm1 hm2 c0 c1 hfr hpl hql hbwr hbel
        refine (hol _ _ _ t3).mono ?_
        rintro e w6 ⟨rfl, rfl⟩
        have HP := Lib.hid (And.intro t1 (And.intro t2 (And.intro HH.out.2.2.1 t4)))
        clear t1 t2 t3 t4 hol hk0 HH
        go_wp2_with fail
        go_roundw
        case rel => exact ⟨k + 1, _, _, _, by omega, by go_num, rfl, rfl, by omega, by omega, HP.out.1, HP.out.2.1, HP.out.2.2.1, HP.out.2.2.2⟩
        case measure => simp [intOf]; omega
    · have hm0 := hT.c0
      have hm1 := hT.c1
      have hm2 := hT.c2
      have hlo := fun W => longest_any m W
      unfold tmV at hlo
      have ha := hd_bd m.a
      have hb := hd_bd m.b
      have hc := hd_bd m.c
      have hl : longF m = 2 * hd m.a + hd m.b + 2 * hd m.c := rfl
      have hlb : 0 ≤ longF m ∧ longF m ≤ 360287970189639680 := by omega
      have HH := Lib.hid (And.intro hS (And.intro hT (And.intro hI.prog hbel)))
      clear hS hT hI hbel ha hb hc hl
      obtain ⟨L, eL⟩ : ∃ L, longF m = L := ⟨_, rfl⟩
      rw [eL] at hlo hlb
      have HL := Lib.hid eL
      clear eL
      go_wp2_with fail
      refine (hlo _).mono ?_
      rintro e w3 ⟨rfl, b3⟩
      have hS3 := HH.out.1.below b3
      have hT3 := HH.out.2.1.below b3
      have hB3 := HH.out.2.2.2.trans (b3.mono HH.out.2.2.2.size)
      have HH3 := Lib.hid (And.intro hS3 (And.intro hT3 (And.intro HH.out.2.2.1 hB3)))
      clear hS3 hT3 hB3 HH b3 hm0 hm1 hm2 hlo
      go_wp2_with fail
      go_loopw [6, 7, 53] (fun tv nv i wr => ∃ (j : Nat) (s : St) (n tt : Int), j ≤ 6 ∧ i = .int .i64 j ∧ tv = .int .i64 tt ∧ nv = .int .i64 n ∧ 0 ≤ tt ∧ HasS wr p s ∧ HasT wr w.heap.size m ∧ Prog s n tt t m (6 - j) ∧ Below w.heap.size w wr) (fun _ _ i _ => 6 - (intOf i).toNat)
      case atStart => exact ⟨0, _, _, _, by omega, rfl, rfl, rfl, ht0, HH3.out.1, HH3.out.2.1, HH3.out.2.2.1, HH3.out.2.2.2⟩
      case round =>
        clear HH3
        obtain ⟨j, s, n, tt, hj, rfl, rfl, rfl, htt, hS, hT, hP, hbel⟩ := hrel
        have hs0 := hS.c0
        have hs1 := hS.c1
        have hs2 := hS.c2
        by_cases hgo : j < 6 ∧ s.du ≠ 0
        · obtain ⟨hj6, hdu0⟩ := hgo
          have hm0 := hT.c0
          have hm1 := hT.c1
          have hm2 := hT.c2
          have hfr := hS.fr
          have hpl := hS.lt
          have hql := hT.lt
          obtain ⟨mx, emx⟩ : ∃ mx, (if tt < s.du then s.du else tt) = mx := ⟨_, rfl⟩
          have hmx : mx = max tt s.du := by rw [← emx]; split <;> omega
          have hps := prog_step (r := 5 - j) (by rw [show 5 - j + 1 = 6 - j by omega]; exact hP) hdu0 hmx ht0
          rw [HL.out] at hps
          have hn01 := hP.n01
          have hl' := step_len s 9 mx m
          have hk0 := step_at s 9 mx m
          have hdu1 : (s.du == 0) = false := by simpa using hdu0
          obtain ⟨F, hF⟩ : ∃ F, stepF s 9 mx m = F := ⟨_, rfl⟩
          rw [hF] at hk0 hps hl'
          obtain ⟨s', l⟩ := F
          simp only at hk0 hps hl'
          have hol := fun A c w hr => holds_any n ⟨hn01.1, hn01.2.1⟩ l (by omega) A c w hr
          have hmb : 0 ≤ mx ∧ mx ≤ t + L := by omega
          have HH := Lib.hid (And.intro hS (And.intro hT (And.intro hps.1 hbel)))
          have hdn : 0 ≤ s.du := hn01.2.2
          clear hF hS hT hP hps hbel hmx hn01 hdu0 hl'
          go_wp2_with fail
          refine (hk0 _ (by omega)).mono ?_
          rintro e w3 ⟨A3, c3, rfl, hr3, hf3, hb3⟩
          have HB := Lib.hid (And.intro hr3 (And.intro hf3 hb3))
          clear hf3 hr3
          obtain ⟨hc, hf⟩ := bcell hb3
          have k0 : w3.cell? ⟨p, 0, none⟩ = some (.int .i64 s.ph) := (hc _ _ hpl).trans hs0
          have k1 : w3.cell? ⟨p, 1, none⟩ = some (.int .i64 s.du) := (hc _ _ hpl).trans hs1
          have k2 : w3.cell? ⟨p, 2, none⟩ = some (.int .i64 s.tr) := (hc _ _ hpl).trans hs2
          have k3 : w3.frozen? ⟨p, 0, none⟩ = false := (hf _ _ hpl).trans (hfr 0)
          have k4 : w3.frozen? ⟨p, 1, none⟩ = false := (hf _ _ hpl).trans (hfr 1)
          have k5 : w3.frozen? ⟨p, 2, none⟩ = false := (hf _ _ hpl).trans (hfr 2)
          have hst := stored (w := w) (B := w.heap.size) (w0 := wr) (w1 := w3) (s' := s') HH.out.1 HH.out.2.1 HB.out.1 HB.out.2.1 HB.out.2.2 HH.out.2.2.2 HH.out.2.2.2.size hpw
          have HS := Lib.hid hst
          clear hst hb3 hc hf hs0 hs1 hs2 hm0 hm1 hm2
          go_wp2_with fail
          refine (hol _ _ _ HS.out.2.2.1).mono ?_
          rintro e w6 ⟨rfl, rfl⟩
          clear hol hk0
          go_wp2_with fail
          go_roundw
          case rel => exact ⟨j + 1, s', _, mx, by omega, by go_num, rfl, rfl, hmb.1, HS.out.1, HS.out.2.1, by rw [show 6 - (j + 1) = 5 - j by omega]; exact HH.out.2.2.1, HS.out.2.2.2⟩
          case measure => simp [intOf]; omega
        · have hdone := hP.done (by omega)
          rw [HL.out] at hdone
          obtain ⟨q1, q2, q3⟩ := hdone
          have HB := Lib.hid hbel
          clear hS hT hP hbel hgo
          obtain ⟨ph, du, tr⟩ := s
          simp only at q1 q2 hs0 hs1 hs2
          subst q1
          by_cases hj6 : j < 6
          · rcases q2 with ⟨q2, q4⟩ | ⟨q2, q4⟩
            · subst q2 q4
              go_wp2_with fail
              go_ret
              exact ⟨rfl, HB.out⟩
            · subst q2 q4
              go_wp2_with fail
              go_ret
              exact ⟨rfl, HB.out⟩
          · rcases q2 with ⟨q2, q4⟩ | ⟨q2, q4⟩
            · subst q2 q4
              go_wp2_with fail
              go_ret
              exact ⟨rfl, HB.out⟩
            · subst q2 q4
              go_wp2_with fail
              go_ret
              exact ⟨rfl, HB.out⟩

theorem ends_long (A : Option Addr) (n cap : Nat) (m : Tm) (w : World) (hn : 100 < n) :
    Calls Try.prog 4 #[.slice A n cap, .agg #[.int .i64 m.a, .int .i64 m.b, .int .i64 m.c]] w fun e w' => e = .returned (.bool true) ∧ Below w.heap.size w w' := by
  have hB0 : Below w.heap.size w (w.alloc (.cells #[.int .i64 m.a, .int .i64 m.b, .int .i64 m.c] 24)) := (Below.refl _ _).alloc (Nat.le_refl _) _
  have HB := Lib.hid hB0
  clear hB0
  go_enter Try.func4, Try.ntmps4
  go_wp2_with fail
  refine (awake_any _).mono ?_
  rintro e w1 ⟨rfl, b1⟩
  have HB1 := Lib.hid (HB.out.trans (b1.mono HB.out.size))
  clear b1
  go_wp2_with fail
  refine (awake_any _).mono ?_
  rintro e w2 ⟨rfl, b2⟩
  go_wp2_with fail
  go_ret
  exact ⟨rfl, HB1.out.trans (b2.mono HB1.out.size)⟩

end Go.Proofs.Ytjgdbmkddmjaeaa
