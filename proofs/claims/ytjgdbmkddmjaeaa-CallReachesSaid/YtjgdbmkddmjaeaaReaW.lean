/- The walk of CallReaches. -/
import Derived.Test.YtjgdbmkddmjaeaaHolW
namespace Go.Proofs.Ytjgdbmkddmjaeaa
open Go.RowKit
set_option linter.unusedVariables false
set_option linter.unusedSimpArgs false
attribute [local go_sem ↓] Go.wp_at_zero Go.wp_at_succ

theorem rea_first {s : St} {n t : Int} {m : Tm} (h : Inv s n t m) (what : Int) (hw : what = 4 ∨ what = 5) :
    (stepF s what t m).1 = ⟨0, 0, 0⟩ ∧ holdsF n (stepF s what t m).2 = 0 ∧ (s.ph = 0 ∨ 0 < (stepF s what t m).2.length) := by
  have hd9 : ¬ dueB s what t = true := fun h => by unfold dueB at h; simp at h; omega
  have he : n = 1 → (endsF s what t m).1 = ⟨0, 0, 0⟩ ∧ holdsF n (endsF s what t m).2 = 0 ∧ (s.ph = 0 ∨ 0 < (endsF s what t m).2.length) := by
    intro hn
    subst hn
    unfold endsF
    rcases hw with hw | hw
    · rw [if_pos hw]; exact ⟨rfl, by simp [holdsF, holdOne], .inr (by simp)⟩
    · rw [if_neg (by omega), if_pos hw]; exact ⟨rfl, by simp [holdsF, holdOne], .inr (by simp)⟩
  unfold stepF
  rcases h with ⟨h1, h2, h3, h4⟩ | ⟨h1, h2, h3, h4, h5⟩ | ⟨h1, h2, h3, h4, h5⟩ | ⟨h1, h2, h3, h4, h5⟩ | ⟨h1, h2, h3, h4⟩ | ⟨h1, h2, h3, h4, h5⟩
  · rw [if_pos h1]
    unfold nullF
    rw [if_neg (by omega), if_neg (by omega)]
    obtain ⟨ph, du, tr⟩ := s
    simp only at h1 h2 h3
    subst h1 h2 h3 h4
    rcases hw with hw | hw
    · rw [if_pos (.inl hw)]; exact ⟨rfl, by simp [holdsF, holdOne], .inl rfl⟩
    · rw [if_neg (by omega)]; exact ⟨rfl, by simp [holdsF], .inl rfl⟩
  · rw [if_neg (by omega), if_pos h1]
    unfold incomingF
    rw [if_neg (by omega), if_neg hd9]
    exact he h5
  · rw [if_neg (by omega), if_neg (by omega), if_pos h1]
    unfold presentF
    rw [if_neg (by omega), if_neg (by omega), if_neg (fun h => hd9 h.1), if_neg hd9]
    exact he h5
  · rw [if_neg (by omega), if_neg (by omega), if_neg (by omega), if_pos h1]
    unfold outgoingF
    rw [if_neg (by omega), if_neg hd9]
    exact he h5
  · rw [if_neg (by omega), if_neg (by omega), if_neg (by omega), if_neg (by omega), if_pos h1]
    exact he h4
  · rw [if_neg (by omega), if_neg (by omega), if_neg (by omega), if_neg (by omega), if_neg (by omega), if_pos h1]
    unfold releasingF
    rw [if_neg (fun h => hd9 h.1), if_pos (.inr hw)]
    subst h5
    exact ⟨rfl, by simp [holdsF, holdOne], .inr (by simp)⟩

theorem rea_second (what t : Int) (m : Tm) (hw : what = 4 ∨ what = 5) : (stepF ⟨0, 0, 0⟩ what t m).1 = ⟨0, 0, 0⟩ ∧ holdsF 0 (stepF ⟨0, 0, 0⟩ what t m).2 = 0 := by
  have h := rea_first (s := ⟨0, 0, 0⟩) (n := 0) (t := t) (m := m) (.inl ⟨rfl, rfl, rfl, rfl⟩) what hw
  exact ⟨h.1, h.2.1⟩

def ReaR (w : World) (p q : Nat) (m : Tm) (zs : List Op2) (tv nv i : Value) (wr : World) : Prop :=
  ∃ (k : Nat) (s : St) (n t : Int), k ≤ zs.length ∧ i = .int .i64 k ∧ tv = .int .i64 t ∧ nv = .int .i64 n ∧ 0 ≤ t ∧ t ≤ k * 4294967295 ∧ HasS wr p s ∧ HasT wr q m ∧ Inv s n t m ∧ Below w.heap.size w wr

set_option maxHeartbeats 3200000 in
theorem rea_walk (A : Option Addr) (cap : Nat) (zs : List Op2) (m : Tm) (b : Bool) (w : World) (hz : WfO zs) (hn : zs.length ≤ 100) (hr : RdO w A zs) :
    Calls Try.prog 7 #[.slice A zs.length cap, .agg #[.int .i64 m.a, .int .i64 m.b, .int .i64 m.c], .bool b] w fun e w' => e = .returned (.bool true) ∧ Below w.heap.size w w' := by
  have HZ := Lib.hid hz
  have HR := Lib.hid hr
  have hT0 : HasT (w.alloc (.cells #[.int .i64 m.a, .int .i64 m.b, .int .i64 m.c] 24)) w.heap.size m := heap_alloc_new w _
  have hB0 : Below w.heap.size w (w.alloc (.cells #[.int .i64 m.a, .int .i64 m.b, .int .i64 m.c] 24)) := (Below.refl _ _).alloc (Nat.le_refl _) _
  have HT := Lib.hid (And.intro hT0 hB0)
  clear hz hr hT0 hB0
  go_enter Try.func7, Try.ntmps7
  go_wp2_with fail
  refine (awake_any _).mono ?_
  rintro e w1 ⟨rfl, b1⟩
  have hT1 := HT.out.1.below b1
  have hB1 := HT.out.2.trans (b1.mono HT.out.2.size)
  have hT2 : HasT (w1.alloc (.cells #[.int .i64 0, .int .i64 0, .int .i64 0] 27)) w.heap.size m := (Below.heap_alloc w1 _ _ hT1.lt).trans hT1
  have hS2 : HasS (w1.alloc (.cells #[.int .i64 0, .int .i64 0, .int .i64 0] 27)) w1.heap.size ⟨0, 0, 0⟩ := heap_alloc_new w1 _
  have hB2 : Below w.heap.size w (w1.alloc (.cells #[.int .i64 0, .int .i64 0, .int .i64 0] 27)) := hB1.alloc hB1.size _
  obtain ⟨p, ep⟩ : ∃ p, w1.heap.size = p := ⟨_, rfl⟩
  have hpw : w.heap.size ≤ p := by rw [← ep]; exact hB1.size
  rw [ep] at hS2
  have HE := Lib.hid (And.intro hT2 (And.intro hS2 hB2))
  clear b1 hT1 hB1 HT hT2 hS2 hB2
  go_wp2_with fail
  clear ep
  obtain ⟨w2, hw2⟩ : ∃ w2, (w1.alloc (.cells #[.int .i64 0, .int .i64 0, .int .i64 0] 27)) = w2 := ⟨_, rfl⟩
  rw [hw2] at HE ⊢
  clear hw2 w1
  go_loopw [8, 9, 27] (ReaR w p w.heap.size m zs) (fun _ _ i _ => zs.length - (intOf i).toNat)
  case atStart => exact ⟨0, ⟨0, 0, 0⟩, 0, 0, Nat.zero_le _, rfl, rfl, rfl, Int.le_refl _, by omega, HE.out.2.1, HE.out.1, .inl ⟨rfl, rfl, rfl, rfl⟩, HE.out.2.2⟩
  case round =>
    clear HE
    obtain ⟨k, s, n, t, hk, rfl, rfl, rfl, ht0, ht1, hS, hT, hI, hbel⟩ := hrel
    by_cases hlt : k < zs.length
    · obtain ⟨b, off, rfl, hbl, c0, c1⟩ := HR.out.cells hbel hlt
      have hz := HZ.out k
      obtain ⟨o, eo⟩ : ∃ o, opAt zs k = o := ⟨_, rfl⟩
      rw [eo] at c0 c1 hz
      obtain ⟨what, gap⟩ := o
      simp only at c0 c1 hz
      obtain ⟨hz1, hz2, hz3⟩ := hz
      clear eo
      have hk0 := step_at s what (t + gap) m
      have hI' := step_inv (hI.later (t' := t + gap) (by omega)) (by omega) what
      have hl' := step_len s what (t + gap) m
      obtain ⟨F, hF⟩ : ∃ F, stepF s what (t + gap) m = F := ⟨_, rfl⟩
      rw [hF] at hk0 hI' hl'
      obtain ⟨s', l⟩ := F
      simp only at hk0 hI' hl'
      have hol := fun A c w hr => holds_any n hI.n01 l (by omega) A c w hr
      obtain ⟨n', en⟩ : ∃ n', holdsF n l = n' := ⟨_, rfl⟩
      rw [en] at hol hI'
      clear en
      have hs0 := hS.c0
      have hs1 := hS.c1
      have hs2 := hS.c2
      have hm0 := hT.c0
      have hm1 := hT.c1
      have hm2 := hT.c2
      have hfr := hS.fr
      have hpl := hS.lt
      have hql := hT.lt
      have hpq : w.heap.size ≠ p := hS.ne hT
      have hbp : b ≠ p := by omega
      have hbwr : b < wr.heap.size := Nat.lt_of_lt_of_le hbl hbel.size
      have HH := Lib.hid (And.intro hS (And.intro hT (And.intro hI' (And.intro hbel (And.intro hI.n01 hl')))))
      clear hF hS hT hI hI' hl'
      go_wp2_with fail
      go_region_with
        (first | (go_at_call 10; refine (hk0 _ (by omega)).mono ?_; rintro e w3 ⟨A3, c3, rfl, hr3, hf3, hb3⟩; have HB := Lib.hid (And.intro hr3 (And.intro hf3 hb3)); clear hf3 hr3; obtain ⟨hc, hf⟩ := bcell hb3; have k0 : w3.cell? ⟨p, 0, none⟩ = some (.int .i64 s.ph) := (hc _ _ hpl).trans hs0; have k1 : w3.cell? ⟨p, 1, none⟩ = some (.int .i64 s.du) := (hc _ _ hpl).trans hs1; have k2 : w3.cell? ⟨p, 2, none⟩ = some (.int .i64 s.tr) := (hc _ _ hpl).trans hs2; have k3 : w3.frozen? ⟨p, 0, none⟩ = false := (hf _ _ hpl).trans (hfr 0); have k4 : w3.frozen? ⟨p, 1, none⟩ = false := (hf _ _ hpl).trans (hfr 1); have k5 : w3.frozen? ⟨p, 2, none⟩ = false := (hf _ _ hpl).trans (hfr 2)))
      all_goals
        go_wp2_with fail
        have hst := stored (w := w) (B := w.heap.size) (w0 := wr.drew) (w1 := w3) (s' := s') HH.out.1 HH.out.2.1 HB.out.1 HB.out.2.1 HB.out.2.2 HH.out.2.2.2.1.drew HH.out.2.2.2.1.size hpw
        obtain ⟨W5, hW5⟩ : ∃ W5, (((w3.setCell ⟨p, 0, none⟩ (.int .i64 s'.ph)).setCell ⟨p, 1, none⟩ (.int .i64 s'.du)).setCell ⟨p, 2, none⟩ (.int .i64 s'.tr)) = W5 := ⟨_, rfl⟩
        rw [hW5] at hst ⊢
        obtain ⟨t1, t2, t3, t4⟩ := hst
        clear hW5 hc hf k0 k1 k2 k3 k4 k5 HB hb3 hs0 hs1 hs2 hm0 hm1 hm2 c0 c1 hfr hpl hql hbwr hbel
        refine (hol _ _ _ t3).mono ?_
        rintro e w6 ⟨rfl, rfl⟩
        have hI5 := HH.out.2.2.1
        have HP := Lib.hid (And.intro t1 (And.intro t2 (And.intro hI5 t4)))
        clear t1 t2 t3 t4 hol hk0 HH hI5
        go_wp2_with fail
        go_roundw
        case rel => exact ⟨k + 1, _, _, _, by omega, by go_num, rfl, rfl, by omega, by omega, HP.out.1, HP.out.2.1, HP.out.2.2.1, HP.out.2.2.2⟩
        case measure => simp [intOf]; omega
    · have ht2 : t ≤ 1152921504606846976 := by omega
      have hs0 := hS.c0
      have hs1 := hS.c1
      have hs2 := hS.c2
      have hm0 := hT.c0
      have hm1 := hT.c1
      have hm2 := hT.c2
      have fin := fun what hw => rea_first hI what hw
      have fin2 := fun what hw => rea_second what t m hw
      cases b with
      | false =>
        have hk0 := fun W => step_at s 4 t m W ⟨ht0, ht2⟩
        have hk1 := fun W => step_at ⟨0, 0, 0⟩ 4 t m W ⟨ht0, ht2⟩
        have q1 := fin 4 (.inl rfl)
        have q2 := fin2 4 (.inl rfl)
        have hl1 := step_len s 4 t m
        have hl2 := step_len ⟨0, 0, 0⟩ 4 t m
        obtain ⟨F, hF⟩ : ∃ F, stepF s 4 t m = F := ⟨_, rfl⟩
        obtain ⟨G, hG⟩ : ∃ G, stepF ⟨0, 0, 0⟩ 4 t m = G := ⟨_, rfl⟩
        rw [hF] at hk0 q1 hl1
        rw [hG] at hk1 q2 hl2
        obtain ⟨s', l⟩ := F
        obtain ⟨s'', l'⟩ := G
        simp only at hk0 q1 hk1 q2 hl1 hl2
        obtain ⟨rfl, q3, q4⟩ := q1
        obtain ⟨rfl, q5⟩ := q2
        have hol := fun A c w hr => holds_any n hI.n01 l (by omega) A c w hr
        have hol2 := fun A c w hr => holds_any 0 ⟨by omega, by omega⟩ l' (by omega) A c w hr
        rw [q3] at hol
        rw [q5] at hol2
        clear hF hG q3 q5 fin fin2
        have HQ := Lib.hid q4
        have HH := Lib.hid (And.intro hS (And.intro hT (And.intro hI hbel)))
        clear hS hT hI hbel q4
        go_wp2_with fail
        clear hlt hk hs0 hs1 hs2 hm0 hm1 hm2
        refine (hk0 _).mono ?_
        rintro e w3 ⟨A3, c3, rfl, hr3, hf3, hb3⟩
        have hT3 := HH.out.2.1.below hb3
        have hS3 := HH.out.1.below hb3
        have hB3 := HH.out.2.2.2.trans (hb3.mono HH.out.2.2.2.size)
        have hT4 : HasT (w3.alloc (.cells #[.int .i64 0, .int .i64 0, .int .i64 0] 27)) w.heap.size m := (Below.heap_alloc w3 _ _ hT3.lt).trans hT3
        have hS4 : HasS (w3.alloc (.cells #[.int .i64 0, .int .i64 0, .int .i64 0] 27)) p s := (Below.heap_alloc w3 _ _ hS3.lt).trans hS3
        have hX4 : HasS (w3.alloc (.cells #[.int .i64 0, .int .i64 0, .int .i64 0] 27)) w3.heap.size ⟨0, 0, 0⟩ := heap_alloc_new _ _
        have hB4 := hB3.alloc hB3.size (.cells #[.int .i64 0, .int .i64 0, .int .i64 0] 27)
        have hR4 : Rd (w3.alloc (.cells #[.int .i64 0, .int .i64 0, .int .i64 0] 27)) A3 l := hr3.below ((Below.refl w3.heap.size w3).alloc (Nat.le_refl _) _) (Nat.le_refl _)
        have hm0 := hT4.c0
        have hm1 := hT4.c1
        have hm2 := hT4.c2
        have hx0 := hX4.c0
        have hx1 := hX4.c1
        have hx2 := hX4.c2
        have HG := Lib.hid (And.intro hS4 (And.intro hT4 (And.intro hX4 (And.intro hR4 hB4))))
        clear hT3 hS3 hB3 hT4 hS4 hX4 hB4 hR4 hr3 hf3 hb3 HH hk0
        go_wp2_with fail
        obtain ⟨x, ex⟩ : ∃ x, w3.heap.size = x := ⟨_, rfl⟩
        obtain ⟨w4, hw4⟩ : ∃ w4, (w3.alloc (.cells #[.int .i64 0, .int .i64 0, .int .i64 0] 27)) = w4 := ⟨_, rfl⟩
        rw [hw4, ex] at HG
        rw [ex]
        rw [hw4]
        clear hw4 hm0 hm1 hm2 hx0 hx1 hx2 ex w3
        refine (hk1 _).mono ?_
        rintro e w5 ⟨A5, c5, rfl, hr5, hf5, hb5⟩
        have hS5 := HG.out.1.below hb5
        have hX5 := HG.out.2.2.1.below hb5
        have hR5 := HG.out.2.2.2.1.below hb5 (Nat.le_refl _)
        have hB5 := HG.out.2.2.2.2.trans (hb5.mono HG.out.2.2.2.2.size)
        have hS6 : HasS (w5.alloc (.cells #[.int .i64 0, .int .i64 0, .int .i64 0] 27)) p s := (Below.heap_alloc w5 _ _ hS5.lt).trans hS5
        have hX6 : HasS (w5.alloc (.cells #[.int .i64 0, .int .i64 0, .int .i64 0] 27)) x ⟨0, 0, 0⟩ := (Below.heap_alloc w5 _ _ hX5.lt).trans hX5
        have hY6 : HasS (w5.alloc (.cells #[.int .i64 0, .int .i64 0, .int .i64 0] 27)) w5.heap.size ⟨0, 0, 0⟩ := heap_alloc_new _ _
        have hB6 := hB5.alloc hB5.size (.cells #[.int .i64 0, .int .i64 0, .int .i64 0] 27)
        have hR6 : Rd (w5.alloc (.cells #[.int .i64 0, .int .i64 0, .int .i64 0] 27)) A3 l := hR5.below ((Below.refl w5.heap.size w5).alloc (Nat.le_refl _) _) (Nat.le_refl _)
        have hQ6 : Rd (w5.alloc (.cells #[.int .i64 0, .int .i64 0, .int .i64 0] 27)) A5 l' := hr5.below ((Below.refl w5.heap.size w5).alloc (Nat.le_refl _) _) (Nat.le_refl _)
        have hx0 := hX6.c0
        have hx1 := hX6.c1
        have hx2 := hX6.c2
        have hy0 := hY6.c0
        have hy1 := hY6.c1
        have hy2 := hY6.c2
        have hs0 := hS6.c0
        have HB := Lib.hid hB6
        have HR6 := Lib.hid hR6
        have HQ6 := Lib.hid hQ6
        clear hr5 hf5 hb5 hS5 hX5 hR5 hB5 hS6 hX6 hY6 hB6 hR6 hQ6 HG hk1
        go_wp2_with fail
        refine (hol _ _ _ HR6.out).mono ?_
        rintro e w7 ⟨rfl, rfl⟩
        go_wp2_with fail
        refine (hol2 _ _ _ HQ6.out).mono ?_
        rintro e w7 ⟨rfl, rfl⟩
        rcases HQ.out with q4 | q4
        · rw [q4] at hs0
          clear q4
          go_wp2_with fail
          go_ret
          exact ⟨by first | rfl | simp, HB.out⟩
        · go_wp2_with fail
          all_goals
            go_ret
            exact ⟨by first | rfl | (simp; omega), HB.out⟩
      | true =>
        have hk0 := fun W => step_at s 5 t m W ⟨ht0, ht2⟩
        have hk1 := fun W => step_at ⟨0, 0, 0⟩ 5 t m W ⟨ht0, ht2⟩
        have q1 := fin 5 (.inr rfl)
        have q2 := fin2 5 (.inr rfl)
        have hl1 := step_len s 5 t m
        have hl2 := step_len ⟨0, 0, 0⟩ 5 t m
        obtain ⟨F, hF⟩ : ∃ F, stepF s 5 t m = F := ⟨_, rfl⟩
        obtain ⟨G, hG⟩ : ∃ G, stepF ⟨0, 0, 0⟩ 5 t m = G := ⟨_, rfl⟩
        rw [hF] at hk0 q1 hl1
        rw [hG] at hk1 q2 hl2
        obtain ⟨s', l⟩ := F
        obtain ⟨s'', l'⟩ := G
        simp only at hk0 q1 hk1 q2 hl1 hl2
        obtain ⟨rfl, q3, q4⟩ := q1
        obtain ⟨rfl, q5⟩ := q2
        have hol := fun A c w hr => holds_any n hI.n01 l (by omega) A c w hr
        have hol2 := fun A c w hr => holds_any 0 ⟨by omega, by omega⟩ l' (by omega) A c w hr
        rw [q3] at hol
        rw [q5] at hol2
        clear hF hG q3 q5 fin fin2
        have HQ := Lib.hid q4
        have HH := Lib.hid (And.intro hS (And.intro hT (And.intro hI hbel)))
        clear hS hT hI hbel q4
        go_wp2_with fail
        clear hlt hk hs0 hs1 hs2 hm0 hm1 hm2
        refine (hk0 _).mono ?_
        rintro e w3 ⟨A3, c3, rfl, hr3, hf3, hb3⟩
        have hT3 := HH.out.2.1.below hb3
        have hS3 := HH.out.1.below hb3
        have hB3 := HH.out.2.2.2.trans (hb3.mono HH.out.2.2.2.size)
        have hT4 : HasT (w3.alloc (.cells #[.int .i64 0, .int .i64 0, .int .i64 0] 27)) w.heap.size m := (Below.heap_alloc w3 _ _ hT3.lt).trans hT3
        have hS4 : HasS (w3.alloc (.cells #[.int .i64 0, .int .i64 0, .int .i64 0] 27)) p s := (Below.heap_alloc w3 _ _ hS3.lt).trans hS3
        have hX4 : HasS (w3.alloc (.cells #[.int .i64 0, .int .i64 0, .int .i64 0] 27)) w3.heap.size ⟨0, 0, 0⟩ := heap_alloc_new _ _
        have hB4 := hB3.alloc hB3.size (.cells #[.int .i64 0, .int .i64 0, .int .i64 0] 27)
        have hR4 : Rd (w3.alloc (.cells #[.int .i64 0, .int .i64 0, .int .i64 0] 27)) A3 l := hr3.below ((Below.refl w3.heap.size w3).alloc (Nat.le_refl _) _) (Nat.le_refl _)
        have hm0 := hT4.c0
        have hm1 := hT4.c1
        have hm2 := hT4.c2
        have hx0 := hX4.c0
        have hx1 := hX4.c1
        have hx2 := hX4.c2
        have HG := Lib.hid (And.intro hS4 (And.intro hT4 (And.intro hX4 (And.intro hR4 hB4))))
        clear hT3 hS3 hB3 hT4 hS4 hX4 hB4 hR4 hr3 hf3 hb3 HH hk0
        go_wp2_with fail
        obtain ⟨x, ex⟩ : ∃ x, w3.heap.size = x := ⟨_, rfl⟩
        obtain ⟨w4, hw4⟩ : ∃ w4, (w3.alloc (.cells #[.int .i64 0, .int .i64 0, .int .i64 0] 27)) = w4 := ⟨_, rfl⟩
        rw [hw4, ex] at HG
        rw [ex]
        rw [hw4]
        clear hw4 hm0 hm1 hm2 hx0 hx1 hx2 ex w3
        refine (hk1 _).mono ?_
        rintro e w5 ⟨A5, c5, rfl, hr5, hf5, hb5⟩
        have hS5 := HG.out.1.below hb5
        have hX5 := HG.out.2.2.1.below hb5
        have hR5 := HG.out.2.2.2.1.below hb5 (Nat.le_refl _)
        have hB5 := HG.out.2.2.2.2.trans (hb5.mono HG.out.2.2.2.2.size)
        have hS6 : HasS (w5.alloc (.cells #[.int .i64 0, .int .i64 0, .int .i64 0] 27)) p s := (Below.heap_alloc w5 _ _ hS5.lt).trans hS5
        have hX6 : HasS (w5.alloc (.cells #[.int .i64 0, .int .i64 0, .int .i64 0] 27)) x ⟨0, 0, 0⟩ := (Below.heap_alloc w5 _ _ hX5.lt).trans hX5
        have hY6 : HasS (w5.alloc (.cells #[.int .i64 0, .int .i64 0, .int .i64 0] 27)) w5.heap.size ⟨0, 0, 0⟩ := heap_alloc_new _ _
        have hB6 := hB5.alloc hB5.size (.cells #[.int .i64 0, .int .i64 0, .int .i64 0] 27)
        have hR6 : Rd (w5.alloc (.cells #[.int .i64 0, .int .i64 0, .int .i64 0] 27)) A3 l := hR5.below ((Below.refl w5.heap.size w5).alloc (Nat.le_refl _) _) (Nat.le_refl _)
        have hQ6 : Rd (w5.alloc (.cells #[.int .i64 0, .int .i64 0, .int .i64 0] 27)) A5 l' := hr5.below ((Below.refl w5.heap.size w5).alloc (Nat.le_refl _) _) (Nat.le_refl _)
        have hx0 := hX6.c0
        have hx1 := hX6.c1
        have hx2 := hX6.c2
        have hy0 := hY6.c0
        have hy1 := hY6.c1
        have hy2 := hY6.c2
        have hs0 := hS6.c0
        have HB := Lib.hid hB6
        have HR6 := Lib.hid hR6
        have HQ6 := Lib.hid hQ6
        clear hr5 hf5 hb5 hS5 hX5 hR5 hB5 hS6 hX6 hY6 hB6 hR6 hQ6 HG hk1
        go_wp2_with fail
        refine (hol _ _ _ HR6.out).mono ?_
        rintro e w7 ⟨rfl, rfl⟩
        go_wp2_with fail
        refine (hol2 _ _ _ HQ6.out).mono ?_
        rintro e w7 ⟨rfl, rfl⟩
        rcases HQ.out with q4 | q4
        · rw [q4] at hs0
          clear q4
          go_wp2_with fail
          go_ret
          exact ⟨by first | rfl | simp, HB.out⟩
        · go_wp2_with fail
          all_goals
            go_ret
            exact ⟨by first | rfl | (simp; omega), HB.out⟩

theorem rea_long (A : Option Addr) (n cap : Nat) (m : Tm) (b : Bool) (w : World) (hn : 100 < n) :
    Calls Try.prog 7 #[.slice A n cap, .agg #[.int .i64 m.a, .int .i64 m.b, .int .i64 m.c], .bool b] w fun e w' => e = .returned (.bool true) ∧ Below w.heap.size w w' := by
  have hB0 : Below w.heap.size w (w.alloc (.cells #[.int .i64 m.a, .int .i64 m.b, .int .i64 m.c] 24)) := (Below.refl _ _).alloc (Nat.le_refl _) _
  have HB := Lib.hid hB0
  clear hB0
  go_enter Try.func7, Try.ntmps7
  go_wp2_with fail
  refine (awake_any _).mono ?_
  rintro e w1 ⟨rfl, b1⟩
  have HB1 := Lib.hid (HB.out.trans (b1.mono HB.out.size))
  clear b1
  go_wp2_with fail
  refine (awake_any _).mono ?_
  rintro e w2 ⟨rfl, b2⟩
  go_wp2_with fail
  go_ret
  exact ⟨rfl, HB1.out.trans (b2.mono HB1.out.size)⟩

end Go.Proofs.Ytjgdbmkddmjaeaa
