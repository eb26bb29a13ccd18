/- The walk of TopShaped, where the contract is right. -/
import Derived.Test.YtcfhjkmebnmcjaaGreatSb
namespace Go.Proofs.YtcfhjkmebnmcjaaGreat
open Go.RowKit Go.Shelf
set_option linter.unusedVariables false
set_option linter.unusedSimpArgs false
attribute [local go_sem] Oper.semAt_some

set_option maxRecDepth 100000 in
set_option maxHeartbeats 8000000 in
theorem shaped_walk (c : Ct) (hc : c.Ok) (A : Option Addr) (cap : Nat) (zs : List Int) (w : World) (hs : Small zs) (hn : zs.length ≤ 100) (hr : Rd w A zs) :
    Calls Tryz.prog 3 #[c.v, .slice A zs.length cap] w fun e w' => e = .returned (.bool true) ∧ Below w.heap.size w w' := by
  have HB0 := Lib.hid ((Below.refl w.heap.size w).alloc (Nat.le_refl _) (.cells #[.int .i64 c.k, .int .i64 c.p, .int .i64 c.e, .int .i64 c.w, .int .i64 c.b, .int .i64 c.l] 23))
  have hk := heap_new' w (o := .cells #[.int .i64 c.k, .int .i64 c.p, .int .i64 c.e, .int .i64 c.w, .int .i64 c.b, .int .i64 c.l] 23) rfl
  have HK := Lib.hid hk
  have HC := Lib.hid hc
  have HS := Lib.hid hs
  have HR := Lib.hid hr
  clear hk hc hs hr
  go_enter Tryz.func3, Tryz.ntmps3
  go_wp2_with fail
  refine (alive_at _).mono ?_
  rintro e w1 ⟨rfl, b1⟩
  have HB1 := Lib.hid (b1.mono (B' := w.heap.size + 1) (by simp))
  obtain ⟨a0, a1, a2, a3, a4, a5⟩ := at6 ((HB1.out.block w.heap.size (Nat.lt_succ_self _)).trans HK.out)
  clear b1
  go_wp2_with fail
  refine (right_ok HC.out _).mono ?_
  rintro e w2 ⟨rfl, b2⟩
  have HB2 := Lib.hid (HB1.out.trans (b2.mono (by have := HB1.out.size; simpa using this)))
  clear b2 a0 a1 a2 a3 a4 a5
  have hk2 := heap_new' w2 (o := .cells #[.int .i64 1152921504606846976, .int .i64 1152921504606846976] 3) rfl
  have s0 : (w2.alloc (.cells #[.int .i64 1152921504606846976, .int .i64 1152921504606846976] 3)).cell? ⟨w2.heap.size, 0, none⟩ = some (.int .i64 1152921504606846976) := by simp only [World.cell?, hk2]; rfl
  have s1 : (w2.alloc (.cells #[.int .i64 1152921504606846976, .int .i64 1152921504606846976] 3)).cell? ⟨w2.heap.size, 1, none⟩ = some (.int .i64 1152921504606846976) := by simp only [World.cell?, hk2]; rfl
  have HS01 := Lib.hid (And.intro s0 s1)
  clear hk2 s0 s1
  have hz2 : w.heap.size + 1 ≤ w2.heap.size := by have := HB2.out.size; simpa using this
  have HB3 := Lib.hid (HB2.out.alloc hz2 (.cells #[.int .i64 1152921504606846976, .int .i64 1152921504606846976] 3))
  clear hz2
  go_wp2_with fail
  refine (mk_at w2.heap.size 1152921504606846976 _ HS01.out.1 HS01.out.2).mono ?_
  rintro e w4 ⟨q, lg, qcap, p2, m, rfl, hP, hS, hb4⟩
  have hz3 : w.heap.size + 1 ≤ (w2.alloc (.cells #[.int .i64 1152921504606846976, .int .i64 1152921504606846976] 3)).heap.size := by have := HB3.out.size; simpa using this
  have HP := Lib.hid (And.intro hP (And.intro (fun k hk => Nat.le_trans hz3 (hS k hk)) (HB3.out.trans (hb4.mono hz3))))
  clear hP hS hb4 hz3
  obtain ⟨a0, a1, a2, a3, a4, a5⟩ := at6 ((HP.out.2.2.block w.heap.size (Nat.lt_succ_self _)).trans HK.out)
  go_wp2_with fail
  refine (opens_at q lg qcap p2 m 1152921504606846976 c HC.out (fun n h0 h1 _ => by unfold roomOf; omega) (w.heap.size + 1) _ HP.out.1 (by have := HP.out.2.2.size; simpa using this) HP.out.2.1).mono ?_
  rintro e w5 ⟨rfl, q', hqp, hrs, hnd, hSq, hps, hb5⟩
  have hz4 : w.heap.size + 1 ≤ w4.heap.size := by have := HP.out.2.2.size; simpa using this
  have HQ := Lib.hid (And.intro hrs (And.intro hnd (And.intro hSq (And.intro hps (And.intro (HP.out.2.2.trans hb5) (Nat.le_trans hz4 hb5.size))))))
  rw [← hqp]
  clear hrs hnd hSq hps hb5 hqp hz4 a0 a1 a2 a3 a4 a5
  obtain ⟨a0, a1, a2, a3, a4, a5⟩ := at6 ((HQ.out.2.2.2.2.1.block w.heap.size (Nat.lt_succ_self _)).trans HK.out)
  go_wp2_with fail
  all_goals
    refine (mkb_at _ (by constructor <;> omega) HQ.out.1 HQ.out.2.1 HQ.out.2.2.1 HQ.out.2.2.2.1 HQ.out.2.2.2.2.1).mono ?_
    rintro e w6 ⟨sb, s0, rfl, hq, hL⟩
    have HLQ := Lib.hid hq
    have HL := Lib.hid hL
    clear hq hL a0 a1 a2 a3 a4 a5
    go_wp2_with fail
    go_loopw [8, 9, 43] (fun t n i wr => ∃ (k : Nat) (tv nn : Int) (s : Bk) (σ : Nat → Bk), k ≤ zs.length ∧ i = .int .i64 k ∧ t = .int .i64 tv ∧ n = .int .i64 nn ∧ 0 ≤ tv ∧ tv ≤ k * 4294967296 ∧ 0 ≤ nn ∧ nn ≤ k ∧ Lp w wr q' c sb s σ tv nn) (fun _ _ i _ => zs.length - (Go.RowKit.intOf i).toNat)
    case atStart => exact ⟨0, 0, 0, s0, _, Nat.zero_le _, rfl, rfl, rfl, by omega, by omega, by omega, by omega, HL.out⟩
    case round =>
      obtain ⟨k, tv, nn, s, σ, hk, rfl, rfl, rfl, ht0, ht1, hn0, hn1, hLp⟩ := hrel
      by_cases hlt : k < zs.length
      · have hz := HS.out k
        rcases hLp.rd HR.out with hra | ⟨ba, oa, rfl, hla, hca⟩
        · subst hra; simp at hlt
        have hcell := hca k hlt
        obtain ⟨z, ez⟩ : ∃ z, zs[k]?.getD 0 = z := ⟨_, rfl⟩
        rw [ez] at hcell hz
        clear ez hca
        have HT := Lib.hid ((hLp.later (t2 := tv + z) (by omega)).take_at HLQ.out)
        clear hLp
        go_wp2_with fail
        refine HT.out.mono ?_
        rintro e w7 ⟨rfl, hLt⟩
        have hh : 0 ≤ tv + z := by omega
        have hh1 : tv + z ≤ 1152921504606846976 := by omega
        have hh2 : nn ≤ 1000000 := by omega
        have HH := Lib.hid (And.intro hh (And.intro hh1 (And.intro hn0 hh2)))
        clear hcell hla hh hh1 hh2
        rcases Bool.eq_false_or_eq_true (fitB s (tv + z)) with hf | hf
        · rw [hf]
          have HF := Lib.hid (And.intro hf hLt)
          clear hf hLt
          go_wp2_with fail
          refine (bytes_at _).mono ?_
          rintro e w8 ⟨gb, gcap, rfl, hgc, hin, hb8⟩
          have HI := Lib.hid (And.intro hgc (And.intro hin (HF.out.2.below hb8)))
          clear hgc hin hb8
          go_wp2_with fail
          refine (HI.out.2.2.arrive_at HLQ.out HF.out.1 HH.out.1 HH.out.2.1 HH.out.2.2.1 HH.out.2.2.2 HI.out.2.1 HI.out.1).mono ?_
          rintro e w9 ⟨⟨xb, rfl⟩, hL9⟩
          have HL9 := Lib.hid hL9
          clear hL9
          go_wp2_with fail
          go_roundw
          case rel => exact ⟨k + 1, tv + z, nn + 1, _, _, by omega, by go_num, rfl, rfl, by omega, by omega, by omega, by omega, HL9.out⟩
          case measure => simp [Go.RowKit.intOf]; omega
        · rw [hf]
          have HF := Lib.hid (hLt.no hf)
          clear hf hLt
          go_wp2_with fail
          go_roundw
          case rel => exact ⟨k + 1, tv + z, nn, _, _, by omega, by go_num, rfl, rfl, by omega, by omega, by omega, by omega, HF.out⟩
          case measure => simp [Go.RowKit.intOf]; omega
      · have HE := Lib.hid hLp
        clear hLp
        go_wp2_with fail
        obtain ⟨now, n1, n2, n3⟩ := HE.out.ps
        rcases Bool.eq_false_or_eq_true (c.k == 7) with h7 | h7
        · rw [h7] at n3
          simp only [Bool.false_eq_true, if_true, if_false] at n3
          have hk7 : c.k = 7 := by simpa using h7
          refine (counts_at _ n3.pl).mono ?_
          rintro e w10 ⟨rfl, hb10⟩
          have a0 : (w10.alloc (.cells #[.int .i64 0, .int .i64 0, .int .i64 0, .int .i64 0, .int .i64 0, .int .i64 0, .int .i64 0, .int .i64 nn, .int .i64 0] 46)).cell? ⟨w.heap.size, 0, none⟩ = some (.int .i64 7) := by rw [← hk7]; exact ((HE.out.below hb10).below ((Below.refl _ _).alloc (Nat.le_refl _) (.cells #[.int .i64 0, .int .i64 0, .int .i64 0, .int .i64 0, .int .i64 0, .int .i64 0, .int .i64 0, .int .i64 nn, .int .i64 0] 46))).box
          have hkk := heap_new' w10 (o := .cells #[.int .i64 0, .int .i64 0, .int .i64 0, .int .i64 0, .int .i64 0, .int .i64 0, .int .i64 0, .int .i64 nn, .int .i64 0] 46) rfl
          have m6 : (w10.alloc (.cells #[.int .i64 0, .int .i64 0, .int .i64 0, .int .i64 0, .int .i64 0, .int .i64 0, .int .i64 0, .int .i64 nn, .int .i64 0] 46)).cell? ⟨w10.heap.size, 6, none⟩ = some (.int .i64 0) := by simp only [World.cell?, hkk]; rfl
          have m7 : (w10.alloc (.cells #[.int .i64 0, .int .i64 0, .int .i64 0, .int .i64 0, .int .i64 0, .int .i64 0, .int .i64 0, .int .i64 nn, .int .i64 0] 46)).cell? ⟨w10.heap.size, 7, none⟩ = some (.int .i64 nn) := by simp only [World.cell?, hkk]; rfl
          have m8 : (w10.alloc (.cells #[.int .i64 0, .int .i64 0, .int .i64 0, .int .i64 0, .int .i64 0, .int .i64 0, .int .i64 0, .int .i64 nn, .int .i64 0] 46)).cell? ⟨w10.heap.size, 8, none⟩ = some (.int .i64 0) := by simp only [World.cell?, hkk]; rfl
          have HB10 := Lib.hid (((HE.out.bel.trans (hb10.mono HE.out.sz)).mono (B' := w.heap.size) (Nat.le_succ _)).alloc (Nat.le_of_lt (Nat.lt_of_lt_of_le (Nat.lt_of_lt_of_le (Nat.lt_succ_self _) HE.out.sz) hb10.size)) (.cells #[.int .i64 0, .int .i64 0, .int .i64 0, .int .i64 0, .int .i64 0, .int .i64 0, .int .i64 0, .int .i64 nn, .int .i64 0] 46))
          clear n1 n2 n3 hkk hb10
          clear h7
          go_wp2_with fail
          go_ret
          exact ⟨rfl, HB0.out.trans HB10.out⟩
        · rw [h7] at n3
          simp only [Bool.false_eq_true, if_true, if_false] at n3
          have hk7 : ¬ c.k = 7 := by simpa using h7
          refine (counts_at _ n3.pl).mono ?_
          rintro e w10 ⟨rfl, hb10⟩
          have a0 : (w10.alloc (.cells #[.int .i64 0, .int .i64 0, .int .i64 0, .int .i64 0, .int .i64 0, .int .i64 0, .int .i64 nn, .int .i64 0, .int .i64 0] 46)).cell? ⟨w.heap.size, 0, none⟩ = some (.int .i64 c.k) := ((HE.out.below hb10).below ((Below.refl _ _).alloc (Nat.le_refl _) (.cells #[.int .i64 0, .int .i64 0, .int .i64 0, .int .i64 0, .int .i64 0, .int .i64 0, .int .i64 nn, .int .i64 0, .int .i64 0] 46))).box
          have hkk := heap_new' w10 (o := .cells #[.int .i64 0, .int .i64 0, .int .i64 0, .int .i64 0, .int .i64 0, .int .i64 0, .int .i64 nn, .int .i64 0, .int .i64 0] 46) rfl
          have m6 : (w10.alloc (.cells #[.int .i64 0, .int .i64 0, .int .i64 0, .int .i64 0, .int .i64 0, .int .i64 0, .int .i64 nn, .int .i64 0, .int .i64 0] 46)).cell? ⟨w10.heap.size, 6, none⟩ = some (.int .i64 nn) := by simp only [World.cell?, hkk]; rfl
          have m7 : (w10.alloc (.cells #[.int .i64 0, .int .i64 0, .int .i64 0, .int .i64 0, .int .i64 0, .int .i64 0, .int .i64 nn, .int .i64 0, .int .i64 0] 46)).cell? ⟨w10.heap.size, 7, none⟩ = some (.int .i64 0) := by simp only [World.cell?, hkk]; rfl
          have m8 : (w10.alloc (.cells #[.int .i64 0, .int .i64 0, .int .i64 0, .int .i64 0, .int .i64 0, .int .i64 0, .int .i64 nn, .int .i64 0, .int .i64 0] 46)).cell? ⟨w10.heap.size, 8, none⟩ = some (.int .i64 0) := by simp only [World.cell?, hkk]; rfl
          have HB10 := Lib.hid (((HE.out.bel.trans (hb10.mono HE.out.sz)).mono (B' := w.heap.size) (Nat.le_succ _)).alloc (Nat.le_of_lt (Nat.lt_of_lt_of_le (Nat.lt_of_lt_of_le (Nat.lt_succ_self _) HE.out.sz) hb10.size)) (.cells #[.int .i64 0, .int .i64 0, .int .i64 0, .int .i64 0, .int .i64 0, .int .i64 0, .int .i64 nn, .int .i64 0, .int .i64 0] 46))
          clear n1 n2 n3 hkk hb10
          go_wp2_with fail
          go_ret
          exact ⟨rfl, HB0.out.trans HB10.out⟩

end Go.Proofs.YtcfhjkmebnmcjaaGreat
