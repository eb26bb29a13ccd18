/- A number put to a key. -/
import Derived.Test.YtcfhjkmebnmcjaaGreatGc
import Derived.Test.YtcfhjkmebnmcjaaGreatHb
namespace Go.Proofs.YtcfhjkmebnmcjaaGreat
open Go.RowKit
set_option linter.unusedVariables false
set_option linter.unusedSimpArgs false
attribute [local go_sem] Oper.semAt_some

theorem Tb.drewN {W : World} {t o : Nat} {p c : Int} {u : Bool} (h : Tb W t p c o u) (n : Nat) : Tb (W.drewN n) t p c o u := h
theorem Tb.drew {W : World} {t o : Nat} {p c : Int} {u : Bool} (h : Tb W t p c o u) : Tb W.drew t p c o u := h

theorem Kept.of_below {t : Nat} {a w : World} (h : Below a.heap.size a w) : Kept t t a w := ⟨h.os, h.tape, h.output, h.size, fun k hk _ _ => h.block k hk⟩
theorem Kept.set' {t : Nat} {a w : World} (h : Kept t t a w) (o : Nat) (v : Value) : Kept t t a (w.setCell ⟨t, o, none⟩ v) := h.trans (Kept.set (p := t) (m := t) w o v)

theorem Tb.put {W : World} {t o : Nat} {p c : Int} (hk : Ks p c o) (h : Tb W t p c o false) :
    Tb ((((((W.setCell ⟨t, o, none⟩ (.int .i64 p)).setCell ⟨t, o + 1, none⟩ (.int .i64 0)).setCell ⟨t, o + 2, none⟩ (.int .i64 c)).setCell ⟨t, o + 3, none⟩ (.int .i64 0)).setCell ⟨t, o + 4, none⟩ (.bool true)).setCell ⟨t, 640, none⟩ (.int .i64 1)) t p c o true := by
  obtain ⟨cs, h1, h2⟩ := h
  refine ⟨_, heap_set (heap_set (heap_set (heap_set (heap_set (heap_set h1 _ _) _ _) _ _) _ _) _ _) _ _, ?_⟩
  have hs := h2.sz
  have ho : o = 15 ∨ o = 355 := by rcases hk with ⟨_, _, e⟩ | ⟨_, _, e⟩ <;> omega
  rcases ho with rfl | rfl
  all_goals
    refine ⟨by simp [hs], ?_, ?_, ?_, ?_, ?_, ?_, ?_⟩
    all_goals
      simp [Array.getElem?_setIfInBounds, hs]
    have := h2.r
    simpa [hs] using this


set_option maxRecDepth 100000 in
set_option maxHeartbeats 2000000 in
theorem tput_40 (t : Nat) (w : World) (h : Tb w t 0 40 15 false) : Calls Tryz.prog 23 #[.pointer (some ⟨t, 0, none⟩), keyV 0 40, .int .i64 0] w fun e w' => e = .returned (.int .i64 0) ∧ Tb w' t 0 40 15 true ∧ Kept t t w w' := by
  have hlt := h.lt
  have HT := Lib.hid h
  clear h
  have HB0 := Lib.hid ((Below.refl w.heap.size w).alloc (Nat.le_refl _) (.cells #[.int .i64 0, .int .i64 0, .int .i64 40] 35))
  go_enter Tryz.func23, Tryz.ntmps23
  go_wp2_with fail
  refine (kright_at ks40 _).mono ?_
  rintro e w1 ⟨rfl, hb1⟩
  have HB1 := Lib.hid (HB0.out.trans (hb1.mono (by simp)))
  have hk1 := (hb1.block w.heap.size (by simp)).trans (heap_new' w (o := .cells #[.int .i64 0, .int .i64 0, .int .i64 40] 35) rfl)
  have hsz1 : w.heap.size < w1.heap.size := by have := hb1.size; simp at this; omega
  have k0 : w1.cell? ⟨w.heap.size, 0, none⟩ = some (.int .i64 0) := by simp only [World.cell?, hk1]; rfl
  have k1 : w1.cell? ⟨w.heap.size, 1, none⟩ = some (.int .i64 0) := by simp only [World.cell?, hk1]; rfl
  have k2 : w1.cell? ⟨w.heap.size, 2, none⟩ = some (.int .i64 40) := by simp only [World.cell?, hk1]; rfl
  have HK1 := Lib.hid (And.intro hk1 hsz1)
  have hT1 := HT.out.below HB1.out
  clear hb1 hk1 hsz1
  go_wp2_with fail
  refine (tfind_at ks40 t _ hT1).mono ?_
  rintro e w2 ⟨rfl, hb2⟩
  have HB2 := Lib.hid (HB1.out.trans (hb2.mono HB1.out.size))
  have hk2 := (hb2.block w.heap.size HK1.out.2).trans HK1.out.1
  have HT2 := Lib.hid (hT1.below hb2)
  obtain ⟨t0, t1, t2, t3, t4, t5, t6, tf⟩ := HT2.out.at
  simp only [Bool.false_eq_true, if_false] at t0 t2 t5
  have HK2 := Lib.hid hk2
  clear hb2 hT1 k0 k1 k2
  have k0 : w2.cell? ⟨w.heap.size, 0, none⟩ = some (.int .i64 0) := by simp only [World.cell?, hk2]; rfl
  have k1 : w2.cell? ⟨w.heap.size, 1, none⟩ = some (.int .i64 0) := by simp only [World.cell?, hk2]; rfl
  have k2 : w2.cell? ⟨w.heap.size, 2, none⟩ = some (.int .i64 40) := by simp only [World.cell?, hk2]; rfl
  clear hk2
  go_wp2_with fail
  go_quiet (fail)
  go_wp2_with fail
  have HT3 := Lib.hid (HT2.out.drewN nq)
  have HB3 := Lib.hid (below_drewN HB2.out nq)
  have HK3 := Lib.hid (show (w2.drewN nq).heap[w.heap.size]? = _ from HK2.out)
  clear t0 t1 t2 t3 t4 t5 t6 tf k0 k1 k2
  generalize w2.drewN nq = w3 at HT3 HB3 HK3 ⊢
  obtain ⟨t0, t1, t2, t3, t4, t5, t6, tf⟩ := HT3.out.at
  simp only [Bool.false_eq_true, if_false] at t0 t2 t5
  have k0 : w3.cell? ⟨w.heap.size, 0, none⟩ = some (.int .i64 0) := by simp only [World.cell?, HK3.out]; rfl
  have k1 : w3.cell? ⟨w.heap.size, 1, none⟩ = some (.int .i64 0) := by simp only [World.cell?, HK3.out]; rfl
  have k2 : w3.cell? ⟨w.heap.size, 2, none⟩ = some (.int .i64 40) := by simp only [World.cell?, HK3.out]; rfl
  go_still_tail 8, (by kernel_rfl)
  change wpList _ _ _ _ _ w3.drew
  have HT4 := Lib.hid HT3.out.drew
  have HB4 := Lib.hid HB3.out.drew
  clear t0 t1 t2 t3 t4 t5 t6 tf k0 k1 k2 HK3
  generalize w3.drew = w4 at HT4 HB4 ⊢
  obtain ⟨t0, t1, t2, t3, t4, t5, t6, tf⟩ := HT4.out.at
  simp only [Bool.false_eq_true, if_false] at t0 t2 t5
  go_wp2_with fail
  go_ret
  exact ⟨rfl, HT4.out.put ks40, ((((((Kept.of_below HB4.out).set' _ _).set' _ _).set' _ _).set' _ _).set' _ _).set' _ _⟩

set_option maxRecDepth 100000 in
set_option maxHeartbeats 2000000 in
theorem tput_50 (t : Nat) (w : World) (h : Tb w t 1 50 355 false) : Calls Tryz.prog 23 #[.pointer (some ⟨t, 0, none⟩), keyV 1 50, .int .i64 0] w fun e w' => e = .returned (.int .i64 0) ∧ Tb w' t 1 50 355 true ∧ Kept t t w w' := by
  have hlt := h.lt
  have HT := Lib.hid h
  clear h
  have HB0 := Lib.hid ((Below.refl w.heap.size w).alloc (Nat.le_refl _) (.cells #[.int .i64 1, .int .i64 0, .int .i64 50] 35))
  go_enter Tryz.func23, Tryz.ntmps23
  go_wp2_with fail
  refine (kright_at ks50 _).mono ?_
  rintro e w1 ⟨rfl, hb1⟩
  have HB1 := Lib.hid (HB0.out.trans (hb1.mono (by simp)))
  have hk1 := (hb1.block w.heap.size (by simp)).trans (heap_new' w (o := .cells #[.int .i64 1, .int .i64 0, .int .i64 50] 35) rfl)
  have hsz1 : w.heap.size < w1.heap.size := by have := hb1.size; simp at this; omega
  have k0 : w1.cell? ⟨w.heap.size, 0, none⟩ = some (.int .i64 1) := by simp only [World.cell?, hk1]; rfl
  have k1 : w1.cell? ⟨w.heap.size, 1, none⟩ = some (.int .i64 0) := by simp only [World.cell?, hk1]; rfl
  have k2 : w1.cell? ⟨w.heap.size, 2, none⟩ = some (.int .i64 50) := by simp only [World.cell?, hk1]; rfl
  have HK1 := Lib.hid (And.intro hk1 hsz1)
  have hT1 := HT.out.below HB1.out
  clear hb1 hk1 hsz1
  go_wp2_with fail
  refine (tfind_at ks50 t _ hT1).mono ?_
  rintro e w2 ⟨rfl, hb2⟩
  have HB2 := Lib.hid (HB1.out.trans (hb2.mono HB1.out.size))
  have hk2 := (hb2.block w.heap.size HK1.out.2).trans HK1.out.1
  have HT2 := Lib.hid (hT1.below hb2)
  obtain ⟨t0, t1, t2, t3, t4, t5, t6, tf⟩ := HT2.out.at
  simp only [Bool.false_eq_true, if_false] at t0 t2 t5
  have HK2 := Lib.hid hk2
  clear hb2 hT1 k0 k1 k2
  have k0 : w2.cell? ⟨w.heap.size, 0, none⟩ = some (.int .i64 1) := by simp only [World.cell?, hk2]; rfl
  have k1 : w2.cell? ⟨w.heap.size, 1, none⟩ = some (.int .i64 0) := by simp only [World.cell?, hk2]; rfl
  have k2 : w2.cell? ⟨w.heap.size, 2, none⟩ = some (.int .i64 50) := by simp only [World.cell?, hk2]; rfl
  clear hk2
  go_wp2_with fail
  go_quiet (fail)
  go_wp2_with fail
  have HT3 := Lib.hid (HT2.out.drewN nq)
  have HB3 := Lib.hid (below_drewN HB2.out nq)
  have HK3 := Lib.hid (show (w2.drewN nq).heap[w.heap.size]? = _ from HK2.out)
  clear t0 t1 t2 t3 t4 t5 t6 tf k0 k1 k2
  generalize w2.drewN nq = w3 at HT3 HB3 HK3 ⊢
  obtain ⟨t0, t1, t2, t3, t4, t5, t6, tf⟩ := HT3.out.at
  simp only [Bool.false_eq_true, if_false] at t0 t2 t5
  have k0 : w3.cell? ⟨w.heap.size, 0, none⟩ = some (.int .i64 1) := by simp only [World.cell?, HK3.out]; rfl
  have k1 : w3.cell? ⟨w.heap.size, 1, none⟩ = some (.int .i64 0) := by simp only [World.cell?, HK3.out]; rfl
  have k2 : w3.cell? ⟨w.heap.size, 2, none⟩ = some (.int .i64 50) := by simp only [World.cell?, HK3.out]; rfl
  go_still_tail 8, (by kernel_rfl)
  change wpList _ _ _ _ _ w3.drew
  have HT4 := Lib.hid HT3.out.drew
  have HB4 := Lib.hid HB3.out.drew
  clear t0 t1 t2 t3 t4 t5 t6 tf k0 k1 k2 HK3
  generalize w3.drew = w4 at HT4 HB4 ⊢
  obtain ⟨t0, t1, t2, t3, t4, t5, t6, tf⟩ := HT4.out.at
  simp only [Bool.false_eq_true, if_false] at t0 t2 t5
  go_wp2_with fail
  go_ret
  exact ⟨rfl, HT4.out.put ks50, ((((((Kept.of_below HB4.out).set' _ _).set' _ _).set' _ _).set' _ _).set' _ _).set' _ _⟩

end Go.Proofs.YtcfhjkmebnmcjaaGreat
