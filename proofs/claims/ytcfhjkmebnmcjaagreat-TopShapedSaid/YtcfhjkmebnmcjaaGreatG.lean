/- The contracts of a table's functions, at the two keys. -/
import Derived.Test.YtcfhjkmebnmcjaaGreatBb
import Derived.LoopN
import Derived.WalkMore
import Derived.Deep.RegionHeld3
import Derived.Deep.RegionWith
import Derived.StillTailTactics
import Derived.RegionTactic
import Derived.BigRegion
import Derived.Laws.Tables
import Derived.Laws.Rows
namespace Go.Proofs.YtcfhjkmebnmcjaaGreat
open Go.RowKit
set_option linter.unusedVariables false
set_option linter.unusedSimpArgs false
attribute [local go_sem] Oper.semAt_some

abbrev keyV (p c : Int) : Value := .agg #[.int .i64 p, .int .i64 0, .int .i64 c]
/-- The two keys, and where each lies. -/
def Ks (p c : Int) (o : Nat) : Prop := (p = 0 ∧ c = 40 ∧ o = 15) ∨ (p = 1 ∧ c = 50 ∧ o = 355)
theorem ks40 : Ks 0 40 15 := .inl ⟨rfl, rfl, rfl⟩
theorem ks50 : Ks 1 50 355 := .inr ⟨rfl, rfl, rfl⟩

set_option maxRecDepth 100000 in
theorem kright_at {p c : Int} {o : Nat} (h : Ks p c o) (w : World) : Calls Tryz.prog 18 #[keyV p c] w fun e w' => e = .returned (.bool true) ∧ Below w.heap.size w w' := by
  rcases h with ⟨rfl, rfl, rfl⟩ | ⟨rfl, rfl, rfl⟩
  all_goals
    go_enter Tryz.func18, Tryz.ntmps18
    go_wp2
    go_ret
    exact ⟨rfl, (Below.refl _ _).alloc (Nat.le_refl _) _⟩

set_option maxRecDepth 100000 in
theorem home_40 (w : World) : Calls Tryz.prog 63 #[keyV 0 40] w fun e w' => e = .returned (.int .i64 3) ∧ Below w.heap.size w w' := by
  have b1 : bits BinOp.xor IntKind.u32 0 3098215336 = 3098215336 := by decide
  have b2 : bits BinOp.xor IntKind.u32 3098215336 47275 = 3098262275 := by decide
  go_enter Tryz.func63, Tryz.ntmps63
  go_wp2
  go_ret
  exact ⟨rfl, (Below.refl _ _).alloc (Nat.le_refl _) _⟩
set_option maxRecDepth 100000 in
theorem home_50 (w : World) : Calls Tryz.prog 63 #[keyV 1 50] w fun e w' => e = .returned (.int .i64 71) ∧ Below w.heap.size w w' := by
  have b1 : bits BinOp.xor IntKind.u32 268435456 3872769170 = 4141204626 := by decide
  have b2 : bits BinOp.xor IntKind.u32 4141204626 63189 = 4141167175 := by decide
  go_enter Tryz.func63, Tryz.ntmps63
  go_wp2
  go_ret
  exact ⟨rfl, (Below.refl _ _).alloc (Nat.le_refl _) _⟩

/-- A table: with the key, or with none. -/
structure TbC (cs : Array Value) (p c : Int) (o : Nat) (u : Bool) : Prop where
  sz : cs.size = 642
  c0 : cs[o]? = some (.int .i64 (if u then p else 0))
  c1 : cs[o + 1]? = some (.int .i64 0)
  c2 : cs[o + 2]? = some (.int .i64 (if u then c else 0))
  c3 : cs[o + 3]? = some (.int .i64 0)
  c4 : cs[o + 4]? = some (.bool u)
  l : cs[640]? = some (.int .i64 (if u then 1 else 0))
  r : cs[641]? = some (.int .i64 64)
def Tb (W : World) (t : Nat) (p c : Int) (o : Nat) (u : Bool) : Prop := ∃ cs, W.heap[t]? = some (.cells cs 108 (0, 0)) ∧ TbC cs p c o u
theorem Tb.lt {W : World} {t o : Nat} {p c : Int} {u : Bool} (h : Tb W t p c o u) : t < W.heap.size := by obtain ⟨cs, h1, _⟩ := h; exact (Array.getElem?_eq_some_iff.1 h1).1
theorem Tb.at {W : World} {t o : Nat} {p c : Int} {u : Bool} (h : Tb W t p c o u) :
    W.cell? ⟨t, o, none⟩ = some (.int .i64 (if u then p else 0)) ∧ W.cell? ⟨t, o + 1, none⟩ = some (.int .i64 0) ∧ W.cell? ⟨t, o + 2, none⟩ = some (.int .i64 (if u then c else 0)) ∧ W.cell? ⟨t, o + 3, none⟩ = some (.int .i64 0) ∧ W.cell? ⟨t, o + 4, none⟩ = some (.bool u) ∧
    W.cell? ⟨t, 640, none⟩ = some (.int .i64 (if u then 1 else 0)) ∧ W.cell? ⟨t, 641, none⟩ = some (.int .i64 64) ∧ ∀ k, W.frozen? ⟨t, k, none⟩ = false := by
  obtain ⟨cs, h1, h2⟩ := h
  exact ⟨by simp [World.cell?, h1, h2.c0], by simp [World.cell?, h1, h2.c1], by simp [World.cell?, h1, h2.c2], by simp [World.cell?, h1, h2.c3], by simp [World.cell?, h1, h2.c4], by simp [World.cell?, h1, h2.l], by simp [World.cell?, h1, h2.r], fun k => by simp [World.frozen?, h1]⟩
theorem Tb.below {W W' : World} {t o : Nat} {p c : Int} {u : Bool} (h : Tb W t p c o u) (hb : Below W.heap.size W W') : Tb W' t p c o u := by
  have hl := h.lt
  obtain ⟨cs, h1, h2⟩ := h
  exact ⟨cs, (hb.block t hl).trans h1, h2⟩

set_option maxRecDepth 100000 in
set_option maxHeartbeats 2000000 in
theorem tfind_at {p c : Int} {o : Nat} {u : Bool} (hk : Ks p c o) (t : Nat) (w : World) (h : Tb w t p c o u) : Calls Tryz.prog 42 #[.pointer (some ⟨t, 0, none⟩), keyV p c] w fun e w' => e = .returned (.int .i64 ((o / 5 : Nat) : Int)) ∧ Below w.heap.size w w' := by
  have hlt := h.lt
  have HT := Lib.hid h
  clear h
  rcases hk with ⟨rfl, rfl, rfl⟩ | ⟨rfl, rfl, rfl⟩
  · have HB0 := Lib.hid ((Below.refl w.heap.size w).alloc (Nat.le_refl _) (.cells #[.int .i64 0, .int .i64 0, .int .i64 40] 35))
    go_enter Tryz.func42, Tryz.ntmps42
    go_wp2_with fail
    go_step3
    go_wp2_with fail
    refine (home_40 _).mono ?_
    rintro e w1 ⟨rfl, hb1⟩
    have HB1 := Lib.hid (HB0.out.trans (hb1.mono (by simp)))
    have hT1 := HT.out.below (((Below.refl w.heap.size w).alloc (Nat.le_refl _) (.cells #[.int .i64 0, .int .i64 0, .int .i64 40] 35)).trans (hb1.mono (by simp)))
    have hk := (hb1.block w.heap.size (by simp)).trans (heap_new' _ rfl)
    obtain ⟨t0, t1, t2, t3, t4, t5, t6, tf⟩ := hT1.at
    have k0 : w1.cell? ⟨w.heap.size, 0, none⟩ = some (.int .i64 0) := by simp [World.cell?, hk]
    have k1 : w1.cell? ⟨w.heap.size, 1, none⟩ = some (.int .i64 0) := by simp [World.cell?, hk]
    have k2 : w1.cell? ⟨w.heap.size, 2, none⟩ = some (.int .i64 40) := by simp [World.cell?, hk]
    clear hb1 hT1 hk
    go_wp2_with go_step3
    cases u
    · refine wp_loop_rounds 1 ?_
      rw [rounds_succ]
      go_wp2_with go_step3
      rw [Exit.noGoto_ret]
      go_ret
      exact ⟨rfl, HB1.out⟩
    · simp only [if_true] at t0 t2
      refine wp_loop_rounds 1 ?_
      rw [rounds_succ]
      go_wp2_with go_step3
      go_quiet (fail)
      go_wp2_with go_step3
      rw [Exit.noGoto_ret]
      go_ret
      exact ⟨rfl, below_drewN HB1.out _⟩
  · have HB0 := Lib.hid ((Below.refl w.heap.size w).alloc (Nat.le_refl _) (.cells #[.int .i64 1, .int .i64 0, .int .i64 50] 35))
    go_enter Tryz.func42, Tryz.ntmps42
    go_wp2_with fail
    go_step3
    go_wp2_with fail
    refine (home_50 _).mono ?_
    rintro e w1 ⟨rfl, hb1⟩
    have HB1 := Lib.hid (HB0.out.trans (hb1.mono (by simp)))
    have hT1 := HT.out.below (((Below.refl w.heap.size w).alloc (Nat.le_refl _) (.cells #[.int .i64 1, .int .i64 0, .int .i64 50] 35)).trans (hb1.mono (by simp)))
    have hk := (hb1.block w.heap.size (by simp)).trans (heap_new' _ rfl)
    obtain ⟨t0, t1, t2, t3, t4, t5, t6, tf⟩ := hT1.at
    have k0 : w1.cell? ⟨w.heap.size, 0, none⟩ = some (.int .i64 1) := by simp [World.cell?, hk]
    have k1 : w1.cell? ⟨w.heap.size, 1, none⟩ = some (.int .i64 0) := by simp [World.cell?, hk]
    have k2 : w1.cell? ⟨w.heap.size, 2, none⟩ = some (.int .i64 50) := by simp [World.cell?, hk]
    clear hb1 hT1 hk
    go_wp2_with go_step3
    cases u
    · refine wp_loop_rounds 1 ?_
      rw [rounds_succ]
      go_wp2_with go_step3
      rw [Exit.noGoto_ret]
      go_ret
      exact ⟨rfl, HB1.out⟩
    · simp only [if_true] at t0 t2
      refine wp_loop_rounds 1 ?_
      rw [rounds_succ]
      go_wp2_with go_step3
      go_quiet (fail)
      go_wp2_with go_step3
      rw [Exit.noGoto_ret]
      go_ret
      exact ⟨rfl, below_drewN HB1.out _⟩

end Go.Proofs.YtcfhjkmebnmcjaaGreat
