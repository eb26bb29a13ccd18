/- slices.Grow of nothing, and slices.Concat of two rows of bytes. -/
import Derived.Test.YtcfhjkmebnmcjaaGreatBc
import Derived.Lib.AppendZerosOnto
import Derived.Lib.AppendZeros
import Derived.LoopN
import Derived.Deep.AppendLies
namespace Go.Proofs.YtcfhjkmebnmcjaaGreat
open Go.RowKit
set_option linter.unusedVariables false
set_option linter.unusedSimpArgs false
attribute [local go_sem] Oper.semAt_some

theorem add_block (b o j : Nat) : ((⟨b, o, none⟩ : Addr).add j).block = b := by unfold Addr.add; split <;> rfl

theorem info5 : (Tryz.prog.info? 5).map (fun i => (i.zero, i.size, i.bytes)) = some (some (.int .u8 0), 1, 1) := by kernel_rfl

/-- A new row of bytes, empty, with room. -/
def Grew (w : World) (e : Ending) (w' : World) : Prop := ∃ G, e = .returned (.slice (some ⟨w.heap.size, 0, none⟩) 0 G) ∧ w'.ownsRow w.heap.size 5 1 (.slice (some ⟨w.heap.size, 0, none⟩) 0 G) 0 [] ∧ Below w.heap.size w w'

set_option maxRecDepth 100000 in
set_option maxHeartbeats 2000000 in
theorem grow_at (w : World) : Calls Tryz.prog 93 #[.slice none 0 0, .int .i64 53] w (Grew w) := by
  obtain ⟨i0, hi, hz0, hz1, hz2⟩ := info_parts info5
  have hrz : ∀ ty, (Builtin.append_ #[43, 3] ty #[.slice none 0 0, .int .i64 53]).run Tryz.prog w = _ := fun ty =>
    Lib.run_append_grow_zeros w 43 3 ty 5 i0 (.int .u8 0) .i64 .i64 Tryz.underlying43 Tryz.underlying3 hi hz0 none 0 0 [] (by exact run_firstCells_none ..) 53 (by omega) (by omega) (by omega) (by omega) (by omega) (growslice_fits (by omega) (by omega))
  have hGn : 0 + 53 ≤ grownCap w (0 + 53) 0 5 := grownCap_ge w _ _ _
  have hGm := grownCap_le_maxLen w (0 + 53) 0 5 (by unfold maxLen; omega)
  obtain ⟨G, hG⟩ : ∃ G, G = grownCap w (0 + 53) 0 5 := ⟨_, rfl⟩
  rw [← hG] at hrz hGn hGm
  have hfin : Grew w (.returned (.slice (some ⟨w.heap.size, 0, none⟩) 0 G)) ((w.alloc (.cells (Builtin.zeroCells #[.int .u8 0] 53 ++ Builtin.zeroCells #[.int .u8 0] (G - 53)) 5)).drew) := by
    refine ⟨G, rfl, ⟨by simp, .inr ⟨w.heap.size, G, _, rfl, Nat.le_refl _, heap_alloc_new w _, Nat.zero_le _, hGm, ?_, by simp⟩⟩, ((Below.refl _ _).alloc (Nat.le_refl _) _).drew⟩
    simp [size_zeroCells]
    omega
  have HF := Lib.hid hfin
  have hG63 : G ≤ 9223372036854775807 := by unfold maxLen at hGm; omega
  clear hG hfin hGm
  go_enter Tryz.func93, Tryz.ntmps93
  go_wp2_with (at_builtin; refine Lib.wpList_append_run _ rfl _ _ _ _ rfl _ _ rfl rfl _ _ (hrz _) ?_)
  all_goals
    go_ret
    exact HF.out

set_option maxRecDepth 100000 in
set_option maxHeartbeats 4000000 in
theorem concat_at (ab b1 b2 o2 : Nat) (xs ys : List Value) (hx : xs.length = 5) (hy : ys.length = 48) (hx1 : ∀ u ∈ xs, u.oneCell' = true) (hy1 : ∀ u ∈ ys, u.oneCell' = true) (w : World)
    (ha : ab < w.heap.size) (h1 : b1 < w.heap.size) (h2 : b2 < w.heap.size)
    (c0 : w.cell? ⟨ab, 0, none⟩ = some (.slice (some ⟨b1, 0, none⟩) 5 5)) (c1 : w.cell? ⟨ab, 1, none⟩ = some (.slice (some ⟨b2, o2, none⟩) 48 48))
    (d1 : ∀ j u, xs[j]? = some u → w.cell? ((⟨b1, 0, none⟩ : Addr).add j) = some u) (d2 : ∀ j u, ys[j]? = some u → w.cell? ((⟨b2, o2, none⟩ : Addr).add j) = some u) :
    Calls Tryz.prog 56 #[.slice (some ⟨ab, 0, none⟩) 2 2] w fun e w' => ∃ v, e = .returned v ∧ w'.ownsRow w.heap.size 5 1 v 53 (xs ++ ys) ∧ Below w.heap.size w w' := by
  obtain ⟨i0, hi, hz0, hz1, hz2⟩ := info_parts info5
  have D := Lib.hid (And.intro d1 d2)
  have HX := Lib.hid (And.intro hx1 hy1)
  have C1 := Lib.hid c1
  clear d1 d2 hx1 hy1
  go_enter Tryz.func56, Tryz.ntmps56
  go_wp2_with fail
  refine wp_loop_rounds 3 ?_
  iterate 3
    rw [rounds_succ]
    go_wp2_with fail
  refine (grow_at _).mono ?_
  rintro e w1 ⟨G, rfl, hown, hb1⟩
  have HB1 := Lib.hid hb1
  have g0 := (hb1.cell (p := ⟨ab, 0, none⟩) ha).trans c0
  have g1 := (hb1.cell (p := ⟨ab, 1, none⟩) ha).trans c1
  clear hb1 c0 c1
  go_wp2_with fail
  refine wp_loop_rounds 3 ?_
  rw [rounds_succ]
  go_wp2_with (at_builtin; (refine wpList_append_own _ rfl _ _ 43 rfl w.heap.size 5 i0 (.int .u8 0) 1 1 Tryz.underlying43 hi hz0 hz1 hz2 rfl (by decide) _ 0 [] rfl hown ⟨b1, 0, none⟩ 5 5 xs rfl (by omega) (fun j u hu => (HB1.out.cell (p := (⟨b1, 0, none⟩ : Addr).add j) (by rw [add_block]; exact h1)).trans (D.out.1 j u hu)) HX.out.1 (by unfold maxLen; omega) (by omega) HB1.out.size ?_); intro v2 w2 hown2 hg2 _)
  have HB2 := Lib.hid (HB1.out.grown hg2 HB1.out.size (fun k hk => (hown.lt k hk).1))
  have g2 := (HB2.out.cell (p := ⟨ab, 1, none⟩) ha).trans C1.out
  have HO2 := Lib.hid hown2
  clear hown hown2 hg2 g0 g1
  go_wp2_with fail
  rw [rounds_succ]
  go_wp2_with (at_builtin; (refine wpList_append_own _ rfl _ _ 43 rfl w.heap.size 5 i0 (.int .u8 0) 1 1 Tryz.underlying43 hi hz0 hz1 hz2 rfl (by decide) v2 5 xs rfl HO2.out ⟨b2, o2, none⟩ 48 48 ys rfl (by omega) (fun j u hu => (HB2.out.cell (p := (⟨b2, o2, none⟩ : Addr).add j) (by rw [add_block]; exact h2)).trans (D.out.2 j u hu)) HX.out.2 (by unfold maxLen; omega) (by omega) HB2.out.size ?_); intro v3 w3 hown3 hg3 _)
  have HB3 := Lib.hid (HB2.out.grown hg3 HB2.out.size (fun k hk => (HO2.out.lt k hk).1))
  have HO3 := Lib.hid hown3
  clear hown3 hg3
  go_wp2_with fail
  rw [rounds_succ]
  go_wp2_with fail
  go_ret
  exact ⟨_, rfl, HO3.out, HB3.out⟩

end Go.Proofs.YtcfhjkmebnmcjaaGreat
