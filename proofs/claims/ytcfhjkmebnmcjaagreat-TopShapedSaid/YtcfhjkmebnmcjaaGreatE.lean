/- The contracts of a header's seal, and of its reader. -/
import Derived.Test.YtcfhjkmebnmcjaaGreatCc
import Derived.Test.YtcfhjkmebnmcjaaGreatDc
import Derived.RegionTactic
import Derived.BigRegion
import Derived.Deep.RegionLaw
import Derived.Deep.AppendLies
import Derived.Laws.CopyOwn
namespace Go.Proofs.YtcfhjkmebnmcjaaGreat
open Go.RowKit
set_option linter.unusedVariables false
set_option linter.unusedSimpArgs false
attribute [local go_sem] Oper.semAt_some

theorem at4 {W : World} {g : Nat} {a b c d : Value} {t : TypeId} (h : W.heap[g]? = some (.cells #[a, b, c, d] t (0, 0))) :
    W.cell? ⟨g, 0, none⟩ = some a ∧ W.cell? ⟨g, 1, none⟩ = some b ∧ W.cell? ⟨g, 2, none⟩ = some c ∧ W.cell? ⟨g, 3, none⟩ = some d := by
  refine ⟨?_, ?_, ?_, ?_⟩ <;> simp [World.cell?, h]
theorem at5 {W : World} {g : Nat} {a b c d e : Value} {t : TypeId} (h : W.heap[g]? = some (.cells #[a, b, c, d, e] t (0, 0))) :
    W.cell? ⟨g, 0, none⟩ = some a ∧ W.cell? ⟨g, 1, none⟩ = some b ∧ W.cell? ⟨g, 2, none⟩ = some c ∧ W.cell? ⟨g, 3, none⟩ = some d ∧ W.cell? ⟨g, 4, none⟩ = some e := by
  refine ⟨?_, ?_, ?_, ?_, ?_⟩ <;> simp [World.cell?, h]
theorem fz {W : World} {g : Nat} {cs : Array Value} {t : TypeId} (h : W.heap[g]? = some (.cells cs t (0, 0))) (o : Nat) : W.frozen? ⟨g, o, none⟩ = false := by simp [World.frozen?, h]

theorem bytes4 {W : World} {b : Nat} {t : TypeId} {a c d e : Int} {l : List Value} {f : Nat × Nat} (h : W.heap[b]? = some (.cells (.int .u8 a :: .int .u8 c :: .int .u8 d :: .int .u8 e :: l).toArray t f)) : Bytes W b 0 [a, c, d, e] := by
  intro k hk
  have hk' : k = 0 ∨ k = 1 ∨ k = 2 ∨ k = 3 := by simp at hk; omega
  rcases hk' with rfl | rfl | rfl | rfl <;> simp [World.cell?, h]

set_option maxRecDepth 100000 in
set_option maxHeartbeats 2000000 in
theorem seal_at (x y r : Int) (hx : 0 ≤ x ∧ x ≤ 255) (hy : 0 ≤ y ∧ y ≤ 255) (hr : eightN [0, 0, x, y] = r) (w : World) :
    Calls Tryz.prog 55 #[.agg #[.int .u8 0, .int .u8 0, .int .u8 x, .int .u8 y]] w fun e w' => e = .returned (.agg #[.int .u8 0, .int .u8 0, .int .u8 x, .int .u8 y, .int .u8 r]) ∧ Below w.heap.size w w' := by
  have HB0 := Lib.hid (((Below.refl w.heap.size w).alloc (Nat.le_refl _) (.cells #[.int .u8 0, .int .u8 0, .int .u8 x, .int .u8 y] 122)).alloc (by simp) (.cells #[.int .u8 0, .int .u8 0, .int .u8 0, .int .u8 0, .int .u8 0] 125))
  have hE := eight_at w.heap.size 0 4 4 [0, 0, x, y] r hr rfl (by intro q hq; simp at hq; omega) (by omega) ((w.alloc (.cells #[.int .u8 0, .int .u8 0, .int .u8 x, .int .u8 y] 122)).alloc (.cells #[.int .u8 0, .int .u8 0, .int .u8 0, .int .u8 0, .int .u8 0] 125)) (by simp; omega)
    (bytes4 (l := []) ((Below.heap_alloc _ _ _ (by simp)).trans (heap_new' _ rfl)))
  have HE := Lib.hid hE
  clear hr hE hx hy
  go_enter Tryz.func55, Tryz.ntmps55
  go_wp2_with fail
  refine HE.out.mono ?_
  rintro e w1 ⟨rfl, hb1⟩
  have HB1 := Lib.hid (HB0.out.trans (hb1.mono (by simp; omega)))
  have hsz : w.heap.size + 1 + 1 ≤ w1.heap.size := by have := hb1.size; simpa using this
  obtain ⟨hc, hf⟩ := bcell hb1
  have HBB := Lib.hid hb1
  clear hb1
  go_wp2_with fail
  obtain ⟨g, eg⟩ : ∃ g, w1.heap.size = g := ⟨_, rfl⟩
  have hgn : (w1.alloc (.cells #[.int .u8 0, .int .u8 0, .int .u8 0, .int .u8 0, .int .u8 r] 125)).heap[g]? = some (.cells #[.int .u8 0, .int .u8 0, .int .u8 0, .int .u8 0, .int .u8 r] 125 (0, 0)) := heap_new' _ eg
  have hgs : (w1.alloc (.cells #[.int .u8 0, .int .u8 0, .int .u8 0, .int .u8 0, .int .u8 r] 125)).heap[w.heap.size]? = some (.cells #[.int .u8 0, .int .u8 0, .int .u8 x, .int .u8 y] 122 (0, 0)) :=
    (Below.heap_alloc _ _ _ (by omega)).trans (((HBB.out.block _ (by simp; omega))).trans ((Below.heap_alloc _ _ _ (by simp)).trans (heap_new' _ rfl)))
  have hgr : (w1.alloc (.cells #[.int .u8 0, .int .u8 0, .int .u8 0, .int .u8 0, .int .u8 r] 125)).heap[w.heap.size + 1]? = some (.cells #[.int .u8 0, .int .u8 0, .int .u8 0, .int .u8 0, .int .u8 0] 125 (0, 0)) :=
    (Below.heap_alloc _ _ _ (by omega)).trans (((HBB.out.block _ (by simp))).trans (heap_new' _ (by simp)))
  have HB2 := Lib.hid (HB1.out.alloc (by omega) (.cells #[.int .u8 0, .int .u8 0, .int .u8 0, .int .u8 0, .int .u8 r] 125))
  clear hc hf
  generalize w1.alloc (.cells #[.int .u8 0, .int .u8 0, .int .u8 0, .int .u8 0, .int .u8 r] 125) = W2 at hgn hgs hgr HB2 ⊢
  rw [eg]
  have HG := Lib.hid (And.intro hgn (And.intro hgs (And.intro hgr (And.intro eg hsz))))
  clear hgn hgs hgr eg hsz
  go_region_law (refine step_copy_splice rfl (.tmp 7) (.tmp 8) 43 43 rfl 5 Tryz.underlying43 (by kernel_rfl) (some ⟨g, 0, none⟩) (some ⟨w.heap.size, 0, none⟩) 5 5 4 4 rfl rfl g 0 [.int .u8 0, .int .u8 0, .int .u8 0, .int .u8 0, .int .u8 r] 125 HG.out.1 [.int .u8 0, .int .u8 0, .int .u8 x, .int .u8 y] rfl (fun _ => ⟨rfl, _, rfl, World.news_of_block (t := 122) (fr := (0, 0)) (cs := #[.int .u8 0, .int .u8 0, .int .u8 x, .int .u8 y]) HG.out.2.1⟩) (by simp) (by simp [Value.oneCell']) (w.heap.size + 2) W2 (Below.refl _ _).drew (by have := HG.out.2.2.2; omega) ?_; intro w4 hg4 hb4)
  have hg5 : w4.heap[g]? = some (.cells #[.int .u8 0, .int .u8 0, .int .u8 x, .int .u8 y, .int .u8 r] 125 (0, 0)) := hg4.out
  have hr5 : w4.heap[w.heap.size + 1]? = some (.cells #[.int .u8 0, .int .u8 0, .int .u8 0, .int .u8 0, .int .u8 0] 125 (0, 0)) := (hb4.block _ (by omega)).trans HG.out.2.2.1
  have HB4 := Lib.hid (HB2.out.trans (hb4.mono (by omega)))
  obtain ⟨c0, c1, c2, c3, c4⟩ := at5 hg5
  obtain ⟨d0, d1, d2, d3, d4⟩ := at5 hr5
  have df := fz hr5
  have HR5 := Lib.hid hr5
  clear hg5 hr5 hb4
  go_wp2_with fail
  have R := heap_set (heap_set (heap_set (heap_set (heap_set HR5.out 0 (.int .u8 0)) 1 (.int .u8 0)) 2 (.int .u8 x)) 3 (.int .u8 y)) 4 (.int .u8 r)
  have HB6 := ((((HB4.out.setCell (p := ⟨w.heap.size + 1, 0, none⟩) (by simp) (.int .u8 0)).setCell (p := ⟨w.heap.size + 1, 1, none⟩) (by simp) (.int .u8 0)).setCell (p := ⟨w.heap.size + 1, 2, none⟩) (by simp) (.int .u8 x)).setCell (p := ⟨w.heap.size + 1, 3, none⟩) (by simp) (.int .u8 y)).setCell (p := ⟨w.heap.size + 1, 4, none⟩) (by simp) (.int .u8 r)
  generalize ((((w4.setCell ⟨w.heap.size + 1, 0, none⟩ (.int .u8 0)).setCell ⟨w.heap.size + 1, 1, none⟩ (.int .u8 0)).setCell ⟨w.heap.size + 1, 2, none⟩ (.int .u8 x)).setCell ⟨w.heap.size + 1, 3, none⟩ (.int .u8 y)).setCell ⟨w.heap.size + 1, 4, none⟩ (.int .u8 r) = W6 at R HB6 ⊢
  have R' : W6.heap[w.heap.size + 1]? = some (.cells #[.int .u8 0, .int .u8 0, .int .u8 x, .int .u8 y, .int .u8 r] 125 (0, 0)) := R
  obtain ⟨s0, s1, s2, s3, s4⟩ := at5 R'
  exact bodyPost_ret (v := .agg #[.int .u8 0, .int .u8 0, .int .u8 x, .int .u8 y, .int .u8 r]) (by simp [results, Tryz.results55, go_sem, s0, s1, s2, s3, s4]) rfl ⟨rfl, HB6⟩

end Go.Proofs.YtcfhjkmebnmcjaaGreat
