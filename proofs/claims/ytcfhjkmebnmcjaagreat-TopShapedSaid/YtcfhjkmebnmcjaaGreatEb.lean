/- The contract of a header's reader, at a header that is right. -/
import Derived.Test.YtcfhjkmebnmcjaaGreatE
import Derived.Laws.Cover3
namespace Go.Proofs.YtcfhjkmebnmcjaaGreat
open Go.RowKit
set_option linter.unusedVariables false
set_option linter.unusedSimpArgs false
attribute [local go_sem] Oper.semAt_some

/-- A port's link. -/
abbrev linkC (g : Nat) : Array Value := #[.int .i64 0, .int .i64 0, .bool false, .pointer (some ⟨g, 0, none⟩), .bool false]

/-- A store of what is there changes no block. -/
theorem below_same {B : Nat} {a w : World} {b o : Nat} {v : Value} {cs : Array Value} {t : TypeId} (h : Below B a w) (hb : w.heap[b]? = some (.cells cs t (0, 0))) (hv : cs.setIfInBounds o v = cs) : Below B a (w.setCell ⟨b, o, none⟩ v) := by
  refine ⟨h.os, h.tape, h.output, by have := h.size; simpa [World.setCell] using this, fun k hk => ?_⟩
  by_cases e : k = b
  · subst e
    rw [heap_set hb, hv, ← hb]
    exact h.block k hk
  · rw [Below.heap_setCell _ _ _ _ e]
    exact h.block k hk

set_option maxRecDepth 100000 in
set_option maxHeartbeats 2000000 in
theorem htake_at (lb g : Nat) (x y r : Int) (hx : 0 ≤ x ∧ x ≤ 255) (hy : 0 ≤ y ∧ y ≤ 255) (hr : eightN [0, 0, x, y] = r) (hrr : bits BinOp.xor IntKind.u8 r r = 0) (w : World) (hl : w.heap[lb]? = some (.cells (linkC g) 67 (0, 0))) :
    Calls Tryz.prog 43 #[.pointer (some ⟨lb, 0, none⟩), .agg #[.int .u8 0, .int .u8 0, .int .u8 x, .int .u8 y, .int .u8 r]] w fun e w' => e = .returned (.tuple #[.agg #[.int .u8 0, .int .u8 0, .int .u8 x, .int .u8 y], .bool true]) ∧ Below w.heap.size w w' := by
  have hlt : lb < w.heap.size := (Array.getElem?_eq_some_iff.1 hl).1
  have hB5 : ((w.alloc (.cells #[.int .u8 0, .int .u8 0, .int .u8 x, .int .u8 y, .int .u8 r] 125)).alloc (.cells #[.int .u8 0, .int .u8 0, .int .u8 0, .int .u8 0] 122)).heap[w.heap.size]? = some (.cells #[.int .u8 0, .int .u8 0, .int .u8 x, .int .u8 y, .int .u8 r] 125 (0, 0)) := (Below.heap_alloc _ _ _ (by simp)).trans (heap_new' _ rfl)
  have hB6 : ((w.alloc (.cells #[.int .u8 0, .int .u8 0, .int .u8 x, .int .u8 y, .int .u8 r] 125)).alloc (.cells #[.int .u8 0, .int .u8 0, .int .u8 0, .int .u8 0] 122)).heap[w.heap.size + 1]? = some (.cells #[.int .u8 0, .int .u8 0, .int .u8 0, .int .u8 0] 122 (0, 0)) := heap_new' _ (by simp)
  have HB0 := Lib.hid (((Below.refl w.heap.size w).alloc (Nat.le_refl _) (.cells #[.int .u8 0, .int .u8 0, .int .u8 x, .int .u8 y, .int .u8 r] 125)).alloc (by simp) (.cells #[.int .u8 0, .int .u8 0, .int .u8 0, .int .u8 0] 122))
  have hS := syn_at w.heap.size 0 [0, 0, x, y] r hr rfl (by intro q hq; simp at hq; omega) hrr _ (by simp; omega) (bytes4 hB5) (by simp)
  have HH := Lib.hid (And.intro hl (And.intro hB5 hB6))
  have HS := Lib.hid hS
  clear hS hr hrr hx hy hl hB5 hB6
  go_enter Tryz.func43, Tryz.ntmps43
  go_wp2_with fail
  refine HS.out.mono ?_
  rintro e w1 ⟨rfl, hb1⟩
  have HB1 := Lib.hid (HB0.out.trans (hb1.mono (by simp; omega)))
  have k0 := (hb1.block lb (by simp; omega)).trans ((Below.heap_alloc _ _ _ (by simp; omega)).trans ((Below.heap_alloc _ _ _ hlt).trans HH.out.1))
  have k1 := (hb1.block w.heap.size (by simp; omega)).trans HH.out.2.1
  have k2 := (hb1.block (w.heap.size + 1) (by simp)).trans HH.out.2.2
  have HK := Lib.hid (And.intro k0 (And.intro k1 k2))
  obtain ⟨l0, l1, l2, l3, l4⟩ := at5 k0
  obtain ⟨c0, c1, c2, c3, c4⟩ := at5 k1
  obtain ⟨d0, d1, d2, d3⟩ := at4 k2
  have lf := fz k0
  have df := fz k2
  have hne : lb ≠ w.heap.size := by omega
  have hne1 : lb ≠ w.heap.size + 1 := by omega
  clear hb1 k0 k1 k2
  have hA := fun W => run_arrayAt (P := Tryz.prog) (w := W) 122 5 4 (some ⟨w.heap.size, 0, none⟩) 4 5 Tryz.underlying122 (by omega)
  go_wp2_with fail
  have HB2 := below_same (o := 2) (v := .bool false) HB1.out HK.out.1 rfl
  have m2 := (Below.heap_setCell w1 ⟨lb, 2, none⟩ (.bool false) (w.heap.size + 1) (fun e => hne1 e.symm)).trans HK.out.2.2
  generalize w1.setCell ⟨lb, 2, none⟩ (.bool false) = w2 at HB2 m2 ⊢
  have R := heap_set (heap_set (heap_set (heap_set m2 0 (.int .u8 0)) 1 (.int .u8 0)) 2 (.int .u8 x)) 3 (.int .u8 y)
  have HB6 := (((HB2.setCell (p := ⟨w.heap.size + 1, 0, none⟩) (by simp) (.int .u8 0)).setCell (p := ⟨w.heap.size + 1, 1, none⟩) (by simp) (.int .u8 0)).setCell (p := ⟨w.heap.size + 1, 2, none⟩) (by simp) (.int .u8 x)).setCell (p := ⟨w.heap.size + 1, 3, none⟩) (by simp) (.int .u8 y)
  generalize (((w2.setCell ⟨w.heap.size + 1, 0, none⟩ (.int .u8 0)).setCell ⟨w.heap.size + 1, 1, none⟩ (.int .u8 0)).setCell ⟨w.heap.size + 1, 2, none⟩ (.int .u8 x)).setCell ⟨w.heap.size + 1, 3, none⟩ (.int .u8 y) = W6 at R HB6 ⊢
  have R' : W6.heap[w.heap.size + 1]? = some (.cells #[.int .u8 0, .int .u8 0, .int .u8 x, .int .u8 y] 122 (0, 0)) := R
  obtain ⟨s0, s1, s2, s3⟩ := at4 R'
  exact bodyPost_ret (v := .tuple #[.agg #[.int .u8 0, .int .u8 0, .int .u8 x, .int .u8 y], .bool true]) (by simp [results, Tryz.results43, go_sem, s0, s1, s2, s3]) rfl ⟨rfl, HB6⟩

end Go.Proofs.YtcfhjkmebnmcjaaGreat
