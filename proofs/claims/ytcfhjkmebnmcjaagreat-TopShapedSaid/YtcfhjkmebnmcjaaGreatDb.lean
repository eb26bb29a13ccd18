/- The contract of header.Unpack, at the header that comes. -/
import Derived.Test.YtcfhjkmebnmcjaaGreatD
import Derived.StillTailTactics
import Derived.Deep.RegionWith
namespace Go.Proofs.YtcfhjkmebnmcjaaGreat
open Go.RowKit
set_option linter.unusedVariables false
set_option linter.unusedSimpArgs false
attribute [local go_sem] Oper.semAt_some

theorem idp0 (a b c d e : Nat) : ∀ w, (Instr.index 169 (.agg #[.pointer (some ⟨a, 0, none⟩), .pointer (some ⟨b, 1, none⟩), .pointer (some ⟨c, 2, none⟩), .pointer (some ⟨d, 3, none⟩), .pointer (some ⟨e, 4, none⟩)]) (.int .i64 0)).run Tryz.prog w = .ok (.pointer (some ⟨a, 0, none⟩)) w := fun _ => by kernel_rfl
theorem idp1 (a b c d e : Nat) : ∀ w, (Instr.index 169 (.agg #[.pointer (some ⟨a, 0, none⟩), .pointer (some ⟨b, 1, none⟩), .pointer (some ⟨c, 2, none⟩), .pointer (some ⟨d, 3, none⟩), .pointer (some ⟨e, 4, none⟩)]) (.int .i64 1)).run Tryz.prog w = .ok (.pointer (some ⟨b, 1, none⟩)) w := fun _ => by kernel_rfl
theorem idp2 (a b c d e : Nat) : ∀ w, (Instr.index 169 (.agg #[.pointer (some ⟨a, 0, none⟩), .pointer (some ⟨b, 1, none⟩), .pointer (some ⟨c, 2, none⟩), .pointer (some ⟨d, 3, none⟩), .pointer (some ⟨e, 4, none⟩)]) (.int .i64 2)).run Tryz.prog w = .ok (.pointer (some ⟨c, 2, none⟩)) w := fun _ => by kernel_rfl
theorem idp3 (a b c d e : Nat) : ∀ w, (Instr.index 169 (.agg #[.pointer (some ⟨a, 0, none⟩), .pointer (some ⟨b, 1, none⟩), .pointer (some ⟨c, 2, none⟩), .pointer (some ⟨d, 3, none⟩), .pointer (some ⟨e, 4, none⟩)]) (.int .i64 3)).run Tryz.prog w = .ok (.pointer (some ⟨d, 3, none⟩)) w := fun _ => by kernel_rfl
theorem idp4 (a b c d e : Nat) : ∀ w, (Instr.index 169 (.agg #[.pointer (some ⟨a, 0, none⟩), .pointer (some ⟨b, 1, none⟩), .pointer (some ⟨c, 2, none⟩), .pointer (some ⟨d, 3, none⟩), .pointer (some ⟨e, 4, none⟩)]) (.int .i64 4)).run Tryz.prog w = .ok (.pointer (some ⟨e, 4, none⟩)) w := fun _ => by kernel_rfl

/-- While a header is laid. -/
structure Un (w W : World) (h z : Nat) (v : Int) : Prop where
  hb : W.heap[h]? = some (.cells #[.int .i64 0, .int .i64 0, .int .i64 v, .int .i64 0, .int .i64 0] 85 (0, 0))
  zb : W.heap[z]? = some (.cells #[.int .i64 4, .int .i64 8, .int .i64 16, .int .i64 3, .int .i64 1] 166 (0, 0))
  bel : Below w.heap.size w W
  hw : w.heap.size < h
  ne : h ≠ z
  rb : W.heap[w.heap.size]? = some (.cells #[.int .i64 0, .int .i64 0, .int .i64 0, .int .i64 0, .int .i64 0] 85 (0, 0))
section
variable {w W : World} {h z : Nat} {v : Int} (u : Un w W h z v)
include u
theorem Un.h0 : W.cell? ⟨h, 0, none⟩ = some (.int .i64 0) := by simp [World.cell?, u.hb]
theorem Un.h1 : W.cell? ⟨h, 1, none⟩ = some (.int .i64 0) := by simp [World.cell?, u.hb]
theorem Un.h2 : W.cell? ⟨h, 2, none⟩ = some (.int .i64 v) := by simp [World.cell?, u.hb]
theorem Un.h3 : W.cell? ⟨h, 3, none⟩ = some (.int .i64 0) := by simp [World.cell?, u.hb]
theorem Un.h4 : W.cell? ⟨h, 4, none⟩ = some (.int .i64 0) := by simp [World.cell?, u.hb]
theorem Un.z0 : W.cell? ⟨z, 0, none⟩ = some (.int .i64 4) := by simp [World.cell?, u.zb]
theorem Un.z1 : W.cell? ⟨z, 1, none⟩ = some (.int .i64 8) := by simp [World.cell?, u.zb]
theorem Un.z2 : W.cell? ⟨z, 2, none⟩ = some (.int .i64 16) := by simp [World.cell?, u.zb]
theorem Un.z3 : W.cell? ⟨z, 3, none⟩ = some (.int .i64 3) := by simp [World.cell?, u.zb]
theorem Un.z4 : W.cell? ⟨z, 4, none⟩ = some (.int .i64 1) := by simp [World.cell?, u.zb]
theorem Un.f (o : Nat) : W.frozen? ⟨h, o, none⟩ = false := by simp [World.frozen?, u.hb]
theorem Un.r0 : W.cell? ⟨w.heap.size, 0, none⟩ = some (.int .i64 0) := by simp [World.cell?, u.rb]
theorem Un.r1 : W.cell? ⟨w.heap.size, 1, none⟩ = some (.int .i64 0) := by simp [World.cell?, u.rb]
theorem Un.r2 : W.cell? ⟨w.heap.size, 2, none⟩ = some (.int .i64 0) := by simp [World.cell?, u.rb]
theorem Un.r3 : W.cell? ⟨w.heap.size, 3, none⟩ = some (.int .i64 0) := by simp [World.cell?, u.rb]
theorem Un.r4 : W.cell? ⟨w.heap.size, 4, none⟩ = some (.int .i64 0) := by simp [World.cell?, u.rb]
theorem Un.fr (o : Nat) : W.frozen? ⟨w.heap.size, o, none⟩ = false := by simp [World.frozen?, u.rb]
theorem Un.drew : Un w W.drew h z v := ⟨u.hb, u.zb, u.bel.drew, u.hw, u.ne, u.rb⟩
theorem Un.set0 : Un w (W.setCell ⟨h, 0, none⟩ (.int .i64 0)) h z v := ⟨by rw [heap_set u.hb]; rfl, (Below.heap_setCell _ _ _ _ (fun e => u.ne e.symm)).trans u.zb, u.bel.setCell (Nat.le_of_lt u.hw) _, u.hw, u.ne, (Below.heap_setCell _ _ _ _ (Nat.ne_of_lt u.hw)).trans u.rb⟩
theorem Un.set1 : Un w (W.setCell ⟨h, 1, none⟩ (.int .i64 0)) h z v := ⟨by rw [heap_set u.hb]; rfl, (Below.heap_setCell _ _ _ _ (fun e => u.ne e.symm)).trans u.zb, u.bel.setCell (Nat.le_of_lt u.hw) _, u.hw, u.ne, (Below.heap_setCell _ _ _ _ (Nat.ne_of_lt u.hw)).trans u.rb⟩
theorem Un.set2 : Un w (W.setCell ⟨h, 2, none⟩ (.int .i64 40)) h z 40 := ⟨by rw [heap_set u.hb]; rfl, (Below.heap_setCell _ _ _ _ (fun e => u.ne e.symm)).trans u.zb, u.bel.setCell (Nat.le_of_lt u.hw) _, u.hw, u.ne, (Below.heap_setCell _ _ _ _ (Nat.ne_of_lt u.hw)).trans u.rb⟩
theorem Un.set3 : Un w (W.setCell ⟨h, 3, none⟩ (.int .i64 0)) h z v := ⟨by rw [heap_set u.hb]; rfl, (Below.heap_setCell _ _ _ _ (fun e => u.ne e.symm)).trans u.zb, u.bel.setCell (Nat.le_of_lt u.hw) _, u.hw, u.ne, (Below.heap_setCell _ _ _ _ (Nat.ne_of_lt u.hw)).trans u.rb⟩
theorem Un.set4 : Un w (W.setCell ⟨h, 4, none⟩ (.int .i64 0)) h z v := ⟨by rw [heap_set u.hb]; rfl, (Below.heap_setCell _ _ _ _ (fun e => u.ne e.symm)).trans u.zb, u.bel.setCell (Nat.le_of_lt u.hw) _, u.hw, u.ne, (Below.heap_setCell _ _ _ _ (Nat.ne_of_lt u.hw)).trans u.rb⟩
end

set_option maxRecDepth 100000 in
set_option maxHeartbeats 8000000 in
theorem hunpack_at (b : Nat) (w : World) (hb : b < w.heap.size) (c0 : w.cell? ⟨b, 0, none⟩ = some (.int .u8 0)) (c1 : w.cell? ⟨b, 1, none⟩ = some (.int .u8 0)) (c2 : w.cell? ⟨b, 2, none⟩ = some (.int .u8 2)) (c3 : w.cell? ⟨b, 3, none⟩ = some (.int .u8 128)) :
    Calls Tryz.prog 44 #[.slice (some ⟨b, 0, none⟩) 4 4, .bool false] w fun e w' => e = .returned (.tuple #[hdr 40 0, .int .i64 0]) ∧ Below w.heap.size w w' := by
  have b0 : bits BinOp.or IntKind.i64 0 0 = 0 := by decide
  have b1 : bits BinOp.or IntKind.i64 0 2 = 2 := by decide
  have b2 : bits BinOp.or IntKind.i64 512 128 = 640 := by decide
  have a0 : bits BinOp.and IntKind.i64 0 15 = 0 := by decide
  have a1 : bits BinOp.and IntKind.i64 0 255 = 0 := by decide
  have a2 : bits BinOp.and IntKind.i64 40 65535 = 40 := by decide
  have a3 : bits BinOp.and IntKind.i64 320 7 = 0 := by decide
  have a4 : bits BinOp.and IntKind.i64 640 1 = 0 := by decide
  go_enter Tryz.func44, Tryz.ntmps44
  go_wp2_with fail
  refine wp_loop_rounds 5 ?_
  iterate 5
    rw [rounds_succ]
    go_wp2_with fail
  refine (sizes_any _).mono ?_
  rintro e w1 ⟨rfl, hb1⟩
  have HB1 := Lib.hid (((((Below.refl _ _).alloc (Nat.le_refl _) _).alloc (by simp) _)).trans (hb1.mono (by simp; omega)))
  have hsz : w.heap.size + 1 + 1 ≤ w1.heap.size := by have := hb1.size; simpa using this
  obtain ⟨hc, hf⟩ := bcell hb1
  have HBB := Lib.hid hb1
  clear hb1
  have i0 := idp0
  have i1 := idp1
  have i2 := idp2
  have i3 := idp3
  have i4 := idp4
  go_wp2_with fail
  have HZ : Hid (Un w (w1.alloc (.cells #[.int .i64 4, .int .i64 8, .int .i64 16, .int .i64 3, .int .i64 1] 166)) (w.heap.size + 1) w1.heap.size 0) := by
    have g1 : w1.heap[w.heap.size + 1]? = some (.cells #[.int .i64 0, .int .i64 0, .int .i64 0, .int .i64 0, .int .i64 0] 85 (0, 0)) := (HBB.out.block _ (by simp)).trans (heap_new' _ (by simp))
    have g2 : w1.heap[w.heap.size]? = some (.cells #[.int .i64 0, .int .i64 0, .int .i64 0, .int .i64 0, .int .i64 0] 85 (0, 0)) := (HBB.out.block _ (by simp; omega)).trans ((Below.heap_alloc _ _ _ (by simp)).trans (heap_new' _ rfl))
    exact Lib.hid ⟨(Below.heap_alloc _ _ _ (by omega)).trans g1, heap_new' _ rfl, HB1.out.alloc (by omega) _, by omega, by omega, (Below.heap_alloc _ _ _ (by omega)).trans g2⟩
  obtain ⟨h, eh⟩ : ∃ h, w.heap.size + 1 = h := ⟨_, rfl⟩
  obtain ⟨z, ez⟩ : ∃ z, w1.heap.size = z := ⟨_, rfl⟩
  rw [eh, ez] at HZ
  generalize w1.alloc (.cells #[.int .i64 4, .int .i64 8, .int .i64 16, .int .i64 3, .int .i64 1] 166) = W0 at HZ ⊢
  rw [eh, ez]
  have HE := Lib.hid (And.intro eh ez)
  clear hc hf eh ez
  have HZ0 := HZ
  clear HZ
  refine wp_loop_rounds 6 ?_
  have d0 := HZ0.out.h0
  have d1 := HZ0.out.h1
  have d2 := HZ0.out.h2
  have d3 := HZ0.out.h3
  have d4 := HZ0.out.h4
  have e0 := HZ0.out.z0
  have e1 := HZ0.out.z1
  have e2 := HZ0.out.z2
  have e3 := HZ0.out.z3
  have e4 := HZ0.out.z4
  have ff := HZ0.out.f
  rw [rounds_succ]
  go_wp2_with fail
  refine wp_loop_rounds 5 ?_
  iterate 5
    rw [rounds_succ]
    go_wp2
  go_still_tail 11, (by kernel_rfl)
  change wpList _ _ _ _ _ W0.drew
  have HY0 := Lib.hid HZ0.out.drew
  clear d0 d1 d2 d3 d4 e0 e1 e2 e3 e4 ff
  generalize W0.drew = V0 at HY0 ⊢
  have d0 := HY0.out.h0
  have d1 := HY0.out.h1
  have d2 := HY0.out.h2
  have d3 := HY0.out.h3
  have d4 := HY0.out.h4
  have e0 := HY0.out.z0
  have e1 := HY0.out.z1
  have e2 := HY0.out.z2
  have e3 := HY0.out.z3
  have e4 := HY0.out.z4
  have ff := HY0.out.f
  go_wp2_with fail
  clear d0 d1 d2 d3 d4 e0 e1 e2 e3 e4 ff
  have HZ1 := Lib.hid HY0.out.set0
  generalize V0.setCell ⟨h, 0, none⟩ (.int .i64 0) = W1 at HZ1 ⊢
  have d0 := HZ1.out.h0
  have d1 := HZ1.out.h1
  have d2 := HZ1.out.h2
  have d3 := HZ1.out.h3
  have d4 := HZ1.out.h4
  have e0 := HZ1.out.z0
  have e1 := HZ1.out.z1
  have e2 := HZ1.out.z2
  have e3 := HZ1.out.z3
  have e4 := HZ1.out.z4
  have ff := HZ1.out.f
  rw [rounds_succ]
  go_wp2_with fail
  refine wp_loop_rounds 4 ?_
  iterate 4
    rw [rounds_succ]
    go_wp2
  go_still_tail 11, (by kernel_rfl)
  change wpList _ _ _ _ _ W1.drew
  have HY1 := Lib.hid HZ1.out.drew
  clear d0 d1 d2 d3 d4 e0 e1 e2 e3 e4 ff
  generalize W1.drew = V1 at HY1 ⊢
  have d0 := HY1.out.h0
  have d1 := HY1.out.h1
  have d2 := HY1.out.h2
  have d3 := HY1.out.h3
  have d4 := HY1.out.h4
  have e0 := HY1.out.z0
  have e1 := HY1.out.z1
  have e2 := HY1.out.z2
  have e3 := HY1.out.z3
  have e4 := HY1.out.z4
  have ff := HY1.out.f
  go_wp2_with fail
  clear d0 d1 d2 d3 d4 e0 e1 e2 e3 e4 ff
  have HZ2 := Lib.hid HY1.out.set1
  generalize V1.setCell ⟨h, 1, none⟩ (.int .i64 0) = W2 at HZ2 ⊢
  have d0 := HZ2.out.h0
  have d1 := HZ2.out.h1
  have d2 := HZ2.out.h2
  have d3 := HZ2.out.h3
  have d4 := HZ2.out.h4
  have e0 := HZ2.out.z0
  have e1 := HZ2.out.z1
  have e2 := HZ2.out.z2
  have e3 := HZ2.out.z3
  have e4 := HZ2.out.z4
  have ff := HZ2.out.f
  rw [rounds_succ]
  go_wp2_with fail
  refine wp_loop_rounds 3 ?_
  iterate 3
    rw [rounds_succ]
    go_wp2
  go_still_tail 11, (by kernel_rfl)
  change wpList _ _ _ _ _ W2.drew
  have HY2 := Lib.hid HZ2.out.drew
  clear d0 d1 d2 d3 d4 e0 e1 e2 e3 e4 ff
  generalize W2.drew = V2 at HY2 ⊢
  have d0 := HY2.out.h0
  have d1 := HY2.out.h1
  have d2 := HY2.out.h2
  have d3 := HY2.out.h3
  have d4 := HY2.out.h4
  have e0 := HY2.out.z0
  have e1 := HY2.out.z1
  have e2 := HY2.out.z2
  have e3 := HY2.out.z3
  have e4 := HY2.out.z4
  have ff := HY2.out.f
  go_wp2_with fail
  clear d0 d1 d2 d3 d4 e0 e1 e2 e3 e4 ff
  have HZ3 := Lib.hid HY2.out.set2
  generalize V2.setCell ⟨h, 2, none⟩ (.int .i64 40) = W3 at HZ3 ⊢
  have d0 := HZ3.out.h0
  have d1 := HZ3.out.h1
  have d2 := HZ3.out.h2
  have d3 := HZ3.out.h3
  have d4 := HZ3.out.h4
  have e0 := HZ3.out.z0
  have e1 := HZ3.out.z1
  have e2 := HZ3.out.z2
  have e3 := HZ3.out.z3
  have e4 := HZ3.out.z4
  have ff := HZ3.out.f
  rw [rounds_succ]
  go_wp2_with fail
  refine wp_loop_rounds 2 ?_
  iterate 2
    rw [rounds_succ]
    go_wp2
  go_still_tail 11, (by kernel_rfl)
  change wpList _ _ _ _ _ W3.drew
  have HY3 := Lib.hid HZ3.out.drew
  clear d0 d1 d2 d3 d4 e0 e1 e2 e3 e4 ff
  generalize W3.drew = V3 at HY3 ⊢
  have d0 := HY3.out.h0
  have d1 := HY3.out.h1
  have d2 := HY3.out.h2
  have d3 := HY3.out.h3
  have d4 := HY3.out.h4
  have e0 := HY3.out.z0
  have e1 := HY3.out.z1
  have e2 := HY3.out.z2
  have e3 := HY3.out.z3
  have e4 := HY3.out.z4
  have ff := HY3.out.f
  go_wp2_with fail
  clear d0 d1 d2 d3 d4 e0 e1 e2 e3 e4 ff
  have HZ4 := Lib.hid HY3.out.set3
  generalize V3.setCell ⟨h, 3, none⟩ (.int .i64 0) = W4 at HZ4 ⊢
  have d0 := HZ4.out.h0
  have d1 := HZ4.out.h1
  have d2 := HZ4.out.h2
  have d3 := HZ4.out.h3
  have d4 := HZ4.out.h4
  have e0 := HZ4.out.z0
  have e1 := HZ4.out.z1
  have e2 := HZ4.out.z2
  have e3 := HZ4.out.z3
  have e4 := HZ4.out.z4
  have ff := HZ4.out.f
  rw [rounds_succ]
  go_wp2_with fail
  refine wp_loop_rounds 1 ?_
  iterate 1
    rw [rounds_succ]
    go_wp2
  go_still_tail 11, (by kernel_rfl)
  change wpList _ _ _ _ _ W4.drew
  have HY4 := Lib.hid HZ4.out.drew
  clear d0 d1 d2 d3 d4 e0 e1 e2 e3 e4 ff
  generalize W4.drew = V4 at HY4 ⊢
  have d0 := HY4.out.h0
  have d1 := HY4.out.h1
  have d2 := HY4.out.h2
  have d3 := HY4.out.h3
  have d4 := HY4.out.h4
  have e0 := HY4.out.z0
  have e1 := HY4.out.z1
  have e2 := HY4.out.z2
  have e3 := HY4.out.z3
  have e4 := HY4.out.z4
  have ff := HY4.out.f
  go_wp2_with fail
  clear d0 d1 d2 d3 d4 e0 e1 e2 e3 e4 ff
  have HZ5 := Lib.hid HY4.out.set4
  generalize V4.setCell ⟨h, 4, none⟩ (.int .i64 0) = W5 at HZ5 ⊢
  have d0 := HZ5.out.h0
  have d1 := HZ5.out.h1
  have d2 := HZ5.out.h2
  have d3 := HZ5.out.h3
  have d4 := HZ5.out.h4
  have e0 := HZ5.out.z0
  have e1 := HZ5.out.z1
  have e2 := HZ5.out.z2
  have e3 := HZ5.out.z3
  have e4 := HZ5.out.z4
  have ff := HZ5.out.f
  have q0 := HZ5.out.r0
  have q1 := HZ5.out.r1
  have q2 := HZ5.out.r2
  have q3 := HZ5.out.r3
  have q4 := HZ5.out.r4
  have qf := HZ5.out.fr
  rw [rounds_succ]
  go_wp2_with fail
  have R := heap_set (heap_set (heap_set (heap_set (heap_set HZ5.out.rb 0 (.int .i64 0)) 1 (.int .i64 0)) 2 (.int .i64 40)) 3 (.int .i64 0)) 4 (.int .i64 0)
  have HB6 := ((((HZ5.out.bel.setCell (p := ⟨w.heap.size, 0, none⟩) (Nat.le_refl _) (.int .i64 0)).setCell (p := ⟨w.heap.size, 1, none⟩) (Nat.le_refl _) (.int .i64 0)).setCell (p := ⟨w.heap.size, 2, none⟩) (Nat.le_refl _) (.int .i64 40)).setCell (p := ⟨w.heap.size, 3, none⟩) (Nat.le_refl _) (.int .i64 0)).setCell (p := ⟨w.heap.size, 4, none⟩) (Nat.le_refl _) (.int .i64 0)
  generalize ((((W5.setCell ⟨w.heap.size, 0, none⟩ (.int .i64 0)).setCell ⟨w.heap.size, 1, none⟩ (.int .i64 0)).setCell ⟨w.heap.size, 2, none⟩ (.int .i64 40)).setCell ⟨w.heap.size, 3, none⟩ (.int .i64 0)).setCell ⟨w.heap.size, 4, none⟩ (.int .i64 0) = W6 at R HB6 ⊢
  have R' : W6.heap[w.heap.size]? = some (.cells #[.int .i64 0, .int .i64 0, .int .i64 40, .int .i64 0, .int .i64 0] 85 (0, 0)) := R
  have s0 : W6.cell? ⟨w.heap.size, 0, none⟩ = some (.int .i64 0) := by simp [World.cell?, R']
  have s1 : W6.cell? ⟨w.heap.size, 1, none⟩ = some (.int .i64 0) := by simp [World.cell?, R']
  have s2 : W6.cell? ⟨w.heap.size, 2, none⟩ = some (.int .i64 40) := by simp [World.cell?, R']
  have s3 : W6.cell? ⟨w.heap.size, 3, none⟩ = some (.int .i64 0) := by simp [World.cell?, R']
  have s4 : W6.cell? ⟨w.heap.size, 4, none⟩ = some (.int .i64 0) := by simp [World.cell?, R']
  exact bodyPost_ret (v := .tuple #[hdr 40 0, .int .i64 0]) (by simp [results, Tryz.results44, go_sem, s0, s1, s2, s3, s4]) rfl ⟨rfl, HB6⟩

end Go.Proofs.YtcfhjkmebnmcjaaGreat
