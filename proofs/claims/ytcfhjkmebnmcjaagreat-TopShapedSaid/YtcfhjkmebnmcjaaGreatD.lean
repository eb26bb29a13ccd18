/- The contracts of the header's functions, at the headers that come. -/
import Derived.Test.YtcfhjkmebnmcjaaGreatBb
import Derived.LoopN
import Derived.WalkMore
import Derived.Deep.DeepCutAuto
namespace Go.Proofs.YtcfhjkmebnmcjaaGreat
open Go.RowKit
set_option linter.unusedVariables false
set_option linter.unusedSimpArgs false
attribute [local go_sem] Oper.semAt_some

theorem sizes_any (w : World) : Calls Tryz.prog 67 #[.bool false] w fun e w' => e = .returned (.agg #[.int .i64 4, .int .i64 8, .int .i64 16, .int .i64 3, .int .i64 1]) ∧ Below w.heap.size w w' := by
  go_enter Tryz.func67, Tryz.ntmps67
  go_wp2
  exact bodyPost_ret (v := .agg #[.int .i64 4, .int .i64 8, .int .i64 16, .int .i64 3, .int .i64 1]) (by simp [results, Tryz.results67, go_sem]) rfl ⟨rfl, (Below.refl _ _).alloc (Nat.le_refl _) _⟩

abbrev hdr (vci clp : Int) : Value := .agg #[.int .i64 0, .int .i64 0, .int .i64 vci, .int .i64 0, .int .i64 clp]


theorem idx0 (a b c d e : Int) : ∀ w, (Instr.index 166 (.agg #[.int .i64 a, .int .i64 b, .int .i64 c, .int .i64 d, .int .i64 e]) (.int .i64 0)).run Tryz.prog w = .ok (.int .i64 a) w := fun _ => by kernel_rfl
theorem idx1 (a b c d e : Int) : ∀ w, (Instr.index 166 (.agg #[.int .i64 a, .int .i64 b, .int .i64 c, .int .i64 d, .int .i64 e]) (.int .i64 1)).run Tryz.prog w = .ok (.int .i64 b) w := fun _ => by kernel_rfl
theorem idx2 (a b c d e : Int) : ∀ w, (Instr.index 166 (.agg #[.int .i64 a, .int .i64 b, .int .i64 c, .int .i64 d, .int .i64 e]) (.int .i64 2)).run Tryz.prog w = .ok (.int .i64 c) w := fun _ => by kernel_rfl
theorem idx3 (a b c d e : Int) : ∀ w, (Instr.index 166 (.agg #[.int .i64 a, .int .i64 b, .int .i64 c, .int .i64 d, .int .i64 e]) (.int .i64 3)).run Tryz.prog w = .ok (.int .i64 d) w := fun _ => by kernel_rfl
theorem idx4 (a b c d e : Int) : ∀ w, (Instr.index 166 (.agg #[.int .i64 a, .int .i64 b, .int .i64 c, .int .i64 d, .int .i64 e]) (.int .i64 4)).run Tryz.prog w = .ok (.int .i64 e) w := fun _ => by kernel_rfl

set_option maxRecDepth 100000 in
set_option maxHeartbeats 4000000 in
theorem hright_at (vci clp : Int) (hv : vci = 40 ∨ vci = 50) (hc : clp = 0 ∨ clp = 1) (w : World) : Calls Tryz.prog 91 #[hdr vci clp, .bool false] w fun e w' => e = .returned (.bool true) ∧ Below w.heap.size w w' := by
  have HB0 := Lib.hid ((Below.refl w.heap.size w).alloc (Nat.le_refl _) (.cells #[.int .i64 0, .int .i64 0, .int .i64 vci, .int .i64 0, .int .i64 clp] 85))
  have HV := Lib.hid hv
  have HC := Lib.hid hc
  clear hv hc
  go_enter Tryz.func91, Tryz.ntmps91
  go_wp2_with fail
  go_step3
  go_wp2_with fail
  refine (sizes_any _).mono ?_
  rintro e w1 ⟨rfl, hb1⟩
  have HB1 := Lib.hid (HB0.out.trans (hb1.mono (by simp)))
  have hsz : w.heap.size + 1 ≤ w1.heap.size := by have := hb1.size; simpa using this
  have hlt : w.heap.size < w1.heap.size := hsz
  obtain ⟨hc, hf⟩ := bcell hb1
  clear hb1
  have i0 := idx0
  have i1 := idx1
  have i2 := idx2
  have i3 := idx3
  have i4 := idx4
  go_wp2_with go_step3
  rcases HV.out with rfl | rfl <;> rcases HC.out with rfl | rfl
  all_goals
    refine wp_loop_rounds 6 ?_
    iterate 6
      rw [rounds_succ]
      go_wp2
    rw [Exit.noGoto_ret]
    go_ret
    exact ⟨rfl, HB1.out.alloc (by omega) _⟩

/-- The four bytes of a header. -/
def hb4 (vci clp : Int) : List Int := [0, 0, vci / 16, vci * 16 % 256 + clp]

set_option maxRecDepth 100000 in
set_option maxHeartbeats 4000000 in
theorem hpack_at (vci clp : Int) (hv : vci = 40 ∨ vci = 50) (hc : clp = 0 ∨ clp = 1) (w : World) : Calls Tryz.prog 54 #[hdr vci clp, .bool false] w fun e w' => ∃ b, e = .returned (.tuple #[.slice (some ⟨b, 0, none⟩) 4 4, .int .i64 0]) ∧ w.heap.size ≤ b ∧ w'.heap[b]? = some (.cells ((hb4 vci clp).map (Value.int .u8)).toArray 5 (0, 0)) ∧ Below w.heap.size w w' := by
  have HB0 := Lib.hid ((Below.refl w.heap.size w).alloc (Nat.le_refl _) (.cells #[.int .i64 0, .int .i64 0, .int .i64 vci, .int .i64 0, .int .i64 clp] 85))
  have HV := Lib.hid hv
  have HC := Lib.hid hc
  clear hv hc
  go_enter Tryz.func54, Tryz.ntmps54
  go_wp2_with fail
  refine (hright_at _ _ HV.out HC.out _).mono ?_
  rintro e w1 ⟨rfl, hb1⟩
  have HB1 := Lib.hid (HB0.out.trans (hb1.mono (by simp)))
  have hsz : w.heap.size + 1 ≤ w1.heap.size := by have := hb1.size; simpa using this
  have hlt : w.heap.size < w1.heap.size := hsz
  obtain ⟨hc, hf⟩ := bcell hb1
  clear hb1
  go_wp2_with fail
  refine (sizes_any _).mono ?_
  rintro e w2 ⟨rfl, hb2⟩
  have HB2 := Lib.hid (HB1.out.trans (hb2.mono (by omega)))
  have hsz2 : w1.heap.size ≤ w2.heap.size := hb2.size
  have hlt2 : w.heap.size < w2.heap.size := by omega
  obtain ⟨hc2, hf2⟩ := bcell hb2
  clear hb2
  have hmk : ∀ w, (Instr.makeSlice 43 (.int .i64 4) (.int .i64 4)).run Tryz.prog w = .ok (.slice (some ⟨w.heap.size, 0, none⟩) 4 4) (w.alloc (.cells #[.int .u8 0, .int .u8 0, .int .u8 0, .int .u8 0] 5)) := fun _ => by kernel_rfl
  have b0 : bits BinOp.or IntKind.i64 0 0 = 0 := by decide
  have b1 : bits BinOp.or IntKind.i64 0 40 = 40 := by decide
  have b2 : bits BinOp.or IntKind.i64 0 50 = 50 := by decide
  have b3 : bits BinOp.or IntKind.i64 320 0 = 320 := by decide
  have b4 : bits BinOp.or IntKind.i64 400 0 = 400 := by decide
  have b5 : bits BinOp.or IntKind.i64 640 0 = 640 := by decide
  have b6 : bits BinOp.or IntKind.i64 800 0 = 800 := by decide
  have b7 : bits BinOp.or IntKind.i64 640 1 = 641 := by decide
  have b8 : bits BinOp.or IntKind.i64 800 1 = 801 := by decide
  have i0 := idx0
  have i1 := idx1
  have i2 := idx2
  have i3 := idx3
  have i4 := idx4
  go_wp2_with go_step3
  rcases HV.out with rfl | rfl <;> rcases HC.out with rfl | rfl
  all_goals
    refine wp_loop_rounds 6 ?_
    iterate 6
      rw [rounds_succ]
      go_wp2
    refine wp_loop_rounds 5 ?_
    iterate 5
      rw [rounds_succ]
      go_wp2
    go_ret2
    exact ⟨w2.heap.size + 1, rfl, by omega, heap_new' _ (by simp), (HB2.out.alloc (by omega) _).alloc (by simp; omega) _⟩

end Go.Proofs.YtcfhjkmebnmcjaaGreat
