/- A table's Get. -/
import Derived.Test.YtcfhjkmebnmcjaaGreatG
import Derived.LoopN
import Derived.WalkMore
import Derived.Deep.RegionHeld3
import Derived.Deep.RegionWith
import Derived.StillTailTactics
import Derived.RegionTactic
import Derived.BigRegion
import Derived.Laws.Tables
import Derived.Laws.Rows
namespace Go.Proofs.YtcfhjkmebnmcjaaGreat
open Go.RowKit
set_option linter.unusedVariables false
set_option linter.unusedSimpArgs false
attribute [local go_sem] Oper.semAt_some

theorem at5' {W : World} {g : Nat} {a b c d e : Value} {t : TypeId} (h : W.heap[g]? = some (.cells #[a, b, c, d, e] t (0, 0))) :
    W.cell? ⟨g, 0, none⟩ = some a ∧ W.cell? ⟨g, 1, none⟩ = some b ∧ W.cell? ⟨g, 2, none⟩ = some c ∧ W.cell? ⟨g, 3, none⟩ = some d ∧ W.cell? ⟨g, 4, none⟩ = some e := by
  refine ⟨?_, ?_, ?_, ?_, ?_⟩ <;> simp [World.cell?, h]
theorem fz' {W : World} {g : Nat} {cs : Array Value} {t : TypeId} (h : W.heap[g]? = some (.cells cs t (0, 0))) (o : Nat) : W.frozen? ⟨g, o, none⟩ = false := by simp [World.frozen?, h]

/-- Where a region stands: W lies above w, X above W. -/
structure Gs (w W X : World) : Prop where
  b0 : Below w.heap.size w X
  lt : w.heap.size < W.heap.size
  bel : Below W.heap.size W X
theorem Gs.set {w W X : World} (h : Gs w W X) (o : Nat) (v : Value) : Gs w W (X.setCell ⟨W.heap.size, o, none⟩ v) := ⟨h.b0.setCell (Nat.le_of_lt h.lt) _, h.lt, h.bel.setCell (Nat.le_refl _) _⟩
theorem Gs.alloc {w W X : World} (h : Gs w W X) (o : Obj) : Gs w W (X.alloc o) := ⟨h.b0.alloc h.b0.size o, h.lt, h.bel.alloc h.bel.size o⟩
theorem Gs.next {w W X Y : World} (h : Gs w W X) (hb : Below X.heap.size X Y) : Gs w W Y := ⟨h.b0.trans (hb.mono h.b0.size), h.lt, h.bel.trans (hb.mono h.bel.size)⟩

set_option maxRecDepth 100000 in
set_option maxHeartbeats 10000000 in
theorem tget_i {p c : Int} {i : Nat} {u : Bool} (hk : Ks p c (i * 5)) (hi : i < 128) (t : Nat) (w : World) (h : Tb w t p c (i * 5) u) : Calls Tryz.prog 35 #[.pointer (some ⟨t, 0, none⟩), keyV p c] w fun e w' => e = .returned (.tuple #[.int .i64 0, .bool u]) ∧ Below w.heap.size w w' := by
  have hlt := h.lt
  have HB0 := Lib.hid ((Below.refl w.heap.size w).alloc (Nat.le_refl _) (.cells #[.int .i64 p, .int .i64 0, .int .i64 c] 35))
  have hkb := heap_new' w (o := (.cells #[.int .i64 p, .int .i64 0, .int .i64 c] 35)) rfl
  have k0 : (w.alloc (.cells #[.int .i64 p, .int .i64 0, .int .i64 c] 35)).cell? ⟨w.heap.size, 0, none⟩ = some (.int .i64 p) := by simp only [World.cell?, hkb]; rfl
  have k1 : (w.alloc (.cells #[.int .i64 p, .int .i64 0, .int .i64 c] 35)).cell? ⟨w.heap.size, 1, none⟩ = some (.int .i64 0) := by simp only [World.cell?, hkb]; rfl
  have k2 : (w.alloc (.cells #[.int .i64 p, .int .i64 0, .int .i64 c] 35)).cell? ⟨w.heap.size, 2, none⟩ = some (.int .i64 c) := by simp only [World.cell?, hkb]; rfl
  have hT1 := h.below HB0.out
  have hfi : ∀ X, Tb X t p c (i * 5) u → Calls Tryz.prog 42 #[.pointer (some ⟨t, 0, none⟩), keyV p c] X fun e w' => e = .returned (.int .i64 (i : Int)) ∧ Below X.heap.size X w' := fun X hX => by
    have := tfind_at hk t X hX
    rwa [Nat.mul_div_cancel _ (by omega : 0 < 5)] at this
  have HF := Lib.hid hfi
  clear hkb h hk hfi
  have hsz : w.heap.size < (w.alloc (.cells #[.int .i64 p, .int .i64 0, .int .i64 c] 35)).heap.size := by simp
  go_enter Tryz.func35, Tryz.ntmps35
  go_wp2_with fail
  generalize w.alloc (.cells #[.int .i64 p, .int .i64 0, .int .i64 c] 35) = W at k0 k1 k2 hT1 HB0 hsz ⊢
  obtain ⟨a0, ea⟩ : ∃ a0 : Int, (if u then p else 0) = a0 := ⟨_, rfl⟩
  obtain ⟨a2, ea2⟩ : ∃ a0 : Int, (if u then c else 0) = a0 := ⟨_, rfl⟩
  have hWd : Gs w W W.drew := ⟨HB0.out.drew, hsz, (Below.refl _ _).drew⟩
  have hWa : Gs w W (W.alloc (.cells #[.int .i64 0, .int .i64 0, .int .i64 0, .int .i64 0, .bool false] 105)).drew := ⟨(HB0.out.alloc (Nat.le_of_lt hsz) _).drew, hsz, ((Below.refl _ _).alloc (Nat.le_refl _) _).drew⟩
  have HQ : Hid (W.heap.size < (W.alloc (.cells #[.int .i64 0, .int .i64 0, .int .i64 0, .int .i64 0, .bool false] 105)).drew.heap.size ∧ (W.alloc (.cells #[.int .i64 0, .int .i64 0, .int .i64 0, .int .i64 0, .bool false] 105)).drew.heap[W.heap.size]? = some (.cells #[.int .i64 0, .int .i64 0, .int .i64 0, .int .i64 0, .bool false] 105 (0, 0))) := ⟨by rw [show (W.alloc (.cells #[.int .i64 0, .int .i64 0, .int .i64 0, .int .i64 0, .bool false] 105)).drew.heap.size = W.heap.size + 1 from World.size_alloc _ _]; omega, heap_new' W rfl⟩
  have HQ2 := Lib.hid (show ∀ Y, Below (W.alloc (.cells #[.int .i64 0, .int .i64 0, .int .i64 0, .int .i64 0, .bool false] 105)).drew.heap.size (W.alloc (.cells #[.int .i64 0, .int .i64 0, .int .i64 0, .int .i64 0, .bool false] 105)).drew Y → Y.cell? ⟨W.heap.size, 0, none⟩ = some (.int .i64 0) ∧ Y.cell? ⟨W.heap.size, 1, none⟩ = some (.int .i64 0) ∧ Y.cell? ⟨W.heap.size, 2, none⟩ = some (.int .i64 0) ∧ Y.cell? ⟨W.heap.size, 3, none⟩ = some (.int .i64 0) ∧ Y.cell? ⟨W.heap.size, 4, none⟩ = some (.bool false) ∧ ∀ o, Y.frozen? ⟨W.heap.size, o, none⟩ = false from fun Y hY => by
    have q := (hY.block W.heap.size HQ.out.1).trans HQ.out.2
    obtain ⟨q0, q1, q2, q3, q4⟩ := at5' q
    exact ⟨q0, q1, q2, q3, q4, fz' q⟩)
  have HS := Lib.hid (show ∀ X, Below W.heap.size W X → X.cell? ⟨t, i * 5, none⟩ = some (.int .i64 a0) ∧ X.cell? ⟨t, i * 5 + 1, none⟩ = some (.int .i64 0) ∧ X.cell? ⟨t, i * 5 + 2, none⟩ = some (.int .i64 a2) ∧ X.cell? ⟨t, i * 5 + 3, none⟩ = some (.int .i64 0) ∧ X.cell? ⟨t, i * 5 + 4, none⟩ = some (.bool u) ∧ X.cell? ⟨w.heap.size, 0, none⟩ = some (.int .i64 p) ∧ X.cell? ⟨w.heap.size, 1, none⟩ = some (.int .i64 0) ∧ X.cell? ⟨w.heap.size, 2, none⟩ = some (.int .i64 c) from fun X hX => by
    have e := (hT1.below hX).at
    rw [ea, ea2] at e
    exact ⟨e.1, e.2.1, e.2.2.1, e.2.2.2.1, e.2.2.2.2.1, (hX.cell (p := ⟨w.heap.size, 0, none⟩) hsz).trans k0, (hX.cell (p := ⟨w.heap.size, 1, none⟩) hsz).trans k1, (hX.cell (p := ⟨w.heap.size, 2, none⟩) hsz).trans k2⟩)
  obtain ⟨t0, t1, t2, t3, t4, _, _, _⟩ := HS.out W (Below.refl _ _)
  have HT1 := Lib.hid hT1
  have hi0 : (0 : Int) ≤ (i : Int) := Int.natCast_nonneg _
  have hi1 : (i : Int) < 128 := by omega
  clear ea ea2 hT1
  go_region_held3 (fun X => X.cell? ⟨t, i * 5, none⟩ = some (.int .i64 a0) ∧ X.cell? ⟨t, i * 5 + 1, none⟩ = some (.int .i64 0) ∧ X.cell? ⟨t, i * 5 + 2, none⟩ = some (.int .i64 a2) ∧ X.cell? ⟨t, i * 5 + 3, none⟩ = some (.int .i64 0) ∧ X.cell? ⟨t, i * 5 + 4, none⟩ = some (.bool u) ∧ X.cell? ⟨w.heap.size, 0, none⟩ = some (.int .i64 p) ∧ X.cell? ⟨w.heap.size, 1, none⟩ = some (.int .i64 0) ∧ X.cell? ⟨w.heap.size, 2, none⟩ = some (.int .i64 c)) (first | (with_reducible exact ⟨by assumption, by assumption, by assumption, by assumption, by assumption, by assumption, by assumption, by assumption⟩) | (with_reducible exact HS.out _ (Gs.bel (by assumption))) | (with_reducible exact HS.out _ (Gs.bel (Gs.alloc (by assumption) _))) | (with_reducible exact HS.out _ (Gs.bel (Gs.set (Gs.set (Gs.set (Gs.set (Gs.set (by assumption) _ _) _ _) _ _) _ _) _ _))))
    (first | (go_at_call 42; refine (HF.out _ (Tb.below HT1.out (by first | (with_reducible exact Gs.bel (by assumption)) | (with_reducible exact Gs.bel (Gs.alloc (by assumption) _))))).mono ?_; rintro e w1 ⟨rfl, hb1⟩; have hG1 : Gs w W w1 := (by first | (with_reducible exact Gs.next hWd hb1) | (with_reducible exact Gs.next hWa hb1)); obtain ⟨j0, j1, j2, j3, j4, j5, j6, j7⟩ := HS.out _ hG1.bel; try (with_reducible have hb3 := HQ2.out w1 hb1; obtain ⟨q0, q1, q2, q3, q4, qf⟩ := hb3)))
  all_goals
    have HG1 := Lib.hid hG1
    clear hG1 hWd hWa j0 j1 j2 j3 j4 j5 j6 j7 hb1 t0 t1 t2 t3 t4 k0 k1 k2
    go_wp2_with fail
    go_quiet (fail)
    go_wp2_with fail
    go_ret2
    first
      | exact ⟨rfl, below_drewN (Gs.alloc HG1.out _).b0 _⟩
      | exact ⟨rfl, below_drewN (Gs.set (Gs.set (Gs.set (Gs.set (Gs.set HG1.out _ _) _ _) _ _) _ _) _ _).b0 _⟩

theorem tget_at {p c : Int} {o : Nat} {u : Bool} (hk : Ks p c o) (t : Nat) (w : World) (h : Tb w t p c o u) : Calls Tryz.prog 35 #[.pointer (some ⟨t, 0, none⟩), keyV p c] w fun e w' => e = .returned (.tuple #[.int .i64 0, .bool u]) ∧ Below w.heap.size w w' := by
  have ho : o = 15 ∨ o = 355 := by rcases hk with ⟨_, _, e⟩ | ⟨_, _, e⟩ <;> omega
  rcases ho with rfl | rfl
  · exact tget_i (i := 3) hk (by omega) t w h
  · exact tget_i (i := 71) hk (by omega) t w h

end Go.Proofs.YtcfhjkmebnmcjaaGreat
