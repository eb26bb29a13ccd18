/- A plane's block; its find. -/
import Derived.Test.YtcfhjkmebnmcjaaGreatK
namespace Go.Proofs.YtcfhjkmebnmcjaaGreat
open Go.RowKit
set_option linter.unusedVariables false
set_option linter.unusedSimpArgs false
attribute [local go_sem] Oper.semAt_some

/-- A plane's cells: its node, links, table, ways, calls; the next way; the time; how many passed, and were tagged. -/
abbrev planeC (nb tb wm cm : Nat) (L : Value) (nx now a g : Int) : Array Value :=
  #[.pointer (some ⟨nb, 0, none⟩), L, .pointer (some ⟨tb, 0, none⟩), .map (some wm), .map (some cm), .int .i64 0, .int .i64 0, .int .i64 0, .int .i64 10, .int .i64 nx, .int .i64 now,
    .int .i64 0, .int .i64 0, .int .i64 0, .int .i64 0, .int .i64 0, .int .i64 0, .int .i64 a, .int .i64 g, .int .i64 0]
def Pl (W : World) (p nb tb wm cm : Nat) (L : Value) (nx now a g : Int) : Prop := W.heap[p]? = some (.cells (planeC nb tb wm cm L nx now a g) 58 (0, 0))
section
variable {W : World} {p nb tb wm cm : Nat} {L : Value} {nx now a g : Int} (h : Pl W p nb tb wm cm L nx now a g)
include h
theorem Pl.lt : p < W.heap.size := (Array.getElem?_eq_some_iff.1 h).1
theorem Pl.below {W' : World} (hb : Below W.heap.size W W') : Pl W' p nb tb wm cm L nx now a g := (hb.block p h.lt).trans h
theorem Pl.c0 : W.cell? ⟨p, 0, none⟩ = some (.pointer (some ⟨nb, 0, none⟩)) := by unfold Pl at h; simp [World.cell?, h]
theorem Pl.c1 : W.cell? ⟨p, 1, none⟩ = some L := by unfold Pl at h; simp [World.cell?, h]
theorem Pl.c2 : W.cell? ⟨p, 2, none⟩ = some (.pointer (some ⟨tb, 0, none⟩)) := by unfold Pl at h; simp [World.cell?, h]
theorem Pl.c3 : W.cell? ⟨p, 3, none⟩ = some (.map (some wm)) := by unfold Pl at h; simp [World.cell?, h]
theorem Pl.c8 : W.cell? ⟨p, 8, none⟩ = some (.int .i64 10) := by unfold Pl at h; simp [World.cell?, h]
theorem Pl.c9 : W.cell? ⟨p, 9, none⟩ = some (.int .i64 nx) := by unfold Pl at h; simp [World.cell?, h]
theorem Pl.c10 : W.cell? ⟨p, 10, none⟩ = some (.int .i64 now) := by unfold Pl at h; simp [World.cell?, h]
theorem Pl.c17 : W.cell? ⟨p, 17, none⟩ = some (.int .i64 a) := by unfold Pl at h; simp [World.cell?, h]
theorem Pl.c18 : W.cell? ⟨p, 18, none⟩ = some (.int .i64 g) := by unfold Pl at h; simp [World.cell?, h]
theorem Pl.fr (o : Nat) : W.frozen? ⟨p, o, none⟩ = false := by unfold Pl at h; simp [World.frozen?, h]
theorem Pl.now' (t : Int) : Pl (W.setCell ⟨p, 10, none⟩ (.int .i64 t)) p nb tb wm cm L nx t a g := by unfold Pl at h ⊢; rw [heap_set h]; rfl
theorem Pl.pass' (v : Int) : Pl (W.setCell ⟨p, 17, none⟩ (.int .i64 v)) p nb tb wm cm L nx now v g := by unfold Pl at h ⊢; rw [heap_set h]; rfl
theorem Pl.tag' (v : Int) : Pl (W.setCell ⟨p, 18, none⟩ (.int .i64 v)) p nb tb wm cm L nx now a v := by unfold Pl at h ⊢; rw [heap_set h]; rfl
theorem Pl.next' (v : Int) : Pl (W.setCell ⟨p, 9, none⟩ (.int .i64 v)) p nb tb wm cm L v now a g := by unfold Pl at h ⊢; rw [heap_set h]; rfl
end

/-- The map of ways, and what is found. -/
def Wm (W : World) (wm : Nat) (u : Bool) (wy : Option Addr) : Prop := (u = false ∧ wy = none ∧ W.heap[wm]? = some (.map #[] 0)) ∨ (u = true ∧ W.heap[wm]? = some (one (.pointer wy)))
theorem Wm.lt {W : World} {wm : Nat} {u : Bool} {wy : Option Addr} (h : Wm W wm u wy) : wm < W.heap.size := by
  rcases h with ⟨_, _, h⟩ | ⟨_, h⟩
  · exact (Array.getElem?_eq_some_iff.1 h).1
  · exact (Array.getElem?_eq_some_iff.1 h).1
theorem Wm.below {W W' : World} {wm : Nat} {u : Bool} {wy : Option Addr} (h : Wm W wm u wy) (hb : Below W.heap.size W W') : Wm W' wm u wy := by
  have hl := h.lt
  rcases h with ⟨h1, h2, h⟩ | ⟨h1, h⟩
  · exact .inl ⟨h1, h2, (hb.block wm hl).trans h⟩
  · exact .inr ⟨h1, (hb.block wm hl).trans h⟩
theorem zero69 (w : World) : (zeroValue 69).run Tryz.prog w = .ok (.pointer none) w := by kernel_rfl
theorem Wm.look {W : World} {wm : Nat} {u : Bool} {wy : Option Addr} (h : Wm W wm u wy) : (Instr.lookup 54 (.map (some wm)) (.int .i64 0) false).run Tryz.prog W = .ok (.pointer wy) W := by
  rcases h with ⟨_, rfl, h⟩ | ⟨_, h⟩
  · exact run_lookup_none Tryz.underlying54 Tryz.underlying3 (zero69 W) h
  · exact run_lookup_one Tryz.underlying54 Tryz.underlying3 h

set_option maxRecDepth 100000 in
set_option maxHeartbeats 2000000 in
theorem pfind_at (p nb tb wm cm : Nat) (L : Value) (nx now a g : Int) (u : Bool) (wy : Option Addr) (w : World) (hP : Pl w p nb tb wm cm L nx now a g) (hT : Tb w tb 0 40 15 u) (hM : Wm w wm u wy) :
    Calls Tryz.prog 19 #[.pointer (some ⟨p, 0, none⟩), keyV 0 40] w fun e w' => e = .returned (.tuple #[.pointer wy, .bool u]) ∧ Below w.heap.size w w' := by
  have HB0 := Lib.hid (((Below.refl w.heap.size w).alloc (Nat.le_refl _) (.cells #[.int .i64 0, .int .i64 0, .int .i64 40] 35)).drew)
  have hk := heap_new' w (o := .cells #[.int .i64 0, .int .i64 0, .int .i64 40] 35) rfl
  have hP1 := hP.below HB0.out
  have hT1 := hT.below HB0.out
  have hM1 := hM.below HB0.out
  have HT := Lib.hid (And.intro hT1 (And.intro hP1 hM1))
  have hlt := hP.lt
  have c1 := (hP.below ((Below.refl w.heap.size w).alloc (Nat.le_refl _) (.cells #[.int .i64 0, .int .i64 0, .int .i64 40] 35))).c2
  have k0 : (w.alloc (.cells #[.int .i64 0, .int .i64 0, .int .i64 40] 35)).cell? ⟨w.heap.size, 0, none⟩ = some (.int .i64 0) := by simp only [World.cell?, hk]; rfl
  have k1 : (w.alloc (.cells #[.int .i64 0, .int .i64 0, .int .i64 40] 35)).cell? ⟨w.heap.size, 1, none⟩ = some (.int .i64 0) := by simp only [World.cell?, hk]; rfl
  have k2 : (w.alloc (.cells #[.int .i64 0, .int .i64 0, .int .i64 40] 35)).cell? ⟨w.heap.size, 2, none⟩ = some (.int .i64 40) := by simp only [World.cell?, hk]; rfl
  clear hP hT hM hk hP1 hT1 hM1
  go_enter Tryz.func19, Tryz.ntmps19
  go_wp2_with fail
  have hsz : w.heap.size < (w.alloc (.cells #[.int .i64 0, .int .i64 0, .int .i64 40] 35)).heap.size := by simp
  generalize w.alloc (.cells #[.int .i64 0, .int .i64 0, .int .i64 40] 35) = W at c1 k0 k1 k2 HB0 HT hsz ⊢
  have hnb : p < W.heap.size := by omega
  have HS := Lib.hid (show ∀ X, Below W.heap.size W X → X.cell? ⟨p, 2, none⟩ = some (.pointer (some ⟨tb, 0, none⟩)) ∧ X.cell? ⟨w.heap.size, 0, none⟩ = some (.int .i64 0) ∧ X.cell? ⟨w.heap.size, 1, none⟩ = some (.int .i64 0) ∧ X.cell? ⟨w.heap.size, 2, none⟩ = some (.int .i64 40) from fun X hX =>
    ⟨(hX.cell (p := ⟨p, 2, none⟩) hnb).trans c1, (hX.cell (p := ⟨w.heap.size, 0, none⟩) hsz).trans k0, (hX.cell (p := ⟨w.heap.size, 1, none⟩) hsz).trans k1, (hX.cell (p := ⟨w.heap.size, 2, none⟩) hsz).trans k2⟩)
  have hWd : Gs w W W.drew := ⟨HB0.out, hsz, (Below.refl _ _).drew⟩
  go_region_held3 (fun X => X.cell? ⟨p, 2, none⟩ = some (.pointer (some ⟨tb, 0, none⟩)) ∧ X.cell? ⟨w.heap.size, 0, none⟩ = some (.int .i64 0) ∧ X.cell? ⟨w.heap.size, 1, none⟩ = some (.int .i64 0) ∧ X.cell? ⟨w.heap.size, 2, none⟩ = some (.int .i64 40)) (first | (with_reducible exact ⟨by assumption, by assumption, by assumption, by assumption⟩) | (with_reducible exact HS.out _ (Gs.bel (by assumption))))
    (first | (go_at_call 35; refine (tget_at ks40 tb _ HT.out.1).mono ?_; rintro e w1 ⟨rfl, hb1⟩; have hG1 : Gs w W w1 := Gs.next hWd hb1; obtain ⟨j0, j1, j2, j3⟩ := HS.out _ hG1.bel))
  have hP2 := HT.out.2.1.below hb1
  have hM2 := (HT.out.2.2.below hb1).look
  have d3 := hP2.c3
  have HB1 := Lib.hid hG1.b0
  clear hG1 hb1 j0 j1 j2 j3 c1 k0 k1 k2 hP2
  go_wp2_with fail
  go_ret2
  exact ⟨rfl, HB1.out⟩

end Go.Proofs.YtcfhjkmebnmcjaaGreat
