/- The walk of CallPaths. -/
import Derived.Test.YtjgdbmkddmjaeaaHolW
import Derived.Lib.SmallJoins
namespace Go.Proofs.Ytjgdbmkddmjaeaa
open Go.RowKit
set_option linter.unusedVariables false
set_option linter.unusedSimpArgs false
attribute [local go_sem ↓] Go.wp_at_zero Go.wp_at_succ

section
open Go.Deep Go.ChangeShapes Go.WideShapes Go.Joins
variable {H : Type} {enc : TypeId × Value → H} {P : Program} {w : World} {base : Nat} {spare : Nat → Bool} {held : Bool} {t : TypeId}
/-- An array of three one-cell elements, by value, opened. -/
theorem open_arr3 {r : Reach} {b0 : Nat} {e : TypeId} {v : Value} {d : DataW H} {p : List MemPlace} (ht : P.underlying t = some (.array 3 e)) (hC : P.cellsOf t = 3) (hE : P.cellsOf e = 1)
    (hv : Value.okWide P w r b0 t v) (h : DataW.Trod enc P w base spare held t v d p) :
    ∃ (v0 v1 v2 : Value) (y0 y1 y2 : DataW H × List MemPlace) (n : Nat), v = .agg #[v0, v1, v2] ∧
      DataW.trod enc P w base spare held n e [v0] = some y0 ∧ DataW.trod enc P w base spare held n e [v1] = some y1 ∧ DataW.trod enc P w base spare held n e [v2] = some y2 := by
  have hcs : ∃ cs, v = .agg cs ∧ cs.size = P.cellsOf t := by
    simp only [Value.okWide, ht] at hv
    obtain ⟨cs, h1, h2, _⟩ := hv
    exact ⟨cs, h1, h2⟩
  obtain ⟨cs, rfl, hsz⟩ := hcs
  obtain ⟨c0, c1, c2, rfl⟩ := array3 (hsz.trans hC)
  obtain ⟨fuel, hf⟩ := h
  obtain ⟨xs, n, _, _, _, hl, he⟩ := DataW.trod_array ht hf
  match xs, hl with
  | [y0, y1, y2], _ =>
    have h0 := he 0 (by omega)
    have h1 := he 1 (by omega)
    have h2 := he 2 (by omega)
    rw [hE] at h0 h1 h2
    exact ⟨c0, c1, c2, y0, y1, y2, n, rfl, by simpa [Value.cells] using h0, by simpa [Value.cells] using h1, by simpa [Value.cells] using h2⟩
end

theorem kept3 {w0 w1 : World} {p r : Nat} {x y z : Value} (h : r ≠ p) (hb : Below w0.heap.size w0 w1) (hr : r < w0.heap.size) :
    (((w1.setCell ⟨p, 0, none⟩ x).setCell ⟨p, 1, none⟩ y).setCell ⟨p, 2, none⟩ z).heap[r]? = w0.heap[r]? := by
  rw [Below.heap_setCell _ _ _ _ h, Below.heap_setCell _ _ _ _ h, Below.heap_setCell _ _ _ _ h]
  exact hb.block r hr

theorem pat1 (t : Int) (m : Tm) : stepF ⟨0, 0, 0⟩ 1 t m = (⟨1, t + hd m.b, 0⟩, [2, 6]) := by simp [stepF, nullF]
theorem pat2 (d t : Int) (m : Tm) : stepF ⟨1, d, 0⟩ 7 t m = (⟨4, 0, 0⟩, [3]) := by simp [stepF, incomingF]
theorem pat3 (t : Int) (m : Tm) : stepF ⟨0, 0, 0⟩ 6 t m = (⟨2, t + hd m.a, 1⟩, [6, 1]) := by simp [stepF, nullF]
theorem pat4 (d t : Int) (m : Tm) : stepF ⟨2, d, 1⟩ 2 t m = (⟨3, t + hd m.b, 0⟩, []) := by simp [stepF, presentF]
theorem pat5 (d t : Int) (m : Tm) : stepF ⟨2, d, 1⟩ 3 t m = (⟨4, 0, 0⟩, []) := by simp [stepF, presentF]
theorem pat6 (d t : Int) (m : Tm) : stepF ⟨3, d, 0⟩ 3 t m = (⟨4, 0, 0⟩, []) := by simp [stepF, outgoingF]

/-- The gaps in a block. -/
def HasG (w : World) (p : Nat) (g0 g1 g2 : Int) : Prop := w.heap[p]? = some (.cells #[.int .u32 g0, .int .u32 g1, .int .u32 g2] 40 (0, 0))
theorem HasG.c0 {w : World} {p : Nat} {g0 g1 g2 : Int} (h : HasG w p g0 g1 g2) : w.cell? ⟨p, 0, none⟩ = some (.int .u32 g0) := by unfold HasG at h; simp [World.cell?, h]
theorem HasG.c1 {w : World} {p : Nat} {g0 g1 g2 : Int} (h : HasG w p g0 g1 g2) : w.cell? ⟨p, 1, none⟩ = some (.int .u32 g1) := by unfold HasG at h; simp [World.cell?, h]
theorem HasG.c2 {w : World} {p : Nat} {g0 g1 g2 : Int} (h : HasG w p g0 g1 g2) : w.cell? ⟨p, 2, none⟩ = some (.int .u32 g2) := by unfold HasG at h; simp [World.cell?, h]
theorem HasG.lt {w : World} {p : Nat} {g0 g1 g2 : Int} (h : HasG w p g0 g1 g2) : p < w.heap.size := lt_of_block h
theorem HasG.below {w w' : World} {p : Nat} {g0 g1 g2 : Int} (h : HasG w p g0 g1 g2) (hb : Below w.heap.size w w') : HasG w' p g0 g1 g2 := (hb.block p h.lt).trans h

theorem HasS.neG {w : World} {p q : Nat} {s : St} {g0 g1 g2 : Int} (h : HasS w p s) (k : HasG w q g0 g1 g2) : q ≠ p := by
  rintro rfl
  unfold HasS at h; unfold HasG at k
  rw [h] at k
  simp at k

/-- A store of a state into its block, behind a step: what else lies there stays. -/
theorem env_store {w w0 w1 : World} {q : Nat} {sq s' : St} {m : Tm} {g0 g1 g2 : Int} {l : List Int} {A : Option Addr} {B Q G : Nat} (hq : HasS w0 q sq) (hT : HasT w0 Q m) (hG : HasG w0 G g0 g1 g2) (hr : Rd w1 A l) (hf : ∀ g, A = some g → w0.heap.size ≤ g.block)
    (hb : Below w0.heap.size w0 w1) (h0 : Below B w w0) (hB : B ≤ w0.heap.size) (hBq : B ≤ q) :
    HasS (((w1.setCell ⟨q, 0, none⟩ (.int .i64 s'.ph)).setCell ⟨q, 1, none⟩ (.int .i64 s'.du)).setCell ⟨q, 2, none⟩ (.int .i64 s'.tr)) q s' ∧ HasT (((w1.setCell ⟨q, 0, none⟩ (.int .i64 s'.ph)).setCell ⟨q, 1, none⟩ (.int .i64 s'.du)).setCell ⟨q, 2, none⟩ (.int .i64 s'.tr)) Q m ∧
    HasG (((w1.setCell ⟨q, 0, none⟩ (.int .i64 s'.ph)).setCell ⟨q, 1, none⟩ (.int .i64 s'.du)).setCell ⟨q, 2, none⟩ (.int .i64 s'.tr)) G g0 g1 g2 ∧
    Rd (((w1.setCell ⟨q, 0, none⟩ (.int .i64 s'.ph)).setCell ⟨q, 1, none⟩ (.int .i64 s'.du)).setCell ⟨q, 2, none⟩ (.int .i64 s'.tr)) A l ∧ Below B w (((w1.setCell ⟨q, 0, none⟩ (.int .i64 s'.ph)).setCell ⟨q, 1, none⟩ (.int .i64 s'.du)).setCell ⟨q, 2, none⟩ (.int .i64 s'.tr)) := by
  obtain ⟨h1, h2, h3, h4⟩ := stored (s' := s') hq hT hr hf hb h0 hB hBq
  exact ⟨h1, h2, (kept3 (hq.neG hG) hb hG.lt).trans hG, h3, h4⟩

set_option maxHeartbeats 3200000 in
theorem pat_walk (t g0 g1 g2 : Int) (m : Tm) (b : Bool) (w : World) (ht : 0 ≤ t ∧ t ≤ 1099511627776) (h0 : 0 ≤ g0 ∧ g0 ≤ 4294967295) (h1 : 0 ≤ g1 ∧ g1 ≤ 4294967295) (h2 : 0 ≤ g2 ∧ g2 ≤ 4294967295) :
    Calls Try.prog 8 #[.int .i64 t, .agg #[.int .u32 g0, .int .u32 g1, .int .u32 g2], .agg #[.int .i64 m.a, .int .i64 m.b, .int .i64 m.c], .bool b] w fun e w' => e = .returned (.bool true) ∧ Below w.heap.size w w' := by
  obtain ⟨t0, t1⟩ := ht
  obtain ⟨a0, a1⟩ := h0
  obtain ⟨b0, b1⟩ := h1
  obtain ⟨c0, c1⟩ := h2
  have hB0 : Below w.heap.size w ((w.alloc (.cells #[.int .u32 g0, .int .u32 g1, .int .u32 g2] 40)).alloc (.cells #[.int .i64 m.a, .int .i64 m.b, .int .i64 m.c] 24)) := below2 _ _ _
  have hG0 : HasG ((w.alloc (.cells #[.int .u32 g0, .int .u32 g1, .int .u32 g2] 40)).alloc (.cells #[.int .i64 m.a, .int .i64 m.b, .int .i64 m.c] 24)) w.heap.size g0 g1 g2 := (Below.heap_alloc _ _ _ (by simp)).trans (heap_alloc_new w _)
  have hT0 : HasT ((w.alloc (.cells #[.int .u32 g0, .int .u32 g1, .int .u32 g2] 40)).alloc (.cells #[.int .i64 m.a, .int .i64 m.b, .int .i64 m.c] 24)) (w.heap.size + 1) m := by
    have := heap_alloc_new (w.alloc (.cells #[.int .u32 g0, .int .u32 g1, .int .u32 g2] 40)) (.cells #[.int .i64 m.a, .int .i64 m.b, .int .i64 m.c] 24)
    simpa [HasT] using this
  have H0 := Lib.hid (And.intro hG0 (And.intro hT0 hB0))
  clear hG0 hT0 hB0
  have k1 := fun W => step_at ⟨0, 0, 0⟩ 1 t m W ⟨t0, by omega⟩
  rw [pat1] at k1
  simp only at k1
  go_enter Try.func8, Try.ntmps8
  go_wp2_with fail
  refine (awake_any _).mono ?_
  rintro e w1 ⟨rfl, bb1⟩
  have hG1 := H0.out.1.below bb1
  have hT1 := H0.out.2.1.below bb1
  have hB1 := H0.out.2.2.trans (bb1.mono H0.out.2.2.size)
  have m0 := hT1.c0
  have m1 := hT1.c1
  have m2 := hT1.c2
  have H1 := Lib.hid (And.intro hG1 (And.intro hT1 hB1))
  clear hG1 hT1 hB1 bb1 H0
  go_wp2_with fail
  refine (k1 _).mono ?_
  rintro e w2 ⟨A2, l2, rfl, hr2, hf2, hb2⟩
  clear m0 m1 m2 hr2 hf2 k1
  have hG2 := H1.out.1.below hb2
  have hT2 := H1.out.2.1.below hb2
  have hB2 := H1.out.2.2.trans (hb2.mono H1.out.2.2.size)
  have hG3 : HasG (w2.alloc (.cells #[.int .i64 1, .int .i64 (t + hd m.b), .int .i64 0] 27)) w.heap.size g0 g1 g2 := (Below.heap_alloc w2 _ _ hG2.lt).trans hG2
  have hT3 : HasT (w2.alloc (.cells #[.int .i64 1, .int .i64 (t + hd m.b), .int .i64 0] 27)) (w.heap.size + 1) m := (Below.heap_alloc w2 _ _ hT2.lt).trans hT2
  have hS3 : HasS (w2.alloc (.cells #[.int .i64 1, .int .i64 (t + hd m.b), .int .i64 0] 27)) w2.heap.size ⟨1, t + hd m.b, 0⟩ := heap_alloc_new _ _
  have hB3 := hB2.alloc hB2.size (.cells #[.int .i64 1, .int .i64 (t + hd m.b), .int .i64 0] 27)
  have k2 := fun W => step_at ⟨1, t + hd m.b, 0⟩ 7 (t + g0) m W ⟨by omega, by omega⟩
  rw [pat2] at k2
  simp only at k2
  have hgp : w.heap.size ≤ w2.heap.size := hB2.size
  have hs0 := hS3.c0
  have hs1 := hS3.c1
  have hs2 := hS3.c2
  have hm0 := hT3.c0
  have hm1 := hT3.c1
  have hm2 := hT3.c2
  have hg0 := hG3.c0
  have hfr := hS3.fr
  have hpl := hS3.lt
  have HH := Lib.hid (And.intro hS3 (And.intro hT3 (And.intro hG3 hB3)))
  clear hS3 hT3 hG3 hB3 hG2 hT2 hB2 hb2 H1
  go_wp2_with fail
  obtain ⟨p, ep⟩ : ∃ p, w2.heap.size = p := ⟨_, rfl⟩
  rw [ep] at HH hgp
  rw [ep] at hs0 hs1 hs2 hpl hfr
  rw [ep]
  obtain ⟨w3, hw3⟩ : ∃ w3, (w2.alloc (.cells #[.int .i64 1, .int .i64 (t + hd m.b), .int .i64 0] 27)) = w3 := ⟨_, rfl⟩
  rw [hw3] at HH hs0 hs1 hs2 hpl hfr hm0 hm1 hm2 hg0
  rw [hw3]
  clear hw3 ep w2
  refine (k2 _).mono ?_
  rintro e w4 ⟨A4, l4, rfl, hr4, hf4, hb4⟩
  have k0 := (hb4.cell (p := ⟨p, 0, none⟩) hpl).trans hs0
  have k1 := (hb4.cell (p := ⟨p, 1, none⟩) hpl).trans hs1
  have kk2 := (hb4.cell (p := ⟨p, 2, none⟩) hpl).trans hs2
  have k3 := (hb4.frozen (p := ⟨p, 0, none⟩) hpl).trans (hfr 0)
  have k4 := (hb4.frozen (p := ⟨p, 1, none⟩) hpl).trans (hfr 1)
  have k5 := (hb4.frozen (p := ⟨p, 2, none⟩) hpl).trans (hfr 2)
  have hst := env_store (s' := ⟨4, 0, 0⟩) HH.out.1 HH.out.2.1 HH.out.2.2.1 hr4 hf4 hb4 HH.out.2.2.2 HH.out.2.2.2.size hgp
  simp only at hst
  obtain ⟨x1, x2, x3, x4, x5⟩ := hst
  have hm0 := x2.c0
  have hm1 := x2.c1
  have hm2 := x2.c2
  have hX : ∃ c, A4 = some ⟨c, 0, none⟩ ∧ c < (((w4.setCell ⟨p, 0, none⟩ (.int .i64 4)).setCell ⟨p, 1, none⟩ (.int .i64 0)).setCell ⟨p, 2, none⟩ (.int .i64 0)).heap.size ∧ (((w4.setCell ⟨p, 0, none⟩ (.int .i64 4)).setCell ⟨p, 1, none⟩ (.int .i64 0)).setCell ⟨p, 2, none⟩ (.int .i64 0)).cell? ⟨c, 0, none⟩ = some (.int .i64 3) := by
    rcases x4 with x4 | ⟨c, y1, y2, y3⟩
    · simp at x4
    · exact ⟨c, y1, y2, by simpa using y3 0 (by simp)⟩
  obtain ⟨c, rfl, z1, z2⟩ := hX
  have HX := Lib.hid (And.intro x1 (And.intro x2 (And.intro x3 (And.intro z1 (And.intro z2 x5)))))
  clear x1 x2 x3 x4 x5 z1 z2 hs0 hs1 hs2 hfr hpl hr4 hf4 hb4 HH k2
  have k6 := fun W => step_at ⟨0, 0, 0⟩ 6 t m W ⟨t0, by omega⟩
  rw [pat3] at k6
  simp only at k6
  go_wp2_with fail
  clear hm0 hm1 hm2 k0 k1 kk2 k3 k4 k5
  obtain ⟨w5, hw5⟩ : ∃ w5, (((w4.setCell ⟨p, 0, none⟩ (.int .i64 4)).setCell ⟨p, 1, none⟩ (.int .i64 0)).setCell ⟨p, 2, none⟩ (.int .i64 0)) = w5 := ⟨_, rfl⟩
  rw [hw5] at HX
  rw [hw5]
  clear hw5 w4
  refine (k6 _).mono ?_
  rintro e w6 ⟨A6, l6, rfl, hr6, hf6, hb6⟩
  clear hr6 hf6 k6
  have hS6 := HX.out.1.below hb6
  have hT6 := HX.out.2.1.below hb6
  have hG6 := HX.out.2.2.1.below hb6
  have hc6 : w6.cell? ⟨c, 0, none⟩ = some (.int .i64 3) := (hb6.cell (p := ⟨c, 0, none⟩) HX.out.2.2.2.1).trans HX.out.2.2.2.2.1
  have hB6 := HX.out.2.2.2.2.2.trans (hb6.mono HX.out.2.2.2.2.2.size)
  have hcl : c < w6.heap.size := Nat.lt_of_lt_of_le HX.out.2.2.2.1 hb6.size
  have hS7 : HasS (w6.alloc (.cells #[.int .i64 2, .int .i64 (t + hd m.a), .int .i64 1] 27)) p ⟨4, 0, 0⟩ := (Below.heap_alloc w6 _ _ hS6.lt).trans hS6
  have hT7 : HasT (w6.alloc (.cells #[.int .i64 2, .int .i64 (t + hd m.a), .int .i64 1] 27)) (w.heap.size + 1) m := (Below.heap_alloc w6 _ _ hT6.lt).trans hT6
  have hG7 : HasG (w6.alloc (.cells #[.int .i64 2, .int .i64 (t + hd m.a), .int .i64 1] 27)) w.heap.size g0 g1 g2 := (Below.heap_alloc w6 _ _ hG6.lt).trans hG6
  have hQ7 : HasS (w6.alloc (.cells #[.int .i64 2, .int .i64 (t + hd m.a), .int .i64 1] 27)) w6.heap.size ⟨2, t + hd m.a, 1⟩ := heap_alloc_new _ _
  have hB7 := hB6.alloc hB6.size (.cells #[.int .i64 2, .int .i64 (t + hd m.a), .int .i64 1] 27)
  have hc7 : (w6.alloc (.cells #[.int .i64 2, .int .i64 (t + hd m.a), .int .i64 1] 27)).cell? ⟨c, 0, none⟩ = some (.int .i64 3) := (World.cell?_alloc_lt _ _ _ hcl).trans hc6
  have hgq : w.heap.size ≤ w6.heap.size := hB6.size
  have hpq : p < w6.heap.size := hS6.lt
  have hs0 := hQ7.c0
  have hs1 := hQ7.c1
  have hs2 := hQ7.c2
  have hm0 := hT7.c0
  have hm1 := hT7.c1
  have hm2 := hT7.c2
  have hg1 := hG7.c1
  have hg2 := hG7.c2
  have hfr := hQ7.fr
  have hpl := hQ7.lt
  have HY := Lib.hid (And.intro hS7 (And.intro hT7 (And.intro hG7 (And.intro hQ7 (And.intro hc7 hB7)))))
  clear hS6 hT6 hG6 hc6 hB6 hS7 hT7 hG7 hQ7 hB7 hc7 hb6 HX
  cases b with
  | false =>
    have k7 := fun W => step_at ⟨2, t + hd m.a, 1⟩ 3 (t + g1 + g2) m W ⟨by omega, by omega⟩
    rw [pat5] at k7
    simp only at k7
    go_wp2_with fail
    obtain ⟨q, eq⟩ : ∃ q, w6.heap.size = q := ⟨_, rfl⟩
    rw [eq] at HY hgq hpq hcl
    rw [eq] at hs0 hs1 hs2 hpl hfr
    rw [eq]
    obtain ⟨w7, hw7⟩ : ∃ w7, (w6.alloc (.cells #[.int .i64 2, .int .i64 (t + hd m.a), .int .i64 1] 27)) = w7 := ⟨_, rfl⟩
    rw [hw7] at HY hs0 hs1 hs2 hpl hfr hm0 hm1 hm2 hg1 hg2
    rw [hw7]
    clear hw7 eq w6
    refine (k7 _).mono ?_
    rintro e w8 ⟨A8, lw8, rfl, hrr, hff, hbb⟩
    have k0 := (hbb.cell (p := ⟨q, 0, none⟩) hpl).trans hs0
    have k1 := (hbb.cell (p := ⟨q, 1, none⟩) hpl).trans hs1
    have kk2 := (hbb.cell (p := ⟨q, 2, none⟩) hpl).trans hs2
    have k3 := (hbb.frozen (p := ⟨q, 0, none⟩) hpl).trans (hfr 0)
    have k4 := (hbb.frozen (p := ⟨q, 1, none⟩) hpl).trans (hfr 1)
    have k5 := (hbb.frozen (p := ⟨q, 2, none⟩) hpl).trans (hfr 2)
    have hst := env_store (s' := ⟨4, 0, 0⟩) HY.out.2.2.2.1 HY.out.2.1 HY.out.2.2.1 hrr hff hbb HY.out.2.2.2.2.2 HY.out.2.2.2.2.2.size hgq
    simp only at hst
    obtain ⟨x1, x2, x3, x4, x5⟩ := hst
    have x6 : HasS (((w8.setCell ⟨q, 0, none⟩ (.int .i64 4)).setCell ⟨q, 1, none⟩ (.int .i64 0)).setCell ⟨q, 2, none⟩ (.int .i64 0)) p ⟨4, 0, 0⟩ := (kept3 (by omega) hbb HY.out.1.lt).trans HY.out.1
    have x7 : (((w8.setCell ⟨q, 0, none⟩ (.int .i64 4)).setCell ⟨q, 1, none⟩ (.int .i64 0)).setCell ⟨q, 2, none⟩ (.int .i64 0)).cell? ⟨c, 0, none⟩ = some (.int .i64 3) := (World.cell?_of_block (w := w7) (a := ⟨c, 0, none⟩) (kept3 (r := c) (by omega) hbb (by omega))).trans HY.out.2.2.2.2.1
    have esz : (((w8.setCell ⟨q, 0, none⟩ (.int .i64 4)).setCell ⟨q, 1, none⟩ (.int .i64 0)).setCell ⟨q, 2, none⟩ (.int .i64 0)).heap.size = w8.heap.size := by simp [World.setCell]
    have y1 : HasS ((((w8.setCell ⟨q, 0, none⟩ (.int .i64 4)).setCell ⟨q, 1, none⟩ (.int .i64 0)).setCell ⟨q, 2, none⟩ (.int .i64 0)).alloc (.cells #[.int .i64 4, .int .i64 0, .int .i64 0] 27)) q ⟨4, 0, 0⟩ := (Below.heap_alloc _ _ _ x1.lt).trans x1
    have y6 : HasS ((((w8.setCell ⟨q, 0, none⟩ (.int .i64 4)).setCell ⟨q, 1, none⟩ (.int .i64 0)).setCell ⟨q, 2, none⟩ (.int .i64 0)).alloc (.cells #[.int .i64 4, .int .i64 0, .int .i64 0] 27)) p ⟨4, 0, 0⟩ := (Below.heap_alloc _ _ _ x6.lt).trans x6
    have y3 : HasS ((((w8.setCell ⟨q, 0, none⟩ (.int .i64 4)).setCell ⟨q, 1, none⟩ (.int .i64 0)).setCell ⟨q, 2, none⟩ (.int .i64 0)).alloc (.cells #[.int .i64 4, .int .i64 0, .int .i64 0] 27)) (((w8.setCell ⟨q, 0, none⟩ (.int .i64 4)).setCell ⟨q, 1, none⟩ (.int .i64 0)).setCell ⟨q, 2, none⟩ (.int .i64 0)).heap.size ⟨4, 0, 0⟩ := heap_alloc_new _ _
    rw [esz] at y3
    have y7 : ((((w8.setCell ⟨q, 0, none⟩ (.int .i64 4)).setCell ⟨q, 1, none⟩ (.int .i64 0)).setCell ⟨q, 2, none⟩ (.int .i64 0)).alloc (.cells #[.int .i64 4, .int .i64 0, .int .i64 0] 27)).cell? ⟨c, 0, none⟩ = some (.int .i64 3) := (World.cell?_alloc_lt _ _ _ (by rw [esz]; have := hbb.size; show c < _; omega)).trans x7
    have a0 := y6.c0
    have a1 := y6.c1
    have a2 := y6.c2
    have b0 := y1.c0
    have b1 := y1.c1
    have b2 := y1.c2
    have d0 := y3.c0
    have d1 := y3.c1
    have d2 := y3.c2
    have HZ := Lib.hid (x5.alloc x5.size (.cells #[.int .i64 4, .int .i64 0, .int .i64 0] 27))
    clear x1 x2 x3 x4 x5 x6 x7 y1 y6 y3 hrr hff hbb HY k7 hs0 hs1 hs2 hm0 hm1 hm2 hg1 hg2
    go_wp2_with fail
    go_ret
    exact ⟨rfl, HZ.out⟩
  | true =>
    have k7 := fun W => step_at ⟨2, t + hd m.a, 1⟩ 2 (t + g1) m W ⟨by omega, by omega⟩
    rw [pat4] at k7
    simp only at k7
    go_wp2_with fail
    obtain ⟨q, eq⟩ : ∃ q, w6.heap.size = q := ⟨_, rfl⟩
    rw [eq] at HY hgq hpq hcl
    rw [eq] at hs0 hs1 hs2 hpl hfr
    rw [eq]
    obtain ⟨w7, hw7⟩ : ∃ w7, (w6.alloc (.cells #[.int .i64 2, .int .i64 (t + hd m.a), .int .i64 1] 27)) = w7 := ⟨_, rfl⟩
    rw [hw7] at HY hs0 hs1 hs2 hpl hfr hm0 hm1 hm2 hg1 hg2
    rw [hw7]
    clear hw7 eq w6
    refine (k7 _).mono ?_
    rintro e w8 ⟨A8, lw8, rfl, hrr, hff, hbb⟩
    have k0 := (hbb.cell (p := ⟨q, 0, none⟩) hpl).trans hs0
    have k1 := (hbb.cell (p := ⟨q, 1, none⟩) hpl).trans hs1
    have kk2 := (hbb.cell (p := ⟨q, 2, none⟩) hpl).trans hs2
    have k3 := (hbb.frozen (p := ⟨q, 0, none⟩) hpl).trans (hfr 0)
    have k4 := (hbb.frozen (p := ⟨q, 1, none⟩) hpl).trans (hfr 1)
    have k5 := (hbb.frozen (p := ⟨q, 2, none⟩) hpl).trans (hfr 2)
    have hst := env_store (s' := ⟨3, (t + g1 + hd m.b), 0⟩) HY.out.2.2.2.1 HY.out.2.1 HY.out.2.2.1 hrr hff hbb HY.out.2.2.2.2.2 HY.out.2.2.2.2.2.size hgq
    simp only at hst
    obtain ⟨x1, x2, x3, x4, x5⟩ := hst
    have x6 : HasS (((w8.setCell ⟨q, 0, none⟩ (.int .i64 3)).setCell ⟨q, 1, none⟩ (.int .i64 (t + g1 + hd m.b))).setCell ⟨q, 2, none⟩ (.int .i64 0)) p ⟨4, 0, 0⟩ := (kept3 (by omega) hbb HY.out.1.lt).trans HY.out.1
    have x7 : (((w8.setCell ⟨q, 0, none⟩ (.int .i64 3)).setCell ⟨q, 1, none⟩ (.int .i64 (t + g1 + hd m.b))).setCell ⟨q, 2, none⟩ (.int .i64 0)).cell? ⟨c, 0, none⟩ = some (.int .i64 3) := (World.cell?_of_block (w := w7) (a := ⟨c, 0, none⟩) (kept3 (r := c) (by omega) hbb (by omega))).trans HY.out.2.2.2.2.1
    have x8 : c < (((w8.setCell ⟨q, 0, none⟩ (.int .i64 3)).setCell ⟨q, 1, none⟩ (.int .i64 (t + g1 + hd m.b))).setCell ⟨q, 2, none⟩ (.int .i64 0)).heap.size := by
      have := hbb.size
      simp [World.setCell]
      omega
    clear hs0 hs1 hs2 hm0 hm1 hm2 hg1 hg2 hfr hpl
    have hs0 := x1.c0
    have hs1 := x1.c1
    have hs2 := x1.c2
    have hm0 := x2.c0
    have hm1 := x2.c1
    have hm2 := x2.c2
    have hg1 := x3.c1
    have hg2 := x3.c2
    have hfr := x1.fr
    have hpl := x1.lt
    have HV := Lib.hid (And.intro x6 (And.intro x2 (And.intro x3 (And.intro x1 (And.intro x7 x5)))))
    clear x1 x2 x3 x4 x5 x6 x7 hrr hff hbb HY k7
    have k9 := fun W => step_at ⟨3, t + g1 + hd m.b, 0⟩ 3 (t + g1 + g2) m W ⟨by omega, by omega⟩
    rw [pat6] at k9
    simp only at k9
    go_wp2_with fail
    obtain ⟨w9, hw9⟩ : ∃ w9, (((w8.setCell ⟨q, 0, none⟩ (.int .i64 3)).setCell ⟨q, 1, none⟩ (.int .i64 (t + g1 + hd m.b))).setCell ⟨q, 2, none⟩ (.int .i64 0)) = w9 := ⟨_, rfl⟩
    rw [hw9] at HV hs0 hs1 hs2 hpl hfr hm0 hm1 hm2 hg1 hg2 x8
    rw [hw9]
    clear hw9 k0 k1 kk2 k3 k4 k5 w8
    refine (k9 _).mono ?_
    rintro e w10 ⟨A10, lw10, rfl, hrr, hff, hbb⟩
    have k0 := (hbb.cell (p := ⟨q, 0, none⟩) hpl).trans hs0
    have k1 := (hbb.cell (p := ⟨q, 1, none⟩) hpl).trans hs1
    have kk2 := (hbb.cell (p := ⟨q, 2, none⟩) hpl).trans hs2
    have k3 := (hbb.frozen (p := ⟨q, 0, none⟩) hpl).trans (hfr 0)
    have k4 := (hbb.frozen (p := ⟨q, 1, none⟩) hpl).trans (hfr 1)
    have k5 := (hbb.frozen (p := ⟨q, 2, none⟩) hpl).trans (hfr 2)
    have hst := env_store (s' := ⟨4, 0, 0⟩) HV.out.2.2.2.1 HV.out.2.1 HV.out.2.2.1 hrr hff hbb HV.out.2.2.2.2.2 HV.out.2.2.2.2.2.size hgq
    simp only at hst
    obtain ⟨x1, x2, x3, x4, x5⟩ := hst
    have x6 : HasS (((w10.setCell ⟨q, 0, none⟩ (.int .i64 4)).setCell ⟨q, 1, none⟩ (.int .i64 0)).setCell ⟨q, 2, none⟩ (.int .i64 0)) p ⟨4, 0, 0⟩ := (kept3 (by omega) hbb HV.out.1.lt).trans HV.out.1
    have x7 : (((w10.setCell ⟨q, 0, none⟩ (.int .i64 4)).setCell ⟨q, 1, none⟩ (.int .i64 0)).setCell ⟨q, 2, none⟩ (.int .i64 0)).cell? ⟨c, 0, none⟩ = some (.int .i64 3) := (World.cell?_of_block (w := w9) (a := ⟨c, 0, none⟩) (kept3 (r := c) (by omega) hbb (by omega))).trans HV.out.2.2.2.2.1
    have esz : (((w10.setCell ⟨q, 0, none⟩ (.int .i64 4)).setCell ⟨q, 1, none⟩ (.int .i64 0)).setCell ⟨q, 2, none⟩ (.int .i64 0)).heap.size = w10.heap.size := by simp [World.setCell]
    have y1 : HasS ((((w10.setCell ⟨q, 0, none⟩ (.int .i64 4)).setCell ⟨q, 1, none⟩ (.int .i64 0)).setCell ⟨q, 2, none⟩ (.int .i64 0)).alloc (.cells #[.int .i64 4, .int .i64 0, .int .i64 0] 27)) q ⟨4, 0, 0⟩ := (Below.heap_alloc _ _ _ x1.lt).trans x1
    have y6 : HasS ((((w10.setCell ⟨q, 0, none⟩ (.int .i64 4)).setCell ⟨q, 1, none⟩ (.int .i64 0)).setCell ⟨q, 2, none⟩ (.int .i64 0)).alloc (.cells #[.int .i64 4, .int .i64 0, .int .i64 0] 27)) p ⟨4, 0, 0⟩ := (Below.heap_alloc _ _ _ x6.lt).trans x6
    have y3 : HasS ((((w10.setCell ⟨q, 0, none⟩ (.int .i64 4)).setCell ⟨q, 1, none⟩ (.int .i64 0)).setCell ⟨q, 2, none⟩ (.int .i64 0)).alloc (.cells #[.int .i64 4, .int .i64 0, .int .i64 0] 27)) (((w10.setCell ⟨q, 0, none⟩ (.int .i64 4)).setCell ⟨q, 1, none⟩ (.int .i64 0)).setCell ⟨q, 2, none⟩ (.int .i64 0)).heap.size ⟨4, 0, 0⟩ := heap_alloc_new _ _
    rw [esz] at y3
    have y7 : ((((w10.setCell ⟨q, 0, none⟩ (.int .i64 4)).setCell ⟨q, 1, none⟩ (.int .i64 0)).setCell ⟨q, 2, none⟩ (.int .i64 0)).alloc (.cells #[.int .i64 4, .int .i64 0, .int .i64 0] 27)).cell? ⟨c, 0, none⟩ = some (.int .i64 3) := (World.cell?_alloc_lt _ _ _ (by rw [esz]; have := hbb.size; show c < _; omega)).trans x7
    have a0 := y6.c0
    have a1 := y6.c1
    have a2 := y6.c2
    have b0 := y1.c0
    have b1 := y1.c1
    have b2 := y1.c2
    have d0 := y3.c0
    have d1 := y3.c1
    have d2 := y3.c2
    have HZ := Lib.hid (x5.alloc x5.size (.cells #[.int .i64 4, .int .i64 0, .int .i64 0] 27))
    clear x1 x2 x3 x4 x5 x6 x7 y1 y6 y3 hrr hff hbb HV k9 hs0 hs1 hs2 hm0 hm1 hm2 hg1 hg2
    go_wp2_with fail
    go_ret
    exact ⟨rfl, HZ.out⟩

theorem pat_out (t g0 g1 g2 : Int) (m : Tm) (b : Bool) (w : World) (ht : ¬ (0 ≤ t ∧ t ≤ 1099511627776)) :
    Calls Try.prog 8 #[.int .i64 t, .agg #[.int .u32 g0, .int .u32 g1, .int .u32 g2], .agg #[.int .i64 m.a, .int .i64 m.b, .int .i64 m.c], .bool b] w fun e w' => e = .returned (.bool true) ∧ Below w.heap.size w w' := by
  have hB0 : Below w.heap.size w ((w.alloc (.cells #[.int .u32 g0, .int .u32 g1, .int .u32 g2] 40)).alloc (.cells #[.int .i64 m.a, .int .i64 m.b, .int .i64 m.c] 24)) := below2 _ _ _
  have HB := Lib.hid hB0
  clear hB0
  go_enter Try.func8, Try.ntmps8
  go_wp2_with fail
  refine (awake_any _).mono ?_
  rintro e w1 ⟨rfl, b1⟩
  have HB1 := Lib.hid (HB.out.trans (b1.mono HB.out.size))
  clear b1
  by_cases h0 : t < 0
  · go_wp2_with fail
    refine (awake_any _).mono ?_
    rintro e w2 ⟨rfl, b2⟩
    go_wp2_with fail
    go_ret
    exact ⟨rfl, HB1.out.trans (b2.mono HB1.out.size)⟩
  · have h1 : 1099511627776 < t := by omega
    go_wp2_with fail
    refine (awake_any _).mono ?_
    rintro e w2 ⟨rfl, b2⟩
    go_wp2_with fail
    go_ret
    exact ⟨rfl, HB1.out.trans (b2.mono HB1.out.size)⟩

end Go.Proofs.Ytjgdbmkddmjaeaa
