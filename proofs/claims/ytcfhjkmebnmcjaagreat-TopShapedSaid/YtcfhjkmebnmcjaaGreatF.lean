/- The contract of cell.Parse, at the cell that comes. -/
import Derived.Test.YtcfhjkmebnmcjaaGreatEd
import Derived.Deep.MidRow
import Derived.Laws.Tables
import Derived.Laws.Rows
import Derived.Laws.CopyOwn
namespace Go.Proofs.YtcfhjkmebnmcjaaGreat
open Go.RowKit
set_option linter.unusedVariables false
set_option linter.unusedSimpArgs false
attribute [local go_sem] Oper.semAt_some

/-- The bytes of the cell that comes, at a place. -/
structure In40 (w : World) (gb : Nat) : Prop where
  lt : gb < w.heap.size
  c0 : w.cell? ⟨gb, 0, none⟩ = some (.int .u8 0)
  c1 : w.cell? ⟨gb, 1, none⟩ = some (.int .u8 0)
  c2 : w.cell? ⟨gb, 2, none⟩ = some (.int .u8 2)
  c3 : w.cell? ⟨gb, 3, none⟩ = some (.int .u8 128)
  c4 : w.cell? ⟨gb, 4, none⟩ = some (.int .u8 246)
  cp : ∀ o, 5 ≤ o → o < 53 → w.cell? ⟨gb, o, none⟩ = some (.int .u8 0)
theorem In40.of_row {W : World} {B : Nat} {v : Value} (h : W.ownsRow B 5 1 v 53 (cellB 2 128 246)) : ∃ gb cap, v = .slice (some ⟨gb, 0, none⟩) 53 cap ∧ B ≤ gb ∧ 53 ≤ cap ∧ In40 W gb := by
  rcases h.2 with ⟨_, h0⟩ | ⟨gb, cap, cur, rfl, hb, hg, hcap, _⟩
  · omega
  · have hc := h.cells (g := gb) rfl
    have hc' : ∀ j u, (cellB 2 128 246)[j]? = some u → W.cell? ⟨gb, j, none⟩ = some u := fun j u hu => by
      have := hc j u hu
      rwa [show (⟨gb, 0, none⟩ : Addr).add j = ⟨gb, j, none⟩ by unfold Addr.add; split <;> simp_all] at this
    refine ⟨gb, cap, rfl, hb, hcap, (Array.getElem?_eq_some_iff.1 hg).1, hc' 0 _ rfl, hc' 1 _ rfl, hc' 2 _ rfl, hc' 3 _ rfl, hc' 4 _ rfl, fun o h1 h2 => hc' o _ ?_⟩
    unfold cellB
    rw [List.getElem?_append_right (by simpa using h1), List.getElem?_replicate, if_pos (by simp; omega)]
theorem In40.below {W W' : World} {gb : Nat} (h : In40 W gb) (hb : Below W.heap.size W W') : In40 W' gb := by
  have e : ∀ o, W'.cell? ⟨gb, o, none⟩ = W.cell? ⟨gb, o, none⟩ := fun o => hb.cell (p := ⟨gb, o, none⟩) h.lt
  exact ⟨Nat.lt_of_lt_of_le h.lt hb.size, (e _).trans h.c0, (e _).trans h.c1, (e _).trans h.c2, (e _).trans h.c3, (e _).trans h.c4, fun o h1 h2 => (e o).trans (h.cp o h1 h2)⟩
theorem In40.range {W : World} {gb : Nat} (h : In40 W gb) : W.rangeAt gb 5 (List.replicate 48 (.int .u8 0)) := fun j v hv => by
  have hj : j < 48 := by have := (List.getElem?_eq_some_iff.1 hv).1; simpa using this
  rw [List.getElem?_replicate, if_pos hj] at hv
  cases hv
  exact h.cp _ (by omega) (by omega)

theorem results_cell_tmp {P : Program} {fn : Func} {p q : Tmp} {ty : TypeId} (h : fn.results = #[.cell p ty, .tmp q]) (tmps : Array Value) (w : World) (g : Nat) (t : TypeId) (cs : Array Value) (fr : Nat × Nat) (d : TypeDesc)
    (hp : tmps.getD p undef = .pointer (some ⟨g, 0, none⟩)) (hg : w.heap[g]? = some (.cells cs t fr))
    (hu : P.underlying ty = some d) (hd : (match d with | .struct _ | .array _ _ => true | _ => false) = true) (hi : (P.info? ty).map (·.size) = some cs.size) :
    (results fn tmps).run P w = .ok (.tuple #[.agg cs, tmps.getD q undef]) w := by
  have hp' : tmps[p]?.getD undef = .pointer (some ⟨g, 0, none⟩) := by simpa using hp
  simp [results, h, hp', asAddr, run_loadVar_row w g t ty cs fr d hg hu hd hi]

theorem still_load_mid {P : Program} {ops : Array Oper} {o : Oper} {a : Act} {w : World} {K : Act → Prop} {E : Prop} (hgd : o.guard = none) (ty : TypeId) (x : Operand) (ho : o.op = .load ty x)
    (b off : Nat) (hx : a.eval x = .pointer (some ⟨b, off, none⟩)) (cs : List Value) (d : TypeDesc) (hc : w.rangeAt b off cs)
    (hu : P.underlying ty = some d) (hd : d.isRow = true) (hi : (P.info? ty).map (·.size) = some cs.length) (h : K (a.put o.dst (.agg cs.toArray))) :
    if Region.wanted o (yielded ops a.tmps) = true then o.still P a w K else E := by
  have hw : Region.wanted o (yielded ops a.tmps) = true := by simp [Region.wanted, hgd]
  rw [if_pos hw]
  unfold Oper.still execOp
  simp only [ho, hx, run_loadAt_mid w b off ty cs d hc hu hd hi, Result.andThen_ok, Sem.run_bind, Sem.run_pure]
  exact ⟨rfl, h⟩

set_option maxRecDepth 100000 in
set_option maxHeartbeats 4000000 in
theorem parse_at (lb g gb cap : Nat) (w : World) (hl : w.heap[lb]? = some (.cells (linkC g) 67 (0, 0))) (hi : In40 w gb) (hcap : 53 ≤ cap) :
    Calls Tryz.prog 27 #[.slice (some ⟨gb, 0, none⟩) 53 cap, .pointer (some ⟨lb, 0, none⟩), .bool false] w fun e w' => e = .returned (.tuple #[cellV 40 0, .int .i64 0]) ∧ Below w.heap.size w w' := by
  have hlt : lb < w.heap.size := (Array.getElem?_eq_some_iff.1 hl).1
  have hc5 : ¬ ((cap : Int) < 5) := by omega
  have hc6 : ¬ (cap = 5) := by omega
  have HB0 := Lib.hid ((Below.refl w.heap.size w).alloc (Nat.le_refl _) (.cells #[.int .i64 0, .int .i64 0, .int .i64 0, .int .i64 0, .int .i64 0, .int .u8 0, .int .u8 0, .int .u8 0, .int .u8 0, .int .u8 0, .int .u8 0, .int .u8 0, .int .u8 0, .int .u8 0, .int .u8 0, .int .u8 0, .int .u8 0, .int .u8 0, .int .u8 0, .int .u8 0, .int .u8 0, .int .u8 0, .int .u8 0, .int .u8 0, .int .u8 0, .int .u8 0, .int .u8 0, .int .u8 0, .int .u8 0, .int .u8 0, .int .u8 0, .int .u8 0, .int .u8 0, .int .u8 0, .int .u8 0, .int .u8 0, .int .u8 0, .int .u8 0, .int .u8 0, .int .u8 0, .int .u8 0, .int .u8 0, .int .u8 0, .int .u8 0, .int .u8 0, .int .u8 0, .int .u8 0, .int .u8 0, .int .u8 0, .int .u8 0, .int .u8 0, .int .u8 0, .int .u8 0] 87))
  have hr0 := heap_new' w (o := .cells #[.int .i64 0, .int .i64 0, .int .i64 0, .int .i64 0, .int .i64 0, .int .u8 0, .int .u8 0, .int .u8 0, .int .u8 0, .int .u8 0, .int .u8 0, .int .u8 0, .int .u8 0, .int .u8 0, .int .u8 0, .int .u8 0, .int .u8 0, .int .u8 0, .int .u8 0, .int .u8 0, .int .u8 0, .int .u8 0, .int .u8 0, .int .u8 0, .int .u8 0, .int .u8 0, .int .u8 0, .int .u8 0, .int .u8 0, .int .u8 0, .int .u8 0, .int .u8 0, .int .u8 0, .int .u8 0, .int .u8 0, .int .u8 0, .int .u8 0, .int .u8 0, .int .u8 0, .int .u8 0, .int .u8 0, .int .u8 0, .int .u8 0, .int .u8 0, .int .u8 0, .int .u8 0, .int .u8 0, .int .u8 0, .int .u8 0, .int .u8 0, .int .u8 0, .int .u8 0, .int .u8 0] 87) rfl
  have hl0 := (Below.heap_alloc w (.cells #[.int .i64 0, .int .i64 0, .int .i64 0, .int .i64 0, .int .i64 0, .int .u8 0, .int .u8 0, .int .u8 0, .int .u8 0, .int .u8 0, .int .u8 0, .int .u8 0, .int .u8 0, .int .u8 0, .int .u8 0, .int .u8 0, .int .u8 0, .int .u8 0, .int .u8 0, .int .u8 0, .int .u8 0, .int .u8 0, .int .u8 0, .int .u8 0, .int .u8 0, .int .u8 0, .int .u8 0, .int .u8 0, .int .u8 0, .int .u8 0, .int .u8 0, .int .u8 0, .int .u8 0, .int .u8 0, .int .u8 0, .int .u8 0, .int .u8 0, .int .u8 0, .int .u8 0, .int .u8 0, .int .u8 0, .int .u8 0, .int .u8 0, .int .u8 0, .int .u8 0, .int .u8 0, .int .u8 0, .int .u8 0, .int .u8 0, .int .u8 0, .int .u8 0, .int .u8 0, .int .u8 0] 87) lb hlt).trans hl
  have hi0 := hi.below ((Below.refl w.heap.size w).alloc (Nat.le_refl _) (.cells #[.int .i64 0, .int .i64 0, .int .i64 0, .int .i64 0, .int .i64 0, .int .u8 0, .int .u8 0, .int .u8 0, .int .u8 0, .int .u8 0, .int .u8 0, .int .u8 0, .int .u8 0, .int .u8 0, .int .u8 0, .int .u8 0, .int .u8 0, .int .u8 0, .int .u8 0, .int .u8 0, .int .u8 0, .int .u8 0, .int .u8 0, .int .u8 0, .int .u8 0, .int .u8 0, .int .u8 0, .int .u8 0, .int .u8 0, .int .u8 0, .int .u8 0, .int .u8 0, .int .u8 0, .int .u8 0, .int .u8 0, .int .u8 0, .int .u8 0, .int .u8 0, .int .u8 0, .int .u8 0, .int .u8 0, .int .u8 0, .int .u8 0, .int .u8 0, .int .u8 0, .int .u8 0, .int .u8 0, .int .u8 0, .int .u8 0, .int .u8 0, .int .u8 0, .int .u8 0, .int .u8 0] 87))
  have HI := Lib.hid (And.intro hi0 (And.intro hl0 hr0))
  have hT := htake_at lb g 2 128 246 (by omega) (by omega) hd40.r x246 _ hl0
  have HT := Lib.hid hT
  have c0 := hi0.c0
  have c1 := hi0.c1
  have c2 := hi0.c2
  have c3 := hi0.c3
  have c4 := hi0.c4
  have hA := fun W => run_arrayAt (P := Tryz.prog) (w := W) 125 5 5 (some ⟨gb, 0, none⟩) 5 cap Tryz.underlying125 (by omega)
  clear hi hl hl0 hi0 hT hr0
  go_enter Tryz.func27, Tryz.ntmps27
  go_wp2_with fail
  refine HT.out.mono ?_
  rintro e w1 ⟨rfl, hb1⟩
  have HB1 := Lib.hid (HB0.out.trans (hb1.mono (by simp)))
  have hi1 := HI.out.1.below hb1
  have hl1 := (hb1.block lb (by simp; omega)).trans HI.out.2.1
  have hr1 := (hb1.block w.heap.size (by simp)).trans HI.out.2.2
  have hsz1 : w.heap.size + 1 ≤ w1.heap.size := by have := hb1.size; simpa using this
  have HI1 := Lib.hid (And.intro hi1 (And.intro hl1 (And.intro hr1 hsz1)))
  clear hb1 hi1 hl1 hr1 hsz1 c0 c1 c2 c3 c4 hA
  go_wp2_with fail
  have hn := heap_new' w1 (o := .cells #[.int .u8 0, .int .u8 0, .int .u8 2, .int .u8 128] 122) rfl
  obtain ⟨n0, n1, n2, n3⟩ := at4 hn
  refine (hunpack_at w1.heap.size _ (by simp) n0 n1 n2 n3).mono ?_
  clear n0 n1 n2 n3 hn
  rintro e w2 ⟨rfl, hb2⟩
  have hs1 := HI1.out.2.2.2
  have HB2 := Lib.hid ((HB1.out.alloc (by omega) _).trans (hb2.mono (by simp; omega)))
  have hb12 : Below w1.heap.size w1 w2 := ((Below.refl _ _).alloc (Nat.le_refl _) _).trans (hb2.mono (by simp))
  have hi2 := HI1.out.1.below hb12
  have hr2 := (hb12.block w.heap.size (by omega)).trans HI1.out.2.2.1
  have hsz2 : w.heap.size + 1 ≤ w2.heap.size := by have := hb12.size; omega
  have HI2 := Lib.hid (And.intro hi2 (And.intro hr2 hsz2))
  clear hb2 hb12 hi2 hr2 hsz2 hs1
  go_wp2_with fail
  have hn := heap_new' w2 (o := .cells #[.int .i64 0, .int .i64 0, .int .i64 40, .int .i64 0, .int .i64 0] 85) rfl
  have hi3 := HI2.out.1.below ((Below.refl w2.heap.size w2).alloc (Nat.le_refl _) (.cells #[.int .i64 0, .int .i64 0, .int .i64 40, .int .i64 0, .int .i64 0] 85))
  have hr3 := (Below.heap_alloc w2 (.cells #[.int .i64 0, .int .i64 0, .int .i64 40, .int .i64 0, .int .i64 0] 85) w.heap.size HI2.out.2.2).trans HI2.out.2.1
  have HB3 := Lib.hid (HB2.out.alloc (Nat.le_of_lt HI2.out.2.2) (.cells #[.int .i64 0, .int .i64 0, .int .i64 40, .int .i64 0, .int .i64 0] 85))
  obtain ⟨g2, eg⟩ : ∃ g2, w2.heap.size = g2 := ⟨_, rfl⟩
  rw [eg] at hn ⊢
  clear eg
  generalize w2.alloc (.cells #[.int .i64 0, .int .i64 0, .int .i64 40, .int .i64 0, .int .i64 0] 85) = w3 at hn hi3 hr3 HB3 ⊢
  obtain ⟨n0, n1, n2, n3, n4⟩ := at5 hn
  have cp := hi3.cp
  have HI3 := Lib.hid (And.intro hi3 (And.intro hr3 hn))
  have hA := fun W => run_arrayAt (P := Tryz.prog) (w := W) 45 5 48 (some ⟨gb, 5, none⟩) 48 (cap - 5) Tryz.underlying45 (by omega)
  clear hi3 hr3 hn
  refine wp_region_still_tail 6 (by kernel_rfl) (by kernel_rfl) ?_
  simp only [List.take_succ_cons, List.take_zero, List.drop_succ_cons, List.drop_zero]
  still_step
  still_step
  still_step
  still_step
  refine wpStill_step (fun K hK => ?_)
  refine still_load_mid rfl 45 (.tmp 43) rfl gb 5 rfl (List.replicate 48 (.int .u8 0)) _ (show World.rangeAt w3.drew _ _ _ from HI3.out.1.range) Tryz.underlying45 rfl (by kernel_rfl) (hK _ ?_)
  clear hK K
  still_step
  refine wpStill_nil ?_
  change wpList _ _ _ _ _ w3.drew
  have hr4 : w3.drew.heap[w.heap.size]? = _ := HI3.out.2.1
  have HB4 := Lib.hid (below_setRow HB3.out.drew (g := w.heap.size) (Nat.le_refl _) #[.int .i64 0, .int .i64 0, .int .i64 40, .int .i64 0, .int .i64 0, .int .u8 0, .int .u8 0, .int .u8 0, .int .u8 0, .int .u8 0, .int .u8 0, .int .u8 0, .int .u8 0, .int .u8 0, .int .u8 0, .int .u8 0, .int .u8 0, .int .u8 0, .int .u8 0, .int .u8 0, .int .u8 0, .int .u8 0, .int .u8 0, .int .u8 0, .int .u8 0, .int .u8 0, .int .u8 0, .int .u8 0, .int .u8 0, .int .u8 0, .int .u8 0, .int .u8 0, .int .u8 0, .int .u8 0, .int .u8 0, .int .u8 0, .int .u8 0, .int .u8 0, .int .u8 0, .int .u8 0, .int .u8 0, .int .u8 0, .int .u8 0, .int .u8 0, .int .u8 0, .int .u8 0, .int .u8 0, .int .u8 0, .int .u8 0, .int .u8 0, .int .u8 0, .int .u8 0, .int .u8 0])
  have hr5 := setRow_heap w3.drew w.heap.size _ #[.int .i64 0, .int .i64 0, .int .i64 40, .int .i64 0, .int .i64 0, .int .u8 0, .int .u8 0, .int .u8 0, .int .u8 0, .int .u8 0, .int .u8 0, .int .u8 0, .int .u8 0, .int .u8 0, .int .u8 0, .int .u8 0, .int .u8 0, .int .u8 0, .int .u8 0, .int .u8 0, .int .u8 0, .int .u8 0, .int .u8 0, .int .u8 0, .int .u8 0, .int .u8 0, .int .u8 0, .int .u8 0, .int .u8 0, .int .u8 0, .int .u8 0, .int .u8 0, .int .u8 0, .int .u8 0, .int .u8 0, .int .u8 0, .int .u8 0, .int .u8 0, .int .u8 0, .int .u8 0, .int .u8 0, .int .u8 0, .int .u8 0, .int .u8 0, .int .u8 0, .int .u8 0, .int .u8 0, .int .u8 0, .int .u8 0, .int .u8 0, .int .u8 0, .int .u8 0, .int .u8 0] 87 (0, 0) hr4
  refine wpList_store_row rfl 87 (.tmp 6) (.tmp 45) rfl w.heap.size #[.int .i64 0, .int .i64 0, .int .i64 40, .int .i64 0, .int .i64 0, .int .u8 0, .int .u8 0, .int .u8 0, .int .u8 0, .int .u8 0, .int .u8 0, .int .u8 0, .int .u8 0, .int .u8 0, .int .u8 0, .int .u8 0, .int .u8 0, .int .u8 0, .int .u8 0, .int .u8 0, .int .u8 0, .int .u8 0, .int .u8 0, .int .u8 0, .int .u8 0, .int .u8 0, .int .u8 0, .int .u8 0, .int .u8 0, .int .u8 0, .int .u8 0, .int .u8 0, .int .u8 0, .int .u8 0, .int .u8 0, .int .u8 0, .int .u8 0, .int .u8 0, .int .u8 0, .int .u8 0, .int .u8 0, .int .u8 0, .int .u8 0, .int .u8 0, .int .u8 0, .int .u8 0, .int .u8 0, .int .u8 0, .int .u8 0, .int .u8 0, .int .u8 0, .int .u8 0, .int .u8 0] rfl rfl 87 _ hr4 (by kernel_rfl) rfl (by kernel_rfl) ?_
  generalize w3.drew.setRow w.heap.size #[.int .i64 0, .int .i64 0, .int .i64 40, .int .i64 0, .int .i64 0, .int .u8 0, .int .u8 0, .int .u8 0, .int .u8 0, .int .u8 0, .int .u8 0, .int .u8 0, .int .u8 0, .int .u8 0, .int .u8 0, .int .u8 0, .int .u8 0, .int .u8 0, .int .u8 0, .int .u8 0, .int .u8 0, .int .u8 0, .int .u8 0, .int .u8 0, .int .u8 0, .int .u8 0, .int .u8 0, .int .u8 0, .int .u8 0, .int .u8 0, .int .u8 0, .int .u8 0, .int .u8 0, .int .u8 0, .int .u8 0, .int .u8 0, .int .u8 0, .int .u8 0, .int .u8 0, .int .u8 0, .int .u8 0, .int .u8 0, .int .u8 0, .int .u8 0, .int .u8 0, .int .u8 0, .int .u8 0, .int .u8 0, .int .u8 0, .int .u8 0, .int .u8 0, .int .u8 0, .int .u8 0] = w4 at hr5 HB4 ⊢
  clear n0 n1 n2 n3 n4 cp hr4
  go_wp2_with fail
  exact bodyPost_ret (results_cell_tmp rfl _ _ w.heap.size _ _ _ _ rfl hr5 Tryz.underlying87 rfl (by kernel_rfl)) rfl ⟨rfl, HB4.out⟩

end Go.Proofs.YtcfhjkmebnmcjaaGreat
