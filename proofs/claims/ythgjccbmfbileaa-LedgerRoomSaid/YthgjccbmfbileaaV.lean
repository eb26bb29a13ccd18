/- The contract of 'all': a slice of all bookings, in order. -/
import Derived.Test.YthgjccbmfbileaaU
import Derived.Deep.AppendLies
namespace Go.Proofs.Ythgjccbmfbileaa
open Go.RowKit Go.Maps Go.Shelf Go.Sort
set_option linter.unusedVariables false
set_option linter.unusedSimpArgs false
attribute [local go_sem] Oper.semAt_some

def flatE (L : Ent) : List Value := L.flatMap fun q => [.int .i64 q.1, .int .i64 q.2]
theorem flatE_length (L : Ent) : (flatE L).length = L.length * 2 := by
  unfold flatE
  induction L with
  | nil => rfl
  | cons q r ih => simp [ih]; omega
theorem flatE_append (L M : Ent) : flatE (L ++ M) = flatE L ++ flatE M := by simp [flatE]

/-- Numbers that are numbers. -/
def WfL (L : Ent) : Prop := ∀ q ∈ L, (Lit.int .i64 q.1).wf = true
theorem WfL.ys {L : Ent} (h : WfL L) : ∃ ys : List I64P, ys.map (·.1) = L := by
  induction L with
  | nil => exact ⟨[], rfl⟩
  | cons q r ih =>
    obtain ⟨ys, hy⟩ := ih (fun p hp => h p (List.mem_cons_of_mem _ hp))
    exact ⟨⟨q, h q List.mem_cons_self⟩ :: ys, by simp [hy]⟩

theorem info58 : (Try.prog.info? 58).map (fun i => (i.zero, i.size, i.bytes)) = some (some (.agg #[.int .i64 0, .int .i64 0]), 2, 16) := by kernel_rfl

theorem kp_push {B bx n₀ k : Nat} {W w1 : World} {v v' : Value} {xs : List Value} {c0 : Array Value} (hv : Boxed W bx 39 v) (hr : W.ownsRow n₀ 58 2 v k xs) (hg : (W.alloc (.cells c0 58)).grownBy w1 v.ownBlock) : KpB B W (w1.setCell ⟨bx, 0, none⟩ v') := by
  have hsz := hg.size
  have hlt : ∀ {k : Nat} {o : Obj}, W.heap[k]? = some o → k < W.heap.size := fun h => (Array.getElem?_eq_some_iff.1 h).1
  refine ⟨by simp [World.setCell] at *; omega, fun j o _ hj hm => ?_⟩
  have hb : j ≠ bx := by
    rintro rfl
    rw [show W.heap[j]? = _ from hv] at hj
    cases hj
    simp [mine] at hm
  have hrow : some j ≠ v.ownBlock := by
    rcases hr.2 with ⟨rfl, _⟩ | ⟨g, cap, cur, rfl, _, hgb, _⟩
    · simp [Value.ownBlock]
    · intro e
      obtain rfl : j = g := by simpa [Value.ownBlock] using e
      rw [hgb] at hj
      cases hj
      simp [mine] at hm
  rw [Below.heap_setCell _ _ _ _ (show j ≠ bx from hb), hg.block j (by have := hlt hj; simp; omega) hrow, Below.heap_alloc _ _ _ (hlt hj)]
  exact hj

def pairsOf (pre : List I64P) : Ent := pre.map (·.1)

set_option maxRecDepth 100000 in
set_option maxHeartbeats 2000000 in
theorem all_in {p m : Nat} {x : Lg} (hx : x.Ok) (hlen : x.L.length ≤ 1000) (hwf : WfL x.L) {w : World} (h : HasL w p m x) :
    CallsIn Fence.wide 7 Try.prog 16 #[.pointer (some ⟨p, 0, none⟩)] w fun e W' => ∃ v, e = .returned v ∧ W'.ownsRow w.heap.size 58 2 v x.L.length (flatE x.L) ∧ Below w.heap.size w W' := by
  obtain ⟨ys, hys⟩ := hwf.ys
  obtain ⟨i0, hi, hz0, hz1, hz2⟩ := info_parts info58
  have hyl : ys.length ≤ 1000 := by rw [← List.length_map (f := fun q : I64P => q.1), hys]; exact hlen
  have hfA : Fence.wide.fn 25 := trivial
  refine callsIn_of_wp_marks Try.func16 rfl trivial ?_ rfl
  simp only [Try.ntmps16, List.size_toArray, List.length_cons, List.length_nil, Nat.reduceAdd, Nat.reduceSub, Array.replicate_succ, Array.replicate_zero, List.push_toArray, List.append_toArray, List.nil_append, List.cons_append]
  gi_wp2_with (gi_at_call 25; refine (All_in _ _ _).mono ?_; rintro e w' ⟨rfl, rfl⟩)
  have bO := Boxed.new w 39 (.slice none 0 0)
  have bN := Boxed.new (w.alloc (.cells #[.slice none 0 0] 39)) 24 (.pointer (some ⟨p, 0, none⟩))
  rw [World.size_alloc] at bN
  have hB0 : Below w.heap.size w ((w.alloc (.cells #[.slice none 0 0] 39)).alloc (.cells #[.pointer (some ⟨p, 0, none⟩)] 24)) := ((Below.refl _ w).alloc (Nat.le_refl _) _).alloc (by simp) _
  refine wpIn_rangeFunc_ownG rfl (by omega) (gf := 30) (lb := #[.pointer (some ⟨w.heap.size + 1, 0, none⟩)]) rfl trivial (enters_of Try.func30 (by kernel_rfl) rfl)
    (all_stops (w.heap.size + 1) p m x hx hlen ys hys _ (by simp) bN.cell (h.below hB0)) KpB.trans (fun W l o o' hl ho hc hw => KpB.turn W l o o' hl ho hc hw) (Below.refl _ _) (fun _ => rfl)
    (fun pre W => (∃ v, Boxed W w.heap.size 39 v ∧ W.ownsRow w.heap.size 58 2 v (pairsOf pre).length (flatE (pairsOf pre)) ∧ True) ∧ Below w.heap.size w W)
    (fun _ _ _ => False)
    (OwnFrom.and (Own.from (holdsRow_own w.heap.size w.heap.size 39 58 2 (fun pre => (pairsOf pre).length) (fun pre => flatE (pairsOf pre)) (fun pre v => True)) _) (ownFrom_below (Nat.le_refl _) (by simp; omega)))
    (fun _ _ _ _ _ hs _ _ => hs)
    ⟨⟨_, bO.alloc _, World.ownsRow_nil _ _ _ _, trivial⟩, hB0⟩
    (fun q => { tmps := #[.pointer (some ⟨p, 0, none⟩), undef, .slice none 0 0, .pointer (some ⟨w.heap.size, 0, none⟩), .int .i64 q.1.1, .int .i64 q.1.2, .pointer (some ⟨p, 0, none⟩), .func (.func 30) #[] #[.pointer (some ⟨w.heap.size + 1, 0, none⟩)], .int .i64 q.1.1, .int .i64 q.1.2, undef, undef, undef, undef, undef, undef, undef], defers := [] }) ?assign ?body ?done ?stop
  case assign =>
    intro l q W K hK
    unfold encP
    gi_wp2
    exact hK
  case body =>
    rintro l pre q W ⟨⟨v, hv, hrow, _⟩, hB⟩ hlt
    have hc := hv.cell
    have hpl : (pairsOf pre).length ≤ 1000 := by unfold pairsOf; rw [List.length_map]; omega
    gi_wp2_with (gi_at_builtin; refine wpListIn_append_own _ rfl _ _ 39 rfl w.heap.size 58 i0 (.agg #[.int .i64 0, .int .i64 0]) 2 16 Try.underlying39 hi hz0 hz1 hz2 rfl (by decide) _ _ _ rfl (hrow.alloc _) ⟨W.heap.size, 0, none⟩ 1 1 [.int .i64 q.1.1, .int .i64 q.1.2] rfl rfl (World.news_of_block (cs := #[.int .i64 q.1.1, .int .i64 q.1.2]) (t := 58) (fr := (0, 0)) (heap_alloc_new W _)) (by simp [Value.oneCell']) (by unfold maxLen; omega) (by omega) (by have := hB.size; simp; omega) ?_; intro v' w1 hown' hgrow _; obtain ⟨g', cap', rfl⟩ := ownsRow_succ hown'; obtain ⟨hv1, hv2, hr2, hk2, hb2⟩ := hv.appended (by decide) hrow hB.size (Nat.le_refl _) hown' hgrow; have hkp := fun B => kp_push (B := B) (v' := .slice (some ⟨g', 0, none⟩) ((pairsOf pre).length + 1) cap') hv hrow hgrow; have hc1 := hv1.cell; have hf1 := hv1.frozen)
    have hp : pairsOf (pre ++ [q]) = pairsOf pre ++ [q.1] := by simp [pairsOf]
    refine ⟨hk2.from _, hkp _, ⟨⟨_, hv2, ?_, trivial⟩, hB.trans hb2⟩⟩
    rw [hp, flatE_append, List.length_append]
    exact hr2
  case done =>
    rintro D zs W hD rfl ⟨⟨v, hv, hrow, _⟩, hB⟩ hK
    have hc := hv.cell
    gi_wp2
    refine ⟨by simp, .inl ⟨_, _, rfl, run_takeDeferred hK, ?_⟩⟩
    have hp : pairsOf zs = x.L := hys
    rw [hp] at hrow
    exact ⟨_, results_tmp rfl _ _ _, v, rfl, ownsRow_putObj hrow _ hK rfl, hB.trans (belowK_b (w := w) (Nat.le_refl _) W D _ _ (by simp at hD; omega) hK rfl rfl)⟩
  case stop =>
    rintro D c pre W _ _ h _
    exact h.elim

theorem all_any {p m : Nat} {x : Lg} (hx : x.Ok) (hlen : x.L.length ≤ 1000) (hwf : WfL x.L) {w : World} (h : HasL w p m x) :
    Calls Try.prog 16 #[.pointer (some ⟨p, 0, none⟩)] w fun e W' => ∃ v, e = .returned v ∧ W'.ownsRow w.heap.size 58 2 v x.L.length (flatE x.L) ∧ Below w.heap.size w W' :=
  (callsIn_wide (n := 7)).1 (all_in hx hlen hwf h)

set_option maxRecDepth 100000 in
set_option maxHeartbeats 2000000 in
theorem all_nil_in (w : World) : CallsIn Fence.wide 7 Try.prog 16 #[.pointer none] w fun e W' => e = .returned (.slice none 0 0) ∧ Below w.heap.size w W' := by
  have hfA : Fence.wide.fn 25 := trivial
  refine callsIn_of_wp_marks Try.func16 rfl trivial ?_ rfl
  simp only [Try.ntmps16, List.size_toArray, List.length_cons, List.length_nil, Nat.reduceAdd, Nat.reduceSub, Array.replicate_succ, Array.replicate_zero, List.push_toArray, List.append_toArray, List.nil_append, List.cons_append]
  gi_wp2_with (gi_at_call 25; refine (All_in _ _ _).mono ?_; rintro e w' ⟨rfl, rfl⟩)
  have bO := Boxed.new w 39 (.slice none 0 0)
  have bN := Boxed.new (w.alloc (.cells #[.slice none 0 0] 39)) 24 (.pointer none)
  rw [World.size_alloc] at bN
  have hB0 : Below w.heap.size w ((w.alloc (.cells #[.slice none 0 0] 39)).alloc (.cells #[.pointer none] 24)) := ((Below.refl _ w).alloc (Nat.le_refl _) _).alloc (by simp) _
  refine wpIn_rangeFunc_ownG rfl (by omega) (gf := 30) (lb := #[.pointer (some ⟨w.heap.size + 1, 0, none⟩)]) rfl trivial (enters_of Try.func30 (by kernel_rfl) rfl)
    (all_stops_nil (w.heap.size + 1) _ (by simp) bN.cell) KpB.trans (fun W l o o' hl ho hc hw => KpB.turn W l o o' hl ho hc hw) (Below.refl _ _) (fun _ => rfl)
    (fun pre W => Boxed W w.heap.size 39 (.slice none 0 0) ∧ Below w.heap.size w W)
    (fun _ _ _ => False)
    (OwnFrom.and (Own.from (fun s A B row hs hg hr => hs.kept hg (fun e' => by
      obtain ⟨o, ho, hc⟩ := hr w.heap.size e'.symm
      rw [show A.heap[w.heap.size]? = _ from hs] at ho
      cases ho
      cases hc)) _) (ownFrom_below (Nat.le_refl _) (by simp; omega)))
    (fun _ _ _ _ _ hs _ _ => hs)
    ⟨bO.alloc _, hB0⟩
    (fun q => { tmps := #[.pointer none, undef, .slice none 0 0, .pointer (some ⟨w.heap.size, 0, none⟩), .int .i64 q.1.1, .int .i64 q.1.2, .pointer none, .func (.func 30) #[] #[.pointer (some ⟨w.heap.size + 1, 0, none⟩)], .int .i64 q.1.1, .int .i64 q.1.2, undef, undef, undef, undef, undef, undef, undef], defers := [] }) ?assign ?body ?done ?stop
  case assign =>
    intro l q W K hK
    unfold encP
    gi_wp2
    exact hK
  case body =>
    rintro l pre q W _ hlt
    exact absurd hlt (Nat.not_lt_zero _)
  case done =>
    rintro D zs W hD rfl ⟨hv, hB⟩ hK
    have hc := hv.cell
    gi_wp2
    refine ⟨by simp, .inl ⟨_, _, rfl, run_takeDeferred hK, ?_⟩⟩
    exact ⟨_, results_tmp rfl _ _ _, rfl, hB.trans (belowK_b (w := w) (Nat.le_refl _) W D _ _ (by simp at hD; omega) hK rfl rfl)⟩
  case stop =>
    rintro D c pre W _ _ h _
    exact h.elim
theorem all_nil (w : World) : Calls Try.prog 16 #[.pointer none] w fun e W' => e = .returned (.slice none 0 0) ∧ Below w.heap.size w W' := (callsIn_wide (n := 7)).1 (all_nil_in w)

end Go.Proofs.Ythgjccbmfbileaa
