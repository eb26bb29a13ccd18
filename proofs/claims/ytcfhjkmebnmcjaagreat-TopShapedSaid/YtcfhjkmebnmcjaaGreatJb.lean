/- The policer's verdict, where no cell is too early. -/
import Derived.Test.YtcfhjkmebnmcjaaGreatJ
import Derived.Deep.DeepCutAuto
namespace Go.Proofs.YtcfhjkmebnmcjaaGreat
open Go.RowKit Go.Shelf
set_option linter.unusedVariables false
set_option linter.unusedSimpArgs false
attribute [local go_sem] Oper.semAt_some

/-- Each rule's bucket is there, and a cell fits. -/
def Fit (w : World) (rs : List Ru) (σ : Nat → Bk) (t : Int) : Prop := ∀ u ∈ rs, (σ u.b).Ok ∧ HasB w u.b (σ u.b) ∧ fitB (σ u.b) t = true

/-- While the verdict is found. -/
structure Vs (w W : World) (t : Int) : Prop where
  t : Boxed W w.heap.size 3 (.int .i64 t)
  v : Boxed W (w.heap.size + 1) 3 (.int .i64 1)
  bel : Below w.heap.size w W
  sz : w.heap.size + 4 ≤ W.heap.size
theorem Vs.drewN {w W : World} {t : Int} (h : Vs w W t) (n : Nat) : Vs w (W.drewN n) t := ⟨h.t, h.v, below_drewN h.bel n, h.sz⟩
theorem Vs.own {w A C : World} {t : Int} {B0 : Nat} {row : Option Nat} (h : Vs w A t) (hB : w.heap.size + 2 ≤ B0) (hg : A.grownBy C row)
    (hr : ∀ k, row = some k → B0 ≤ k ∧ ∃ o : Obj, A.heap[k]? = some o ∧ o.isCells = false) : Vs w C t := by
  have hn : ∀ k, k < B0 → some k ≠ row := fun k hk e => by have := (hr k e.symm).1; omega
  exact ⟨h.t.kept hg (hn _ (by omega)), h.v.kept hg (hn _ (by omega)), h.bel.grown hg h.bel.size (fun k e => by have := (hr k e).1; omega), Nat.le_trans h.sz hg.size⟩
theorem keeps_alloc (B : Nat) (W : World) (o : Obj) : KeepsFrom B W (W.alloc o) := ⟨by simp, fun k ob hB h _ => (Below.heap_alloc _ _ _ (Array.getElem?_eq_some_iff.1 h).1).trans h⟩

set_option maxRecDepth 100000 in
set_option maxHeartbeats 2000000 in
theorem verdict_at (pb rg cap : Nat) (al : Bool) (c : Int × Int × Int × Int) (rs : List Ru) (hn : rs.length ≤ 1000) (σ : Nat → Bk) (t : Int) (w : World) (hP : Pb w pb rg cap al rs.length c) (hR : Rb w rg rs) (hF : Fit w rs σ t) :
    Calls Tryz.prog 119 #[.pointer (some ⟨pb, 0, none⟩), .int .i64 t, .int .i64 0] w fun e W' => e = .returned (.int .i64 1) ∧ Below w.heap.size w W' := by
  refine (callsIn_wide (n := 7)).1 (callsIn_of_wp_marks Tryz.func119 rfl trivial ?_ rfl)
  simp only [Tryz.ntmps119, List.size_toArray, List.length_cons, List.length_nil, Nat.reduceAdd, Nat.reduceSub, Array.replicate_succ, Array.replicate_zero, List.push_toArray, List.append_toArray, List.nil_append, List.cons_append]
  have HP := Lib.hid (And.intro hP (And.intro hR hF))
  clear hP hR hF
  refine wpIn_wide.2 ?_
  go_wp2_with (first | go_step3 | (go_at_call 120; refine ((callsIn_wide (n := 7)).1 (asked_in 7 _ _ _)).mono ?_; rintro e w' ⟨rfl, rfl⟩))
  generalize hW0 : (((w.alloc (.cells #[.int .i64 t] 3)).alloc (.cells #[.int .i64 1] 3)).alloc (.cells #[.pointer (some ⟨pb, 0, none⟩)] 157)).alloc (.cells #[.int .i64 0] 3) = W0
  have hsz0 : W0.heap.size = w.heap.size + 4 := by rw [← hW0]; simp
  have hbel : Below w.heap.size w W0 := by
    rw [← hW0]
    exact ((((Below.refl _ _).alloc (Nat.le_refl _) _).alloc (by simp) _).alloc (by simp; omega) _).alloc (by simp; omega) _
  have h0 : Vs w W0 t := by
    refine ⟨?_, ?_, hbel, by omega⟩
    · rw [← hW0]; exact (((Boxed.new _ _ _).alloc _).alloc _).alloc _
    · rw [← hW0]; exact ((show Boxed _ _ _ _ from heap_new' _ (by simp)).alloc _).alloc _
  have hbp : Boxed W0 (w.heap.size + 2) 157 (.pointer (some ⟨pb, 0, none⟩)) := by rw [← hW0]; exact (show Boxed _ _ _ _ from heap_new' _ (by simp)).alloc _
  have hbc : Boxed W0 (w.heap.size + 3) 3 (.int .i64 0) := by rw [← hW0]; exact heap_new' _ (by simp)
  have hpl : pb < w.heap.size := (Array.getElem?_eq_some_iff.1 HP.out.1.h).1
  have hrl : rg < w.heap.size := by obtain ⟨cur, h1, _⟩ := HP.out.2.1; exact (Array.getElem?_eq_some_iff.1 h1).1
  have hP0 : Pb W0 pb rg cap al rs.length c := ⟨(hbel.block pb hpl).trans HP.out.1.h⟩
  have hR0 : Rb W0 rg rs := by obtain ⟨cur, h1, h2⟩ := HP.out.2.1; exact ⟨cur, (hbel.block rg hrl).trans h1, h2⟩
  refine (wpIn_wide (n := 7)).1 ?_
  refine wpIn_rangeFunc_ownH rfl (by omega) (gf := 137) (lb := #[.pointer (some ⟨w.heap.size + 1 + 1, 0, none⟩), .pointer (some ⟨w.heap.size + 1 + 1 + 1, 0, none⟩)]) rfl trivial (enters_of Tryz.func137 (by kernel_rfl) rfl)
    (asked_stops (w.heap.size + 2) (w.heap.size + 3) pb rg cap al c rs hn W0 (by omega) (by omega) hbp.cell hbc hP0 hR0) KpR.trans (fun W l o o' hl ho hc hw => KpR.turn (B := W0.heap.size) (by omega) (by omega) W l o o' hl) (Below.refl _ _) (fun _ => rfl)
    (fun pre W => Vs w W t)
    (fun c pre W => False)
    (fun pre C C' row hs hg hr => hs.own (B0 := W0.heap.size) (by omega) hg hr)
    (fun c pre C C' row hs hg hr => hs)
    h0
    (fun q a' W => ∃ b8, W.heap[b8]? = some (.cells q.1.cells.toArray 208 (0, 0)) ∧ a' = { tmps := #[.pointer (some ⟨pb, 0, none⟩), .int .i64 t, .int .i64 0, undef, .pointer (some ⟨w.heap.size, 0, none⟩), undef, .int .i64 0, .pointer (some ⟨w.heap.size + 1, 0, none⟩), .pointer (some ⟨b8, 0, none⟩), .pointer (some ⟨pb, 0, none⟩), .int .i64 0, .func (.func 137) #[] #[.pointer (some ⟨w.heap.size + 1 + 1, 0, none⟩), .pointer (some ⟨w.heap.size + 1 + 1 + 1, 0, none⟩)], .agg q.1.cells.toArray, undef, undef, undef, undef, undef, undef, undef, undef, undef, undef], defers := [] })
    (fun q a' _ C C' row hs hg hr => by
      obtain ⟨b8, h1, h2⟩ := hs
      refine ⟨b8, (hg.block b8 (Array.getElem?_eq_some_iff.1 h1).1 (fun e => ?_)).trans h1, h2⟩
      obtain ⟨_, o, ho, hc⟩ := hr b8 e.symm
      rw [h1] at ho
      cases ho
      cases hc) ?assign ?body ?done ?stop
  case assign =>
    intro l pre q W K hI hK
    have hK1 := hK { tmps := #[.pointer (some ⟨pb, 0, none⟩), .int .i64 t, .int .i64 0, undef, .pointer (some ⟨w.heap.size, 0, none⟩), undef, .int .i64 0, .pointer (some ⟨w.heap.size + 1, 0, none⟩), .pointer (some ⟨W.heap.size, 0, none⟩), .pointer (some ⟨pb, 0, none⟩), .int .i64 0, .func (.func 137) #[] #[.pointer (some ⟨w.heap.size + 1 + 1, 0, none⟩), .pointer (some ⟨w.heap.size + 1 + 1 + 1, 0, none⟩)], .agg q.1.cells.toArray, undef, undef, undef, undef, undef, undef, undef, undef, undef, undef], defers := [] } (W.alloc (.cells q.1.cells.toArray 208))
      (keeps_alloc _ _ _) ((KpR.refl _ _ _).alloc (by have := hI.bel.size; omega) (by have := hI.sz; omega) _) (hI.own (B0 := W0.heap.size) (row := none) (by omega) (World.grownBy_alloc _ _ _) (fun k e => by cases e)) ⟨_, heap_new' _ rfl, rfl⟩
    have HK := Lib.hid hK1
    clear hK hK1 hI
    unfold encI encU
    obtain ⟨⟨⟨s, e, z, tg⟩, b⟩, hq⟩ := q
    simp only [Ru.gate]
    gi_wp2_with fail
    exact HK.out
  case body =>
    rintro l pre q a' W hl hlp hN ⟨b8, h8, rfl⟩ hlt
    have hf25 : Fence.wide.fn 25 := trivial
    obtain ⟨hok, hbk, hft⟩ := HP.out.2.2 q.1 q.2
    have hbk' : HasB W q.1.b (σ q.1.b) := (hN.bel.block q.1.b hbk.lt).trans hbk
    have hfc := fits_any (σ q.1.b) hok q.1.b t W hbk'
    rw [hft] at hfc
    have HF := Lib.hid (CallsIn.inRound l ((callsIn_wide (n := 4)).2 hfc))
    have g4 : W.cell? ⟨b8, 4, none⟩ = some q.1.gate := by simp [World.cell?, h8, Ru.cells]
    have ct := hN.t.cell
    have HN := Lib.hid hN
    clear hok hbk hft hbk' hfc h8 hN
    obtain ⟨⟨⟨s, e, z, tg⟩, b⟩, hq⟩ := q
    simp only [Ru.gate] at g4 HF ⊢
    have hm : ∀ W, (method 389 36 (.pointer (some ⟨b, 0, none⟩)) "Fits").run Tryz.prog W = .ok (25, .pointer (some ⟨b, 0, none⟩)) W := fun _ => by kernel_rfl
    gi_wp2_with (gi_at_call 25; refine HF.out.mono ?_; rintro e w5 ⟨rfl, n5, rfl⟩)
    exact ⟨⟨Nat.le_refl _, fun k ob hB h _ => h⟩, ⟨Nat.le_refl _, rfl, rfl⟩, HN.out.drewN n5⟩
  case done =>
    rintro D xs W hD hxs hN1 hDd
    have cv := hN1.v.cell
    have HN := Lib.hid hN1
    have HD := Lib.hid (And.intro hDd hD)
    clear hN1 hDd hD hxs
    go_wp2_with fail
    rw [Exit.noGoto_ret]
    refine ⟨by simp, .inl ⟨_, _, rfl, run_takeDeferred HD.out.1, ?_⟩⟩
    exact ⟨_, results_tmp rfl _ _ _, rfl, HN.out.bel.trans (belowK_b (w := w) (Nat.le_refl _) W D _ _ (by have := HD.out.2; omega) HD.out.1 rfl rfl)⟩
  case stop =>
    rintro D c0 pre W hD hp h
    exact h.elim

end Go.Proofs.YtcfhjkmebnmcjaaGreat
