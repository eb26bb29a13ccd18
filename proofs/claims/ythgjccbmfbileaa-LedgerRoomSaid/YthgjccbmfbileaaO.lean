/- How a slice of structs of three integers, handed in, is told to a walk; ledger's 'do', and what a list of such does. -/
import Derived.Test.YthgjccbmfbileaaA
import Derived.Deep.Slices
import Derived.Deep.Fields
import Derived.ChangeSame
import Derived.OpenShut
import Derived.LoopTactic
import Derived.OwnWalk
namespace Go.Proofs.Ythgjccbmfbileaa
open Go.RowKit Go.Maps Go.Deep Go.ChangeShapes Go.WideShapes
set_option linter.unusedVariables false
set_option linter.unusedSimpArgs false

abbrev Op3 := Int × Int × Int
def opAt (zs : List Op3) (j : Nat) : Op3 := zs[j]?.getD (0, 0, 0)

/-- A slice of such that is only read: it is empty; or it leads to cells that hold the numbers. -/
def RdO (w : World) (A : Option Addr) (zs : List Op3) : Prop :=
  zs = [] ∨ ∃ b off, A = some ⟨b, off, none⟩ ∧ b < w.heap.size ∧ ∀ j, j < zs.length → w.cell? ⟨b, off + j * 3, none⟩ = some (.int .i64 (opAt zs j).1) ∧ w.cell? ⟨b, off + j * 3 + 1, none⟩ = some (.int .i64 (opAt zs j).2.1) ∧ w.cell? ⟨b, off + j * 3 + 1 + 1, none⟩ = some (.int .i64 (opAt zs j).2.2)
/-- All of them are ints. -/
def WfO (zs : List Op3) : Prop := ∀ j : Nat, (Lit.int .i64 (opAt zs j).1).wf = true ∧ (Lit.int .i64 (opAt zs j).2.1).wf = true ∧ (Lit.int .i64 (opAt zs j).2.2).wf = true

theorem addp (b off j : Nat) : (⟨b, off, none⟩ : Addr).add j = ⟨b, off + j, none⟩ := by unfold Addr.add; split <;> simp_all

theorem open_ops3 {H : Type} {enc : TypeId × Value → H} {P : Program} {w : World} {base : Nat} {spare : Nat → Bool} {held : Bool} {t e : TypeId} {f0 f1 f2 : Field} {fuel len cap : Nat} {a : Option Addr} {x : DataW H × List MemPlace}
    (ht : P.underlying t = some (.slice e)) (he : P.underlying e = some (.struct #[f0, f1, f2])) (ce : P.cellsOf e = 3) (hone : oneCellFields P #[f0, f1, f2] = true)
    (u0 : P.underlying f0.type = some (.int .i64)) (u1 : P.underlying f1.type = some (.int .i64)) (u2 : P.underlying f2.type = some (.int .i64))
    (h : DataW.trod enc P w base spare held fuel t [.slice a len cap] = some x) : ∃ zs : List Op3, zs.length = len ∧ RdO w a zs ∧ WfO zs := by
  rcases open_slice ht h with ⟨hcs, _⟩ | ⟨ad, l, c, m, n, D, Pl, hcs, hb, hl, hm, hmm, hx, hi⟩
  · simp at hcs
    obtain ⟨rfl, rfl, rfl⟩ := hcs
    exact ⟨[], rfl, .inl rfl, fun j => by simp [opAt]; decide⟩
  · simp at hcs
    obtain ⟨rfl, rfl, rfl⟩ := hcs
    have hlm : len ≤ m := by rw [hmm]; split <;> omega
    obtain ⟨o0, k0⟩ := hone_of hone 0 f0 rfl
    obtain ⟨o1, k1⟩ := hone_of hone 1 f1 rfl
    obtain ⟨o2, k2⟩ := hone_of hone 2 f2 rfl
    have each : ∀ i, i < len → ∃ q : Op3, (w.cell? (ad.add (i * 3)) = some (.int .i64 q.1) ∧ w.cell? (ad.add (i * 3 + 1)) = some (.int .i64 q.2.1) ∧ w.cell? (ad.add (i * 3 + 2)) = some (.int .i64 q.2.2)) ∧
        (Lit.int .i64 q.1).wf = true ∧ (Lit.int .i64 q.2.1).wf = true ∧ (Lit.int .i64 q.2.2).wf = true := by
      intro i hil
      obtain ⟨cs', h1, h2⟩ := hi i (by omega)
      rw [ce] at h1
      obtain ⟨_, hlen, hcell⟩ := World.cells?_some h1
      obtain ⟨ys, n', _, _, _, hyl, hf⟩ := DataW.trod_struct he h2
      match cs', hlen with
      | [v0, v1, v2], _ =>
        have g0 := hf 0 f0 rfl
        have g1 := hf 1 f1 rfl
        have g2 := hf 2 f2 rfl
        have hy0 : ys[0]? = some (ys[0]'(by rw [hyl]; simp)) := List.getElem?_eq_getElem _
        have hy1 : ys[1]? = some (ys[1]'(by rw [hyl]; simp)) := List.getElem?_eq_getElem _
        have hy2 : ys[2]? = some (ys[2]'(by rw [hyl]; simp)) := List.getElem?_eq_getElem _
        rw [hy0, o0, k0] at g0
        rw [hy1, o1, k1] at g1
        rw [hy2, o2, k2] at g2
        obtain ⟨z0, e0, _, w0⟩ := DataW.trod_int u0 g0
        obtain ⟨z1, e1, _, w1⟩ := DataW.trod_int u1 g1
        obtain ⟨z2, e2, _, w2⟩ := DataW.trod_int u2 g2
        simp at e0 e1 e2
        have d0 := hcell 0 (by omega)
        have d1 := hcell 1 (by omega)
        have d2 := hcell 2 (by omega)
        rw [add_add] at d0 d1 d2
        exact ⟨(z0, z1, z2), ⟨by simpa [e0] using d0, by simpa [e1] using d1, by simpa [e2] using d2⟩, w0, w1, w2⟩
    obtain ⟨q, hq⟩ := choose_lt each
    have hat : ∀ j, j < len → opAt ((List.range len).map q) j = q j := fun j hj => by unfold opAt; rw [List.getElem?_map, List.getElem?_range hj]; rfl
    refine ⟨(List.range len).map q, by simp, ?_, fun j => ?_⟩
    · rcases Nat.eq_zero_or_pos len with h0 | h0
      · exact .inl (by rw [h0]; rfl)
      · obtain ⟨b, off, spot⟩ := ad
        have hspot : spot = none := by simpa [Addr.add] using World.cell?_spot (hq 0 h0).1.1
        subst hspot
        refine .inr ⟨b, off, rfl, World.block_lt_of_cell? w _ (by have := (hq 0 h0).1.1; rw [addp] at this; exact this), fun j hj => ?_⟩
        simp only [List.length_map, List.length_range] at hj
        rw [hat j hj]
        have := (hq j hj).1
        rw [addp, addp, addp] at this
        exact this
    · rcases Nat.lt_or_ge j len with hj | hj
      · rw [hat j hj]; exact (hq j hj).2
      · unfold opAt
        rw [List.getElem?_eq_none (by simp; exact hj)]
        simp
        decide

/-- What happens to a ledger: book, change, free, or nothing. -/
def doS (x : Lg) (o : Op3) : Lg := if o.1 = 1 then bookS x o.2.1 o.2.2 else if o.1 = 2 then changeS x o.2.1 o.2.2 else if o.1 = 3 then freeS x o.2.1 else x
def doE (x : Lg) (o : Op3) : Int := if o.1 = 1 then bookE x o.2.1 o.2.2 else if o.1 = 2 then changeE x o.2.1 o.2.2 else 0
def doN (x : Lg) (o : Op3) : Int := if o.1 = 1 then 0 else if o.1 = 2 then 0 else if o.1 = 3 then (look x.L o.2.1).getD 0 else 0

theorem doS_ok {x : Lg} (hx : x.Ok) (o : Op3) : (doS x o).Ok := by
  unfold doS
  split
  · exact bookS_ok hx _ _
  · split
    · exact changeS_ok hx _ _
    · split
      · exact freeS_ok hx _
      · exact hx
theorem bookS_len (x : Lg) (id need : Int) : (bookS x id need).L.length ≤ x.L.length + 1 := by
  unfold bookS; split
  · simp [length_ins]
  · omega
theorem changeS_len (x : Lg) (id need : Int) : (changeS x id need).L.length ≤ x.L.length + 1 := by
  unfold changeS; split
  · simp only [length_ins]; have := length_del x.L id; omega
  · omega
theorem doS_len (x : Lg) (o : Op3) : (doS x o).L.length ≤ x.L.length + 1 := by
  unfold doS
  split
  · exact bookS_len _ _ _
  · split
    · exact changeS_len _ _ _
    · split
      · show (del x.L _).length ≤ _
        have := length_del x.L o.2.1
        omega
      · omega
theorem bookS_room (x : Lg) (id need : Int) : (bookS x id need).room = x.room := by unfold bookS; split <;> rfl
theorem changeS_room (x : Lg) (id need : Int) : (changeS x id need).room = x.room := by unfold changeS; split <;> rfl
theorem doS_room (x : Lg) (o : Op3) : (doS x o).room = x.room := by
  unfold doS
  split
  · exact bookS_room _ _ _
  · split
    · exact changeS_room _ _ _
    · split <;> rfl

theorem Turns.alloc {p m : Nat} {y : Lg} {v : Value} {w : World} {o : Obj} {e : Ending} {w' : World} (h : Turns p m y v (w.alloc o) e w') : Turns p m y v w e w' :=
  ⟨h.1, h.2.1, (Kept.grown (World.grownBy_alloc w o none) (.inl rfl)).trans h.2.2⟩

theorem do_any (x : Lg) (hx : x.Ok) (p m : Nat) (o : Op3) (h1 : (Lit.int .i64 o.2.1).wf = true) (hlen : x.L.length < 1000000) (w : World) (h : HasL w p m x) :
    Calls Try.prog 11 #[.pointer (some ⟨p, 0, none⟩), .agg #[.int .i64 o.1, .int .i64 o.2.1, .int .i64 o.2.2]] w (Turns p m (doS x o) (.tuple #[.int .i64 (doE x o), .int .i64 (doN x o)]) w) := by
  obtain ⟨d, id, need⟩ := o
  simp only at h1
  have hw : HasL (w.alloc (.cells #[.int .i64 d, .int .i64 id, .int .i64 need] 30)) p m x := h.kept (World.grownBy_alloc w _ none) (by simp) (by simp)
  have HH := Lib.hid hw
  clear h hw
  by_cases d1 : d = 1
  · subst d1
    have hk := book_any x hx p m id need h1 hlen _ HH.out
    go_enter Try.func11, Try.ntmps11
    go_wp2_with (go_at_call 14; refine hk.mono ?_; rintro e w1 ⟨rfl, h3, h4⟩)
    go_ret2
    exact Turns.alloc ⟨rfl, h3, h4⟩
  · by_cases d2 : d = 2
    · subst d2
      have hk := change_any x hx p m id need h1 hlen _ HH.out
      go_enter Try.func11, Try.ntmps11
      go_wp2_with (go_at_call 26; refine hk.mono ?_; rintro e w1 ⟨rfl, h3, h4⟩)
      go_ret2
      exact Turns.alloc ⟨rfl, h3, h4⟩
    · by_cases d3 : d = 3
      · subst d3
        have hk := free_any x hx p m id h1 _ HH.out
        go_enter Try.func11, Try.ntmps11
        go_wp2_with (go_at_call 12; refine hk.mono ?_; rintro e w1 ⟨rfl, h3, h4⟩)
        go_ret2
        exact Turns.alloc ⟨rfl, h3, h4⟩
      · have e1 : doS x (d, id, need) = x := by unfold doS; simp only; rw [if_neg d1, if_neg d2, if_neg d3]
        have e2 : doE x (d, id, need) = 0 := by unfold doE; simp only; rw [if_neg d1, if_neg d2]
        have e3 : doN x (d, id, need) = 0 := by unfold doN; simp only; rw [if_neg d1, if_neg d2, if_neg d3]
        rw [e1, e2, e3]
        clear e1 e2 e3
        have f1 : (d == 1) = false := by simpa using d1
        have f2 : (d == 2) = false := by simpa using d2
        have f3 : (d == 3) = false := by simpa using d3
        clear d1 d2 d3
        go_enter Try.func11, Try.ntmps11
        go_wp2
        go_ret2
        exact Turns.alloc (Turns.same HH.out 0)

end Go.Proofs.Ythgjccbmfbileaa
