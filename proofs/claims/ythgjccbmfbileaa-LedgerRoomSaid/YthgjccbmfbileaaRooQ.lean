/- The marks that LedgerRoom's loops leave; its state. -/
import Derived.Test.YthgjccbmfbileaaRooP
namespace Go.Proofs.Ythgjccbmfbileaa
open Go.RowKit Go.Maps Go.Shelf
set_option linter.unusedVariables false
set_option linter.unusedSimpArgs false

/-- The marks. -/
def marksOf (Ds : List Nat) : List Deferred := Ds.map fun D => { target := .collected D, args := #[] }

/-- The state between two rounds. -/
structure Ro (w W : World) (p m b4 : Nat) (Ds : List Nat) (r : Bool) (x : Lg) : Prop where
  is : Is w W p m x
  b4 : Boxed W b4 4 (.bool r)
  dd : ∀ D ∈ Ds, W.heap[D]? = some (.deferred (some []))
  nd : Ds.Nodup
  lo : ∀ D ∈ Ds, w.heap.size ≤ D

section
variable {w W : World} {p m b4 : Nat} {Ds : List Nat} {r : Bool} {x : Lg} (h : Ro w W p m b4 Ds r x)
include h
theorem Ro.below {W' : World} (hb : Below W.heap.size W W') : Ro w W' p m b4 Ds r x :=
  ⟨h.is.below hb, Boxed.below h.b4 hb, fun D hD => (hb.block D (Array.getElem?_eq_some_iff.1 (h.dd D hD)).1).trans (h.dd D hD), h.nd, h.lo⟩
theorem Ro.drew : Ro w W.drew p m b4 Ds r x := h.below ⟨rfl, rfl, rfl, Nat.le_refl _, fun _ _ => rfl⟩
theorem Ro.drewN (n : Nat) : Ro w (W.drewN n) p m b4 Ds r x := h.below (below_drewN (Below.refl _ _) n)
theorem Ro.kept {W' : World} {y : Lg} (h1 : Is w W' p m y) (hk : Kept p m W W') : Ro w W' p m b4 Ds r y := by
  refine ⟨h1, Boxed.kept' h.b4 h.is.has (by decide) hk, fun D hD => ?_, h.nd, h.lo⟩
  have hd := h.dd D hD
  refine (hk.block D (Array.getElem?_eq_some_iff.1 hd).1 ?_ ?_).trans hd
  · rintro rfl
    have h2 := h.is.has.cells
    rw [hd] at h2
    simp at h2
  · rintro rfl
    obtain ⟨es, clock, hb, _⟩ := h.is.has.own
    rw [hd] at hb
    simp at hb
theorem Ro.does {o : Op3} (hwi : (Lit.int .i64 o.2.1).wf = true) (hlen : x.L.length < 1000000) {y : Lg} (hy : doS x o = y) :
    Calls Try.prog 11 #[.pointer (some ⟨p, 0, none⟩), .agg #[.int .i64 o.1, .int .i64 o.2.1, .int .i64 o.2.2]] W fun e w' => e = .returned (.tuple #[.int .i64 (doE x o), .int .i64 (doN x o)]) ∧ Ro w w' p m b4 Ds r y := by
  refine (h.is.does hwi hlen hy).mono ?_
  rintro e w' ⟨rfl, h1, h2⟩
  exact ⟨rfl, h.kept h1 h2⟩
end

theorem results6 (tmps : Array Value) (w : World) (b4 : Nat) (v : Value) (ht : tmps.getD 4 undef = .pointer (some ⟨b4, 0, none⟩)) (hb : Boxed w b4 4 v) :
    (results Try.f6 tmps).run Try.prog w = .ok v w := by
  have hc := hb.cell
  have h : Try.f6.results = #[.cell 4 4] := rfl
  have ht' : tmps[4]?.getD undef = .pointer (some ⟨b4, 0, none⟩) := by simpa using ht
  simp [results, h, ht', loadVar, go_sem, run_isAgg_plain (P := Try.prog) Try.underlying4 rfl, hc]

theorem leaves_marks {w : World} {b4 : Nat} {r : Bool} {tmps : Array Value} (ht : tmps.getD 4 undef = .pointer (some ⟨b4, 0, none⟩)) : ∀ (Ds : List Nat) (W : World), Below w.heap.size w W → Boxed W b4 4 (.bool r) → (∀ D ∈ Ds, W.heap[D]? = some (.deferred (some []))) → Ds.Nodup → (∀ D ∈ Ds, w.heap.size ≤ D) →
    LeavesInM Fence.wide 7 Try.prog Try.f6 tmps (fun e w' => e = .returned (.bool r) ∧ Below w.heap.size w w') (marksOf Ds) .returning W := by
  intro Ds
  induction Ds with
  | nil => exact fun W hb h4 _ _ _ => ⟨_, results6 tmps W b4 _ ht h4, rfl, hb⟩
  | cons D Ds ih =>
    intro W hb h4 hd hn hl
    have hD := hd D List.mem_cons_self
    refine ⟨by simp, .inl ⟨D, _, rfl, run_takeDeferred hD, ih _ ?_ ?_ ?_ (List.nodup_cons.1 hn).2 (fun E hE => hl E (List.mem_cons_of_mem _ hE))⟩⟩
    · exact hb.trans (belowK_b (w := w) (Nat.le_refl _) W D _ _ (hl D List.mem_cons_self) hD rfl rfl)
    · exact h4.kept (grownBy_putObj' W D _) (fun e => by
        simp only [Option.some.injEq] at e
        subst e
        rw [show W.heap[b4]? = _ from h4] at hD
        simp at hD)
    · intro E hE
      have hne : E ≠ D := fun e => (List.nodup_cons.1 hn).1 (e ▸ hE)
      rw [World.putObj_heap_other hne]
      exact hd E (List.mem_cons_of_mem _ hE)

theorem leaves_set {w W : World} {p m b4 : Nat} {Ds : List Nat} {r : Bool} {x : Lg} {tmps : Array Value} (h : Ro w W p m b4 Ds r x) (hc : w.heap.size = b4) (r' : Bool) (ht : tmps.getD 4 undef = .pointer (some ⟨b4, 0, none⟩)) :
    LeavesInM Fence.wide 7 Try.prog Try.f6 tmps (fun e w' => e = .returned (.bool r') ∧ Below b4 w w') (marksOf Ds) .returning (W.setCell ⟨b4, 0, none⟩ (.bool r')) := by
  have hk := Kept.set (p := b4) (m := b4) W 0 (.bool r')
  have hl := leaves_marks (w := w) (r := r') ht Ds _ (Kept.below h.is.bel hk h.is.bel.size (by omega) (by omega)) (h.b4.set _) (fun D hD => by
    have hd := h.dd D hD
    have hne : D ≠ b4 := by
      rintro rfl
      have h4 : W.heap[D]? = _ := h.b4
      rw [hd] at h4
      simp at h4
    exact (hk.block D (Array.getElem?_eq_some_iff.1 hd).1 hne hne).trans hd) h.nd h.lo
  rw [hc] at hl
  exact hl

end Go.Proofs.Ythgjccbmfbileaa
