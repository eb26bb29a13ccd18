/- LedgerRoom's state in a range's rounds. -/
import Derived.Test.YthgjccbmfbileaaRooR
namespace Go.Proofs.Ythgjccbmfbileaa
open Go.RowKit Go.Maps Go.Shelf
set_option linter.unusedVariables false
set_option linter.unusedSimpArgs false

/-- What the range's rounds keep. -/
structure Rr (w W : World) (p m b4 b8 : Nat) (Ds : List Nat) (x : Lg) (n last : Int) (f : Bool) : Prop where
  ro : Ro w W p m b4 Ds false x
  k8 : Boxed W b8 3 (.int .i64 n)
  k9 : Boxed W (b8 + 1) 3 (.int .i64 last)
  k10 : Boxed W (b8 + 1 + 1) 4 (.bool f)
  hp : p < b8
  hm : m < b8
  h4 : b4 < b8
  hd : ∀ D ∈ Ds, D < b8

section
variable {w W : World} {p m b4 b8 : Nat} {Ds : List Nat} {x : Lg} {n last : Int} {f : Bool} (h : Rr w W p m b4 b8 Ds x n last f)
include h
theorem Rr.below {W' : World} (hb : Below W.heap.size W W') : Rr w W' p m b4 b8 Ds x n last f :=
  ⟨h.ro.below hb, Boxed.below h.k8 hb, Boxed.below h.k9 hb, Boxed.below h.k10 hb, h.hp, h.hm, h.h4, h.hd⟩
theorem Rr.drew : Rr w W.drew p m b4 b8 Ds x n last f := h.below ⟨rfl, rfl, rfl, Nat.le_refl _, fun _ _ => rfl⟩
theorem Rr.drewN (k : Nat) : Rr w (W.drewN k) p m b4 b8 Ds x n last f := h.below (below_drewN (Below.refl _ _) k)
theorem Rr.wb : w.heap.size ≤ b8 := Nat.le_of_lt (Nat.lt_of_le_of_lt h.ro.is.hp h.hp)
theorem Rr.far {W' : World} {r : Nat} (hk : Kept r r W W') (hr : b8 ≤ r) : Ro w W' p m b4 Ds false x :=
  h.ro.far hk (Nat.le_trans h.wb hr) (by have := h.hp; omega) (by have := h.hm; omega) (by have := h.h4; omega) (fun D hD => by have := h.hd D hD; omega)
theorem Rr.set8 (v : Int) : Rr w (W.setCell ⟨b8, 0, none⟩ (.int .i64 v)) p m b4 b8 Ds x v last f := by
  have hk := Kept.set (p := b8) (m := b8) W 0 (.int .i64 v)
  exact ⟨h.far hk (Nat.le_refl _), h.k8.set _, (hk.block _ (lt_of_block h.k9) (by omega) (by omega)).trans h.k9, (hk.block _ (lt_of_block h.k10) (by omega) (by omega)).trans h.k10, h.hp, h.hm, h.h4, h.hd⟩
theorem Rr.set9 (v : Int) : Rr w (W.setCell ⟨b8 + 1, 0, none⟩ (.int .i64 v)) p m b4 b8 Ds x n v f := by
  have hk := Kept.set (p := b8 + 1) (m := b8 + 1) W 0 (.int .i64 v)
  exact ⟨h.far hk (by omega), (hk.block _ (lt_of_block h.k8) (by omega) (by omega)).trans h.k8, h.k9.set _, (hk.block _ (lt_of_block h.k10) (by omega) (by omega)).trans h.k10, h.hp, h.hm, h.h4, h.hd⟩
theorem Rr.set10 (v : Bool) : Rr w (W.setCell ⟨b8 + 1 + 1, 0, none⟩ (.bool v)) p m b4 b8 Ds x n last v := by
  have hk := Kept.set (p := b8 + 1 + 1) (m := b8 + 1 + 1) W 0 (.bool v)
  exact ⟨h.far hk (by omega), (hk.block _ (lt_of_block h.k8) (by omega) (by omega)).trans h.k8, (hk.block _ (lt_of_block h.k9) (by omega) (by omega)).trans h.k9, h.k10.set _, h.hp, h.hm, h.h4, h.hd⟩
end

theorem Rr.own {w A C : World} {p m b4 b8 B0 : Nat} {Ds : List Nat} {x : Lg} {n last : Int} {f : Bool} {row : Option Nat} (h : Rr w A p m b4 b8 Ds x n last f) (hB : b8 + 2 < B0) (hg : A.grownBy C row)
    (hr : ∀ r, row = some r → B0 ≤ r ∧ ∃ o : Obj, A.heap[r]? = some o ∧ o.isCells = false) : Rr w C p m b4 b8 Ds x n last f := by
  have h1 := h.wb; have h2 := h.hp; have h3 := h.hm; have h5 := h.h4
  refine ⟨h.ro.own (B0 := B0) (by omega) (by omega) (by omega) (fun D hD => by have := h.hd D hD; omega) (by omega) hg hr, h.k8.kept hg ?_, h.k9.kept hg ?_, h.k10.kept hg ?_, h2, h3, h5, h.hd⟩
  all_goals
    intro e
    have := (hr _ e.symm).1
    omega

/-- The state with the range's mark beside it. -/
theorem Rr.mark {w W : World} {p m b4 b8 D : Nat} {Ds : List Nat} {x : Lg} {n last : Int} {f : Bool} (h : Rr w W p m b4 b8 Ds x n last f) (hD : W.heap[D]? = some (.deferred (some []))) (hb : b8 ≤ D) : Ro w W p m b4 (D :: Ds) false x :=
  ⟨h.ro.is, h.ro.b4, (fun E hE => by (rcases List.mem_cons.1 hE with rfl | hE); exact hD; exact h.ro.dd E hE), List.nodup_cons.2 ⟨fun hE => by have := h.hd D hE; omega, h.ro.nd⟩,
   (fun E hE => by (rcases List.mem_cons.1 hE with rfl | hE); exact Nat.le_trans h.wb hb; exact h.ro.lo E hE)⟩

/-- Behind the range. -/
structure Rx (w W : World) (p m b4 b8 D : Nat) (Ds : List Nat) (x : Lg) (n last : Int) (f : Bool) : Prop where
  rr : Rr w W p m b4 b8 Ds x n last f
  dd : W.heap[D]? = some (.deferred (some []))
section
variable {w W : World} {p m b4 b8 D : Nat} {Ds : List Nat} {x : Lg} {n last : Int} {f : Bool} (h : Rx w W p m b4 b8 D Ds x n last f)
include h
theorem Rx.below {W' : World} (hb : Below W.heap.size W W') : Rx w W' p m b4 b8 D Ds x n last f :=
  ⟨h.rr.below hb, (hb.block D (Array.getElem?_eq_some_iff.1 h.dd).1).trans h.dd⟩
theorem Rx.drew : Rx w W.drew p m b4 b8 D Ds x n last f := h.below ⟨rfl, rfl, rfl, Nat.le_refl _, fun _ _ => rfl⟩
theorem Rx.drewN (k : Nat) : Rx w (W.drewN k) p m b4 b8 D Ds x n last f := h.below (below_drewN (Below.refl _ _) k)
theorem Rx.used {t : Int} (ht : tot x.L = t) : Calls Try.prog 23 #[.pointer (some ⟨p, 0, none⟩)] W fun e w' => e = .returned (.int .i64 t) ∧ Rx w w' p m b4 b8 D Ds x n last f := by
  refine (used_at h.rr.ro.is.has ht).mono ?_
  rintro e w' ⟨rfl, k, rfl⟩
  exact ⟨rfl, h.drewN k⟩
theorem Rx.left {t : Int} (ht : x.room - tot x.L = t) : Calls Try.prog 13 #[.pointer (some ⟨p, 0, none⟩)] W fun e w' => e = .returned (.int .i64 t) ∧ Rx w w' p m b4 b8 D Ds x n last f := by
  refine (left_at h.rr.ro.is.ok h.rr.ro.is.has ht).mono ?_
  rintro e w' ⟨rfl, k, rfl⟩
  exact ⟨rfl, h.drewN k⟩
end

/-- The frame of a round's body: a return. -/
def RStop (c : Code) (pre : List I64P) (W : World) : Prop := c = .ret ∧ ∃ pre0 q, pre = pre0 ++ [q] ∧ badq pre0 q

end Go.Proofs.Ythgjccbmfbileaa
