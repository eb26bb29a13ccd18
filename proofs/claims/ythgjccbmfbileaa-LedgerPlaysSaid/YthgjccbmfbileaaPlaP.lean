/- Both ledgers side by side. -/
import Derived.Test.YthgjccbmfbileaaRg
namespace Go.Proofs.Ythgjccbmfbileaa
open Go.RowKit Go.Maps
set_option linter.unusedVariables false
set_option linter.unusedSimpArgs false

/-- The program's ledger and the reference's, on one heap; v is the reference's row. -/
structure DuV (w W : World) (p m q : Nat) (x z : Lg) (v : Value) : Prop where
  is : Is w W p m x
  has : Rf.HasF W q z.room v
  row : ERow W w.heap.size v z.L
  hq : w.heap.size ≤ q
  ok : z.Ok
def Duo (w W : World) (p m q : Nat) (x z : Lg) : Prop := ∃ v, DuV w W p m q x z v

section
variable {w W : World} {p m q : Nat} {x z : Lg} {v : Value} (h : DuV w W p m q x z v)
include h
theorem DuV.np : q ≠ p := by
  rintro rfl
  have h1 := h.is.has.cells
  have h2 := h.has
  unfold Rf.HasF at h2
  rw [h1] at h2
  simp at h2
theorem DuV.nm : q ≠ m := by
  rintro rfl
  obtain ⟨es, clock, hb, _⟩ := h.is.has.own
  have h2 := h.has
  unfold Rf.HasF at h2
  rw [hb] at h2
  simp at h2
theorem DuV.left {W' : World} {y : Lg} (h1 : Is w W' p m y) (hk : Kept p m W W') : DuV w W' p m q y z v :=
  ⟨h1, (hk.block q h.has.lt h.np h.nm).trans h.has, row_kept h.row h.is.has hk, h.hq, h.ok⟩
theorem DuV.right {W' : World} {y : Lg} (h1 : Rf.Has W' w.heap.size q y) (hk : Rf.Kp1 q W W') (hy : y.Ok) : Duo w W' p m q x y := by
  obtain ⟨u, k1, k2⟩ := h1
  have hkk : Kept q q W W' := ⟨hk.os, hk.tape, hk.output, hk.size, fun k hk1 h2 _ => hk.block k hk1 h2⟩
  have n1 := h.np
  have n2 := h.nm
  exact ⟨u, ⟨h.is.has.kept2 hkk n1.symm n1.symm n2.symm n2.symm, h.is.ok, h.is.wf, Kept.below h.is.bel hkk h.is.bel.size h.hq h.hq, h.is.hp, h.is.hm⟩, k1, k2, h.hq, hy⟩
theorem DuV.below {W' : World} (hb : Below W.heap.size W W') : DuV w W' p m q x z v :=
  ⟨h.is.below hb, h.has.below hb, row_below h.row hb, h.hq, h.ok⟩
theorem DuV.drewN (n : Nat) : DuV w (W.drewN n) p m q x z v := h.below (below_drewN (Below.refl _ _) n)
end

section
variable {w W : World} {p m q : Nat} {x z : Lg} (h : Duo w W p m q x z)
include h
theorem Duo.drewN (n : Nat) : Duo w (W.drewN n) p m q x z := by obtain ⟨v, h⟩ := h; exact ⟨v, h.drewN n⟩
theorem Duo.below {W' : World} (hb : Below W.heap.size W W') : Duo w W' p m q x z := by obtain ⟨v, h⟩ := h; exact ⟨v, h.below hb⟩
theorem Duo.box (c : Array Value) (t : TypeId) : Duo w (W.alloc (.cells c t)) p m q x z := h.below ((Below.refl _ _).alloc (Nat.le_refl _) _)
theorem Duo.boxed {a b d : Value} {t : TypeId} {W' : World} (hk : Kept p m (W.alloc (.cells #[a, b, d] t)) W') : W'.cell? ⟨W.heap.size, 0, none⟩ = some a ∧ W'.cell? ⟨W.heap.size, 1, none⟩ = some b ∧ W'.cell? ⟨W.heap.size, 2, none⟩ = some d := by
  obtain ⟨v, h⟩ := h
  have h1 := h.is.has.lt
  have h2 := h.is.has.own.lt
  have hb : W'.heap[W.heap.size]? = some (.cells #[a, b, d] t (0, 0)) := (hk.block W.heap.size (by rw [World.size_alloc]; omega) (by omega) (by omega)).trans (heap_alloc_new _ _)
  refine ⟨?_, ?_, ?_⟩ <;> simp [World.cell?, hb]
theorem Duo.does {o : Op3} (hwi : (Lit.int .i64 o.2.1).wf = true) (hlen : x.L.length < 1000000) {y : Lg} (hy : doS x o = y) {E n : Int} (hE : doE x o = E) (hN : doN x o = n) :
    Calls Try.prog 11 #[.pointer (some ⟨p, 0, none⟩), .agg #[.int .i64 o.1, .int .i64 o.2.1, .int .i64 o.2.2]] W fun e w' => e = .returned (.tuple #[.int .i64 E, .int .i64 n]) ∧ Duo w w' p m q y z ∧ Kept p m W w' := by
  obtain ⟨v, h⟩ := h
  refine (h.is.does hwi hlen hy).mono ?_
  rintro e w' ⟨rfl, h1, h2⟩
  exact ⟨by rw [hE, hN], ⟨v, h.left h1 h2⟩, h2⟩
theorem Duo.book {id need r : Int} {y : Lg} (hlen : z.L.length ≤ 100000) (hr : bookE z id need = r) (hy : bookS z id need = y) :
    Calls Try.prog 18 #[.pointer (some ⟨q, 0, none⟩), .int .i64 id, .int .i64 need] W fun e w' => e = .returned (.int .i64 r) ∧ Duo w w' p m q x y := by
  obtain ⟨v, h⟩ := h
  refine (Rf.rbook_any id need ⟨v, h.has, h.row⟩ h.is.bel.size h.ok hlen).mono ?_
  rintro e w' ⟨rfl, h1, h2⟩
  rw [hy] at h1
  exact ⟨by rw [hr], h.right h1 h2 (by rw [← hy]; exact bookS_ok h.ok _ _)⟩
theorem Duo.change {id need r : Int} {y : Lg} (hlen : z.L.length ≤ 100000) (hr : changeE z id need = r) (hy : changeS z id need = y) :
    Calls Try.prog 19 #[.pointer (some ⟨q, 0, none⟩), .int .i64 id, .int .i64 need] W fun e w' => e = .returned (.int .i64 r) ∧ Duo w w' p m q x y := by
  obtain ⟨v, h⟩ := h
  refine (Rf.rchange_any id need ⟨v, h.has, h.row⟩ h.is.bel.size h.ok hlen).mono ?_
  rintro e w' ⟨rfl, h1, h2⟩
  rw [hy] at h1
  exact ⟨by rw [hr], h.right h1 h2 (by rw [← hy]; exact changeS_ok h.ok _ _)⟩
theorem Duo.free {id v : Int} {b : Bool} {y : Lg} (hlen : z.L.length ≤ 100000) (hv : (look z.L id).getD 0 = v) (hb : (look z.L id).isSome = b) (hy : freeS z id = y) :
    Calls Try.prog 20 #[.pointer (some ⟨q, 0, none⟩), .int .i64 id] W fun e w' => e = .returned (.tuple #[.int .i64 v, .bool b]) ∧ Duo w w' p m q x y := by
  obtain ⟨u, h⟩ := h
  refine (Rf.rfree_any id ⟨u, h.has, h.row⟩ h.is.bel.size hlen hv hb hy).mono ?_
  rintro e w' ⟨rfl, h1, h2⟩
  exact ⟨rfl, h.right h1 h2 (by rw [← hy]; exact freeS_ok h.ok _)⟩
theorem Duo.get {id v : Int} {b : Bool} (hwi : (Lit.int .i64 id).wf = true) (hv : (look x.L id).getD 0 = v) (hb : (look x.L id).isSome = b) :
    Calls Try.prog 21 #[.pointer (some ⟨p, 0, none⟩), .int .i64 id] W fun e w' => e = .returned (.tuple #[.int .i64 v, .bool b]) ∧ Duo w w' p m q x z := by
  refine (get_at hwi h.choose_spec.is.has hv hb).mono ?_
  rintro e w' ⟨rfl, n, rfl⟩
  exact ⟨rfl, h.drewN n⟩
theorem Duo.get2 {id v : Int} {b : Bool} (hlen : z.L.length ≤ 100000) (hv : (look z.L id).getD 0 = v) (hb : (look z.L id).isSome = b) :
    Calls Try.prog 22 #[.pointer (some ⟨q, 0, none⟩), .int .i64 id] W fun e w' => e = .returned (.tuple #[.int .i64 v, .bool b]) ∧ Duo w w' p m q x z := by
  obtain ⟨u, h⟩ := h
  obtain ⟨A, c, ev, hr2, _⟩ := Rf.row2_of h.row
  subst ev
  refine (Rf.get_any id h.has hr2.rd hlen hv hb).mono ?_
  rintro e w' ⟨rfl, rfl⟩
  exact ⟨rfl, _, h⟩
theorem Duo.open : ∃ A c, DuV w W p m q x z (.slice A z.L.length c) := by
  obtain ⟨u, h⟩ := h
  obtain ⟨A, c, ev, hr2, _⟩ := Rf.row2_of h.row
  subst ev
  exact ⟨A, c, h⟩
end

theorem DuV.drew {w W : World} {p m q : Nat} {x z : Lg} {v : Value} (h : DuV w W p m q x z v) : DuV w W.drew p m q x z v := h.below ⟨rfl, rfl, rfl, Nat.le_refl _, fun _ _ => rfl⟩
section
variable {w W : World} {p m q N c : Nat} {x z : Lg} {A : Option Addr} (h : DuV w W p m q x z (.slice A N c))
include h
theorem DuV.used {t : Int} (ht : tot x.L = t) : Calls Try.prog 23 #[.pointer (some ⟨p, 0, none⟩)] W fun e w' => e = .returned (.int .i64 t) ∧ DuV w w' p m q x z (.slice A N c) := by
  refine (used_at h.is.has ht).mono ?_
  rintro e w' ⟨rfl, n, rfl⟩
  exact ⟨rfl, h.drewN n⟩
theorem DuV.used2 {t : Int} (hlen : z.L.length ≤ 100000) (ht : tot z.L = t) : Calls Try.prog 24 #[.pointer (some ⟨q, 0, none⟩)] W fun e w' => e = .returned (.int .i64 t) ∧ DuV w w' p m q x z (.slice A N c) := by
  obtain ⟨A', c', ev, hr2, _⟩ := Rf.row2_of h.row
  have hh := h.has
  rw [ev] at hh
  refine (Rf.used_any hh hr2.rd hlen h.ok.nn (Int.le_trans h.ok.le h.ok.r1)).mono ?_
  rintro e w' ⟨rfl, n, rfl⟩
  exact ⟨by rw [ht], h.drewN n⟩
theorem DuV.lft {r : Int} (hr : x.room - tot x.L = r) : Calls Try.prog 13 #[.pointer (some ⟨p, 0, none⟩)] W fun e w' => e = .returned (.int .i64 r) ∧ DuV w w' p m q x z (.slice A N c) := by
  refine (left_is h.is hr).mono ?_
  rintro e w' ⟨rfl, n, rfl⟩
  exact ⟨rfl, h.drewN n⟩
theorem DuV.all (hlen : x.L.length ≤ 1000) (hN : x.L.length = N) : Calls Try.prog 16 #[.pointer (some ⟨p, 0, none⟩)] W fun e w' => ∃ A1 c1, e = .returned (.slice A1 N c1) ∧ RdE w' A1 x.L ∧ DuV w w' p m q x z (.slice A N c) := by
  refine (h.is.all hlen).mono ?_
  rintro e w' ⟨v, rfl, h1, h2, h3⟩
  obtain ⟨A1, c1, rfl, d1⟩ := h1.rd
  rw [hN]
  exact ⟨A1, c1, rfl, d1, h.below h3⟩
theorem DuV.same {A1 : Option Addr} {c1 : Nat} (hN : x.L.length = N) (hlen : N ≤ 1000) (he : z = x) (hr : RdE W A1 x.L) : Calls Try.prog 15 #[.slice A1 N c1, .slice A N c] W fun e w' => e = .returned (.bool true) ∧ DuV w w' p m q x z (.slice A N c) := by
  obtain ⟨A', c', ev, hr2, _⟩ := Rf.row2_of h.row
  simp only [Value.slice.injEq] at ev
  obtain ⟨rfl, _, rfl⟩ := ev
  have hd := hr2.rd
  rw [he] at hd
  have := same_eq (c := c1) (c' := c) (by omega) hr hd
  rw [hN] at this
  refine this.mono ?_
  rintro e w' ⟨rfl, n, rfl⟩
  exact ⟨rfl, h.drewN n⟩
end

theorem Duo.new {w W : World} {p m : Nat} {x : Lg} (h : Is w W p m x) (room : Int) : Calls Try.prog 17 #[.int .i64 room] W fun e w' => ∃ q, e = .returned (.pointer (some ⟨q, 0, none⟩)) ∧ Duo w w' p m q x ⟨max 0 (min room 1152921504606846976), []⟩ := by
  refine (Rf.rnew_any room W).mono ?_
  rintro e w' ⟨rfl, ⟨v, h1, h2⟩, h3⟩
  exact ⟨_, rfl, v, h.below h3, h1, Rf.up_base h2 h.bel.size, h.bel.size, new_ok room⟩

end Go.Proofs.Ythgjccbmfbileaa
