/- What LedgerNil's rounds keep. -/
import Derived.Test.YthgjccbmfbileaaOrdW
import Derived.Test.YthgjccbmfbileaaV
namespace Go.Proofs.Ythgjccbmfbileaa
open Go.RowKit Go.Maps Go.Shelf
set_option linter.unusedVariables false
set_option linter.unusedSimpArgs false

def dels (L : Ent) (pre : List I64P) : Ent := pre.foldl (fun M q => del M q.1.1) L
theorem dels_snoc (L : Ent) (pre : List I64P) (q : I64P) : dels L (pre ++ [q]) = del (dels L pre) q.1.1 := by simp [dels]

theorem del_head {q : Int × Int} {r : Ent} (hs : Sorted (q :: r)) : del (q :: r) q.1 = r := by
  unfold Sorted at hs
  rw [List.pairwise_cons] at hs
  unfold del
  rw [List.filter_cons, if_neg (by simp)]
  apply List.filter_eq_self.2
  intro p hp
  have := hs.1 p hp
  simp
  omega

theorem dels_take {L : Ent} (hs : Sorted L) {ys : List I64P} (hys : ys.map (·.1) = L) : ∀ k, k ≤ ys.length → dels L (ys.take k) = L.drop k := by
  intro k
  induction k with
  | zero => intro _; simp [dels]
  | succ k ih =>
    intro hk
    have hk' : k < ys.length := hk
    have hl : k < L.length := by rw [← hys, List.length_map]; exact hk'
    rw [List.take_succ_eq_append_getElem hk', dels_snoc, ih (by omega)]
    have e1 : L.drop k = L[k] :: L.drop (k + 1) := List.drop_eq_getElem_cons hl
    have e2 : (ys[k]).1 = L[k] := by
      have : L[k] = (ys.map (·.1))[k]'(by rw [List.length_map]; exact hk') := by congr 1; exact hys.symm
      rw [this, List.getElem_map]
    rw [e1, e2]
    have hsd : Sorted (L[k] :: L.drop (k + 1)) := by rw [← e1]; exact List.Pairwise.sublist (List.drop_sublist k L) hs
    exact del_head hsd

theorem dels_len {L : Ent} (hs : Sorted L) {ys pre : List I64P} (hys : ys.map (·.1) = L) (hp : pre <+: ys) : (dels L pre).length = L.length - pre.length ∧ pre.length ≤ L.length := by
  obtain ⟨t, rfl⟩ := hp
  have h := dels_take hs hys pre.length (by simp)
  rw [List.take_left'  rfl] at h
  rw [h, List.length_drop]
  refine ⟨rfl, ?_⟩
  rw [← hys]
  simp

/-- The ledger, its box, and the stop's. -/
structure Nl (w W : World) (p m b3 b5 : Nat) (stop : Int) (x : Lg) : Prop where
  is : Is w W p m x
  bs : Boxed W b3 5 (.int .u8 stop)
  bx : Boxed W b5 24 (.pointer (some ⟨p, 0, none⟩))

theorem Boxed.kept' {W W' : World} {p m b t : Nat} {v : Value} {x : Lg} (h : Boxed W b t v) (hl : HasL W p m x) (ht : t ≠ 56) (hk : Kept p m W W') : Boxed W' b t v := by
  refine (hk.block b (lt_of_block h) ?_ ?_).trans h
  · rintro rfl
    have h1 := hl.cells
    rw [show W.heap[b]? = _ from h] at h1
    simp at h1
  · rintro rfl
    obtain ⟨es, clock, hb, _⟩ := hl.own
    rw [show W.heap[b]? = _ from h] at hb
    simp at hb
theorem Boxed.below {W W' : World} {b t : Nat} {v : Value} (h : Boxed W b t v) (hb : Below W.heap.size W W') : Boxed W' b t v := (hb.block b (lt_of_block h)).trans h

section
variable {w W : World} {p m b3 b5 : Nat} {stop : Int} {x : Lg} (h : Nl w W p m b3 b5 stop x)
include h
theorem Nl.kept {W' : World} {y : Lg} (h1 : Is w W' p m y) (hk : Kept p m W W') : Nl w W' p m b3 b5 stop y :=
  ⟨h1, Boxed.kept' h.bs h.is.has (by decide) hk, Boxed.kept' h.bx h.is.has (by decide) hk⟩
theorem Nl.below {W' : World} (hb : Below W.heap.size W W') : Nl w W' p m b3 b5 stop x :=
  ⟨h.is.below hb, Boxed.below h.bs hb, Boxed.below h.bx hb⟩
theorem Nl.drew : Nl w W.drew p m b3 b5 stop x := h.below ⟨rfl, rfl, rfl, Nat.le_refl _, fun _ _ => rfl⟩
theorem Nl.drewN (n : Nat) : Nl w (W.drewN n) p m b3 b5 stop x := h.below (below_drewN (Below.refl _ _) n)
theorem Nl.does {o : Op3} (hwi : (Lit.int .i64 o.2.1).wf = true) (hlen : x.L.length < 1000000) {y : Lg} (hy : doS x o = y) :
    Calls Try.prog 11 #[.pointer (some ⟨p, 0, none⟩), .agg #[.int .i64 o.1, .int .i64 o.2.1, .int .i64 o.2.2]] W fun e w' => e = .returned (.tuple #[.int .i64 (doE x o), .int .i64 (doN x o)]) ∧ Nl w w' p m b3 b5 stop y := by
  refine (h.is.does hwi hlen hy).mono ?_
  rintro e w' ⟨rfl, h1, h2⟩
  exact ⟨rfl, h.kept h1 h2⟩
theorem Nl.all {N : Nat} (hlen : x.L.length ≤ 1000) (hN : x.L.length = N) :
    Calls Try.prog 16 #[.pointer (some ⟨p, 0, none⟩)] W fun e w' => ∃ A c, e = .returned (.slice A N c) ∧ Nl w w' p m b3 b5 stop x ∧ Below W.heap.size W w' := by
  refine (h.is.all hlen).mono ?_
  rintro e w' ⟨v, rfl, h1, h2, h3⟩
  obtain ⟨A1, c1, rfl, d1⟩ := h1.rd
  rw [hN]
  exact ⟨A1, c1, rfl, h.below h3, h3⟩
end

theorem Nl.far {w W W' : World} {p m b3 b5 r : Nat} {stop : Int} {x : Lg} (h : Nl w W p m b3 b5 stop x) (hk : Kept r r W W') (hr : w.heap.size ≤ r) (hp : r ≠ p) (hm : r ≠ m) (h3 : r ≠ b3) (h5 : r ≠ b5) : Nl w W' p m b3 b5 stop x :=
  ⟨⟨h.is.has.kept2 hk hp.symm hp.symm hm.symm hm.symm, h.is.ok, h.is.wf, Kept.below h.is.bel hk h.is.bel.size hr hr, h.is.hp, h.is.hm⟩, (hk.block b3 (lt_of_block h.bs) h3.symm h3.symm).trans h.bs, (hk.block b5 (lt_of_block h.bx) h5.symm h5.symm).trans h.bx⟩
theorem Nl.own {w A C : World} {p m b3 b5 B0 : Nat} {stop : Int} {x : Lg} {row : Option Nat} (h : Nl w A p m b3 b5 stop x) (hp : p < B0) (hm : m < B0) (h3 : b3 < B0) (h5 : b5 < B0) (hw : w.heap.size ≤ B0) (hg : A.grownBy C row)
    (hr : ∀ r, row = some r → B0 ≤ r ∧ ∃ o : Obj, A.heap[r]? = some o ∧ o.isCells = false) : Nl w C p m b3 b5 stop x := by
  cases row with
  | none => exact h.below ⟨hg.os, hg.tape, hg.output, hg.size, fun k hk => hg.block k hk (by simp)⟩
  | some r =>
    have := (hr r rfl).1
    exact h.far (Kept.grown hg (.inr (.inl rfl))) (by omega) (by omega) (by omega) (by omega) (by omega)
theorem keeps_of {B p m : Nat} {W W1 : World} (hk : Kept p m W W1) (hp : p < B) (hm : m < B) : KeepsFrom B W W1 ∧ KpB B W W1 :=
  ⟨⟨hk.size, fun k o hB h _ => (hk.block k (Array.getElem?_eq_some_iff.1 h).1 (by omega) (by omega)).trans h⟩, ⟨hk.size, fun k o hB h _ => (hk.block k (Array.getElem?_eq_some_iff.1 h).1 (by omega) (by omega)).trans h⟩⟩
theorem Nl.ne {w W : World} {p m b3 b5 b8 : Nat} {stop : Int} {x : Lg} {v : Value} (h : Nl w W p m b3 b5 stop x) (h8 : Boxed W b8 3 v) : b8 ≠ p ∧ b8 ≠ m ∧ b8 ≠ b3 ∧ b8 ≠ b5 := by
  refine ⟨?_, ?_, ?_, ?_⟩
  · rintro rfl
    have h1 := h.is.has.cells
    rw [show W.heap[b8]? = _ from h8] at h1
    simp at h1
  · rintro rfl
    obtain ⟨es, clock, hb, _⟩ := h.is.has.own
    rw [show W.heap[b8]? = _ from h8] at hb
    simp at hb
  · rintro rfl
    have h1 : W.heap[b8]? = _ := h.bs
    rw [show W.heap[b8]? = _ from h8] at h1
    simp at h1
  · rintro rfl
    have h1 : W.heap[b8]? = _ := h.bx
    rw [show W.heap[b8]? = _ from h8] at h1
    simp at h1
theorem Nl.set {w W : World} {p m b3 b5 b8 : Nat} {stop : Int} {x : Lg} {v : Value} (h : Nl w W p m b3 b5 stop x) (h8 : Boxed W b8 3 v) (hw : w.heap.size ≤ b8) (v' : Value) : Nl w (W.setCell ⟨b8, 0, none⟩ v') p m b3 b5 stop x := by
  obtain ⟨n1, n2, n3, n4⟩ := h.ne h8
  exact h.far (Kept.set W 0 v') hw n1 n2 n3 n4
theorem Nl.free {w W : World} {p m b3 b5 b8 : Nat} {stop : Int} {x : Lg} {v : Value} {pre : List I64P} {q : I64P} (h : Nl w W p m b3 b5 stop ⟨x.room, dels x.L pre⟩) (h8 : Boxed W b8 3 v) :
    Calls Try.prog 12 #[.pointer (some ⟨p, 0, none⟩), .int .i64 q.1.1] W fun e w' => ∃ u, e = .returned u ∧ Nl w w' p m b3 b5 stop ⟨x.room, dels x.L (pre ++ [q])⟩ ∧ Boxed w' b8 3 v ∧ Kept p m W w' := by
  refine (h.is.free q.2 rfl rfl (y := ⟨x.room, dels x.L (pre ++ [q])⟩) (by unfold freeS; rw [dels_snoc])).mono ?_
  rintro e w' ⟨rfl, h1, h2⟩
  exact ⟨_, rfl, h.kept h1 h2, Boxed.kept' h8 h.is.has (by decide) h2, h2⟩

/-- Behind the loop. -/
structure Nx (w W : World) (p m b3 b5 b8 D : Nat) (stop c : Int) (y : Lg) : Prop where
  nl : Nl w W p m b3 b5 stop y
  b8 : Boxed W b8 3 (.int .i64 c)
  dd : W.heap[D]? = some (.deferred (some []))
section
variable {w W : World} {p m b3 b5 b8 D : Nat} {stop c : Int} {y : Lg} (h : Nx w W p m b3 b5 b8 D stop c y)
include h
theorem Nx.below {W' : World} (hb : Below W.heap.size W W') : Nx w W' p m b3 b5 b8 D stop c y :=
  ⟨h.nl.below hb, Boxed.below h.b8 hb, (hb.block D (Array.getElem?_eq_some_iff.1 h.dd).1).trans h.dd⟩
theorem Nx.drewN (n : Nat) : Nx w (W.drewN n) p m b3 b5 b8 D stop c y := h.below (below_drewN (Below.refl _ _) n)
theorem Nx.drew : Nx w W.drew p m b3 b5 b8 D stop c y := h.below ⟨rfl, rfl, rfl, Nat.le_refl _, fun _ _ => rfl⟩
theorem Nx.all {M : Nat} (hlen : y.L.length ≤ 1000) (hM : y.L.length = M) : Calls Try.prog 16 #[.pointer (some ⟨p, 0, none⟩)] W fun e w' => ∃ A c1, e = .returned (.slice A M c1) ∧ Nx w w' p m b3 b5 b8 D stop c y := by
  refine (h.nl.all hlen hM).mono ?_
  rintro e w' ⟨A, c1, rfl, _, h3⟩
  exact ⟨A, c1, rfl, h.below h3⟩
theorem Nx.all0 : Calls Try.prog 16 #[.pointer none] W fun e w' => e = .returned (.slice none 0 0) ∧ Nx w w' p m b3 b5 b8 D stop c y := by
  refine (all_nil W).mono ?_
  rintro e w' ⟨rfl, h3⟩
  exact ⟨rfl, h.below h3⟩
theorem Nx.book0 (id need : Int) : Calls Try.prog 14 #[.pointer none, .int .i64 id, .int .i64 need] W fun e w' => e = .returned (.int .i64 9) ∧ Nx w w' p m b3 b5 b8 D stop c y := by
  refine (book_nil id need W).mono ?_
  rintro e w' ⟨rfl, n, rfl⟩
  exact ⟨rfl, h.drewN n⟩
theorem Nx.change0 (id need : Int) : Calls Try.prog 26 #[.pointer none, .int .i64 id, .int .i64 need] W fun e w' => e = .returned (.int .i64 9) ∧ Nx w w' p m b3 b5 b8 D stop c y := by
  refine (change_nil id need W).mono ?_
  rintro e w' ⟨rfl, n, rfl⟩
  exact ⟨rfl, h.drewN n⟩
theorem Nx.free0 (id : Int) : Calls Try.prog 12 #[.pointer none, .int .i64 id] W fun e w' => e = .returned (.tuple #[.int .i64 0, .bool false]) ∧ Nx w w' p m b3 b5 b8 D stop c y := by
  refine (free_nil id W).mono ?_
  rintro e w' ⟨rfl, n, rfl⟩
  exact ⟨rfl, h.drewN n⟩
theorem Nx.get0 (id : Int) : Calls Try.prog 21 #[.pointer none, .int .i64 id] W fun e w' => e = .returned (.tuple #[.int .i64 0, .bool false]) ∧ Nx w w' p m b3 b5 b8 D stop c y := by
  refine (get_nil id W).mono ?_
  rintro e w' ⟨rfl, n, rfl⟩
  exact ⟨rfl, h.drewN n⟩
theorem Nx.used0 : Calls Try.prog 23 #[.pointer none] W fun e w' => e = .returned (.int .i64 0) ∧ Nx w w' p m b3 b5 b8 D stop c y := by
  refine (used_nil W).mono ?_
  rintro e w' ⟨rfl, n, rfl⟩
  exact ⟨rfl, h.drewN n⟩
theorem Nx.left0 : Calls Try.prog 13 #[.pointer none] W fun e w' => e = .returned (.int .i64 0) ∧ Nx w w' p m b3 b5 b8 D stop c y := by
  refine (left_nil W).mono ?_
  rintro e w' ⟨rfl, n, rfl⟩
  exact ⟨rfl, h.drewN n⟩
end

end Go.Proofs.Ythgjccbmfbileaa
