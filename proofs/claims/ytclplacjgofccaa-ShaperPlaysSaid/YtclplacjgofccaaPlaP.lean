/- Plain laws for ShaperPlays: the shaper and the reference go alike; how a script is told to a walk. -/
import Derived.Test.YtclplacjgofccaaRj
import Derived.WalkKit
import Derived.ProofKit
import Derived.OpenShut
import Derived.ShutString
import Derived.ChangeOld
import Derived.Below
import Derived.Deep.Slices
import Derived.Deep.Fields
import Derived.Lib.SmallJoins
namespace Go.Proofs.Ytclplacjgofccaa
open Go.RowKit Go.Sort Go.Shelf Go.Lib Go.Deep Go.ChangeShapes Go.WideShapes
set_option linter.unusedVariables false
set_option linter.unusedSimpArgs false
attribute [local go_sem ↓] Go.wp_at_zero Go.wp_at_succ

abbrev Op2 := Int × Int
def opAt (zs : List Op2) (j : Nat) : Op2 := zs[j]?.getD (0, 0)

def RdO (w : World) (A : Option Addr) (zs : List Op2) : Prop :=
  zs = [] ∨ ∃ b off, A = some ⟨b, off, none⟩ ∧ b < w.heap.size ∧ ∀ j, j < zs.length → w.cell? ⟨b, off + j * 2, none⟩ = some (.int .i64 (opAt zs j).1) ∧ w.cell? ⟨b, off + j * 2 + 1, none⟩ = some (.int .i64 (opAt zs j).2)
def WfO (zs : List Op2) : Prop := ∀ j : Nat, (Lit.int .i64 (opAt zs j).1).wf = true ∧ (Lit.int .i64 (opAt zs j).2).wf = true

theorem addp (b off j : Nat) : (⟨b, off, none⟩ : Addr).add j = ⟨b, off + j, none⟩ := by unfold Addr.add; split <;> simp_all

theorem open_ops2 {H : Type} {enc : TypeId × Value → H} {P : Program} {w : World} {base : Nat} {spare : Nat → Bool} {held : Bool} {t e : TypeId} {f0 f1 : Field} {fuel len cap : Nat} {a : Option Addr} {x : DataW H × List MemPlace}
    (ht : P.underlying t = some (.slice e)) (he : P.underlying e = some (.struct #[f0, f1])) (ce : P.cellsOf e = 2) (hone : oneCellFields P #[f0, f1] = true)
    (u0 : P.underlying f0.type = some (.int .i64)) (u1 : P.underlying f1.type = some (.int .i64))
    (h : DataW.trod enc P w base spare held fuel t [.slice a len cap] = some x) : ∃ zs : List Op2, zs.length = len ∧ RdO w a zs ∧ WfO zs := by
  rcases open_slice ht h with ⟨hcs, _⟩ | ⟨ad, l, c, m, n, D, Pl, hcs, hb, hl, hm, hmm, hx, hi⟩
  · simp at hcs
    obtain ⟨rfl, rfl, rfl⟩ := hcs
    exact ⟨[], rfl, .inl rfl, fun j => by simp [opAt]; decide⟩
  · simp at hcs
    obtain ⟨rfl, rfl, rfl⟩ := hcs
    have hlm : len ≤ m := by rw [hmm]; split <;> omega
    obtain ⟨o0, k0⟩ := hone_of hone 0 f0 rfl
    obtain ⟨o1, k1⟩ := hone_of hone 1 f1 rfl
    have each : ∀ i, i < len → ∃ q : Op2, (w.cell? (ad.add (i * 2)) = some (.int .i64 q.1) ∧ w.cell? (ad.add (i * 2 + 1)) = some (.int .i64 q.2)) ∧ (Lit.int .i64 q.1).wf = true ∧ (Lit.int .i64 q.2).wf = true := by
      intro i hil
      obtain ⟨cs', h1, h2⟩ := hi i (by omega)
      rw [ce] at h1
      obtain ⟨_, hlen, hcell⟩ := World.cells?_some h1
      obtain ⟨ys, n', _, _, _, hyl, hf⟩ := DataW.trod_struct he h2
      match cs', hlen with
      | [v0, v1], _ =>
        have g0 := hf 0 f0 rfl
        have g1 := hf 1 f1 rfl
        have hy0 : ys[0]? = some (ys[0]'(by rw [hyl]; simp)) := List.getElem?_eq_getElem _
        have hy1 : ys[1]? = some (ys[1]'(by rw [hyl]; simp)) := List.getElem?_eq_getElem _
        rw [hy0, o0, k0] at g0
        rw [hy1, o1, k1] at g1
        obtain ⟨z0, e0, _, w0⟩ := DataW.trod_int u0 g0
        obtain ⟨z1, e1, _, w1⟩ := DataW.trod_int u1 g1
        simp at e0 e1
        have d0 := hcell 0 (by omega)
        have d1 := hcell 1 (by omega)
        rw [add_add] at d0 d1
        exact ⟨(z0, z1), ⟨by simpa [e0] using d0, by simpa [e1] using d1⟩, w0, w1⟩
    obtain ⟨q, hq⟩ := choose_lt each
    have hat : ∀ j, j < len → opAt ((List.range len).map q) j = q j := fun j hj => by unfold opAt; rw [List.getElem?_map, List.getElem?_range hj]; rfl
    refine ⟨(List.range len).map q, by simp, ?_, fun j => ?_⟩
    · rcases Nat.eq_zero_or_pos len with h0 | h0
      · exact .inl (by rw [h0]; rfl)
      · obtain ⟨b, off, spot⟩ := ad
        have hspot : spot = none := by simpa [Addr.add] using World.cell?_spot (hq 0 h0).1.1
        subst hspot
        refine .inr ⟨b, off, rfl, World.block_lt_of_cell? w _ (by have := (hq 0 h0).1.1; rw [addp] at this; exact this), fun j hj => ?_⟩
        simp only [List.length_map, List.length_range] at hj
        rw [hat j hj]
        have := (hq j hj).1
        rw [addp, addp] at this
        exact this
    · rcases Nat.lt_or_ge j len with hj | hj
      · rw [hat j hj]; exact (hq j hj).2
      · unfold opAt
        rw [List.getElem?_eq_none (by simp; exact hj)]
        simp
        decide

theorem RdO.cells {w wr : World} {A : Option Addr} {zs : List Op2} (h : RdO w A zs) (hb : Below w.heap.size w wr) {k : Nat} (hk : k < zs.length) :
    ∃ b off, A = some ⟨b, off, none⟩ ∧ b < w.heap.size ∧ wr.cell? ⟨b, off + k * 2, none⟩ = some (.int .i64 (opAt zs k).1) ∧ wr.cell? ⟨b, off + k * 2 + 1, none⟩ = some (.int .i64 (opAt zs k).2) := by
  rcases h with h | ⟨b, off, h1, h2, h3⟩
  · subst h; simp at hk
  · obtain ⟨c0, c1⟩ := h3 k hk
    exact ⟨b, off, h1, h2, (hb.cell (p := ⟨b, _, none⟩) h2).trans c0, (hb.cell (p := ⟨b, _, none⟩) h2).trans c1⟩


/-- The shaper and the reference's. -/
structure Sim (x : Sh) (y : Rf.Re) : Prop where
  s : y.step = x.step
  e : y.early = x.early
  l : y.slow = x.slow
  q : y.quick = x.quick
  L : y.L = x.L
  a : y.any = x.any
  nx : x.any = true → x.next = y.ut + y.x
  x0 : 0 ≤ y.x
  x2 : y.x ≤ 2305843009213693952
  u0 : 0 ≤ y.ut
  u2 : y.ut ≤ 1152921504606846976

theorem Sim.new (step early slow quick : Int) : Sim (newSh step early slow quick) (Rf.newR step early slow quick) :=
  ⟨rfl, rfl, rfl, rfl, rfl, rfl, (fun h => by cases h), Int.le_refl _, by simp [Rf.newR], Int.le_refl _, by simp [Rf.newR]⟩

theorem Sim.okR {x : Sh} {y : Rf.Re} (h : Sim x y) (hx : OkSh x) (t : Int) : Rf.OkR (Rf.comeR t y) := by
  have hc := hx.come t
  have e1 : (Rf.comeR t y).step = comeF (held t) x.step x.L := by unfold Rf.comeR; simp only [h.s, h.L]
  exact ⟨by rw [e1]; exact hc.1, by rw [e1]; exact hc.2, by show 0 ≤ y.early; rw [h.e]; exact hx.e0, by show y.early ≤ _; rw [h.e]; exact hx.e2, h.x0, h.x2, h.u0, h.u2⟩

theorem Sim.fit {x : Sh} {y : Rf.Re} (h : Sim x y) (t : Int) : Rf.fitR t (Rf.comeR t y) = fitSh t x := by
  have e1 : Rf.fitR t (Rf.comeR t y) = Rf.fitR t y := rfl
  rw [e1]
  unfold Rf.fitR fitSh Rf.levelR
  rw [h.a, h.e]
  cases ha : x.any with
  | false => rfl
  | true =>
    have hn := h.nx ha
    by_cases hh : held t < x.next - x.early
    · simp [hh]; omega
    · simp [hh]; omega

theorem Sim.take {x : Sh} {y : Rf.Re} (h : Sim x y) (hx : OkSh x) (t : Int) : Sim (takeSh t x) (Rf.btakeR t (Rf.comeR t y)) := by
  have hc := hx.come t
  have hb := held_bd t
  have e1 : (Rf.comeR t y).step = comeF (held t) x.step x.L := by unfold Rf.comeR; simp only [h.s, h.L]
  have e2 : (Rf.comeR t y).L = leftF (held t) x.L := by unfold Rf.comeR; simp only [h.L]
  unfold takeSh Rf.btakeR
  rw [h.fit t]
  by_cases hf : fitSh t x = true
  · rw [if_pos hf, if_pos hf]
    have hl : Rf.levelR t (Rf.comeR t y) = y.x - (held t - y.ut) := rfl
    have ha : (Rf.comeR t y).any = x.any := h.a
    have hle : x.any = true → y.x - (held t - y.ut) ≤ x.early := fun e => by
      unfold fitSh at hf
      rw [e, h.nx e] at hf
      simp at hf
      omega
    have he := hx.e2
    refine ⟨e1, h.e, h.l, h.q, e2, rfl, fun _ => ?_, ?_, ?_, hb.1, hb.2⟩
    · show max x.next (held t) + comeF (held t) x.step x.L = held t + ((if (Rf.comeR t y).any then max 0 (Rf.levelR t (Rf.comeR t y)) else 0) + (Rf.comeR t y).step)
      rw [ha, hl, e1]
      cases hxa : x.any with
      | false =>
        have := hx.an hxa
        simp
        omega
      | true =>
        have := h.nx hxa
        simp only [if_true]
        omega
    · show 0 ≤ (if (Rf.comeR t y).any then max 0 (Rf.levelR t (Rf.comeR t y)) else 0) + (Rf.comeR t y).step
      rw [e1]
      split <;> omega
    · show (if (Rf.comeR t y).any then max 0 (Rf.levelR t (Rf.comeR t y)) else 0) + (Rf.comeR t y).step ≤ _
      rw [ha, hl, e1]
      cases hxa : x.any with
      | false => simp; omega
      | true =>
        have := hle hxa
        simp only [if_true]
        omega
  · rw [if_neg hf, if_neg hf]
    exact ⟨e1, h.e, h.l, h.q, e2, h.a, h.nx, h.x0, h.x2, h.u0, h.u2⟩

theorem Sim.set {x : Sh} {y : Rf.Re} (h : Sim x y) (hl8 : x.L.length ≤ 8) (t s : Int) : Rf.setRr t y = setR t x ∧ Sim (setSh t s x) (Rf.setRe t s y) := by
  have e1 : (Rf.comeR t y).step = (comeSh t x).step := by unfold Rf.comeR comeSh; simp only [h.s, h.L]
  have e2 : (Rf.comeR t y).L = (comeSh t x).L := by unfold Rf.comeR comeSh; simp only [h.L]
  have hle : (comeSh t x).L.length ≤ 8 := Nat.le_trans (left_len _ _) hl8
  have hch : Rf.chR t s y = newCh t s x := by
    unfold Rf.chR newCh lastSet Rf.lastL
    rw [e1, e2, h.q, h.l]
  have hs : Sim (comeSh t x) (Rf.comeR t y) := ⟨e1, h.e, h.l, h.q, e2, h.a, h.nx, h.x0, h.x2, h.u0, h.u2⟩
  unfold Rf.setRr setR setSh Rf.setRe
  rw [e2, hch]
  by_cases h8 : (comeSh t x).L.length = 8
  · rw [if_pos h8, if_pos (by omega), if_pos h8, if_pos (by omega)]
    exact ⟨rfl, hs⟩
  · rw [if_neg h8, if_neg (by omega), if_neg h8, if_neg (by omega)]
    exact ⟨rfl, ⟨hs.s, hs.e, hs.l, hs.q, rfl, hs.a, hs.nx, hs.x0, hs.x2, hs.u0, hs.u2⟩⟩

/-- Both in memory. -/
structure Duo (w W : World) (p q : Nat) (x : Sh) (y : Rf.Re) : Prop where
  st : St W w.heap.size p x
  re : ∃ v, Rf.HasR W q v y ∧ Rf.RRow W w.heap.size v y.L
  l8 : y.L.length ≤ 8
  bel : Below w.heap.size w W
  hp : w.heap.size ≤ p
  hq : w.heap.size ≤ q

theorem Duo.drew {w W : World} {p q : Nat} {x : Sh} {y : Rf.Re} (h : Duo w W p q x y) : Duo w W.drew p q x y := by
  obtain ⟨v, h1, h2⟩ := h.re
  exact ⟨h.st.below (Below.refl _ _).drew, ⟨v, h1, h2.below (Below.refl _ _).drew⟩, h.l8, h.bel.drew, h.hp, h.hq⟩
theorem Duo.below {w W W' : World} {p q : Nat} {x : Sh} {y : Rf.Re} (h : Duo w W p q x y) (hb : Below W.heap.size W W') : Duo w W' p q x y := by
  obtain ⟨v, h1, h2⟩ := h.re
  exact ⟨h.st.below hb, ⟨v, h1.below hb, h2.below hb⟩, h.l8, h.bel.trans (hb.mono h.bel.size), h.hp, h.hq⟩

theorem Rf.HasR.apart {W : World} {B p q : Nat} {x : Sh} {v : Value} {y : Rf.Re} (h : Rf.HasR W q v y) (k : St W B p x) : q ≠ p := by
  rintro rfl
  obtain ⟨u, h1, _⟩ := k
  have h1 := h1.sh
  unfold HasSh at h1
  unfold Rf.HasR at h
  rw [h] at h1
  simp at h1

/-- What is done to the shaper leaves the reference's. -/
theorem re_kept {W W' : World} {B B' p q : Nat} {x : Sh} {v : Value} {y : Rf.Re} (h : Rf.HasR W q v y) (hr : Rf.RRow W B v y.L) (k : St W B' p x) (hk : Kept p W W') : Rf.HasR W' q v y ∧ Rf.RRow W' B v y.L := by
  refine ⟨(hk.block q h.lt (h.apart k)).trans h, ?_⟩
  obtain ⟨u, h1, _⟩ := k
  have hap := hr.apart h1.sh (by decide)
  rcases hr with h | ⟨k1, k2, k3⟩
  · exact .inl h
  · refine .inr ⟨k1, k2, ?_⟩
    rcases k3 with k3 | ⟨g, cap, cur, k3, k4, k5, k6⟩
    · exact .inl k3
    · refine .inr ⟨g, cap, cur, k3, k4, ?_, k6⟩
      rw [hk.block g (lt_of_block k5) (fun e => hap (by rw [k3, e]; rfl))]
      exact k5
/-- What is done to the reference's leaves the shaper. -/
theorem st_kept {W W' : World} {B p q : Nat} {x : Sh} {v : Value} {y : Rf.Re} (h : St W B p x) (k : Rf.HasR W q v y) (hk : Kept q W W') : St W' B p x := by
  have hne := k.apart h
  obtain ⟨u, h1, h2, h3⟩ := h
  have hap := h1.row.apart k (by decide)
  refine ⟨u, ⟨(hk.block p h1.sh.lt (fun e => hne e.symm)).trans h1.sh, ?_, h1.l8, h1.at0⟩, h2, Nat.le_trans h3 hk.size⟩
  rcases h1.row with h | ⟨k1, k2, k3⟩
  · exact .inl h
  · refine .inr ⟨k1, k2, ?_⟩
    rcases k3 with k3 | ⟨g, cap, cur, k3, k4, k5, k6⟩
    · exact .inl k3
    · refine .inr ⟨g, cap, cur, k3, k4, ?_, k6⟩
      rw [hk.block g (lt_of_block k5) (fun e => hap (by rw [k3, e]; rfl))]
      exact k5

section
variable {w W : World} {p q : Nat} {x : Sh} {y : Rf.Re} (h : Duo w W p q x y)
include h
theorem Duo.set (t s : Int) {r : Int} (hr : setR t x = r) : Calls Try.prog 12 #[.pointer (some ⟨p, 0, none⟩), .int .i64 t, .int .i64 s] W fun e w' => e = .returned (.int .i64 r) ∧ Duo w w' p q (setSh t s x) y := by
  refine (set_st t s h.st).mono ?_
  rintro e w' ⟨rfl, h1, h2⟩
  obtain ⟨v, g1, g2⟩ := h.re
  exact ⟨by rw [hr], h1, ⟨v, re_kept g1 g2 h.st h2⟩, h.l8, below_kept h.bel h2 h.hp h.bel.size, h.hp, h.hq⟩
theorem Duo.take (t : Int) {r : Bool} (hr : fitSh t x = r) : Calls Try.prog 14 #[.pointer (some ⟨p, 0, none⟩), .int .i64 t] W fun e w' => e = .returned (.bool r) ∧ Duo w w' p q (takeSh t x) y := by
  refine (take_st t h.st).mono ?_
  rintro e w' ⟨rfl, h1, h2⟩
  obtain ⟨v, g1, g2⟩ := h.re
  exact ⟨by rw [hr], h1, ⟨v, re_kept g1 g2 h.st h2⟩, h.l8, below_kept h.bel h2 h.hp h.bel.size, h.hp, h.hq⟩
theorem Duo.setRe (t s : Int) {r : Int} (hr : Rf.setRr t y = r) (hb : 0 ≤ y.slow ∧ y.slow ≤ 1152921504606846976 ∧ 0 ≤ y.quick ∧ y.quick ≤ 1152921504606846976) : Calls Try.prog 13 #[.pointer (some ⟨q, 0, none⟩), .int .i64 t, .int .i64 s] W fun e w' => e = .returned (.int .i64 r) ∧ Duo w w' p q x (Rf.setRe t s y) := by
  obtain ⟨v, g1, g2⟩ := h.re
  refine (Rf.set_any t s g1 g2 h.l8 hb).mono ?_
  rintro e w' ⟨v', rfl, h1, h2, h3⟩
  refine ⟨by rw [hr], st_kept h.st g1 h3, ⟨v', h1, h2.mono h.bel.size⟩, ?_, below_kept h.bel h3 h.hq h.bel.size, h.hp, h.hq⟩
  have h8 := h.l8
  have hl := left_len (held t) y.L
  unfold Rf.setRe
  have e : (Rf.comeR t y).L = leftF (held t) y.L := rfl
  split
  · rw [e]; omega
  · simp only [List.length_append, List.length_cons, List.length_nil]
    rw [e] at *
    omega
theorem Duo.takeRe (t : Int) {r : Bool} (hr : Rf.fitR t (Rf.comeR t y) = r) (ok : Rf.OkR (Rf.comeR t y)) : Calls Try.prog 15 #[.pointer (some ⟨q, 0, none⟩), .int .i64 t] W fun e w' => e = .returned (.bool r) ∧ Duo w w' p q x (Rf.btakeR t (Rf.comeR t y)) := by
  obtain ⟨v, g1, g2⟩ := h.re
  refine (Rf.take_any t g1 g2 h.l8 ok).mono ?_
  rintro e w' ⟨v', rfl, h1, h2, h3⟩
  have hl := left_len (held t) y.L
  have h8 := h.l8
  have eL : (Rf.btakeR t (Rf.comeR t y)).L = leftF (held t) y.L := by unfold Rf.btakeR; split <;> rfl
  refine ⟨by rw [hr], st_kept h.st g1 h3, ⟨v', h1, by rw [eL]; exact h2.mono h.bel.size⟩, by rw [eL]; omega, below_kept h.bel h3 h.hq h.bel.size, h.hp, h.hq⟩
theorem Duo.step (t : Int) {r : Int} (hr : comeF (held t) x.step x.L = r) : Calls Try.prog 18 #[.pointer (some ⟨p, 0, none⟩), .int .i64 t] W fun e w' => e = .returned (.int .i64 r) ∧ Duo w w' p q x y ∧ w'.cell? ⟨q, 7, none⟩ = W.cell? ⟨q, 7, none⟩ := by
  refine (step_st t h.st).mono ?_
  rintro e w' ⟨rfl, h1, h2⟩
  obtain ⟨v, g1, g2⟩ := h.re
  exact ⟨by rw [hr], h.below h2, h2.cell (p := ⟨q, 7, none⟩) g1.lt⟩
theorem Duo.wait {r : Nat} (hr : x.L.length = r) : Calls Try.prog 17 #[.pointer (some ⟨p, 0, none⟩)] W fun e w' => e = .returned (.int .i64 r) ∧ w' = W := by
  refine (wait_st h.st).mono ?_
  rintro e w' ⟨rfl, rfl⟩
  exact ⟨by rw [hr], rfl⟩
theorem Duo.come (t : Int) {r : Int} (hr : comeF (held t) y.step y.L = r) : Calls Try.prog 16 #[.pointer (some ⟨q, 0, none⟩), .int .i64 t] W fun e w' => ∃ v', e = .returned (.tuple #[.int .i64 r, v']) ∧ Duo w w' p q x y := by
  obtain ⟨v, g1, g2⟩ := h.re
  refine (Rf.come_any t g1 g2 h.l8).mono ?_
  rintro e w' ⟨v', rfl, h1, h2⟩
  exact ⟨v', by rw [hr], h.below h2⟩
theorem Duo.c7 : ∃ A c, W.cell? ⟨q, 7, none⟩ = some (.slice A y.L.length c) := by
  obtain ⟨v, g1, g2⟩ := h.re
  obtain ⟨A, c, rfl, _⟩ := g2.rd
  exact ⟨A, c, g1.c7⟩
end

end Go.Proofs.Ytclplacjgofccaa
