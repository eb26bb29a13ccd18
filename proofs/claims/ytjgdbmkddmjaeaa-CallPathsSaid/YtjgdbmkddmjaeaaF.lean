/- Plain laws of a call's steps; how lists of what happens are told to a walk; a state in a block. -/
import Derived.Test.YtjgdbmkddmjaeaaE
namespace Go.Proofs.Ytjgdbmkddmjaeaa
open Go.RowKit Go.Deep Go.ChangeShapes Go.WideShapes
set_option linter.unusedVariables false
set_option linter.unusedSimpArgs false

abbrev Op2 := Int × Int
def opAt (zs : List Op2) (j : Nat) : Op2 := zs[j]?.getD (0, 0)

def RdO (w : World) (A : Option Addr) (zs : List Op2) : Prop :=
  zs = [] ∨ ∃ b off, A = some ⟨b, off, none⟩ ∧ b < w.heap.size ∧ ∀ j, j < zs.length → w.cell? ⟨b, off + j * 2, none⟩ = some (.int .i64 (opAt zs j).1) ∧ w.cell? ⟨b, off + j * 2 + 1, none⟩ = some (.int .u32 (opAt zs j).2)
def WfO (zs : List Op2) : Prop := ∀ j : Nat, (Lit.int .i64 (opAt zs j).1).wf = true ∧ 0 ≤ (opAt zs j).2 ∧ (opAt zs j).2 ≤ 4294967295

theorem addp (b off j : Nat) : (⟨b, off, none⟩ : Addr).add j = ⟨b, off + j, none⟩ := by unfold Addr.add; split <;> simp_all

theorem open_ops2 {H : Type} {enc : TypeId × Value → H} {P : Program} {w : World} {base : Nat} {spare : Nat → Bool} {held : Bool} {t e : TypeId} {f0 f1 : Field} {fuel len cap : Nat} {a : Option Addr} {x : DataW H × List MemPlace}
    (ht : P.underlying t = some (.slice e)) (he : P.underlying e = some (.struct #[f0, f1])) (ce : P.cellsOf e = 2) (hone : oneCellFields P #[f0, f1] = true)
    (u0 : P.underlying f0.type = some (.int .i64)) (u1 : P.underlying f1.type = some (.int .u32))
    (h : DataW.trod enc P w base spare held fuel t [.slice a len cap] = some x) : ∃ zs : List Op2, zs.length = len ∧ RdO w a zs ∧ WfO zs := by
  rcases open_slice ht h with ⟨hcs, _⟩ | ⟨ad, l, c, m, n, D, Pl, hcs, hb, hl, hm, hmm, hx, hi⟩
  · simp at hcs
    obtain ⟨rfl, rfl, rfl⟩ := hcs
    exact ⟨[], rfl, .inl rfl, fun j => by simp [opAt]; decide⟩
  · simp at hcs
    obtain ⟨rfl, rfl, rfl⟩ := hcs
    have hlm : len ≤ m := by rw [hmm]; split <;> omega
    obtain ⟨o0, k0⟩ := hone_of hone 0 f0 rfl
    obtain ⟨o1, k1⟩ := hone_of hone 1 f1 rfl
    have each : ∀ i, i < len → ∃ q : Op2, (w.cell? (ad.add (i * 2)) = some (.int .i64 q.1) ∧ w.cell? (ad.add (i * 2 + 1)) = some (.int .u32 q.2)) ∧ (Lit.int .i64 q.1).wf = true ∧ 0 ≤ q.2 ∧ q.2 ≤ 4294967295 := by
      intro i hil
      obtain ⟨cs', h1, h2⟩ := hi i (by omega)
      rw [ce] at h1
      obtain ⟨_, hlen, hcell⟩ := World.cells?_some h1
      obtain ⟨ys, n', _, _, _, hyl, hf⟩ := DataW.trod_struct he h2
      match cs', hlen with
      | [v0, v1], _ =>
        have g0 := hf 0 f0 rfl
        have g1 := hf 1 f1 rfl
        have hy0 : ys[0]? = some (ys[0]'(by rw [hyl]; simp)) := List.getElem?_eq_getElem _
        have hy1 : ys[1]? = some (ys[1]'(by rw [hyl]; simp)) := List.getElem?_eq_getElem _
        rw [hy0, o0, k0] at g0
        rw [hy1, o1, k1] at g1
        obtain ⟨z0, e0, _, w0⟩ := DataW.trod_int u0 g0
        obtain ⟨z1, e1, _, w1⟩ := DataW.trod_int u1 g1
        simp at e0 e1
        have d0 := hcell 0 (by omega)
        have d1 := hcell 1 (by omega)
        rw [add_add] at d0 d1
        exact ⟨(z0, z1), ⟨by simpa [e0] using d0, by simpa [e1] using d1⟩, w0, bounds_u32 w1⟩
    obtain ⟨q, hq⟩ := choose_lt each
    have hat : ∀ j, j < len → opAt ((List.range len).map q) j = q j := fun j hj => by unfold opAt; rw [List.getElem?_map, List.getElem?_range hj]; rfl
    refine ⟨(List.range len).map q, by simp, ?_, fun j => ?_⟩
    · rcases Nat.eq_zero_or_pos len with h0 | h0
      · exact .inl (by rw [h0]; rfl)
      · obtain ⟨b, off, spot⟩ := ad
        have hspot : spot = none := by simpa [Addr.add] using World.cell?_spot (hq 0 h0).1.1
        subst hspot
        refine .inr ⟨b, off, rfl, World.block_lt_of_cell? w _ (by have := (hq 0 h0).1.1; rw [addp] at this; exact this), fun j hj => ?_⟩
        simp only [List.length_map, List.length_range] at hj
        rw [hat j hj]
        have := (hq j hj).1
        rw [addp, addp] at this
        exact this
    · rcases Nat.lt_or_ge j len with hj | hj
      · rw [hat j hj]; exact (hq j hj).2
      · unfold opAt
        rw [List.getElem?_eq_none (by simp; exact hj)]
        simp
        decide

theorem RdO.cells {w wr : World} {A : Option Addr} {zs : List Op2} (h : RdO w A zs) (hb : Below w.heap.size w wr) {k : Nat} (hk : k < zs.length) :
    ∃ b off, A = some ⟨b, off, none⟩ ∧ b < w.heap.size ∧ wr.cell? ⟨b, off + k * 2, none⟩ = some (.int .i64 (opAt zs k).1) ∧ wr.cell? ⟨b, off + k * 2 + 1, none⟩ = some (.int .u32 (opAt zs k).2) := by
  rcases h with h | ⟨b, off, h1, h2, h3⟩
  · subst h; simp at hk
  · obtain ⟨c0, c1⟩ := h3 k hk
    exact ⟨b, off, h1, h2, (hb.cell (p := ⟨b, _, none⟩) h2).trans c0, (hb.cell (p := ⟨b, _, none⟩) h2).trans c1⟩

/-- A state in a block; the timers in one. -/
def HasS (w : World) (p : Nat) (s : St) : Prop := w.heap[p]? = some (.cells #[.int .i64 s.ph, .int .i64 s.du, .int .i64 s.tr] 27 (0, 0))
def HasT (w : World) (p : Nat) (m : Tm) : Prop := w.heap[p]? = some (.cells #[.int .i64 m.a, .int .i64 m.b, .int .i64 m.c] 24 (0, 0))
theorem HasS.c0 {w : World} {p : Nat} {s : St} (h : HasS w p s) : w.cell? ⟨p, 0, none⟩ = some (.int .i64 s.ph) := by unfold HasS at h; simp [World.cell?, h]
theorem HasS.c1 {w : World} {p : Nat} {s : St} (h : HasS w p s) : w.cell? ⟨p, 1, none⟩ = some (.int .i64 s.du) := by unfold HasS at h; simp [World.cell?, h]
theorem HasS.c2 {w : World} {p : Nat} {s : St} (h : HasS w p s) : w.cell? ⟨p, 2, none⟩ = some (.int .i64 s.tr) := by unfold HasS at h; simp [World.cell?, h]
theorem HasS.fr {w : World} {p : Nat} {s : St} (h : HasS w p s) (o : Nat) : w.frozen? ⟨p, o, none⟩ = false := by unfold HasS at h; simp [World.frozen?, h]
theorem HasT.c0 {w : World} {p : Nat} {s : Tm} (h : HasT w p s) : w.cell? ⟨p, 0, none⟩ = some (.int .i64 s.a) := by unfold HasT at h; simp [World.cell?, h]
theorem HasT.c1 {w : World} {p : Nat} {s : Tm} (h : HasT w p s) : w.cell? ⟨p, 1, none⟩ = some (.int .i64 s.b) := by unfold HasT at h; simp [World.cell?, h]
theorem HasT.c2 {w : World} {p : Nat} {s : Tm} (h : HasT w p s) : w.cell? ⟨p, 2, none⟩ = some (.int .i64 s.c) := by unfold HasT at h; simp [World.cell?, h]
theorem HasS.lt {w : World} {p : Nat} {s : St} (h : HasS w p s) : p < w.heap.size := lt_of_block h
theorem HasT.lt {w : World} {p : Nat} {s : Tm} (h : HasT w p s) : p < w.heap.size := lt_of_block h
theorem HasS.ne {w : World} {p q : Nat} {s : St} {m : Tm} (h : HasS w p s) (k : HasT w q m) : q ≠ p := by
  rintro rfl
  unfold HasS at h; unfold HasT at k
  rw [h] at k
  simp at k
theorem HasS.below {w w' : World} {p : Nat} {s : St} (h : HasS w p s) (hb : Below w.heap.size w w') : HasS w' p s := (hb.block p h.lt).trans h
theorem HasT.below {w w' : World} {p : Nat} {s : Tm} (h : HasT w p s) (hb : Below w.heap.size w w') : HasT w' p s := (hb.block p h.lt).trans h

theorem heap_set {w : World} {b : Nat} {c : Array Value} {T : TypeId} (h : w.heap[b]? = some (.cells c T (0, 0))) (o : Nat) (v : Value) : (w.setCell ⟨b, o, none⟩ v).heap[b]? = some (.cells (c.setIfInBounds o v) T (0, 0)) := by
  simp only [World.setCell, Array.getElem?_modify, ↓reduceIte, h, Option.map_some]
  simp

/-- Behind a step whose state is stored back into its block. -/
theorem stored {w w0 w1 : World} {p q : Nat} {s s' : St} {m : Tm} {l : List Int} {A : Option Addr} {B : Nat} (hs : HasS w0 p s) (ht : HasT w0 q m) (hr : Rd w1 A l) (hf : ∀ g, A = some g → w0.heap.size ≤ g.block) (hb : Below w0.heap.size w0 w1) (h0 : Below B w w0) (hB : B ≤ w0.heap.size) (hp : B ≤ p) :
    HasS (((w1.setCell ⟨p, 0, none⟩ (.int .i64 s'.ph)).setCell ⟨p, 1, none⟩ (.int .i64 s'.du)).setCell ⟨p, 2, none⟩ (.int .i64 s'.tr)) p s' ∧ HasT (((w1.setCell ⟨p, 0, none⟩ (.int .i64 s'.ph)).setCell ⟨p, 1, none⟩ (.int .i64 s'.du)).setCell ⟨p, 2, none⟩ (.int .i64 s'.tr)) q m ∧
    Rd (((w1.setCell ⟨p, 0, none⟩ (.int .i64 s'.ph)).setCell ⟨p, 1, none⟩ (.int .i64 s'.du)).setCell ⟨p, 2, none⟩ (.int .i64 s'.tr)) A l ∧ Below B w (((w1.setCell ⟨p, 0, none⟩ (.int .i64 s'.ph)).setCell ⟨p, 1, none⟩ (.int .i64 s'.du)).setCell ⟨p, 2, none⟩ (.int .i64 s'.tr)) := by
  have hk : ∀ k, k ≠ p → (((w1.setCell ⟨p, 0, none⟩ (.int .i64 s'.ph)).setCell ⟨p, 1, none⟩ (.int .i64 s'.du)).setCell ⟨p, 2, none⟩ (.int .i64 s'.tr)).heap[k]? = w1.heap[k]? := fun k h => by
    rw [Below.heap_setCell _ _ _ _ h, Below.heap_setCell _ _ _ _ h, Below.heap_setCell _ _ _ _ h]
  have hsz : (((w1.setCell ⟨p, 0, none⟩ (.int .i64 s'.ph)).setCell ⟨p, 1, none⟩ (.int .i64 s'.du)).setCell ⟨p, 2, none⟩ (.int .i64 s'.tr)).heap.size = w1.heap.size := by simp [World.setCell]
  refine ⟨?_, ?_, ?_, ?_⟩
  · have h1 : w1.heap[p]? = some (.cells #[.int .i64 s.ph, .int .i64 s.du, .int .i64 s.tr] 27 (0, 0)) := hs.below hb
    unfold HasS
    rw [heap_set (heap_set (heap_set h1 _ _) _ _) _ _]
    rfl
  · exact (hk q (hs.ne ht)).trans (ht.below hb)
  · rcases hr with hr | ⟨g, rfl, h4, h5⟩
    · exact .inl hr
    · have hg := hf _ rfl
      have hlt := hs.lt
      simp only at hg
      refine .inr ⟨g, rfl, by rw [hsz]; exact h4, fun j hj => ?_⟩
      rw [World.cell?_of_block (w := w1) (a := ⟨g, j, none⟩) (hk g (by omega))]
      exact h5 j hj
  · have := h0.trans (hb.mono hB)
    exact ⟨this.os, this.tape, this.output, by rw [hsz]; exact this.size, fun k hk' => (hk k (by omega)).trans (this.block k hk')⟩

/-- What holds of a call behind whatever happened to it, the last at t; n: how much is held. -/
def Inv (s : St) (n t : Int) (m : Tm) : Prop :=
  (s.ph = 0 ∧ s.du = 0 ∧ s.tr = 0 ∧ n = 0) ∨ (s.ph = 1 ∧ 0 < s.du ∧ s.du ≤ t + hd m.b ∧ s.tr = 0 ∧ n = 1) ∨ (s.ph = 2 ∧ 0 < s.du ∧ s.du ≤ t + hd m.a ∧ (s.tr = 1 ∨ s.tr = 2) ∧ n = 1) ∨
  (s.ph = 3 ∧ 0 < s.du ∧ s.du ≤ t + hd m.b ∧ s.tr = 0 ∧ n = 1) ∨ (s.ph = 4 ∧ s.du = 0 ∧ s.tr = 0 ∧ n = 1) ∨ (s.ph = 5 ∧ 0 < s.du ∧ s.du ≤ t + hd m.c ∧ (s.tr = 1 ∨ s.tr = 2) ∧ n = 1)

theorem Inv.later {s : St} {n t t' : Int} {m : Tm} (h : Inv s n t m) (ht : t ≤ t') : Inv s n t' m := by
  unfold Inv at *
  rcases h with h | ⟨h1, h2, h3, h4⟩ | ⟨h1, h2, h3, h4⟩ | ⟨h1, h2, h3, h4⟩ | h | ⟨h1, h2, h3, h4⟩
  · exact .inl h
  · exact .inr (.inl ⟨h1, h2, by omega, h4⟩)
  · exact .inr (.inr (.inl ⟨h1, h2, by omega, h4⟩))
  · exact .inr (.inr (.inr (.inl ⟨h1, h2, by omega, h4⟩)))
  · exact .inr (.inr (.inr (.inr (.inl h))))
  · exact .inr (.inr (.inr (.inr (.inr ⟨h1, h2, by omega, h4⟩))))

theorem ends_inv {s : St} {n t : Int} {m : Tm} (h : Inv s n t m) (hn : n = 1) (h0 : 0 ≤ t) (what : Int) : Inv (endsF s what t m).1 (holdsF n (endsF s what t m).2) t m := by
  have hc := hd_bd m.c
  subst hn
  unfold endsF
  split
  · unfold Inv; simp [holdsF, holdOne]
  · split
    · unfold Inv; simp [holdsF, holdOne]
    · split
      · unfold Inv; simp [holdsF, holdOne]; omega
      · simpa [holdsF] using h

theorem step_inv {s : St} {n t : Int} {m : Tm} (h : Inv s n t m) (h0 : 0 ≤ t) (what : Int) : Inv (stepF s what t m).1 (holdsF n (stepF s what t m).2) t m := by
  have ha := hd_bd m.a
  have hb := hd_bd m.b
  have hc := hd_bd m.c
  have he := fun hn => ends_inv h hn h0 what
  have h' := h
  unfold stepF
  rcases h with ⟨h1, h2, h3, h4⟩ | ⟨h1, h2, h3, h4, h5⟩ | ⟨h1, h2, h3, h4, h5⟩ | ⟨h1, h2, h3, h4, h5⟩ | ⟨h1, h2, h3, h4⟩ | ⟨h1, h2, h3, h4, h5⟩
  · rw [if_pos h1]
    subst h4
    unfold nullF
    split
    · unfold Inv; simp [holdsF, holdOne]; omega
    · split
      · unfold Inv; simp [holdsF, holdOne]; omega
      · split
        · unfold Inv; simp [holdsF, holdOne]; omega
        · simpa [holdsF] using h'
  · rw [if_neg (by omega), if_pos h1]
    subst h5
    unfold incomingF
    split
    · unfold Inv; simp [holdsF, holdOne]
    · split
      · unfold Inv; simp [holdsF, holdOne]; omega
      · exact he rfl
  · rw [if_neg (by omega), if_neg (by omega), if_pos h1]
    subst h5
    unfold presentF
    split
    · unfold Inv; simp [holdsF, holdOne]; omega
    · split
      · unfold Inv; simp [holdsF, holdOne]
      · split
        · unfold Inv; simp [holdsF, holdOne]; omega
        · split
          · unfold Inv; simp [holdsF, holdOne]
          · exact he rfl
  · rw [if_neg (by omega), if_neg (by omega), if_neg (by omega), if_pos h1]
    subst h5
    unfold outgoingF
    split
    · unfold Inv; simp [holdsF, holdOne]
    · split
      · unfold Inv; simp [holdsF, holdOne]; omega
      · exact he rfl
  · rw [if_neg (by omega), if_neg (by omega), if_neg (by omega), if_neg (by omega), if_pos h1]
    exact he h4
  · rw [if_neg (by omega), if_neg (by omega), if_neg (by omega), if_neg (by omega), if_neg (by omega), if_pos h1]
    subst h5
    unfold releasingF
    split
    · unfold Inv; simp [holdsF, holdOne]; omega
    · split
      · unfold Inv; simp [holdsF, holdOne]
      · simpa [holdsF] using h'

theorem step_len (s : St) (what t : Int) (m : Tm) : (stepF s what t m).2.length ≤ 2 := by
  unfold stepF nullF incomingF presentF outgoingF releasingF endsF
  repeat' split
  all_goals simp

theorem Inv.n01 {s : St} {n t : Int} {m : Tm} (h : Inv s n t m) : 0 ≤ n ∧ n ≤ 1 := by
  unfold Inv at h
  rcases h with h | h | h | h | h | h <;> omega

end Go.Proofs.Ytjgdbmkddmjaeaa
