/- What the making of a policer keeps. -/
import Derived.Test.YtcfhjkmebnmcjaaGreatL
import Derived.Deep.AppendLies
namespace Go.Proofs.YtcfhjkmebnmcjaaGreat
open Go.RowKit Go.Shelf
set_option linter.unusedVariables false
set_option linter.unusedSimpArgs false

/-- A rule's bucket, new. -/
def newBk (r : Rl) : Bk := ⟨hold r.s 1 1152921504606846976, hold r.e 0 1152921504606846976, 0, false⟩
theorem newBk_ok (r : Rl) : (newBk r).Ok := hold_ok r.s r.e

theorem own_typ {W : World} {B n : Nat} {e : TypeId} {s : Nat} {v : Value} {xs : List Value} (h : W.ownsRow B e s v n xs) {g : Nat} (hg : v.ownBlock = some g) : B ≤ g ∧ ∃ cur, W.heap[g]? = some (.cells cur e (0, 0)) := by
  rcases h.2 with ⟨rfl, _⟩ | ⟨g', cap, cur, rfl, hb, hc, _⟩
  · cases hg
  · cases hg; exact ⟨hb, cur, hc⟩
theorem own_ne {W : World} {B n : Nat} {e : TypeId} {s : Nat} {v : Value} {xs : List Value} (h : W.ownsRow B e s v n xs) {k : Nat} {cs : Array Value} {t : TypeId} {fz : Nat × Nat} (hk : W.heap[k]? = some (.cells cs t fz)) (ht : t ≠ e) : some k ≠ v.ownBlock := fun e' => by
  obtain ⟨_, cur, h1⟩ := own_typ h e'.symm
  rw [h1] at hk
  cases hk
  exact ht rfl

/-- While the policer is made: k rules have their buckets. -/
structure Mk (w W : World) (pb : Nat) (al : Bool) (v0 : Value) (rl : List Rl) (k : Nat) (v : Value) (us : List Ru) : Prop where
  p : W.heap[pb]? = some (.cells #[.bool al, v, .int .i64 0, .int .i64 0, .int .i64 0, .int .i64 0] 200 (0, 0))
  r : W.ownsRow w.heap.size 204 4 v0 rl.length (rl.flatMap Rl.cells)
  o : W.ownsRow w.heap.size 208 5 v k (us.flatMap Ru.cells)
  rs : us.map (·.r) = rl.take k
  b : ∀ u ∈ us, HasB W u.b (newBk u.r) ∧ w.heap.size ≤ u.b
  nd : (us.map (·.b)).Nodup
  bel : Below w.heap.size w W
  pl : w.heap.size ≤ pb

theorem Mk.next {w W w2 w9 : World} {pb k gg cap b : Nat} {al : Bool} {v0 v : Value} {rl : List Rl} {us : List Ru} {r : Rl} (h : Mk w W pb al v0 rl k v us) (hb : Below W.heap.size W w2)
    (hr : rl[k]? = some r) (hB : HasB w2 b (newBk r)) (hbl : W.heap.size ≤ b) (hg : w2.grownBy w9 v.ownBlock)
    (hown : w9.ownsRow w.heap.size 208 5 (.slice (some ⟨gg, 0, none⟩) (k + 1) cap) (k + 1) (us.flatMap Ru.cells ++ (Ru.mk r b).cells)) :
    Mk w (w9.setCell ⟨pb, 1, none⟩ (.slice (some ⟨gg, 0, none⟩) (k + 1) cap)) pb al v0 rl (k + 1) (.slice (some ⟨gg, 0, none⟩) (k + 1) cap) (us ++ [⟨r, b⟩]) := by
  have hpl : pb < W.heap.size := (Array.getElem?_eq_some_iff.1 h.p).1
  have hp2 : w2.heap[pb]? = _ := (hb.block pb hpl).trans h.p
  have ho2 : w2.ownsRow w.heap.size 208 5 v k (us.flatMap Ru.cells) := by
    refine h.o.kept (row := none) ⟨hb.os, hb.tape, hb.output, hb.size, fun k hk _ => hb.block k hk⟩ ?_
    cases hv : v.ownBlock <;> simp
  have hr2 : w2.ownsRow w.heap.size 204 4 v0 rl.length (rl.flatMap Rl.cells) := by
    refine h.r.kept (row := none) ⟨hb.os, hb.tape, hb.output, hb.size, fun k hk _ => hb.block k hk⟩ ?_
    cases hv : v0.ownBlock <;> simp
  have hne : some pb ≠ v.ownBlock := own_ne ho2 hp2 (by decide)
  have hp9 : w9.heap[pb]? = _ := (hg.block pb (Nat.lt_of_lt_of_le hpl hb.size) hne).trans hp2
  have hne9 : some pb ≠ (Value.slice (some ⟨gg, 0, none⟩) (k + 1) cap).ownBlock := own_ne hown hp9 (by decide)
  have hr9 : w9.ownsRow w.heap.size 204 4 v0 rl.length (rl.flatMap Rl.cells) := by
    refine hr2.kept hg ?_
    cases hv : v0.ownBlock with
    | none => exact .inl rfl
    | some g0 =>
      obtain ⟨_, cur, hc⟩ := own_typ hr2 hv
      exact .inr (own_ne ho2 hc (by decide))
  have hkb : ∀ c (y : Bk), HasB w2 c y → HasB (w9.setCell ⟨pb, 1, none⟩ (.slice (some ⟨gg, 0, none⟩) (k + 1) cap)) c y := fun c y hc => by
    have h1 : w9.heap[c]? = w2.heap[c]? := hg.block c hc.lt (own_ne ho2 hc (by decide))
    have h2 : c ≠ pb := fun e => by
      subst e
      have h3 : w2.heap[c]? = _ := hc
      rw [hp2] at h3
      simp at h3
    exact (Below.heap_setCell _ _ _ _ h2).trans (h1.trans hc)
  refine ⟨?_, own_set hr9 _ _ _ ?_, ?_, ?_, ?_, ?_, ?_, h.pl⟩
  · rw [heap_set hp9]; rfl
  · intro e
    obtain ⟨_, cur, hc⟩ := own_typ hr9 e
    rw [hp9] at hc
    simp at hc
  · have := own_set hown pb 1 (.slice (some ⟨gg, 0, none⟩) (k + 1) cap) (fun e => hne9 e.symm)
    simpa using this
  · rw [List.map_append, h.rs, List.take_add_one, hr]; rfl
  · intro u hu
    rcases List.mem_append.1 hu with hu | hu
    · have := h.b u hu
      exact ⟨hkb _ _ ((hb.block u.b this.1.lt).trans this.1), this.2⟩
    · cases List.mem_singleton.1 hu
      exact ⟨hkb _ _ hB, Nat.le_trans h.bel.size hbl⟩
  · rw [List.map_append, List.nodup_append]
    refine ⟨h.nd, by simp, ?_⟩
    intro x hx y hy
    obtain ⟨u, hu, rfl⟩ := List.mem_map.1 hx
    simp only [List.map_cons, List.map_nil, List.mem_singleton] at hy
    subst hy
    have := (h.b u hu).1.lt
    omega
  · refine (Below.grown (h.bel.trans (hb.mono h.bel.size)) hg (Nat.le_trans h.bel.size hb.size) (fun g e => (own_typ ho2 e).1)).setCell h.pl _

/-- At the end it is a policer. -/
theorem Mk.po {w W : World} {pb k : Nat} {al : Bool} {v0 v : Value} {rl : List Rl} {us : List Ru} (h : Mk w W pb al v0 rl k v us) (hk : k = rl.length) (h0 : 0 < k) :
    ∃ rg cap, us.map (·.r) = rl ∧ Po W pb rg cap al us (fun b => ((us.find? (fun u => u.b = b)).map (fun u => newBk u.r)).getD (newBk ⟨0, 0, false, false⟩)) := by
  obtain ⟨g, cap, rfl, _, _⟩ := h.o.form h0
  have hus : us.map (·.r) = rl := by rw [h.rs, hk, List.take_length]
  have hl : us.length = k := by rw [← List.length_map (f := (·.r)), hus, hk]
  refine ⟨g, cap, hus, ⟨(0, 0, 0, 0), ⟨?_⟩⟩, ?_, ?_, ?_⟩
  · rw [h.p, hl]
  · rcases h.o.2 with ⟨e, _⟩ | ⟨g', cap', cur, e, _, hc, _, _, hcs, htk⟩
    · cases e
    · cases e
      refine ⟨cur, hc, fun i u hu j v hv => ?_⟩
      have hlen : ∀ u : Ru, u.cells.length = 5 := fun _ => rfl
      have hj : j < 5 := by have := (List.getElem?_eq_some_iff.1 hv).1; rw [hlen] at this; exact this
      have h1 : (us.flatMap Ru.cells)[5 * i + j]? = some v := by
        clear htk hc hcs h hus hl
        induction us generalizing i with
        | nil => simp at hu
        | cons a t ih =>
          cases i with
          | zero =>
            simp only [List.getElem?_cons_zero, Option.some.injEq] at hu
            subst hu
            rw [List.flatMap_cons, List.getElem?_append_left (by rw [hlen]; omega)]
            simpa using hv
          | succ i =>
            rw [List.flatMap_cons, List.getElem?_append_right (by rw [hlen]; omega), hlen, show 5 * (i + 1) + j - 5 = 5 * i + j by omega]
            exact ih i (by simpa using hu)
      rw [← htk, List.getElem?_take] at h1
      split at h1
      · simpa using h1
      · cases h1
  · intro u hu
    have hb := (h.b u hu).1
    have hf : us.find? (fun x => x.b = u.b) = some u := by
      have hnd := h.nd
      clear hb h hus hl
      induction us with
      | nil => cases hu
      | cons a t ih =>
        rw [List.find?_cons]
        rcases List.mem_cons.1 hu with rfl | hu
        · simp
        · have hne : a.b ≠ u.b := fun e => by
            simp only [List.map_cons, List.nodup_cons] at hnd
            exact hnd.1 (e ▸ List.mem_map_of_mem hu)
          simp only [hne, decide_false]
          exact ih hu (by simp only [List.map_cons, List.nodup_cons] at hnd; exact hnd.2)
    simp only [hf]
    exact hb
  · intro b
    cases hf : us.find? (fun u => u.b = b) <;> exact newBk_ok _

end Go.Proofs.YtcfhjkmebnmcjaaGreat
