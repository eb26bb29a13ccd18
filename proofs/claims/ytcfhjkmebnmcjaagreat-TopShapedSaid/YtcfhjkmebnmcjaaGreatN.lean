/- The making of a node. -/
import Derived.Test.YtcfhjkmebnmcjaaGreatM
import Derived.Test.YtcfhjkmebnmcjaaGreatGd
import Derived.Deep.DeepCutAuto
import Derived.IntWalk
import Derived.Deep.Onto
import Derived.Deep.RegionLaw
namespace Go.Proofs.YtcfhjkmebnmcjaaGreat
open Go.RowKit Go.Shelf
set_option linter.unusedVariables false
set_option linter.unusedSimpArgs false
attribute [local go_sem] Oper.semAt_some

theorem info102 : (Tryz.prog.info? 102).map (fun i => (i.zero, i.size, i.bytes)) = some (some (.pointer none), 1, 8) := by kernel_rfl
/-- A room as a ledger holds it. -/
def roomOf (r : Int) : Int := max 0 (min r 1152921504606846976)
theorem blk_ne {W : World} {a b : Nat} {o1 o2 : Obj} (h1 : W.heap[a]? = some o1) (h2 : W.heap[b]? = some o2) (h : o1 ≠ o2) : a ≠ b := fun e => by
  subst e
  rw [h1] at h2
  exact h (Option.some.inj h2)
theorem HasL.mapAt {W : World} {p m : Nat} {x : Lg} (h : HasL W p m x) : ∃ es n, W.heap[m]? = some (.map es n) := by
  obtain ⟨es, clock, hb, _⟩ := h.own
  exact ⟨es, clock, hb⟩
theorem HasL.below {W W' : World} {p m : Nat} {x : Lg} (h : HasL W p m x) (hb : Below W.heap.size W W') : HasL W' p m x := h.kept (row := none) ⟨hb.os, hb.tape, hb.output, hb.size, fun k hk _ => hb.block k hk⟩ (by simp) (by simp)
theorem own_below {W W' : World} {B n : Nat} {e : TypeId} {s : Nat} {v : Value} {xs : List Value} (h : W.ownsRow B e s v n xs) (hb : Below W.heap.size W W') : W'.ownsRow B e s v n xs := by
  refine h.kept (row := none) ⟨hb.os, hb.tape, hb.output, hb.size, fun k hk _ => hb.block k hk⟩ ?_
  cases hv : v.ownBlock <;> simp

theorem Nb.c0 {W : World} {nb tb mp : Nat} {L : Value} {nx : Int} (h : Nb W nb L tb mp nx) : W.cell? ⟨nb, 0, none⟩ = some L := by unfold Nb at h; simp [World.cell?, h]

/-- While a node is made: k links have their ledgers. -/
structure An (w W : World) (nb tb mp : Nat) (r : Int) (v : Value) (k : Nat) (L : List (Nat × Nat)) : Prop where
  n : Nb W nb v tb mp 0
  t : Tb W tb 1 50 355 false
  m : W.heap[mp]? = some (.map #[] 0)
  o : W.ownsRow w.heap.size 102 1 v k (L.map fun q => .pointer (some ⟨q.1, 0, none⟩))
  l : ∀ q ∈ L, HasL W q.1 q.2 ⟨roomOf r, []⟩ ∧ mp ≠ q.2 ∧ w.heap.size ≤ q.1 ∧ w.heap.size ≤ q.2
  len : L.length = k
  bel : Below w.heap.size w W
  ge : w.heap.size ≤ nb ∧ w.heap.size ≤ tb ∧ w.heap.size ≤ mp

theorem An.next {w W w2 w9 : World} {nb tb mp k gg cap p m : Nat} {r : Int} {v : Value} {L : List (Nat × Nat)} (h : An w W nb tb mp r v k L) (hb : Below W.heap.size W w2)
    (hL : HasL w2 p m ⟨roomOf r, []⟩) (hp : W.heap.size ≤ p) (hm : W.heap.size ≤ m) (hg : w2.grownBy w9 v.ownBlock)
    (hown : w9.ownsRow w.heap.size 102 1 (.slice (some ⟨gg, 0, none⟩) (k + 1) cap) (k + 1) ((L.map fun q => .pointer (some ⟨q.1, 0, none⟩)) ++ [.pointer (some ⟨p, 0, none⟩)])) :
    An w (w9.setCell ⟨nb, 0, none⟩ (.slice (some ⟨gg, 0, none⟩) (k + 1) cap)) nb tb mp r (.slice (some ⟨gg, 0, none⟩) (k + 1) cap) (k + 1) (L ++ [(p, m)]) := by
  have hn2 := h.n.below hb
  have ho2 := own_below h.o hb
  have ht2 := h.t.below hb
  have hml : mp < W.heap.size := (Array.getElem?_eq_some_iff.1 h.m).1
  have hm2 : w2.heap[mp]? = _ := (hb.block mp hml).trans h.m
  have hnm : ∀ j es n, w2.heap[j]? = some (.map es n) → some j ≠ v.ownBlock := fun j es n hj e => by
    obtain ⟨_, cur, hc⟩ := own_typ ho2 e.symm
    rw [hc] at hj
    cases hj
  have hne : some nb ≠ v.ownBlock := own_ne ho2 hn2 (by decide)
  have hn9 : w9.heap[nb]? = _ := (hg.block nb hn2.lt hne).trans hn2
  have hkeep : ∀ j o, w2.heap[j]? = some o → some j ≠ v.ownBlock → j ≠ nb → (w9.setCell ⟨nb, 0, none⟩ (.slice (some ⟨gg, 0, none⟩) (k + 1) cap)).heap[j]? = some o := fun j o hj h1 h2 =>
    (Below.heap_setCell _ _ _ _ h2).trans ((hg.block j (Array.getElem?_eq_some_iff.1 hj).1 h1).trans hj)
  have hll : ∀ q1 q2, HasL w2 q1 q2 ⟨roomOf r, []⟩ → HasL (w9.setCell ⟨nb, 0, none⟩ (.slice (some ⟨gg, 0, none⟩) (k + 1) cap)) q1 q2 ⟨roomOf r, []⟩ := fun q1 q2 hq => by
    obtain ⟨es, c, hc⟩ := hq.mapAt
    have hq9 : HasL w9 q1 q2 ⟨roomOf r, []⟩ := hq.kept hg (fun e => own_ne ho2 hq.cells (by decide) e.symm) (fun e => hnm _ _ _ hc e.symm)
    refine hq9.kept2 (q := nb) (r := nb) (Kept.set w9 _ _) ?_ ?_ ?_ ?_
    · exact blk_ne hq.cells hn2 (by simp)
    · exact blk_ne hq.cells hn2 (by simp)
    · exact blk_ne hc hn2 (by simp)
    · exact blk_ne hc hn2 (by simp)
  refine ⟨?_, ?_, hkeep mp _ hm2 (hnm _ _ _ hm2) (blk_ne hm2 hn2 (by simp)), ?_, ?_, by simp [h.len], ?_, h.ge⟩
  · unfold Nb
    rw [heap_set hn9]
    rfl
  · obtain ⟨cs, h1, h2⟩ := ht2
    exact ⟨cs, hkeep tb _ h1 (own_ne ho2 h1 (by decide)) (blk_ne h1 hn2 (by simp)), h2⟩
  · have hne9 : some nb ≠ (Value.slice (some ⟨gg, 0, none⟩) (k + 1) cap).ownBlock := own_ne hown hn9 (by decide)
    have := own_set hown nb 0 (.slice (some ⟨gg, 0, none⟩) (k + 1) cap) (fun e => hne9 e.symm)
    simpa using this
  · intro q hq
    rcases List.mem_append.1 hq with hq | hq
    · obtain ⟨h1, h2, h3, h4⟩ := h.l q hq
      exact ⟨hll _ _ (h1.below hb), h2, h3, h4⟩
    · cases List.mem_singleton.1 hq
      exact ⟨hll _ _ hL, by simp only; omega, Nat.le_trans h.bel.size hp, Nat.le_trans h.bel.size hm⟩
  · exact (Below.grown (h.bel.trans (hb.mono h.bel.size)) hg (Nat.le_trans h.bel.size hb.size) (fun g e => (own_typ ho2 e).1)).setCell h.ge.1 _

set_option maxRecDepth 100000 in
set_option maxHeartbeats 8000000 in
theorem adnew_at (sb : Nat) (r : Int) (w : World) (hs0 : w.cell? ⟨sb, 0, none⟩ = some (.int .i64 r)) (hs1 : w.cell? ⟨sb, 1, none⟩ = some (.int .i64 r)) :
    Calls Tryz.prog 14 #[.slice (some ⟨sb, 0, none⟩) 2 2] w fun e W' => ∃ nb tb mp v L, e = .returned (.pointer (some ⟨nb, 0, none⟩)) ∧ An w W' nb tb mp r v 2 L := by
  have hmm := @run_makeMap Tryz.prog
  have hsl := World.block_lt_of_cell? w ⟨sb, 0, none⟩ hs0
  have HS := Lib.hid (And.intro hs0 (And.intro hs1 hsl))
  clear hs0 hs1 hsl
  go_enter Tryz.func14, Tryz.ntmps14
  go_wp2_with (go_at_call 15; refine (tnew_at _).mono ?_; rintro e w1 ⟨tb, rfl, htb, _, ht1, hb1⟩; have HT1 := Lib.hid (And.intro htb (And.intro ht1 hb1)); clear htb ht1 hb1)
  have hA : An w ((w1.alloc (.map #[] 0)).alloc (.cells #[.slice none 0 0, .pointer (some ⟨tb, 0, none⟩), .map (some w1.heap.size), .int .i64 0] 101)) (w1.heap.size + 1) tb w1.heap.size r (.slice none 0 0) 0 [] := by
    obtain ⟨h1, h2, h3⟩ := HT1.out
    have hb2 := ((Below.refl w1.heap.size w1).alloc (Nat.le_refl _) (.map #[] 0)).alloc (by simp) (.cells #[.slice none 0 0, .pointer (some ⟨tb, 0, none⟩), .map (some w1.heap.size), .int .i64 0] 101)
    refine ⟨heap_new' _ (by simp), h2.below hb2, ?_, ⟨by simp, .inl ⟨rfl, rfl⟩⟩, (fun q hq => by cases hq), rfl, h3.trans (hb2.mono h3.size), by have := h3.size; omega, h1, h3.size⟩
    rw [Below.heap_alloc _ _ _ (by simp), heap_new' w1 rfl]
  obtain ⟨mp, emp⟩ : ∃ mp, w1.heap.size = mp := ⟨_, rfl⟩
  rw [emp] at hA
  rw [emp]
  obtain ⟨nb, enb⟩ : ∃ nb, mp + 1 = nb := ⟨_, rfl⟩
  rw [enb] at hA
  try rw [enb]
  generalize ((w1.alloc (.map #[] 0)).alloc (.cells #[.slice none 0 0, .pointer (some ⟨tb, 0, none⟩), .map (some mp), .int .i64 0] 101)) = Wn at hA ⊢
  clear HT1 emp enb
  go_loopw [16] (fun i wr => ∃ (k : Nat) (v : Value) (L : List (Nat × Nat)), k ≤ 2 ∧ i = .int .i64 k ∧ An w wr nb tb mp r v k L) (fun i _ => 2 - (Go.RowKit.intOf i).toNat)
  case atStart => exact ⟨0, _, _, Nat.zero_le _, rfl, hA⟩
  case round =>
    obtain ⟨k, v, L, hkn, rfl, hAk⟩ := hrel
    by_cases hlt : k < 2
    · have hcell : wr.cell? ⟨sb, k, none⟩ = some (.int .i64 r) := by
        have hk : k = 0 ∨ k = 1 := by omega
        rcases hk with rfl | rfl
        · exact (hAk.bel.cell (p := ⟨sb, 0, none⟩) HS.out.2.2).trans HS.out.1
        · exact (hAk.bel.cell (p := ⟨sb, 1, none⟩) HS.out.2.2).trans HS.out.2.1
      have hsl : sb < wr.heap.size := Nat.lt_of_lt_of_le HS.out.2.2 hAk.bel.size
      have HA := Lib.hid hAk
      have hk0 : (0 : Int) ≤ (k : Int) := Int.natCast_nonneg _
      have hk1 : (k : Int) < 2 := by omega
      clear hAk hA
      go_wp2_with fail
      have HW := Lib.hid (show ∀ X, Below wr.drew.heap.size wr.drew X → X.cell? ⟨nb, 0, none⟩ = some v ∧ (∀ o, X.frozen? ⟨nb, o, none⟩ = false) ∧ X.ownsRow w.heap.size 102 1 v k (L.map fun q => .pointer (some ⟨q.1, 0, none⟩)) ∧ nb < X.heap.size ∧ w.heap.size ≤ X.heap.size ∧ Below wr.heap.size wr X from fun X hX => by
        have hx : Below wr.heap.size wr X := (Below.refl _ _).drew.trans hX
        have hn := HA.out.n.below hx
        refine ⟨hn.c0, fun o => hn.at.2.2.2.2 o, own_below HA.out.o hx, hn.lt, Nat.le_trans HA.out.bel.size hx.size, hx⟩)
      obtain ⟨p1, pf, _, pl1, _, _⟩ := HW.out wr.drew (Below.refl _ _)
      obtain ⟨i0, hi, hz0, hz1, hz2⟩ := info_parts info102
      have HQ := Lib.hid (own_ne HA.out.o HA.out.n (by decide))
      clear hcell hsl hk0 hk1
      go_region_law
        (first | (go_simp; go_at_call 34; refine (lnew_any _ _).mono ?_; rintro e w1 ⟨p, m, rfl, hpge, hmge, hL, hgr⟩; have hb1 := below_none hgr; obtain ⟨p1, pf, ho, pl1, wl1, hbw⟩ := HW.out w1 hb1; have p1' := (World.cell?_alloc_some w1 ⟨nb, 0, none⟩ (.cells #[.pointer (some ⟨p, 0, none⟩)] 102) (by rw [p1]; rfl)).trans p1) |
          (refine step_append_lies _ (by rfl) _ _ _ (by rfl) w.heap.size 102 i0 _ 1 8 Tryz.underlying99 hi hz0 hz1 hz2 rfl (by omega) v k (L.map fun q => .pointer (some ⟨q.1, 0, none⟩)) (by rfl) (ho.alloc _)
                ⟨w1.heap.size, 0, none⟩ 1 1 [.pointer (some ⟨p, 0, none⟩)] (by rfl) (by rfl) (World.news_of_block (cs := #[.pointer (some ⟨p, 0, none⟩)]) (t := 102) (fr := (0, 0)) (heap_alloc_new w1 _)) (by simp [Value.oneCell'])
                (by omega) (by unfold maxLen; omega) (by omega) (by simp; omega) (w1.heap.size + 1) (by simp) ?_; intro gg cap w9 hown1 hgrow hat hlt9; have HO := Lib.hid (And.intro hown1 hgrow); have hf9 := (hgrow.frozen_far ⟨nb, 0, none⟩ (by simp; omega) HQ.out).trans ((((Below.refl w1.heap.size w1).alloc (Nat.le_refl _) (.cells #[.pointer (some ⟨p, 0, none⟩)] 102)).frozen (p := ⟨nb, 0, none⟩) pl1).trans (pf 0)); have hc9 := (hgrow.cell_far ⟨nb, 0, none⟩ (by simp; omega) HQ.out).trans p1'))
      all_goals
        have HE := Lib.hid (And.intro hL (And.intro hpge (And.intro hmge hbw)))
        clear hL hpge hmge hbw hgr hb1 p1 pf ho pl1 wl1 hat hlt9 hf9 hc9 hi hz0 hz1 hz2
        go_wp2_with fail
        go_roundw
        case rel => exact ⟨k + 1, _, L ++ [(p, m)], by omega, by go_num, An.next HA.out (HE.out.2.2.2.alloc HE.out.2.2.2.size _) (HE.out.1.below ((Below.refl _ _).alloc (Nat.le_refl _) _)) HE.out.2.1 HE.out.2.2.1 HO.out.2 HO.out.1⟩
        case measure => simp [Go.RowKit.intOf]; omega
    · have hkn' : k = 2 := by omega
      subst hkn'
      have HM := Lib.hid hAk
      clear hAk hA
      go_wp2_with fail
      go_ret
      exact ⟨nb, tb, mp, v, L, rfl, HM.out⟩

end Go.Proofs.YtcfhjkmebnmcjaaGreat
