/- A node's Take. -/
import Derived.Test.YtcfhjkmebnmcjaaGreatP
namespace Go.Proofs.YtcfhjkmebnmcjaaGreat
open Go.RowKit Go.Shelf
set_option linter.unusedVariables false
set_option linter.unusedSimpArgs false
attribute [local go_sem] Oper.semAt_some

theorem Nd.setnx {W : World} {nb tb mp lg cap p m : Nat} {u : Bool} {nx : Int} {x : Lg} (h : Nd W nb tb mp lg cap p m u nx x) (v : Int) : Nd (W.setCell ⟨nb, 3, none⟩ (.int .i64 v)) nb tb mp lg cap p m u v x := by
  have hn := h.n
  obtain ⟨cs, ht1, ht2⟩ := h.t
  obtain ⟨cur, hr1, hr2⟩ := h.r
  obtain ⟨es, c, hm⟩ := h.l.mapAt
  refine ⟨?_, ⟨cs, ?_, ht2⟩, ⟨cur, ?_, hr2⟩, ?_, h.ne⟩
  · unfold Nb; rw [heap_set hn]; rfl
  · exact (Below.heap_setCell _ _ _ _ (show tb ≠ nb from blk_ne ht1 hn (by simp))).trans ht1
  · exact (Below.heap_setCell _ _ _ _ (show lg ≠ nb from blk_ne hr1 hn (by simp))).trans hr1
  · exact h.l.kept2 (Kept.set (p := nb) (m := nb) W _ _) (blk_ne h.l.cells hn (by simp)) (blk_ne h.l.cells hn (by simp)) (blk_ne hm hn (by simp)) (blk_ne hm hn (by simp))
theorem Nd.put {W W' : World} {nb tb mp lg cap p m : Nat} {nx : Int} {x : Lg} (h : Nd W nb tb mp lg cap p m false nx x) (ht : Tb W' tb 1 50 355 true) (hk : Kept tb tb W W') : Nd W' nb tb mp lg cap p m true nx x := by
  obtain ⟨cs, ht1, ht2⟩ := h.t
  obtain ⟨cur, hr1, hr2⟩ := h.r
  obtain ⟨es, c, hm⟩ := h.l.mapAt
  refine ⟨?_, ht, ⟨cur, ?_, hr2⟩, ?_, h.ne⟩
  · exact (hk.block nb h.n.lt (blk_ne h.n ht1 (by simp)) (blk_ne h.n ht1 (by simp))).trans h.n
  · exact (hk.block lg h.lgl (blk_ne hr1 ht1 (by simp)) (blk_ne hr1 ht1 (by simp))).trans hr1
  · exact h.l.kept2 hk (blk_ne h.l.cells ht1 (by simp)) (blk_ne h.l.cells ht1 (by simp)) (blk_ne hm ht1 (by simp)) (blk_ne hm ht1 (by simp))
theorem Nd.book {W W' : World} {nb tb mp lg cap p m : Nat} {u : Bool} {nx : Int} {x y : Lg} (h : Nd W nb tb mp lg cap p m u nx x) (hl : HasL W' p m y) (hk : Kept p m W W') : Nd W' nb tb mp lg cap p m u nx y := by
  obtain ⟨cs, ht1, ht2⟩ := h.t
  obtain ⟨cur, hr1, hr2⟩ := h.r
  obtain ⟨es, c, hm⟩ := h.l.mapAt
  refine ⟨?_, ⟨cs, ?_, ht2⟩, ⟨cur, ?_, hr2⟩, hl, h.ne⟩
  · exact (hk.block nb h.n.lt (blk_ne h.n h.l.cells (by simp)) (blk_ne h.n hm (by simp))).trans h.n
  · exact (hk.block tb h.t.lt (blk_ne ht1 h.l.cells (by simp)) (blk_ne ht1 hm (by simp))).trans ht1
  · exact (hk.block lg h.lgl (blk_ne hr1 h.l.cells (by simp)) (blk_ne hr1 hm (by simp))).trans hr1

theorem Nd.kl {W W' : World} {nb tb mp lg cap p m : Nat} {u : Bool} {nx : Int} {x : Lg} (h : Nd W nb tb mp lg cap p m u nx x) {es : Array MapEntry} {n : Nat} (hM : W.heap[mp]? = some (.map es n)) (hk : KL [mp] W W') : Nd W' nb tb mp lg cap p m u nx x := by
  have hb : ∀ k, k < W.heap.size → k ≠ mp → W'.heap[k]? = W.heap[k]? := fun k h1 h2 => hk.block k h1 (by simpa using h2)
  obtain ⟨cs, ht1, ht2⟩ := h.t
  obtain ⟨cur, hr1, hr2⟩ := h.r
  refine ⟨(hb nb h.n.lt (blk_ne h.n hM (by simp))).trans h.n, ⟨cs, (hb tb h.t.lt (blk_ne ht1 hM (by simp))).trans ht1, ht2⟩, ⟨cur, (hb lg h.lgl (blk_ne hr1 hM (by simp))).trans hr1, hr2⟩, ?_, h.ne⟩
  exact h.l.kept2 (q := mp) (r := mp) ⟨hk.os, hk.tape, hk.output, hk.size, fun k h1 h2 _ => hb k h1 h2⟩ (blk_ne h.l.cells hM (by simp)) (blk_ne h.l.cells hM (by simp)) h.ne.symm h.ne.symm

/-- What the walk of Take knows of a world: the node, its empty map, the boxes of the key and of the contract; the blocks that may have turned. -/
structure Tk (w W X : World) (nb tb mp lg cap p m : Nat) (c : Ct) (u : Bool) (nx : Int) (x : Lg) : Prop where
  nd : Nd X nb tb mp lg cap p m u nx x
  mp : X.heap[mp]? = some (.map #[] 0)
  kc : Kc X w.heap.size c
  kl : KL [nb, tb, p, m] w X
theorem Kc.blocks {X Y : World} {b : Nat} {c : Ct} (h : Kc X b c) (h0 : Y.heap[b]? = X.heap[b]?) (h1 : Y.heap[b + 1]? = X.heap[b + 1]?) : Kc Y b c := by
  unfold Kc World.cell? at *
  rw [h0, h1]
  exact h
theorem KL.after {S : List Nat} {w X Y : World} (h : KL S w X) (hb : Below X.heap.size X Y) : KL S w Y := h.trans (KL.of_below hb)

section
variable {w W X Y : World} {nb tb mp lg cap p m : Nat} {c : Ct} {u : Bool} {nx : Int} {x : Lg}
theorem Kc.lt {X : World} {b : Nat} {c : Ct} (h : Kc X b c) : b < X.heap.size ∧ b + 1 < X.heap.size := by
  refine ⟨World.block_lt_of_cell? X ⟨b, 0, none⟩ h.1, World.block_lt_of_cell? X ⟨b + 1, 0, none⟩ h.2.2.2.1⟩
theorem Tk.below (h : Tk w W X nb tb mp lg cap p m c u nx x) (hb : Below X.heap.size X Y) : Tk w W Y nb tb mp lg cap p m c u nx x := by
  have hl := h.kc.lt
  exact ⟨h.nd.below hb, (hb.block mp (Array.getElem?_eq_some_iff.1 h.mp).1).trans h.mp, h.kc.blocks (hb.block _ hl.1) (hb.block _ hl.2), h.kl.after hb⟩
theorem Tk.step {y : Lg} {u' : Bool} {nx' : Int} (h : Tk w W X nb tb mp lg cap p m c u nx x) (hn : Nd Y nb tb mp lg cap p m u' nx' y) {S : List Nat} (hk : KL S X Y) (hS : ∀ k ∈ S, k < w.heap.size ∧ k ≠ mp ∧ k ∈ [nb, tb, p, m]) : Tk w W Y nb tb mp lg cap p m c u' nx' y := by
  have hl := h.kc.lt
  refine ⟨hn, (hk.block mp (Array.getElem?_eq_some_iff.1 h.mp).1 (fun e => (hS mp e).2.1 rfl)).trans h.mp, h.kc.blocks (hk.block _ hl.1 (fun e => by have := (hS _ e).1; omega)) (hk.block _ hl.2 (fun e => by have := (hS _ e).1; omega)), ?_⟩
  exact h.kl.trans ⟨hk.os, hk.tape, hk.output, hk.size, fun k hk1 h1 => hk.block k hk1 (fun e => h1 (hS k e).2.2)⟩
end

theorem KL.mono {S T : List Nat} {w X : World} (h : KL S w X) (hs : ∀ k ∈ S, k ∈ T) : KL T w X := ⟨h.os, h.tape, h.output, h.size, fun k hk h1 => h.block k hk (fun e => h1 (hs k e))⟩
theorem Pn.mono {B B' : Nat} {W : World} {pb rg cap : Nat} {al : Bool} {rl : List Rl} {us : List Ru} (h : Pn B W pb rg cap al rl us) (hb : B' ≤ B) : Pn B' W pb rg cap al rl us :=
  ⟨h.po, h.rs, h.nd, Nat.le_trans hb h.ge.1, Nat.le_trans hb h.ge.2.1, fun u hu => Nat.le_trans hb (h.ge.2.2 u hu)⟩

theorem TS6 {w W X : World} {nb tb mp lg cap p m : Nat} {c : Ct} {u : Bool} {nx : Int} {x : Lg} (h : Tk w W X nb tb mp lg cap p m c u nx x) : X.cell? ⟨nb, 1, none⟩ = some (.pointer (some ⟨tb, 0, none⟩)) ∧ X.cell? ⟨w.heap.size, 0, none⟩ = some (.int .i64 1) ∧ X.cell? ⟨w.heap.size, 1, none⟩ = some (.int .i64 0) ∧ X.cell? ⟨w.heap.size, 2, none⟩ = some (.int .i64 50) :=
  ⟨h.nd.n.at.2.1, h.kc.1, h.kc.2.1, h.kc.2.2.1⟩
theorem TS7 {w W X : World} {nb tb mp lg cap p m : Nat} {c : Ct} {u : Bool} {nx : Int} {x : Lg} (h : Tk w W X nb tb mp lg cap p m c u nx x) : X.cell? ⟨w.heap.size, 0, none⟩ = some (.int .i64 1) ∧ X.cell? ⟨w.heap.size + 1, 0, none⟩ = some (.int .i64 c.k) ∧ X.cell? ⟨w.heap.size + 1, 1, none⟩ = some (.int .i64 c.p) ∧ X.cell? ⟨w.heap.size + 1, 2, none⟩ = some (.int .i64 c.e) ∧ X.cell? ⟨w.heap.size + 1, 3, none⟩ = some (.int .i64 c.w) ∧ X.cell? ⟨w.heap.size + 1, 4, none⟩ = some (.int .i64 c.b) ∧ X.cell? ⟨w.heap.size + 1, 5, none⟩ = some (.int .i64 c.l) :=
  ⟨h.kc.1, h.kc.2.2.2⟩

set_option maxRecDepth 100000 in
set_option maxHeartbeats 8000000 in
theorem adtake_at {nb tb mp lg cap p m : Nat} {x : Lg} {c : Ct} (hc : c.Ok) (hx : x.Ok) (hlen : x.L.length < 1000000) (hlook : look x.L 0 = none) (hfit : ∀ n : Int, 0 ≤ n → n ≤ 1152921504606846976 → (c.k = 6 → n = 0) → n ≤ x.room - tot x.L) (w : World)
    (h : Nd w nb tb mp lg cap p m false 0 x) (hM : w.heap[mp]? = some (.map #[] 0)) :
    Calls Tryz.prog 20 #[.pointer (some ⟨nb, 0, none⟩), keyV 1 50, c.v] w fun e w' => e = .returned (.int .i64 0) ∧ ∃ pb rg cap2 us y, Pn w.heap.size w' pb rg cap2 (c.k == 7) (rulesOf c) us ∧ w'.heap[mp]? = some (one (connV c pb)) ∧ Nd w' nb tb mp lg cap p m true 1 y ∧ KL [nb, tb, p, m, mp] w w' := by
  have HB0 := Lib.hid (((Below.refl w.heap.size w).alloc (Nat.le_refl _) (.cells #[.int .i64 1, .int .i64 0, .int .i64 50] 35)).alloc (by simp) (.cells #[.int .i64 c.k, .int .i64 c.p, .int .i64 c.e, .int .i64 c.w, .int .i64 c.b, .int .i64 c.l] 23))
  have hk0 : ((w.alloc (.cells #[.int .i64 1, .int .i64 0, .int .i64 50] 35)).alloc (.cells #[.int .i64 c.k, .int .i64 c.p, .int .i64 c.e, .int .i64 c.w, .int .i64 c.b, .int .i64 c.l] 23)).heap[w.heap.size]? = some (.cells #[.int .i64 1, .int .i64 0, .int .i64 50] 35 (0, 0)) := by
    rw [Below.heap_alloc _ _ _ (by simp), heap_new' w rfl]
  have hk1 := heap_new' (w.alloc (.cells #[.int .i64 1, .int .i64 0, .int .i64 50] 35)) (o := .cells #[.int .i64 c.k, .int .i64 c.p, .int .i64 c.e, .int .i64 c.w, .int .i64 c.b, .int .i64 c.l] 23) (n := w.heap.size + 1) (by simp)
  have hml : mp < w.heap.size := (Array.getElem?_eq_some_iff.1 hM).1
  have hT : Tk w w ((w.alloc (.cells #[.int .i64 1, .int .i64 0, .int .i64 50] 35)).alloc (.cells #[.int .i64 c.k, .int .i64 c.p, .int .i64 c.e, .int .i64 c.w, .int .i64 c.b, .int .i64 c.l] 23)) nb tb mp lg cap p m c false 0 x :=
    ⟨h.below HB0.out, (HB0.out.block mp hml).trans hM, Kc.mk' hk0 hk1, KL.of_below HB0.out⟩
  obtain ⟨es0, c0, hmm⟩ := h.l.mapAt
  have HLT := Lib.hid (And.intro h.n.lt (And.intro h.t.lt (And.intro h.l.lt (And.intro (Array.getElem?_eq_some_iff.1 hmm).1 (And.intro (blk_ne h.n hM (by simp)) (And.intro (by obtain ⟨cs, h1, _⟩ := h.t; exact blk_ne h1 hM (by simp) : tb ≠ mp) (And.intro (blk_ne h.l.cells hM (by simp)) h.ne.symm)))))))
  have HC := Lib.hid (And.intro hc (And.intro hx (And.intro hlen (And.intro hlook hfit))))
  clear hk0 hk1 h hM hc hx hlen hlook hfit hmm hml
  go_enter Tryz.func20, Tryz.ntmps20
  go_wp2_with fail
  generalize ((w.alloc (.cells #[.int .i64 1, .int .i64 0, .int .i64 50] 35)).alloc (.cells #[.int .i64 c.k, .int .i64 c.p, .int .i64 c.e, .int .i64 c.w, .int .i64 c.b, .int .i64 c.l] 23)) = W at hT HB0 ⊢
  refine (check_at HC.out.1 HC.out.2.1 HC.out.2.2.2.2 _ hT.nd).mono ?_
  rintro e w1 ⟨rfl, hb1⟩
  have hT1 := hT.below hb1
  have HT1 := Lib.hid hT1
  obtain ⟨n0, n1, n2, n3, nf⟩ := hT1.nd.n.at
  clear hT hT1 hb1
  go_wp2_with fail
  have hT2 : Tk w w (w1.setCell ⟨nb, 3, none⟩ (.int .i64 1)).drew nb tb mp lg cap p m c false 1 x :=
    (HT1.out.step (S := [nb]) (HT1.out.nd.setnx 1) (KL.set _ (by simp)) (by intro k hk; cases List.mem_singleton.1 hk; exact ⟨HLT.out.1, HLT.out.2.2.2.2.1, by simp⟩)).below (Below.refl _ _).drew
  clear n0 n1 n2 n3 nf
  generalize w1.setCell ⟨nb, 3, none⟩ (.int .i64 1) = W2 at hT2 ⊢
  clear HT1
  go_region_held3 (fun X => X.cell? ⟨nb, 1, none⟩ = some (.pointer (some ⟨tb, 0, none⟩)) ∧ X.cell? ⟨w.heap.size, 0, none⟩ = some (.int .i64 1) ∧ X.cell? ⟨w.heap.size, 1, none⟩ = some (.int .i64 0) ∧ X.cell? ⟨w.heap.size, 2, none⟩ = some (.int .i64 50)) (with_reducible exact TS6 (by assumption))
    (first | (go_at_call 23; refine (tput_50 tb _ hT2.nd.t).mono ?_; rintro e w3 ⟨rfl, ht3, hk3⟩; have hT3 : Tk w w w3 nb tb mp lg cap p m c true 1 x := hT2.step (S := [tb]) (hT2.nd.put ht3 hk3) (KL.of_kept hk3 (by simp) (by simp)) (by intro k hk; cases List.mem_singleton.1 hk; exact ⟨HLT.out.2.1, HLT.out.2.2.2.2.2.1, by simp⟩)))
  clear hT2 ht3 hk3
  have hT4 := hT3.below (Below.refl _ _).drew
  clear hT3
  go_wp2_with fail
  go_region_held3 (fun X => X.cell? ⟨w.heap.size, 0, none⟩ = some (.int .i64 1) ∧ X.cell? ⟨w.heap.size + 1, 0, none⟩ = some (.int .i64 c.k) ∧ X.cell? ⟨w.heap.size + 1, 1, none⟩ = some (.int .i64 c.p) ∧ X.cell? ⟨w.heap.size + 1, 2, none⟩ = some (.int .i64 c.e) ∧ X.cell? ⟨w.heap.size + 1, 3, none⟩ = some (.int .i64 c.w) ∧ X.cell? ⟨w.heap.size + 1, 4, none⟩ = some (.int .i64 c.b) ∧ X.cell? ⟨w.heap.size + 1, 5, none⟩ = some (.int .i64 c.l)) (with_reducible exact TS7 (by assumption))
    (first | (go_at_call 39; refine (need_any HC.out.1 _).mono ?_; rintro e w5 ⟨n, rfl, hn, hb5⟩; have hT5 : Tk w w w5 nb tb mp lg cap p m c true 1 x := hT4.below hb5) | (go_at_call 37; refine (link_at _ (Tk.nd (W := w) (w := w) (c := c) (u := true) (nx := 1) (x := x) (by assumption))).mono ?_; rintro e w6 ⟨rfl, rfl⟩) | (go_at_call 38; refine (book_any x HC.out.2.1 p m 0 _ (by decide) HC.out.2.2.1 _ hT5.nd.l).mono ?_; rintro e w7 ⟨rfl, hl7, hk7⟩; have hT7 : Tk w w w7 nb tb mp lg cap p m c true 1 (bookS x 0 n) := hT5.step (S := [p, m]) (hT5.nd.book hl7 hk7) (KL.of_kept hk7 (by simp) (by simp)) (by intro k hk; simp only [List.mem_cons, List.not_mem_nil, or_false] at hk; rcases hk with rfl | rfl; exact ⟨HLT.out.2.2.1, HLT.out.2.2.2.2.2.2.1, by simp⟩; exact ⟨HLT.out.2.2.2.1, HLT.out.2.2.2.2.2.2.2, by simp⟩)))
  all_goals
    have HT := Lib.hid hT7
    obtain ⟨k0, k1, k2, a0, a1, a2, a3, a4, a5⟩ := hT7.kc
    clear hT4 hT5 hT7 hb5 hl7 hk7
    go_wp2_with (go_at_call 40; refine (adput_at HC.out.1 _ HT.out.nd.n HT.out.mp).mono ?_; rintro e w8 ⟨⟨v8, rfl⟩, pb, rg, cap2, us, hpn, hm8, hkl8⟩; have HP := Lib.hid (And.intro hpn (And.intro hm8 hkl8)); clear hpn hm8 hkl8)
    go_ret
    exact ⟨rfl, pb, rg, cap2, us, _, HP.out.1.mono HT.out.kl.size, HP.out.2.1, HT.out.nd.kl HT.out.mp HP.out.2.2, (HT.out.kl.mono (T := [nb, tb, p, m, mp]) (by simp)).trans (HP.out.2.2.mono (by simp))⟩

end Go.Proofs.YtcfhjkmebnmcjaaGreat
