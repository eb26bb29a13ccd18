/- A plane's pass. -/
import Derived.Test.YtcfhjkmebnmcjaaGreatU
import Derived.Deep.RegionHeld3
import Derived.Deep.DeepCutAuto
namespace Go.Proofs.YtcfhjkmebnmcjaaGreat
open Go.RowKit Go.Shelf
set_option linter.unusedVariables false
set_option linter.unusedSimpArgs false
attribute [local go_sem] Oper.semAt_some

abbrev cell40 : Array Value := #[.int .i64 0, .int .i64 0, .int .i64 40, .int .i64 0, .int .i64 0, .int .u8 0, .int .u8 0, .int .u8 0, .int .u8 0, .int .u8 0, .int .u8 0, .int .u8 0, .int .u8 0, .int .u8 0, .int .u8 0, .int .u8 0, .int .u8 0, .int .u8 0, .int .u8 0, .int .u8 0, .int .u8 0, .int .u8 0, .int .u8 0, .int .u8 0, .int .u8 0, .int .u8 0, .int .u8 0, .int .u8 0, .int .u8 0, .int .u8 0, .int .u8 0, .int .u8 0, .int .u8 0, .int .u8 0, .int .u8 0, .int .u8 0, .int .u8 0, .int .u8 0, .int .u8 0, .int .u8 0, .int .u8 0, .int .u8 0, .int .u8 0, .int .u8 0, .int .u8 0, .int .u8 0, .int .u8 0, .int .u8 0, .int .u8 0, .int .u8 0, .int .u8 0, .int .u8 0, .int .u8 0]
abbrev payL : List Value := [.int .u8 0, .int .u8 0, .int .u8 0, .int .u8 0, .int .u8 0, .int .u8 0, .int .u8 0, .int .u8 0, .int .u8 0, .int .u8 0, .int .u8 0, .int .u8 0, .int .u8 0, .int .u8 0, .int .u8 0, .int .u8 0, .int .u8 0, .int .u8 0, .int .u8 0, .int .u8 0, .int .u8 0, .int .u8 0, .int .u8 0, .int .u8 0, .int .u8 0, .int .u8 0, .int .u8 0, .int .u8 0, .int .u8 0, .int .u8 0, .int .u8 0, .int .u8 0, .int .u8 0, .int .u8 0, .int .u8 0, .int .u8 0, .int .u8 0, .int .u8 0, .int .u8 0, .int .u8 0, .int .u8 0, .int .u8 0, .int .u8 0, .int .u8 0, .int .u8 0, .int .u8 0, .int .u8 0, .int .u8 0]
/-- The blocks that a plane's turn may change. -/
def Pw.S (q : Pw) : List Nat := q.p :: q.pb :: q.rs.map (·.b)
/-- A plane with one way open, and the box of a cell. -/
structure Xs (w X : World) (b : Nat) (q : Pw) (c : Ct) (σ : Nat → Bk) (now a t : Int) : Prop where
  ps : Ps X q c σ now a t
  bx : X.heap[b]? = some (.cells cell40 87 (0, 0))
  kl : KL q.S w X
section
variable {w X Y : World} {b : Nat} {q : Pw} {c : Ct} {σ σ' : Nat → Bk} {now a t now' a' t' : Int} (h : Xs w X b q c σ now a t)
include h
theorem Xs.below (hb : Below X.heap.size X Y) : Xs w Y b q c σ now a t := ⟨h.ps.below hb, (hb.block b (Array.getElem?_eq_some_iff.1 h.bx).1).trans h.bx, h.kl.after hb⟩
theorem Xs.set (o : Nat) (v : Value) (hp : Pl (X.setCell ⟨q.p, o, none⟩ v) q.p q.nb q.t0 q.wm q.cm (.slice (some ⟨q.kg, 0, none⟩) 2 q.kcap) 1 now' a' t') : Xs w (X.setCell ⟨q.p, o, none⟩ v) b q c σ now' a' t' :=
  ⟨h.ps.own hp (fun k hk => Below.heap_setCell _ _ _ _ hk), (Below.heap_setCell _ _ _ _ (show b ≠ q.p from blk_ne h.bx (show X.heap[q.p]? = _ from h.ps.pl) (by simp))).trans h.bx, h.kl.trans (KL.set v (by simp [Pw.S]))⟩
theorem Xs.pol (hpo : Po Y q.pb q.rg q.cap (c.k == 7) q.rs σ') (hk : PoK X Y q.pb q.rs) : Xs w Y b q c σ' now a t := by
  obtain ⟨cc, hpb⟩ := h.ps.po.p
  refine ⟨h.ps.pol hpo hk, (hk.block b (Array.getElem?_eq_some_iff.1 h.bx).1 (blk_ne h.bx hpb.h (by simp)) (fun u hu => blk_ne h.bx (h.ps.po.b u hu) (by simp))).trans h.bx, ?_⟩
  exact h.kl.trans ⟨hk.os, hk.tape, hk.output, hk.size, fun k hk1 h1 => hk.block k hk1 (fun e => h1 (by simp [Pw.S, e])) (fun u hu e => h1 (by simp only [Pw.S, e, List.mem_cons, List.mem_map]; exact .inr (.inr ⟨u, hu, rfl⟩)))⟩
theorem Xs.al (o : Obj) : Xs w (X.alloc o) b q c σ now a t := h.below ((Below.refl _ _).alloc (Nat.le_refl _) o)
theorem Xs.b3 : X.cell? ⟨b, 3, none⟩ = some (.int .i64 0) := by simp [World.cell?, h.bx]
theorem Xs.b4 : X.cell? ⟨b, 4, none⟩ = some (.int .i64 0) := by simp [World.cell?, h.bx]
theorem Xs.bp : X.rangeAt b 5 (List.replicate 48 (.int .u8 0)) := fun j v hv => by
  have hj : j < 48 := by have := (List.getElem?_eq_some_iff.1 hv).1; simpa using this
  have e : cell40.toList.drop 5 = List.replicate 48 (.int .u8 0) := rfl
  have e2 : X.cell? ⟨b, 5 + j, none⟩ = cell40[5 + j]? := by simp only [World.cell?, h.bx]; rfl
  rw [e2, ← Array.getElem?_toList, ← List.getElem?_drop, e]
  exact hv
theorem Xs.bq : X.rangeAt b 5 payL := h.bp
theorem Xs.wk : X.cell? ⟨q.wy, 3, none⟩ = some (.int .i64 1) ∧ X.cell? ⟨q.wy, 4, none⟩ = some (.int .i64 0) ∧ X.cell? ⟨q.wy, 5, none⟩ = some (.int .i64 50) ∧ X.cell? ⟨q.wy, 6, none⟩ = some (.pointer (some ⟨q.al, 0, none⟩)) := by
  have hw := h.ps.wy
  exact ⟨by simp [World.cell?, hw], by simp [World.cell?, hw], by simp [World.cell?, hw], by simp [World.cell?, hw]⟩
end

theorem VS2 {w X : World} {b : Nat} {q : Pw} {c : Ct} {σ : Nat → Bk} {now a t : Int} (h : Xs w X b q c σ now a t) : X.cell? ⟨q.p, 0, none⟩ = some (.pointer (some ⟨q.nb, 0, none⟩)) ∧ X.cell? ⟨q.wy, 3, none⟩ = some (.int .i64 1) ∧ X.cell? ⟨q.wy, 4, none⟩ = some (.int .i64 0) ∧ X.cell? ⟨q.wy, 5, none⟩ = some (.int .i64 50) ∧ X.cell? ⟨q.p, 10, none⟩ = some (.int .i64 now) ∧ X.cell? ⟨b, 4, none⟩ = some (.int .i64 0) :=
  ⟨h.ps.pl.c0, h.wk.1, h.wk.2.1, h.wk.2.2.1, h.ps.pl.c10, h.b4⟩

theorem VS12 {w X : World} {b : Nat} {q : Pw} {c : Ct} {σ : Nat → Bk} {now a t : Int} (h : Xs w X b q c σ now a t) : X.cell? ⟨q.wy, 6, none⟩ = some (.pointer (some ⟨q.al, 0, none⟩)) ∧ X.cell? ⟨q.p, 10, none⟩ = some (.int .i64 now) :=
  ⟨h.wk.2.2.2, h.ps.pl.c10⟩
theorem VS13 {w X : World} {b : Nat} {q : Pw} {c : Ct} {σ : Nat → Bk} {now a t : Int} (h : Xs w X b q c σ now a t) : X.cell? ⟨q.wy, 3, none⟩ = some (.int .i64 1) ∧ X.cell? ⟨q.wy, 4, none⟩ = some (.int .i64 0) ∧ X.cell? ⟨q.wy, 5, none⟩ = some (.int .i64 50) ∧ X.cell? ⟨b, 3, none⟩ = some (.int .i64 0) ∧ X.rangeAt b 5 payL :=
  ⟨h.wk.1, h.wk.2.1, h.wk.2.2.1, h.b3, h.bq⟩

set_option maxRecDepth 100000 in
set_option maxHeartbeats 8000000 in
theorem pass_at (q : Pw) (c : Ct) (σ : Nat → Bk) (now a t : Int) (w : World) (h : Ps w q c σ now a t) (hn : q.rs.length ≤ 1000) (hf : ∀ u ∈ q.rs, fitB (σ u.b) now = true) (ha : 0 ≤ a ∧ a ≤ 1000000) (ht : 0 ≤ t ∧ t ≤ 1000000) :
    Calls Tryz.prog 32 #[.pointer (some ⟨q.p, 0, none⟩), .pointer (some ⟨q.wy, 0, none⟩), cellV 40 0, .bool true] w fun e w' => (∃ x, e = .returned (.slice (some ⟨x, 0, none⟩) 1 1)) ∧ Ps w' q c (σp σ now q.rs) now (if c.k == 7 then a else a + 1) (if c.k == 7 then t + 1 else t) ∧ KL q.S w w' := by
  have hb0 := (Below.refl w.heap.size w).alloc (Nat.le_refl _) (.cells cell40 87)
  have hX : Xs w (w.alloc (.cells cell40 87)) w.heap.size q c σ now a t := ⟨h.below hb0, heap_new' w rfl, KL.of_below hb0⟩
  have HF := Lib.hid (And.intro hn hf)
  clear h hn hf hb0
  go_enter Tryz.func32, Tryz.ntmps32
  go_upto_region 1 with fail
  generalize w.alloc (.cells cell40 87) = W at hX ⊢
  obtain ⟨b, eb⟩ : ∃ b, w.heap.size = b := ⟨_, rfl⟩
  rw [eb] at hX ⊢
  have b4 := hX.b4
  go_wp2_with fail
  have hX1 := hX.below (Below.refl _ _).drew
  clear b4 hX eb
  obtain ⟨v, ev⟩ : ∃ v : Int, (if c.k == 7 then 2 else 1) = v := ⟨_, rfl⟩
  have hnv := fun X (hX : Xs w X b q c σ now a t) => nverdict_at q.nb q.tb q.mp q.lk 1 c q.pb q.rg q.cap (c.k == 7) q.rs HF.out.1 σ now X hX.ps.nd hX.ps.nt hX.ps.mp hX.ps.po HF.out.2
  rw [ev] at hnv
  have HNV := Lib.hid hnv
  have HEV := Lib.hid ev
  clear hnv ev
  go_region_held3 (fun X => X.cell? ⟨q.p, 0, none⟩ = some (.pointer (some ⟨q.nb, 0, none⟩)) ∧ X.cell? ⟨q.wy, 3, none⟩ = some (.int .i64 1) ∧ X.cell? ⟨q.wy, 4, none⟩ = some (.int .i64 0) ∧ X.cell? ⟨q.wy, 5, none⟩ = some (.int .i64 50) ∧ X.cell? ⟨q.p, 10, none⟩ = some (.int .i64 now) ∧ X.cell? ⟨b, 4, none⟩ = some (.int .i64 0)) (with_reducible exact VS2 (by assumption))
    (first | (go_at_call 52; refine (HNV.out _ hX1).mono ?_; rintro e w2 ⟨rfl, hpo2, hk2⟩; have hX2 : Xs w w2 b q c (σp σ now q.rs) now a t := hX1.pol hpo2 hk2))
  clear hpo2 hk2 hX1
  rcases Bool.eq_false_or_eq_true (c.k == 7) with hc7 | hc7
  · have hv := HEV.out
    rw [hc7] at hv
    simp only [Bool.false_eq_true, if_true, if_false] at hv
    subst hv
    go_wp2_with fail
    have c1 := hX2.ps.pl.c18
    have cf := hX2.ps.pl.fr 18
    go_still_tail 9, (by kernel_rfl)
    change wpList _ _ _ _ _ w2.drew
    have hX3 := hX2.below (Below.refl _ _).drew
    clear c1 cf hX2
    generalize w2.drew = w3 at hX3 ⊢
    have c1 := hX3.ps.pl.c18
    have cf := hX3.ps.pl.fr 18
    have hwr : wrap64 (t + 1) = t + 1 := by unfold wrap64; omega
    have hX4 := hX3.set 18 (.int .i64 (t + 1)) (hX3.ps.pl.tag' (t + 1))
    go_wp2_with fail
    clear c1 cf hX3
    generalize w3.setCell ⟨q.p, 18, none⟩ (.int .i64 (t + 1)) = w4 at hX4 ⊢
    have hX5 := hX4.below (Below.refl _ _).drew
    clear hX4 hwr
    go_region_held3 (fun X => X.cell? ⟨q.wy, 6, none⟩ = some (.pointer (some ⟨q.al, 0, none⟩)) ∧ X.cell? ⟨q.p, 10, none⟩ = some (.int .i64 now)) (with_reducible exact VS12 (by assumption))
      (first | (go_at_call 53; refine (auser_at q.al now _ hX5.ps.al).mono ?_; rintro e w6 ⟨⟨v6, rfl⟩, hb6⟩; have hX6 := hX5.below hb6))
    have hX7 := hX6.below (Below.refl _ _).drew
    clear hX5 hX6 hb6
    go_wp2_with fail
    have hu45 := Tryz.underlying45
    have hi45 : (Tryz.prog.info? 45).map (·.size) = some payL.length := by kernel_rfl
    go_region_held3 (fun X => X.cell? ⟨q.wy, 3, none⟩ = some (.int .i64 1) ∧ X.cell? ⟨q.wy, 4, none⟩ = some (.int .i64 0) ∧ X.cell? ⟨q.wy, 5, none⟩ = some (.int .i64 50) ∧ X.cell? ⟨b, 3, none⟩ = some (.int .i64 0) ∧ X.rangeAt b 5 payL) (first | (with_reducible exact VS13 (by assumption)) | (with_reducible exact VS13 (Xs.al (by assumption) _)))
      (first | (go_at_call 51; refine (send_at hd51 _).mono ?_; rintro e w8 ⟨v8, rfl, hb8⟩; have hX8 := hX7.below hb8))
    have hX9 := Lib.hid (hX8.al (.cells #[.int .i64 1, v8] 145))
    clear hX7 hX8 hb8
    go_wp2_with fail
    go_ret
    exact ⟨⟨_, rfl⟩, by simpa [hc7] using hX9.out.ps, hX9.out.kl⟩
  · have hv := HEV.out
    rw [hc7] at hv
    simp only [Bool.false_eq_true, if_true, if_false] at hv
    subst hv
    go_wp2_with fail
    have c1 := hX2.ps.pl.c17
    have cf := hX2.ps.pl.fr 17
    go_still_tail 9, (by kernel_rfl)
    change wpList _ _ _ _ _ w2.drew
    have hX3 := hX2.below (Below.refl _ _).drew
    clear c1 cf hX2
    generalize w2.drew = w3 at hX3 ⊢
    have c1 := hX3.ps.pl.c17
    have cf := hX3.ps.pl.fr 17
    have hwr : wrap64 (a + 1) = a + 1 := by unfold wrap64; omega
    have hX4 := hX3.set 17 (.int .i64 (a + 1)) (hX3.ps.pl.pass' (a + 1))
    go_wp2_with fail
    clear c1 cf hX3
    generalize w3.setCell ⟨q.p, 17, none⟩ (.int .i64 (a + 1)) = w4 at hX4 ⊢
    have hX5 := hX4.below (Below.refl _ _).drew
    clear hX4 hwr
    go_region_held3 (fun X => X.cell? ⟨q.wy, 6, none⟩ = some (.pointer (some ⟨q.al, 0, none⟩)) ∧ X.cell? ⟨q.p, 10, none⟩ = some (.int .i64 now)) (with_reducible exact VS12 (by assumption))
      (first | (go_at_call 53; refine (auser_at q.al now _ hX5.ps.al).mono ?_; rintro e w6 ⟨⟨v6, rfl⟩, hb6⟩; have hX6 := hX5.below hb6))
    have hX7 := hX6.below (Below.refl _ _).drew
    clear hX5 hX6 hb6
    go_wp2_with fail
    have hu45 := Tryz.underlying45
    have hi45 : (Tryz.prog.info? 45).map (·.size) = some payL.length := by kernel_rfl
    go_region_held3 (fun X => X.cell? ⟨q.wy, 3, none⟩ = some (.int .i64 1) ∧ X.cell? ⟨q.wy, 4, none⟩ = some (.int .i64 0) ∧ X.cell? ⟨q.wy, 5, none⟩ = some (.int .i64 50) ∧ X.cell? ⟨b, 3, none⟩ = some (.int .i64 0) ∧ X.rangeAt b 5 payL) (first | (with_reducible exact VS13 (by assumption)) | (with_reducible exact VS13 (Xs.al (by assumption) _)))
      (first | (go_at_call 51; refine (send_at hd50 _).mono ?_; rintro e w8 ⟨v8, rfl, hb8⟩; have hX8 := hX7.below hb8))
    have hX9 := Lib.hid (hX8.al (.cells #[.int .i64 1, v8] 145))
    clear hX7 hX8 hb8
    go_wp2_with fail
    go_ret
    exact ⟨⟨_, rfl⟩, by simpa [hc7] using hX9.out.ps, hX9.out.kl⟩

end Go.Proofs.YtcfhjkmebnmcjaaGreat
