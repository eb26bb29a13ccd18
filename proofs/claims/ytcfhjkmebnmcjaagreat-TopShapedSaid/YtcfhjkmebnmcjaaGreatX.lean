/- A plane's Arrive. -/
import Derived.Test.YtcfhjkmebnmcjaaGreatV
namespace Go.Proofs.YtcfhjkmebnmcjaaGreat
open Go.RowKit Go.Shelf
set_option linter.unusedVariables false
set_option linter.unusedSimpArgs false
attribute [local go_sem] Oper.semAt_some

theorem In40.set {W : World} {gb p o : Nat} {v : Value} (h : In40 W gb) (hp : gb ≠ p) : In40 (W.setCell ⟨p, o, none⟩ v) gb := by
  have hc : ∀ k, (W.setCell ⟨p, o, none⟩ v).cell? ⟨gb, k, none⟩ = W.cell? ⟨gb, k, none⟩ := fun k => World.cell?_setCell_far W ⟨p, o, none⟩ ⟨gb, k, none⟩ v (by simpa using fun e => hp e.symm)
  exact ⟨by simpa [World.setCell] using h.lt, (hc 0).trans h.c0, (hc 1).trans h.c1, (hc 2).trans h.c2, (hc 3).trans h.c3, (hc 4).trans h.c4, fun k h1 h2 => (hc k).trans (h.cp k h1 h2)⟩

theorem Xs.b5 {w X : World} {b : Nat} {q : Pw} {c : Ct} {σ : Nat → Bk} {now a t : Int} (h : Xs w X b q c σ now a t) : X.cell? ⟨b, 0, none⟩ = some (.int .i64 0) ∧ X.cell? ⟨b, 1, none⟩ = some (.int .i64 0) ∧ X.cell? ⟨b, 2, none⟩ = some (.int .i64 40) ∧ X.cell? ⟨b, 3, none⟩ = some (.int .i64 0) ∧ X.cell? ⟨b, 4, none⟩ = some (.int .i64 0) := by
  have hb := h.bx
  exact ⟨by simp [World.cell?, hb], by simp [World.cell?, hb], by simp [World.cell?, hb], by simp [World.cell?, hb], by simp [World.cell?, hb]⟩

set_option maxRecDepth 100000 in
set_option maxHeartbeats 8000000 in
theorem arrive_at (q : Pw) (c : Ct) (σ : Nat → Bk) (now a t T : Int) (gb cap : Nat) (w : World) (h : Ps w q c σ now a t) (hT0 : now ≤ T) (hT1 : T ≤ 1152921504606846976) (hn : q.rs.length ≤ 1000) (hf : ∀ u ∈ q.rs, fitB (σ u.b) T = true) (ha : 0 ≤ a ∧ a ≤ 1000000) (ht : 0 ≤ t ∧ t ≤ 1000000) (hi : In40 w gb) (hcap : 53 ≤ cap) :
    Calls Tryz.prog 10 #[.pointer (some ⟨q.p, 0, none⟩), .int .i64 T, .int .i64 0, .slice (some ⟨gb, 0, none⟩) 53 cap] w fun e w' => (∃ x, e = .returned (.tuple #[.slice (some ⟨x, 0, none⟩) 1 1, .int .i64 0])) ∧ Ps w' q c (σp σ T q.rs) T (if c.k == 7 then a else a + 1) (if c.k == 7 then t + 1 else t) ∧ KL q.S w w' := by
  have hne : gb ≠ q.p := fun e => by
    have h1 := hi.c0
    have h2 := h.pl.c0
    rw [e] at h1
    rw [h1] at h2
    simp at h2
  have hpa := fun X (hX : Ps X q c σ T a t) => pass_at q c σ T a t X hX hn hf ha ht
  obtain ⟨a', ea⟩ : ∃ a' : Int, (if c.k == 7 then a else a + 1) = a' := ⟨_, rfl⟩
  obtain ⟨t', et⟩ : ∃ t' : Int, (if c.k == 7 then t + 1 else t) = t' := ⟨_, rfl⟩
  rw [ea, et] at hpa
  rw [ea, et]
  have HPA := Lib.hid hpa
  clear hpa ea et
  have HH := Lib.hid (And.intro h (And.intro hi (And.intro hne (And.intro hn (And.intro hf hcap)))))
  clear h hi hne hn hf hcap
  go_enter Tryz.func10, Tryz.ntmps10
  go_wp2_with fail
  refine (comes_at T hT0 hT1 _ HH.out.1.pl).mono ?_
  rintro e w1 ⟨rfl, rfl⟩
  go_wp2_with fail
  refine (linked_at _ HH.out.1.pl).mono ?_
  rintro e w1 ⟨rfl, rfl⟩
  have f10 := HH.out.1.pl.fr 10
  have c10 := HH.out.1.pl.c10
  have hP1 := HH.out.1.own (HH.out.1.pl.now' T) (fun k hk => Below.heap_setCell _ _ _ _ hk)
  have hk1 : KL q.S w1 (w1.setCell ⟨q.p, 10, none⟩ (.int .i64 T)) := KL.set _ (by simp [Pw.S])
  have hi1 := HH.out.2.1.set (o := 10) (v := .int .i64 T) HH.out.2.2.1
  have H1 := Lib.hid (And.intro hP1 (And.intro hk1 hi1))
  have d1 : (w1.setCell ⟨q.p, 10, none⟩ (.int .i64 T)).cell? ⟨q.p, 1, none⟩ = some (.slice (some ⟨q.kg, 0, none⟩) 2 q.kcap) := hP1.pl.c1
  have d2 : (w1.setCell ⟨q.p, 10, none⟩ (.int .i64 T)).cell? ⟨q.kg, 0, none⟩ = some (.pointer (some ⟨q.lb, 0, none⟩)) := by
    obtain ⟨cur, h1, h2⟩ := hP1.kg
    simp [World.cell?, h1, h2]
  clear hP1 hk1 hi1
  go_wp2_with fail
  generalize w1.setCell ⟨q.p, 10, none⟩ (.int .i64 T) = w2 at d1 d2 H1 ⊢
  refine (parse_at q.lb q.g gb cap _ H1.out.1.lb H1.out.2.2 HH.out.2.2.2.2.2).mono ?_
  rintro e w3 ⟨rfl, hb3⟩
  have hz0 := heap_new' w3 (o := .cells #[.int .i64 0, .int .i64 0, .int .i64 0, .int .i64 0, .int .i64 0, .int .u8 0, .int .u8 0, .int .u8 0, .int .u8 0, .int .u8 0, .int .u8 0, .int .u8 0, .int .u8 0, .int .u8 0, .int .u8 0, .int .u8 0, .int .u8 0, .int .u8 0, .int .u8 0, .int .u8 0, .int .u8 0, .int .u8 0, .int .u8 0, .int .u8 0, .int .u8 0, .int .u8 0, .int .u8 0, .int .u8 0, .int .u8 0, .int .u8 0, .int .u8 0, .int .u8 0, .int .u8 0, .int .u8 0, .int .u8 0, .int .u8 0, .int .u8 0, .int .u8 0, .int .u8 0, .int .u8 0, .int .u8 0, .int .u8 0, .int .u8 0, .int .u8 0, .int .u8 0, .int .u8 0, .int .u8 0, .int .u8 0, .int .u8 0, .int .u8 0, .int .u8 0, .int .u8 0, .int .u8 0] 87) rfl
  have h4 := setRow_heap (w3.alloc (.cells #[.int .i64 0, .int .i64 0, .int .i64 0, .int .i64 0, .int .i64 0, .int .u8 0, .int .u8 0, .int .u8 0, .int .u8 0, .int .u8 0, .int .u8 0, .int .u8 0, .int .u8 0, .int .u8 0, .int .u8 0, .int .u8 0, .int .u8 0, .int .u8 0, .int .u8 0, .int .u8 0, .int .u8 0, .int .u8 0, .int .u8 0, .int .u8 0, .int .u8 0, .int .u8 0, .int .u8 0, .int .u8 0, .int .u8 0, .int .u8 0, .int .u8 0, .int .u8 0, .int .u8 0, .int .u8 0, .int .u8 0, .int .u8 0, .int .u8 0, .int .u8 0, .int .u8 0, .int .u8 0, .int .u8 0, .int .u8 0, .int .u8 0, .int .u8 0, .int .u8 0, .int .u8 0, .int .u8 0, .int .u8 0, .int .u8 0, .int .u8 0, .int .u8 0, .int .u8 0, .int .u8 0] 87)) w3.heap.size _ cell40 87 (0, 0) hz0
  have hb4 := below_setRow (hb3.trans (((Below.refl w3.heap.size w3).alloc (Nat.le_refl _) (.cells #[.int .i64 0, .int .i64 0, .int .i64 0, .int .i64 0, .int .i64 0, .int .u8 0, .int .u8 0, .int .u8 0, .int .u8 0, .int .u8 0, .int .u8 0, .int .u8 0, .int .u8 0, .int .u8 0, .int .u8 0, .int .u8 0, .int .u8 0, .int .u8 0, .int .u8 0, .int .u8 0, .int .u8 0, .int .u8 0, .int .u8 0, .int .u8 0, .int .u8 0, .int .u8 0, .int .u8 0, .int .u8 0, .int .u8 0, .int .u8 0, .int .u8 0, .int .u8 0, .int .u8 0, .int .u8 0, .int .u8 0, .int .u8 0, .int .u8 0, .int .u8 0, .int .u8 0, .int .u8 0, .int .u8 0, .int .u8 0, .int .u8 0, .int .u8 0, .int .u8 0, .int .u8 0, .int .u8 0, .int .u8 0, .int .u8 0, .int .u8 0, .int .u8 0, .int .u8 0, .int .u8 0] 87)).mono hb3.size)) (g := w3.heap.size) hb3.size cell40
  have hP4 := H1.out.1.below hb4
  have hk4 := H1.out.2.1.after hb4
  have H4 := Lib.hid (And.intro hP4 (And.intro hk4 h4))
  clear d1 d2 hb3 hb4 hP4 hk4 h4 f10 c10 hz0
  dsimp only
  apply_assumption
  refine wpList_plain rfl fun K hK => ?_
  go_simp
  refine hK _ _ ?_
  clear hK K
  refine wpList_plain rfl fun K hK => ?_
  go_simp
  refine hK _ _ ?_
  clear hK K
  refine wpList_plain rfl fun K hK => ?_
  go_simp
  refine hK _ _ ?_
  clear hK K
  refine wpList_plain rfl fun K hK => ?_
  go_simp
  refine hK _ _ ?_
  clear hK K
  refine wpList_store_row rfl 87 (.tmp 12) (.tmp 44) rfl w3.heap.size cell40 rfl rfl 87 #[.int .i64 0, .int .i64 0, .int .i64 0, .int .i64 0, .int .i64 0, .int .u8 0, .int .u8 0, .int .u8 0, .int .u8 0, .int .u8 0, .int .u8 0, .int .u8 0, .int .u8 0, .int .u8 0, .int .u8 0, .int .u8 0, .int .u8 0, .int .u8 0, .int .u8 0, .int .u8 0, .int .u8 0, .int .u8 0, .int .u8 0, .int .u8 0, .int .u8 0, .int .u8 0, .int .u8 0, .int .u8 0, .int .u8 0, .int .u8 0, .int .u8 0, .int .u8 0, .int .u8 0, .int .u8 0, .int .u8 0, .int .u8 0, .int .u8 0, .int .u8 0, .int .u8 0, .int .u8 0, .int .u8 0, .int .u8 0, .int .u8 0, .int .u8 0, .int .u8 0, .int .u8 0, .int .u8 0, .int .u8 0, .int .u8 0, .int .u8 0, .int .u8 0, .int .u8 0, .int .u8 0] (heap_new' w3 rfl) (by kernel_rfl) rfl (by kernel_rfl) ?_
  obtain ⟨b, eb⟩ : ∃ b, w3.heap.size = b := ⟨_, rfl⟩
  generalize (w3.alloc (.cells #[.int .i64 0, .int .i64 0, .int .i64 0, .int .i64 0, .int .i64 0, .int .u8 0, .int .u8 0, .int .u8 0, .int .u8 0, .int .u8 0, .int .u8 0, .int .u8 0, .int .u8 0, .int .u8 0, .int .u8 0, .int .u8 0, .int .u8 0, .int .u8 0, .int .u8 0, .int .u8 0, .int .u8 0, .int .u8 0, .int .u8 0, .int .u8 0, .int .u8 0, .int .u8 0, .int .u8 0, .int .u8 0, .int .u8 0, .int .u8 0, .int .u8 0, .int .u8 0, .int .u8 0, .int .u8 0, .int .u8 0, .int .u8 0, .int .u8 0, .int .u8 0, .int .u8 0, .int .u8 0, .int .u8 0, .int .u8 0, .int .u8 0, .int .u8 0, .int .u8 0, .int .u8 0, .int .u8 0, .int .u8 0, .int .u8 0, .int .u8 0, .int .u8 0, .int .u8 0, .int .u8 0] 87)).setRow w3.heap.size cell40 = w4 at H4 ⊢
  rw [eb] at H4 ⊢
  clear H1 eb
  have hX : Xs w1 w4 b q c σ T a t := ⟨H4.out.1, H4.out.2.2, H4.out.2.1⟩
  have HX := Lib.hid hX
  clear H4 hX
  obtain ⟨b0, b1, b2, b3, b4⟩ := HX.out.b5
  go_wp2_with fail
  refine (kind_at _).mono ?_
  rintro e w5 ⟨rfl, hb5⟩
  have HX5 := Lib.hid (HX.out.below hb5)
  clear hb5 b0 b1 b2 b3 b4
  obtain ⟨b0, b1, b2, b3, b4⟩ := HX5.out.b5
  go_wp2_with (refine wpList_load_row rfl 87 (.tmp 12) rfl b rfl 87 _ (0, 0) _ HX5.out.bx Tryz.underlying87 rfl (by kernel_rfl) ?_)
  refine (empty_at _).mono ?_
  rintro e w6 ⟨rfl, hb6⟩
  have HX6 := Lib.hid (HX5.out.below hb6)
  clear hb6 b0 b1 b2 b3 b4
  obtain ⟨b0, b1, b2, b3, b4⟩ := HX6.out.b5
  go_wp2_with (first | (go_at_call 19; refine (pfind_at q.p q.nb q.t0 q.wm q.cm _ 1 T a t true (some ⟨q.wy, 0, none⟩) _ HX6.out.ps.pl HX6.out.ps.t (.inr ⟨rfl, HX6.out.ps.wm⟩)).mono ?_; rintro e w7 ⟨rfl, hb7⟩; have HX7 := Lib.hid (HX6.out.below hb7); clear hb7 b0 b1 b2 b3 b4) | (refine wpList_load_row rfl 87 (.tmp 12) rfl b rfl 87 _ (0, 0) _ HX7.out.bx Tryz.underlying87 rfl (by kernel_rfl) ?_) | (go_at_call 32; refine (HPA.out _ HX7.out.ps).mono ?_; rintro e w8 ⟨⟨x8, rfl⟩, hp8, hk8⟩; have H8 := Lib.hid (And.intro hp8 (HX7.out.kl.trans hk8)); clear hp8 hk8))
  go_ret2
  exact ⟨⟨_, rfl⟩, H8.out.1, H8.out.2⟩

end Go.Proofs.YtcfhjkmebnmcjaaGreat
