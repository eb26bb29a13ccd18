/- The contract of Set. -/
import Derived.Test.YtclplacjgofccaaF
import Derived.Deep.DeepCutAuto
import Derived.IntWalk
import Derived.Deep.RegionLaw
namespace Go.Proofs.Ytclplacjgofccaa
open Go.RowKit Go.Sort Go.Shelf Go.Lib
set_option linter.unusedVariables false
set_option linter.unusedSimpArgs false
attribute [local go_sem ↓] Go.wp_at_zero Go.wp_at_succ

theorem take_nil (t : Int) (W : World) : Calls Try.prog 14 #[.pointer none, .int .i64 t] W fun e w' => e = .returned (.bool false) ∧ w' = W := by
  go_enter Try.func14, Try.ntmps14
  go_wp2_with fail
  go_ret
  exact ⟨rfl, rfl⟩

/-- The step that was set last. -/
def lastSet (x : Sh) : Int := (x.L.getLast?.map (·.1)).getD x.step
def newCh (t s : Int) (x : Sh) : Ch := (max 1 (held s), held t + (if max 1 (held s) < lastSet (comeSh t x) then x.quick else x.slow))
/-- Behind Set. -/
def setSh (t s : Int) (x : Sh) : Sh := if 8 ≤ (comeSh t x).L.length then comeSh t x else { comeSh t x with L := (comeSh t x).L ++ [newCh t s x] }

theorem last_at (x : Sh) (m : Nat) (h : x.L.length = m + 1) : lastSet x = (atL x.L m).1 := by
  unfold lastSet atL
  rw [List.getLast?_eq_getElem?, h]
  have : m < x.L.length := by omega
  rw [Nat.add_sub_cancel, List.getElem?_eq_getElem this]
  rfl
theorem last_nil (x : Sh) (h : x.L.length = 0) : lastSet x = x.step := by
  unfold lastSet
  rw [List.eq_nil_of_length_eq_zero h]
  rfl

theorem good_come' {W w1 : World} {B p : Nat} {v v' : Value} {x : Sh} {t F : Int} (h : Good W B p x v) (hrow : CRow w1 W.heap.size v' (leftF (held t) x.L)) (hb : Below W.heap.size W w1) (eF : comeF (held t) x.step x.L = F) :
    Good ((w1.setCell ⟨p, 0, none⟩ (.int .i64 F)).setCell ⟨p, 6, none⟩ v') W.heap.size p (comeSh t x) v' ∧ Kept p W ((w1.setCell ⟨p, 0, none⟩ (.int .i64 F)).setCell ⟨p, 6, none⟩ v') := by
  have hs := h.sh.below hb
  refine ⟨⟨?_, ((hrow.set hs 0 _).set (heap_set hs _ _) 6 _), Nat.le_trans (left_len _ _) h.l8, fun c hc => h.at0 c (List.mem_filter.1 hc).1⟩, ((Kept.of hb).set 0 _).set 6 _⟩
  unfold HasSh comeSh
  rw [heap_set (heap_set hs _ _) _ _, ← eF]
  rfl

theorem Good.mono {W : World} {B B' p : Nat} {x : Sh} {v : Value} (h : Good W B' p x v) (hb : B ≤ B') : Good W B p x v := ⟨h.sh, h.row.mono hb, h.l8, h.at0⟩

theorem CRow.apart {W : World} {B g : Nat} {v : Value} {L : List Ch} (h : CRow W B v L) {c : Array Value} {T : TypeId} (hp : W.heap[g]? = some (.cells c T (0, 0))) (hT : T ≠ 64) : v.ownBlock ≠ some g := by
  intro e
  rcases h.own.2 with ⟨e1, _⟩ | ⟨g', cap, cur, e1, _, e3, _⟩
  · rw [e1] at e; cases e
  · rw [e1] at e
    have : g' = g := by simpa [Value.ownBlock] using e
    subst this
    rw [hp] at e3
    simp at e3
    exact hT e3.2

theorem CRow.setFar {W : World} {B g : Nat} {v : Value} {L : List Ch} (h : CRow W B v L) (hne : v.ownBlock ≠ some g) (o : Nat) (u : Value) : CRow (W.setCell ⟨g, o, none⟩ u) B v L := by
  rcases h with h | ⟨h1, h2, h3⟩
  · exact .inl h
  · refine .inr ⟨h1, h2, ?_⟩
    rcases h3 with h3 | ⟨g', cap, cur, k1, k2, k3, k4⟩
    · exact .inl h3
    · refine .inr ⟨g', cap, cur, k1, k2, ?_, k4⟩
      rw [Below.heap_setCell _ _ _ _ (fun e => by subst e; rw [k1] at hne; exact hne rfl)]
      exact k3

theorem Kept.setNew {p g : Nat} {w w' : World} (h : Kept p w w') (hg : w.heap.size ≤ g) (o : Nat) (u : Value) : Kept p w (w'.setCell ⟨g, o, none⟩ u) :=
  ⟨h.os, h.tape, h.output, by have := h.size; simp [World.setCell]; omega, fun k hk hp => (Below.heap_setCell _ _ _ _ (by show k ≠ g; omega)).trans (h.block k hk hp)⟩

theorem good_set {W w8 w9 : World} {p N gg cap c' : Nat} {A' : Option Addr} {y : Sh} {c1 c2 : Int} (hG : Good w8 W.heap.size p y (.slice A' N c')) (hK : Kept p W w8) (h8 : y.L.length < 8) (hN : y.L.length = N) (h2 : 0 ≤ c2)
    (hown1 : w9.ownsRow W.heap.size 64 2 (.slice (some ⟨gg, 0, none⟩) (N + 1) cap) (N + 1) (flatC y.L ++ [.int .i64 c1, .int .i64 c2]))
    (hgrow : (w8.alloc (.cells #[.int .i64 c1, .int .i64 c2] 64)).drew.grownBy w9 (Value.slice A' N c').ownBlock) :
    Good (w9.setCell ⟨p, 6, none⟩ (.slice (some ⟨gg, 0, none⟩) (N + 1) cap)) W.heap.size p { y with L := y.L ++ [(c1, c2)] } (.slice (some ⟨gg, 0, none⟩) (N + 1) cap) ∧ Kept p W (w9.setCell ⟨p, 6, none⟩ (.slice (some ⟨gg, 0, none⟩) (N + 1) cap)) := by
  have hne : (Value.slice A' N c').ownBlock ≠ some p := hG.row.apart hG.sh (by decide)
  have ql := hG.sh.lt
  have hsz : (w8.alloc (.cells #[.int .i64 c1, .int .i64 c2] 64)).drew.heap.size = w8.heap.size + 1 := by show (w8.alloc _).heap.size = _; simp
  have hold : ∀ k, k < w8.heap.size → (w8.alloc (.cells #[.int .i64 c1, .int .i64 c2] 64)).drew.heap[k]? = w8.heap[k]? := fun k hk => Below.heap_alloc _ _ _ hk
  have hs9 : HasSh w9 p (.slice A' N c') y := by
    unfold HasSh
    rw [hgrow.block p (by omega) (fun e => hne e.symm), hold p ql]
    exact hG.sh
  have hrow : CRow w9 W.heap.size (.slice (some ⟨gg, 0, none⟩) (N + 1) cap) (y.L ++ [(c1, c2)]) := by
    refine .inr ⟨by simp, ?_⟩
    rw [flatC_append, List.length_append, hN]
    exact hown1
  refine ⟨⟨?_, hrow.set hs9 6 _, ?_, ?_⟩, ?_⟩
  · unfold HasSh
    rw [heap_set hs9]
    rfl
  · simp; omega
  · intro c hc
    rcases List.mem_append.1 hc with hc | hc
    · exact hG.at0 c hc
    · obtain rfl : c = (c1, c2) := by simpa using hc
      exact h2
  · refine Kept.set ⟨hgrow.os.trans hK.os, hgrow.tape.trans hK.tape, hgrow.output.trans hK.output, by have := hK.size; have := hgrow.size; omega, fun k hk hp => ?_⟩ 6 _
    have h1 := hK.size
    rw [hgrow.block k (by omega) (fun e => by have := (World.ownsRow.lt hG.row.own k e.symm).1; omega), hold k (by omega)]
    exact hK.block k hk hp

set_option maxHeartbeats 1600000 in
theorem set_any {W : World} {B p : Nat} {v : Value} {x : Sh} (t s : Int) (hB : B ≤ W.heap.size) (hx : 0 ≤ x.slow ∧ x.slow ≤ 1152921504606846976 ∧ 0 ≤ x.quick ∧ x.quick ≤ 1152921504606846976) (h : Good W B p x v) :
    Calls Try.prog 12 #[.pointer (some ⟨p, 0, none⟩), .int .i64 t, .int .i64 s] W fun e w' => ∃ v', e = .returned (.int .i64 (if 8 ≤ (comeSh t x).L.length then 9 else 0)) ∧ Good w' B p (setSh t s x) v' ∧ Kept p W w' := by
  have ha := at_all t h.sh h.row h.l8 h.at0
  have H := Lib.hid h
  clear h
  obtain ⟨r, er⟩ : ∃ r : Int, (if 8 ≤ (comeSh t x).L.length then 9 else 0) = r := ⟨_, rfl⟩
  rw [er]
  have ER := Lib.hid er
  clear er
  go_enter Try.func12, Try.ntmps12
  go_wp2_with fail
  refine ha.mono ?_
  rintro e w1 ⟨v', rfl, hrow, hb⟩
  obtain ⟨A', c', ev, hrd⟩ := hrow.rd
  obtain ⟨N, eN⟩ : ∃ N, (leftF (held t) x.L).length = N := ⟨_, rfl⟩
  rw [eN] at ev
  subst ev
  have hs := H.out.sh.below hb
  have k0 := hs.c0
  have k6 := hs.c6
  have kf := hs.fr
  have hlt := hs.lt
  obtain ⟨F, eF⟩ : ∃ F, comeF (held t) x.step x.L = F := ⟨_, rfl⟩
  rw [eF]
  have HG := Lib.hid (good_come' H.out hrow hb eF)
  have d0 := HG.out.1.sh.c0
  have d2 := HG.out.1.sh.c2
  have d3 := HG.out.1.sh.c3
  have d6 := HG.out.1.sh.c6
  have HS := Lib.hid (And.intro hrow (And.intro hrd (And.intro hb (And.intro eF eN))))
  clear hs hrow hb eF eN ha hrd
  by_cases h8 : 8 ≤ N
  · go_wp2_with fail
    have hN : (comeSh t x).L.length = N := HS.out.2.2.2.2
    have e9 : r = 9 := by rw [← ER.out, if_pos (by omega)]
    subst e9
    go_ret
    refine ⟨.slice A' N c', rfl, ?_, HG.out.2⟩
    unfold setSh
    rw [if_pos (by omega)]
    exact HG.out.1.mono hB
  · go_upto_if 40 with fail
    obtain ⟨w5, hw5⟩ : ∃ w5, ((w1.setCell ⟨p, 0, none⟩ (.int .i64 F)).setCell ⟨p, 6, none⟩ (.slice A' N c')) = w5 := ⟨_, rfl⟩
    rw [hw5] at HG d0 d2 d3 d6
    rw [hw5]
    clear hw5
    have hlp := HG.out.1.sh.lt
    have hfp := HG.out.1.sh.fr 6
    have e0 : (comeSh t x).step = F := HS.out.2.2.2.1
    rw [e0] at d0
    have E0 := Lib.hid e0
    clear e0 k0 k6 kf hlt
    have d2' : w5.cell? ⟨p, 2, none⟩ = some (.int .i64 x.slow) := d2
    have d3' : w5.cell? ⟨p, 3, none⟩ = some (.int .i64 x.quick) := d3
    clear d2 d3
    go_cut [7] (fun s7 wx => s7 = .int .i64 (lastSet (comeSh t x)) ∧ wx = w5)
    case first =>
      have hNl : (comeSh t x).L.length = N := HS.out.2.2.2.2
      cases N with
      | zero =>
        have hl := last_nil _ hNl
        have HL := Lib.hid (And.intro hl E0.out)
        clear hl hNl
        go_wp2_with fail
        go_meet
        case rel => exact ⟨by rw [HL.out.1, HL.out.2], rfl⟩
      | succ m =>
        have hl := last_at _ m hNl
        obtain ⟨A2, c2, e2, hrd⟩ := HG.out.1.row.rd
        simp only [Value.slice.injEq] at e2
        obtain ⟨e2, e3, e4⟩ := e2
        subst e2
        subst e4
        rcases hrd with hrd | ⟨b, rfl, hbl, hc⟩
        · rw [hrd] at hNl; simp at hNl
        have hc0 := (hc m (by omega)).1
        obtain ⟨z, ez⟩ : ∃ z, (atL (comeSh t x).L m).1 = z := ⟨_, rfl⟩
        rw [ez] at hc0 hl
        have HL := Lib.hid hl
        clear hl hc ez hNl e3
        go_wp2_with fail
        go_meet
        case rel => exact ⟨by rw [HL.out], rfl⟩
    case rest =>
      obtain ⟨rfl, rfl⟩ := hcut
      obtain ⟨w5, rfl⟩ : ∃ w5 : World, w5 = wc := ⟨_, rfl⟩
      obtain ⟨l, el⟩ : ∃ l, lastSet (comeSh t x) = l := ⟨_, rfl⟩
      rw [el]
      have EL := Lib.hid el
      clear el
      have hbt := held_bd t
      have hbs := held_bd s
      obtain ⟨c1, ec1⟩ : ∃ c1, max 1 (held s) = c1 := ⟨_, rfl⟩
      have hwr : IntKind.i64.wrap (held t + x.slow) = held t + x.slow := IntWalk.i64_in _ (by omega)
      have EC := Lib.hid ec1
      go_upto_region 10 with fail
      go_cut [9] (fun s9 wx => ∃ g, s9 = .pointer (some ⟨g, 0, none⟩) ∧ w5.heap.size ≤ g ∧ wx.heap[g]? = some (.cells #[.int .i64 c1, .int .i64 (held t + x.slow)] 64 (0, 0)) ∧ Below w5.heap.size w5 wx)
      case first =>
        clear d0 d3' d6 hfp ec1
        go_region_held3 (fun w' => w'.cell? ⟨p, 2, none⟩ = some (.int .i64 x.slow)) (go_keep)
          (first | (go_at_call 21; refine (held_any _ _).mono ?_; rintro e w' ⟨rfl, rfl⟩))
        all_goals
          go_wp2_with fail
          go_meet
          case rel => exact ⟨_, rfl, Nat.le_refl _, by rw [← EC.out]; exact heap_alloc_new _ _, ((Below.refl _ _).alloc (Nat.le_refl _) _).drew⟩
      case rest =>
        obtain ⟨g, rfl, hgg, hgb, hbl⟩ := hcut
        obtain ⟨w6, rfl⟩ : ∃ w6 : World, w6 = wc := ⟨_, rfl⟩
        have hG6 : Good w6 W.heap.size p (comeSh t x) (.slice A' N c') ∧ Kept p W w6 := ⟨HG.out.1.below hbl, HG.out.2.below hbl⟩
        have HG6 := Lib.hid hG6
        have q3 : w6.cell? ⟨p, 3, none⟩ = some (.int .i64 x.quick) := hG6.1.sh.c3
        have q6 : w6.cell? ⟨p, 6, none⟩ = some (.slice A' N c') := hG6.1.sh.c6
        have qf := hG6.1.sh.fr 6
        have g0 : w6.cell? ⟨g, 0, none⟩ = some (.int .i64 c1) := by simp [World.cell?, hgb]
        have g1 : w6.cell? ⟨g, 1, none⟩ = some (.int .i64 (held t + x.slow)) := by simp [World.cell?, hgb]
        have gf : ∀ o, w6.frozen? ⟨g, o, none⟩ = false := fun o => by simp [World.frozen?, hgb]
        have gl : g < w6.heap.size := lt_of_block hgb
        have HB := Lib.hid (And.intro hgb (And.intro hbl hgg))
        have hwq : IntKind.i64.wrap (held t + x.quick) = held t + x.quick := IntWalk.i64_in _ (by omega)
        clear hgb hbl hgg d0 d2' d3' d6 hfp hlp ec1 hG6 hwr
        go_upto_if 64 with fail
        go_cut [] (fun wx => wx.heap[g]? = some (.cells #[.int .i64 c1, .int .i64 (held t + if c1 < l then x.quick else x.slow)] 64 (0, 0)) ∧ Good wx W.heap.size p (comeSh t x) (.slice A' N c') ∧ Kept p W wx)
        case first =>
          by_cases hq : c1 < l
          · go_wp2_with fail
            refine wp_region_still_tail 8 (by kernel_rfl) (by kernel_rfl) ?_
            simp only [List.take_succ_cons, List.take_zero, List.drop_succ_cons, List.drop_zero]
            obtain ⟨w7, hw7⟩ : ∃ w7, w6.drew = w7 := ⟨_, rfl⟩
            change wpStill _ _ w6.drew (fun a' => wpList _ _ _ _ a' w6.drew) _ _
            have p3 : w7.cell? ⟨p, 3, none⟩ = some (.int .i64 x.quick) := by rw [← hw7]; exact q3
            have r1 : w7.cell? ⟨g, 1, none⟩ = some (.int .i64 (held t + x.slow)) := by rw [← hw7]; exact g1
            have rf : w7.frozen? ⟨g, 1, none⟩ = false := by rw [← hw7]; exact gf 1
            rw [hw7]
            have HW7 := Lib.hid hw7
            clear hw7 q3 q6 qf g0 g1 gf
            repeat still_step
            still_call (held_any _ _)
            repeat still_step
            refine wpStill_nil ?_
            go_wp2_with fail
            go_meet
            have hgb7 : w7.heap[g]? = some (.cells #[.int .i64 c1, .int .i64 (held t + x.slow)] 64 (0, 0)) := by rw [← HW7.out]; exact HB.out.1
            have hb67 : Below w6.heap.size w6 w7 := by rw [← HW7.out]; exact (Below.refl _ _).drew
            have hGk : Good w7 W.heap.size p (comeSh t x) (.slice A' N c') ∧ Kept p W w7 := ⟨HG6.out.1.below hb67, HG6.out.2.below hb67⟩
            case rel =>
              refine ⟨?_, ?_, ?_⟩
              · rw [if_pos hq, heap_set hgb7]
                rfl
              · have hpg : p ≠ g := fun e => by
                  subst e
                  have := hGk.1.sh
                  unfold HasSh at this
                  rw [hgb7] at this
                  simp at this
                have hvg : (Value.slice A' N c').ownBlock ≠ some g := fun e => by
                  have h1 := (World.ownsRow.lt HG.out.1.row.own g e).2
                  have h2 := HB.out.2.2
                  omega
                exact ⟨(Below.heap_setCell _ _ _ _ hpg).trans hGk.1.sh, hGk.1.row.setFar hvg _ _, hGk.1.l8, hGk.1.at0⟩
              · exact hGk.2.setNew (by have h1 := HG.out.2.size; have h2 := HB.out.2.2; omega) _ _
          · have hq' : ¬ c1 < l := hq
            have HQ := Lib.hid hq'
            clear hq'
            go_wp2_with fail
            go_meet
            case rel => exact ⟨by rw [if_neg (Int.not_lt.2 HQ.out)]; exact HB.out.1, HG6.out⟩
        case rest =>
          obtain ⟨hgb, hG⟩ := hcut
          obtain ⟨w8, rfl⟩ : ∃ w8 : World, w8 = wc := ⟨_, rfl⟩
          obtain ⟨c2, ec2⟩ : ∃ c2, (held t + if c1 < l then x.quick else x.slow) = c2 := ⟨_, rfl⟩
          rw [ec2] at hgb
          have q6 : w8.cell? ⟨p, 6, none⟩ = some (.slice A' N c') := hG.1.sh.c6
          have qf := hG.1.sh.fr 6
          have ql := hG.1.sh.lt
          have g0 : w8.cell? ⟨g, 0, none⟩ = some (.int .i64 c1) := by simp [World.cell?, hgb]
          have g1 : w8.cell? ⟨g, 1, none⟩ = some (.int .i64 c2) := by simp [World.cell?, hgb]
          have gl : g < w8.heap.size := lt_of_block hgb
          have hown := hG.1.row.own
          have hne : (Value.slice A' N c').ownBlock ≠ some p := hG.1.row.apart hG.1.sh (by decide)
          have hng : (Value.slice A' N c').ownBlock ≠ some g := fun e => by
            have h1 := (World.ownsRow.lt HG.out.1.row.own g e).2
            have h2 := HB.out.2.2
            omega
          have hN : (comeSh t x).L.length = N := HS.out.2.2.2.2
          have hBw : W.heap.size ≤ w8.heap.size := hG.2.size
          obtain ⟨LL, eLL⟩ : ∃ LL, (comeSh t x).L = LL := ⟨_, rfl⟩
          rw [eLL] at hown hN
          rw [hN] at hown
          have HC := Lib.hid (And.intro hgb (And.intro hG (And.intro ec2 (And.intro eLL hN))))
          clear hgb hG ec2 eLL hN hwq
          obtain ⟨i0, hi0, hz0, hz1, hz2⟩ := info_parts info64
          have hz := ((Below.refl w8.heap.size w8).alloc (Nat.le_refl _) (.cells #[.int .i64 c1, .int .i64 c2] 64)).drew
          have zf := (hz.frozen (p := ⟨p, 6, none⟩) ql).trans qf
          have z6 := (hz.cell (p := ⟨p, 6, none⟩) ql).trans q6
          have z0 := (hz.cell (p := ⟨g, 0, none⟩) gl).trans g0
          have z1 := (hz.cell (p := ⟨g, 1, none⟩) gl).trans g1
          have HZ := Lib.hid hz
          clear hz
          go_wp2_with fail
          go_region_law
            ((refine step_append_lies _ (by rfl) _ _ _ (by rfl) W.heap.size 64 i0 _ 2 16 Try.underlying56 hi0 hz0 hz1 hz2 rfl (by omega) (.slice A' N c') N (flatC LL) (by rfl) ((hown.alloc _).drew)
                ⟨w8.heap.size, 0, none⟩ 1 1 [.int .i64 c1, .int .i64 c2] (by rfl) (by rfl) (World.news_of_block (cs := #[.int .i64 c1, .int .i64 c2]) (t := 64) (fr := (0, 0)) (heap_alloc_new w8 _)) (by simp [Value.oneCell'])
                (by omega) (by unfold maxLen; omega) (by omega) (by simp; omega) (w8.heap.size + 1) (by simp) ?_; intro gg cap w9 hown1 hgrow hat hlt; have hf9 : w9.frozen? ⟨p, 6, none⟩ = false := (hgrow.frozen_far _ (by simp; omega) (Ne.symm hne)).trans zf; have hc9 : w9.cell? ⟨p, 6, none⟩ = some (.slice A' N c') := (hgrow.cell_far _ (by simp; omega) (Ne.symm hne)).trans z6; have hg9 : w9.cell? ⟨g, 0, none⟩ = some (.int .i64 c1) := (hgrow.cell_far _ (by simp; omega) (Ne.symm hng)).trans z0; have hg9' : w9.cell? ⟨g, 1, none⟩ = some (.int .i64 c2) := (hgrow.cell_far _ (by simp; omega) (Ne.symm hng)).trans z1))
          all_goals
            have HO := Lib.hid (And.intro hown1 hgrow)
            clear hown1 hgrow hf9 hc9 hg9 hg9' hown
            go_wp2_with fail
            have hr0 : r = 0 := by
              rw [← ER.out, if_neg]
              have := HC.out.2.2.2.2
              rw [HC.out.2.2.2.1, this]
              exact h8
            subst hr0
            go_ret
            have hN8 : (comeSh t x).L.length = N := by rw [HC.out.2.2.2.1]; exact HC.out.2.2.2.2
            have e8 := good_set (W := W) (w8 := w8) (w9 := w9) (p := p) (N := N) (gg := gg) (cap := cap) (A' := A') (c' := c') (c1 := c1) (c2 := c2) (y := comeSh t x) HC.out.2.1.1 HC.out.2.1.2 (by omega) hN8 (by rw [← HC.out.2.2.1]; split <;> omega) (by rw [HC.out.2.2.2.1]; exact HO.out.1) HO.out.2
            refine ⟨.slice (some ⟨gg, 0, none⟩) (N + 1) cap, rfl, ?_, e8.2⟩
            have e9 : setSh t s x = { comeSh t x with L := (comeSh t x).L ++ [(c1, c2)] } := by
              unfold setSh
              rw [if_neg (by omega)]
              unfold newCh
              rw [EL.out, EC.out, HC.out.2.2.1]
            rw [e9]
            exact e8.1.mono hB

theorem set_nil (t s : Int) (W : World) : Calls Try.prog 12 #[.pointer none, .int .i64 t, .int .i64 s] W fun e w' => e = .returned (.int .i64 9) ∧ w' = W := by
  go_enter Try.func12, Try.ntmps12
  go_wp2_with fail
  go_ret
  exact ⟨rfl, rfl⟩

end Go.Proofs.Ytclplacjgofccaa
