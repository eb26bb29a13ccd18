/- The making of a plane: its parts. -/
import Derived.Test.YtcfhjkmebnmcjaaGreatQ
import Derived.Test.YtcfhjkmebnmcjaaGreatKb
import Derived.Test.YtcfhjkmebnmcjaaGreatI
namespace Go.Proofs.YtcfhjkmebnmcjaaGreat
open Go.RowKit Go.Shelf
set_option linter.unusedVariables false
set_option linter.unusedSimpArgs false
attribute [local go_sem] Oper.semAt_some

theorem Below.dr {a w : World} (h : Below a.heap.size a w) : Below a.heap.size a w.drew := h.drew
theorem mapIn (Y : World) {Z : World} {n : Nat} (hn : Y.heap.size = n) (hb : Below (Y.alloc (.map #[] 0)).heap.size (Y.alloc (.map #[] 0)) Z) : Z.heap[n]? = some (.map #[] 0) := by
  rw [hb.block n (by simp; omega), heap_new' Y hn]
theorem An.rng {w W : World} {nb tb mp k : Nat} {r : Int} {v : Value} {L : List (Nat × Nat)} (h : An w W nb tb mp r v k L) : (w.heap.size ≤ mp ∧ mp < W.heap.size) ∧ tb < W.heap.size ∧ ∀ q ∈ L, w.heap.size ≤ q.2 ∧ q.2 < W.heap.size :=
  ⟨⟨h.ge.2.2, (Array.getElem?_eq_some_iff.1 h.m).1⟩, h.t.lt, fun q hq => ⟨(h.l q hq).2.2.2, by obtain ⟨es, n, hm⟩ := (h.l q hq).1.mapAt; exact (Array.getElem?_eq_some_iff.1 hm).1⟩⟩

/-- A plane's parts, before anything is opened: from base B on. -/
structure Bp (B : Nat) (X : World) (p nb t0 wm cm tb mp lg cap p2 m : Nat) (lk : Value) (r : Int) : Prop where
  pl : Pl X p nb t0 wm cm lk 0 0 0 0
  nd : Nd X nb tb mp lg cap p2 m false 0 ⟨roomOf r, []⟩
  mpv : X.heap[mp]? = some (.map #[] 0)
  t : Tb X t0 0 40 15 false
  wmv : X.heap[wm]? = some (.map #[] 0)
  ne : wm ≠ mp ∧ wm ≠ m ∧ tb ≠ t0
  ge : B ≤ p ∧ B ≤ nb ∧ B ≤ t0 ∧ B ≤ wm ∧ B ≤ tb ∧ B ≤ mp ∧ B ≤ lg ∧ B ≤ p2 ∧ B ≤ m
theorem An.nd2 {w W : World} {nb tb mp : Nat} {r : Int} {v : Value} {L : List (Nat × Nat)} (h : An w W nb tb mp r v 2 L) :
    ∃ lg cap p m, Nd W nb tb mp lg cap p m false 0 ⟨roomOf r, []⟩ ∧ W.heap[mp]? = some (.map #[] 0) ∧ w.heap.size ≤ lg ∧ w.heap.size ≤ p ∧ (w.heap.size ≤ m ∧ m < W.heap.size) ∧ w.heap.size ≤ nb ∧ w.heap.size ≤ tb ∧ tb < W.heap.size ∧ w.heap.size ≤ mp ∧ mp < W.heap.size := by
  obtain ⟨lg, cap, p, m, _, h1, h2, h3, h4⟩ := h.nd
  obtain ⟨es, n, hm⟩ := h1.l.mapAt
  exact ⟨lg, cap, p, m, h1, h.m, h2, h3, ⟨h4, (Array.getElem?_eq_some_iff.1 hm).1⟩, h.ge.1, h.ge.2.1, h.t.lt, h.ge.2.2, (Array.getElem?_eq_some_iff.1 h.m).1⟩

theorem info59 : (Tryz.prog.info? 59).map (fun i => (i.zero, i.size, i.bytes)) = some (some (.pointer none), 1, 8) := by kernel_rfl
/-- While the links are made. -/
structure Ln (w X : World) (p nb t0 wm cm tb mp lg cap p2 m : Nat) (r : Int) (v : Value) (k : Nat) (lbs : List Nat) : Prop where
  bp : Bp w.heap.size X p nb t0 wm cm tb mp lg cap p2 m v r
  o : X.ownsRow w.heap.size 59 1 v k (lbs.map fun b => .pointer (some ⟨b, 0, none⟩))
  l : ∀ b ∈ lbs, (∃ g, X.heap[b]? = some (.cells (linkC g) 67 (0, 0))) ∧ w.heap.size ≤ b
  len : lbs.length = k
  bel : Below w.heap.size w X
theorem Bp.below {B : Nat} {X Y : World} {p nb t0 wm cm tb mp lg cap p2 m : Nat} {v : Value} {r : Int} (h : Bp B X p nb t0 wm cm tb mp lg cap p2 m v r) (hb : Below X.heap.size X Y) : Bp B Y p nb t0 wm cm tb mp lg cap p2 m v r :=
  ⟨h.pl.below hb, h.nd.below hb, (hb.block mp (Array.getElem?_eq_some_iff.1 h.mpv).1).trans h.mpv, h.t.below hb, (hb.block wm (Array.getElem?_eq_some_iff.1 h.wmv).1).trans h.wmv, h.ne, h.ge⟩
theorem Ln.next {w X w2 w9 : World} {p nb t0 wm cm tb mp lg cap p2 m k gg cc lb g : Nat} {r : Int} {v : Value} {lbs : List Nat} (h : Ln w X p nb t0 wm cm tb mp lg cap p2 m r v k lbs) (hb : Below X.heap.size X w2)
    (hL : w2.heap[lb]? = some (.cells (linkC g) 67 (0, 0))) (hlb : X.heap.size ≤ lb) (hg : w2.grownBy w9 v.ownBlock)
    (hown : w9.ownsRow w.heap.size 59 1 (.slice (some ⟨gg, 0, none⟩) (k + 1) cc) (k + 1) ((lbs.map fun b => .pointer (some ⟨b, 0, none⟩)) ++ [.pointer (some ⟨lb, 0, none⟩)])) :
    Ln w (w9.setCell ⟨p, 1, none⟩ (.slice (some ⟨gg, 0, none⟩) (k + 1) cc)) p nb t0 wm cm tb mp lg cap p2 m r (.slice (some ⟨gg, 0, none⟩) (k + 1) cc) (k + 1) (lbs ++ [lb]) := by
  have hB2 := h.bp.below hb
  have ho2 := own_below h.o hb
  have hpl2 : w2.heap[p]? = _ := hB2.pl
  have hnm : ∀ j es n, w2.heap[j]? = some (.map es n) → some j ≠ v.ownBlock := fun j es n hj e => by
    obtain ⟨_, cur, hc⟩ := own_typ ho2 e.symm
    rw [hc] at hj
    cases hj
  have hne : some p ≠ v.ownBlock := own_ne ho2 hpl2 (by decide)
  have hp9 : w9.heap[p]? = _ := (hg.block p hB2.pl.lt hne).trans hpl2
  have hkeep : ∀ {j : Nat} {o : Obj}, w2.heap[j]? = some o → some j ≠ v.ownBlock → j ≠ p → (w9.setCell ⟨p, 1, none⟩ (.slice (some ⟨gg, 0, none⟩) (k + 1) cc)).heap[j]? = some o := fun {j o} hj h1 h2 =>
    (Below.heap_setCell _ _ _ _ h2).trans ((hg.block j (Array.getElem?_eq_some_iff.1 hj).1 h1).trans hj)
  obtain ⟨cs, ht1, ht2⟩ := hB2.t
  obtain ⟨cs2, hu1, hu2⟩ := hB2.nd.t
  obtain ⟨cur, hr1, hr2⟩ := hB2.nd.r
  obtain ⟨es, n, hm⟩ := hB2.nd.l.mapAt
  have hl9 : HasL w9 p2 m ⟨roomOf r, []⟩ := hB2.nd.l.kept hg (fun e => own_ne ho2 hB2.nd.l.cells (by decide) e.symm) (fun e => hnm _ _ _ hm e.symm)
  refine ⟨⟨?_, ⟨?_, ⟨cs2, ?_, hu2⟩, ⟨cur, ?_, hr2⟩, ?_, hB2.nd.ne⟩, ?_, ⟨cs, ?_, ht2⟩, ?_, hB2.ne, hB2.ge⟩, ?_, ?_, by simp [h.len], ?_⟩
  · unfold Pl
    rw [heap_set hp9]
    rfl
  · exact hkeep hB2.nd.n (own_ne ho2 hB2.nd.n (by decide)) (blk_ne hB2.nd.n hpl2 (by simp))
  · exact hkeep hu1 (own_ne ho2 hu1 (by decide)) (blk_ne hu1 hpl2 (by simp))
  · exact hkeep hr1 (own_ne ho2 hr1 (by decide)) (blk_ne hr1 hpl2 (by simp))
  · exact hl9.kept2 (q := p) (r := p) (Kept.set w9 _ _) (blk_ne hB2.nd.l.cells hpl2 (by simp)) (blk_ne hB2.nd.l.cells hpl2 (by simp)) (blk_ne hm hpl2 (by simp)) (blk_ne hm hpl2 (by simp))
  · exact hkeep hB2.mpv (hnm _ _ _ hB2.mpv) (blk_ne hB2.mpv hpl2 (by simp))
  · exact hkeep ht1 (own_ne ho2 ht1 (by decide)) (blk_ne ht1 hpl2 (by simp))
  · exact hkeep hB2.wmv (hnm _ _ _ hB2.wmv) (blk_ne hB2.wmv hpl2 (by simp))
  · have hne9 : some p ≠ (Value.slice (some ⟨gg, 0, none⟩) (k + 1) cc).ownBlock := own_ne hown hp9 (by decide)
    have := own_set hown p 1 (.slice (some ⟨gg, 0, none⟩) (k + 1) cc) (fun e => hne9 e.symm)
    simpa using this
  · intro b hb'
    rcases List.mem_append.1 hb' with hb' | hb'
    · obtain ⟨⟨g', h1⟩, h2⟩ := h.l b hb'
      have h12 := (hb.block b (Array.getElem?_eq_some_iff.1 h1).1).trans h1
      exact ⟨⟨g', hkeep h12 (own_ne ho2 h12 (by decide)) (blk_ne h12 hpl2 (by simp))⟩, h2⟩
    · cases List.mem_singleton.1 hb'
      exact ⟨⟨g, hkeep hL (own_ne ho2 hL (by decide)) (blk_ne hL hpl2 (by simp))⟩, Nat.le_trans h.bel.size hlb⟩
  · exact (Below.grown (h.bel.trans (hb.mono h.bel.size)) hg (Nat.le_trans h.bel.size hb.size) (fun g e => (own_typ ho2 e).1)).setCell h.bp.ge.1 _

theorem Below.al {a w : World} (h : Below a.heap.size a w) (o : Obj) : Below a.heap.size a (w.alloc o) := h.alloc h.size o
theorem Below.nx {a w w' : World} (h : Below a.heap.size a w) (k : Below w.heap.size w w') : Below a.heap.size a w' := h.trans (k.mono h.size)

set_option maxRecDepth 100000 in
set_option maxHeartbeats 8000000 in
theorem plnew_at (sb : Nat) (r : Int) (w : World) (hs0 : w.cell? ⟨sb, 0, none⟩ = some (.int .i64 r)) (hs1 : w.cell? ⟨sb, 1, none⟩ = some (.int .i64 r)) :
    Calls Tryz.prog 6 #[.slice (some ⟨sb, 0, none⟩) 2 2, .agg #[.int .i64 0, .int .i64 0, .int .i64 0], .int .i64 10] w fun e W' => ∃ p nb t0 wm cm tb mp lg cap p2 m v lbs, e = .returned (.pointer (some ⟨p, 0, none⟩)) ∧ Ln w W' p nb t0 wm cm tb mp lg cap p2 m r v 2 lbs := by
  have hmm := @run_makeMap Tryz.prog
  have hk := heap_new' w (o := .cells #[.int .i64 0, .int .i64 0, .int .i64 0] 32) rfl
  have hsl := World.block_lt_of_cell? w ⟨sb, 0, none⟩ hs0
  have HS := Lib.hid (show ∀ X, Below (w.alloc (.cells #[.int .i64 0, .int .i64 0, .int .i64 0] 32)).heap.size (w.alloc (.cells #[.int .i64 0, .int .i64 0, .int .i64 0] 32)) X → X.cell? ⟨w.heap.size, 0, none⟩ = some (.int .i64 0) ∧ X.cell? ⟨w.heap.size, 1, none⟩ = some (.int .i64 0) ∧ X.cell? ⟨w.heap.size, 2, none⟩ = some (.int .i64 0) ∧ X.cell? ⟨sb, 0, none⟩ = some (.int .i64 r) ∧ X.cell? ⟨sb, 1, none⟩ = some (.int .i64 r) from fun X hX => by
    have h0 := (hX.block w.heap.size (by simp)).trans hk
    have hw := (((Below.refl w.heap.size w).alloc (Nat.le_refl _) (.cells #[.int .i64 0, .int .i64 0, .int .i64 0] 32)).trans (hX.mono (by simp)))
    exact ⟨by simp [World.cell?, h0], by simp [World.cell?, h0], by simp [World.cell?, h0], (hw.cell (p := ⟨sb, 0, none⟩) hsl).trans hs0, (hw.cell (p := ⟨sb, 1, none⟩) hsl).trans hs1⟩)
  have HB0 := Lib.hid ((Below.refl w.heap.size w).alloc (Nat.le_refl _) (.cells #[.int .i64 0, .int .i64 0, .int .i64 0] 32))
  have hsz : w.heap.size < (w.alloc (.cells #[.int .i64 0, .int .i64 0, .int .i64 0] 32)).heap.size := by simp
  clear hs0 hs1 hk hsl
  go_enter Tryz.func6, Tryz.ntmps6
  go_wp2_with fail
  generalize w.alloc (.cells #[.int .i64 0, .int .i64 0, .int .i64 0] 32) = W at HS HB0 hsz ⊢
  have HAD := Lib.hid (show ∀ X, Below W.heap.size W X → Calls Tryz.prog 14 #[.slice (some ⟨sb, 0, none⟩) 2 2] X fun e W' => ∃ nb tb mp v L, e = .returned (.pointer (some ⟨nb, 0, none⟩)) ∧ An X W' nb tb mp r v 2 L ∧ Below X.heap.size X W' from fun X hX => (adnew_at sb r X (HS.out X hX).2.2.2.1 (HS.out X hX).2.2.2.2).mono (by rintro e w1 ⟨nb, tb, mp, v, L, h1, h2⟩; exact ⟨nb, tb, mp, v, L, h1, h2, h2.bel⟩))
  have HTN := Lib.hid tnew_at
  have hbW : Below W.heap.size W W.drew := (Below.refl _ _).drew
  have hd : ∀ Z : World, Z.drew.heap.size = Z.heap.size := fun _ => rfl
  have ha : ∀ (Z : World) (o : Obj), (Z.alloc o).heap.size = Z.heap.size + 1 := fun Z o => by simp
  have HD := Lib.hid (And.intro hd ha)
  clear hd ha
  go_cut [7] (fun s7 wx => ∃ p nb t0 wm cm tb mp lg cap p2 m, s7 = .pointer (some ⟨p, 0, none⟩) ∧ Bp w.heap.size wx p nb t0 wm cm tb mp lg cap p2 m (.slice none 0 0) r ∧ Below w.heap.size w wx)
  case first =>
    go_region_held3 (fun X => X.cell? ⟨w.heap.size, 0, none⟩ = some (.int .i64 0) ∧ X.cell? ⟨w.heap.size, 1, none⟩ = some (.int .i64 0) ∧ X.cell? ⟨w.heap.size, 2, none⟩ = some (.int .i64 0) ∧ X.cell? ⟨sb, 0, none⟩ = some (.int .i64 r) ∧ X.cell? ⟨sb, 1, none⟩ = some (.int .i64 r)) (with_reducible exact HS.out _ (by first | (with_reducible assumption) | (with_reducible exact Below.al (by assumption) _) | (with_reducible exact Below.al (Below.al (by assumption) _) _) | (with_reducible exact Below.al (Below.al (Below.al (by assumption) _) _) _) | (with_reducible exact (Below.al (Below.refl _ _) _).drew) | (with_reducible exact (Below.al (Below.al (Below.refl _ _) _) _).drew)))
        (first | (go_at_call 15; refine (HTN.out _).mono ?_; rintro e w2 ⟨t0, rfl, htb, ht0, _, hbT⟩; have hbW2 : Below W.heap.size W w2 := Below.nx (by first | (with_reducible assumption) | (with_reducible exact Below.al (by assumption) _) | (with_reducible exact Below.al (Below.al (by assumption) _) _) | (with_reducible exact (Below.al (Below.refl _ _) _).drew) | (with_reducible exact (Below.al (Below.al (Below.refl _ _) _) _).drew)) hbT) | (go_at_call 14; refine (HAD.out _ (by first | (with_reducible assumption) | (with_reducible exact Below.al (by assumption) _) | (with_reducible exact Below.al (Below.al (by assumption) _) _) | (with_reducible exact (Below.al (Below.refl _ _) _).drew) | (with_reducible exact (Below.al (Below.al (Below.refl _ _) _) _).drew))).mono ?_; rintro e w1 ⟨nb, tb, mp, v, L, rfl, hA, hbA⟩; obtain ⟨lg, cap, p2, m, hnd, hmp, g1, g2, g3, g4, g5, g6, g7, g8⟩ := hA.nd2; clear hA; have hbW1 : Below W.heap.size W w1 := Below.nx (by first | (with_reducible assumption) | (with_reducible exact Below.al (by assumption) _) | (with_reducible exact Below.al (Below.al (by assumption) _) _) | (with_reducible exact (Below.al (Below.refl _ _) _).drew) | (with_reducible exact (Below.al (Below.al (Below.refl _ _) _) _).drew)) hbA))
    all_goals
      go_wp2_with fail
      go_meet
      case rel =>
        have hnd' := And.intro hnd hmp
        have s1 := hbA.size
        have s2 := hbT.size
        have s3 := HB0.out.size
        refine ⟨_, nb, t0, _, _, tb, mp, lg, cap, p2, m, rfl, ⟨heap_new' _ (by simp), ?nd, ?mpv, ?t, ?wmv, ?ne, ?ge⟩, ?bel⟩
        case nd => exact hnd.below (by repeat' (first | (with_reducible exact Below.refl _ _) | with_reducible apply Below.al | with_reducible apply Below.dr | with_reducible refine Below.nx ?_ hbT | with_reducible refine Below.nx ?_ hbA))
        case mpv => exact (Below.block (B := w1.heap.size) (w := w1) (by repeat' (first | (with_reducible exact Below.refl _ _) | with_reducible apply Below.al | with_reducible apply Below.dr | with_reducible refine Below.nx ?_ hbT | with_reducible refine Below.nx ?_ hbA)) mp g8).trans hmp
        case t => exact ht0.below (by repeat' (first | (with_reducible exact Below.refl _ _) | with_reducible apply Below.al | with_reducible apply Below.dr | with_reducible refine Below.nx ?_ hbT | with_reducible refine Below.nx ?_ hbA))
        case wmv =>
          first
            | (refine mapIn w2 ?_ ?_; (focus (simp; done)); (repeat' (first | (with_reducible exact Below.refl _ _) | with_reducible apply Below.al | with_reducible apply Below.dr | with_reducible refine Below.nx ?_ hbT | with_reducible refine Below.nx ?_ hbA)); done)
            | (refine mapIn (w2.alloc (.map #[] 0)) ?_ ?_; (focus (simp; done)); (repeat' (first | (with_reducible exact Below.refl _ _) | with_reducible apply Below.al | with_reducible apply Below.dr | with_reducible refine Below.nx ?_ hbT | with_reducible refine Below.nx ?_ hbA)); done)
            | (refine mapIn w1 ?_ ?_; (focus (simp; done)); (repeat' (first | (with_reducible exact Below.refl _ _) | with_reducible apply Below.al | with_reducible apply Below.dr | with_reducible refine Below.nx ?_ hbT | with_reducible refine Below.nx ?_ hbA)); done)
            | (refine mapIn (w1.alloc (.map #[] 0)) ?_ ?_; (focus (simp; done)); (repeat' (first | (with_reducible exact Below.refl _ _) | with_reducible apply Below.al | with_reducible apply Below.dr | with_reducible refine Below.nx ?_ hbT | with_reducible refine Below.nx ?_ hbA)); done)
            | (refine mapIn W ?_ ?_; (focus (simp; done)); (repeat' (first | (with_reducible exact Below.refl _ _) | with_reducible apply Below.al | with_reducible apply Below.dr | with_reducible refine Below.nx ?_ hbT | with_reducible refine Below.nx ?_ hbA)); done)
            | (refine mapIn (W.alloc (.map #[] 0)) ?_ ?_; (focus (simp; done)); (repeat' (first | (with_reducible exact Below.refl _ _) | with_reducible apply Below.al | with_reducible apply Below.dr | with_reducible refine Below.nx ?_ hbT | with_reducible refine Below.nx ?_ hbA)); done)
        case ne =>
          simp only [HD.out.1, HD.out.2] at *
          omega
        case ge =>
          simp only [HD.out.1, HD.out.2] at *
          omega
        case bel => exact HB0.out.trans (Below.mono (B' := w.heap.size) (by repeat' (first | (with_reducible exact Below.refl _ _) | with_reducible apply Below.al | with_reducible apply Below.dr | with_reducible refine Below.nx ?_ hbT | with_reducible refine Below.nx ?_ hbA)) HB0.out.size)
  case rest =>
    obtain ⟨p, nb, t0, wm, cm, tb, mp, lg, cap, p2, m, rfl, hB, hbel⟩ := hcut
    obtain ⟨w5, rfl⟩ : ∃ w5 : World, w5 = wc := ⟨_, rfl⟩
    have hLn : Ln w w5 p nb t0 wm cm tb mp lg cap p2 m r (.slice none 0 0) 0 [] := ⟨hB, ⟨by simp, .inl ⟨rfl, rfl⟩⟩, (fun q hq => by cases hq), rfl, hbel⟩
    clear hB hbel HS HAD HTN hbW
    go_wp2_with fail
    go_loopw [20] (fun i wr => ∃ (k : Nat) (v : Value) (lbs : List Nat), k ≤ 2 ∧ i = .int .i64 k ∧ Ln w wr p nb t0 wm cm tb mp lg cap p2 m r v k lbs) (fun i _ => 2 - (Go.RowKit.intOf i).toNat)
    case atStart => exact ⟨0, _, _, Nat.zero_le _, rfl, hLn⟩
    case round =>
      obtain ⟨k, v, lbs, hkn, rfl, hAk⟩ := hrel
      by_cases hlt : k < 2
      · have HA := Lib.hid hAk
        have hk0 : (0 : Int) ≤ (k : Int) := Int.natCast_nonneg _
        have hk1 : (k : Int) < 2 := by omega
        clear hAk hLn
        go_wp2_with fail
        have HW := Lib.hid (show ∀ X, Below wr.drew.heap.size wr.drew X → X.cell? ⟨p, 1, none⟩ = some v ∧ (∀ o, X.frozen? ⟨p, o, none⟩ = false) ∧ X.ownsRow w.heap.size 59 1 v k (lbs.map fun b => .pointer (some ⟨b, 0, none⟩)) ∧ p < X.heap.size ∧ w.heap.size ≤ X.heap.size ∧ Below wr.heap.size wr X from fun X hX => by
          have hx : Below wr.heap.size wr X := (Below.refl _ _).drew.trans hX
          have hn := HA.out.bp.pl.below hx
          refine ⟨hn.c1, hn.fr, own_below HA.out.o hx, hn.lt, Nat.le_trans HA.out.bel.size hx.size, hx⟩)
        obtain ⟨p1, pf, _, pl1, _, _⟩ := HW.out wr.drew (Below.refl _ _)
        obtain ⟨i0, hi, hz0, hz1, hz2⟩ := info_parts info59
        have HQ := Lib.hid (own_ne HA.out.o (show wr.heap[p]? = _ from HA.out.bp.pl) (by decide))
        clear hk0 hk1
        go_region_law
          (first | (go_simp; go_at_call 16; refine (gnew_at _).mono ?_; rintro e w1 ⟨g, rfl, hb1⟩; obtain ⟨p1, pf, ho, pl1, wl1, hbw⟩ := HW.out w1 hb1; have p1a := (World.cell?_alloc_some w1 ⟨p, 1, none⟩ (.cells (linkC g) 67) (by rw [p1]; rfl)).trans p1; have p1' := (World.cell?_alloc_some (w1.alloc (.cells (linkC g) 67)) ⟨p, 1, none⟩ (.cells #[.pointer (some ⟨w1.heap.size, 0, none⟩)] 59) (by rw [p1a]; rfl)).trans p1a) |
            (refine step_append_lies _ (by rfl) _ _ _ (by rfl) w.heap.size 59 i0 _ 1 8 Tryz.underlying56 hi hz0 hz1 hz2 rfl (by omega) v k (lbs.map fun b => .pointer (some ⟨b, 0, none⟩)) (by rfl) ((ho.alloc _).alloc _)
                  ⟨w1.heap.size + 1, 0, none⟩ 1 1 [.pointer (some ⟨w1.heap.size, 0, none⟩)] (by rfl) (by rfl) (World.news_of_block (cs := #[.pointer (some ⟨w1.heap.size, 0, none⟩)]) (t := 59) (fr := (0, 0)) (heap_new' _ (by simp))) (by simp [Value.oneCell'])
                  (by omega) (by unfold maxLen; omega) (by omega) (by simp; omega) (w1.heap.size + 2) (by simp) ?_; intro gg cc w9 hown1 hgrow hat hlt9; have HO := Lib.hid (And.intro hown1 hgrow); have hf9 := (hgrow.frozen_far ⟨p, 1, none⟩ (by simp; omega) HQ.out).trans ((((Below.refl w1.heap.size w1).alloc (Nat.le_refl _) (.cells (linkC g) 67)).alloc (by simp) (.cells #[.pointer (some ⟨w1.heap.size, 0, none⟩)] 59)).frozen (p := ⟨p, 1, none⟩) pl1 |>.trans (pf 1)); have hc9 := (hgrow.cell_far ⟨p, 1, none⟩ (by simp; omega) HQ.out).trans p1'))
        all_goals
          have HE := Lib.hid hbw
          clear hbw hb1 p1 pf ho pl1 wl1 hat hlt9 hf9 hc9 hi hz0 hz1 hz2
          go_wp2_with fail
          go_roundw
          case rel => exact ⟨k + 1, _, lbs ++ [w1.heap.size], by omega, by go_num, Ln.next HA.out ((HE.out.alloc HE.out.size _).alloc (by simp; have := HE.out.size; omega) _) ((Below.heap_alloc _ _ _ (by simp)).trans (heap_new' w1 rfl)) HE.out.size HO.out.2 HO.out.1⟩
          case measure => simp [Go.RowKit.intOf]; omega
      · have hkn' : k = 2 := by omega
        subst hkn'
        have HM := Lib.hid hAk
        clear hAk hLn
        go_wp2_with fail
        go_ret
        exact ⟨p, nb, t0, wm, cm, tb, mp, lg, cap, p2, m, v, lbs, rfl, HM.out⟩

end Go.Proofs.YtcfhjkmebnmcjaaGreat
