/- The policer's Take, where no cell is too early. -/
import Derived.Test.YtcfhjkmebnmcjaaGreatJb
import Derived.Deep.RegionWith
import Derived.StillTailTactics
namespace Go.Proofs.YtcfhjkmebnmcjaaGreat
open Go.RowKit Go.Shelf
set_option linter.unusedVariables false
set_option linter.unusedSimpArgs false
attribute [local go_sem] Oper.semAt_some

/-- The buckets behind a cell that each of these took. -/
def upd (σ : Nat → Bk) (t : Int) (q : Ru) : Nat → Bk := fun b => if b = q.b then takeB (σ b) t else σ b
def σp (σ : Nat → Bk) (t : Int) (pre : List Ru) : Nat → Bk := pre.foldl (fun τ q => upd τ t q) σ
theorem σp_snoc (σ : Nat → Bk) (t : Int) (pre : List Ru) (q : Ru) : σp σ t (pre ++ [q]) = upd (σp σ t pre) t q := by simp [σp]
theorem upd_ok {σ : Nat → Bk} (h : ∀ b, (σ b).Ok) (t : Int) (q : Ru) : ∀ b, (upd σ t q b).Ok := fun b => by
  unfold upd
  split
  · exact takeB_ok (h b) t
  · exact h b
theorem σp_ok {σ : Nat → Bk} (h : ∀ b, (σ b).Ok) (t : Int) (pre : List Ru) : ∀ b, (σp σ t pre b).Ok := by
  unfold σp
  induction pre generalizing σ with
  | nil => exact h
  | cons q r ih => exact ih (upd_ok h t q)

/-- Blocks of buckets may have turned; all other old ones are as they were. -/
structure KeptR (rs : List Ru) (w W : World) : Prop where
  os : W.os = w.os
  tape : W.tape = w.tape
  output : W.output = w.output
  size : w.heap.size ≤ W.heap.size
  block : ∀ k, k < w.heap.size → (∀ u ∈ rs, k ≠ u.b) → W.heap[k]? = w.heap[k]?
theorem KeptR.of_below {rs : List Ru} {w W : World} (h : Below w.heap.size w W) : KeptR rs w W := ⟨h.os, h.tape, h.output, h.size, fun k hk _ => h.block k hk⟩
theorem KeptR.trans {rs : List Ru} {a b c : World} (h : KeptR rs a b) (k : KeptR rs b c) : KeptR rs a c :=
  ⟨k.os.trans h.os, k.tape.trans h.tape, k.output.trans h.output, Nat.le_trans h.size k.size, fun i hi hn => (k.block i (Nat.lt_of_lt_of_le hi h.size) hn).trans (h.block i hi hn)⟩

/-- While the rules take. -/
structure Ts (w W : World) (rs : List Ru) (σ : Nat → Bk) (t : Int) (pre : List Ru) : Prop where
  bx : Boxed W w.heap.size 3 (.int .i64 t)
  b : ∀ u ∈ rs, HasB W u.b (σp σ t pre u.b)
  k : KeptR rs w W
  sz : w.heap.size + 3 ≤ W.heap.size
theorem Ts.own {w A C : World} {rs : List Ru} {σ : Nat → Bk} {t : Int} {pre : List Ru} {B0 : Nat} {row : Option Nat} (h : Ts w A rs σ t pre) (hb : ∀ u ∈ rs, u.b < w.heap.size) (hB : w.heap.size + 2 ≤ B0) (hg : A.grownBy C row)
    (hr : ∀ k, row = some k → B0 ≤ k ∧ ∃ o : Obj, A.heap[k]? = some o ∧ o.isCells = false) : Ts w C rs σ t pre := by
  have hn : ∀ k, k < B0 → some k ≠ row := fun k hk e => by have := (hr k e.symm).1; omega
  refine ⟨h.bx.kept hg (hn _ (by omega)), fun u hu => (hg.block u.b (h.b u hu).lt (hn _ (by have := hb u hu; omega))).trans (h.b u hu), ?_, Nat.le_trans h.sz hg.size⟩
  exact ⟨hg.os.trans h.k.os, hg.tape.trans h.k.tape, hg.output.trans h.k.output, Nat.le_trans h.k.size hg.size, fun k hk hne => (hg.block k (Nat.lt_of_lt_of_le hk h.k.size) (hn _ (by omega))).trans (h.k.block k hk hne)⟩
theorem Ts.step {w W W' : World} {rs : List Ru} {σ : Nat → Bk} {t : Int} {pre : List Ru} {q : Ru} {v : Value} {e : Ending} (h : Ts w W rs σ t pre) (hq : q ∈ rs) (hb : ∀ u ∈ rs, u.b < w.heap.size) (hs : SetsB q.b (takeB (σp σ t pre q.b) t) v W e W') : Ts w W' rs σ t (pre ++ [q]) := by
  obtain ⟨_, h1, h2, h3⟩ := hs
  have hqb := hb q hq
  refine ⟨h.bx.kept h2 (fun e => by have := Option.some.inj e; omega), fun u hu => ?_, ?_, by rw [h3]; exact h.sz⟩
  · rw [σp_snoc]
    unfold upd
    by_cases he : u.b = q.b
    · rw [if_pos he, he]; exact h1
    · rw [if_neg he]
      exact (h2.block u.b (h.b u hu).lt (fun e => he (Option.some.inj e))).trans (h.b u hu)
  · refine h.k.trans ⟨h2.os, h2.tape, h2.output, h2.size, fun k hk hne => h2.block k hk (fun e => hne q hq (Option.some.inj e))⟩

/-- A policer's block turned, nothing else. -/
structure Fk (W V : World) (pb rg cap : Nat) (al : Bool) (n : Nat) (c : Int × Int × Int × Int) : Prop where
  os : V.os = W.os
  tape : V.tape = W.tape
  output : V.output = W.output
  size : V.heap.size = W.heap.size
  blk : ∀ k, k ≠ pb → V.heap[k]? = W.heap[k]?
  h : V.heap[pb]? = some (.cells #[.bool al, .slice (some ⟨rg, 0, none⟩) n cap, .int .i64 c.1, .int .i64 c.2.1, .int .i64 c.2.2.1, .int .i64 c.2.2.2] 200 (0, 0))
section
variable {W V : World} {pb rg cap : Nat} {al : Bool} {n : Nat} {c : Int × Int × Int × Int} (h : Fk W V pb rg cap al n c)
include h
theorem Fk.drew : Fk W V.drew pb rg cap al n c := ⟨h.os, h.tape, h.output, h.size, h.blk, h.h⟩
theorem Fk.set2 (v : Int) : Fk W (V.setCell ⟨pb, 2, none⟩ (.int .i64 v)) pb rg cap al n (v, c.2.1, c.2.2.1, c.2.2.2) :=
  ⟨h.os, h.tape, h.output, (by simp [World.setCell]; exact h.size), fun k hk => (Below.heap_setCell _ _ _ _ hk).trans (h.blk k hk), by rw [heap_set h.h]; rfl⟩
theorem Fk.set3 (v : Int) : Fk W (V.setCell ⟨pb, 3, none⟩ (.int .i64 v)) pb rg cap al n (c.1, v, c.2.2.1, c.2.2.2) :=
  ⟨h.os, h.tape, h.output, (by simp [World.setCell]; exact h.size), fun k hk => (Below.heap_setCell _ _ _ _ hk).trans (h.blk k hk), by rw [heap_set h.h]; rfl⟩
theorem Fk.set4 (v : Int) : Fk W (V.setCell ⟨pb, 4, none⟩ (.int .i64 v)) pb rg cap al n (c.1, c.2.1, v, c.2.2.2) :=
  ⟨h.os, h.tape, h.output, (by simp [World.setCell]; exact h.size), fun k hk => (Below.heap_setCell _ _ _ _ hk).trans (h.blk k hk), by rw [heap_set h.h]; rfl⟩
theorem Fk.at : V.cell? ⟨pb, 0, none⟩ = some (.bool al) ∧ V.cell? ⟨pb, 2, none⟩ = some (.int .i64 c.1) ∧ V.cell? ⟨pb, 3, none⟩ = some (.int .i64 c.2.1) ∧ V.cell? ⟨pb, 4, none⟩ = some (.int .i64 c.2.2.1) ∧ (∀ o, V.frozen? ⟨pb, o, none⟩ = false) :=
  ⟨by simp [World.cell?, h.h], by simp [World.cell?, h.h], by simp [World.cell?, h.h], by simp [World.cell?, h.h], fun o => by simp [World.frozen?, h.h]⟩
end

set_option maxRecDepth 100000 in
set_option maxHeartbeats 4000000 in
theorem ptake_at (pb rg cap : Nat) (al : Bool) (c : Int × Int × Int × Int) (rs : List Ru) (hn : rs.length ≤ 1000) (σ : Nat → Bk) (t : Int) (w : World) (hP : Pb w pb rg cap al rs.length c) (hR : Rb w rg rs) (hF : Fit w rs σ t) (hok : ∀ b, (σ b).Ok) :
    Calls Tryz.prog 90 #[.pointer (some ⟨pb, 0, none⟩), .int .i64 t, .int .i64 0] w fun e W' => e = .returned (.int .i64 (if al then 2 else 1)) ∧ (∃ c', Pb W' pb rg cap al rs.length c') ∧ Rb W' rg rs ∧ (∀ u ∈ rs, HasB W' u.b (σp σ t rs u.b)) ∧
      (W'.os = w.os ∧ W'.tape = w.tape ∧ W'.output = w.output ∧ w.heap.size ≤ W'.heap.size ∧ ∀ k, k < w.heap.size → k ≠ pb → (∀ u ∈ rs, k ≠ u.b) → W'.heap[k]? = w.heap[k]?) := by
  refine (callsIn_wide (n := 7)).1 (callsIn_of_wp_marks Tryz.func90 rfl trivial ?_ rfl)
  simp only [Tryz.ntmps90, List.size_toArray, List.length_cons, List.length_nil, Nat.reduceAdd, Nat.reduceSub, Array.replicate_succ, Array.replicate_zero, List.push_toArray, List.append_toArray, List.nil_append, List.cons_append]
  have hbl : ∀ u ∈ rs, u.b < w.heap.size := fun u hu => (hF u hu).2.1.lt
  have hpl : pb < w.heap.size := (Array.getElem?_eq_some_iff.1 hP.h).1
  have hrl : rg < w.heap.size := by obtain ⟨cur, h1, _⟩ := hR; exact (Array.getElem?_eq_some_iff.1 h1).1
  have hnp : ∀ u ∈ rs, pb ≠ u.b := fun u hu e => by
    have h1 := hP.h
    have h2 : w.heap[u.b]? = _ := (hF u hu).2.1
    rw [e, h2] at h1
    simp at h1
  have hnr : ∀ u ∈ rs, rg ≠ u.b := fun u hu e => by
    obtain ⟨cur, h1, _⟩ := hR
    have h2 : w.heap[u.b]? = _ := (hF u hu).2.1
    rw [e, h2] at h1
    simp at h1
  have hB1 := (Below.refl w.heap.size w).alloc (Nat.le_refl _) (.cells #[.int .i64 t] 3)
  have hV := verdict_at pb rg cap al c rs hn σ t (w.alloc (.cells #[.int .i64 t] 3)) ⟨(hB1.block pb hpl).trans hP.h⟩ (by obtain ⟨cur, h1, h2⟩ := hR; exact ⟨cur, (hB1.block rg hrl).trans h1, h2⟩) (fun u hu => ⟨(hF u hu).1, (hB1.block u.b (hbl u hu)).trans (hF u hu).2.1, (hF u hu).2.2⟩)
  have HB0 := Lib.hid hB1
  have HP := Lib.hid (And.intro hP (And.intro hR (And.intro hF (And.intro hok (And.intro hbl (And.intro hnp hnr))))))
  have HV := Lib.hid hV
  clear hP hR hF hok hbl hnp hnr hV hB1
  refine wpIn_wide.2 ?_
  go_wp2_with fail
  refine HV.out.mono ?_
  rintro e w1 ⟨rfl, hb1⟩
  have HB1 := Lib.hid (HB0.out.trans (hb1.mono (by simp)))
  have HT1 := Lib.hid (Boxed.kept (row := none) (Boxed.new w 3 (.int .i64 t)) ⟨hb1.os, hb1.tape, hb1.output, hb1.size, fun k hk _ => hb1.block k hk⟩ (by simp))
  have hs1 : w.heap.size + 1 ≤ w1.heap.size := by have := hb1.size; simpa using this
  have HS1 := Lib.hid hs1
  clear hb1 hs1
  go_wp2_with (first | go_step3 | (go_at_call 120; refine ((callsIn_wide (n := 7)).1 (asked_in 7 _ _ _)).mono ?_; rintro e w' ⟨rfl, rfl⟩))
  generalize hW0 : (w1.alloc (.cells #[.pointer (some ⟨pb, 0, none⟩)] 157)).alloc (.cells #[.int .i64 0] 3) = W0
  have hsz0 : W0.heap.size = w1.heap.size + 2 := by rw [← hW0]; simp
  have hs1 := HS1.out
  have hbel : Below w.heap.size w W0 := by
    rw [← hW0]
    exact (HB1.out.alloc (by omega) _).alloc (by simp; omega) _
  have hT0 : Boxed W0 w.heap.size 3 (.int .i64 t) := by rw [← hW0]; exact (HT1.out.alloc _).alloc _
  have hbp : Boxed W0 w1.heap.size 157 (.pointer (some ⟨pb, 0, none⟩)) := by rw [← hW0]; exact (Boxed.new _ _ _).alloc _
  have hbc : Boxed W0 (w1.heap.size + 1) 3 (.int .i64 0) := by rw [← hW0]; exact heap_new' _ (by simp)
  obtain ⟨hP, hR, hF, hok, hbl, hnp, hnr⟩ := HP.out
  have h0 : Ts w W0 rs σ t [] := ⟨hT0, fun u hu => (hbel.block u.b (hbl u hu)).trans (hF u hu).2.1, KeptR.of_below hbel, by omega⟩
  have hP0 : Pb W0 pb rg cap al rs.length c := ⟨(hbel.block pb hpl).trans hP.h⟩
  have hR0 : Rb W0 rg rs := by obtain ⟨cur, h1, h2⟩ := hR; exact ⟨cur, (hbel.block rg hrl).trans h1, h2⟩
  refine (wpIn_wide (n := 7)).1 ?_
  refine wpIn_rangeFunc_ownH rfl (by omega) (gf := 137) (lb := #[.pointer (some ⟨w1.heap.size, 0, none⟩), .pointer (some ⟨w1.heap.size + 1, 0, none⟩)]) rfl trivial (enters_of Tryz.func137 (by kernel_rfl) rfl)
    (asked_stops w1.heap.size (w1.heap.size + 1) pb rg cap al c rs hn W0 (by omega) (by omega) hbp.cell hbc hP0 hR0) KpR.trans (fun W l o o' hl ho hc hw => KpR.turn (B := W0.heap.size) (by omega) (by omega) W l o o' hl) (Below.refl _ _) (fun _ => rfl)
    (fun pre W => Ts w W rs σ t (pre.map (·.1)) ∧ w1.heap.size + 2 ≤ W.heap.size)
    (fun c pre W => False)
    (fun pre C C' row hs hg hr => ⟨hs.1.own hbl (B0 := W0.heap.size) (by omega) hg hr, Nat.le_trans hs.2 hg.size⟩)
    (fun c pre C C' row hs hg hr => hs)
    ⟨h0, by omega⟩
    (fun q a' W => ∃ b9, W.heap[b9]? = some (.cells q.1.cells.toArray 208 (0, 0)) ∧ a' = { tmps := #[.pointer (some ⟨pb, 0, none⟩), .int .i64 t, .int .i64 0, undef, .pointer (some ⟨w.heap.size, 0, none⟩), undef, .int .i64 0, .int .i64 1, .int .i64 0, .pointer (some ⟨b9, 0, none⟩), .pointer (some ⟨pb, 0, none⟩), .bool false, .pointer (some ⟨pb, 0, none⟩), .int .i64 t, .int .i64 0, .int .i64 1, .int .i64 0, .int .i64 1, .bool false, .int .i64 1, .bool true, .pointer (some ⟨pb, 0, none⟩), .int .i64 0, .func (.func 137) #[] #[.pointer (some ⟨w1.heap.size, 0, none⟩), .pointer (some ⟨w1.heap.size + 1, 0, none⟩)], .agg q.1.cells.toArray, undef, undef, undef, undef, undef, undef, undef, undef, undef, undef, undef, undef, undef, undef, undef, undef, undef, undef, undef, undef, undef, undef, undef, undef, undef, undef, undef, undef, undef, undef, undef, undef, undef, undef, undef, undef], defers := [] })
    (fun q a' _ C C' row hs hg hr => by
      obtain ⟨b9, h1, h2⟩ := hs
      refine ⟨b9, (hg.block b9 (Array.getElem?_eq_some_iff.1 h1).1 (fun e => ?_)).trans h1, h2⟩
      obtain ⟨_, o, ho, hc⟩ := hr b9 e.symm
      rw [h1] at ho
      cases ho
      cases hc) ?assign ?body ?done ?stop
  case assign =>
    intro l pre q W K hI hK
    have hK1 := hK { tmps := #[.pointer (some ⟨pb, 0, none⟩), .int .i64 t, .int .i64 0, undef, .pointer (some ⟨w.heap.size, 0, none⟩), undef, .int .i64 0, .int .i64 1, .int .i64 0, .pointer (some ⟨W.heap.size, 0, none⟩), .pointer (some ⟨pb, 0, none⟩), .bool false, .pointer (some ⟨pb, 0, none⟩), .int .i64 t, .int .i64 0, .int .i64 1, .int .i64 0, .int .i64 1, .bool false, .int .i64 1, .bool true, .pointer (some ⟨pb, 0, none⟩), .int .i64 0, .func (.func 137) #[] #[.pointer (some ⟨w1.heap.size, 0, none⟩), .pointer (some ⟨w1.heap.size + 1, 0, none⟩)], .agg q.1.cells.toArray, undef, undef, undef, undef, undef, undef, undef, undef, undef, undef, undef, undef, undef, undef, undef, undef, undef, undef, undef, undef, undef, undef, undef, undef, undef, undef, undef, undef, undef, undef, undef, undef, undef, undef, undef, undef], defers := [] } (W.alloc (.cells q.1.cells.toArray 208))
      (keeps_alloc _ _ _) ((KpR.refl _ _ _).alloc (by have := hI.1.k.size; omega) (by have := hI.2; omega) _) ⟨hI.1.own hbl (B0 := W0.heap.size) (row := none) (by omega) (World.grownBy_alloc _ _ _) (fun k e => by cases e), by have := hI.2; simp; omega⟩ ⟨_, heap_new' _ rfl, rfl⟩
    have HK := Lib.hid hK1
    clear hK hK1 hI
    unfold encI encU
    obtain ⟨⟨⟨s, e, z, tg⟩, b⟩, hq⟩ := q
    simp only [Ru.gate]
    gi_wp2_with fail
    exact HK.out
  case body =>
    rintro l pre q a' W hl hlp hN ⟨b9, h9, rfl⟩ hlt
    have hf9 : Fence.wide.fn 9 := trivial
    have hbk := hN.1.b q.1 q.2
    have hfc := take_any (σp σ t (pre.map (·.1)) q.1.b) (σp_ok hok t _ _) q.1.b t W hbk
    have HF := Lib.hid (CallsIn.inRound l ((callsIn_wide (n := 4)).2 hfc))
    have g4 : W.cell? ⟨b9, 4, none⟩ = some q.1.gate := by simp [World.cell?, h9, Ru.cells]
    have ct := hN.1.bx.cell
    have HN := Lib.hid (And.intro hN (And.intro hbl hnr))
    clear hbk hfc h9 hN hP hR hF hok hbl hnp hnr hP0 hR0 h0
    have HQ := Lib.hid q.2
    obtain ⟨v0, ev⟩ : ∃ v0, Value.bool (fitB (σp σ t (pre.map (·.1)) q.1.b) t) = v0 := ⟨_, rfl⟩
    rw [ev] at HF
    have hm : ∀ W, (method 389 36 (.pointer (some ⟨q.1.b, 0, none⟩)) "Take").run Tryz.prog W = .ok (9, .pointer (some ⟨q.1.b, 0, none⟩)) W := fun _ => by kernel_rfl
    simp only [Ru.gate] at g4
    gi_wp2_with (gi_at_call 9; refine HF.out.mono ?_; rintro e w5 ⟨rfl, hs5⟩; have HS5 := Lib.hid hs5; clear hs5)
    obtain ⟨hN, hbl, hnr⟩ := HN.out
    obtain ⟨s1, s2, s3⟩ := HS5.out
    have hqb := hbl q.1 HQ.out
    have hqr := hnr q.1 HQ.out
    refine ⟨⟨s2.size, fun k ob hB h _ => (s2.block k (Array.getElem?_eq_some_iff.1 h).1 (fun e => by have := Option.some.inj e; omega)).trans h⟩, ⟨s2.size, s2.block rg (by have := hN.1.k.size; omega) (fun e => hqr (Option.some.inj e)), s2.block _ (by have := hN.2; omega) (fun e => by have := Option.some.inj e; omega)⟩, ?_⟩
    show Ts w w5 rs σ t ((pre ++ [q]).map (·.1)) ∧ w1.heap.size + 2 ≤ w5.heap.size
    rw [List.map_append]
    exact ⟨hN.1.step (q := q.1) (v := v0) (e := .returned v0) HQ.out hbl ⟨rfl, s1, s2, s3⟩, by rw [s3]; exact hN.2⟩
  case done =>
    rintro D xs W hD hxs hN1 hDd
    rw [hxs] at hN1
    have hk := hN1.1.k
    have q0 : Pb W pb rg cap al rs.length c := ⟨(hk.block pb hpl hnp).trans hP.h⟩
    have q1 : Rb W rg rs := by obtain ⟨cur, h1, h2⟩ := hR; exact ⟨cur, (hk.block rg hrl hnr).trans h1, h2⟩
    have HK0 := Lib.hid (show Fk W W pb rg cap al rs.length c from ⟨rfl, rfl, rfl, rfl, fun _ _ => rfl, q0.h⟩)
    obtain ⟨p0, p2, p3, p4, pf⟩ := HK0.out.at
    have HN := Lib.hid (And.intro hN1 (And.intro q0 (And.intro q1 (And.intro hDd (And.intro hok (And.intro hbl (And.intro hnp hnr)))))))
    have HD := Lib.hid hD
    clear hN1 hDd hxs hk q0 q1 hP hR hF hok hbl hnp hnr hP0 hR0 h0 hD
    cases al
    · go_wp2_with fail
      go_still_tail 9, (by kernel_rfl)
      change wpList _ _ _ _ _ W.drew
      have HK1 := Lib.hid HK0.out.drew
      clear p0 p2 p3 p4 pf
      generalize W.drew = V1 at HK1 ⊢
      obtain ⟨p0, p2, p3, p4, pf⟩ := HK1.out.at
      go_wp2_with fail
      have HK2 := Lib.hid (HK1.out.set2 (wrap64 (c.1 + 1)))
      clear p0 p2 p3 p4 pf
      generalize V1.setCell ⟨pb, 2, none⟩ (.int .i64 (wrap64 (c.1 + 1))) = V2 at HK2 ⊢
      obtain ⟨p0, p2, p3, p4, pf⟩ := HK2.out.at
      go_still_tail 10, (by kernel_rfl)
      change wpList _ _ _ _ _ V2.drew
      have HK3 := Lib.hid HK2.out.drew
      clear p0 p2 p3 p4 pf
      generalize V2.drew = V3 at HK3 ⊢
      obtain ⟨p0, p2, p3, p4, pf⟩ := HK3.out.at
      go_wp2_with fail
      have HK4 := Lib.hid (HK3.out.set3 (wrap64 (c.2.1 + 1)))
      clear p0 p2 p3 p4 pf
      generalize V3.setCell ⟨pb, 3, none⟩ (.int .i64 (wrap64 (c.2.1 + 1))) = V4 at HK4 ⊢
      go_wp2_with fail
      obtain ⟨hN, q0, q1, hDd, hok, hbl, hnp, hnr⟩ := HN.out
      have hDp : D ≠ pb := by have := HD.out; have := hbel.size; omega
      have hd4 := (HK4.out.blk D hDp).trans hDd
      refine ⟨by simp, .inl ⟨_, _, rfl, run_takeDeferred hd4, ?_⟩⟩
      refine ⟨_, results_tmp rfl _ _ _, rfl, ?_⟩
      have ho : ∀ (o' : Obj) k, k ≠ D → (V4.putObj D o').heap[k]? = V4.heap[k]? := fun o' k hk => World.putObj_heap_other hk
      have hD0 := HD.out
      have hb0 := hbel.size
      refine ⟨⟨_, _, _, _, Pb.mk ((ho _ pb (fun e => hDp e.symm)).trans HK4.out.h)⟩, ?_, fun u hu => ?_, HK4.out.os.trans hN.1.k.os, HK4.out.tape.trans hN.1.k.tape, HK4.out.output.trans hN.1.k.output, ?_, fun k hk hkp hku => ?_⟩
      · obtain ⟨cur, h1, h2⟩ := q1
        have hrp : rg ≠ pb := fun e => by
          have h3 := q0.h
          rw [← e, h1] at h3
          simp at h3
        exact ⟨cur, (ho _ rg (by omega)).trans ((HK4.out.blk rg hrp).trans h1), h2⟩
      · exact (ho _ u.b (by have := hbl u hu; omega)).trans ((HK4.out.blk u.b (fun e => hnp u hu e.symm)).trans (hN.1.b u hu))
      · have := hN.1.k.size
        simp
        rw [HK4.out.size]
        exact this
      · exact (ho _ k (by omega)).trans ((HK4.out.blk k hkp).trans (hN.1.k.block k hk hku))
    · go_wp2_with fail
      go_still_tail 9, (by kernel_rfl)
      change wpList _ _ _ _ _ W.drew
      have HK1 := Lib.hid HK0.out.drew
      clear p0 p2 p3 p4 pf
      generalize W.drew = V1 at HK1 ⊢
      obtain ⟨p0, p2, p3, p4, pf⟩ := HK1.out.at
      go_wp2_with fail
      have HK2 := Lib.hid (HK1.out.set2 (wrap64 (c.1 + 1)))
      clear p0 p2 p3 p4 pf
      generalize V1.setCell ⟨pb, 2, none⟩ (.int .i64 (wrap64 (c.1 + 1))) = V2 at HK2 ⊢
      obtain ⟨p0, p2, p3, p4, pf⟩ := HK2.out.at
      go_still_tail 10, (by kernel_rfl)
      change wpList _ _ _ _ _ V2.drew
      have HK3 := Lib.hid HK2.out.drew
      clear p0 p2 p3 p4 pf
      generalize V2.drew = V3 at HK3 ⊢
      obtain ⟨p0, p2, p3, p4, pf⟩ := HK3.out.at
      go_wp2_with fail
      have HK4 := Lib.hid (HK3.out.set4 (wrap64 (c.2.2.1 + 1)))
      clear p0 p2 p3 p4 pf
      generalize V3.setCell ⟨pb, 4, none⟩ (.int .i64 (wrap64 (c.2.2.1 + 1))) = V4 at HK4 ⊢
      go_wp2_with fail
      obtain ⟨hN, q0, q1, hDd, hok, hbl, hnp, hnr⟩ := HN.out
      have hDp : D ≠ pb := by have := HD.out; have := hbel.size; omega
      have hd4 := (HK4.out.blk D hDp).trans hDd
      refine ⟨by simp, .inl ⟨_, _, rfl, run_takeDeferred hd4, ?_⟩⟩
      refine ⟨_, results_tmp rfl _ _ _, rfl, ?_⟩
      have ho : ∀ (o' : Obj) k, k ≠ D → (V4.putObj D o').heap[k]? = V4.heap[k]? := fun o' k hk => World.putObj_heap_other hk
      have hD0 := HD.out
      have hb0 := hbel.size
      refine ⟨⟨_, _, _, _, Pb.mk ((ho _ pb (fun e => hDp e.symm)).trans HK4.out.h)⟩, ?_, fun u hu => ?_, HK4.out.os.trans hN.1.k.os, HK4.out.tape.trans hN.1.k.tape, HK4.out.output.trans hN.1.k.output, ?_, fun k hk hkp hku => ?_⟩
      · obtain ⟨cur, h1, h2⟩ := q1
        have hrp : rg ≠ pb := fun e => by
          have h3 := q0.h
          rw [← e, h1] at h3
          simp at h3
        exact ⟨cur, (ho _ rg (by omega)).trans ((HK4.out.blk rg hrp).trans h1), h2⟩
      · exact (ho _ u.b (by have := hbl u hu; omega)).trans ((HK4.out.blk u.b (fun e => hnp u hu e.symm)).trans (hN.1.b u hu))
      · have := hN.1.k.size
        simp
        rw [HK4.out.size]
        exact this
      · exact (ho _ k (by omega)).trans ((HK4.out.blk k hkp).trans (hN.1.k.block k hk hku))
  case stop =>
    rintro D c0 pre W hD hp h
    exact h.elim

end Go.Proofs.YtcfhjkmebnmcjaaGreat
