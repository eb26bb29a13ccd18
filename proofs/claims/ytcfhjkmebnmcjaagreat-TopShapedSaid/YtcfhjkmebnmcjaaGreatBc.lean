/- A contract's rules. -/
import Derived.Test.YtcfhjkmebnmcjaaGreatBb
import Derived.Laws.AppendOwn
import Derived.Deep.AppendLies
import Derived.OwnWalk
namespace Go.Proofs.YtcfhjkmebnmcjaaGreat
open Go.RowKit
set_option linter.unusedVariables false
set_option linter.unusedSimpArgs false
attribute [local go_sem] Oper.semAt_some

structure Rl where
  s : Int
  e : Int
  z : Bool
  t : Bool
def Rl.cells (r : Rl) : List Value := [.int .i64 r.s, .int .i64 r.e, .bool r.z, .bool r.t]
def rulesOf (c : Ct) : List Rl := ⟨c.p, c.e, false, false⟩ ::
  (if c.k = 2 then [⟨c.w, c.b + c.e, false, false⟩] else if c.k = 3 then [⟨c.w, c.b + c.e, true, false⟩] else if c.k = 4 then [⟨c.w, c.b + c.e, true, true⟩] else [])

theorem info204 : (Tryz.prog.info? 204).map (fun i => (i.zero, i.size, i.bytes)) = some (some (.agg #[.int .i64 0, .int .i64 0, .bool false, .bool false]), 4, 24) := by kernel_rfl

theorem row_one (W : World) {B : Nat} (cs : Array Value) (e : TypeId) {size : Nat} (hs : cs.size = size) (hB : B ≤ W.heap.size) : (W.alloc (.cells cs e)).ownsRow B e size (.slice (some ⟨W.heap.size, 0, none⟩) 1 1) 1 cs.toList :=
  ⟨by simp [hs], .inr ⟨W.heap.size, 1, cs, rfl, hB, heap_alloc_new W _, by omega, by unfold maxLen; omega, by omega, List.take_of_length_le (by simp [hs])⟩⟩
theorem own_set {W : World} {B : Nat} {e : TypeId} {size n : Nat} {v : Value} {xs : List Value} (h : W.ownsRow B e size v n xs) (b o : Nat) (u : Value) (hne : v.ownBlock ≠ some b) : (W.setCell ⟨b, o, none⟩ u).ownsRow B e size v n xs :=
  h.kept ⟨rfl, rfl, rfl, by simp [World.setCell], fun k hk hn => Below.heap_setCell _ _ _ _ (fun e => hn (by rw [e]))⟩ (.inr hne)

set_option maxRecDepth 100000 in
set_option maxHeartbeats 4000000 in
theorem rules_any {c : Ct} (h : c.Ok) (w : World) : Calls Tryz.prog 95 #[c.v] w fun e w' => ∃ v, e = .returned v ∧ w'.ownsRow w.heap.size 204 4 v (rulesOf c).length ((rulesOf c).flatMap Rl.cells) ∧ Below w.heap.size w w' := by
  have hr := fun w => right_ok h w
  have HR := Lib.hid hr
  have HO := Lib.hid h
  obtain ⟨i0, hi, hz0, hz1, hz2⟩ := info_parts info204
  have HI := Lib.hid (And.intro hi (And.intro hz0 (And.intro hz1 hz2)))
  obtain ⟨k, p, e, wh, b, l⟩ := c
  have HB0 := Lib.hid ((Below.refl w.heap.size w).alloc (Nat.le_refl _) (.cells #[.int .i64 k, .int .i64 p, .int .i64 e, .int .i64 wh, .int .i64 b, .int .i64 l] 23))
  unfold Ct.Ok at h
  simp only at h
  obtain ⟨h1, h2, h3, h4, h5⟩ := h
  clear hr hi hz0 hz1 hz2
  rcases h5 with ⟨hk, h6, h7, h8, h9, rfl⟩ | ⟨rfl, rfl, rfl, hl⟩ | ⟨hk, rfl, rfl, rfl⟩
  · have HK := Lib.hid hk
    clear hk
    rcases HK.out with rfl | rfl | rfl
    · go_enter Tryz.func95, Tryz.ntmps95
      go_wp2_with fail
      refine (HR.out _).mono ?_
      rintro e' w1 ⟨rfl, hb1⟩
      have HB1 := Lib.hid (HB0.out.trans (hb1.mono (by simp)))
      have hsz : w.heap.size + 1 ≤ w1.heap.size := by have := hb1.size; simpa using this
      have hlt : w.heap.size < w1.heap.size := hsz
      obtain ⟨hc, hf⟩ := bcell hb1
      clear hb1
      obtain ⟨hi, hz0, hz1, hz2⟩ := HI.out
      have R1 := row_one (B := w.heap.size) (size := 4) w1 #[.int .i64 p, .int .i64 e, .bool false, .bool false] 204 rfl (by omega)
      have HR1 := Lib.hid R1
      clear R1
      go_wp2_with (at_builtin; refine wpList_append_own _ rfl _ _ 201 rfl w.heap.size 204 i0 (.agg #[.int .i64 0, .int .i64 0, .bool false, .bool false]) 4 24 Tryz.underlying201 hi hz0 hz1 hz2 rfl (by decide) _ 1 _ rfl (by first | exact (HR1.out.alloc _).alloc _ | exact (own_set (HR1.out.alloc _) _ _ _ (by simp [Value.ownBlock])).alloc _ | exact (own_set (own_set (HR1.out.alloc _) _ _ _ (by simp [Value.ownBlock])) _ _ _ (by simp [Value.ownBlock])).alloc _) ⟨w1.heap.size + 1 + 1, 0, none⟩ 1 1 (Rl.cells ⟨wh, b + e, false, false⟩) rfl rfl (World.news_of_block (t := 204) (fr := (0, 0)) (cs := (Rl.cells ⟨wh, b + e, false, false⟩).toArray) (heap_new' _ (by simp))) (by simp [Rl.cells, Value.oneCell']) (by unfold maxLen; omega) (by omega) (by simp; omega) ?_; intro v' w9 hown' hgrow _)
      have hBl := Below.grown (a := w) (by first | exact ((HB1.out.alloc (by omega) _).alloc (by simp; omega) _).alloc (by simp; omega) _ | exact (((HB1.out.alloc (by omega) _).alloc (by simp; omega) _).setCell (by simp; omega) _).alloc (by simp; omega) _ | exact ((((HB1.out.alloc (by omega) _).alloc (by simp; omega) _).setCell (by simp; omega) _).setCell (by simp; omega) _).alloc (by simp; omega) _) hgrow (by simp; omega) (fun k hk => by cases hk; exact Nat.le_of_lt hlt)
      go_ret
      exact ⟨_, rfl, by simpa [rulesOf, Rl.cells] using hown', hBl⟩
    · go_enter Tryz.func95, Tryz.ntmps95
      go_wp2_with fail
      refine (HR.out _).mono ?_
      rintro e' w1 ⟨rfl, hb1⟩
      have HB1 := Lib.hid (HB0.out.trans (hb1.mono (by simp)))
      have hsz : w.heap.size + 1 ≤ w1.heap.size := by have := hb1.size; simpa using this
      have hlt : w.heap.size < w1.heap.size := hsz
      obtain ⟨hc, hf⟩ := bcell hb1
      clear hb1
      obtain ⟨hi, hz0, hz1, hz2⟩ := HI.out
      have R1 := row_one (B := w.heap.size) (size := 4) w1 #[.int .i64 p, .int .i64 e, .bool false, .bool false] 204 rfl (by omega)
      have HR1 := Lib.hid R1
      clear R1
      go_wp2_with (at_builtin; refine wpList_append_own _ rfl _ _ 201 rfl w.heap.size 204 i0 (.agg #[.int .i64 0, .int .i64 0, .bool false, .bool false]) 4 24 Tryz.underlying201 hi hz0 hz1 hz2 rfl (by decide) _ 1 _ rfl (by first | exact (HR1.out.alloc _).alloc _ | exact (own_set (HR1.out.alloc _) _ _ _ (by simp [Value.ownBlock])).alloc _ | exact (own_set (own_set (HR1.out.alloc _) _ _ _ (by simp [Value.ownBlock])) _ _ _ (by simp [Value.ownBlock])).alloc _) ⟨w1.heap.size + 1 + 1, 0, none⟩ 1 1 (Rl.cells ⟨wh, b + e, true, false⟩) rfl rfl (World.news_of_block (t := 204) (fr := (0, 0)) (cs := (Rl.cells ⟨wh, b + e, true, false⟩).toArray) (heap_new' _ (by simp))) (by simp [Rl.cells, Value.oneCell']) (by unfold maxLen; omega) (by omega) (by simp; omega) ?_; intro v' w9 hown' hgrow _)
      have hBl := Below.grown (a := w) (by first | exact ((HB1.out.alloc (by omega) _).alloc (by simp; omega) _).alloc (by simp; omega) _ | exact (((HB1.out.alloc (by omega) _).alloc (by simp; omega) _).setCell (by simp; omega) _).alloc (by simp; omega) _ | exact ((((HB1.out.alloc (by omega) _).alloc (by simp; omega) _).setCell (by simp; omega) _).setCell (by simp; omega) _).alloc (by simp; omega) _) hgrow (by simp; omega) (fun k hk => by cases hk; exact Nat.le_of_lt hlt)
      go_ret
      exact ⟨_, rfl, by simpa [rulesOf, Rl.cells] using hown', hBl⟩
    · go_enter Tryz.func95, Tryz.ntmps95
      go_wp2_with fail
      refine (HR.out _).mono ?_
      rintro e' w1 ⟨rfl, hb1⟩
      have HB1 := Lib.hid (HB0.out.trans (hb1.mono (by simp)))
      have hsz : w.heap.size + 1 ≤ w1.heap.size := by have := hb1.size; simpa using this
      have hlt : w.heap.size < w1.heap.size := hsz
      obtain ⟨hc, hf⟩ := bcell hb1
      clear hb1
      obtain ⟨hi, hz0, hz1, hz2⟩ := HI.out
      have R1 := row_one (B := w.heap.size) (size := 4) w1 #[.int .i64 p, .int .i64 e, .bool false, .bool false] 204 rfl (by omega)
      have HR1 := Lib.hid R1
      clear R1
      go_wp2_with (at_builtin; refine wpList_append_own _ rfl _ _ 201 rfl w.heap.size 204 i0 (.agg #[.int .i64 0, .int .i64 0, .bool false, .bool false]) 4 24 Tryz.underlying201 hi hz0 hz1 hz2 rfl (by decide) _ 1 _ rfl (by first | exact (HR1.out.alloc _).alloc _ | exact (own_set (HR1.out.alloc _) _ _ _ (by simp [Value.ownBlock])).alloc _ | exact (own_set (own_set (HR1.out.alloc _) _ _ _ (by simp [Value.ownBlock])) _ _ _ (by simp [Value.ownBlock])).alloc _) ⟨w1.heap.size + 1 + 1, 0, none⟩ 1 1 (Rl.cells ⟨wh, b + e, true, true⟩) rfl rfl (World.news_of_block (t := 204) (fr := (0, 0)) (cs := (Rl.cells ⟨wh, b + e, true, true⟩).toArray) (heap_new' _ (by simp))) (by simp [Rl.cells, Value.oneCell']) (by unfold maxLen; omega) (by omega) (by simp; omega) ?_; intro v' w9 hown' hgrow _)
      have hBl := Below.grown (a := w) (by first | exact ((HB1.out.alloc (by omega) _).alloc (by simp; omega) _).alloc (by simp; omega) _ | exact (((HB1.out.alloc (by omega) _).alloc (by simp; omega) _).setCell (by simp; omega) _).alloc (by simp; omega) _ | exact ((((HB1.out.alloc (by omega) _).alloc (by simp; omega) _).setCell (by simp; omega) _).setCell (by simp; omega) _).alloc (by simp; omega) _) hgrow (by simp; omega) (fun k hk => by cases hk; exact Nat.le_of_lt hlt)
      go_ret
      exact ⟨_, rfl, by simpa [rulesOf, Rl.cells] using hown', hBl⟩
  · have h0 : 0 + e = e := by omega
    go_enter Tryz.func95, Tryz.ntmps95
    go_wp2_with fail
    refine (HR.out _).mono ?_
    rintro e' w1 ⟨rfl, hb1⟩
    have HB1 := Lib.hid (HB0.out.trans (hb1.mono (by simp)))
    have hsz : w.heap.size + 1 ≤ w1.heap.size := by have := hb1.size; simpa using this
    have hlt : w.heap.size < w1.heap.size := hsz
    obtain ⟨hc, hf⟩ := bcell hb1
    clear hb1
    have R1 := row_one (B := w.heap.size) (size := 4) w1 #[.int .i64 p, .int .i64 e, .bool false, .bool false] 204 rfl (by omega)
    have HR1 := Lib.hid R1
    clear R1
    go_wp2_with fail
    go_ret
    exact ⟨_, rfl, by simpa [rulesOf, Rl.cells] using HR1.out.alloc _, (HB1.out.alloc (by omega) _).alloc (by simp; omega) _⟩
  · have h0 : 0 + e = e := by omega
    rcases hk with rfl | rfl | rfl
    all_goals
      go_enter Tryz.func95, Tryz.ntmps95
      go_wp2_with fail
      refine (HR.out _).mono ?_
      rintro e' w1 ⟨rfl, hb1⟩
      have HB1 := Lib.hid (HB0.out.trans (hb1.mono (by simp)))
      have hsz : w.heap.size + 1 ≤ w1.heap.size := by have := hb1.size; simpa using this
      have hlt : w.heap.size < w1.heap.size := hsz
      obtain ⟨hc, hf⟩ := bcell hb1
      clear hb1
      have R1 := row_one (B := w.heap.size) (size := 4) w1 #[.int .i64 p, .int .i64 e, .bool false, .bool false] 204 rfl (by omega)
      have HR1 := Lib.hid R1
      clear R1
      go_wp2_with fail
      go_ret
      exact ⟨_, rfl, by simpa [rulesOf, Rl.cells] using HR1.out.alloc _, (HB1.out.alloc (by omega) _).alloc (by simp; omega) _⟩

end Go.Proofs.YtcfhjkmebnmcjaaGreat
