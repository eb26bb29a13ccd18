/- The contracts of the bucket's functions. -/
import Derived.Test.YtcfhjkmebnmcjaaGreatProg
import Derived.WalkKit
import Derived.WalkLawsBesides
import Derived.RegionTactic
import Derived.BigRegion
import Derived.Deep.QuietTactic
import Derived.BigQuiet
import Derived.StillTailTactics
import Derived.Lib.Hide
import Derived.OneCell
namespace Go.Proofs.YtcfhjkmebnmcjaaGreat
open Go.RowKit
set_option linter.unusedVariables false
set_option linter.unusedSimpArgs false

/-- A value held from lo to hi. -/
def hold (x lo hi : Int) : Int := max lo (min x hi)

theorem ret_int {k : IntKind} {a b : Int} (h : a = b) : Ending.returned (.int k a) = .returned (.int k b) := by rw [h]

theorem within_any (x lo hi : Int) (w : World) : Calls Tryz.prog 24 #[.int .i64 x, .int .i64 lo, .int .i64 hi] w fun e w' => e = .returned (.int .i64 (hold x lo hi)) ∧ w' = w := by
  go_enter Tryz.func24, Tryz.ntmps24
  go_wp2
  all_goals
    go_ret
    exact ⟨ret_int (by unfold hold; omega), rfl⟩

/-- A bucket's four fields. -/
structure Bk where
  s : Int
  e : Int
  n : Int
  a : Bool

/-- What the bucket's numbers keep to. -/
structure Bk.Ok (x : Bk) : Prop where
  s1 : 1 ≤ x.s
  s2 : x.s ≤ 1152921504606846976
  e0 : 0 ≤ x.e
  e2 : x.e ≤ 1152921504606846976
  n0 : 0 ≤ x.n
  n2 : x.n ≤ 3458764513820540928
  an : x.a = false → x.n = 0

def cellsB (x : Bk) : Array Value := #[.int .i64 x.s, .int .i64 x.e, .int .i64 x.n, .bool x.a]

def HasB (w : World) (b : Nat) (x : Bk) : Prop := w.heap[b]? = some (.cells (cellsB x) 82 (0, 0))

theorem HasB.c0 {w : World} {b : Nat} {x : Bk} (h : HasB w b x) : w.cell? ⟨b, 0, none⟩ = some (.int .i64 x.s) := by unfold HasB at h; simp [World.cell?, h, cellsB]
theorem HasB.c1 {w : World} {b : Nat} {x : Bk} (h : HasB w b x) : w.cell? ⟨b, 1, none⟩ = some (.int .i64 x.e) := by unfold HasB at h; simp [World.cell?, h, cellsB]
theorem HasB.c2 {w : World} {b : Nat} {x : Bk} (h : HasB w b x) : w.cell? ⟨b, 2, none⟩ = some (.int .i64 x.n) := by unfold HasB at h; simp [World.cell?, h, cellsB]
theorem HasB.c3 {w : World} {b : Nat} {x : Bk} (h : HasB w b x) : w.cell? ⟨b, 3, none⟩ = some (.bool x.a) := by unfold HasB at h; simp [World.cell?, h, cellsB]
theorem HasB.fr {w : World} {b : Nat} {x : Bk} (h : HasB w b x) (o : Nat) : w.frozen? ⟨b, o, none⟩ = false := by unfold HasB at h; simp [World.frozen?, h]
theorem HasB.lt {w : World} {b : Nat} {x : Bk} (h : HasB w b x) : b < w.heap.size := lt_of_block h

/-- Does a cell at t fit? -/
def fitB (x : Bk) (t : Int) : Bool := !x.a || decide (x.n - x.e ≤ hold t 0 1152921504606846976)

theorem ret_bool {a b : Bool} (h : a = b) : Ending.returned (.bool a) = .returned (.bool b) := by rw [h]

theorem fits_any (x : Bk) (hx : x.Ok) (b : Nat) (t : Int) (w : World) (hb : HasB w b x) : Calls Tryz.prog 25 #[.pointer (some ⟨b, 0, none⟩), .int .i64 t] w fun e w' => e = .returned (.bool (fitB x t)) ∧ ∃ n, w' = w.drewN n := by
  obtain ⟨s, e, n, a⟩ := x
  obtain ⟨h1, h2, h3, h4, h5, h6, h7⟩ := hx
  simp only at h1 h2 h3 h4 h5 h6
  clear h7
  have c1 := hb.c1
  have c2 := hb.c2
  have c3 := hb.c3
  simp only at c1 c2 c3
  clear hb
  cases a
  · go_enter Tryz.func25, Tryz.ntmps25
    go_wp2
    go_quiet ((go_at_call 24; exact Calls.quiet_of_same (within_any _ _ _ _)))
    go_wp2
    go_ret
    exact ⟨rfl, _, rfl⟩
  · have hh : 0 ≤ hold t 0 1152921504606846976 ∧ hold t 0 1152921504606846976 ≤ 1152921504606846976 := by unfold hold; omega
    have hk : fitB ⟨s, e, n, true⟩ t = decide (n - e ≤ hold t 0 1152921504606846976) := rfl
    rw [hk]
    clear hk
    go_enter Tryz.func25, Tryz.ntmps25
    go_wp2
    go_quiet ((go_at_call 24; exact Calls.quiet_of_same (within_any _ _ _ _)))
    go_wp2
    go_ret
    exact ⟨rfl, _, rfl⟩

/-- A pointer to a new block, which is a bucket; all else is as it was. -/
def NewB (x : Bk) (w : World) (e : Ending) (w' : World) : Prop := ∃ b, e = .returned (.pointer (some ⟨b, 0, none⟩)) ∧ w.heap.size ≤ b ∧ HasB w' b x ∧ w.grownBy w' none

theorem NewB.mk (x : Bk) (w : World) : NewB x w (.returned (.pointer (some ⟨w.heap.size, 0, none⟩))) (w.alloc (.cells #[.int .i64 x.s, .int .i64 x.e, .int .i64 x.n, .bool x.a] 82)) :=
  ⟨_, rfl, Nat.le_refl _, heap_alloc_new w _, World.grownBy_alloc w _ none⟩

theorem hold_ok (step early : Int) : (Bk.mk (hold step 1 1152921504606846976) (hold early 0 1152921504606846976) 0 false).Ok := by
  constructor <;> simp only [hold] <;> first | omega | (intro; trivial)

theorem new_any (step early : Int) (w : World) : Calls Tryz.prog 8 #[.int .i64 step, .int .i64 early] w (NewB ⟨hold step 1 1152921504606846976, hold early 0 1152921504606846976, 0, false⟩ w) := by
  go_enter Tryz.func8, Tryz.ntmps8
  go_wp2_with (go_at_call 24; refine (within_any _ _ _ _).mono ?_; rintro e w' ⟨rfl, rfl⟩)
  go_ret
  exact NewB.mk _ _ 

/-- The bucket behind a cell that is taken at t. -/
def tookB (x : Bk) (t : Int) : Bk := ⟨x.s, x.e, max x.n (hold t 0 1152921504606846976) + x.s, true⟩
/-- The bucket behind a cell that comes at t. -/
def takeB (x : Bk) (t : Int) : Bk := if fitB x t then tookB x t else x

theorem takeB_ok {x : Bk} (hx : x.Ok) (t : Int) : (takeB x t).Ok := by
  obtain ⟨s, e, n, a⟩ := x
  obtain ⟨h1, h2, h3, h4, h5, h6, h7⟩ := hx
  simp only at h1 h2 h3 h4 h5 h6
  unfold takeB
  by_cases hf : fitB ⟨s, e, n, a⟩ t = true
  · rw [if_pos hf]
    unfold tookB
    cases a
    · obtain rfl : n = 0 := h7 rfl
      constructor <;> simp only [hold] <;> first | omega | (intro h; cases h)
    · simp only [fitB, Bool.not_true, Bool.false_or, hold] at hf
      have hf := of_decide_eq_true hf
      constructor <;> simp only [hold] <;> first | omega | (intro h; cases h)
  · rw [if_neg hf]
    exact ⟨h1, h2, h3, h4, h5, h6, h7⟩

theorem heap_set {w : World} {b : Nat} {c : Array Value} {T : TypeId} (h : w.heap[b]? = some (.cells c T (0, 0))) (o : Nat) (v : Value) : (w.setCell ⟨b, o, none⟩ v).heap[b]? = some (.cells (c.setIfInBounds o v) T (0, 0)) := by
  simp only [World.setCell, Array.getElem?_modify, ↓reduceIte, h, Option.map_some]
  simp

/-- A store into a bucket: it is this one then; all else is as it was. -/
def SetsB (b : Nat) (y : Bk) (v : Value) (w : World) (e : Ending) (w' : World) : Prop := e = .returned v ∧ HasB w' b y ∧ w.grownBy w' (some b) ∧ w'.heap.size = w.heap.size

theorem SetsB.two {w w2 : World} {b nf : Nat} {x : Bk} {n' : Int} {v : Value} (hb : HasB w b x) (h2 : (w.drewN nf).drew = w2) :
    SetsB b ⟨x.s, x.e, n', true⟩ v w (.returned v) ((w2.setCell ⟨b, 2, none⟩ (.int .i64 n')).setCell ⟨b, 3, none⟩ (.bool true)) := by
  subst h2
  have hb' : HasB (w.drewN nf).drew b x := hb
  refine ⟨rfl, ?_, ?_, ?_⟩
  · unfold HasB at hb' ⊢
    rw [heap_set (heap_set hb' _ _) _ _]
    rfl
  · exact ⟨rfl, rfl, rfl, by simp [World.setCell, World.drewN, World.drew], fun k hk hne => by
      rw [Below.heap_setCell _ _ _ _ (fun e => hne (by rw [e])), Below.heap_setCell _ _ _ _ (fun e => hne (by rw [e]))]; rfl⟩
  · simp [World.setCell, World.drewN, World.drew]

set_option maxRecDepth 100000 in
theorem take_yes (x : Bk) (hx : x.Ok) (b : Nat) (t : Int) (w : World) (hb : HasB w b x) (hf : fitB x t = true) : Calls Tryz.prog 9 #[.pointer (some ⟨b, 0, none⟩), .int .i64 t] w (SetsB b (tookB x t) (.bool true) w) := by
  have H := Lib.hid hf
  clear hf
  have c0 := hb.c0
  have c2 := hb.c2
  have c3 := hb.c3
  have f2 := hb.fr 2
  have f3 := hb.fr 3
  have hh : 0 ≤ hold t 0 1152921504606846976 ∧ hold t 0 1152921504606846976 ≤ 1152921504606846976 := by unfold hold; omega
  have HH := Lib.hid hh
  have HX := Lib.hid hx
  have hk : ∀ w', HasB w' b x → Calls Tryz.prog 25 #[.pointer (some ⟨b, 0, none⟩), .int .i64 t] w' fun e w'' => e = .returned (.bool true) ∧ ∃ n, w'' = w'.drewN n := fun w' h => by
    have := fits_any x hx b t w' h
    rw [H.out] at this
    exact this
  clear hh hx
  go_enter Tryz.func9, Tryz.ntmps9
  go_wp2_with (go_at_call 25; refine (hk _ hb).mono ?_; rintro e w' ⟨rfl, nf, rfl⟩)
  refine wp_region_still_tail 15 (by kernel_rfl) (by kernel_rfl) ?_
  simp only [List.take_succ_cons, List.take_zero, List.drop_succ_cons, List.drop_zero]
  obtain ⟨w2, hw2⟩ : ∃ w2, (w.drewN nf).drew = w2 := ⟨_, rfl⟩
  change wpStill _ _ (w.drewN nf).drew (fun a' => wpList _ _ _ _ a' (w.drewN nf).drew) _ _
  rw [hw2]
  have d0 : w2.cell? ⟨b, 0, none⟩ = some (.int .i64 x.s) := by rw [← hw2]; exact c0
  have d2 : w2.cell? ⟨b, 2, none⟩ = some (.int .i64 x.n) := by rw [← hw2]; exact c2
  have d3 : w2.cell? ⟨b, 3, none⟩ = some (.bool x.a) := by rw [← hw2]; exact c3
  have g2 : w2.frozen? ⟨b, 2, none⟩ = false := by rw [← hw2]; exact f2
  have g3 : w2.frozen? ⟨b, 3, none⟩ = false := by rw [← hw2]; exact f3
  have HW := Lib.hid hw2
  clear hw2 c0 c2 c3 f2 f3 hk
  repeat still_step
  still_call (within_any _ _ _ _)
  repeat still_step
  refine wpStill_nil ?_
  go_wp2
  all_goals
    go_ret
    have e := SetsB.two (n' := max x.n (hold t 0 1152921504606846976) + x.s) (v := .bool true) hb HW.out
    have h1 := HH.out
    have h2 := HX.out.s1
    have h3 := HX.out.s2
    have h4 := HX.out.n0
    have h5 := HX.out.n2
    rw [show wrap64 _ = max x.n (hold t 0 1152921504606846976) + x.s by unfold wrap64; omega]
    exact e

theorem take_no (x : Bk) (hx : x.Ok) (b : Nat) (t : Int) (w : World) (hb : HasB w b x) (hf : fitB x t = false) : Calls Tryz.prog 9 #[.pointer (some ⟨b, 0, none⟩), .int .i64 t] w fun e w' => e = .returned (.bool false) ∧ ∃ n, w' = w.drewN n := by
  have H := Lib.hid hf
  clear hf
  have hk : ∀ w', HasB w' b x → Calls Tryz.prog 25 #[.pointer (some ⟨b, 0, none⟩), .int .i64 t] w' fun e w'' => e = .returned (.bool false) ∧ ∃ n, w'' = w'.drewN n := fun w' h => by
    have := fits_any x hx b t w' h
    rw [H.out] at this
    exact this
  go_enter Tryz.func9, Tryz.ntmps9
  go_wp2_with (go_at_call 25; refine (hk _ hb).mono ?_; rintro e w' ⟨rfl, nf, rfl⟩)
  go_ret
  exact ⟨rfl, _, rfl⟩

theorem take_any (x : Bk) (hx : x.Ok) (b : Nat) (t : Int) (w : World) (hb : HasB w b x) : Calls Tryz.prog 9 #[.pointer (some ⟨b, 0, none⟩), .int .i64 t] w (SetsB b (takeB x t) (.bool (fitB x t)) w) := by
  by_cases hf : fitB x t = true
  · have e := take_yes x hx b t w hb hf
    unfold takeB
    rw [if_pos hf, hf]
    exact e
  · have hf' : fitB x t = false := by simpa using hf
    unfold takeB
    rw [if_neg hf, hf']
    refine (take_no x hx b t w hb hf').mono ?_
    rintro e w' ⟨rfl, n, rfl⟩
    exact ⟨rfl, hb, ⟨rfl, rfl, rfl, Nat.le_refl _, fun _ _ _ => rfl⟩, rfl⟩

end Go.Proofs.YtcfhjkmebnmcjaaGreat
