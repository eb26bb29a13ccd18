/- The contracts of the call's steps. -/
import Derived.Test.YtjgdbmkddmjaeaaProg
import Derived.WalkKit
import Derived.WalkLawsBesides
import Derived.RegionTactic
import Derived.BigRegion
import Derived.Deep.QuietTactic
import Derived.BigQuiet
import Derived.Deep.RegionHeld3
import Derived.Deep.DrawnRows
import Derived.Lib.Hide
import Derived.OneCell
import Derived.IntWalk
namespace Go.Proofs.Ytjgdbmkddmjaeaa
open Go.RowKit
set_option linter.unusedVariables false
set_option linter.unusedSimpArgs false
attribute [local go_sem ↓] Go.wp_at_zero Go.wp_at_succ

theorem ret_int {k : IntKind} {a b : Int} (h : a = b) : Ending.returned (.int k a) = .returned (.int k b) := by rw [h]
theorem ret_bool {a b : Bool} (h : a = b) : Ending.returned (.bool a) = .returned (.bool b) := by rw [h]
theorem below_drewN {B : Nat} {a w : World} (h : Below B a w) (n : Nat) : Below B a (w.drewN n) := ⟨h.os, h.tape, h.output, h.size, h.block⟩

/-- How long a timer is held. -/
def hd (n : Int) : Int := max 1 (min n 72057594037927936)
theorem hd_bd (n : Int) : 1 ≤ hd n ∧ hd n ≤ 72057594037927936 := by unfold hd; omega

/-- A call's state. -/
structure St where
  ph : Int
  du : Int
  tr : Int
/-- The timers. -/
structure Tm where
  a : Int
  b : Int
  c : Int

def stV (s : St) : Value := .agg #[.int .i64 s.ph, .int .i64 s.du, .int .i64 s.tr]
def tmV (m : Tm) : Value := .agg #[.int .i64 m.a, .int .i64 m.b, .int .i64 m.c]
def spV (s : St) (what t : Int) (m : Tm) : Value := .agg #[.int .i64 s.ph, .int .i64 s.du, .int .i64 s.tr, .int .i64 what, .int .i64 t, .int .i64 m.a, .int .i64 m.b, .int .i64 m.c]

/-- A slice of numbers that is only read. -/
def Rd (w : World) (A : Option Addr) (zs : List Int) : Prop :=
  zs = [] ∨ ∃ b, A = some ⟨b, 0, none⟩ ∧ b < w.heap.size ∧ ∀ j, j < zs.length → w.cell? ⟨b, j, none⟩ = some (.int .i64 (zs[j]?.getD 0))
theorem Rd.below {w w' : World} {A : Option Addr} {zs : List Int} (h : Rd w A zs) {B : Nat} (hb : Below B w w') (hB : w.heap.size ≤ B) : Rd w' A zs := by
  rcases h with h | ⟨b, h1, h2, h3⟩
  · exact .inl h
  · exact .inr ⟨b, h1, Nat.lt_of_lt_of_le h2 hb.size, fun j hj => (hb.cell (p := ⟨b, j, none⟩) (Nat.lt_of_lt_of_le h2 hB)).trans (h3 j hj)⟩

/-- A next state, and what is done; new blocks, nothing else. -/
def Steps (s : St) (l : List Int) (w : World) (e : Ending) (w' : World) : Prop :=
  ∃ A c, e = .returned (.tuple #[.agg #[.int .i64 s.ph, .int .i64 s.du, .int .i64 s.tr], .slice A l.length c]) ∧ Rd w' A l ∧ (∀ g, A = some g → w.heap.size ≤ g.block) ∧ Below w.heap.size w w'

theorem rd_new (W : World) (zs : List Int) : Rd (W.alloc (.cells (zs.map (Value.int .i64)).toArray 3)) (some ⟨W.heap.size, 0, none⟩) zs := by
  refine .inr ⟨W.heap.size, rfl, by simp, fun j hj => ?_⟩
  rw [World.cell?_alloc_new]
  simp [List.getElem?_eq_getElem hj]
theorem steps_new {W w : World} {s : St} {zs : List Int} {g : Nat} (hg : g = W.heap.size) (hb : Below w.heap.size w W) (hsz : w.heap.size ≤ W.heap.size) :
    Steps s zs w (.returned (.tuple #[stV s, .slice (some ⟨g, 0, none⟩) zs.length zs.length])) (W.alloc (.cells (zs.map (Value.int .i64)).toArray 3)) := by
  subst hg
  exact ⟨_, _, rfl, rd_new W zs, fun g h => by injection h with h; rw [← h]; exact hsz, hb.alloc hsz _⟩
theorem steps_new_drew {W w : World} {s : St} {zs : List Int} {g : Nat} (hg : g = W.heap.size) (hb : Below w.heap.size w W) (hsz : w.heap.size ≤ W.heap.size) :
    Steps s zs w (.returned (.tuple #[stV s, .slice (some ⟨g, 0, none⟩) zs.length zs.length])) (W.alloc (.cells (zs.map (Value.int .i64)).toArray 3)).drew := by
  obtain ⟨A, c, h1, h2, h4, h3⟩ := steps_new (s := s) (zs := zs) hg hb hsz
  exact ⟨A, c, h1, h2, h4, h3.drew⟩
theorem steps_nil {W w : World} {s : St} (hb : Below w.heap.size w W) : Steps s [] w (.returned (.tuple #[stV s, .slice none 0 0])) W := ⟨none, 0, rfl, .inl rfl, fun g h => (by cases h), hb⟩
theorem below2 (w : World) (o o' : Obj) : Below w.heap.size w ((w.alloc o).alloc o') := ((Below.refl _ _).alloc (Nat.le_refl _) o).alloc (by simp) o'

theorem held_any (n : Int) (w : World) : Calls Try.prog 19 #[.int .i64 n] w fun e w' => e = .returned (.int .i64 (hd n)) ∧ w = w' := by
  have hk : ∀ r : Int, r = max 1 (min n 72057594037927936) → Ending.returned (.int .i64 r) = .returned (.int .i64 (hd n)) := fun r h => by rw [h]; rfl
  go_enter Try.func19, Try.ntmps19
  go_wp2
  all_goals
    go_ret
    exact ⟨hk _ (by omega), rfl⟩

/-- Is its timer due? -/
def dueB (s : St) (what t : Int) : Bool := what == 9 && (decide (0 < s.du) && decide (s.du ≤ t))

def spO (s : St) (what t : Int) (m : Tm) : Obj := .cells #[.int .i64 s.ph, .int .i64 s.du, .int .i64 s.tr, .int .i64 what, .int .i64 t, .int .i64 m.a, .int .i64 m.b, .int .i64 m.c] 45

theorem due_any (s : St) (what t : Int) (m : Tm) (w : World) : Calls Try.prog 20 #[spV s what t m] w fun e w' => e = .returned (.bool (dueB s what t)) ∧ w' = w.alloc (spO s what t m) := by
  obtain ⟨ph, du, tr⟩ := s
  obtain ⟨a, b, c⟩ := m
  unfold spV spO
  simp only
  have hk : ∀ r : Bool, r = dueB ⟨ph, du, tr⟩ what t → Ending.returned (.bool r) = .returned (.bool (dueB ⟨ph, du, tr⟩ what t)) := fun r h => by rw [h]
  by_cases h1 : what = 9
  · subst h1
    by_cases h2 : 0 < du
    · go_enter Try.func20, Try.ntmps20
      go_wp2
      go_ret
      exact ⟨hk _ (by simp [dueB, h2]), rfl⟩
    · have h2' : decide (0 < du) = false := by simpa using h2
      go_enter Try.func20, Try.ntmps20
      go_wp2
      go_ret
      exact ⟨hk _ (by unfold dueB; simp only; rw [h2']; rfl), rfl⟩
  · have h3 : (what == 9) = false := by simpa using h1
    go_enter Try.func20, Try.ntmps20
    go_wp2
    go_ret
    exact ⟨hk _ (by simp [dueB, h3]), rfl⟩

theorem due_at {s : St} {what t : Int} {r : Bool} (h : dueB s what t = r) (m : Tm) (w : World) : Calls Try.prog 20 #[spV s what t m] w fun e w' => e = .returned (.bool r) ∧ w' = w.alloc (spO s what t m) := by
  have e := due_any s what t m w
  rwa [h] at e

theorem hangup_any (s : St) (what t : Int) (m : Tm) (w : World) (ht : 0 ≤ t ∧ t ≤ 1152921504606846976) : Calls Try.prog 21 #[spV s what t m] w (Steps ⟨5, t + hd m.c, 1⟩ [4] w) := by
  obtain ⟨ph, du, tr⟩ := s
  obtain ⟨a, b, c⟩ := m
  unfold spV
  simp only
  have hc := hd_bd c
  have hwr : IntKind.i64.wrap (t + hd c) = t + hd c := Go.IntWalk.i64_in _ (by omega)
  go_enter Try.func21, Try.ntmps21
  go_wp2
  go_region_held3 (fun w' => w'.cell? ⟨w.heap.size, 4, none⟩ = some (.int .i64 t) ∧ w'.cell? ⟨w.heap.size, 7, none⟩ = some (.int .i64 c)) (go_keep)
    (first | (go_at_call 19; refine (held_any _ _).mono ?_; rintro e w' ⟨rfl, rfl⟩))
  all_goals go_wp2_with fail
  all_goals (refine bodyPost_ret (v := .tuple #[.agg #[.int .i64 5, .int .i64 (t + hd c), .int .i64 1], .slice (some ⟨w.heap.size + 1 + 1, 0, none⟩) 1 1]) (by simp [results, Try.results21, go_sem]) rfl ?_)
  all_goals exact steps_new_drew (zs := [4]) (by simp) (below2 _ _ _) (by simp; omega)

/-- What a step that was called left, seen from a world ahead of it. -/
theorem bcell {W w1 : World} (hb : Below W.heap.size W w1) : (∀ b o, b < W.heap.size → w1.cell? ⟨b, o, none⟩ = W.cell? ⟨b, o, none⟩) ∧ (∀ b o, b < W.heap.size → w1.frozen? ⟨b, o, none⟩ = W.frozen? ⟨b, o, none⟩) :=
  ⟨fun b o h => hb.cell (p := ⟨b, o, none⟩) h, fun b o h => hb.frozen (p := ⟨b, o, none⟩) h⟩

/-- The same is handed on behind stores into a block of the caller's own. -/
theorem steps_on {w w0 w1 : World} {s : St} {l : List Int} {A : Option Addr} {c b : Nat} {x y z : Value} (hr : Rd w1 A l) (hf : ∀ g, A = some g → w0.heap.size ≤ g.block) (hb : Below w0.heap.size w0 w1) (h0 : Below w.heap.size w w0) (hw : w.heap.size ≤ b) (hlt : b < w0.heap.size) :
    Steps s l w (.returned (.tuple #[stV s, .slice A l.length c])) (((w1.setCell ⟨b, 0, none⟩ x).setCell ⟨b, 1, none⟩ y).setCell ⟨b, 2, none⟩ z) := by
  have hk : ∀ k, k ≠ b → (((w1.setCell ⟨b, 0, none⟩ x).setCell ⟨b, 1, none⟩ y).setCell ⟨b, 2, none⟩ z).heap[k]? = w1.heap[k]? := fun k h => by
    rw [Below.heap_setCell _ _ _ _ h, Below.heap_setCell _ _ _ _ h, Below.heap_setCell _ _ _ _ h]
  have hs : (((w1.setCell ⟨b, 0, none⟩ x).setCell ⟨b, 1, none⟩ y).setCell ⟨b, 2, none⟩ z).heap.size = w1.heap.size := by simp [World.setCell]
  refine ⟨A, c, rfl, ?_, fun g h => Nat.le_trans h0.size (hf g h), ?_⟩
  · rcases hr with hr | ⟨g, rfl, h4, h5⟩
    · exact .inl hr
    · have hg := hf _ rfl
      simp only at hg
      refine .inr ⟨g, rfl, by rw [hs]; exact h4, fun j hj => ?_⟩
      rw [World.cell?_of_block (w := w1) (a := ⟨g, j, none⟩) (hk g (by omega))]
      exact h5 j hj
  · have := h0.trans (hb.mono h0.size)
    exact ⟨this.os, this.tape, this.output, by rw [hs]; exact this.size, fun k hk' => (hk k (by omega)).trans (this.block k hk')⟩

def endsF (s : St) (what t : Int) (m : Tm) : St × List Int := if what = 4 then (⟨0, 0, 0⟩, [5, 7]) else if what = 5 then (⟨0, 0, 0⟩, [7]) else if what = 8 then (⟨5, t + hd m.c, 1⟩, [4]) else (s, [])

theorem ends_any (s : St) (what t : Int) (m : Tm) (w : World) (ht : 0 ≤ t ∧ t ≤ 1152921504606846976) : Calls Try.prog 17 #[spV s what t m] w (Steps (endsF s what t m).1 (endsF s what t m).2 w) := by
  by_cases h4 : what = 4
  · subst h4
    show Calls Try.prog 17 #[spV s 4 t m] w (Steps ⟨0, 0, 0⟩ [5, 7] w)
    unfold spV
    go_enter Try.func17, Try.ntmps17
    go_wp2
    refine bodyPost_ret (v := .tuple #[.agg #[.int .i64 0, .int .i64 0, .int .i64 0], .slice (some ⟨w.heap.size + 1 + 1, 0, none⟩) 2 2]) (by simp [results, Try.results17, go_sem]) rfl ?_
    exact steps_new (zs := [5, 7]) (by simp) (below2 _ _ _) (by simp; omega)
  · by_cases h5 : what = 5
    · subst h5
      show Calls Try.prog 17 #[spV s 5 t m] w (Steps ⟨0, 0, 0⟩ [7] w)
      unfold spV
      go_enter Try.func17, Try.ntmps17
      go_wp2
      refine bodyPost_ret (v := .tuple #[.agg #[.int .i64 0, .int .i64 0, .int .i64 0], .slice (some ⟨w.heap.size + 1 + 1, 0, none⟩) 1 1]) (by simp [results, Try.results17, go_sem]) rfl ?_
      exact steps_new (zs := [7]) (by simp) (below2 _ _ _) (by simp; omega)
    · by_cases h8 : what = 8
      · subst h8
        show Calls Try.prog 17 #[spV s 8 t m] w (Steps ⟨5, t + hd m.c, 1⟩ [4] w)
        have hk := fun W => hangup_any s 8 t m W ht
        unfold spV at hk ⊢
        go_enter Try.func17, Try.ntmps17
        go_wp2_with (go_at_call 21; refine (hk _).mono ?_; rintro e w1 ⟨A, c, rfl, hr, hfr, hb⟩; have HB := Lib.hid (And.intro hfr hb); clear hfr; obtain ⟨hc, hf⟩ := bcell hb; have hz : w.heap.size + 1 < w1.heap.size := by have := hb.size; simp at this; omega)
        refine bodyPost_ret (v := .tuple #[.agg #[.int .i64 5, .int .i64 (t + hd m.c), .int .i64 1], .slice A 1 c]) (by simp [results, Try.results17, go_sem, hc, hz]) rfl ?_
        exact steps_on (s := ⟨5, t + hd m.c, 1⟩) (l := [4]) hr HB.out.1 HB.out.2 (below2 _ _ _) (by omega) (by simp)
      · have g4 : (what == 4) = false := by simpa using h4
        have g5 : (what == 5) = false := by simpa using h5
        have g8 : (what == 8) = false := by simpa using h8
        have hF : endsF s what t m = (s, []) := by unfold endsF; rw [if_neg h4, if_neg h5, if_neg h8]
        rw [hF]
        clear hF h4 h5 h8
        unfold spV
        go_enter Try.func17, Try.ntmps17
        go_wp2
        refine bodyPost_ret (v := .tuple #[.agg #[.int .i64 s.ph, .int .i64 s.du, .int .i64 s.tr], .slice none 0 0]) (by simp [results, Try.results17, go_sem]) rfl ?_
        exact steps_nil (below2 _ _ _)

end Go.Proofs.Ytjgdbmkddmjaeaa
