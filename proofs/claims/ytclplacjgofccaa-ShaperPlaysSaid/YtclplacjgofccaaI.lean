/- A shaper's state, whole: the contracts in its terms; awake. -/
import Derived.Test.YtclplacjgofccaaH
namespace Go.Proofs.Ytclplacjgofccaa
open Go.RowKit Go.Sort Go.Shelf Go.Lib
set_option linter.unusedVariables false
set_option linter.unusedSimpArgs false
attribute [local go_sem ↓] Go.wp_at_zero Go.wp_at_succ

/-- At block p lies a shaper with these numbers; its row of changes lies from B on. -/
def St (W : World) (B p : Nat) (x : Sh) : Prop := ∃ v, Good W B p x v ∧ OkSh x ∧ B ≤ W.heap.size
theorem St.below {W W' : World} {B p : Nat} {x : Sh} (h : St W B p x) (hb : Below W.heap.size W W') : St W' B p x := by
  obtain ⟨v, h1, h2, h3⟩ := h
  exact ⟨v, h1.below hb, h2, Nat.le_trans h3 hb.size⟩
theorem St.base {W : World} {B B' p : Nat} {x : Sh} (h : St W B' p x) (hb : B ≤ B') : St W B p x := by
  obtain ⟨v, h1, h2, h3⟩ := h
  exact ⟨v, h1.mono hb, h2, Nat.le_trans hb h3⟩
theorem St.lt {W : World} {B p : Nat} {x : Sh} (h : St W B p x) : p < W.heap.size := by
  obtain ⟨v, h1, h2, h3⟩ := h
  exact h1.sh.lt
theorem St.ok {W : World} {B p : Nat} {x : Sh} (h : St W B p x) : OkSh x := by
  obtain ⟨v, h1, h2, h3⟩ := h
  exact h2
theorem St.l8 {W : World} {B p : Nat} {x : Sh} (h : St W B p x) : x.L.length ≤ 8 := by
  obtain ⟨v, h1, h2, h3⟩ := h
  exact h1.l8
/-- What is done to another shaper leaves this one. -/
theorem St.kept {W W' : World} {B p q : Nat} {x y : Sh} {B' : Nat} (h : St W B q y) (hp : St W B' p x) (hk : Kept p W W') (hne : q ≠ p) : St W' B q y := by
  obtain ⟨v, h1, h2, h3⟩ := h
  obtain ⟨u, g1, _, _⟩ := hp
  refine ⟨v, ⟨(hk.block q h1.sh.lt hne).trans h1.sh, ?_, h1.l8, h1.at0⟩, h2, Nat.le_trans h3 hk.size⟩
  have hap := h1.row.apart g1.sh (by decide)
  rcases h1.row with h | ⟨k1, k2, k3⟩
  · exact .inl h
  · refine .inr ⟨k1, k2, ?_⟩
    rcases k3 with k3 | ⟨g, cap, cur, k3, k4, k5, k6⟩
    · exact .inl k3
    · refine .inr ⟨g, cap, cur, k3, k4, ?_, k6⟩
      rw [hk.block g (lt_of_block k5) (fun e => hap (by rw [k3, e]; rfl))]
      exact k5
theorem below_kept {B p : Nat} {a w w' : World} (h : Below B a w) (hk : Kept p w w') (hB : B ≤ p) (hw : B ≤ w.heap.size) : Below B a w' :=
  ⟨hk.os.trans h.os, hk.tape.trans h.tape, hk.output.trans h.output, Nat.le_trans h.size hk.size, fun k hkB => (hk.block k (Nat.lt_of_lt_of_le hkB hw) (by omega)).trans (h.block k hkB)⟩

def setR (t : Int) (x : Sh) : Int := if 8 ≤ (comeSh t x).L.length then 9 else 0

theorem set_st {W : World} {B p : Nat} {x : Sh} (t s : Int) (h : St W B p x) :
    Calls Try.prog 12 #[.pointer (some ⟨p, 0, none⟩), .int .i64 t, .int .i64 s] W fun e w' => e = .returned (.int .i64 (setR t x)) ∧ St w' B p (setSh t s x) ∧ Kept p W w' := by
  obtain ⟨v, h1, h2, h3⟩ := h
  refine (set_any t s h3 ⟨h2.l0, h2.l2, h2.q0, h2.q2⟩ h1).mono ?_
  rintro e w' ⟨v', rfl, hg, hk⟩
  exact ⟨rfl, ⟨v', hg, h2.set t s, Nat.le_trans h3 hk.size⟩, hk⟩
theorem take_st {W : World} {B p : Nat} {x : Sh} (t : Int) (h : St W B p x) :
    Calls Try.prog 14 #[.pointer (some ⟨p, 0, none⟩), .int .i64 t] W fun e w' => e = .returned (.bool (fitSh t x)) ∧ St w' B p (takeSh t x) ∧ Kept p W w' := by
  obtain ⟨v, h1, h2, h3⟩ := h
  have hc := h2.come t
  have hn := h2.n2
  refine (take_any t h3 ⟨h2.e0, h2.e2, h2.n0, by omega⟩ ⟨by omega, hc.2⟩ h1).mono ?_
  rintro e w' ⟨v', rfl, hg, hk⟩
  exact ⟨rfl, ⟨v', hg, h2.took t, Nat.le_trans h3 hk.size⟩, hk⟩
theorem step_st {W : World} {B p : Nat} {x : Sh} (t : Int) (h : St W B p x) :
    Calls Try.prog 18 #[.pointer (some ⟨p, 0, none⟩), .int .i64 t] W fun e w' => e = .returned (.int .i64 (comeF (held t) x.step x.L)) ∧ St w' B p x ∧ Below W.heap.size W w' := by
  have h' := h
  obtain ⟨v, h1, h2, h3⟩ := h
  refine (step_any t h1).mono ?_
  rintro e w' ⟨rfl, hb⟩
  exact ⟨rfl, h'.below hb, hb⟩
theorem wait_st {W : World} {B p : Nat} {x : Sh} (h : St W B p x) :
    Calls Try.prog 17 #[.pointer (some ⟨p, 0, none⟩)] W fun e w' => e = .returned (.int .i64 x.L.length) ∧ w' = W := by
  obtain ⟨v, h1, h2, h3⟩ := h
  exact waiting_any h1
theorem new_st (step early slow quick : Int) (W : World) : Calls Try.prog 10 #[.int .i64 step, .int .i64 early, .int .i64 slow, .int .i64 quick] W fun e w' => ∃ p, e = .returned (.pointer (some ⟨p, 0, none⟩)) ∧ W.heap.size ≤ p ∧ St w' W.heap.size p (newSh step early slow quick) ∧ Below W.heap.size W w' := by
  refine (new_any step early slow quick W).mono ?_
  rintro e w' ⟨p, rfl, hp, hg, hb⟩
  exact ⟨p, rfl, hp, ⟨_, hg, OkSh.new _ _ _ _, hb.size⟩, hb⟩

def awA : Sh := ⟨10, 0, 5, 2, 0, false, []⟩
def awB : Sh := ⟨10, 0, 5, 2, 0, false, [(4, 2)]⟩
def awC : Sh := ⟨10, 0, 5, 2, 0, false, [(4, 2), (9, 5)]⟩
def awD : Sh := ⟨4, 0, 5, 2, 7, true, [(9, 5)]⟩
theorem awA_eq : newSh 10 0 5 2 = awA := by rfl
theorem awB_eq : setSh 0 4 awA = awB := by rfl
theorem awB_r : setR 0 awA = 0 := by rfl
theorem awC_eq : setSh 0 9 awB = awC := by rfl
theorem awC_r : setR 0 awB = 0 := by rfl
theorem awS1 : comeF (held 1) awC.step awC.L = 10 := by rfl
theorem awS2 : comeF (held 2) awC.step awC.L = 4 := by rfl
theorem awS5 : comeF (held 5) awC.step awC.L = 9 := by rfl
theorem awD_eq : takeSh 3 awC = awD := by rfl
theorem awD_r : fitSh 3 awC = true := by rfl
theorem awE_r : fitSh 4 awD = false := by rfl

theorem awake_any (w : World) : Calls Try.prog 9 #[] w fun e w' => e = .returned (.bool true) ∧ Below w.heap.size w w' := by
  go_enter Try.func9, Try.ntmps9
  go_wp2_with fail
  refine (new_st _ _ _ _ _).mono ?_
  rintro e w1 ⟨p, rfl, hp, h1, b1⟩
  rw [awA_eq] at h1
  have c1 := set_st 0 4 h1
  rw [awB_r, awB_eq] at c1
  have HP := Lib.hid hp
  clear hp h1
  go_wp2_with fail
  refine c1.mono ?_
  rintro e w2 ⟨rfl, h2, k2⟩
  have c2 := set_st 0 9 h2
  rw [awC_r, awC_eq] at c2
  clear c1 h2
  go_wp2_with fail
  refine c2.mono ?_
  rintro e w3 ⟨rfl, h3, k3⟩
  have b3 := below_kept (below_kept b1 k2 HP.out b1.size) k3 HP.out (Nat.le_trans b1.size k2.size)
  have c3 := step_st 1 h3
  rw [awS1] at c3
  clear c2 h3 k2 k3 b1
  go_wp2_with fail
  refine c3.mono ?_
  rintro e w4 ⟨rfl, h4, b4⟩
  have c4 := step_st 2 h4
  rw [awS2] at c4
  have b4' := b3.trans (b4.mono b3.size)
  clear c3 h4 b3 b4
  go_wp2_with fail
  refine c4.mono ?_
  rintro e w5 ⟨rfl, h5, b5⟩
  have c5 := step_st 5 h5
  rw [awS5] at c5
  have b5' := b4'.trans (b5.mono b4'.size)
  clear c4 h5 b4' b5
  go_wp2_with fail
  refine c5.mono ?_
  rintro e w6 ⟨rfl, h6, b6⟩
  have c6 := wait_st h6
  have c7 := take_st 3 h6
  rw [show (awC.L.length : Int) = 2 from rfl] at c6
  rw [awD_r, awD_eq] at c7
  have b6' := b5'.trans (b6.mono b5'.size)
  clear c5 h6 b5' b6
  go_wp2_with fail
  refine c6.mono ?_
  rintro e w7 ⟨rfl, rfl⟩
  clear c6
  go_wp2_with fail
  refine c7.mono ?_
  rintro e w8 ⟨rfl, h8, k8⟩
  have c8 := take_st 4 h8
  rw [awE_r] at c8
  have b8 := below_kept b6' k8 HP.out b6'.size
  clear c7 h8 b6' k8
  go_wp2_with fail
  refine c8.mono ?_
  rintro e w9 ⟨rfl, h9, k9⟩
  have b9 := below_kept b8 k9 HP.out b8.size
  clear h9 b8 k9 c8
  go_wp2_with fail
  go_ret
  exact ⟨rfl, b9⟩

end Go.Proofs.Ytclplacjgofccaa
