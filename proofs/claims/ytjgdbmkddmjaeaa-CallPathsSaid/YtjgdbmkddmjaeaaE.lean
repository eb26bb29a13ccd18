/- The contracts of holds, Longest, awake; how lists of what happens are told to a walk. -/
import Derived.Test.YtjgdbmkddmjaeaaD
import Derived.Deep.Slices
import Derived.Deep.Fields
import Derived.ChangeSame
import Derived.OpenShut
import Derived.LoopTactic
import Derived.OwnWalk
namespace Go.Proofs.Ytjgdbmkddmjaeaa
open Go.RowKit Go.Deep Go.ChangeShapes Go.WideShapes
set_option linter.unusedVariables false
set_option linter.unusedSimpArgs false

def holdOne (n d : Int) : Int := if d = 6 then n + 1 else if d = 7 then n - 1 else n
def holdsF : Int → List Int → Int
  | n, [] => n
  | n, d :: r => if holdOne n d < 0 ∨ 1 < holdOne n d then -1 else holdsF (holdOne n d) r

theorem holdsF_cons (n d : Int) (r : List Int) : holdsF n (d :: r) = if holdOne n d < 0 ∨ 1 < holdOne n d then -1 else holdsF (holdOne n d) r := rfl

theorem holds_any (n : Int) (hn : 0 ≤ n ∧ n ≤ 1) (l : List Int) (hl : l.length ≤ 1000) (A : Option Addr) (c : Nat) (w : World) (hr : Rd w A l) :
    Calls Try.prog 11 #[.int .i64 n, .slice A l.length c] w fun e w' => e = .returned (.int .i64 (holdsF n l)) ∧ w = w' := by
  go_enter Try.func11, Try.ntmps11
  go_wp2
  go_loop [0, 8] (fun v i => ∃ (k : Nat) (nk : Int), k ≤ l.length ∧ i = .int .i64 k ∧ v = .int .i64 nk ∧ 0 ≤ nk ∧ nk ≤ 1 ∧ holdsF nk (l.drop k) = holdsF n l) (fun _ i => l.length - (intOf i).toNat)
  case atStart => exact ⟨0, n, Nat.zero_le _, rfl, rfl, hn.1, hn.2, rfl⟩
  case round =>
    obtain ⟨k, nk, hk, rfl, rfl, h0, h1, hf⟩ := hrel
    by_cases hlt : k < l.length
    · rcases hr with hr | ⟨b, rfl, hb, hc⟩
      · subst hr; simp at hlt
      have hcell := hc k hlt
      have hd : l.drop k = (l[k]?.getD 0) :: l.drop (k + 1) := by
        rw [List.drop_eq_getElem_cons hlt, List.getElem?_eq_getElem hlt]; rfl
      obtain ⟨d, ed⟩ : ∃ d, l[k]?.getD 0 = d := ⟨_, rfl⟩
      rw [ed] at hcell hd
      rw [hd] at hf
      rw [holdsF_cons] at hf
      have HC := Lib.hid hc
      have HF := Lib.hid hf
      clear hc hd hf ed
      by_cases h6 : d = 6
      · subst h6
        by_cases hk0 : nk = 0
        · subst hk0
          go_wp2
          go_round
          case rel => exact ⟨k + 1, 1, by omega, by go_num, rfl, by omega, by omega, by have := HF.out; simpa [holdOne] using this⟩
          case measure => simp [intOf]; omega
        · obtain rfl : nk = 1 := by omega
          go_wp2
          go_ret
          exact ⟨ret_int (by have := HF.out; simpa [holdOne] using this), rfl⟩
      · by_cases h7 : d = 7
        · subst h7
          by_cases hk0 : nk = 0
          · subst hk0
            go_wp2
            go_ret
            exact ⟨ret_int (by have := HF.out; simpa [holdOne] using this), rfl⟩
          · obtain rfl : nk = 1 := by omega
            go_wp2
            go_round
            case rel => exact ⟨k + 1, 0, by omega, by go_num, rfl, by omega, by omega, by have := HF.out; simpa [holdOne] using this⟩
            case measure => simp [intOf]; omega
        · have g6 : (d == 6) = false := by simpa using h6
          have g7 : (d == 7) = false := by simpa using h7
          have hone : holdOne nk d = nk := by unfold holdOne; rw [if_neg h6, if_neg h7]
          have HO := Lib.hid hone
          clear h6 h7 hone
          go_wp2
          go_round
          case rel => exact ⟨k + 1, nk, by omega, by go_num, rfl, h0, h1, by have := HF.out; rw [HO.out, if_neg (by omega)] at this; exact this⟩
          case measure => simp [intOf]; omega
    · go_wp2
      go_ret
      obtain rfl : k = l.length := by omega
      exact ⟨ret_int (by rw [← hf]; simp [holdsF]), rfl⟩

def longF (m : Tm) : Int := 2 * hd m.a + hd m.b + 2 * hd m.c

theorem held_same (n : Int) (w : World) : Calls Try.prog 19 #[.int .i64 n] w fun e w' => e = .returned (.int .i64 (hd n)) ∧ w' = w := (held_any n w).mono fun _ _ h => ⟨h.1, h.2.symm⟩

theorem longest_any (m : Tm) (w : World) : Calls Try.prog 12 #[tmV m] w fun e w' => e = .returned (.int .i64 (longF m)) ∧ Below w.heap.size w w' := by
  have ha := hd_bd m.a
  have hb := hd_bd m.b
  have hc := hd_bd m.c
  have hbel := (Below.refl w.heap.size w).alloc (Nat.le_refl _) (.cells #[.int .i64 m.a, .int .i64 m.b, .int .i64 m.c] 24)
  have HB := Lib.hid hbel
  have e1 : IntKind.i64.wrap (2 * hd m.a) = 2 * hd m.a := Go.IntWalk.i64_in _ (by omega)
  have e2 : IntKind.i64.wrap (2 * hd m.c) = 2 * hd m.c := Go.IntWalk.i64_in _ (by omega)
  have e3 : IntKind.i64.wrap (2 * hd m.a + hd m.b) = 2 * hd m.a + hd m.b := Go.IntWalk.i64_in _ (by omega)
  have e4 : IntKind.i64.wrap (2 * hd m.a + hd m.b + 2 * hd m.c) = 2 * hd m.a + hd m.b + 2 * hd m.c := Go.IntWalk.i64_in _ (by omega)
  have hk : Ending.returned (.int .i64 (2 * hd m.a + hd m.b + 2 * hd m.c)) = .returned (.int .i64 (longF m)) := rfl
  have HK := Lib.hid hk
  clear hbel hk
  unfold tmV
  go_enter Try.func12, Try.ntmps12
  go_wp2
  go_quiet ((go_at_call 19; exact Calls.quiet_of_same (held_same _ _)))
  go_wp2
  go_ret
  exact ⟨HK.out, below_drewN HB.out _⟩

theorem awake_any (w : World) : Calls Try.prog 9 #[] w fun e w' => e = .returned (.bool true) ∧ Below w.heap.size w w' := by
  have hs : stepF ⟨0, 0, 0⟩ 1 5 ⟨0, 9, 0⟩ = (⟨1, 14, 0⟩, [2, 6]) := by
    unfold stepF nullF hd; simp [Int.max_def, Int.min_def]
  have hl : longF ⟨1, 1, 1⟩ = 5 := by unfold longF hd; simp [Int.max_def, Int.min_def]
  have hk := fun W => step_any ⟨0, 0, 0⟩ 1 5 ⟨0, 9, 0⟩ W (by omega)
  rw [hs] at hk
  have hk2 := fun W => longest_any ⟨1, 1, 1⟩ W
  rw [hl] at hk2
  unfold stV tmV at hk
  unfold tmV at hk2
  simp only at hk hk2
  clear hs hl
  go_enter Try.func9, Try.ntmps9
  go_wp2_with fail
  refine (hk _).mono ?_
  rintro e w1 ⟨A, c, rfl, hr, hf, hb⟩
  rcases hr with hr | ⟨b, rfl, h1, h2⟩
  · simp at hr
  have c1 := h2 1 (by simp)
  have hne : ∀ W : World, b < w1.heap.size → b ≠ w1.heap.size := fun _ h => by omega
  have hbw : Below w.heap.size w w1 := hb
  go_wp2_with fail
  refine (hk2 _).mono ?_
  rintro e w2 ⟨rfl, b2⟩
  go_wp2_with fail
  go_ret
  exact ⟨rfl, (hbw.alloc hbw.size _).trans (b2.mono (by simp; have := hbw.size; omega))⟩

end Go.Proofs.Ytjgdbmkddmjaeaa
