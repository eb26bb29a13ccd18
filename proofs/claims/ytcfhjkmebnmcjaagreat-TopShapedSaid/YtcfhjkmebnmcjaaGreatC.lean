/- The iterator over bytes' bits. -/
import Derived.Test.YtcfhjkmebnmcjaaGreatBb
import Derived.RangeFuncNested
import Derived.RangeFuncBound
import Derived.RangeFuncCalls
import Derived.RangeFuncLeaves
import Derived.RangeFuncWrites
import Derived.RangeFuncBox
import Derived.Shelf.Abstract
import Derived.Shelf.RegionOpen
import Derived.Shelf.AbstractIn
import Derived.WalkKit
import Derived.OwnWalkIn
import Derived.TacticsInMore
import Derived.LoopNIn
import Derived.LoopIn
namespace Go.Proofs.YtcfhjkmebnmcjaaGreat
open Go.RowKit Go.Shelf
set_option linter.unusedVariables false
set_option linter.unusedSimpArgs false
attribute [local go_sem] Oper.semAt_some

/-- Is a number odd, as the code asks it? -/
def bb (y : Int) : Bool := bits BinOp.and IntKind.u8 y 1 == 1
/-- A byte's bits, the highest first. -/
def bits8 (x : Int) : List Bool := [bb (x / 128), bb (x / 64), bb (x / 32), bb (x / 16), bb (x / 8), bb (x / 4), bb (x / 2), bb x]
def bitsOf (bs : List Int) : List Bool := bs.flatMap bits8

theorem bitsOf_len (bs : List Int) : (bitsOf bs).length = 8 * bs.length := by
  unfold bitsOf
  induction bs with
  | nil => rfl
  | cons x r ih => rw [List.flatMap_cons, List.length_append, ih, List.length_cons]; simp [bits8]; omega
theorem bitsOf_take (bs : List Int) (k : Nat) (hk : k < bs.length) : (bitsOf bs).take (8 * (k + 1)) = (bitsOf bs).take (8 * k) ++ bits8 (bs[k]?.getD 0) := by
  induction bs generalizing k with
  | nil => simp at hk
  | cons x r ih =>
    have e : bitsOf (x :: r) = bits8 x ++ bitsOf r := by simp [bitsOf]
    have h8 : (bits8 x).length = 8 := rfl
    rw [e]
    cases k with
    | zero => rw [List.take_append_of_le_length (by rw [h8]; omega)]; simp [h8, List.take_of_length_le]
    | succ k =>
      rw [List.take_append, List.take_append, h8, List.take_of_length_le (l := bits8 x) (by rw [h8]; omega), List.take_of_length_le (l := bits8 x) (by rw [h8]; omega), show 8 * (k + 1 + 1) - 8 = 8 * (k + 1) by omega, show 8 * (k + 1) - 8 = 8 * k by omega, ih k (by simpa using hk)]
      simp

def encB (q : Bool) : Array Value := #[.bool q]

/-- Bytes at a place. -/
def Bytes (W : World) (b off : Nat) (bs : List Int) : Prop := ∀ k, k < bs.length → W.cell? ⟨b, off + k, none⟩ = some (.int .u8 (bs[k]?.getD 0))

set_option maxRecDepth 100000 in
set_option maxHeartbeats 1000000 in
theorem bits1_in (l Bn b off cap : Nat) (bs : List Int) (hbs : ∀ x ∈ bs, 0 ≤ x ∧ x ≤ 255) (hn : bs.length ≤ 1000) (Kp : World → World → Prop) (hKp : ∀ A C, Kp A C → Bytes A b off bs → Bytes C b off bs) (J Jx : List Bool → World → Prop)
    (W : World) (hbox : W.cell? ⟨Bn, 0, none⟩ = some (.slice (some ⟨b, off, none⟩) bs.length cap)) (hB : Bytes W b off bs)
    (hY : ∀ pre q W1, J pre W1 → pre.length < 8 * bs.length → YieldAt Fence.wide 5 Tryz.prog l (encB q) W1 fun e W' =>
      (e = .returned (.bool true) ∧ J (pre ++ [q]) W' ∧ Kp W1 W') ∨ (e = .returned (.bool false) ∧ Jx (pre ++ [q]) W'))
    (h0 : J [] W) :
    CallsIn Fence.wide 6 Tryz.prog 148 #[.func (.yield l) #[] #[], .pointer (some ⟨Bn, 0, none⟩)] W fun e W' => (∃ v, e = .returned v) ∧
      ((∃ xs, xs = bitsOf bs ∧ J xs W') ∨ (∃ pre, True ∧ Jx pre W')) := by
  have HY := Lib.hid hY
  have HK := Lib.hid hKp
  have HB := Lib.hid hB
  clear hY hKp hB
  refine callsIn_of_wp Tryz.func148 rfl trivial ?_ rfl
  simp only [Tryz.ntmps148, List.size_toArray, List.length_cons, List.length_nil, Nat.reduceAdd, Nat.reduceSub, Array.replicate_succ, Array.replicate_zero, List.push_toArray, List.append_toArray, List.nil_append, List.cons_append]
  obtain ⟨n, en⟩ : ∃ n, bs.length = n := ⟨_, rfl⟩
  rw [en] at hbox hn
  have HN := Lib.hid en
  clear en
  gi_wp2_with fail
  gi_loopw [8] (fun i wr => ∃ k : Nat, k ≤ n ∧ i = .int .i64 k ∧ J ((bitsOf bs).take (8 * k)) wr ∧ Bytes wr b off bs) (fun i _ => n - (Go.RowKit.intOf i).toNat)
  case atStart => exact ⟨0, Nat.zero_le _, rfl, by simpa using h0, HB.out⟩
  case round =>
    obtain ⟨k, hk, rfl, hJk, hBk⟩ := hrel
    by_cases hlt : k < n
    · have hcell := hBk k (by rw [HN.out]; exact hlt)
      obtain ⟨x, ex⟩ : ∃ x, bs[k]?.getD 0 = x := ⟨_, rfl⟩
      rw [ex] at hcell
      have hx : 0 ≤ x ∧ x ≤ 255 := by
        rw [← ex, List.getElem?_eq_getElem (by rw [HN.out]; exact hlt)]
        exact hbs _ (List.getElem_mem _)
      have htk := bitsOf_take bs k (by rw [HN.out]; exact hlt)
      rw [ex] at htk
      obtain ⟨P0, eP⟩ : ∃ P0, (bitsOf bs).take (8 * k) = P0 := ⟨_, rfl⟩
      rw [eP] at hJk htk
      have hlen : P0.length = 8 * k := by rw [← eP, List.length_take, bitsOf_len, HN.out]; omega
      have HT := Lib.hid (And.intro htk (And.intro hlen (And.intro hBk hx)))
      clear ex eP htk hBk hlen
      have hlt8 : 8 * k + 7 < 8 * n := by omega
      have HL := Lib.hid hlt8
      clear hlt8
      obtain ⟨fn, tmps, assign, body, hy, hR⟩ := HY.out P0 (bb (x / 128)) wr hJk (by rw [HT.out.2.1, HN.out]; have := HL.out; omega)
      dsimp only [encB, bb] at hy
      clear hJk
      gi_wp2_with fail
      refine wpIn_loop_rounds 9 ?_
      rw [roundsIn_succ]
      gi_wp2_with fail
      refine hR.mono ?_
      clear hy hR
      rintro e w0 (⟨rfl, hJ0, hk0⟩ | ⟨rfl, hx0⟩)
      rotate_left
      · gi_wp2_with fail
        refine bodyPost_ret (results_none rfl _ _ _) rfl ?_
        exact ⟨⟨_, rfl⟩, .inr ⟨_, trivial, hx0⟩⟩
      have hB0 := HK.out _ _ hk0 HT.out.2.2.1
      have HB0 := Lib.hid hB0
      clear hk0 hB0 hcell
      obtain ⟨fn1, tmps1, assign1, body1, hy1, hR1⟩ := HY.out (P0 ++ [bb (x / 128)]) (bb (x / 64)) w0 hJ0 (by simp only [List.length_append, List.length_cons, List.length_nil]; rw [HT.out.2.1, HN.out]; have := HL.out; omega)
      dsimp only [encB, bb] at hy1
      clear hJ0
      gi_wp2_with fail
      rw [roundsIn_succ]
      gi_wp2_with fail
      refine hR1.mono ?_
      clear hy1 hR1
      rintro e w1 (⟨rfl, hJ1, hk1⟩ | ⟨rfl, hx1⟩)
      rotate_left
      · gi_wp2_with fail
        refine bodyPost_ret (results_none rfl _ _ _) rfl ?_
        exact ⟨⟨_, rfl⟩, .inr ⟨_, trivial, hx1⟩⟩
      have HB1 := Lib.hid (HK.out _ _ hk1 HB0.out)
      clear hk1
      obtain ⟨fn2, tmps2, assign2, body2, hy2, hR2⟩ := HY.out ((P0 ++ [bb (x / 128)]) ++ [bb (x / 64)]) (bb (x / 32)) w1 hJ1 (by simp only [List.length_append, List.length_cons, List.length_nil]; rw [HT.out.2.1, HN.out]; have := HL.out; omega)
      dsimp only [encB, bb] at hy2
      clear hJ1
      gi_wp2_with fail
      rw [roundsIn_succ]
      gi_wp2_with fail
      refine hR2.mono ?_
      clear hy2 hR2
      rintro e w2 (⟨rfl, hJ2, hk2⟩ | ⟨rfl, hx2⟩)
      rotate_left
      · gi_wp2_with fail
        refine bodyPost_ret (results_none rfl _ _ _) rfl ?_
        exact ⟨⟨_, rfl⟩, .inr ⟨_, trivial, hx2⟩⟩
      have HB2 := Lib.hid (HK.out _ _ hk2 HB1.out)
      clear hk2
      obtain ⟨fn3, tmps3, assign3, body3, hy3, hR3⟩ := HY.out (((P0 ++ [bb (x / 128)]) ++ [bb (x / 64)]) ++ [bb (x / 32)]) (bb (x / 16)) w2 hJ2 (by simp only [List.length_append, List.length_cons, List.length_nil]; rw [HT.out.2.1, HN.out]; have := HL.out; omega)
      dsimp only [encB, bb] at hy3
      clear hJ2
      gi_wp2_with fail
      rw [roundsIn_succ]
      gi_wp2_with fail
      refine hR3.mono ?_
      clear hy3 hR3
      rintro e w3 (⟨rfl, hJ3, hk3⟩ | ⟨rfl, hx3⟩)
      rotate_left
      · gi_wp2_with fail
        refine bodyPost_ret (results_none rfl _ _ _) rfl ?_
        exact ⟨⟨_, rfl⟩, .inr ⟨_, trivial, hx3⟩⟩
      have HB3 := Lib.hid (HK.out _ _ hk3 HB2.out)
      clear hk3
      obtain ⟨fn4, tmps4, assign4, body4, hy4, hR4⟩ := HY.out ((((P0 ++ [bb (x / 128)]) ++ [bb (x / 64)]) ++ [bb (x / 32)]) ++ [bb (x / 16)]) (bb (x / 8)) w3 hJ3 (by simp only [List.length_append, List.length_cons, List.length_nil]; rw [HT.out.2.1, HN.out]; have := HL.out; omega)
      dsimp only [encB, bb] at hy4
      clear hJ3
      gi_wp2_with fail
      rw [roundsIn_succ]
      gi_wp2_with fail
      refine hR4.mono ?_
      clear hy4 hR4
      rintro e w4 (⟨rfl, hJ4, hk4⟩ | ⟨rfl, hx4⟩)
      rotate_left
      · gi_wp2_with fail
        refine bodyPost_ret (results_none rfl _ _ _) rfl ?_
        exact ⟨⟨_, rfl⟩, .inr ⟨_, trivial, hx4⟩⟩
      have HB4 := Lib.hid (HK.out _ _ hk4 HB3.out)
      clear hk4
      obtain ⟨fn5, tmps5, assign5, body5, hy5, hR5⟩ := HY.out (((((P0 ++ [bb (x / 128)]) ++ [bb (x / 64)]) ++ [bb (x / 32)]) ++ [bb (x / 16)]) ++ [bb (x / 8)]) (bb (x / 4)) w4 hJ4 (by simp only [List.length_append, List.length_cons, List.length_nil]; rw [HT.out.2.1, HN.out]; have := HL.out; omega)
      dsimp only [encB, bb] at hy5
      clear hJ4
      gi_wp2_with fail
      rw [roundsIn_succ]
      gi_wp2_with fail
      refine hR5.mono ?_
      clear hy5 hR5
      rintro e w5 (⟨rfl, hJ5, hk5⟩ | ⟨rfl, hx5⟩)
      rotate_left
      · gi_wp2_with fail
        refine bodyPost_ret (results_none rfl _ _ _) rfl ?_
        exact ⟨⟨_, rfl⟩, .inr ⟨_, trivial, hx5⟩⟩
      have HB5 := Lib.hid (HK.out _ _ hk5 HB4.out)
      clear hk5
      obtain ⟨fn6, tmps6, assign6, body6, hy6, hR6⟩ := HY.out ((((((P0 ++ [bb (x / 128)]) ++ [bb (x / 64)]) ++ [bb (x / 32)]) ++ [bb (x / 16)]) ++ [bb (x / 8)]) ++ [bb (x / 4)]) (bb (x / 2)) w5 hJ5 (by simp only [List.length_append, List.length_cons, List.length_nil]; rw [HT.out.2.1, HN.out]; have := HL.out; omega)
      dsimp only [encB, bb] at hy6
      clear hJ5
      gi_wp2_with fail
      rw [roundsIn_succ]
      gi_wp2_with fail
      refine hR6.mono ?_
      clear hy6 hR6
      rintro e w6 (⟨rfl, hJ6, hk6⟩ | ⟨rfl, hx6⟩)
      rotate_left
      · gi_wp2_with fail
        refine bodyPost_ret (results_none rfl _ _ _) rfl ?_
        exact ⟨⟨_, rfl⟩, .inr ⟨_, trivial, hx6⟩⟩
      have HB6 := Lib.hid (HK.out _ _ hk6 HB5.out)
      clear hk6
      obtain ⟨fn7, tmps7, assign7, body7, hy7, hR7⟩ := HY.out (((((((P0 ++ [bb (x / 128)]) ++ [bb (x / 64)]) ++ [bb (x / 32)]) ++ [bb (x / 16)]) ++ [bb (x / 8)]) ++ [bb (x / 4)]) ++ [bb (x / 2)]) (bb (x)) w6 hJ6 (by simp only [List.length_append, List.length_cons, List.length_nil]; rw [HT.out.2.1, HN.out]; have := HL.out; omega)
      dsimp only [encB, bb] at hy7
      clear hJ6
      gi_wp2_with fail
      rw [roundsIn_succ]
      gi_wp2_with fail
      refine hR7.mono ?_
      clear hy7 hR7
      rintro e w7 (⟨rfl, hJ7, hk7⟩ | ⟨rfl, hx7⟩)
      rotate_left
      · gi_wp2_with fail
        refine bodyPost_ret (results_none rfl _ _ _) rfl ?_
        exact ⟨⟨_, rfl⟩, .inr ⟨_, trivial, hx7⟩⟩
      have HB7 := Lib.hid (HK.out _ _ hk7 HB6.out)
      clear hk7
      have hJ9 : J ((bitsOf bs).take (8 * (k + 1))) w7 := by rw [HT.out.1]; simpa [bits8] using hJ7
      have HJ9 := Lib.hid hJ9
      clear hJ7 hJ9
      gi_wp2_with fail
      rw [roundsIn_succ]
      gi_wp2_with fail
      go_roundw
      case rel => exact ⟨k + 1, by omega, by go_num, HJ9.out, HB7.out⟩
      case measure => simp [Go.RowKit.intOf]; omega
    · have hkn : k = n := by omega
      have hall : (bitsOf bs).take (8 * k) = bitsOf bs := List.take_of_length_le (by rw [bitsOf_len, HN.out]; omega)
      rw [hall] at hJk
      have HJ := Lib.hid hJk
      clear hJk hall hBk
      gi_wp2_with fail
      go_end0
      exact ⟨⟨_, rfl⟩, .inl ⟨_, rfl, HJ.out⟩⟩

end Go.Proofs.YtcfhjkmebnmcjaaGreat
