/- The walk of ShaperFull. -/
import Derived.Test.YtclplacjgofccaaFulP
namespace Go.Proofs.Ytclplacjgofccaa
open Go.RowKit Go.Sort Go.Shelf Go.Lib
set_option linter.unusedVariables false
set_option linter.unusedSimpArgs false
attribute [local go_sem ↓] Go.wp_at_zero Go.wp_at_succ

def ArrAt (W : World) (p : Nat) (cs : Array Value) : Prop := W.heap[p]? = some (.cells cs 50 (0, 0))
theorem ArrAt.below {W W' : World} {p : Nat} {cs : Array Value} (h : ArrAt W p cs) (hb : Below W.heap.size W W') : ArrAt W' p cs := (hb.block p (lt_of_block h)).trans h
theorem ArrAt.kept {W W' : World} {p q : Nat} {cs : Array Value} (h : ArrAt W p cs) (hk : Kept q W W') (hne : p < q) : ArrAt W' p cs := (hk.block p (lt_of_block h) (by omega)).trans h
theorem ArrAt.cell {W : World} {p : Nat} {cs : Array Value} (h : ArrAt W p cs) (j : Nat) {v : Value} (hv : cs[j]? = some v) : W.cell? ⟨p, j, none⟩ = some v := by unfold ArrAt at h; simp [World.cell?, h, hv]

set_option maxHeartbeats 3200000 in
theorem ful_walk (slow t : Int) (cs : Array Value) (z : Nat → Int) (w : World) (h1 : 0 ≤ slow ∧ slow ≤ 65535) (h2 : 0 ≤ t ∧ t ≤ 65535) (hsz : cs.size = 9) (hcs : ∀ j, j < 9 → cs[j]? = some (.int .u8 (z j))) (hz : ∀ j, 0 ≤ z j ∧ z j ≤ 255) :
    Calls Try.prog 6 #[.int .u16 slow, .agg cs, .int .u16 t] w fun e w' => e = .returned (.bool true) ∧ Below w.heap.size w w' := by
  have hl : 1 ≤ 1 + slow ∧ 1 + slow ≤ 65536 := by omega
  have cn := fun W => new_st 300 0 (1 + slow) (1 + slow) W
  simp only [ful_new hl z t] at cn
  have c1 := fun (k : Nat) (hk : k < 8) (W : World) (B p : Nat) (h : St W B p (fulS z t (1 + slow) k)) => set_st t (1 + z k) h
  have c1' : ∀ (k : Nat) (hk : k < 8) (W : World) (B p : Nat) (h : St W B p (fulS z t (1 + slow) k)), Calls Try.prog 12 #[.pointer (some ⟨p, 0, none⟩), .int .i64 t, .int .i64 (1 + z k)] W fun e w' => e = .returned (.int .i64 0) ∧ St w' B p (fulS z t (1 + slow) (k + 1)) ∧ Kept p W w' := fun k hk W B p h => by
    have := c1 k hk W B p h
    rwa [((ful_set h2 hl hz k).1 hk).1, ((ful_set h2 hl hz k).1 hk).2] at this
  have c2 := fun (k : Nat) (W : World) (B p : Nat) (h : St W B p (fulS z t (1 + slow) k)) => wait_st h
  have c2' : ∀ (k : Nat) (W : World) (B p : Nat) (h : St W B p (fulS z t (1 + slow) k)), Calls Try.prog 17 #[.pointer (some ⟨p, 0, none⟩)] W fun e w' => e = .returned (.int .i64 k) ∧ w' = W := fun k W B p h => by
    have := c2 k W B p h
    rwa [show (fulS z t (1 + slow) k).L.length = k from fulL_len _ _ _] at this
  have c3 : ∀ (W : World) (B p : Nat) (h : St W B p (fulS z t (1 + slow) 8)), Calls Try.prog 12 #[.pointer (some ⟨p, 0, none⟩), .int .i64 t, .int .i64 (1 + z 8)] W fun e w' => e = .returned (.int .i64 9) ∧ St w' B p (fulS z t (1 + slow) 8) ∧ Kept p W w' := fun W B p h => by
    have := set_st t (1 + z 8) h
    rwa [(ful_set h2 hl hz 8).2.1, (ful_set h2 hl hz 8).2.2] at this
  have hall := ful_all h2 hl hz
  have c4 : ∀ (W : World) (B p : Nat) (h : St W B p (fulS z t (1 + slow) 8)), Calls Try.prog 18 #[.pointer (some ⟨p, 0, none⟩), .int .i64 (t + (1 + slow))] W fun e w' => e = .returned (.int .i64 (1 + z 7)) ∧ St w' B p (fulS z t (1 + slow) 8) ∧ Below W.heap.size W w' := fun W B p h => by
    have := step_st (t + (1 + slow)) h
    rwa [hall.1] at this
  have c5 : ∀ (W : World) (B p : Nat) (h : St W B p (fulS z t (1 + slow) 8)), Calls Try.prog 12 #[.pointer (some ⟨p, 0, none⟩), .int .i64 (t + (1 + slow)), .int .i64 (1 + z 8)] W fun e w' => e = .returned (.int .i64 0) ∧ St w' B p (setSh (t + (1 + slow)) (1 + z 8) (fulS z t (1 + slow) 8)) ∧ Kept p W w' := fun W B p h => by
    have := set_st (t + (1 + slow)) (1 + z 8) h
    rwa [hall.2.1] at this
  have c6 : ∀ (W : World) (B p : Nat) (h : St W B p (setSh (t + (1 + slow)) (1 + z 8) (fulS z t (1 + slow) 8))), Calls Try.prog 17 #[.pointer (some ⟨p, 0, none⟩)] W fun e w' => e = .returned (.int .i64 1) ∧ w' = W := fun W B p h => by
    have := wait_st h
    rwa [hall.2.2] at this
  have HC3 := Lib.hid c3
  have HC4 := Lib.hid c4
  have HC5 := Lib.hid c5
  have HC6 := Lib.hid c6
  clear c3 c4 c5 c6 hall
  have HC1 := Lib.hid c1'
  have HC2 := Lib.hid c2'
  have HN := Lib.hid cn
  have HCS := Lib.hid hcs
  have HSZ := Lib.hid hsz
  have HZ := Lib.hid hz
  have HL := Lib.hid hl
  clear c1 c1' c2 c2' cn hcs hsz hl hz
  go_enter Try.func6, Try.ntmps6
  go_wp2_with fail
  refine (awake_any _).mono ?_
  rintro e w1 ⟨rfl, b1⟩
  have a0 : ArrAt (w.alloc (.cells cs 50)) w.heap.size cs := heap_alloc_new _ _
  have a1 := a0.below b1
  have hb1 : Below w.heap.size w w1 := ((Below.refl _ w).alloc (Nat.le_refl _) _).trans (b1.mono (by simp))
  have hs1 : w.heap.size < w1.heap.size := by have := b1.size; simp at this; omega
  clear a0 b1
  obtain ⟨pa, epa⟩ : ∃ pa, w.heap.size = pa := ⟨_, rfl⟩
  rw [epa] at a1 hs1
  simp only [epa]
  have HPA := Lib.hid epa
  have HB1 := Lib.hid (And.intro hb1 a1)
  clear epa hb1 a1
  go_wp2_with fail
  refine (HN.out _).mono ?_
  rintro e w2 ⟨p, rfl, hp, s2, b2⟩
  have hb2 : Below w.heap.size w w2 := HB1.out.1.trans (b2.mono HB1.out.1.size)
  have a2 := HB1.out.2.below b2
  have s2' := s2.base HB1.out.1.size
  have hpp : pa < p := by omega
  have HB2 := Lib.hid (And.intro hb2 (And.intro a2 s2'))
  clear hp s2 b2 hb2 a2 s2' HB1 hs1
  go_wp2_with fail
  go_loopw [21] (fun i wr => ∃ k : Nat, k ≤ 8 ∧ i = .int .i64 k ∧ St wr w.heap.size p (fulS z t (1 + slow) k) ∧ ArrAt wr pa cs ∧ Below w.heap.size w wr) (fun i _ => 8 - (intOf i).toNat)
  case atStart => exact ⟨0, by omega, rfl, HB2.out.2.2, HB2.out.2.1, HB2.out.1⟩
  case round =>
    obtain ⟨k, hk, rfl, hst, har, hbl⟩ := hrel
    by_cases hlt : k < 8
    · have hck := har.cell k (HCS.out k (by omega))
      have hzk := HZ.out k
      have cc := HC1.out k hlt _ _ _ hst
      have HK := Lib.hid (And.intro hst (And.intro har hbl))
      obtain ⟨zk, ezk⟩ : ∃ zk, z k = zk := ⟨_, rfl⟩
      rw [ezk] at hck hzk cc
      clear hst har hbl ezk
      go_wp2_with fail
      refine cc.mono ?_
      rintro e w3 ⟨rfl, s3, k3⟩
      have a3 := HK.out.2.1.kept k3 hpp
      have b3 := below_kept HK.out.2.2 k3 (by have := HPA.out; omega) HK.out.2.2.size
      have c3 := HC2.out (k + 1) _ _ _ s3
      have HK3 := Lib.hid (And.intro s3 (And.intro a3 b3))
      clear s3 k3 a3 b3 cc
      go_wp2_with fail
      refine c3.mono ?_
      rintro e w4 ⟨rfl, rfl⟩
      clear c3
      go_wp2_with fail
      trace_state
      go_roundw
      case rel => exact ⟨k + 1, by omega, by go_num, HK3.out⟩
      case measure => simp [intOf]; omega
    · obtain rfl : k = 8 := by omega
      have c7 := har.cell 7 (HCS.out 7 (by omega))
      have c8 := har.cell 8 (HCS.out 8 (by omega))
      have z7 := HZ.out 7
      have z8 := HZ.out 8
      have cc := HC3.out _ _ _ hst
      have HK := Lib.hid (And.intro hst (And.intro har hbl))
      clear hst har hbl
      go_wp2_with fail
      refine cc.mono ?_
      rintro e w3 ⟨rfl, s3, k3⟩
      have a3 := HK.out.2.1.kept k3 hpp
      have b3 := below_kept HK.out.2.2 k3 (by have := HPA.out; omega) HK.out.2.2.size
      have d7 := a3.cell 7 (HCS.out 7 (by omega))
      have d8 := a3.cell 8 (HCS.out 8 (by omega))
      have cw := HC2.out 8 _ _ _ s3
      have HK3 := Lib.hid (And.intro s3 (And.intro a3 b3))
      clear s3 k3 a3 b3 cc c7 c8
      go_wp2_with fail
      refine cw.mono ?_
      rintro e w4 ⟨rfl, rfl⟩
      clear cw
      have cc := HC4.out _ _ _ HK3.out.1
      go_wp2_with fail
      refine cc.mono ?_
      rintro e w5 ⟨rfl, s5, b5⟩
      have a5 := HK3.out.2.1.below b5
      have b5' : Below w.heap.size w w5 := HK3.out.2.2.trans (b5.mono HK3.out.2.2.size)
      have g7 := a5.cell 7 (HCS.out 7 (by omega))
      have g8 := a5.cell 8 (HCS.out 8 (by omega))
      have cd := HC5.out _ _ _ s5
      clear cc s5 b5 d7 d8 a5
      have HB5 := Lib.hid b5'
      clear b5'
      go_wp2_with fail
      refine cd.mono ?_
      rintro e w6 ⟨rfl, s6, k6⟩
      have b6 := below_kept HB5.out k6 (by have := HPA.out; omega) HB5.out.size
      have cw := HC6.out _ _ _ s6
      have HB6 := Lib.hid b6
      clear b6 k6 s6 cd
      go_wp2_with fail
      refine cw.mono ?_
      rintro e w7 ⟨rfl, rfl⟩
      clear cw
      go_wp2_with (first
        | (go_at_call 12; refine (set_nil _ _ _).mono ?_; rintro e w8 ⟨rfl, rfl⟩)
        | (go_at_call 14; refine (take_nil _ _).mono ?_; rintro e w8 ⟨rfl, rfl⟩)
        | (go_at_call 18; refine (step_nil _ _).mono ?_; rintro e w8 ⟨rfl, rfl⟩)
        | (go_at_call 17; refine (waiting_nil _).mono ?_; rintro e w8 ⟨rfl, rfl⟩))
      trace_state
      go_ret
      exact ⟨rfl, HB6.out⟩

end Go.Proofs.Ytclplacjgofccaa
