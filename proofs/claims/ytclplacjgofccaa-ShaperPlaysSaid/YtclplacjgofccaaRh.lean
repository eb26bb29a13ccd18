/- The reference's Come. -/
import Derived.Test.YtclplacjgofccaaRg
namespace Go.Proofs.Ytclplacjgofccaa.Rf
open Go.RowKit Go.Sort Go.Shelf Go.Lib
set_option linter.unusedVariables false
set_option linter.unusedSimpArgs false
attribute [local go_sem ↓] Go.wp_at_zero Go.wp_at_succ

set_option maxHeartbeats 1600000 in
theorem come_any {W : World} {B p : Nat} {v : Value} {y : Re} (t : Int) (h : HasR W p v y) (hr : RRow W B v y.L) (h8 : y.L.length ≤ 8) :
    Calls Try.prog 16 #[.pointer (some ⟨p, 0, none⟩), .int .i64 t] W fun e w' => ∃ v', e = .returned (.tuple #[.int .i64 (comeF (held t) y.step y.L), v']) ∧ RRow w' W.heap.size v' (leftF (held t) y.L) ∧ Below W.heap.size W w' := by
  obtain ⟨A, c, rfl, hrd⟩ := hr.rd
  have c0 := h.c0
  have c7 := h.c7
  have hbt := held_bd t
  obtain ⟨n, en⟩ : ∃ n, y.L.length = n := ⟨_, rfl⟩
  rw [en] at c7 h8 h
  have HH := Lib.hid (And.intro h (And.intro hrd en))
  clear h hr hrd en
  go_enter Try.func16, Try.ntmps16
  go_wp2_with fail
  go_loopw [6, 7, 8, 20] (fun sv av lv i wr => ∃ (j : Nat) (r : Ch) (acc : List Ch), j ≤ n ∧ i = .int .i64 j ∧ sv = .int .i64 r.1 ∧ av = .int .i64 r.2 ∧ (y.L.drop j).foldl (comeOne (held t)) r = y.L.foldl (comeOne (held t)) (y.step, -1) ∧ acc ++ leftF (held t) (y.L.drop j) = leftF (held t) y.L ∧ acc.length ≤ j ∧ RRow wr W.heap.size lv acc ∧ Below W.heap.size W wr) (fun _ _ _ i _ => n - (intOf i).toNat)
  case atStart => exact ⟨0, (y.step, -1), [], Nat.zero_le _, rfl, rfl, rfl, by simp, by simp, Nat.le_refl _, .inl ⟨rfl, rfl⟩, Below.refl _ _⟩
  case round =>
    obtain ⟨j, r, acc, hj, rfl, rfl, rfl, hf, hl, hal, hrow, hbel⟩ := hrel
    by_cases hlt : j < n
    · have hw := HH.out.1.below hbel
      have hjl : j < y.L.length := by have := HH.out.2.2; omega
      rcases HH.out.2.1 with hrd | ⟨b, rfl, hbl, hc⟩
      · rw [hrd] at hjl; simp at hjl
      have g0 := (hbel.cell (p := ⟨b, j * 2, none⟩) hbl).trans (hc j hjl).1
      have g1 := (hbel.cell (p := ⟨b, j * 2 + 1, none⟩) hbl).trans (hc j hjl).2
      have e7 := hw.c7
      have hd : y.L.drop j = atL y.L j :: y.L.drop (j + 1) := by
        rw [List.drop_eq_getElem_cons hjl]; unfold atL; rw [List.getElem?_eq_getElem hjl]; rfl
      obtain ⟨d, ed⟩ : ∃ d, atL y.L j = d := ⟨_, rfl⟩
      rw [ed] at g0 g1 hd
      rw [hd] at hl hf
      rw [List.foldl_cons] at hf
      obtain ⟨d1, d2⟩ := d
      obtain ⟨r1, r2⟩ := r
      simp only at g0 g1
      have HL := Lib.hid (And.intro hl hf)
      have HR := Lib.hid (And.intro hrow hbel)
      clear hc hd hl hf ed hrow hbel hw hjl hbl
      by_cases hle : held t < d2
      · have hrowD : ∀ q, RRow ((wr.drewN q).alloc (.cells #[.int .i64 d1, .int .i64 d2] 66)) W.heap.size u8 acc := fun q => (HR.out.1.below (below_drewN (Below.refl _ _) q)).below ((Below.refl _ _).alloc (Nat.le_refl _) _)
        go_wp2_with fail
        go_quiet ((go_at_call 23; exact Calls.quiet_of_same (held_any _ _)))
        have hrow0 : RRow (wr.drewN nq) W.heap.size u8 acc := HR.out.1.below (below_drewN (Below.refl _ _) nq)
        have hsz : W.heap.size ≤ (wr.drewN nq).heap.size := HR.out.2.size
        go_wp2_with (at_builtin; refine wpList_push (W := wr.drewN nq) rfl _ _ rfl W.heap.size _ acc (by rfl) hrow0 d1 d2 (by rfl) (by omega) hsz ?_)
        intro v' w5 hrow' hg5
        have hbel' : Below W.heap.size W w5 := (below_drewN HR.out.2 nq).grown hg5 hsz (fun k hk => (World.ownsRow.lt HR.out.1.own k hk).1)
        clear hg5 hrow0 hrowD
        go_wp2_with fail
        go_roundw
        case rel => exact ⟨j + 1, (r1, r2), acc ++ [(d1, d2)], by omega, by go_num, rfl, rfl, by
          have := HL.out.2
          rwa [show comeOne (held t) (r1, r2) (d1, d2) = (r1, r2) by unfold comeOne; rw [if_neg (by simp only; omega)]] at this, by
          have := HL.out.1
          unfold leftF at this ⊢
          rw [List.filter_cons, if_pos (by simp; omega)] at this
          simpa using this, by simp; omega, hrow', hbel'⟩
        case measure => simp [intOf]; omega
      · have hleft : acc ++ leftF (held t) (y.L.drop (j + 1)) = leftF (held t) y.L := by
          have := HL.out.1
          unfold leftF at this ⊢
          rw [List.filter_cons, if_neg (by simp; omega)] at this
          exact this
        have HLL := Lib.hid hleft
        clear hleft
        by_cases hge : r2 ≤ d2
        · go_wp2_with fail
          go_quiet ((go_at_call 23; exact Calls.quiet_of_same (held_any _ _)))
          go_wp2_with fail
          go_quiet (fail)
          go_wp2_with fail
          go_roundw
          case rel => exact ⟨j + 1, (d1, d2), acc, by omega, by go_num, rfl, rfl, by
            have := HL.out.2
            rwa [show comeOne (held t) (r1, r2) (d1, d2) = (d1, d2) by unfold comeOne; rw [if_pos (by simp only; omega)]] at this, HLL.out, by omega, HR.out.1.below (below_drewN (Below.refl _ _) _), below_drewN HR.out.2 _⟩
          case measure => simp [intOf]; omega
        · go_wp2_with fail
          go_quiet ((go_at_call 23; exact Calls.quiet_of_same (held_any _ _)))
          go_wp2_with fail
          go_roundw
          case rel => exact ⟨j + 1, (r1, r2), acc, by omega, by go_num, rfl, rfl, by
            have := HL.out.2
            rwa [show comeOne (held t) (r1, r2) (d1, d2) = (r1, r2) by unfold comeOne; rw [if_neg (by simp only; omega)]] at this, HLL.out, by omega, HR.out.1.below (below_drewN (Below.refl _ _) _), below_drewN HR.out.2 _⟩
          case measure => simp [intOf]; omega
    · have hjn : j = n := by omega
      have hd : y.L.drop j = [] := List.drop_eq_nil_of_le (by have := HH.out.2.2; omega)
      rw [hd] at hl hf
      have hl' : acc = leftF (held t) y.L := by simpa [leftF] using hl
      have hf' : r.1 = comeF (held t) y.step y.L := by unfold comeF; rw [← hf]; rfl
      have HR := Lib.hid (And.intro hrow (And.intro hbel (And.intro hl' hf')))
      clear hd hl hf hl' hf' hrow hbel
      go_wp2_with fail
      refine bodyPost_ret (v := .tuple #[.int .i64 r.1, u8]) (by simp [results, Try.results16, go_sem]) rfl ?_
      refine ⟨u8, by rw [HR.out.2.2.2], ?_, HR.out.2.1⟩
      have := HR.out.1
      rwa [HR.out.2.2.1] at this

end Go.Proofs.Ytclplacjgofccaa.Rf
