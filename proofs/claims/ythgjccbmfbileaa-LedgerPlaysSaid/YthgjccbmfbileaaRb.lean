/- The reference's Get and without. -/
import Derived.Test.YthgjccbmfbileaaRa
import Derived.Deep.DeepCutAuto
namespace Go.Proofs.Ythgjccbmfbileaa.Rf
open Go.RowKit Go.Maps
set_option linter.unusedVariables false
set_option linter.unusedSimpArgs false
attribute [local go_sem ↓] Go.wp_at_zero Go.wp_at_succ

theorem get_any {W : World} {q : Nat} {room : Int} {A : Option Addr} {c : Nat} {L : Ent} (id : Int) (h : HasF W q room (.slice A L.length c)) (hr : RdE W A L) (hlen : L.length ≤ 100000) {v : Int} {b : Bool} (hv : (look L id).getD 0 = v) (hb : (look L id).isSome = b) :
    Calls Try.prog 22 #[.pointer (some ⟨q, 0, none⟩), .int .i64 id] W fun e w' => e = .returned (.tuple #[.int .i64 v, .bool b]) ∧ w' = W := by
  have ha := at_any id h hr hlen
  have c1 := h.c1
  have HE := Lib.hid (And.intro hr (And.intro hv hb))
  have HA := Lib.hid ha
  clear h hr hv hb ha
  go_enter Try.func22, Try.ntmps22
  go_wp2_with fail
  refine HA.out.mono ?_
  rintro e w1 ⟨rfl, (⟨hn, rfl⟩ | ⟨i, hi, hid, hl, rfl⟩)⟩
  · have hv0 : v = 0 := by rw [← HE.out.2.1, hn]; rfl
    have hb0 : b = false := by rw [← HE.out.2.2, hn]; rfl
    subst hv0
    subst hb0
    clear hn HE
    go_wp2_with fail
    go_ret2
    exact ⟨rfl, rfl⟩
  · have hv0 : v = (atE L i).2 := by rw [← HE.out.2.1, hl]; rfl
    have hb0 : b = true := by rw [← HE.out.2.2, hl]; rfl
    subst hb0
    rcases HE.out.1 with hr | ⟨g, rfl, hbl, hc⟩
    · rw [hr] at hi; simp at hi
    have d1 := (hc i hi).2
    obtain ⟨n, en⟩ : ∃ n, L.length = n := ⟨_, rfl⟩
    rw [en] at c1 hi hlen
    rw [← hv0] at d1
    clear hc hid hl HE hv0 en
    have hi0 : ¬ (i : Int) < 0 := by omega
    go_wp2_with fail
    go_ret2
    exact ⟨rfl, rfl⟩

/-- 'out = append(out, e)' on a row of one's own. -/
theorem wpList_more {ops : Array Oper} {rest : List Oper} {o : Oper} {a : Act} {Q : Exit → Act → World → Prop} {W : World} (hgd : o.guard = none) (s x : Operand)
    (ho : o.op = .call { callee := .builtin .append, args := #[s, x], argTypes := #[39, 39] })
    (B : Nat) (v : Value) (L : Ent) (hs : a.eval s = v) (hown : ERow W B v L) (d1 d2 : Int) (hx : a.eval x = .slice (some ⟨W.heap.size, 0, none⟩) 1 1)
    (hl : L.length < 1000000) (hbase : B ≤ W.heap.size)
    (h : ∀ v' w', ERow w' B v' (L ++ [(d1, d2)]) → W.grownBy w' v.ownBlock → wpList Try.prog ops Q rest (a.put o.dst v') w') :
    wpList Try.prog ops Q (o :: rest) a (W.alloc (.cells #[.int .i64 d1, .int .i64 d2] 58)) := by
  obtain ⟨i0, hi, hz0, hz1, hz2⟩ := info_parts info58
  refine wpList_append_own _ hgd s x 39 ho B 58 i0 (.agg #[.int .i64 0, .int .i64 0]) 2 16 Try.underlying39 hi hz0 hz1 hz2 rfl (by decide) v L.length (flatE L) hs (World.ownsRow.alloc hown _) ⟨W.heap.size, 0, none⟩ 1 1 [.int .i64 d1, .int .i64 d2] hx rfl ?_ ?_ ?_ ?_ ?_ ?_
  · exact World.news_of_block (cs := #[.int .i64 d1, .int .i64 d2]) (t := 58) (fr := (0, 0)) (heap_alloc_new W _)
  · intro u hu; simp at hu; rcases hu with rfl | rfl <;> rfl
  · unfold maxLen; omega
  · omega
  · simp; omega
  · intro v' w' h1 h2 _
    refine h v' w' ?_ ?_
    · show w'.ownsRow B 58 2 v' (L ++ [(d1, d2)]).length (flatE (L ++ [(d1, d2)]))
      rw [flatE_append, List.length_append]
      exact h1
    · have := h2
      exact ⟨this.os, this.tape, this.output, by have := this.size; simp at this; omega, fun k hk hne => (this.block k (by simp; omega) hne).trans (Below.heap_alloc _ _ _ hk)⟩

set_option maxHeartbeats 1600000 in
theorem without_any {W : World} {q : Nat} {room : Int} {A : Option Addr} {c : Nat} {L : Ent} (id : Int) (h : HasF W q room (.slice A L.length c)) (hr : RdE W A L) (hlen : L.length ≤ 100000) :
    Calls Try.prog 29 #[.pointer (some ⟨q, 0, none⟩), .int .i64 id] W fun e w' => ∃ v, e = .returned v ∧ ERow w' W.heap.size v (del L id) ∧ Below W.heap.size W w' := by
  have c1 := h.c1
  obtain ⟨n, en⟩ : ∃ n, L.length = n := ⟨_, rfl⟩
  rw [en] at c1 hlen
  have HE := Lib.hid (And.intro hr (And.intro en h))
  clear h hr en
  go_enter Try.func29, Try.ntmps29
  go_wp2_with fail
  go_loopw [5, 12] (fun ov i wr => ∃ (k : Nat) (acc : Ent), k ≤ n ∧ i = .int .i64 k ∧ acc ++ del (L.drop k) id = del L id ∧ acc.length ≤ k ∧ ERow wr W.heap.size ov acc ∧ Below W.heap.size W wr) (fun _ i _ => n - (intOf i).toNat)
  case atStart => exact ⟨0, [], Nat.zero_le _, rfl, by simp, Nat.le_refl _, World.ownsRow_nil _ _ _ _, Below.refl _ _⟩
  case round =>
    obtain ⟨k, acc, hk, rfl, hd, hal, hrow, hbel⟩ := hrel
    by_cases hlt : k < n
    · have hkl : k < L.length := by rw [HE.out.2.1]; exact hlt
      have e1 := (hbel.cell (p := ⟨q, 1, none⟩) HE.out.2.2.lt).trans c1
      rcases HE.out.1 with hr | ⟨b, rfl, hbl, hc⟩
      · rw [hr] at hkl; simp at hkl
      have d0 := (hbel.cell (p := ⟨b, k * 2, none⟩) hbl).trans (hc k hkl).1
      have d1 := (hbel.cell (p := ⟨b, k * 2 + 1, none⟩) hbl).trans (hc k hkl).2
      rw [drop_cons hkl] at hd
      obtain ⟨o, eo⟩ : ∃ o, atE L k = o := ⟨_, rfl⟩
      rw [eo] at d0 d1 hd
      obtain ⟨o1, o2⟩ := o
      simp only at d0 d1
      have HR := Lib.hid (And.intro hrow hbel)
      have hsz := hbel.size
      by_cases hq : o1 = id
      · have hbq : (o1 != id) = false := by simpa using hq
        have hd' : acc ++ del (L.drop (k + 1)) id = del L id := by
          rw [← hd]
          congr 1
          unfold del
          rw [List.filter_cons, if_neg (by simpa using hq)]
        have HD := Lib.hid hd'
        clear hc hd hd' eo hkl hq hrow hbel
        go_wp2_with fail
        go_roundw
        case rel => exact ⟨k + 1, acc, by omega, by go_num, HD.out, by omega, HR.out.1, HR.out.2⟩
        case measure => simp [intOf]; omega
      · have hbq : (o1 != id) = true := by simpa using hq
        have hd' : (acc ++ [(o1, o2)]) ++ del (L.drop (k + 1)) id = del L id := by
          rw [← hd, List.append_assoc]
          congr 1
          conv => rhs; unfold del
          rw [List.filter_cons, if_pos (by simpa using hq)]
          rfl
        have HD := Lib.hid hd'
        clear hc hd hd' eo hkl hq hrow hbel
        go_wp2_with (at_builtin; refine wpList_more rfl _ _ rfl W.heap.size _ acc (by rfl) HR.out.1 _ _ (by rfl) (by omega) hsz ?_)
        intro v' w5 hrow' hg5
        have hbel' : Below W.heap.size W w5 := HR.out.2.grown hg5 hsz (fun j hj => (World.ownsRow.lt HR.out.1 j hj).1)
        have H5 := Lib.hid (And.intro hrow' hbel')
        clear hrow' hg5 hbel'
        go_wp2_with fail
        go_roundw
        case rel => exact ⟨k + 1, acc ++ [(o1, o2)], by omega, by go_num, HD.out, by simp; omega, H5.out.1, H5.out.2⟩
        case measure => simp [intOf]; omega
    · have hdn : L.drop k = [] := List.drop_eq_nil_of_le (by rw [HE.out.2.1]; omega)
      rw [hdn] at hd
      have hacc : acc = del L id := by rw [← hd]; simp [del]
      have HR := Lib.hid (And.intro hrow (And.intro hbel hacc))
      clear hdn hd hacc hrow hbel
      go_wp2_with fail
      go_ret
      exact ⟨_, rfl, by have := HR.out.1; rwa [HR.out.2.2] at this, HR.out.2.1⟩

end Go.Proofs.Ythgjccbmfbileaa.Rf
