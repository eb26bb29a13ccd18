/- The contract of 'at'. -/
import Derived.Test.YtclplacjgofccaaB
import Derived.Deep.RegionWith
import Derived.WalkMore
import Derived.Shelf.SlSortCmp.NoneTotal
namespace Go.Proofs.Ytclplacjgofccaa
open Go.RowKit Go.Sort Go.Shelf Go.Lib
set_option linter.unusedVariables false
set_option linter.unusedSimpArgs false
attribute [local go_sem ↓] Go.wp_at_zero Go.wp_at_succ

def held (t : Int) : Int := max 0 (min t 1152921504606846976)
theorem held_bd (t : Int) : 0 ≤ held t ∧ held t ≤ 1152921504606846976 := by unfold held; omega

theorem held_any (n : Int) (w : World) : Calls Try.prog 21 #[.int .i64 n] w fun e w' => e = .returned (.int .i64 (held n)) ∧ w' = w := by
  have hk : ∀ r : Int, r = max 0 (min n 1152921504606846976) → Ending.returned (.int .i64 r) = .returned (.int .i64 (held n)) := fun r h => by rw [h]; rfl
  go_enter Try.func21, Try.ntmps21
  go_wp2
  all_goals
    go_ret
    exact ⟨hk _ (by omega), rfl⟩

/-- A shaper. -/
structure Sh where
  step : Int
  early : Int
  slow : Int
  quick : Int
  next : Int
  any : Bool
  L : List Ch

def HasSh (W : World) (p : Nat) (v : Value) (x : Sh) : Prop := W.heap[p]? = some (.cells #[.int .i64 x.step, .int .i64 x.early, .int .i64 x.slow, .int .i64 x.quick, .int .i64 x.next, .bool x.any, v] 58 (0, 0))
section
variable {W : World} {p : Nat} {v : Value} {x : Sh} (h : HasSh W p v x)
include h
theorem HasSh.c0 : W.cell? ⟨p, 0, none⟩ = some (.int .i64 x.step) := by unfold HasSh at h; simp [World.cell?, h]
theorem HasSh.c1 : W.cell? ⟨p, 1, none⟩ = some (.int .i64 x.early) := by unfold HasSh at h; simp [World.cell?, h]
theorem HasSh.c2 : W.cell? ⟨p, 2, none⟩ = some (.int .i64 x.slow) := by unfold HasSh at h; simp [World.cell?, h]
theorem HasSh.c3 : W.cell? ⟨p, 3, none⟩ = some (.int .i64 x.quick) := by unfold HasSh at h; simp [World.cell?, h]
theorem HasSh.c4 : W.cell? ⟨p, 4, none⟩ = some (.int .i64 x.next) := by unfold HasSh at h; simp [World.cell?, h]
theorem HasSh.c5 : W.cell? ⟨p, 5, none⟩ = some (.bool x.any) := by unfold HasSh at h; simp [World.cell?, h]
theorem HasSh.c6 : W.cell? ⟨p, 6, none⟩ = some v := by unfold HasSh at h; simp [World.cell?, h]
theorem HasSh.fr (o : Nat) : W.frozen? ⟨p, o, none⟩ = false := by unfold HasSh at h; simp [World.frozen?, h]
theorem HasSh.lt : p < W.heap.size := lt_of_block h
end
theorem HasSh.below {W W' : World} {p : Nat} {v : Value} {x : Sh} (h : HasSh W p v x) (hb : Below W.heap.size W W') : HasSh W' p v x := (hb.block p h.lt).trans h

theorem CRow.below {W W' : World} {B : Nat} {v : Value} {L : List Ch} (h : CRow W B v L) (hb : Below W.heap.size W W') : CRow W' B v L := by
  rcases h with h | ⟨h1, h2, h3⟩
  · exact .inl h
  · refine .inr ⟨h1, h2, ?_⟩
    rcases h3 with h3 | ⟨g, cap, cur, k1, k2, k3, k4⟩
    · exact .inl h3
    · exact .inr ⟨g, cap, cur, k1, k2, (hb.block g (lt_of_block k3)).trans k3, k4⟩

theorem CRow.rd {W : World} {B : Nat} {v : Value} {L : List Ch} (h : CRow W B v L) : ∃ A c, v = .slice A L.length c ∧ RdC W A L := by
  rcases h with ⟨rfl, rfl⟩ | ⟨h1, h2⟩
  · exact ⟨none, 0, rfl, .inl rfl⟩
  · obtain ⟨g, cap, cur, hv, hb, hg, ht⟩ := CRow.cells (.inr ⟨h1, h2⟩) h1
    refine ⟨_, cap, hv, .inr ⟨g, rfl, lt_of_block hg, fun k hk => ?_⟩⟩
    have hq := flatC_get L k hk
    rw [← ht] at hq
    have e1 : (cur.toList.take (L.length * 2))[k * 2]? = cur[k * 2]? := by rw [List.getElem?_take_of_lt (by omega)]; simp
    have e2 : (cur.toList.take (L.length * 2))[k * 2 + 1]? = cur[k * 2 + 1]? := by rw [List.getElem?_take_of_lt (by omega)]; simp
    rw [e1, e2] at hq
    have c1 : ∀ o, W.cell? ⟨g, o, none⟩ = cur[o]? := fun o => by simp [World.cell?, hg]
    rw [c1, c1]
    exact hq

theorem RdC.below {w w' : World} {A : Option Addr} {L : List Ch} (h : RdC w A L) (hb : Below w.heap.size w w') : RdC w' A L := by
  rcases h with h | ⟨b, h1, h2, h3⟩
  · exact .inl h
  · exact .inr ⟨b, h1, Nat.lt_of_lt_of_le h2 hb.size, fun k hk => ⟨(hb.cell (p := ⟨b, _, none⟩) h2).trans (h3 k hk).1, (hb.cell (p := ⟨b, _, none⟩) h2).trans (h3 k hk).2⟩⟩

theorem below_drewN {B : Nat} {a w : World} (h : Below B a w) (n : Nat) : Below B a (w.drewN n) := ⟨h.os, h.tape, h.output, h.size, h.block⟩

/-- The clone, sorted. -/
theorem by_time {W : World} {g cap : Nat} {cur : Array Value} {L : List Ch} (h8 : L.length ≤ 8) (hg : W.heap[g]? = some (.cells cur 64 (0, 0))) (ht : cur.toList.take (L.length * 2) = flatC L) :
    Calls Try.prog 29 #[.slice (some ⟨g, 0, none⟩) L.length cap, .func (.func 30) #[] #[]] W fun e w' => e = .returned (.tuple #[]) ∧ RdC w' (some ⟨g, 0, none⟩) (sortAt L.toArray).toList ∧ ∀ B, B ≤ g → Below B W w' := by
  have hlt := lt_of_block hg
  have hH : HoldsK encC 2 W g 0 L.toArray := holds_of_own hg (by simpa using ht)
  have hc := sort_any g 0 cap L.toArray W hH hlt (by simpa using h8)
  rw [show L.toArray.size = L.length by simp] at hc
  refine hc.mono ?_
  rintro e w' ⟨rfl, n, os, rfl⟩
  refine ⟨rfl, rd_of_holds ?_ (holdsK_sortWorldK_c encC 2 W g 0 L.toArray (sortAt L.toArray) n os hH hlt (sortAt_size _)), fun B hB => below_sort hB (by omega)⟩
  exact Nat.lt_of_lt_of_le hlt (size_sortWorldK_c encC 2 W g 0 n _ os)

theorem by_time_nil (W : World) : Calls Try.prog 29 #[.slice none 0 0, .func (.func 30) #[] #[]] W fun e w' => e = .returned (.tuple #[]) ∧ w' = W := by
  have hcon : ∀ W, Calls Try.prog 36 #[.slice none 0 0, .int .i64 0, .int .i64 0, .func (.func 30) #[] #[]] W fun e w' => e = .returned (.tuple #[]) ∧ w' = W := fun W => AnyF.insertionSortCmpFunc_none ins36 none 0 (.func (.func 30) #[] #[]) W
  have hst : ∀ W, Calls Try.prog 34 #[.slice none 0 0, .int .i64 0, .func (.func 30) #[] #[]] W fun e w' => e = .returned (.tuple #[]) ∧ w' = W := fun W => by
    go_enter Try.func34, Try.ntmps34
    go_wp2_with fail
    go_loop [7, 8] (fun a b => a = .int .i64 0 ∧ b = .int .i64 20) (fun _ _ => 0)
    case atStart => exact ⟨rfl, rfl⟩
    case round =>
      obtain ⟨rfl, rfl⟩ := hrel
      go_wp2_with fail
      refine (hcon _).mono ?_
      rintro e w' ⟨rfl, rfl⟩
      go_wp2_with fail
      go_loop [6] (fun a => a = .int .i64 20) (fun _ => 0)
      case atStart => rfl
      case round =>
        obtain rfl := hrel
        go_wp2_with fail
        go_end0
        exact ⟨rfl, rfl⟩
  go_enter Try.func29, Try.ntmps29
  go_wp2_with (go_at_call 34; refine (hst _).mono ?_; rintro e w' ⟨rfl, rfl⟩)
  go_end0
  exact ⟨rfl, rfl⟩

theorem CRow.own {W : World} {B : Nat} {v : Value} {L : List Ch} (h : CRow W B v L) : W.ownsRow B 64 2 v L.length (flatC L) := by
  rcases h with ⟨rfl, rfl⟩ | ⟨_, h⟩
  · exact World.ownsRow_nil W B 64 2
  · exact h

/-- 'left = append(left, c)' on a row of the call's own. -/
theorem wpList_push {ops : Array Oper} {rest : List Oper} {o : Oper} {a : Act} {Q : Exit → Act → World → Prop} {W : World} (hgd : o.guard = none) (s x : Operand)
    (ho : o.op = .call { callee := .builtin .append, args := #[s, x], argTypes := #[56, 56] })
    (B : Nat) (v : Value) (L : List Ch) (hs : a.eval s = v) (hown : CRow W B v L) (d1 d2 : Int) (hx : a.eval x = .slice (some ⟨W.heap.size, 0, none⟩) 1 1)
    (hl : L.length < 1000000) (hbase : B ≤ W.heap.size)
    (h : ∀ v' w', CRow w' B v' (L ++ [(d1, d2)]) → W.grownBy w' v.ownBlock → wpList Try.prog ops Q rest (a.put o.dst v') w') :
    wpList Try.prog ops Q (o :: rest) a (W.alloc (.cells #[.int .i64 d1, .int .i64 d2] 64)) := by
  obtain ⟨i0, hi, hz0, hz1, hz2⟩ := info_parts info64
  refine wpList_append_own _ hgd s x 56 ho B 64 i0 (.agg #[.int .i64 0, .int .i64 0]) 2 16 Try.underlying56 hi hz0 hz1 hz2 rfl (by decide) v L.length (flatC L) hs (World.ownsRow.alloc hown.own _) ⟨W.heap.size, 0, none⟩ 1 1 [.int .i64 d1, .int .i64 d2] hx rfl ?_ ?_ ?_ ?_ ?_ ?_
  · intro j u hj
    match j, hj with
    | 0, hj => simp at hj; subst hj; simp [Addr.add]
    | 1, hj => simp at hj; subst hj; simp [Addr.add]
  · intro u hu; simp at hu; rcases hu with rfl | rfl <;> rfl
  · unfold maxLen; omega
  · omega
  · simp; omega
  · intro v' w' h1 h2 _
    refine h v' w' (.inr ⟨by simp, ?_⟩) ?_
    · rw [flatC_append, List.length_append]
      exact h1
    · have := h2
      exact ⟨this.os, this.tape, this.output, by have := this.size; simp at this; omega, fun k hk hne => (this.block k (by simp; omega) hne).trans (Below.heap_alloc _ _ _ hk)⟩

set_option maxHeartbeats 1600000 in
theorem at_any {W : World} {B p : Nat} {v : Value} {x : Sh} (t : Int) (hp : HasSh W p v x) (hr : CRow W B v x.L) (h8 : x.L.length ≤ 8) (h0 : ∀ c ∈ x.L, 0 ≤ c.2) (hL : x.L ≠ []) :
    Calls Try.prog 24 #[.pointer (some ⟨p, 0, none⟩), .int .i64 t] W fun e w' => ∃ v', e = .returned (.tuple #[.int .i64 (comeF (held t) x.step x.L), v']) ∧ CRow w' W.heap.size v' (leftF (held t) x.L) ∧ Below W.heap.size W w' := by
  have hcl := clone_any hr hL h8
  have hM : (sortAt x.L.toArray).toList.length = x.L.length := by simp [sortAt_size]
  have hF := sorted_last (held t) x.step x.L.toArray (by simpa using h0)
  have hbt := fun (W : World) (g cap : Nat) (cur : Array Value) (h1 : W.heap[g]? = some (.cells cur 64 (0, 0))) (h2 : cur.toList.take (x.L.length * 2) = flatC x.L) => by_time (cap := cap) h8 h1 h2
  obtain ⟨M, eM⟩ : ∃ M, (sortAt x.L.toArray).toList = M := ⟨_, rfl⟩
  rw [eM] at hM hF
  simp only [eM] at hbt
  have e2 : x.L.toArray.toList = x.L := by simp
  rw [e2] at hF
  rw [← hF]
  clear eM hF e2
  have HBT := Lib.hid hbt
  clear hbt
  obtain ⟨A, c, rfl, hrd⟩ := hr.rd
  have h0c := hp.c0
  have h6c := hp.c6
  have HP := Lib.hid (And.intro hp (And.intro hr (And.intro hrd h0)))
  clear hp hr hrd h0
  go_enter Try.func24, Try.ntmps24
  go_wp2_with fail
  go_step3
  go_wp2_with fail
  refine hcl.mono ?_
  rintro e w1 ⟨g, cap, cur, rfl, hg, hcells, ht, hb1⟩
  have hbt := HBT.out w1 g cap cur hcells ht
  clear hcl hcells ht
  go_wp2_with fail
  refine hbt.mono ?_
  rintro e w2 ⟨rfl, hr2, hb2⟩
  have hb3 := hb1.trans (hb2 _ hg)
  clear hbt hb2 hb1
  go_wp2_with fail
  obtain ⟨n, en⟩ : ∃ n, x.L.length = n := ⟨_, rfl⟩
  rw [en] at hM h8 ⊢
  have HM := Lib.hid (And.intro hr2 (And.intro hb3 (And.intro hM en)))
  clear hr2 hb3 hM en h0c h6c HBT
  have hbd := held_bd t
  go_loopw [6, 26] (fun sv i wr => ∃ (k : Nat) (s : Int), k ≤ n ∧ i = .int .i64 k ∧ sv = .int .i64 s ∧ (M.drop k).foldl (fun r c => if c.2 ≤ held t then c.1 else r) s = lastF (held t) x.step M ∧ Below w2.heap.size w2 wr) (fun _ i _ => n - (intOf i).toNat)
  case atStart => exact ⟨0, x.step, Nat.zero_le _, rfl, rfl, rfl, Below.refl _ _⟩
  case round =>
    obtain ⟨k, s, hk, rfl, rfl, hf, hbel⟩ := hrel
    by_cases hlt : k < n
    · have hrd := HM.out.1.below hbel
      have hkm : k < M.length := by have := HM.out.2.2.1; omega
      rcases hrd with hrd | ⟨b, hb, hbl, hc⟩
      · rw [hrd] at hkm; simp at hkm
      simp only [Option.some.injEq, Addr.mk.injEq, and_true] at hb
      subst hb
      obtain ⟨c0, c1⟩ := hc k hkm
      have hd : M.drop k = atL M k :: M.drop (k + 1) := by
        rw [List.drop_eq_getElem_cons hkm]; unfold atL; rw [List.getElem?_eq_getElem hkm]; rfl
      obtain ⟨d, ed⟩ : ∃ d, atL M k = d := ⟨_, rfl⟩
      rw [ed] at c0 c1 hd
      rw [hd, List.foldl_cons] at hf
      obtain ⟨d1, d2⟩ := d
      simp only at c0 c1 hf
      have HF := Lib.hid hf
      have HB := Lib.hid hbel
      clear hc hd hf ed hbel hkm
      by_cases hle : d2 ≤ held t
      · go_wp2_with fail
        go_quiet ((go_at_call 21; exact Calls.quiet_of_same (held_any _ _)))
        go_wp2_with fail
        go_roundw
        case rel => exact ⟨k + 1, d1, by omega, by go_num, rfl, by have := HF.out; rwa [if_pos hle] at this, below_drewN (HB.out.alloc HB.out.size _) _⟩
        case measure => simp [intOf]; omega
      · go_wp2_with fail
        go_quiet ((go_at_call 21; exact Calls.quiet_of_same (held_any _ _)))
        go_wp2_with fail
        go_roundw
        case rel => exact ⟨k + 1, s, by omega, by go_num, rfl, by have := HF.out; rwa [if_neg (by omega)] at this, below_drewN (HB.out.alloc HB.out.size _) _⟩
        case measure => simp [intOf]; omega
    · have hkn : k = n := by omega
      subst hkn
      have hd : M.drop k = [] := List.drop_eq_nil_of_le (by have := HM.out.2.2.1; omega)
      rw [hd, List.foldl_nil] at hf
      subst hf
      have hb4 := HM.out.2.1.trans (hbel.mono HM.out.2.1.size)
      have h6c := (HP.out.1.below hb4).c6
      have HB := Lib.hid hb4
      clear hd hbel hb4
      go_wp2_with fail
      go_step3
      go_wp2_with fail
      have hL8 : x.L.length ≤ 8 := by rw [HM.out.2.2.2]; exact h8
      clear HM h6c h8
      go_loopw [7, 43] (fun lv i wr' => ∃ (j : Nat) (acc : List Ch), j ≤ x.L.length ∧ i = .int .i64 j ∧ acc ++ leftF (held t) (x.L.drop j) = leftF (held t) x.L ∧ acc.length ≤ j ∧ CRow wr' W.heap.size lv acc ∧ Below W.heap.size W wr') (fun _ i _ => x.L.length - (intOf i).toNat)
      case atStart => exact ⟨0, [], Nat.zero_le _, rfl, by simp, Nat.le_refl _, .inl ⟨rfl, rfl⟩, HB.out⟩
      case round =>
        obtain ⟨j, acc, hj, rfl, hf, hal, hrow, hbel⟩ := hrel
        by_cases hlt : j < x.L.length
        · rcases HP.out.2.2.1.below hbel with hrd | ⟨b, rfl, hbl, hc⟩
          · rw [hrd] at hlt; simp at hlt
          obtain ⟨c0, c1⟩ := hc j hlt
          have hd : x.L.drop j = atL x.L j :: x.L.drop (j + 1) := by
            rw [List.drop_eq_getElem_cons hlt]; unfold atL; rw [List.getElem?_eq_getElem hlt]; rfl
          obtain ⟨d, ed⟩ : ∃ d, atL x.L j = d := ⟨_, rfl⟩
          rw [ed] at c0 c1 hd
          rw [hd] at hf
          obtain ⟨d1, d2⟩ := d
          simp only at c0 c1
          have HF := Lib.hid hf
          have HR := Lib.hid (And.intro hrow hbel)
          clear hc hd hf ed hrow hbel
          by_cases hle : d2 ≤ held t
          · go_wp2_with fail
            go_quiet ((go_at_call 21; exact Calls.quiet_of_same (held_any _ _)))
            go_wp2_with fail
            go_roundw
            case rel => exact ⟨j + 1, acc, by omega, by go_num, by have := HF.out; unfold leftF at this ⊢; rw [List.filter_cons, if_neg (by simp; omega)] at this; exact this, by omega, (HR.out.1.below ((Below.refl _ _).alloc (Nat.le_refl _) _)).below (below_drewN (Below.refl _ _) _), below_drewN (HR.out.2.alloc HR.out.2.size _) _⟩
            case measure => simp [intOf]; omega
          · have hrowD : ∀ n, CRow ((wr.alloc (.cells #[.int .i64 d1, .int .i64 d2] 64)).drewN n) W.heap.size u7 acc := fun n => (HR.out.1.below ((Below.refl _ _).alloc (Nat.le_refl _) _)).below (below_drewN (Below.refl _ _) _)
            have hszD : ∀ n, W.heap.size ≤ ((wr.alloc (.cells #[.int .i64 d1, .int .i64 d2] 64)).drewN n).heap.size := fun n => by
              have := HR.out.2.size
              show W.heap.size ≤ (wr.alloc _).heap.size
              simp
              omega
            have hptr : ∀ n, ((wr.alloc (.cells #[.int .i64 d1, .int .i64 d2] 64)).drewN n).heap.size = wr.heap.size + 1 := fun n => by show (wr.alloc _).heap.size = _; simp
            have HS := Lib.hid (And.intro hptr hszD)
            clear hptr hszD
            go_wp2_with fail
            go_quiet ((go_at_call 21; exact Calls.quiet_of_same (held_any _ _)))
            go_wp2_with (at_builtin; refine wpList_push rfl _ _ rfl W.heap.size _ acc rfl (hrowD _) d1 d2 (by rw [HS.out.1]; rfl) (by omega) (HS.out.2 _) ?_)
            intro v' w5 hrow' hg5
            have hbel' : Below W.heap.size W w5 := (below_drewN (HR.out.2.alloc HR.out.2.size (.cells #[.int .i64 d1, .int .i64 d2] 64)) _).grown hg5 (HS.out.2 _) (fun k hk => (World.ownsRow.lt HR.out.1.own k hk).1)
            clear hg5 hrowD
            go_wp2_with fail
            go_roundw
            case rel => exact ⟨j + 1, acc ++ [(d1, d2)], by omega, by go_num, by have := HF.out; unfold leftF at this ⊢; rw [List.filter_cons, if_pos (by simp; omega)] at this; simpa using this, by simp; omega, hrow', hbel'⟩
            case measure => simp [intOf]; omega
        · have hjn : j = x.L.length := by omega
          have hd : x.L.drop j = [] := List.drop_eq_nil_of_le (by omega)
          rw [hd] at hf
          have hf' : acc = leftF (held t) x.L := by simpa [leftF] using hf
          clear hd hf
          subst hf'
          have HR := Lib.hid (And.intro hrow hbel)
          clear hrow hbel
          go_wp2_with fail
          rw [Exit.noGoto_ret]
          refine bodyPost_ret (v := .tuple #[.int .i64 (lastF (held t) x.step M), u7]) (by simp [results, Try.results24, go_sem]) rfl ?_
          exact ⟨u7, rfl, HR.out.1, HR.out.2⟩

end Go.Proofs.Ytclplacjgofccaa
