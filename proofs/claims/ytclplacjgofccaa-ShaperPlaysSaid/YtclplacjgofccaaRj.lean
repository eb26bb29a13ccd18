/- The reference's Set. -/
import Derived.Test.YtclplacjgofccaaRi
import Derived.Deep.DeepCutAuto
import Derived.IntWalk
namespace Go.Proofs.Ytclplacjgofccaa.Rf
open Go.RowKit Go.Sort Go.Shelf Go.Lib
set_option linter.unusedVariables false
set_option linter.unusedSimpArgs false
attribute [local go_sem ↓] Go.wp_at_zero Go.wp_at_succ

def lastL (s : Int) (L : List Ch) : Int := (L.getLast?.map (·.1)).getD s
def chR (t s : Int) (y : Re) : Ch := (max 1 (held s), held t + (if max 1 (held s) < lastL (comeR t y).step (comeR t y).L then y.quick else y.slow))
def setRe (t s : Int) (y : Re) : Re := if (comeR t y).L.length = 8 then comeR t y else { comeR t y with L := (comeR t y).L ++ [chR t s y] }
def setRr (t : Int) (y : Re) : Int := if (comeR t y).L.length = 8 then 9 else 0

theorem lastL_at (s : Int) (L : List Ch) (m : Nat) (h : L.length = m + 1) : lastL s L = (atL L m).1 := by
  unfold lastL atL
  rw [List.getLast?_eq_getElem?, h]
  have : m < L.length := by omega
  rw [Nat.add_sub_cancel, List.getElem?_eq_getElem this]
  rfl
theorem lastL_nil (s : Int) (L : List Ch) (h : L.length = 0) : lastL s L = s := by
  unfold lastL
  rw [List.eq_nil_of_length_eq_zero h]
  rfl

/-- The shaper, once the time has come. -/
structure Cmd (W : World) (p : Nat) (v : Value) (t : Int) (y : Re) (wx : World) : Prop where
  r : HasR wx p v (comeR t y)
  row : RRow wx W.heap.size v (leftF (held t) y.L)
  k : Kept p W wx
theorem Cmd.drewN {W : World} {p : Nat} {v : Value} {t : Int} {y : Re} {wx : World} (h : Cmd W p v t y wx) (n : Nat) : Cmd W p v t y (wx.drewN n) :=
  ⟨h.r, h.row.below (below_drewN (Below.refl _ _) n), h.k.below (below_drewN (Below.refl _ _) n)⟩

theorem Cmd.done {W w8 w9 : World} {p : Nat} {v v' : Value} {t : Int} {y : Re} {L : List Ch} (h : Cmd W p v t y w8) (hb : Below w8.heap.size w8 w9) (hr : RRow w9 W.heap.size v' L) :
    HasR (w9.setCell ⟨p, 7, none⟩ v') p v' { comeR t y with L := L } ∧ RRow (w9.setCell ⟨p, 7, none⟩ v') W.heap.size v' L ∧ Kept p W (w9.setCell ⟨p, 7, none⟩ v') := by
  have h9 := h.r.below hb
  refine ⟨?_, hr.set h9 7 _, (h.k.below hb).set 7 _⟩
  unfold HasR at h9 ⊢
  rw [heap_set h9]
  rfl

theorem own_empty (w : World) (B : Nat) (hB : B ≤ w.heap.size) : (w.alloc (.cells #[] 66)).ownsRow B 66 2 (.slice (some ⟨w.heap.size, 0, none⟩) 0 0) 0 (flatC []) :=
  ⟨rfl, .inr ⟨w.heap.size, 0, #[], rfl, hB, heap_alloc_new _ _, Nat.le_refl _, by unfold maxLen; omega, rfl, rfl⟩⟩

/-- 'append(x, L...)' onto what is empty and one's own. -/
theorem wpList_onto {ops : Array Oper} {rest : List Oper} {o : Oper} {a : Act} {Q : Exit → Act → World → Prop} {W : World} (hgd : o.guard = none) (s x : Operand)
    (ho : o.op = .call { callee := .builtin .append, args := #[s, x], argTypes := #[34, 34] })
    (B : Nat) (v : Value) (L : List Ch) (hs : a.eval s = v) (hown : W.ownsRow B 66 2 v 0 (flatC [])) (b c : Nat) (hx : a.eval x = .slice (some ⟨b, 0, none⟩) L.length c)
    (hc : ∀ k, k < L.length → W.cell? ⟨b, k * 2, none⟩ = some (.int .i64 (atL L k).1) ∧ W.cell? ⟨b, k * 2 + 1, none⟩ = some (.int .i64 (atL L k).2))
    (hl : L.length < 1000000) (hbase : B ≤ W.heap.size)
    (h : ∀ v' w', w'.ownsRow B 66 2 v' L.length (flatC L) → W.grownBy w' v.ownBlock → wpList Try.prog ops Q rest (a.put o.dst v') w') :
    wpList Try.prog ops Q (o :: rest) a W := by
  obtain ⟨i0, hi, hz0, hz1, hz2⟩ := info_parts info66
  refine wpList_append_own _ hgd s x 34 ho B 66 i0 (.agg #[.int .i64 0, .int .i64 0]) 2 16 Try.underlying34 hi hz0 hz1 hz2 rfl (by decide) v 0 (flatC []) hs hown ⟨b, 0, none⟩ L.length c (flatC L) hx (flatC_length L) ?_ ?_ ?_ ?_ ?_ ?_
  · intro j u hj
    have hjl : j < L.length * 2 := by rw [← flatC_length]; exact (List.getElem?_eq_some_iff.1 hj).1
    have hadd : (⟨b, 0, none⟩ : Addr).add j = ⟨b, j, none⟩ := by unfold Addr.add; split <;> simp_all
    rw [hadd]
    have hq := flatC_get L (j / 2) (by omega)
    have hw := hc (j / 2) (by omega)
    rcases Nat.mod_two_eq_zero_or_one j with hm | hm
    · have e2 : j = j / 2 * 2 := by omega
      rw [e2] at hj ⊢
      rw [hq.1] at hj
      rw [← hj]
      exact hw.1
    · have e2 : j = j / 2 * 2 + 1 := by omega
      rw [e2] at hj ⊢
      rw [hq.2] at hj
      rw [← hj]
      exact hw.2
  · intro u hu
    unfold flatC at hu
    rw [List.mem_flatMap] at hu
    obtain ⟨c, _, hc⟩ := hu
    simp [encC] at hc
    rcases hc with rfl | rfl <;> rfl
  · unfold maxLen; omega
  · omega
  · exact hbase
  · intro v' w' h1 h2 _
    refine h v' w' ?_ h2
    simpa [flatC] using h1

/-- 'append(x, c)' onto what is one's own. -/
theorem wpList_more {ops : Array Oper} {rest : List Oper} {o : Oper} {a : Act} {Q : Exit → Act → World → Prop} {W : World} (hgd : o.guard = none) (s x : Operand)
    (ho : o.op = .call { callee := .builtin .append, args := #[s, x], argTypes := #[34, 34] })
    (B : Nat) (v : Value) (L : List Ch) (hs : a.eval s = v) (hown : W.ownsRow B 66 2 v L.length (flatC L)) (d1 d2 : Int) (hx : a.eval x = .slice (some ⟨W.heap.size, 0, none⟩) 1 1)
    (hl : L.length < 1000000) (hbase : B ≤ W.heap.size)
    (h : ∀ v' w', RRow w' B v' (L ++ [(d1, d2)]) → W.grownBy w' v.ownBlock → wpList Try.prog ops Q rest (a.put o.dst v') w') :
    wpList Try.prog ops Q (o :: rest) a (W.alloc (.cells #[.int .i64 d1, .int .i64 d2] 66)) := by
  obtain ⟨i0, hi, hz0, hz1, hz2⟩ := info_parts info66
  refine wpList_append_own _ hgd s x 34 ho B 66 i0 (.agg #[.int .i64 0, .int .i64 0]) 2 16 Try.underlying34 hi hz0 hz1 hz2 rfl (by decide) v L.length (flatC L) hs (World.ownsRow.alloc hown _) ⟨W.heap.size, 0, none⟩ 1 1 [.int .i64 d1, .int .i64 d2] hx rfl ?_ ?_ ?_ ?_ ?_ ?_
  · intro j u hj
    match j, hj with
    | 0, hj => simp at hj; subst hj; simp [Addr.add]
    | 1, hj => simp at hj; subst hj; simp [Addr.add]
  · intro u hu; simp at hu; rcases hu with rfl | rfl <;> rfl
  · unfold maxLen; omega
  · omega
  · simp; omega
  · intro v' w' h1 h2 _
    refine h v' w' (.inr ⟨by simp, ?_⟩) ?_
    · rw [flatC_append, List.length_append]
      exact h1
    · have := h2
      exact ⟨this.os, this.tape, this.output, by have := this.size; simp at this; omega, fun k hk hne => (this.block k (by simp; omega) hne).trans (Below.heap_alloc _ _ _ hk)⟩

set_option maxRecDepth 100000 in
set_option maxHeartbeats 3200000 in
theorem set_any {W : World} {B p : Nat} {v : Value} {y : Re} (t s : Int) (h : HasR W p v y) (hr : RRow W B v y.L) (h8 : y.L.length ≤ 8) (hq : 0 ≤ y.slow ∧ y.slow ≤ 1152921504606846976 ∧ 0 ≤ y.quick ∧ y.quick ≤ 1152921504606846976) :
    Calls Try.prog 13 #[.pointer (some ⟨p, 0, none⟩), .int .i64 t, .int .i64 s] W fun e w' => ∃ v', e = .returned (.int .i64 (setRr t y)) ∧ HasR w' p v' (setRe t s y) ∧ RRow w' W.heap.size v' (setRe t s y).L ∧ Kept p W w' := by
  have hc := come_any t h hr h8
  have HH := Lib.hid h
  have ff := h.fr
  obtain ⟨F, eF⟩ : ∃ F, comeF (held t) y.step y.L = F := ⟨_, rfl⟩
  simp only [eF] at hc
  have HF := Lib.hid eF
  have hlen := left_len (held t) y.L
  clear h hr eF
  obtain ⟨r, er⟩ : ∃ r, setRr t y = r := ⟨_, rfl⟩
  rw [er]
  have ER := Lib.hid er
  clear er
  go_enter Try.func13, Try.ntmps13
  go_wp2_with fail
  refine hc.mono ?_
  rintro e w1 ⟨v', rfl, hrow, hb⟩
  obtain ⟨A', c', ev, _⟩ := hrow.rd
  obtain ⟨N, eN⟩ : ∃ N, (leftF (held t) y.L).length = N := ⟨_, rfl⟩
  rw [eN] at ev hlen
  subst ev
  have hs := HH.out.below hb
  have k0 := hs.c0
  have k7 := hs.c7
  have kf0 := hs.fr 0
  have kf7 := hs.fr 7
  have h5 := come_stored HH.out hrow hb HF.out
  have H5 := Lib.hid h5
  have d0 := h5.1.c0
  have d5 := h5.1.c5
  have d6 := h5.1.c6
  have d7 := h5.1.c7
  have HN := Lib.hid eN
  clear hc h5 hs hrow hb eN
  by_cases h8 : N = 8
  · subst h8
    go_wp2_with fail
    have e9 : r = 9 := by
      rw [← ER.out]
      unfold setRr
      rw [if_pos (show (comeR t y).L.length = 8 from HN.out)]
    subst e9
    go_ret
    have e : setRe t s y = comeR t y := by
      unfold setRe
      rw [if_pos (show (comeR t y).L.length = 8 from HN.out)]
    rw [e]
    exact ⟨.slice A' 8 c', rfl, H5.out⟩
  · have hne8 : ((N : Int) == 8) = false := by simp; omega
    go_upto_if 38 with fail
    obtain ⟨w5, hw5⟩ : ∃ w5, ((w1.setCell ⟨p, 0, none⟩ (.int .i64 F)).setCell ⟨p, 7, none⟩ (.slice A' N c')) = w5 := ⟨_, rfl⟩
    rw [hw5] at H5 d0 d5 d6 d7
    rw [hw5]
    clear hw5
    have hlp := H5.out.1.lt
    have hfp := H5.out.1.fr 7
    have e0 : (comeR t y).step = F := HF.out
    rw [e0] at d0
    have E0 := Lib.hid e0
    have d5' : w5.cell? ⟨p, 5, none⟩ = some (.int .i64 y.slow) := d5
    have d6' : w5.cell? ⟨p, 6, none⟩ = some (.int .i64 y.quick) := d6
    clear e0 k0 k7 kf0 kf7 ff d5 d6
    go_cut [7] (fun s7 wx => s7 = .int .i64 (lastL F (leftF (held t) y.L)) ∧ Cmd W p (.slice A' N c') t y wx)
    case first =>
      have hNl := HN.out
      cases N with
      | zero =>
        have hl := lastL_nil F _ hNl
        have HL := Lib.hid hl
        clear hl hNl
        go_wp2_with fail
        go_meet
        case rel => exact ⟨by rw [HL.out, E0.out], ⟨H5.out.1, H5.out.2.1, H5.out.2.2⟩⟩
      | succ m =>
        have hl := lastL_at F _ m hNl
        obtain ⟨A2, c2, e2, hrd⟩ := H5.out.2.1.rd
        simp only [Value.slice.injEq] at e2
        obtain ⟨e2, e3, e4⟩ := e2
        subst e2
        subst e4
        rcases hrd with hrd | ⟨b, rfl, hbl, hc⟩
        · rw [hrd] at hNl; simp at hNl
        have hc0 := (hc m (by omega)).1
        obtain ⟨z, ez⟩ : ∃ z, (atL (leftF (held t) y.L) m).1 = z := ⟨_, rfl⟩
        rw [ez] at hc0 hl
        have HL := Lib.hid hl
        clear hl hc ez hNl e3
        have hm0 : (0 : Int) ≤ (m : Int) := Int.natCast_nonneg _
        have hm1 : IntKind.i64.wrap (((m + 1 : Nat) : Int) - 1) = (m : Int) := by rw [IntWalk.i64_in _ (by omega)]; omega
        go_wp2_with fail
        go_quiet (fail)
        go_wp2_with fail
        go_meet
        case rel => exact ⟨by rw [HL.out], Cmd.drewN ⟨H5.out.1, H5.out.2.1, H5.out.2.2⟩ _⟩
    case rest =>
      obtain ⟨rfl, hC⟩ := hcut
      obtain ⟨w6, rfl⟩ : ∃ w6 : World, w6 = wc := ⟨_, rfl⟩
      have hbt := held_bd t
      obtain ⟨l, el⟩ : ∃ l, lastL F (leftF (held t) y.L) = l := ⟨_, rfl⟩
      rw [el]
      have EL := Lib.hid el
      clear el
      have hws : IntKind.i64.wrap (held t + y.slow) = held t + y.slow := IntWalk.i64_in _ (by omega)
      have hwq : IntKind.i64.wrap (held t + y.quick) = held t + y.quick := IntWalk.i64_in _ (by omega)
      obtain ⟨c1, ec1⟩ : ∃ c1, max 1 (held s) = c1 := ⟨_, rfl⟩
      have EC := Lib.hid ec1
      have q5 : w6.cell? ⟨p, 5, none⟩ = some (.int .i64 y.slow) := hC.r.c5
      have HC6 := Lib.hid hC
      clear ec1 hC d0 d5' d6' d7 hlp hfp
      go_upto_region 8 with (go_at_call 23; refine (held_any _ _).mono ?_; rintro e w' ⟨rfl, rfl⟩)
      simp only [EC.out]
      go_cut [8] (fun s8 wx => s8 = .int .i64 (held t + y.slow) ∧ Cmd W p (.slice A' N c') t y wx)
      case first =>
        go_quiet ((go_at_call 23; exact Calls.quiet_of_same (held_any _ _)))
        go_wp2_with fail
        go_meet
        case rel => exact ⟨rfl, HC6.out.drewN _⟩
      case rest =>
        obtain ⟨rfl, hC⟩ := hcut
        obtain ⟨w7, rfl⟩ : ∃ w7 : World, w7 = wc := ⟨_, rfl⟩
        have q6 : w7.cell? ⟨p, 6, none⟩ = some (.int .i64 y.quick) := hC.r.c6
        have HC7 := Lib.hid hC
        clear hC q5
        go_upto_if 64 with fail
        go_cut [8] (fun s8 wx => s8 = .int .i64 (held t + if c1 < l then y.quick else y.slow) ∧ Cmd W p (.slice A' N c') t y wx)
        case first =>
          by_cases hq : c1 < l
          · have HQ := Lib.hid hq
            go_wp2_with fail
            go_quiet ((go_at_call 23; exact Calls.quiet_of_same (held_any _ _)))
            go_wp2_with fail
            go_meet
            case rel => exact ⟨by rw [if_pos HQ.out], HC7.out.drewN _⟩
          · have HQ := Lib.hid hq
            go_wp2_with fail
            go_meet
            case rel => exact ⟨by rw [if_neg (Int.not_lt.2 HQ.out)], HC7.out⟩
        case rest =>
          obtain ⟨rfl, hC⟩ := hcut
          obtain ⟨w8, rfl⟩ : ∃ w8 : World, w8 = wc := ⟨_, rfl⟩
          obtain ⟨c2, ec2⟩ : ∃ c2, (held t + if c1 < l then y.quick else y.slow) = c2 := ⟨_, rfl⟩
          rw [ec2]
          have q7 := hC.r.c7
          have qf := hC.r.fr 7
          have ql := hC.r.lt
          have HC8 := Lib.hid (And.intro hC ec2)
          have hN := HN.out
          clear hC ec2 q6 hws hwq
          have hBs : W.heap.size ≤ w8.heap.size := HC8.out.1.k.size
          have hr0 : r = 0 := by
            rw [← ER.out]
            unfold setRr
            rw [if_neg (show ¬ (comeR t y).L.length = 8 from fun e => h8 (by rw [← hN]; exact e))]
          subst hr0
          cases N with
          | zero =>
            obtain ⟨hL, ev⟩ : leftF (held t) y.L = [] ∧ Value.slice A' 0 c' = .slice none 0 0 := by
              rcases HC8.out.1.row with h | ⟨h, _⟩
              · exact h
              · exact absurd (List.eq_nil_of_length_eq_zero hN) h
            simp only [Value.slice.injEq] at ev
            obtain ⟨rfl, _, rfl⟩ := ev
            have hown := own_empty w8 W.heap.size hBs
            have hsz : W.heap.size ≤ (w8.alloc (.cells #[] 66)).heap.size := by simp; omega
            have HLL := Lib.hid hL
            clear hL hN
            go_wp2_with (at_builtin; refine wpList_more (W := w8.alloc (.cells #[] 66)) rfl _ _ rfl W.heap.size _ [] (by rfl) hown c1 c2 (by simp [go_sem]) (by simp) hsz ?_)
            intro v9 w9 hrow9 hg9
            have hb9 : Below w8.heap.size w8 w9 := ((Below.refl _ w8).alloc (Nat.le_refl _) _).grown hg9 (by simp) (fun k hk => by simp [Value.ownBlock] at hk; omega)
            have h9 := HC8.out.1.r.below hb9
            have g7 := h9.c7
            have gf := h9.fr 7
            have hR : RRow w9 W.heap.size v9 (leftF (held t) y.L ++ [(c1, c2)]) := by rw [HLL.out]; exact hrow9
            have HD := Lib.hid (HC8.out.1.done hb9 hR)
            obtain ⟨A9, c9, ev9, _⟩ := hR.rd
            obtain ⟨N9, eN9⟩ : ∃ N9, (leftF (held t) y.L ++ [(c1, c2)]).length = N9 := ⟨_, rfl⟩
            rw [eN9] at ev9
            subst ev9
            clear eN9
            clear h9 hb9 hR
            go_wp2_with fail
            go_ret
            have e9 : setRe t s y = { comeR t y with L := leftF (held t) y.L ++ [(c1, c2)] } := by
              unfold setRe
              rw [if_neg (show ¬ (comeR t y).L.length = 8 from fun e => h8 (by rw [← HN.out]; exact e))]
              unfold chR
              rw [show (comeR t y).step = F from HF.out, show (comeR t y).L = leftF (held t) y.L from rfl, EL.out, EC.out, HC8.out.2]
            rw [e9]
            first | exact ⟨_, rfl, HD.out⟩ | exact ⟨rfl, _, HD.out⟩
          | succ m =>
            obtain ⟨A2, c2', e2, hrd⟩ := HC8.out.1.row.rd
            simp only [Value.slice.injEq] at e2
            obtain ⟨e2, e3, e4⟩ := e2
            subst e2
            subst e4
            rcases hrd with hrd | ⟨b, rfl, hbl, hc⟩
            · rw [hrd] at hN; simp at hN
            obtain ⟨LL, eLL⟩ : ∃ LL, leftF (held t) y.L = LL := ⟨_, rfl⟩
            have ELL := Lib.hid (And.intro eLL hN)
            rw [eLL] at hc hN
            have hown := own_empty w8 w8.heap.size (Nat.le_refl _)
            have hsz : w8.heap.size ≤ (w8.alloc (.cells #[] 66)).heap.size := by simp
            have hcc : ∀ k, k < LL.length → (w8.alloc (.cells #[] 66)).cell? ⟨b, k * 2, none⟩ = some (.int .i64 (atL LL k).1) ∧ (w8.alloc (.cells #[] 66)).cell? ⟨b, k * 2 + 1, none⟩ = some (.int .i64 (atL LL k).2) := fun k hk => by
              have hz := (Below.refl w8.heap.size w8).alloc (Nat.le_refl _) (.cells #[] 66)
              exact ⟨(hz.cell (p := ⟨b, k * 2, none⟩) hbl).trans (hc k hk).1, (hz.cell (p := ⟨b, k * 2 + 1, none⟩) hbl).trans (hc k hk).2⟩
            have hl8 : LL.length < 1000000 := by omega
            have HCC := Lib.hid (And.intro hcc (And.intro hl8 hN))
            clear hc hcc eLL hN e3
            go_wp2_with (at_builtin; refine wpList_onto (W := w8.alloc (.cells #[] 66)) rfl _ _ rfl w8.heap.size _ LL (by rfl) hown b c' (by rw [HCC.out.2.2]; rfl) HCC.out.1 HCC.out.2.1 hsz ?_)
            intro v8 wa hown8 hga
            have hba : Below w8.heap.size w8 wa := ((Below.refl _ w8).alloc (Nat.le_refl _) _).grown hga (by simp) (fun k hk => by simp [Value.ownBlock] at hk; omega)
            have hlo : ∀ k, v8.ownBlock = some k → w8.heap.size ≤ k := fun k hk => (World.ownsRow.lt hown8 k hk).1
            have hsa : w8.heap.size ≤ wa.heap.size := hba.size
            have HA := Lib.hid (And.intro hba hlo)
            clear hba hlo hga hown
            go_wp2_with (at_builtin; refine wpList_more (W := wa) rfl _ _ rfl w8.heap.size _ LL (by rfl) hown8 c1 c2 (by rfl) HCC.out.2.1 hsa ?_)
            intro v9 w9 hrow9 hg9
            have hb9 : Below w8.heap.size w8 w9 := HA.out.1.grown hg9 HA.out.1.size HA.out.2
            have h9 := HC8.out.1.r.below hb9
            have g7 := h9.c7
            have gf := h9.fr 7
            have hR : RRow w9 W.heap.size v9 (leftF (held t) y.L ++ [(c1, c2)]) := by rw [ELL.out.1]; exact hrow9.mono hBs
            have HD := Lib.hid (HC8.out.1.done hb9 hR)
            obtain ⟨A9, c9, ev9, _⟩ := hR.rd
            obtain ⟨N9, eN9⟩ : ∃ N9, (leftF (held t) y.L ++ [(c1, c2)]).length = N9 := ⟨_, rfl⟩
            rw [eN9] at ev9
            subst ev9
            clear eN9
            clear h9 hb9 hR
            go_wp2_with fail
            go_ret
            have e9 : setRe t s y = { comeR t y with L := leftF (held t) y.L ++ [(c1, c2)] } := by
              unfold setRe
              rw [if_neg (show ¬ (comeR t y).L.length = 8 from fun e => h8 (by rw [← HN.out]; exact e))]
              unfold chR
              rw [show (comeR t y).step = F from HF.out, show (comeR t y).L = leftF (held t) y.L from rfl, EL.out, EC.out, HC8.out.2]
            rw [e9]
            first | exact ⟨_, rfl, HD.out⟩ | exact ⟨rfl, _, HD.out⟩

end Go.Proofs.Ytclplacjgofccaa.Rf
