/- The walk of 'with'. -/
import Derived.Test.YthgjccbmfbileaaRc
import Derived.Deep.DeepCutAuto
namespace Go.Proofs.Ythgjccbmfbileaa.Rf
open Go.RowKit Go.Maps
set_option linter.unusedVariables false
set_option linter.unusedSimpArgs false
attribute [local go_sem ↓] Go.wp_at_zero Go.wp_at_succ

/-- A row: none; or one whose cells are there. -/
def Row2 (W : World) (A : Option Addr) (c : Nat) (L : Ent) : Prop := (A = none ∧ c = 0 ∧ L = []) ∨ ∃ b, A = some ⟨b, 0, none⟩ ∧ b < W.heap.size ∧ Cells W b 0 L
theorem Row2.rd {W : World} {A : Option Addr} {c : Nat} {L : Ent} (h : Row2 W A c L) : RdE W A L := by
  rcases h with ⟨_, _, h⟩ | ⟨b, h1, h2, h3⟩
  · exact .inl h
  · exact .inr ⟨b, h1, h2, fun k hk => by have := h3 k hk; simpa using this⟩
theorem row2_of {W : World} {B : Nat} {v : Value} {L : Ent} (h : ERow W B v L) : ∃ A c, v = .slice A L.length c ∧ Row2 W A c L ∧ L.length ≤ c ∧ c ≤ maxLen := by
  have hr := ERow.rd h
  rcases h.2 with ⟨h1, h2⟩ | ⟨g, cap, cur, hv, hb, hg, hn, hm, _, ht⟩
  · exact ⟨none, 0, by rw [h2]; exact h1, .inl ⟨rfl, rfl, List.eq_nil_of_length_eq_zero h2⟩, by omega, Nat.zero_le _⟩
  · obtain ⟨A, c, e, hrd⟩ := hr
    rw [hv] at e
    simp only [Value.slice.injEq] at e
    obtain ⟨e1, _, e2⟩ := e
    subst e1
    subst e2
    refine ⟨_, cap, hv, .inr ⟨g, rfl, lt_of_block hg, ?_⟩, hn, hm⟩
    rcases hrd with h0 | ⟨b, e, _, hc⟩
    · subst h0
      intro k hk
      simp at hk
    · simp only [Option.some.injEq, Addr.mk.injEq, and_true] at e
      subst e
      intro k hk
      have := hc k hk
      simpa using this

theorem cells_new (w : World) (id v : Int) : Cells (w.alloc (.cells #[.int .i64 id, .int .i64 v] 58)) w.heap.size 0 [(id, v)] := by
  intro k hk
  have hb := heap_alloc_new w (.cells #[.int .i64 id, .int .i64 v] 58)
  obtain rfl : k = 0 := by simp at hk; omega
  constructor
  · simp only [World.cell?, hb]; rfl
  · simp only [World.cell?, hb]; rfl
theorem cells_grown {w w' : World} {b off : Nat} {M : Ent} {row : Option Nat} (h : Cells w b off M) (hb : b < w.heap.size) (hg : w.grownBy w' row) (hne : some b ≠ row) : Cells w' b off M :=
  h.kept (fun o => hg.cell_far ⟨b, o, none⟩ hb hne)

theorem wpList_E {ops : Array Oper} {rest : List Oper} {o : Oper} {a : Act} {Q : Exit → Act → World → Prop} {w : World} (hgd : o.guard = none) (s x : Operand)
    (ho : o.op = .call { callee := .builtin .append, args := #[s, x], argTypes := #[39, 39] })
    (B : Nat) (v : Value) (L : Ent) (hs : a.eval s = v) (hown : ERow w B v L) (b off c : Nat) (M : Ent) (m : Nat) (hm : M.length = m) (hx : a.eval x = .slice (some ⟨b, off, none⟩) m c) (hc : Cells w b off M)
    (hl : L.length + M.length < 1000000) (hbase : B ≤ w.heap.size)
    (h : ∀ v' w', ERow w' B v' (L ++ M) → w.grownBy w' v.ownBlock → wpList Try.prog ops Q rest (a.put o.dst v') w') :
    wpList Try.prog ops Q (o :: rest) a w := by
  obtain ⟨i0, hi, hz0, hz1, hz2⟩ := info_parts info58
  subst hm
  refine wpList_append_own w hgd s x 39 ho B 58 i0 (.agg #[.int .i64 0, .int .i64 0]) 2 16 Try.underlying39 hi hz0 hz1 hz2 rfl (by decide) v L.length (flatE L) hs hown ⟨b, off, none⟩ M.length c (flatE M) hx (flatE_length M) hc.news (flatE_one M) (by unfold maxLen; omega) (by omega) hbase ?_
  intro v' w' h1 h2 _
  refine h v' w' ?_ h2
  show w'.ownsRow B 58 2 v' (L ++ M).length (flatE (L ++ M))
  rw [flatE_append, List.length_append]
  exact h1

theorem cells_take {w : World} {b : Nat} {L : Ent} (h : Cells w b 0 L) (k : Nat) : Cells w b 0 (L.take k) := fun j hj => by
  rw [List.length_take] at hj
  have := h j (by omega)
  have e : atE (L.take k) j = atE L j := by unfold atE; rw [List.getElem?_take, if_pos (by omega)]
  rw [e]
  exact this
theorem cells_drop {w : World} {b : Nat} {L : Ent} (h : Cells w b 0 L) (k : Nat) : Cells w b (k * 2) (L.drop k) := fun j hj => by
  rw [List.length_drop] at hj
  have := h (k + j) (by omega)
  have e : atE (L.drop k) j = atE L (k + j) := by unfold atE; rw [List.getElem?_drop]
  rw [e, show k * 2 + j * 2 = 0 + (k + j) * 2 by omega]
  exact this

set_option maxRecDepth 100000 in
set_option maxHeartbeats 3200000 in
theorem with_any {W : World} {A : Option Addr} {c : Nat} {L : Ent} (id v : Int) (hr2 : Row2 W A c L) (hs : Sorted L) (hn : look L id = none) (hlen : L.length ≤ 100000) (hcap : L.length ≤ c) (hc2 : c ≤ maxLen) :
    Calls Try.prog 28 #[.slice A L.length c, .agg #[.int .i64 id, .int .i64 v]] W fun e w' => ∃ u, e = .returned u ∧ ERow w' W.heap.size u (ins id v L) ∧ Below W.heap.size W w' := by
  obtain ⟨n, en⟩ : ∃ n, L.length = n := ⟨_, rfl⟩
  rw [en] at hlen hcap ⊢
  have HR2 := Lib.hid hr2
  have HE := Lib.hid (And.intro hr2.rd (And.intro en (And.intro hs hn)))
  unfold maxLen at hc2
  have hb0 : Below W.heap.size W (W.alloc (.cells #[.int .i64 id, .int .i64 v] 58)) := (Below.refl _ W).alloc (Nat.le_refl _) _
  have hbx : (W.alloc (.cells #[.int .i64 id, .int .i64 v] 58)).heap[W.heap.size]? = some (.cells #[.int .i64 id, .int .i64 v] 58 (0, 0)) := heap_alloc_new _ _
  have HB := Lib.hid (And.intro hb0 hbx)
  clear hr2 en hs hn hb0 hbx
  go_enter Try.func28, Try.ntmps28
  go_wp2_with fail
  go_loopw [5] (fun i wr => ∃ k q : Nat, k ≤ n ∧ i = .int .i64 k ∧ (∀ j, j < k → (atE L j).1 < id) ∧ wr = (W.alloc (.cells #[.int .i64 id, .int .i64 v] 58)).drewN q) (fun i _ => n - (intOf i).toNat)
  case atStart => exact ⟨0, 0, Nat.zero_le _, rfl, fun j hj => by omega, rfl⟩
  case round =>
    obtain ⟨k, q, hk, rfl, hlt, rfl⟩ := hrel
    have HLT := Lib.hid hlt
    clear hlt
    by_cases hgo : k < n ∧ (atE L k).1 < id
    · obtain ⟨hkn, hid⟩ := hgo
      have hkl : k < L.length := by rw [HE.out.2.1]; exact hkn
      rcases HE.out.1 with hr | ⟨b, rfl, hbl, hc⟩
      · rw [hr] at hkl; simp at hkl
      have d0 := (HB.out.1.cell (p := ⟨b, k * 2, none⟩) hbl).trans (hc k hkl).1
      obtain ⟨z, ez⟩ : ∃ z, (atE L k).1 = z := ⟨_, rfl⟩
      rw [ez] at d0 hid
      have HZ := Lib.hid ez
      have hlb : b < W.heap.size := hbl
      have hk0 : (0 : Int) ≤ (k : Int) := Int.natCast_nonneg _
      have hk1 : (k : Int) < (n : Int) := by omega
      clear hc ez hkl
      go_wp2_with fail
      go_quiet (fail)
      go_wp2_with fail
      go_roundw
      case rel => exact ⟨k + 1, _, by omega, by go_num, fun j hj => by
        by_cases e : j < k
        · exact HLT.out j e
        · obtain rfl : j = k := by omega
          rw [HZ.out]; exact hid, rfl⟩
      case measure => simp [intOf]; omega
    · have hge : k < L.length → ¬ (atE L k).1 < id := fun h1 h2 => hgo ⟨by rw [← HE.out.2.1]; exact h1, h2⟩
      have hins := ins_with (v := v) HE.out.2.2.2 k HLT.out (by rw [HE.out.2.1]; exact hk) hge (sorted_at HE.out.2.2.1)
      have HI := Lib.hid (And.intro hins hge)
      clear hgo hins hge
      go_upto_region 2 with fail
      go_cut [20] (fun s20 wx => s20 = .bool false ∧ ∃ q, wx = (W.alloc (.cells #[.int .i64 id, .int .i64 v] 58)).drewN q)
      case first =>
        by_cases hkn : k < n
        · have hkl : k < L.length := by rw [HE.out.2.1]; exact hkn
          rcases HE.out.1 with hr | ⟨b, rfl, hbl, hc⟩
          · rw [hr] at hkl; simp at hkl
          have d0 := (HB.out.1.cell (p := ⟨b, k * 2, none⟩) hbl).trans (hc k hkl).1
          have hnl := HI.out.2 hkl
          obtain ⟨z, ez⟩ : ∃ z, (atE L k).1 = z := ⟨_, rfl⟩
          rw [ez] at d0 hnl
          have hlb : b < W.heap.size := hbl
          have hk0 : (0 : Int) ≤ (k : Int) := Int.natCast_nonneg _
          have hk1 : (k : Int) < (n : Int) := by omega
          clear hc ez hkl
          go_wp2_with fail
          go_quiet (fail)
          go_wp2_with fail
          go_meet
          case rel => exact ⟨by simp; omega, q + nq, by rw [World.drewN_drewN]⟩
        · have hdk : decide (k < n) = false := by simpa using hkn
          go_wp2_with fail
          go_quiet (fail)
          go_wp2_with fail
          go_meet
          case rel => exact ⟨by simp <;> omega, q + nq, by rw [World.drewN_drewN]⟩
      case rest =>
        obtain ⟨rfl, q5, hw5⟩ := hcut
        obtain ⟨w5, rfl⟩ : ∃ w5 : World, w5 = wc := ⟨_, rfl⟩
        have hb5 : Below W.heap.size W w5 := by rw [hw5]; exact below_drewN HB.out.1 q5
        have hbx5 : w5.heap[W.heap.size]? = some (.cells #[.int .i64 id, .int .i64 v] 58 (0, 0)) := by rw [hw5]; exact HB.out.2
        have H5 := Lib.hid (And.intro hb5 hbx5)
        have g0 : w5.cell? ⟨W.heap.size, 0, none⟩ = some (.int .i64 id) := by simp [World.cell?, hbx5]
        have g1 : w5.cell? ⟨W.heap.size, 1, none⟩ = some (.int .i64 v) := by simp [World.cell?, hbx5]
        have hlt5 : W.heap.size < w5.heap.size := lt_of_block hbx5
        clear hw5 hb5 hbx5
        rcases HR2.out with ⟨rfl, rfl, hL⟩ | ⟨b, rfl, hbl, hcs⟩
        · subst hL
          have hk00 : k = 0 := by have := HE.out.2.1; simp at this; omega
          subst hk00
          have hn0 : n = 0 := by have := HE.out.2.1; simpa using this.symm
          subst hn0
          have hbz : W.heap.size ≤ (w5.drew.alloc (.cells #[.int .i64 id, .int .i64 v] 58)).heap.size := by
            rw [World.size_alloc]
            show W.heap.size ≤ w5.heap.size + 1
            omega
          have hcn := cells_new w5.drew id v
          have HCN := Lib.hid hcn
          clear hcn
          go_upto_region 5 with fail
          go_cut [6] (fun s6 wx => ERow wx W.heap.size s6 [(id, v)] ∧ Below W.heap.size W wx)
          case first =>
           go_region_law ((refine step_E (o := ⟨some 30, _, _, _, _, _⟩) (w := w5.drew.alloc (.cells #[.int .i64 id, .int .i64 v] 58)) (by rfl) (.tmp 27) (.tmp 29) (by rfl) W.heap.size (.slice none 0 0) [] (by rfl) (World.ownsRow_nil _ _ _ _) w5.drew.heap.size 0 1 [(id, v)] 1 rfl (by rfl) HCN.out (by simp) hbz ?_; intro v2 wb hrow2 hgb))
           all_goals
            have hbb : Below W.heap.size W wb := ((H5.out.1.drew.alloc (Nat.le_of_lt hlt5) (.cells #[.int .i64 id, .int .i64 v] 58))).grown hgb hbz (fun k hk => by simp [Value.ownBlock] at hk)
            have HX := Lib.hid (And.intro hrow2 hbb)
            clear hrow2 hgb hbb
            go_wp2_with fail
            go_meet
            case rel => exact HX.out
          case rest =>
            obtain ⟨hrow, hbel⟩ := hcut
            have hins : ins id v [] = [(id, v)] := rfl
            have HX := Lib.hid (And.intro hrow hbel)
            obtain ⟨g6, c6, e6, _⟩ := World.ownsRow.form hrow (by simp)
            have hc61 : 1 ≤ c6 := by
              obtain ⟨A7, c7, e7, _, hc7, _⟩ := row2_of hrow
              rw [e6] at e7
              simp only [Value.slice.injEq] at e7
              rw [e7.2.2]
              simpa using hc7
            simp only [List.length_cons, List.length_nil, Nat.zero_add] at e6
            subst e6
            clear hrow hbel hins
            go_wp2_with fail
            go_ret
            exact ⟨_, rfl, HX.out.1, HX.out.2⟩
        · have hcs5 : Cells w5 b 0 L := hcs.kept (fun o => H5.out.1.cell (p := ⟨b, o, none⟩) hbl)
          have htk := cells_take hcs5 k
          have hdr := cells_drop hcs5 k
          have hlb : b < W.heap.size := hbl
          have ht : (L.take k).length = k := by rw [List.length_take, HE.out.2.1]; omega
          have HC := Lib.hid (And.intro htk (And.intro hdr (And.intro ht hbl)))
          have hkI : (0 : Int) ≤ (k : Int) := Int.natCast_nonneg _
          have hkc : (k : Int) ≤ (c : Int) := by omega
          have hbz0 : W.heap.size ≤ w5.drew.heap.size := Nat.le_of_lt hlt5
          have hbz1 : W.heap.size ≤ (w5.drew.alloc (.cells #[.int .i64 id, .int .i64 v] 58)).heap.size := by
            rw [World.size_alloc]
            show W.heap.size ≤ w5.heap.size + 1
            omega
          have hcE : Cells (w5.drew.alloc (.cells #[.int .i64 id, .int .i64 v] 58)) b 0 (L.take k) := htk.kept (fun o => by
            have hb : b < w5.drew.heap.size := Nat.lt_trans hbl hlt5
            exact ((Below.refl w5.drew.heap.size w5.drew).alloc (Nat.le_refl _) _).cell (p := ⟨b, o, none⟩) hb)
          have HCE := Lib.hid (And.intro hcE (cells_new w5.drew id v))
          clear hcs hcs5 htk hdr ht hcE
          go_upto_region 5 with fail
          go_cut [6] (fun s6 wx => ERow wx W.heap.size s6 (L.take k ++ [(id, v)]) ∧ Below W.heap.size W wx)
          case first =>
           go_region_law ((first
            | (refine step_E (o := ⟨some 27, _, _, _, _, _⟩) (w := w5.drew) (by rfl) (.tmp 23) (.tmp 26) (by rfl) W.heap.size (.slice none 0 0) [] (by rfl) (World.ownsRow_nil _ _ _ _) b 0 c (L.take k) k HC.out.2.2.1 (by rfl) HC.out.1 (by simp; omega) hbz0 ?_; intro v1 wa hrow1 hga; have g0a : wa.cell? ⟨W.heap.size, 0, none⟩ = some (.int .i64 id) := (hga.cell_far ⟨W.heap.size, 0, none⟩ hlt5 (by simp [Value.ownBlock])).trans g0; have g1a : wa.cell? ⟨W.heap.size, 1, none⟩ = some (.int .i64 v) := (hga.cell_far ⟨W.heap.size, 1, none⟩ hlt5 (by simp [Value.ownBlock])).trans g1; have hza : W.heap.size ≤ wa.heap.size := Nat.le_trans hbz0 hga.size; have hzb : W.heap.size ≤ (wa.alloc (.cells #[.int .i64 id, .int .i64 v] 58)).heap.size := (by rw [World.size_alloc]; omega); have hcn := cells_new wa id v)
            | (refine step_E (o := ⟨some 27, _, _, _, _, _⟩) (w := w5.drew.alloc (.cells #[.int .i64 id, .int .i64 v] 58)) (by rfl) (.tmp 23) (.tmp 26) (by rfl) W.heap.size (.slice none 0 0) [] (by rfl) (World.ownsRow_nil _ _ _ _) b 0 c (L.take k) k HC.out.2.2.1 (by rfl) HCE.out.1 (by simp; omega) hbz1 ?_; intro v1 wa hrow1 hga; have hza : W.heap.size ≤ wa.heap.size := Nat.le_trans hbz1 hga.size; have hcn := cells_grown HCE.out.2 (by rw [World.size_alloc]; exact Nat.lt_succ_self _) hga (by simp [Value.ownBlock]))
            | (refine step_E (o := ⟨some 30, _, _, _, _, _⟩) (w := wa.alloc (.cells #[.int .i64 id, .int .i64 v] 58)) (by rfl) (.tmp 27) (.tmp 29) (by rfl) W.heap.size v1 (L.take k) (by rfl) (World.ownsRow.alloc hrow1 _) wa.heap.size 0 1 [(id, v)] 1 rfl (by rfl) hcn (by simp; omega) hzb ?_; intro v2 wb hrow2 hgb)
            | (refine step_E (o := ⟨some 30, _, _, _, _, _⟩) (w := wa) (by rfl) (.tmp 27) (.tmp 29) (by rfl) W.heap.size v1 (L.take k) (by rfl) hrow1 w5.drew.heap.size 0 1 [(id, v)] 1 rfl (by rfl) hcn (by simp; omega) hza ?_; intro v2 wb hrow2 hgb)))
           all_goals
            have hbb : Below W.heap.size W wb := by
              have hv1 : ∀ j, v1.ownBlock = some j → W.heap.size ≤ j := fun j hj => (World.ownsRow.lt hrow1 j hj).1
              first
                | exact ((((H5.out.1.drew).grown hga hbz0 (fun k hk => by simp [Value.ownBlock] at hk)).alloc hza (.cells #[.int .i64 id, .int .i64 v] 58))).grown hgb hzb hv1
                | exact (((H5.out.1.drew.alloc hbz0 (.cells #[.int .i64 id, .int .i64 v] 58))).grown hga hbz1 (fun k hk => by simp [Value.ownBlock] at hk)).grown hgb hza hv1
            have HX := Lib.hid (And.intro hrow2 hbb)
            clear hrow2 hgb hbb hrow1 hga hcn
            go_wp2_with fail
            go_meet
            case rel => exact HX.out
          case rest =>
            obtain ⟨hrow, hbel⟩ := hcut
            obtain ⟨w7, rfl⟩ : ∃ w7 : World, w7 = wc := ⟨_, rfl⟩
            have hlL : (L.take k ++ [(id, v)]).length + (L.drop k).length < 1000000 := by
              have := HE.out.2.1
              simp only [List.length_append, List.length_take, List.length_drop, List.length_cons, List.length_nil]
              omega
            have hdl : (L.drop k).length = n - k := by rw [List.length_drop, HE.out.2.1]
            have hcb : Cells w7 b 0 L := (by
              rcases HR2.out with ⟨e, _, _⟩ | ⟨b', e, hb', hcs'⟩
              · cases e
              · simp only [Option.some.injEq, Addr.mk.injEq, and_true] at e
                subst e
                exact hcs'.kept (fun o => hbel.cell (p := ⟨b, o, none⟩) hb'))
            have hcd := cells_drop hcb k
            have hsz := hbel.size
            have HX := Lib.hid (And.intro hbel (And.intro hlL (And.intro hdl (And.intro hcd HI.out.1))))
            have HRW := Lib.hid hrow
            have hnk : (k : Int) ≤ (n : Int) := by omega
            by_cases hkc2 : c = k
            · have hkn : n - k = 0 := by omega
              have hdn : L.drop k = [] := List.eq_nil_of_length_eq_zero (by rw [hdl]; exact hkn)
              have HDN := Lib.hid hdn
              clear hrow hbel hlL hdl hcb hcd hdn
              have hce : Cells w7 b 0 [] := fun j hj => by simp at hj
              go_wp2_with (at_builtin; refine wpList_E rfl (.tmp 31) (.tmp 34) (by rfl) W.heap.size _ (L.take k ++ [(id, v)]) (by rfl) HRW.out b 0 0 [] 0 rfl (by rfl) hce (by have := HX.out.2.1; simp only [List.length_append, List.length_cons, List.length_nil] at this ⊢; omega) hsz ?_)
              intro v8 w8 hrow8 hg8
              have hb8 : Below W.heap.size W w8 := HX.out.1.grown hg8 hsz (fun j hj => (World.ownsRow.lt HRW.out j hj).1)
              have hrow9 : ERow w8 W.heap.size v8 (ins id v L) := by
                rw [HX.out.2.2.2.2, HDN.out]
                simpa using hrow8
              have H8 := Lib.hid (And.intro hrow9 hb8)
              clear hrow8 hg8 hb8 hrow9
              go_wp2_with fail
              go_ret
              exact ⟨_, rfl, H8.out.1, H8.out.2⟩
            · clear hrow hbel hlL hdl hcb hcd
              have hkc3 : ¬ (c = k) := hkc2
              go_wp2_with (at_builtin; refine wpList_E rfl (.tmp 31) (.tmp 34) (by rfl) W.heap.size _ (L.take k ++ [(id, v)]) (by rfl) HRW.out b (k * 2) (c - k) (L.drop k) (n - k) HX.out.2.2.1 (by rfl) HX.out.2.2.2.1 HX.out.2.1 hsz ?_)
              intro v8 w8 hrow8 hg8
              have hb8 : Below W.heap.size W w8 := HX.out.1.grown hg8 hsz (fun j hj => (World.ownsRow.lt HRW.out j hj).1)
              have hrow9 : ERow w8 W.heap.size v8 (ins id v L) := by
                rw [HX.out.2.2.2.2]
                simpa using hrow8
              have H8 := Lib.hid (And.intro hrow9 hb8)
              clear hrow8 hg8 hb8 hrow9
              go_wp2_with fail
              go_ret
              exact ⟨_, rfl, H8.out.1, H8.out.2⟩

end Go.Proofs.Ythgjccbmfbileaa.Rf
