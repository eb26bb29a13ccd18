/- The making of a policer. -/
import Derived.Test.YtcfhjkmebnmcjaaGreatM
import Derived.Deep.DeepCutAuto
import Derived.IntWalk
import Derived.Deep.Onto
import Derived.Deep.RegionLaw
namespace Go.Proofs.YtcfhjkmebnmcjaaGreat
open Go.RowKit Go.Shelf
set_option linter.unusedVariables false
set_option linter.unusedSimpArgs false
attribute [local go_sem] Oper.semAt_some

theorem info208 : (Tryz.prog.info? 208).map (fun i => (i.zero, i.size, i.bytes)) = some (some (.agg #[.int .i64 0, .int .i64 0, .bool false, .bool false, .nilIface]), 5, 40) := by kernel_rfl

theorem Mk.row {w W : World} {pb k i cap0 g0 n : Nat} {al : Bool} {v : Value} {rl : List Rl} {us : List Ru} {r : Rl} (h : Mk w W pb al (.slice (some ⟨g0, 0, none⟩) n cap0) rl k v us) (hr : rl[i]? = some r) :
    W.cell? ⟨g0, i * 4, none⟩ = some (.int .i64 r.s) ∧ W.cell? ⟨g0, i * 4 + 1, none⟩ = some (.int .i64 r.e) ∧ W.cell? ⟨g0, i * 4 + 2, none⟩ = some (.bool r.z) ∧ W.cell? ⟨g0, i * 4 + 3, none⟩ = some (.bool r.t) := by
  have hlen : ∀ u : Rl, u.cells.length = 4 := fun _ => rfl
  have hx : ∀ (rl : List Rl) i, rl[i]? = some r → ∀ j v, r.cells[j]? = some v → (rl.flatMap Rl.cells)[i * 4 + j]? = some v := fun rl => by
    induction rl with
    | nil => intro i h; simp at h
    | cons a t ih =>
      intro i hi j v hv
      have hj : j < 4 := by have := (List.getElem?_eq_some_iff.1 hv).1; rw [hlen] at this; exact this
      cases i with
      | zero =>
        simp only [List.getElem?_cons_zero, Option.some.injEq] at hi
        subst hi
        rw [List.flatMap_cons, List.getElem?_append_left (by rw [hlen]; omega)]
        simpa using hv
      | succ i =>
        rw [List.flatMap_cons, List.getElem?_append_right (by rw [hlen]; omega), hlen, show (i + 1) * 4 + j - 4 = i * 4 + j by omega]
        exact ih i (by simpa using hi) j v hv
  have hil := (List.getElem?_eq_some_iff.1 hr).1
  have hs : ∃ cap, W.ownsRow w.heap.size 204 4 (.slice (some ⟨g0, 0, none⟩) rl.length cap) rl.length (rl.flatMap Rl.cells) := by
    have h0 := h.r
    rcases h0.2 with ⟨e, _⟩ | ⟨g', cap', cur, e, _⟩
    · cases e
    · cases e; exact ⟨_, h0⟩
  obtain ⟨cap, ho⟩ := hs
  have hc : ∀ j v, r.cells[j]? = some v → W.cell? ⟨g0, i * 4 + j, none⟩ = some v := fun j v hv => by
    have hj : j < 4 := by have := (List.getElem?_eq_some_iff.1 hv).1; rw [hlen] at this; exact this
    rw [ho.cellAt (i * 4 + j) (by omega)]
    exact hx rl i hr j v hv
  exact ⟨hc 0 _ rfl, hc 1 _ rfl, hc 2 _ rfl, hc 3 _ rfl⟩
theorem Mk.rowlt {w W : World} {pb k cap0 g0 n : Nat} {al : Bool} {v : Value} {rl : List Rl} {us : List Ru} (h : Mk w W pb al (.slice (some ⟨g0, 0, none⟩) n cap0) rl k v us) : g0 < W.heap.size := by
  obtain ⟨_, cur, hc⟩ := own_typ h.r (g := g0) rfl
  exact (Array.getElem?_eq_some_iff.1 hc).1

theorem below_gn {w w' : World} (g : w.grownBy w' none) : Below w.heap.size w w' := ⟨g.os, g.tape, g.output, g.size, fun k hk => g.block k hk (by simp)⟩
theorem Mk.at {w W : World} {pb k : Nat} {al : Bool} {v0 v : Value} {rl : List Rl} {us : List Ru} (h : Mk w W pb al v0 rl k v us) : W.cell? ⟨pb, 1, none⟩ = some v ∧ ∀ o, W.frozen? ⟨pb, o, none⟩ = false :=
  ⟨by simp [World.cell?, h.p], fun o => by simp [World.frozen?, h.p]⟩
theorem Mk.lt {w W : World} {pb k : Nat} {al : Bool} {v0 v : Value} {rl : List Rl} {us : List Ru} (h : Mk w W pb al v0 rl k v us) : pb < W.heap.size := (Array.getElem?_eq_some_iff.1 h.p).1

theorem at6 {W : World} {b : Nat} {u0 u1 u2 u3 u4 u5 : Value} {t : TypeId} {f : Nat × Nat} (h : W.heap[b]? = some (.cells #[u0, u1, u2, u3, u4, u5] t f)) :
    W.cell? ⟨b, 0, none⟩ = some u0 ∧ W.cell? ⟨b, 1, none⟩ = some u1 ∧ W.cell? ⟨b, 2, none⟩ = some u2 ∧ W.cell? ⟨b, 3, none⟩ = some u3 ∧ W.cell? ⟨b, 4, none⟩ = some u4 ∧ W.cell? ⟨b, 5, none⟩ = some u5 :=
  ⟨by simp [World.cell?, h], by simp [World.cell?, h], by simp [World.cell?, h], by simp [World.cell?, h], by simp [World.cell?, h], by simp [World.cell?, h]⟩

set_option maxRecDepth 100000 in
set_option maxHeartbeats 8000000 in
theorem pnew_at (c : Ct) (hc : c.Ok) (w : World) : Calls Tryz.prog 62 #[c.v] w fun e W' => ∃ pb v us, e = .returned (.tuple #[.pointer (some ⟨pb, 0, none⟩), .int .i64 0]) ∧ ∃ v0, Mk w W' pb (c.k == 7) v0 (rulesOf c) (rulesOf c).length v us := by
  have HB0 := Lib.hid ((Below.refl w.heap.size w).alloc (Nat.le_refl _) (.cells #[.int .i64 c.k, .int .i64 c.p, .int .i64 c.e, .int .i64 c.w, .int .i64 c.b, .int .i64 c.l] 23))
  have hk := heap_new' w (o := .cells #[.int .i64 c.k, .int .i64 c.p, .int .i64 c.e, .int .i64 c.w, .int .i64 c.b, .int .i64 c.l] 23) rfl
  have HC := Lib.hid hc
  have hsz : w.heap.size < (w.alloc (.cells #[.int .i64 c.k, .int .i64 c.p, .int .i64 c.e, .int .i64 c.w, .int .i64 c.b, .int .i64 c.l] 23)).heap.size := by simp
  have hra := fun W => rules_any hc W
  have haa := fun W => always_any hc W
  obtain ⟨al, ea⟩ : ∃ al, (c.k == 7) = al := ⟨_, rfl⟩
  obtain ⟨rl, erl⟩ : ∃ rl, rulesOf c = rl := ⟨_, rfl⟩
  have hn0 : 0 < rl.length := by rw [← erl]; unfold rulesOf; simp
  have hn2 : rl.length ≤ 2 := by rw [← erl]; unfold rulesOf; (repeat' split) <;> simp
  rw [erl] at hra
  rw [ea] at haa
  rw [ea, erl]
  have HRA := Lib.hid (And.intro hra haa)
  clear hc ea erl hra haa
  go_enter Tryz.func62, Tryz.ntmps62
  go_wp2_with (first | (go_at_call 5; refine (right_ok HC.out _).mono ?_; rintro e w1 ⟨rfl, hb1⟩; have HB1 := Lib.hid (HB0.out.trans (hb1.mono HB0.out.size)); have hk1 := (hb1.block w.heap.size hsz).trans hk; have hs1 := Nat.lt_of_lt_of_le hsz hb1.size; clear hb1 hk; have a0 := at6 hk1; obtain ⟨a0, a1, a2, a3, a4, a5⟩ := a0) | (go_at_call 94; refine (HRA.out.2 _).mono ?_; rintro e w2 ⟨rfl, hb2⟩; have HB2 := Lib.hid (HB1.out.trans (hb2.mono HB1.out.size)); have hk2 := (hb2.block w.heap.size hs1).trans hk1; have hs2 := Nat.lt_of_lt_of_le hs1 hb2.size; clear hb2 hk1 a0 a1 a2 a3 a4 a5; have a0 := at6 hk2; obtain ⟨a0, a1, a2, a3, a4, a5⟩ := a0))
  clear a0 a1 a2 a3 a4 a5
  refine (HRA.out.1 _).mono ?_
  rintro e w3 ⟨v0, rfl, hr3, hb3⟩
  obtain ⟨pb, epb⟩ : ∃ pb, w2.heap.size = pb := ⟨_, rfl⟩
  have hpl : w.heap.size ≤ pb := by rw [← epb]; exact Nat.le_of_lt hs2
  have hp3 : w3.heap[pb]? = some (.cells #[.bool al, .slice none 0 0, .int .i64 0, .int .i64 0, .int .i64 0, .int .i64 0] 200 (0, 0)) := by
    rw [hb3.block pb (by simp; omega), heap_new' w2 epb]
  have hM : Mk w w3 pb al v0 rl 0 (.slice none 0 0) [] := ⟨hp3, hr3.mono (by simp; omega), ⟨by simp, .inl ⟨rfl, rfl⟩⟩, by simp, (fun u hu => by cases hu), by simp, HB2.out.trans ((((Below.refl w2.heap.size w2).alloc (Nat.le_refl _) _).trans (hb3.mono (by simp))).mono HB2.out.size), hpl⟩
  obtain ⟨g0, cap0, rfl, _, _⟩ := hr3.form hn0
  rw [epb]
  clear hr3 hb3 hp3 hk2 hs1 hs2 hsz HB1 HB2 HB0
  obtain ⟨n, en⟩ : ∃ n, rl.length = n := ⟨_, rfl⟩
  rw [en] at hn0 hn2 hM ⊢
  go_wp2_with fail
  go_loopw [20] (fun i wr => ∃ (k : Nat) (v : Value) (us : List Ru), k ≤ n ∧ i = .int .i64 k ∧ Mk w wr pb al (.slice (some ⟨g0, 0, none⟩) n cap0) rl k v us) (fun i _ => n - (Go.RowKit.intOf i).toNat)
  case atStart => exact ⟨0, _, _, Nat.zero_le _, rfl, hM⟩
  case round =>
    obtain ⟨k, v, us, hkn, rfl, hMk⟩ := hrel
    by_cases hlt : k < n
    · have hkr : k < rl.length := by omega
      obtain ⟨r, er⟩ : ∃ r, rl[k] = r := ⟨_, rfl⟩
      have hrk : rl[k]? = some r := by rw [List.getElem?_eq_getElem hkr, er]
      obtain ⟨c0, c1, c2, c3⟩ := hMk.row hrk
      have hg := hMk.rowlt
      have HM := Lib.hid (And.intro hMk hrk)
      have hk0 : (0 : Int) ≤ (k : Int) := Int.natCast_nonneg _
      have hk1 : (k : Int) < (n : Int) := by omega
      clear hMk er hrk hM
      go_wp2_with fail
      have hpb := HM.out.1.at
      have hbel := (Below.refl wr.heap.size wr).alloc (Nat.le_refl _) (.cells #[.int .i64 r.s, .int .i64 r.e, .bool r.z, .bool r.t] 204)
      obtain ⟨b7, eb7⟩ : ∃ b7, wr.heap.size = b7 := ⟨_, rfl⟩
      have h7 := heap_new' wr (o := .cells #[.int .i64 r.s, .int .i64 r.e, .bool r.z, .bool r.t] 204) eb7
      have h7l : b7 < (wr.alloc (.cells #[.int .i64 r.s, .int .i64 r.e, .bool r.z, .bool r.t] 204)).heap.size := by simp [eb7]
      have hpl7 : pb < (wr.alloc (.cells #[.int .i64 r.s, .int .i64 r.e, .bool r.z, .bool r.t] 204)).heap.size := Nat.lt_of_lt_of_le HM.out.1.lt (by simp)
      have hbl7 := HM.out.1.bel.size
      have hwl := HM.out.1.lt
      have HL := Lib.hid hbl7
      rw [eb7]
      clear c0 c1 c2 c3 hg hk0 hk1 hbl7
      generalize wr.alloc (.cells #[.int .i64 r.s, .int .i64 r.e, .bool r.z, .bool r.t] 204) = W at h7 h7l hpl7 hbel ⊢
      have HW := Lib.hid (show ∀ X, Below W.drew.heap.size W.drew X → X.cell? ⟨pb, 1, none⟩ = some v ∧ (∀ o, X.frozen? ⟨pb, o, none⟩ = false) ∧ X.cell? ⟨b7, 0, none⟩ = some (.int .i64 r.s) ∧ X.cell? ⟨b7, 1, none⟩ = some (.int .i64 r.e) ∧ X.cell? ⟨b7, 2, none⟩ = some (.bool r.z) ∧ X.cell? ⟨b7, 3, none⟩ = some (.bool r.t) ∧ X.ownsRow w.heap.size 208 5 v k (us.flatMap Ru.cells) ∧ pb < X.heap.size ∧ w.heap.size ≤ X.heap.size ∧ Below wr.heap.size wr X from fun X hX => by
        have hx : Below wr.heap.size wr X := hbel.drew.trans (hX.mono (hbel.size))
        have hp : X.heap[pb]? = _ := (hx.block pb hwl).trans HM.out.1.p
        have h7x : X.heap[b7]? = _ := (hX.block b7 h7l).trans h7
        refine ⟨by simp [World.cell?, hp], fun o => by simp [World.frozen?, hp], by simp [World.cell?, h7x], by simp [World.cell?, h7x], by simp [World.cell?, h7x], by simp [World.cell?, h7x], ?_, Nat.lt_of_lt_of_le hwl hx.size, Nat.le_trans HL.out hx.size, hx⟩
        refine HM.out.1.o.kept (row := none) ⟨hx.os, hx.tape, hx.output, hx.size, fun k hk _ => hx.block k hk⟩ ?_
        cases hv : v.ownBlock <;> simp)
      obtain ⟨p1, pf, d0, d1, d2, d3, _, pl1, _, _⟩ := HW.out W.drew (Below.refl _ _)
      obtain ⟨i0, hi, hz0, hz1, hz2⟩ := info_parts info208
      have hk2 : k ≤ 1 := by omega
      have HQ := Lib.hid (own_ne HM.out.1.o HM.out.1.p (by decide))
      have HZ := Lib.hid (show wr.heap.size ≤ W.drew.heap.size from hbel.size)
      clear h7 h7l hpl7 hbel hpb hwl
      go_region_law
        (first | (go_simp; go_at_call 8; refine (new_any _ _ _).mono ?_; rintro e w1 ⟨b, rfl, hbge, hB, hgr⟩; have hb1 := below_gn hgr; obtain ⟨p1, pf, d0, d1, d2, d3, ho, pl1, wl1, hbw⟩ := HW.out w1 hb1; have p1' := (World.cell?_alloc_some w1 ⟨pb, 1, none⟩ (.cells #[.int .i64 r.s, .int .i64 r.e, .bool r.z, .bool r.t, .iface 36 (.pointer (some ⟨b, 0, none⟩))] 208) (by rw [p1]; rfl)).trans p1) |
          (refine step_append_lies _ (by rfl) _ _ _ (by rfl) w.heap.size 208 i0 _ 5 40 Tryz.underlying197 hi hz0 hz1 hz2 rfl (by omega) v k (us.flatMap Ru.cells) (by rfl) (ho.alloc _)
                ⟨w1.heap.size, 0, none⟩ 1 1 (Ru.cells ⟨r, b⟩) (by rfl) (by rfl) (World.news_of_block (cs := (Ru.cells ⟨r, b⟩).toArray) (t := 208) (fr := (0, 0)) (heap_alloc_new w1 _)) (by simp [Ru.cells, Ru.gate, Value.oneCell'])
                (by omega) (by unfold maxLen; omega) (by omega) (by simp; omega) (w1.heap.size + 1) (by simp) ?_; intro gg cap w9 hown1 hgrow hat hlt9; have HO := Lib.hid (And.intro hown1 hgrow); have hf9 := (hgrow.frozen_far ⟨pb, 1, none⟩ (by simp; omega) HQ.out).trans ((((Below.refl w1.heap.size w1).alloc (Nat.le_refl _) (.cells #[.int .i64 r.s, .int .i64 r.e, .bool r.z, .bool r.t, .iface 36 (.pointer (some ⟨b, 0, none⟩))] 208)).frozen (p := ⟨pb, 1, none⟩) pl1).trans (pf 1)); have hc9 := (hgrow.cell_far ⟨pb, 1, none⟩ (by simp; omega) HQ.out).trans p1'))
      all_goals
        have HE := Lib.hid (And.intro hB (And.intro hbge hbw))
        clear hB hbge hbw hgr hb1 p1 pf d0 d1 d2 d3 ho pl1 wl1 hat hlt9 hf9 hc9 hi hz0 hz1 hz2
        go_wp2_with fail
        go_roundw
        case rel => exact ⟨k + 1, _, us ++ [⟨r, b⟩], by omega, by go_num, Mk.next HM.out.1 (HE.out.2.2.alloc HE.out.2.2.size _) HM.out.2 ((Below.heap_alloc _ _ _ HE.out.1.lt).trans HE.out.1) (Nat.le_trans HZ.out HE.out.2.1) HO.out.2 HO.out.1⟩
        case measure => simp [Go.RowKit.intOf]; omega
    · have hkn' : k = n := by omega
      subst hkn'
      have HM := Lib.hid hMk
      clear hMk hM
      go_wp2_with fail
      go_ret2
      exact ⟨pb, v, us, rfl, _, by rw [en]; exact HM.out⟩

end Go.Proofs.YtcfhjkmebnmcjaaGreat
