/- The walk of BucketShift. -/
import Derived.Test.YtkaefdpjadifgaaSchW
import Derived.Deep.RegionHeld3
import Derived.Deep.DrawnRows
import Derived.IntWalk
namespace Go.Proofs.Ytkaefdpjadifgaa
open Go.RowKit
set_option linter.unusedVariables false
set_option linter.unusedSimpArgs false
attribute [local go_sem ↓] Go.wp_at_zero Go.wp_at_succ

/-- The second bucket is as the first, so many ticks later. -/
structure Shifted (x y : Bk) (d : Int) : Prop where
  s : y.s = x.s
  e : y.e = x.e
  a : y.a = x.a
  yes : x.a = true → y.n = x.n + d
  no : x.a = false → x.n = 0 ∧ y.n = 0

theorem hold60 {t : Int} (h0 : 0 ≤ t) (h1 : t ≤ 1152921504606846976) : hold t 0 1152921504606846976 = t := by unfold hold; omega

theorem Shifted.fit {x y : Bk} {d t : Int} (h : Shifted x y d) (h0 : 0 ≤ t) (hd : 0 ≤ d) (h1 : t + d ≤ 1152921504606846976) : fitB y (t + d) = fitB x t := by
  unfold fitB
  rw [h.a, h.e, hold60 h0 (by omega), hold60 (t := t + d) (by omega) h1]
  cases hx : x.a with
  | false => rfl
  | true =>
    rw [h.yes hx]
    simp only [Bool.not_true, Bool.false_or]
    congr 1
    simp only [eq_iff_iff]
    omega
theorem Shifted.took {x y : Bk} {d t : Int} (h : Shifted x y d) (h0 : 0 ≤ t) (hd : 0 ≤ d) (h1 : t + d ≤ 1152921504606846976) : Shifted (tookB x t) (tookB y (t + d)) d := by
  refine ⟨h.s, h.e, rfl, fun _ => ?_, fun h => by cases h⟩
  show max y.n (hold (t + d) 0 1152921504606846976) + y.s = max x.n (hold t 0 1152921504606846976) + x.s + d
  rw [h.s, hold60 h0 (by omega), hold60 (t := t + d) (by omega) h1]
  cases hx : x.a with
  | false => rw [(h.no hx).1, (h.no hx).2]; omega
  | true => rw [h.yes hx]; omega
theorem Shifted.level {x y : Bk} {d t : Int} (h : Shifted x y d) (hx : x.a = true) (h0 : 0 ≤ t) (hd : 0 ≤ d) (h1 : t + d ≤ 1152921504606846976) : levelB y (t + d) = levelB x t := by
  unfold levelB
  rw [h.yes hx, hold60 h0 (by omega), hold60 (t := t + d) (by omega) h1]
  omega
theorem Shifted.due {x y : Bk} {d : Int} (h : Shifted x y d) (hd : 0 ≤ d) (hp : 0 < dueB x) : dueB y = dueB x + d := by
  unfold dueB at *
  rw [h.a, h.e]
  cases hx : x.a with
  | false => rw [hx] at hp; simp at hp
  | true =>
    rw [hx] at hp
    rw [h.yes hx]
    simp only [if_true] at hp ⊢
    omega

theorem due_at {x : Bk} (hx : x.Ok) {b : Nat} {r : Int} {w : World} (hb : HasB w b x) (hf : dueB x = r) : Calls Try.prog 15 #[.pointer (some ⟨b, 0, none⟩)] w fun e w' => e = .returned (.int .i64 r) ∧ ∃ n, w' = w.drewN n := by
  have e := due_any x hx b w hb
  rwa [hf] at e

theorem HasB.kept' {w W W' : World} {b : Nat} {x : Bk} {row : Option Nat} (hg : W.grownBy W' row) (h : HasB w b x) (hh : W.heap = w.heap) (hne : row ≠ some b) : HasB W' b x :=
  HasB.kept (W := W) (by unfold HasB at *; rw [hh]; exact h) hg hne

set_option maxHeartbeats 1600000 in
theorem shi_walk (st ea : Int) (A : Option Addr) (cap : Nat) (zs : List Int) (d : Int) (w : World) (hst : 0 ≤ st ∧ st ≤ 4294967295) (hea : 0 ≤ ea ∧ ea ≤ 4294967295)
    (hs : Small zs) (hn : zs.length ≤ 300) (hr : Rd .u32 w A zs) (hd : 0 ≤ d ∧ d ≤ 4294967295) :
    Calls Try.prog 6 #[.int .u32 st, .int .u32 ea, .slice A zs.length cap, .int .u32 d] w fun e w' => e = .returned (.bool true) ∧ Below w.heap.size w w' := by
  obtain ⟨s0, s1⟩ := hst
  obtain ⟨e0, e1⟩ := hea
  obtain ⟨d0, d1⟩ := hd
  obtain ⟨x0, hx0e⟩ : ∃ x0, Bk.mk (hold st 1 1152921504606846976) (hold ea 0 1152921504606846976) 0 false = x0 := ⟨_, rfl⟩
  have hx0 := hold_ok st ea
  rw [hx0e] at hx0
  have hx00 : x0.n = 0 ∧ x0.a = false ∧ x0.s ≤ 4294967295 := by rw [← hx0e]; refine ⟨rfl, rfl, ?_⟩; simp only [hold]; omega
  have hnew : ∀ w, Calls Try.prog 10 #[.int .i64 st, .int .i64 ea] w (NewB x0 w) := fun w => by
    have e := new_any st ea w
    rwa [hx0e] at e
  have HX := Lib.hid (And.intro hx0 hx00)
  clear hx0 hx00 hx0e
  go_enter Try.func6, Try.ntmps6
  go_wp2_with fail
  refine (awake_any _).mono ?_
  rintro e w1 ⟨rfl, b1⟩
  have hr1 := hr.below b1 (Nat.le_refl _)
  clear hr
  go_wp2_with fail
  refine (hnew _).mono ?_
  rintro e w2 ⟨a, rfl, ha, h2, g2⟩
  have b2 := new_below b1 b1.size g2
  have haw : w.heap.size ≤ a := Nat.le_trans b1.size ha
  have hr2 := hr1.below (below_none g2) (Nat.le_refl _)
  clear ha g2 b1 hr1 w1
  go_wp2_with fail
  refine (hnew _).mono ?_
  rintro e w3 ⟨b, rfl, hb, h3, g3⟩
  have b3 := new_below b2 b2.size g3
  have hbw : w.heap.size ≤ b := Nat.le_trans b2.size hb
  have hr3 := hr2.below (below_none g3) (Nat.le_refl _)
  have hab : a < b := Nat.lt_of_lt_of_le h2.lt hb
  have ha3 : HasB w3 a x0 := h2.kept g3 (by simp)
  clear hb g3 b2 hr2 h2 w2
  go_wp2_with fail
  refine (rising_any A cap zs _ hs hn hr3).mono ?_
  rintro e w4 ⟨v, rfl, hrow, b4⟩
  have hl := ups_length zs zs.length
  have hups : ∀ j : Nat, j < zs.length → 0 ≤ (ups zs zs.length)[j]?.getD 0 ∧ (ups zs zs.length)[j]?.getD 0 ≤ 1288490188500 := fun j hj => by
    rw [ups_at _ _ _ hj]
    have := sumTo_bd hs (j + 1)
    omega
  have ha4 : HasB w4 a x0 := by
    have hlt := ha3.lt
    unfold HasB at *
    rw [b4.block a hlt]
    exact ha3
  have hb4 : HasB w4 b x0 := by
    have hlt := h3.lt
    unfold HasB at *
    rw [b4.block b hlt]
    exact h3
  have b4' : Below w.heap.size w w4 := b3.trans (b4.mono b3.size)
  obtain ⟨l, el⟩ : ∃ l, ups zs zs.length = l := ⟨_, rfl⟩
  rw [el] at hrow hl hups
  obtain ⟨A4, c4, rfl, hrd⟩ := hrow.rd
  obtain ⟨B4, eB4⟩ : ∃ B, w3.heap.size = B := ⟨_, rfl⟩
  rw [eB4] at hrow
  rw [hl] at hrow ⊢
  have HU := Lib.hid hups
  have HL := Lib.hid hl
  clear hups b4 b3 hr3 ha3 h3 hs el hl eB4 hnew w3
  go_wp2_with fail
  go_loopw [35] (fun i wr => ∃ (k : Nat) (x y : Bk), k ≤ zs.length ∧ i = .int .i64 k ∧ HasB wr a x ∧ HasB wr b y ∧ x.Ok ∧ y.Ok ∧ Shifted x y d ∧ x.s ≤ 4294967295 ∧ x.n ≤ 1288490188500 + k * 4294967295 ∧ (0 < k → x.a = true) ∧ (x.a = false → x.n = 0) ∧ Row wr B4 (.slice A4 zs.length c4) l ∧ Below w.heap.size w wr) (fun i _ => zs.length - (intOf i).toNat)
  case atStart => exact ⟨0, x0, x0, Nat.zero_le _, rfl, ha4, hb4, HX.out.1, HX.out.1, ⟨rfl, rfl, rfl, (fun h => by rw [HX.out.2.2.1] at h; cases h), fun _ => ⟨HX.out.2.1, HX.out.2.1⟩⟩, HX.out.2.2.2, by rw [HX.out.2.1]; omega, fun h => by omega, fun _ => HX.out.2.1, hrow, b4'⟩
  case round =>
    clear ha4 hb4 hrow b4'
    obtain ⟨k, x, y, hk, rfl, hax, hby, hxo, hyo, hsh, hxs, hxn, hxa, hxz, hrl, hbel⟩ := hrel
    by_cases hlt : k < zs.length
    · rcases hrd with hrd | ⟨bl, off, rfl, _, _⟩
      · exfalso; have := HL.out; rw [hrd] at this; simp at this; omega
      have hcell := hrl.cellAt k (by have := HL.out; omega)
      have hbd := HU.out k hlt
      obtain ⟨t, et⟩ : ∃ t, l[k]?.getD 0 = t := ⟨_, rfl⟩
      rw [et] at hcell hbd
      clear et
      have hfy := hsh.fit (t := t) hbd.1 d0 (by omega)
      have hneab : (some a : Option Nat) ≠ some b := by simp; omega
      by_cases hf : fitB x t = true
      · rw [hf] at hfy
        have hlv := (hsh.took (t := t) hbd.1 d0 (by omega)).level rfl hbd.1 d0 (by omega)
        have hokx := takeB_ok hxo t
        have hoky := takeB_ok hyo (t + d)
        rw [show takeB x t = tookB x t by unfold takeB; rw [hf]; rfl] at hokx
        rw [show takeB y (t + d) = tookB y (t + d) by unfold takeB; rw [hfy]; rfl] at hoky
        have HF := Lib.hid (And.intro hf (And.intro hfy hlv))
        clear hf hfy hlv
        have HE := Lib.hid hrl
        have t1 : ∀ W, HasB W a x → Calls Try.prog 12 #[.pointer (some ⟨a, 0, none⟩), .int .i64 t] W (SetsB a (tookB x t) (.bool true) W) := fun W h => take_yes x hxo a t W h HF.out.1
        have t2 : ∀ W, HasB W b y → Calls Try.prog 12 #[.pointer (some ⟨b, 0, none⟩), .int .i64 (t + d)] W (SetsB b (tookB y (t + d)) (.bool true) W) := fun W h => take_yes y hyo b (t + d) W h HF.out.2.1
        have t3 : ∀ W, HasB W a (tookB x t) → Calls Try.prog 13 #[.pointer (some ⟨a, 0, none⟩), .int .i64 t] W fun e w' => e = .returned (.int .i64 (levelB (tookB x t) t)) ∧ ∃ n, w' = W.drewN n := fun W h => level_any _ hokx a t W h
        have t4 : ∀ W, HasB W b (tookB y (t + d)) → Calls Try.prog 13 #[.pointer (some ⟨b, 0, none⟩), .int .i64 (t + d)] W fun e w' => e = .returned (.int .i64 (levelB (tookB x t) t)) ∧ ∃ n, w' = W.drewN n := fun W h => level_at hoky h HF.out.2.2
        have H0 := Lib.hid (And.intro hax hby)
        have HCL := Lib.hid hcell
        have HNE := Lib.hid (And.intro (show ¬ bl = a from fun e => hrl.ne hax (by rw [← e]; rfl)) (show ¬ bl = b from fun e => hrl.ne hby (by rw [← e]; rfl)))
        clear hax hby hrl
        have hwr : IntKind.i64.wrap (t + d) = t + d := Go.IntWalk.i64_in _ (by omega)
        have hwd : IntKind.i64.wrap d = d := Go.IntWalk.i64_in _ (by omega)
        go_wp2_with fail
        go_region_held3 (fun w' => w'.cell? ⟨bl, off + k, none⟩ = some (.int .i64 t)) (first | assumption | go_keep)
          (first
            | (go_at_call_of 12 (Value.pointer (some ⟨a, 0, none⟩)); refine (t1 _ (by exact H0.out.1)).mono ?_; rintro e wa ⟨rfl, h5, g5, s5⟩; have c5 : wa.cell? ⟨bl, off + k, none⟩ = some (.int .i64 t) := g5.cell HCL.out (by simp; exact HNE.out.1); have k5 : HasB wa b y := HasB.kept' g5 H0.out.2 rfl hneab; clear s5)
            | (go_at_call_of 12 (Value.pointer (some ⟨b, 0, none⟩)); refine (t2 _ (by exact k5)).mono ?_; rintro e wb ⟨rfl, h6, g6, s6⟩; have c6 : wb.cell? ⟨bl, off + k, none⟩ = some (.int .i64 t) := g6.cell c5 (by simp; exact HNE.out.2); have k6 : HasB wb a (tookB x t) := HasB.kept' g6 h5 rfl hneab.symm; clear s6)
            | (go_at_call_of 13 (Value.pointer (some ⟨a, 0, none⟩)); refine (t3 _ (by exact k6)).mono ?_; rintro e wc ⟨rfl, n7, rfl⟩)
            | (go_at_call_of 13 (Value.pointer (some ⟨b, 0, none⟩)); refine (t4 _ (by exact h6)).mono ?_; rintro e wc ⟨rfl, n8, rfl⟩))
        have hbel5 := below_grown (below_drewN hbel 1) g5 hbel.size haw
        have hbel6 := below_grown hbel5 g6 hbel5.size hbw
        have hsh6 := hsh.took (t := t) hbd.1 d0 (by omega)
        have hl6 : Row wb B4 (.slice (some ⟨bl, off, none⟩) zs.length c4) l := Row.kept (Row.kept (W := wr.drew) HE.out g5 (.inr (by simp [Value.ownBlock]; exact HNE.out.1))) g6 (.inr (by simp [Value.ownBlock]; exact HNE.out.2))
        have hn6 : (tookB x t).n ≤ 1288490188500 + (k + 1) * 4294967295 := by
          show max x.n (hold t 0 1152921504606846976) + x.s ≤ _
          rw [hold60 hbd.1 (by omega)]
          omega
        have hdue : 0 ≤ dueB (tookB x t) ∧ dueB (tookB x t) ≤ 3458764513820540928 := by unfold dueB; have := hokx.n2; have := hokx.e0; split <;> omega
        have hdy := hsh6.due d0
        have HP := Lib.hid (And.intro hsh6 (And.intro hl6 (And.intro hn6 (And.intro hbel6 (And.intro hokx hoky)))))
        obtain ⟨du, edu⟩ : ∃ du, dueB (tookB x t) = du := ⟨_, rfl⟩
        rw [edu] at hdy hdue
        have t5 : ∀ W, HasB W a (tookB x t) → Calls Try.prog 15 #[.pointer (some ⟨a, 0, none⟩)] W fun e w' => e = .returned (.int .i64 du) ∧ ∃ n, w' = W.drewN n := fun W h => due_at hokx h edu
        clear hbel5 hbel6 hsh6 hl6 hn6 c5 c6 hbel g5 g6 k5 h5 t1 t2 t3 t4 hwr hwd hcell
        by_cases hdp : 0 < du
        · have t6 : ∀ W, HasB W b (tookB y (t + d)) → Calls Try.prog 15 #[.pointer (some ⟨b, 0, none⟩)] W fun e w' => e = .returned (.int .i64 (du + d)) ∧ ∃ n, w' = W.drewN n := fun W h => due_at hoky h (hdy hdp)
          clear hdy edu
          go_wp2_with fail
          refine (t5 _ (by exact k6)).mono ?_
          rintro e wc ⟨rfl, n9, rfl⟩
          go_wp2_with fail
          refine (t5 _ (by exact k6)).mono ?_
          rintro e wc ⟨rfl, n10, rfl⟩
          go_wp2_with fail
          refine (t6 _ (by exact h6)).mono ?_
          rintro e wc ⟨rfl, n11, rfl⟩
          go_wp2_with fail
          go_roundw
          case rel => exact ⟨k + 1, _, _, by omega, by go_num, k6, h6, HP.out.2.2.2.2.1, HP.out.2.2.2.2.2, HP.out.1, hxs, by have := HP.out.2.2.1; omega, fun _ => rfl, (fun h => by cases h), HP.out.2.1, below_drewN HP.out.2.2.2.1 _⟩
          case measure => simp [intOf]; omega
        · clear hdy edu
          go_wp2_with fail
          refine (t5 _ (by exact k6)).mono ?_
          rintro e wc ⟨rfl, n9, rfl⟩
          go_wp2_with fail
          go_roundw
          case rel => exact ⟨k + 1, _, _, by omega, by go_num, k6, h6, HP.out.2.2.2.2.1, HP.out.2.2.2.2.2, HP.out.1, hxs, by have := HP.out.2.2.1; omega, fun _ => rfl, (fun h => by cases h), HP.out.2.1, below_drewN HP.out.2.2.2.1 _⟩
          case measure => simp [intOf]; omega
      · have hf' : fitB x t = false := by simpa using hf
        rw [hf'] at hfy
        have hxt : x.a = true := by
          cases hx : x.a with
          | true => rfl
          | false => unfold fitB at hf'; rw [hx] at hf'; simp at hf'
        have hlv := hsh.level (t := t) hxt hbd.1 d0 (by omega)
        have HF := Lib.hid (And.intro hf' (And.intro hfy hlv))
        have HXA := Lib.hid hxt
        have hdue : 0 ≤ dueB x ∧ dueB x ≤ 3458764513820540928 := by unfold dueB; have := hxo.n2; have := hxo.e0; split <;> omega
        have hdy := hsh.due d0
        obtain ⟨du, edu⟩ : ∃ du, dueB x = du := ⟨_, rfl⟩
        rw [edu] at hdy hdue
        have t1 : ∀ W, HasB W a x → Calls Try.prog 12 #[.pointer (some ⟨a, 0, none⟩), .int .i64 t] W fun e w' => e = .returned (.bool false) ∧ ∃ n, w' = W.drewN n := fun W h => take_no x hxo a t W h HF.out.1
        have t2 : ∀ W, HasB W b y → Calls Try.prog 12 #[.pointer (some ⟨b, 0, none⟩), .int .i64 (t + d)] W fun e w' => e = .returned (.bool false) ∧ ∃ n, w' = W.drewN n := fun W h => take_no y hyo b (t + d) W h HF.out.2.1
        have t3 : ∀ W, HasB W a x → Calls Try.prog 13 #[.pointer (some ⟨a, 0, none⟩), .int .i64 t] W fun e w' => e = .returned (.int .i64 (levelB x t)) ∧ ∃ n, w' = W.drewN n := fun W h => level_any _ hxo a t W h
        have t4 : ∀ W, HasB W b y → Calls Try.prog 13 #[.pointer (some ⟨b, 0, none⟩), .int .i64 (t + d)] W fun e w' => e = .returned (.int .i64 (levelB x t)) ∧ ∃ n, w' = W.drewN n := fun W h => level_at hyo h HF.out.2.2
        have t5 : ∀ W, HasB W a x → Calls Try.prog 15 #[.pointer (some ⟨a, 0, none⟩)] W fun e w' => e = .returned (.int .i64 du) ∧ ∃ n, w' = W.drewN n := fun W h => due_at hxo h edu
        have HD := Lib.hid (show 0 < du → ∀ W, HasB W b y → Calls Try.prog 15 #[.pointer (some ⟨b, 0, none⟩)] W fun e w' => e = .returned (.int .i64 (du + d)) ∧ ∃ n, w' = W.drewN n from fun hdp W h => due_at hyo h (hdy hdp))
        have HP := Lib.hid (And.intro hsh (And.intro hrl (And.intro hxn (And.intro hbel (And.intro hxz hxa)))))
        have hwr : IntKind.i64.wrap (t + d) = t + d := Go.IntWalk.i64_in _ (by omega)
        have hwd : IntKind.i64.wrap d = d := Go.IntWalk.i64_in _ (by omega)
        clear hf hf' hfy hlv hxt edu hdy hsh hrl hxn hbel hxz hxa
        go_wp2_with fail
        go_quiet (first
          | (go_at_call_of 12 (Value.pointer (some ⟨a, 0, none⟩)); exact Calls.quiet_of (t1 _ (by exact hax)))
          | (go_at_call_of 12 (Value.pointer (some ⟨b, 0, none⟩)); exact Calls.quiet_of (t2 _ (by exact hby)))
          | (go_at_call_of 13 (Value.pointer (some ⟨a, 0, none⟩)); exact Calls.quiet_of (t3 _ (by exact hax)))
          | (go_at_call_of 13 (Value.pointer (some ⟨b, 0, none⟩)); exact Calls.quiet_of (t4 _ (by exact hby))))
        go_wp2_with fail
        clear hwr hwd
        by_cases hdp : 0 < du
        · have t6 := HD.out hdp
          refine (t5 _ (by exact hax)).mono ?_
          rintro e wc ⟨rfl, n9, rfl⟩
          go_wp2_with fail
          refine (t5 _ (by exact hax)).mono ?_
          rintro e wc ⟨rfl, n10, rfl⟩
          go_wp2_with fail
          refine (t6 _ (by exact hby)).mono ?_
          rintro e wc ⟨rfl, n11, rfl⟩
          go_wp2_with fail
          go_roundw
          case rel => exact ⟨k + 1, x, y, by omega, by go_num, hax, hby, hxo, hyo, HP.out.1, hxs, by have := HP.out.2.2.1; omega, fun _ => HXA.out, HP.out.2.2.2.2.1, HP.out.2.1, below_drewN HP.out.2.2.2.1 _⟩
          case measure => simp [intOf]; omega
        · refine (t5 _ (by exact hax)).mono ?_
          rintro e wc ⟨rfl, n9, rfl⟩
          go_wp2_with fail
          go_roundw
          case rel => exact ⟨k + 1, x, y, by omega, by go_num, hax, hby, hxo, hyo, HP.out.1, hxs, by have := HP.out.2.2.1; omega, fun _ => HXA.out, HP.out.2.2.2.2.1, HP.out.2.1, below_drewN HP.out.2.2.2.1 _⟩
          case measure => simp [intOf]; omega
    · go_wp2_with fail
      go_ret
      exact ⟨rfl, hbel⟩

theorem shi_long (st ea : Int) (A : Option Addr) (n cap : Nat) (d : Int) (w : World) (hn : 300 < n) :
    Calls Try.prog 6 #[.int .u32 st, .int .u32 ea, .slice A n cap, .int .u32 d] w fun e w' => e = .returned (.bool true) ∧ Below w.heap.size w w' := by
  go_enter Try.func6, Try.ntmps6
  go_wp2_with fail
  refine (awake_any _).mono ?_
  rintro e w1 ⟨rfl, b1⟩
  go_wp2_with fail
  refine (awake_any _).mono ?_
  rintro e w2 ⟨rfl, b2⟩
  go_wp2_with fail
  go_ret
  exact ⟨rfl, b1.trans (b2.mono b1.size)⟩

end Go.Proofs.Ytkaefdpjadifgaa
