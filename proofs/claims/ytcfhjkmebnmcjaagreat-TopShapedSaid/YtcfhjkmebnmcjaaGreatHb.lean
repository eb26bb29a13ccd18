/- The contracts of a ledger's functions: New, Left, Book. -/
import Derived.Test.YtcfhjkmebnmcjaaGreatH
import Derived.Test.YtcfhjkmebnmcjaaGreatBb
import Derived.WalkLawsBesides
import Derived.RegionTactic
import Derived.BigRegion
import Derived.Deep.QuietTactic
import Derived.BigQuiet
import Derived.StillTailTactics
import Derived.Lib.Hide
import Derived.OneCell
import Derived.Carry
import Derived.IntWalk
namespace Go.Proofs.YtcfhjkmebnmcjaaGreat
open Go.RowKit Go.Maps
set_option linter.unusedVariables false
set_option linter.unusedSimpArgs false

theorem law3 : Keyed Tryz.prog 3 := int_keyed Tryz.underlying3
theorem zero3 (w : World) : (zeroValue 3).run Tryz.prog w = .ok (.int .i64 0) w := by kernel_rfl

/-- Blocks p and m may have turned, and there may be new ones; all else is as it was. -/
structure Kept (p m : Nat) (w w' : World) : Prop where
  os : w'.os = w.os
  tape : w'.tape = w.tape
  output : w'.output = w.output
  size : w.heap.size ≤ w'.heap.size
  block : ∀ k, k < w.heap.size → k ≠ p → k ≠ m → w'.heap[k]? = w.heap[k]?

theorem Kept.refl (p m : Nat) (w : World) : Kept p m w w := ⟨rfl, rfl, rfl, Nat.le_refl _, fun _ _ _ _ => rfl⟩
theorem Kept.trans {p m : Nat} {a b c : World} (h : Kept p m a b) (k : Kept p m b c) : Kept p m a c :=
  ⟨k.os.trans h.os, k.tape.trans h.tape, k.output.trans h.output, Nat.le_trans h.size k.size, fun i hi h1 h2 => (k.block i (Nat.lt_of_lt_of_le hi h.size) h1 h2).trans (h.block i hi h1 h2)⟩
theorem Kept.drewN {p m : Nat} {a b : World} (h : Kept p m a b) (n : Nat) : Kept p m a (b.drewN n) := ⟨h.os, h.tape, h.output, h.size, h.block⟩
theorem Kept.drew {p m : Nat} {a b : World} (h : Kept p m a b) : Kept p m a b.drew := ⟨h.os, h.tape, h.output, h.size, h.block⟩
theorem Kept.grown {p m : Nat} {a b : World} {row : Option Nat} (h : a.grownBy b row) (hr : row = none ∨ row = some p ∨ row = some m) : Kept p m a b :=
  ⟨h.os, h.tape, h.output, h.size, fun k hk h1 h2 => h.block k hk (fun e => by rcases hr with rfl | rfl | rfl <;> simp at e <;> omega)⟩
theorem Kept.set {p m : Nat} (a : World) (o : Nat) (v : Value) : Kept p m a (a.setCell ⟨p, o, none⟩ v) :=
  ⟨rfl, rfl, rfl, by simp [World.setCell], fun k hk h1 h2 => Below.heap_setCell _ _ _ _ (fun e => h1 e)⟩
theorem Kept.below {B p m : Nat} {a w w' : World} (h : Below B a w) (k : Kept p m w w') (hB : B ≤ w.heap.size) (hp : B ≤ p) (hm : B ≤ m) : Below B a w' :=
  h.trans ⟨k.os, k.tape, k.output, k.size, fun i hi => k.block i (Nat.lt_of_lt_of_le hi hB) (by omega) (by omega)⟩

theorem below_none {w w' : World} (g : w.grownBy w' none) : Below w.heap.size w w' := ⟨g.os, g.tape, g.output, g.size, fun k hk => g.block k hk (by simp)⟩

/-- Block p is a ledger whose bookings lie in the map m. -/
structure HasL (W : World) (p m : Nat) (x : Lg) : Prop where
  cells : W.heap[p]? = some (.cells #[.int .i64 x.room, .int .i64 (tot x.L), .map (some m)] 154 (0, 0))
  own : W.ownsMap Tryz.prog 3 (plainElem Tryz.prog 3) m x.L.length (dm x.L)

theorem own_norm {W : World} {m n : Nat} {L : Ent} (h : W.ownsMap Tryz.prog 3 (plainElem Tryz.prog 3) m n (dm L)) : W.ownsMap Tryz.prog 3 (plainElem Tryz.prog 3) m L.length (dm L) := by
  obtain ⟨es, clock, hb, F, hs, hD⟩ := h
  refine ⟨es, clock, hb, F, ?_, hD⟩
  unfold dm at hD
  injection hD with hD
  have := congrArg List.length hD
  rw [length_sorted] at this
  simp at this
  omega

theorem HasL.c0 {w : World} {p m : Nat} {x : Lg} (h : HasL w p m x) : w.cell? ⟨p, 0, none⟩ = some (.int .i64 x.room) := by simp [World.cell?, h.cells]
theorem HasL.c1 {w : World} {p m : Nat} {x : Lg} (h : HasL w p m x) : w.cell? ⟨p, 1, none⟩ = some (.int .i64 (tot x.L)) := by simp [World.cell?, h.cells]
theorem HasL.c2 {w : World} {p m : Nat} {x : Lg} (h : HasL w p m x) : w.cell? ⟨p, 2, none⟩ = some (.map (some m)) := by simp [World.cell?, h.cells]
theorem HasL.fr {w : World} {p m : Nat} {x : Lg} (h : HasL w p m x) (o : Nat) : w.frozen? ⟨p, o, none⟩ = false := by simp [World.frozen?, h.cells]
theorem HasL.lt {w : World} {p m : Nat} {x : Lg} (h : HasL w p m x) : p < w.heap.size := lt_of_block h.cells
theorem HasL.ne {w : World} {p m : Nat} {x : Lg} (h : HasL w p m x) : p ≠ m := by
  rintro rfl
  obtain ⟨es, clock, hb, _⟩ := h.own
  rw [h.cells] at hb
  simp at hb
theorem HasL.drewN {w : World} {p m : Nat} {x : Lg} (h : HasL w p m x) (n : Nat) : HasL (w.drewN n) p m x := ⟨h.cells, h.own⟩
theorem HasL.kept {w w' : World} {p m : Nat} {x : Lg} {row : Option Nat} (h : HasL w p m x) (hg : w.grownBy w' row) (h1 : row ≠ some p) (h2 : row ≠ some m) : HasL w' p m x :=
  ⟨(hg.block p h.lt (fun e => h1 e.symm)).trans h.cells, h.own.kept hg (fun e => h2 e.symm)⟩
theorem HasL.kept2 {w w' : World} {p m q r : Nat} {x : Lg} (h : HasL w p m x) (hg : Kept q r w w') (h1 : p ≠ q) (h2 : p ≠ r) (h3 : m ≠ q) (h4 : m ≠ r) : HasL w' p m x :=
  ⟨(hg.block p h.lt h1 h2).trans h.cells, by
    have hlt := h.own.lt
    obtain ⟨es, clock, hb, F, hs, hD⟩ := h.own
    exact ⟨es, clock, (hg.block m hlt h3 h4).trans hb, F, hs, hD⟩⟩

theorem left_any (x : Lg) (hx : x.Ok) (p m : Nat) (w : World) (h : HasL w p m x) : Calls Tryz.prog 59 #[.pointer (some ⟨p, 0, none⟩)] w fun e w' => e = .returned (.int .i64 (x.room - tot x.L)) ∧ ∃ n, w' = w.drewN n := by
  have c0 := h.c0
  have c1 := h.c1
  have ht := tot_bd hx
  have h0 := hx.r0
  have h1 := hx.r1
  obtain ⟨u, eu⟩ : ∃ u, tot x.L = u := ⟨_, rfl⟩
  rw [eu] at c1 ht ⊢
  clear eu h
  go_enter Tryz.func59, Tryz.ntmps59
  go_wp2
  go_quiet (fail)
  go_wp2
  go_ret
  exact ⟨rfl, _, rfl⟩

/-- A new ledger. -/
def NewL (room : Int) (w : World) (e : Ending) (w' : World) : Prop := ∃ p m, e = .returned (.pointer (some ⟨p, 0, none⟩)) ∧ w.heap.size ≤ p ∧ w.heap.size ≤ m ∧ HasL w' p m ⟨room, []⟩ ∧ w.grownBy w' none

theorem NewL.mk (r : Int) (w : World) : NewL r w (.returned (.pointer (some ⟨w.heap.size + 1, 0, none⟩))) ((w.alloc (.map #[] 0)).alloc (.cells #[.int .i64 r, .int .i64 0, .map (some w.heap.size)] 154)) := by
  refine ⟨w.heap.size + 1, w.heap.size, rfl, by omega, Nat.le_refl _, ⟨?_, ?_⟩, ⟨rfl, rfl, rfl, by simp; omega, fun k hk _ => ?_⟩⟩
  · have := heap_alloc_new (w.alloc (.map #[] 0)) (.cells #[.int .i64 r, .int .i64 0, .map (some w.heap.size)] 154)
    simpa [tot] using this
  · exact (World.ownsMap_made w Tryz.prog 3 _).alloc _
  · rw [Below.heap_alloc _ _ _ (by simp; omega), Below.heap_alloc _ _ _ hk]

theorem lnew_any (room : Int) (w : World) : Calls Tryz.prog 34 #[.int .i64 room] w (NewL (max 0 (min room 1152921504606846976)) w) := by
  have hmm := @run_makeMap Tryz.prog
  have hk : ∀ r : Int, r = max 0 (min room 1152921504606846976) → NewL (max 0 (min room 1152921504606846976)) w (.returned (.pointer (some ⟨w.heap.size + 1, 0, none⟩))) ((w.alloc (.map #[] 0)).alloc (.cells #[.int .i64 r, .int .i64 0, .map (some w.heap.size)] 154)) := fun r h => by
    rw [← h]; exact NewL.mk r w
  go_enter Tryz.func34, Tryz.ntmps34
  go_wp2
  all_goals
    go_ret
    exact hk _ (by omega)

/-- 'n, ok := m[id]'. -/
theorem wpList_look {ops : Array Oper} {rest : List Oper} {o : Oper} {a : Act} {Q : Exit → Act → World → Prop} {w : World} (hg : o.guard = none) (m x : Operand) (hop : o.op = Op.lookup 152 m x true) (b n : Nat) (L : Ent) (id : Int)
    (hm : a.eval m = .map (some b)) (hown : w.ownsMap Tryz.prog 3 (plainElem Tryz.prog 3) b n (dm L)) (hx : a.eval x = .int .i64 id) (hwf : (Lit.int .i64 id).wf = true) (v : Int) (bb : Bool) (hv : (look L id).getD 0 = v) (hb : (look L id).isSome = bb)
    (hK : wpList Tryz.prog ops Q rest (a.put o.dst (.tuple #[.int .i64 v, .bool bb])) w) : wpList Tryz.prog ops Q (o :: rest) a w := by
  refine wpList_lookup_own_ok_int w hg m x 152 hop 3 3 .i64 law3 Tryz.underlying152 Tryz.underlying3 (zero3 _) b n (dm L) hm hown _ _ hx (keyOf_int_mk Tryz.underlying3 hwf) ?_
  intro c hat _
  rw [dm_at] at hat
  injection hat with hat
  injection hat with _ hat
  rw [dm_has, hb, ← hat, hv]
  exact hK

/-- 'm[id] = v'. -/
theorem wpList_book {ops : Array Oper} {rest : List Oper} {o : Oper} {a : Act} {Q : Exit → Act → World → Prop} {w : World} (hg : o.guard = none) (m x v : Operand) (hop : o.op = Op.mapUpdate 152 m x v) (b n : Nat) (L : Ent) (id need : Int)
    (hm : a.eval m = .map (some b)) (hown : w.ownsMap Tryz.prog 3 (plainElem Tryz.prog 3) b n (dm L)) (hn : n < 1000000) (hx : a.eval x = .int .i64 id) (hv : a.eval v = .int .i64 need) (hwf : (Lit.int .i64 id).wf = true) (hwn : (Lit.int .i64 need).wf = true)
    (hK : ∀ w', w'.ownsMap Tryz.prog 3 (plainElem Tryz.prog 3) b (ins id need (del L id)).length (dm (ins id need (del L id))) → w.grownBy w' (some b) → wpList Tryz.prog ops Q rest (a.put o.dst undef) w') : wpList Tryz.prog ops Q (o :: rest) a w := by
  refine wpList_mapUpdate_own w hg m x v 152 hop 3 3 law3 Tryz.underlying152 _ b n (dm L) hm hown (by unfold maxLen; omega) _ _ _ hx hv (keyOf_int_mk Tryz.underlying3 hwf) _ [] (plainElem_int Tryz.underlying3 hwn) ?_
  intro w' h1 h2
  rw [dm_put] at h1
  exact hK w' (own_norm h1) h2

/-- 'delete(m, id)'. -/
def Turns (p m : Nat) (y : Lg) (v : Value) (w : World) (e : Ending) (w' : World) : Prop := e = .returned v ∧ HasL w' p m y ∧ Kept p m w w'

theorem Turns.same {p m : Nat} {x : Lg} {v : Value} {w : World} (h : HasL w p m x) (n : Nat) : Turns p m x v w (.returned v) (w.drewN n) := ⟨rfl, h.drewN n, (Kept.refl p m w).drewN n⟩

theorem book_no (x : Lg) (hx : x.Ok) (p m : Nat) (id need : Int) (hwi : (Lit.int .i64 id).wf = true) (w : World) (h : HasL w p m x) (r : Int) (hr : bookE x id need = r) (h0 : r ≠ 0) :
    Calls Tryz.prog 38 #[.pointer (some ⟨p, 0, none⟩), .int .i64 id, .int .i64 need] w (Turns p m x (.int .i64 r) w) := by
  have c2 := h.c2
  have hown := h.own
  have HL := Lib.hid (left_any x hx p m w h)
  have HH := Lib.hid h
  clear h
  by_cases h1 : need < 0
  · obtain rfl : r = 1 := by rw [← hr]; unfold bookE; rw [if_pos h1]
    clear hr h0
    go_enter Tryz.func38, Tryz.ntmps38
    go_wp2_with (at_lookup; refine wpList_look rfl _ _ rfl m _ x.L id rfl hown rfl hwi _ _ rfl rfl ?_)
    go_ret
    exact Turns.same HH.out 0
  · cases hl : look x.L id with
    | some n =>
      obtain rfl : r = 7 := by rw [← hr]; unfold bookE; rw [if_neg h1, hl]; rfl
      clear hr h0
      have hv : (look x.L id).getD 0 = n := by rw [hl]; rfl
      have hb : (look x.L id).isSome = true := by rw [hl]; rfl
      have HV := Lib.hid (And.intro hv hb)
      clear hv hb hl
      go_enter Tryz.func38, Tryz.ntmps38
      go_wp2_with (at_lookup; refine wpList_look rfl _ _ rfl m _ x.L id rfl hown rfl hwi n true HV.out.1 HV.out.2 ?_)
      go_ret
      exact Turns.same HH.out 0
    | none =>
      have hf : x.room - tot x.L < need := by
        by_cases h2 : x.room - tot x.L < need
        · exact h2
        · exfalso; apply h0; rw [← hr]; unfold bookE; rw [if_neg h1, hl, if_neg h2]; rfl
      obtain rfl : r = 9 := by rw [← hr]; unfold bookE; rw [if_neg h1, hl, if_pos hf]; rfl
      clear hr h0
      have hv : (look x.L id).getD 0 = 0 := by rw [hl]; rfl
      have hb : (look x.L id).isSome = false := by rw [hl]; rfl
      have HV := Lib.hid (And.intro hv hb)
      clear hv hb hl
      go_enter Tryz.func38, Tryz.ntmps38
      go_wp2_with (first
        | (at_lookup; refine wpList_look rfl _ _ rfl m _ x.L id rfl hown rfl hwi 0 false HV.out.1 HV.out.2 ?_)
        | (go_at_call 59; refine HL.out.mono ?_; rintro e w1 ⟨rfl, n1, rfl⟩))
      go_ret
      exact Turns.same HH.out _

theorem wf_small {n : Int} (h : 0 ≤ n ∧ n ≤ 1152921504606846976) : (Lit.int .i64 n).wf = true := WalkArith.wf_i64 (by omega)

/-- Behind a store into the map and one into the count. -/
theorem HasL.stored {w w1 w2 : World} {p m : Nat} {x y : Lg} {u : Int} (h : HasL w p m x) (n : Nat) (hg : (w.drewN n).grownBy w1 (some m)) (hw : w2 = w1) (hown : w1.ownsMap Tryz.prog 3 (plainElem Tryz.prog 3) m y.L.length (dm y.L)) (hr : y.room = x.room) (hu : u = tot y.L) :
    HasL (w2.setCell ⟨p, 1, none⟩ (.int .i64 u)) p m y ∧ Kept p m w (w2.setCell ⟨p, 1, none⟩ (.int .i64 u)) := by
  subst hw
  subst hu
  have hc : w2.heap[p]? = some (.cells #[.int .i64 x.room, .int .i64 (tot x.L), .map (some m)] 154 (0, 0)) := (hg.block p h.lt (fun e => h.ne (by injection e))).trans h.cells
  refine ⟨⟨?_, ?_⟩, ?_⟩
  · rw [heap_set hc, hr]; rfl
  · refine hown.kept (row := some p) ⟨rfl, rfl, rfl, by simp [World.setCell], fun k hk hne => Below.heap_setCell _ _ _ _ (fun e => hne (by rw [e]))⟩ (fun e => h.ne (by injection e with e; exact e.symm))
  · have k1 : Kept p m w w2 := ⟨hg.os, hg.tape, hg.output, hg.size, fun k hk h1 h2 => hg.block k hk (by simp; exact h2)⟩
    exact k1.trans (Kept.set w2 1 _)

theorem book_ok (x : Lg) (hx : x.Ok) (p m : Nat) (id need : Int) (hwi : (Lit.int .i64 id).wf = true) (hlen : x.L.length < 1000000) (w : World) (h : HasL w p m x) (hr : bookE x id need = 0) :
    Calls Tryz.prog 38 #[.pointer (some ⟨p, 0, none⟩), .int .i64 id, .int .i64 need] w (Turns p m ⟨x.room, ins id need x.L⟩ (.int .i64 0) w) := by
  obtain ⟨h1, hl, h3⟩ := bookE_zero.1 hr
  have c1 := h.c1
  have c2 := h.c2
  have f1 := h.fr 1
  have hown := h.own
  have HL := Lib.hid (left_any x hx p m w h)
  have HH := Lib.hid h
  have hv : (look x.L id).getD 0 = 0 := by rw [hl]; rfl
  have hb : (look x.L id).isSome = false := by rw [hl]; rfl
  have HV := Lib.hid (And.intro hv hb)
  have HD := Lib.hid (del_none hl)
  have ht := tot_bd hx
  have hr1 := hx.r1
  have hr2 := hx.le
  have hsz := h.lt
  have hne : ¬ p = m := h.ne
  obtain ⟨u, eu⟩ : ∃ u, tot x.L = u := ⟨_, rfl⟩
  rw [eu] at c1 ht h3 hr2
  have HU := Lib.hid eu
  have hwn : (Lit.int .i64 need).wf = true := wf_small (by omega)
  rw [eu] at HL
  clear hv hb hl hr h eu
  go_enter Tryz.func38, Tryz.ntmps38
  go_wp2_with (first
    | (at_lookup; refine wpList_look rfl _ _ rfl m _ x.L id rfl hown rfl hwi 0 false HV.out.1 HV.out.2 ?_)
    | (go_at_call 59; refine HL.out.mono ?_; rintro e w1 ⟨rfl, n1, rfl⟩)
    | (at_mapUpdate; refine wpList_book rfl _ _ _ rfl m _ x.L id need rfl (show (w.drewN n1).ownsMap Tryz.prog 3 (plainElem Tryz.prog 3) m x.L.length (dm x.L) from HH.out.own) hlen rfl rfl hwi hwn ?_; intro w2 hown2 hg2; have d1 : w2.cell? ⟨p, 1, none⟩ = some (.int .i64 u) := hg2.cell (a := ⟨p, 1, none⟩) c1 (by simp; exact hne); have e1 : w2.frozen? ⟨p, 1, none⟩ = false := (World.frozen?_of_block (a := ⟨p, 1, none⟩) (hg2.block p hsz (by simp; exact hne))).trans f1))
  rw [HD.out] at hown2
  have e := HasL.stored (y := ⟨x.room, ins id need x.L⟩) (u := u + need) HH.out n1 hg2 rfl hown2 rfl (by show u + need = tot (ins id need x.L); rw [tot_ins, HU.out]; omega)
  go_ret
  exact ⟨rfl, e.1, e.2⟩

/-- Book, whatever comes of it. -/
theorem book_any (x : Lg) (hx : x.Ok) (p m : Nat) (id need : Int) (hwi : (Lit.int .i64 id).wf = true) (hlen : x.L.length < 1000000) (w : World) (h : HasL w p m x) :
    Calls Tryz.prog 38 #[.pointer (some ⟨p, 0, none⟩), .int .i64 id, .int .i64 need] w (Turns p m (bookS x id need) (.int .i64 (bookE x id need)) w) := by
  by_cases h0 : bookE x id need = 0
  · unfold bookS
    rw [if_pos h0, h0]
    exact book_ok x hx p m id need hwi hlen w h h0
  · unfold bookS
    rw [if_neg h0]
    exact book_no x hx p m id need hwi w h _ rfl h0


end Go.Proofs.YtcfhjkmebnmcjaaGreat
