/- The iterator's contract, given those of the library. -/
import Derived.Test.YthgjccbmfbileaaS
import Derived.RangeFuncNested
import Derived.RangeFuncBound
import Derived.RangeFuncCalls
import Derived.RangeFuncLeaves
import Derived.Shelf.Abstract
import Derived.Shelf.RegionOpen
import Derived.Shelf.AbstractIn
import Derived.WalkKit
import Derived.OwnWalkIn
import Derived.TacticsInMore
import Derived.LoopNIn
import Derived.LoopIn
import Derived.Maps.OwnIn
import Derived.Maps.AppendAt
namespace Go.Proofs.Ythgjccbmfbileaa
open Go.RowKit Go.Maps Go.Shelf
set_option linter.unusedVariables false
set_option linter.unusedSimpArgs false
attribute [local go_sem] Oper.semAt_some

abbrev CloneC : Prop := ∀ (b : Nat) (L : Ent) (W : World), W.ownsMap Try.prog 3 (plainElem Try.prog 3) b L.length (dm L) → CallsIn Fence.wide 5 Try.prog 31 #[.map (some b)] W fun e w' => e = .returned (.map (some W.heap.size)) ∧ w'.ownsMap Try.prog 3 (plainElem Try.prog 3) W.heap.size L.length (dm L) ∧ Below W.heap.size W w'
abbrev KeysC : Prop := ∀ (mb : Option Nat) (W : World), CallsIn Fence.wide 5 Try.prog 33 #[.map mb] W fun e w' => e = .returned (.func (.func 37) #[] #[.pointer (some ⟨W.heap.size, 0, none⟩)]) ∧ w' = W.alloc (.cells #[.map mb] 54)
abbrev SortC : Prop := ∀ (b bx : Nat) (L : Ent) (W : World), Sorted L → L.length ≤ 1000 → bx < W.heap.size → W.cell? ⟨bx, 0, none⟩ = some (.map (some b)) → W.ownsMap Try.prog 3 (plainElem Try.prog 3) b L.length (dm L) →
  CallsIn Fence.wide 5 Try.prog 32 #[.func (.func 37) #[] #[.pointer (some ⟨bx, 0, none⟩)]] W fun e w' => ∃ v, e = .returned v ∧ w'.ownsRow W.heap.size 3 1 v L.length (L.map fun q => .int .i64 q.1) ∧ Below W.heap.size W w'

theorem ownsMap_below {W W' : World} {b n : Nat} {D : DataW Unit} (h : W.ownsMap Try.prog 3 (plainElem Try.prog 3) b n D) (hb : Below W.heap.size W W') : W'.ownsMap Try.prog 3 (plainElem Try.prog 3) b n D := by
  have hlt := h.lt
  obtain ⟨es, clock, h1, F, hs, hD⟩ := h
  exact ⟨es, clock, (hb.block b hlt).trans h1, F, hs, hD⟩
theorem ownsMap_kp {B : Nat} {W W' : World} {b n : Nat} {D : DataW Unit} (h : W.ownsMap Try.prog 3 (plainElem Try.prog 3) b n D) (hB : B ≤ b) (hk : KpB B W W') : W'.ownsMap Try.prog 3 (plainElem Try.prog 3) b n D := by
  obtain ⟨es, clock, h1, F, hs, hD⟩ := h
  exact ⟨es, clock, hk.same b _ hB h1 rfl, F, hs, hD⟩

theorem look_in {L : Ent} (hs : Sorted L) {id n : Int} (h : (id, n) ∈ L) : look L id = some n := by
  induction L with
  | nil => simp at h
  | cons q r ih =>
    unfold Sorted at hs
    rw [List.pairwise_cons] at hs
    unfold look
    rw [List.find?_cons]
    rcases List.mem_cons.1 h with rfl | h
    · simp
    · have hlt := hs.1 _ h
      have : (q.1 == id) = false := by simp only at hlt; simp; omega
      rw [this]
      exact ih hs.2 h

set_option maxRecDepth 100000 in
set_option maxHeartbeats 1000000 in
theorem all1_in (hC : CloneC) (hK : KeysC) (hS : SortC) (l Bn B p m : Nat) (x : Lg) (hx : x.Ok) (hlen : x.L.length ≤ 1000) (ys : List I64P) (hys : ys.map (·.1) = x.L) (J Jx : List I64P → World → Prop)
    (W : World) (hB : B ≤ W.heap.size) (hbox : W.cell? ⟨Bn, 0, none⟩ = some (.pointer (some ⟨p, 0, none⟩))) (h : HasL W p m x) (hJ : AbidesFrom W.heap.size J)
    (hY : ∀ pre q W1, J pre W1 → pre.length < ys.length → YieldAt Fence.wide 5 Try.prog l (encP q) W1 fun e W' =>
      (e = .returned (.bool true) ∧ J (pre ++ [q]) W' ∧ KpB B W1 W') ∨ (e = .returned (.bool false) ∧ Jx (pre ++ [q]) W'))
    (h0 : J [] W) :
    CallsIn Fence.wide 6 Try.prog 30 #[.func (.yield l) #[] #[], .pointer (some ⟨Bn, 0, none⟩)] W fun e W' => (∃ v, e = .returned v) ∧
      ((∃ xs, xs = ys ∧ J xs W') ∨ (∃ pre, pre <+: ys ∧ Jx pre W')) := by
  have hc2 := h.c2
  have hlp := h.lt
  have hown := h.own
  have hown1 := hC m x.L W hown
  have HK := Lib.hid hK
  have HS := Lib.hid hS
  have HY := Lib.hid hY
  have HX := Lib.hid (And.intro hx (And.intro hlen hys))
  have hfC : Fence.wide.fn 31 := trivial
  have hfK : Fence.wide.fn 33 := trivial
  have hfS : Fence.wide.fn 32 := trivial
  clear h hC hK hS hY hys hx
  refine callsIn_of_wp Try.func30 rfl trivial ?_ rfl
  simp only [Try.ntmps30, List.size_toArray, List.length_cons, List.length_nil, Nat.reduceAdd, Nat.reduceSub, Array.replicate_succ, Array.replicate_zero, List.push_toArray, List.append_toArray, List.nil_append, List.cons_append]
  gi_wp2_with fail
  refine hown1.mono ?_
  rintro e w1 ⟨rfl, ho1, b1⟩
  have hj1 : J [] w1 := hJ _ _ _ none h0 (grown_below b1) (fun r e => by cases e)
  have hB1 : W.heap.size ≤ w1.heap.size := b1.size
  have HO1 := Lib.hid (And.intro ho1 (And.intro b1 hj1))
  clear ho1 b1 hj1 hown1 hown
  gi_wp2_with fail
  refine (HK.out _ _).mono ?_
  rintro e w2 ⟨rfl, rfl⟩
  have ho2 : (w1.alloc (.cells #[.map (some W.heap.size)] 54)).ownsMap Try.prog 3 (plainElem Try.prog 3) W.heap.size x.L.length (dm x.L) := ownsMap_below HO1.out.1 ((Below.refl _ _).alloc (Nat.le_refl _) _)
  have hcell2 : (w1.alloc (.cells #[.map (some W.heap.size)] 54)).cell? ⟨w1.heap.size, 0, none⟩ = some (.map (some W.heap.size)) := by
    have := heap_alloc_new w1 (.cells #[.map (some W.heap.size)] 54)
    simp only [World.cell?, this]
    rfl
  have hsort := HS.out W.heap.size w1.heap.size x.L _ HX.out.1.so HX.out.2.1 (by simp) hcell2 ho2
  have HO2 := Lib.hid ho2
  clear ho2 hcell2
  gi_wp2_with fail
  refine hsort.mono ?_
  rintro e w3 ⟨v, rfl, hrow, b3⟩
  have hB3 : W.heap.size ≤ (w1.alloc (.cells #[.map (some W.heap.size)] 54)).heap.size := by simp; omega
  have hj2 : J [] (w1.alloc (.cells #[.map (some W.heap.size)] 54)) := hJ _ _ _ none HO1.out.2.2 (World.grownBy_alloc _ _ _) (fun r e => by cases e)
  have hj3 : J [] w3 := hJ _ _ _ none hj2 (grown_below b3) (fun r e => by cases e)
  have ho3 := ownsMap_below HO2.out b3
  obtain ⟨n, en⟩ : ∃ n, x.L.length = n := ⟨_, rfl⟩
  have hl : ys.length = n := by rw [← en, ← HX.out.2.2]; simp
  have hform : ∃ A c, v = .slice A n c ∧ (n = 0 ∨ ∃ g cur, A = some ⟨g, 0, none⟩ ∧ W.heap.size ≤ g ∧ w3.heap[g]? = some (.cells cur 3 (0, 0)) ∧ cur.toList.take n = x.L.map fun q => Value.int .i64 q.1) := by
    rcases hrow.2 with ⟨h1, h2⟩ | ⟨g, cap, cur, h1, h2, h3, _, _, _, h4⟩
    · exact ⟨none, 0, by rw [h1]; congr 1; omega, .inl (by omega)⟩
    · exact ⟨_, cap, by rw [h1, en], .inr ⟨g, cur, rfl, Nat.le_trans hB3 h2, h3, by rw [← h4, en, Nat.mul_one]⟩⟩
  obtain ⟨A, c, rfl, hform⟩ := hform
  have hn : n ≤ 1000 := by omega
  have HF := Lib.hid (And.intro hform (And.intro ho3 (And.intro hl (And.intro hB hJ))))
  clear hform ho3 hl hrow b3 hj2 hsort HO2 hJ en hB3
  gi_wp2_with fail
  gi_loopw [17] (fun i wr => ∃ k : Nat, k ≤ n ∧ i = .int .i64 k ∧ J (ys.take k) wr ∧ KpB B w3 wr) (fun i _ => n - (Go.RowKit.intOf i).toNat)
  case atStart => exact ⟨0, Nat.zero_le _, rfl, by simpa using hj3, KpB.refl _ _⟩
  case round =>
    obtain ⟨k, hk, rfl, hJk, hkp⟩ := hrel
    by_cases hlt : k < n
    · rcases HF.out.1 with h0n | ⟨g, cur, rfl, hg, hcur, htake⟩
      · omega
      have hky : k < ys.length := by rw [HF.out.2.2.1]; exact hlt
      obtain ⟨q, eq⟩ : ∃ q, ys[k] = q := ⟨_, rfl⟩
      have hxk : x.L[k]? = some q.1 := by rw [← HX.out.2.2, List.getElem?_map, List.getElem?_eq_getElem hky, eq]; rfl
      have hcell : wr.cell? ⟨g, k, none⟩ = some (.int .i64 q.1.1) := by
        have h1 := hkp.same g _ (Nat.le_trans HF.out.2.2.2.1 hg) hcur rfl
        have e1 : (cur.toList.take n)[k]? = cur[k]? := by rw [List.getElem?_take_of_lt hlt]; simp
        rw [htake, List.getElem?_map, hxk] at e1
        simp only [World.cell?, h1]
        rw [← e1]
        rfl
      have hmem : q.1 ∈ x.L := List.mem_of_getElem? hxk
      have hlook := look_in HX.out.1.so hmem
      have ho4 := ownsMap_kp HF.out.2.1 HF.out.2.2.2.1 hkp
      have htk : ys.take (k + 1) = ys.take k ++ [q] := by rw [List.take_succ_eq_append_getElem hky, eq]
      obtain ⟨fn, tmps, assign, body, hy, hR⟩ := HY.out (ys.take k) q wr hJk (by rw [List.length_take]; omega)
      obtain ⟨⟨id, nd⟩, hwf⟩ := q
      dsimp only [encP] at hy
      simp only at hcell hlook hwf
      have HT := Lib.hid (And.intro hkp htk)
      have HLK := Lib.hid hlook
      clear hmem hxk eq hcur htake hkp htk hJk hlook
      gi_wp2_with (gi_at_lookup; refine wpListIn_lookup_own_int _ rfl _ _ 54 rfl 3 3 .i64 law3 Try.underlying54 Try.underlying3 (zero3 _) W.heap.size x.L.length _ rfl ho4 _ _ rfl (keyOf_int_mk Try.underlying3 hwf) ?_; intro cc hat hwc; have hcc : cc = nd := (by rw [dm_at, HLK.out] at hat; simpa using hat.symm); subst hcc; clear hat)
      refine hR.mono ?_
      rintro e w5 (⟨rfl, hJ5, hk5⟩ | ⟨rfl, hx5⟩)
      · gi_wp2_with fail
        go_roundw
        case rel => exact ⟨k + 1, by omega, by go_num, by rw [HT.out.2]; exact hJ5, HT.out.1.trans hk5⟩
        case measure => simp [Go.RowKit.intOf]; omega
      · gi_wp2_with fail
        refine bodyPost_ret (results_none rfl _ _ _) rfl ?_
        exact ⟨⟨_, rfl⟩, .inr ⟨_, ⟨ys.drop (k + 1), by rw [← HT.out.2, List.take_append_drop]⟩, hx5⟩⟩
    · have hkn : k = n := by omega
      have hall : ys.take k = ys := List.take_of_length_le (by rw [HF.out.2.2.1]; omega)
      rw [hall] at hJk
      have HJ := Lib.hid hJk
      clear hJk hall hkp
      gi_wp2_with fail
      go_end0
      exact ⟨⟨_, rfl⟩, .inl ⟨ys, rfl, HJ.out⟩⟩

end Go.Proofs.Ythgjccbmfbileaa
