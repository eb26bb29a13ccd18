/- The iterator over a policer's rules. -/
import Derived.Test.YtcfhjkmebnmcjaaGreatCb
import Derived.Test.YtcfhjkmebnmcjaaGreatBc
namespace Go.Proofs.YtcfhjkmebnmcjaaGreat
open Go.RowKit Go.Shelf
set_option linter.unusedVariables false
set_option linter.unusedSimpArgs false
attribute [local go_sem] Oper.semAt_some

/-- A rule, and where its bucket lies. -/
structure Ru where
  r : Rl
  b : Nat
def Ru.gate (u : Ru) : Value := Value.iface 36 (.pointer (some ⟨u.b, 0, none⟩))
def Ru.cells (u : Ru) : List Value := [.int .i64 u.r.s, .int .i64 u.r.e, .bool u.r.z, .bool u.r.t, u.gate]
def encU (u : Ru) : Array Value := #[.agg #[.int .i64 u.r.s, .int .i64 u.r.e, .bool u.r.z, .bool u.r.t, u.gate]]

/-- A policer's block. -/
structure Pb (W : World) (pb rg cap : Nat) (al : Bool) (n : Nat) (c : Int × Int × Int × Int) : Prop where
  h : W.heap[pb]? = some (.cells #[.bool al, .slice (some ⟨rg, 0, none⟩) n cap, .int .i64 c.1, .int .i64 c.2.1, .int .i64 c.2.2.1, .int .i64 c.2.2.2] 200 (0, 0))
/-- Its rules' block. -/
def Rb (W : World) (rg : Nat) (rs : List Ru) : Prop := ∃ cur, W.heap[rg]? = some (.cells cur 208 (0, 0)) ∧ ∀ k u, rs[k]? = some u → ∀ j v, u.cells[j]? = some v → cur[5 * k + j]? = some v
theorem Rb.at {W : World} {rg : Nat} {rs : List Ru} (h : Rb W rg rs) {k : Nat} {u : Ru} (hu : rs[k]? = some u) :
    W.cell? ⟨rg, k * 5, none⟩ = some (.int .i64 u.r.s) ∧ W.cell? ⟨rg, k * 5 + 1, none⟩ = some (.int .i64 u.r.e) ∧ W.cell? ⟨rg, k * 5 + 2, none⟩ = some (.bool u.r.z) ∧ W.cell? ⟨rg, k * 5 + 3, none⟩ = some (.bool u.r.t) ∧ W.cell? ⟨rg, k * 5 + 4, none⟩ = some u.gate := by
  obtain ⟨cur, h1, h2⟩ := h
  have hc := h2 k u hu
  refine ⟨?_, ?_, ?_, ?_, ?_⟩ <;> simp only [World.cell?, h1]
  · rw [Nat.mul_comm]; exact hc 0 _ rfl
  · rw [Nat.mul_comm]; exact hc 1 _ rfl
  · rw [Nat.mul_comm]; exact hc 2 _ rfl
  · rw [Nat.mul_comm]; exact hc 3 _ rfl
  · rw [Nat.mul_comm]; exact hc 4 _ rfl

/-- What the rounds of a loop over rules keep. -/
structure KpR (rg B : Nat) (A C : World) : Prop where
  size : A.heap.size ≤ C.heap.size
  same : C.heap[rg]? = A.heap[rg]?
  box : C.heap[B]? = A.heap[B]?
theorem KpR.trans {rg b : Nat} {A B C : World} (h : KpR rg b A B) (k : KpR rg b B C) : KpR rg b A C := ⟨Nat.le_trans h.size k.size, k.same.trans h.same, k.box.trans h.box⟩
theorem KpR.refl (rg b : Nat) (A : World) : KpR rg b A A := ⟨Nat.le_refl _, rfl, rfl⟩
theorem KpR.turn {rg b B : Nat} (hb : rg < B) (hc : b < B) (W : World) (l : Nat) (o o' : Obj) (hl : B ≤ l) : KpR rg b W (W.putObj l o') :=
  ⟨by simp, World.putObj_heap_other (by omega), World.putObj_heap_other (by omega)⟩
theorem KpR.alloc {rg b : Nat} {A C : World} (h : KpR rg b A C) (h1 : rg < A.heap.size) (h2 : b < A.heap.size) (o : Obj) : KpR rg b A (C.alloc o) :=
  ⟨by simp; have := h.size; omega, (Below.heap_alloc _ _ _ (by have := h.size; omega)).trans h.same, (Below.heap_alloc _ _ _ (by have := h.size; omega)).trans h.box⟩

set_option maxRecDepth 100000 in
set_option maxHeartbeats 2000000 in
theorem asked1_in (l Bp Bc pb rg cap : Nat) (al : Bool) (c : Int × Int × Int × Int) (rs : List Ru) (hn : rs.length ≤ 1000) (J Jx : List Ru → World → Prop)
    (W : World) (hJ : AbidesFrom W.heap.size J) (hbp : W.cell? ⟨Bp, 0, none⟩ = some (.pointer (some ⟨pb, 0, none⟩))) (hbc : Boxed W Bc 3 (.int .i64 0)) (hP : Pb W pb rg cap al rs.length c) (hR : Rb W rg rs)
    (hY : ∀ pre q W1, q ∈ rs → J pre W1 → pre.length < rs.length → YieldAt Fence.wide 5 Tryz.prog l (encU q) W1 fun e W' =>
      (e = .returned (.bool true) ∧ J (pre ++ [q]) W' ∧ KpR rg Bc W1 W') ∨ (e = .returned (.bool false) ∧ Jx (pre ++ [q]) W'))
    (h0 : J [] W) :
    CallsIn Fence.wide 6 Tryz.prog 137 #[.func (.yield l) #[] #[], .pointer (some ⟨Bp, 0, none⟩), .pointer (some ⟨Bc, 0, none⟩)] W fun e W' => (∃ v, e = .returned v) ∧
      ((∃ xs, xs = rs ∧ J xs W') ∨ (∃ pre, True ∧ Jx pre W')) := by
  have HY := Lib.hid hY
  have hc1 : W.cell? ⟨pb, 1, none⟩ = some (.slice (some ⟨rg, 0, none⟩) rs.length cap) := by simp [World.cell?, hP.h]
  have HR := Lib.hid (And.intro hR (And.intro hbc hJ))
  have hlr : rg < W.heap.size := by obtain ⟨cur, h1, _⟩ := hR; exact (Array.getElem?_eq_some_iff.1 h1).1
  have hlc : Bc < W.heap.size := hbc.lt
  have HLL := Lib.hid (And.intro hlr hlc)
  clear hY hR hP hJ hbc hlr hlc
  refine callsIn_of_wp Tryz.func137 rfl trivial ?_ rfl
  simp only [Tryz.ntmps137, List.size_toArray, List.length_cons, List.length_nil, Nat.reduceAdd, Nat.reduceSub, Array.replicate_succ, Array.replicate_zero, List.push_toArray, List.append_toArray, List.nil_append, List.cons_append]
  obtain ⟨n, en⟩ : ∃ n, rs.length = n := ⟨_, rfl⟩
  rw [en] at hc1 hn
  have HN := Lib.hid en
  clear en
  gi_wp2_with fail
  gi_loopw [11] (fun i wr => ∃ k : Nat, k ≤ n ∧ i = .int .i64 k ∧ J (rs.take k) wr ∧ KpR rg Bc W wr) (fun i _ => n - (Go.RowKit.intOf i).toNat)
  case atStart => exact ⟨0, Nat.zero_le _, rfl, by simpa using h0, KpR.refl _ _ _⟩
  case round =>
    obtain ⟨k, hk, rfl, hJk, hKk⟩ := hrel
    by_cases hlt : k < n
    · have hkr : k < rs.length := by rw [HN.out]; exact hlt
      obtain ⟨u, eu⟩ : ∃ u, rs[k] = u := ⟨_, rfl⟩
      have huk : rs[k]? = some u := by rw [List.getElem?_eq_getElem hkr, eu]
      have hRk : Rb wr rg rs := by obtain ⟨cur, h1, h2⟩ := HR.out.1; exact ⟨cur, hKk.same.trans h1, h2⟩
      have hBk : Boxed wr Bc 3 (.int .i64 0) := hKk.box.trans HR.out.2.1
      obtain ⟨q0, q1, q2, q3, q4⟩ := hRk.at huk
      have qb := hBk.cell
      have hbl := hBk.lt
      have htk : rs.take (k + 1) = rs.take k ++ [u] := by rw [List.take_succ_eq_append_getElem hkr, eu]
      have hJa : J (rs.take k) (wr.alloc (.cells #[.int .i64 u.r.s, .int .i64 u.r.e, .bool u.r.z, .bool u.r.t, u.gate] 208)) := HR.out.2.2 _ _ _ none hJk (World.grownBy_alloc _ _ _) (fun r e => by cases e)
      have hKa := hKk.alloc HLL.out.1 HLL.out.2 (.cells #[.int .i64 u.r.s, .int .i64 u.r.e, .bool u.r.z, .bool u.r.t, u.gate] 208)
      obtain ⟨fn, tmps, assign, body, hy, hRn⟩ := HY.out (rs.take k) u _ (by rw [← eu]; exact List.getElem_mem _) hJa (by rw [List.length_take]; omega)
      have HT := Lib.hid (And.intro htk hKa)
      unfold encU at hy
      clear hJk hKk hRk hBk huk eu htk hJa hKa
      obtain ⟨⟨s, e, z, tg⟩, b⟩ := u
      simp only [Ru.gate] at q0 q1 q2 q3 q4 hy hRn
      cases z
      all_goals
        gi_wp2_with fail
        refine hRn.mono ?_
        clear hy hRn
        rintro e w5 (⟨rfl, hJ5, hk5⟩ | ⟨rfl, hx5⟩)
        · have HJ5 := Lib.hid (And.intro hJ5 hk5)
          clear hJ5 hk5
          gi_wp2_with fail
          go_roundw
          case rel => exact ⟨k + 1, by omega, by go_num, by rw [HT.out.1]; exact HJ5.out.1, HT.out.2.trans HJ5.out.2⟩
          case measure => simp [Go.RowKit.intOf]; omega
        · gi_wp2_with fail
          refine bodyPost_ret (results_none rfl _ _ _) rfl ?_
          exact ⟨⟨_, rfl⟩, .inr ⟨_, trivial, hx5⟩⟩
    · have hkn : k = n := by omega
      have hall : rs.take k = rs := List.take_of_length_le (by rw [HN.out]; omega)
      rw [hall] at hJk
      have HJ := Lib.hid hJk
      clear hJk hall hKk
      gi_wp2_with fail
      go_end0
      exact ⟨⟨_, rfl⟩, .inl ⟨_, rfl, HJ.out⟩⟩

/-- 'asked' boxes the policer and the priority. -/
theorem asked_in (n : Nat) (A : Option Addr) (clp : Int) (W : World) : CallsIn Fence.wide n Tryz.prog 120 #[.pointer A, .int .i64 clp] W fun e w' => e = .returned (.func (.func 137) #[] #[.pointer (some ⟨W.heap.size, 0, none⟩), .pointer (some ⟨W.heap.size + 1, 0, none⟩)]) ∧ w' = (W.alloc (.cells #[.pointer A] 157)).alloc (.cells #[.int .i64 clp] 3) := by
  refine callsIn_of_wp Tryz.func120 rfl trivial ?_ rfl
  simp only [Tryz.ntmps120, List.size_toArray, List.length_cons, List.length_nil, Nat.reduceAdd, Nat.reduceSub, Array.replicate_succ, Array.replicate_zero, List.push_toArray, List.append_toArray, List.nil_append, List.cons_append]
  gi_wp2
  go_ret
  exact ⟨rfl, rfl⟩

abbrev RuIn (rs : List Ru) := { u : Ru // u ∈ rs }
def encI {rs : List Ru} (q : RuIn rs) : Array Value := encU q.1

theorem asked_stops (Bp Bc pb rg cap : Nat) (al : Bool) (c : Int × Int × Int × Int) (rs : List Ru) (hn : rs.length ≤ 1000) (w : World)
    (hBp : Bp < w.heap.size) (hpb : pb < w.heap.size) (hbp : w.cell? ⟨Bp, 0, none⟩ = some (.pointer (some ⟨pb, 0, none⟩))) (hbc : Boxed w Bc 3 (.int .i64 0)) (hP : Pb w pb rg cap al rs.length c) (hR : Rb w rg rs) :
    SeqStopsK Fence.wide 6 Tryz.prog 137 #[.pointer (some ⟨Bp, 0, none⟩), .pointer (some ⟨Bc, 0, none⟩)] (encI (rs := rs)) (KpR rg Bc) (fun xs => xs.map (·.1) = rs) (fun _ => True) rs.length w := by
  intro l J Jx W hW hJ _ hY h0
  have hlr : rg < w.heap.size := by obtain ⟨cur, h1, _⟩ := hR; exact (Array.getElem?_eq_some_iff.1 h1).1
  have hP' : Pb W pb rg cap al rs.length c := ⟨(hW.block pb hpb).trans hP.h⟩
  have hR' : Rb W rg rs := by obtain ⟨cur, h1, h2⟩ := hR; exact ⟨cur, (hW.block rg hlr).trans h1, h2⟩
  have hbc' : Boxed W Bc 3 (.int .i64 0) := (hW.block Bc hbc.lt).trans hbc
  refine (asked1_in l Bp Bc pb rg cap al c rs hn (fun pre X => ∃ pre' : List (RuIn rs), pre'.map (·.1) = pre ∧ J pre' X) (fun pre X => ∃ pre' : List (RuIn rs), pre'.map (·.1) = pre ∧ Jx pre' X) W
    (fun s A B row hs hg hr => by obtain ⟨pre', h1, h2⟩ := hs; exact ⟨pre', h1, hJ _ _ _ row h2 hg hr⟩)
    ((hW.cell (p := ⟨Bp, 0, none⟩) hBp).trans hbp) hbc' hP' hR' ?_ ⟨[], rfl, h0⟩).mono ?_
  · rintro pre q W1 hq ⟨pre', hpe, hJ1⟩ hlt
    obtain ⟨fn, tmps, assign, body, hy, hRn⟩ := hY pre' ⟨q, hq⟩ W1 hJ1 (by rw [← hpe, List.length_map] at hlt; exact hlt)
    refine ⟨fn, tmps, assign, body, hy, hRn.mono ?_⟩
    rintro e W' (⟨h1, h2, h3⟩ | ⟨h1, h2⟩)
    · exact .inl ⟨h1, ⟨_, by rw [List.map_append, hpe]; rfl, h2⟩, h3⟩
    · exact .inr ⟨h1, ⟨_, by rw [List.map_append, hpe]; rfl, h2⟩⟩
  · rintro e W' ⟨hv, ⟨xs, rfl, pre', h1, h2⟩ | ⟨pre, _, pre', h1, h2⟩⟩
    · exact ⟨hv, .inl ⟨pre', h1, h2⟩⟩
    · exact ⟨hv, .inr ⟨pre', trivial, h2⟩⟩

end Go.Proofs.YtcfhjkmebnmcjaaGreat
