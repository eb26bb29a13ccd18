/- Plain laws on lists of numbers, and on a bucket: no program in sight. -/
import Derived.Test.YtclplacjgofccaaBu
import Derived.OpenShut
import Derived.LoopTactic
import Derived.Laws.AppendOwn
import Derived.Laws.OwnMore
import Derived.OwnWalk
namespace Go.Proofs.Ytclplacjgofccaa.Bu
open Go.RowKit
set_option linter.unusedVariables false
set_option linter.unusedSimpArgs false

/-- All below B stays as it was behind a store into a block from B on. -/
theorem below_grown {B b : Nat} {a w w' : World} (h : Below B a w) (hg : w.grownBy w' (some b)) (hB : B ≤ w.heap.size) (hb : B ≤ b) : Below B a w' :=
  h.grown hg hB (fun k hk => by cases hk; exact hb)

theorem below_drewN {B : Nat} {a w : World} (h : Below B a w) (n : Nat) : Below B a (w.drewN n) := ⟨h.os, h.tape, h.output, h.size, h.block⟩

/-- The sum of the first k. -/
def sumTo (zs : List Int) : Nat → Int
  | 0 => 0
  | k + 1 => sumTo zs k + zs[k]?.getD 0
/-- The times: each the sum of all up to there. -/
def ups (zs : List Int) : Nat → List Int
  | 0 => []
  | k + 1 => ups zs k ++ [sumTo zs (k + 1)]
theorem ups_length (zs : List Int) (k : Nat) : (ups zs k).length = k := by
  induction k with
  | zero => rfl
  | succ k ih => simp [ups, ih]
theorem ups_at (zs : List Int) (k j : Nat) (h : j < k) : (ups zs k)[j]?.getD 0 = sumTo zs (j + 1) := by
  induction k with
  | zero => omega
  | succ k ih =>
    simp only [ups]
    by_cases e : j < k
    · rw [List.getElem?_append_left (by rw [ups_length]; exact e)]
      exact ih e
    · obtain rfl : j = k := by omega
      rw [List.getElem?_append_right (by rw [ups_length]; omega), ups_length]
      simp
/-- Numbers of 32 bits. -/
def Small (zs : List Int) : Prop := ∀ j : Nat, 0 ≤ zs[j]?.getD 0 ∧ zs[j]?.getD 0 ≤ 4294967295
theorem sumTo_bd {zs : List Int} (h : Small zs) (k : Nat) : 0 ≤ sumTo zs k ∧ sumTo zs k ≤ k * 4294967295 := by
  induction k with
  | zero => simp [sumTo]
  | succ k ih =>
    have := h k
    simp only [sumTo]
    omega
theorem sumTo_mono {zs : List Int} (h : Small zs) (j k : Nat) (hjk : j ≤ k) : sumTo zs j ≤ sumTo zs k := by
  induction k with
  | zero => obtain rfl : j = 0 := by omega
            exact Int.le_refl _
  | succ k ih =>
    have := h k
    by_cases e : j ≤ k
    · have := ih e
      simp only [sumTo]
      omega
    · obtain rfl : j = k + 1 := by omega
      exact Int.le_refl _

/-- What the walk is told of a slice of numbers that is only read: it is empty; or it leads to cells that hold the numbers. -/
def Rd (k : IntKind) (w : World) (A : Option Addr) (zs : List Int) : Prop :=
  zs = [] ∨ ∃ b off, A = some ⟨b, off, none⟩ ∧ b < w.heap.size ∧ ∀ j, j < zs.length → w.cell? ⟨b, off + j, none⟩ = some (.int k (zs[j]?.getD 0))
theorem Rd.below {k : IntKind} {w w' : World} {A : Option Addr} {zs : List Int} (h : Rd k w A zs) {B : Nat} (hb : Below B w w') (hB : w.heap.size ≤ B) : Rd k w' A zs := by
  rcases h with h | ⟨b, off, h1, h2, h3⟩
  · exact .inl h
  · exact .inr ⟨b, off, h1, Nat.lt_of_lt_of_le h2 hb.size, fun j hj => (hb.cell (p := ⟨b, off + j, none⟩) (Nat.lt_of_lt_of_le h2 hB)).trans (h3 j hj)⟩
theorem ints_at' {w : World} {a : Addr} {k : IntKind} {zs : List Int} (h : ∀ i, i < zs.length → w.cell? (a.add i) = some (.int k (zs.getD i 0))) (hp : 0 < zs.length) :
    ∃ b off, a = ⟨b, off, none⟩ ∧ ∀ j, j < zs.length → w.cell? ⟨b, off + j, none⟩ = some (.int k (zs.getD j 0)) := by
  obtain ⟨b, off, spot⟩ := a
  have hspot : spot = none := by simpa [Addr.add] using World.cell?_spot (h 0 hp)
  subst hspot
  exact ⟨b, off, rfl, fun j hj => by
    have e := h j hj
    rwa [show (⟨b, off, none⟩ : Addr).add j = ⟨b, off + j, none⟩ by unfold Addr.add; split <;> simp_all] at e⟩
theorem Rd.take {k : IntKind} {w : World} {a : Option Addr} {len cap : Nat} {zs : List Int}
    (h : (a = none ∧ len = 0 ∧ cap = 0 ∧ zs = []) ∨ ∃ x, a = some x ∧ len ≤ cap ∧ cap ≤ maxLen ∧ zs.length = cap ∧ (∀ i, i < zs.length → w.cell? (x.add i) = some (.int k (zs.getD i 0))) ∧ ∀ n ∈ zs, (Lit.int k n).wf = true) :
    (zs.take len).length = len ∧ Rd k w a (zs.take len) ∧ ∀ n ∈ zs.take len, (Lit.int k n).wf = true := by
  rcases h with ⟨rfl, rfl, rfl, rfl⟩ | ⟨x, rfl, hl, hm, hz, hc, hw⟩
  · exact ⟨rfl, .inl rfl, by simp⟩
  · refine ⟨by rw [List.length_take]; omega, ?_, fun n hn => hw n (List.mem_of_mem_take hn)⟩
    rcases Nat.eq_zero_or_pos zs.length with h0 | h0
    · exact .inl (by rw [List.eq_nil_of_length_eq_zero h0]; simp)
    · obtain ⟨b, off, rfl, hcc⟩ := ints_at' hc h0
      refine .inr ⟨b, off, rfl, ?_, fun j hj => ?_⟩
      · exact World.block_lt_of_cell? w _ (hcc 0 h0)
      · rw [List.length_take] at hj
        have := hcc j (by omega)
        rw [this, List.getElem?_take]
        rw [if_pos (by omega)]
        simp
theorem small_of {zs : List Int} (h : ∀ n ∈ zs, (Lit.int .u32 n).wf = true) : Small zs := fun j => range_u32 h j

theorem small16 {zs : List Int} (h : ∀ n ∈ zs, (Lit.int .u16 n).wf = true) : ∀ j : Nat, 0 ≤ zs[j]?.getD 0 ∧ zs[j]?.getD 0 ≤ 65535 := fun j => by
  cases e : zs[j]? with
  | none => simp
  | some x => exact bounds_u16 (h x (List.mem_of_getElem? e))
theorem small_16 {zs : List Int} (h : ∀ n ∈ zs, (Lit.int .u16 n).wf = true) : Small zs := fun j => by have := small16 h j; omega
theorem info3 : (Try.prog.info? 3).map (fun i => (i.zero, i.size, i.bytes)) = some (some (.int .i64 0), 1, 8) := by kernel_rfl

/-- A row of the call's own of such numbers. -/
def Row (W : World) (B : Nat) (v : Value) (xs : List Int) : Prop := W.ownsRow B 3 1 v xs.length (xs.map (Value.int .i64))

theorem Row.nil (W : World) (B : Nat) : Row W B (.slice none 0 0) [] := World.ownsRow_nil W B 3 1

theorem Row.rd {W : World} {B : Nat} {v : Value} {xs : List Int} (h : Row W B v xs) : ∃ A c, v = .slice A xs.length c ∧ Rd .i64 W A xs := by
  rcases h.2 with ⟨h1, h2⟩ | ⟨g, cap, cur, h1, h2, h3, h4⟩
  · exact ⟨none, 0, by rw [h2]; exact h1, .inl (List.eq_nil_of_length_eq_zero h2)⟩
  · refine ⟨_, cap, h1, .inr ⟨g, 0, rfl, lt_of_block h3, fun j hj => ?_⟩⟩
    have := World.ownsRow.cells h (g := g) (by rw [h1]; rfl) j (.int .i64 (xs[j]?.getD 0)) (by rw [List.getElem?_map, List.getElem?_eq_getElem hj]; rfl)
    rwa [show (⟨g, 0, none⟩ : Addr).add j = ⟨g, 0 + j, none⟩ by unfold Addr.add; split <;> simp_all] at this

/-- 'xs = append(xs, y)' on a row of the call's own. -/
theorem wpList_push {ops : Array Oper} {rest : List Oper} {o : Oper} {a : Act} {Q : Exit → Act → World → Prop} {W : World} (hgd : o.guard = none) (s x : Operand)
    (ho : o.op = .call { callee := .builtin .append, args := #[s, x], argTypes := #[46, 46] })
    (B : Nat) (v : Value) (xs : List Int) (hs : a.eval s = v) (hown : Row W B v xs) (y : Int) (hx : a.eval x = .slice (some ⟨W.heap.size, 0, none⟩) 1 1)
    (hl : xs.length < 1000000) (hbase : B ≤ W.heap.size)
    (h : ∀ v' w', Row w' B v' (xs ++ [y]) → W.grownBy w' v.ownBlock → wpList Try.prog ops Q rest (a.put o.dst v') w') :
    wpList Try.prog ops Q (o :: rest) a (W.alloc (.cells #[.int .i64 y] 3)) := by
  obtain ⟨i0, hi, hz0, hz1, hz2⟩ := info_parts info3
  refine wpList_append_own _ hgd s x 46 ho B 3 i0 (.int .i64 0) 1 8 Try.underlying46 hi hz0 hz1 hz2 rfl (by decide) v xs.length (xs.map (Value.int .i64)) hs (World.ownsRow.alloc hown _) ⟨W.heap.size, 0, none⟩ 1 1 [.int .i64 y] hx rfl ?_ ?_ ?_ ?_ ?_ ?_
  · intro j u hj
    match j, hj with
    | 0, hj => simp at hj; subst hj; simp [Addr.add]
  · intro u hu; simp at hu; subst hu; rfl
  · unfold maxLen; omega
  · omega
  · simp; omega
  · intro v' w' h1 h2 _
    refine h v' w' ?_ ?_
    · unfold Row
      rw [List.map_append, List.length_append]
      exact h1
    · have := h2
      exact ⟨this.os, this.tape, this.output, by have := this.size; simp at this; omega, fun k hk hne => (this.block k (by simp; omega) hne).trans (Below.heap_alloc _ _ _ hk)⟩

theorem Row.block {W : World} {B : Nat} {v : Value} {xs : List Int} (h : Row W B v xs) (k : Nat) (hk : v.ownBlock = some k) : B ≤ k := (World.ownsRow.lt h k hk).1

theorem hold_small {t : Int} (h0 : 0 ≤ t) (h1 : t ≤ 1288490188500) : hold t 0 1152921504606846976 = t := by unfold hold; omega

theorem Row.cellAt {W : World} {B b off n c : Nat} {xs : List Int} (h : Row W B (.slice (some ⟨b, off, none⟩) n c) xs) (j : Nat) (hj : j < xs.length) : W.cell? ⟨b, off + j, none⟩ = some (.int .i64 (xs[j]?.getD 0)) := by
  obtain ⟨A, c', e, hr⟩ := h.rd
  injection e with e1 e2 e3
  subst e1
  rcases hr with hr | ⟨b', off', e, _, hc⟩
  · subst hr; simp at hj
  · injection e with e
    injection e with e4 e5 e6
    subst e4
    subst e5
    exact hc j hj

theorem Row.ne {W : World} {B b : Nat} {v : Value} {xs : List Int} {x : Bk} (h : Row W B v xs) (hb : HasB W b x) : v.ownBlock ≠ some b := by
  intro e
  rcases h.2 with ⟨rfl, _⟩ | ⟨g, cap, cur, rfl, h2, h3, h4⟩
  · simp [Value.ownBlock] at e
  · have : g = b := by simpa [Value.ownBlock] using e
    subst this
    unfold HasB at hb
    rw [h3] at hb
    injection hb with hb
    injection hb with h5 h6
    simp at h6

theorem HasB.kept {W W' : World} {b : Nat} {x : Bk} {row : Option Nat} (h : HasB W b x) (hg : W.grownBy W' row) (hne : row ≠ some b) : HasB W' b x := by
  have hlt := h.lt
  unfold HasB at *
  rw [hg.block b hlt (fun e => hne e.symm)]
  exact h

theorem Row.kept {W W' : World} {B : Nat} {v : Value} {xs : List Int} {row : Option Nat} (h : Row W B v xs) (hg : W.grownBy W' row) (hne : v.ownBlock = none ∨ v.ownBlock ≠ row) : Row W' B v xs := World.ownsRow.kept h hg hne

theorem Row.drewN {W : World} {B : Nat} {v : Value} {xs : List Int} (h : Row W B v xs) (n : Nat) : Row (W.drewN n) B v xs := h

end Go.Proofs.Ytclplacjgofccaa.Bu
