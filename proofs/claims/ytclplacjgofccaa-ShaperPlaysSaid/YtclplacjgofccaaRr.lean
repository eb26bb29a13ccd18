/- Rows of the reference's changes. -/
import Derived.Test.YtclplacjgofccaaFulP
namespace Go.Proofs.Ytclplacjgofccaa.Rf
open Go.RowKit Go.Sort Go.Shelf Go.Lib
set_option linter.unusedVariables false
set_option linter.unusedSimpArgs false
attribute [local go_sem ↓] Go.wp_at_zero Go.wp_at_succ

/-- A row of changes of one's own. -/
def RRow (W : World) (B : Nat) (v : Value) (L : List Ch) : Prop := (L = [] ∧ v = .slice none 0 0) ∨ (L ≠ [] ∧ W.ownsRow B 66 2 v L.length (flatC L))


theorem RRow.cells {W : World} {B : Nat} {v : Value} {L : List Ch} (h : RRow W B v L) (hL : L ≠ []) : ∃ g cap cur, v = .slice (some ⟨g, 0, none⟩) L.length cap ∧ B ≤ g ∧ W.heap[g]? = some (.cells cur 66 (0, 0)) ∧ cur.toList.take (L.length * 2) = flatC L := by
  rcases h with ⟨h, _⟩ | ⟨_, h⟩
  · exact absurd h hL
  · rcases h.2 with ⟨_, h0⟩ | ⟨g, cap, cur, hv, hb, hg, _, _, _, ht⟩
    · exact absurd (List.length_eq_zero_iff.1 h0) hL
    · exact ⟨g, cap, cur, hv, hb, hg, ht⟩


theorem info66 : (Try.prog.info? 66).map (fun i => (i.zero, i.size, i.bytes)) = some (some (.agg #[.int .i64 0, .int .i64 0]), 2, 16) := by kernel_rfl


theorem RRow.below {W W' : World} {B : Nat} {v : Value} {L : List Ch} (h : RRow W B v L) (hb : Below W.heap.size W W') : RRow W' B v L := by
  rcases h with h | ⟨h1, h2, h3⟩
  · exact .inl h
  · refine .inr ⟨h1, h2, ?_⟩
    rcases h3 with h3 | ⟨g, cap, cur, k1, k2, k3, k4⟩
    · exact .inl h3
    · exact .inr ⟨g, cap, cur, k1, k2, (hb.block g (lt_of_block k3)).trans k3, k4⟩


theorem RRow.rd {W : World} {B : Nat} {v : Value} {L : List Ch} (h : RRow W B v L) : ∃ A c, v = .slice A L.length c ∧ RdC W A L := by
  rcases h with ⟨rfl, rfl⟩ | ⟨h1, h2⟩
  · exact ⟨none, 0, rfl, .inl rfl⟩
  · obtain ⟨g, cap, cur, hv, hb, hg, ht⟩ := RRow.cells (.inr ⟨h1, h2⟩) h1
    refine ⟨_, cap, hv, .inr ⟨g, rfl, lt_of_block hg, fun k hk => ?_⟩⟩
    have hq := flatC_get L k hk
    rw [← ht] at hq
    have e1 : (cur.toList.take (L.length * 2))[k * 2]? = cur[k * 2]? := by rw [List.getElem?_take_of_lt (by omega)]; simp
    have e2 : (cur.toList.take (L.length * 2))[k * 2 + 1]? = cur[k * 2 + 1]? := by rw [List.getElem?_take_of_lt (by omega)]; simp
    rw [e1, e2] at hq
    have c1 : ∀ o, W.cell? ⟨g, o, none⟩ = cur[o]? := fun o => by simp [World.cell?, hg]
    rw [c1, c1]
    exact hq


theorem RRow.own {W : World} {B : Nat} {v : Value} {L : List Ch} (h : RRow W B v L) : W.ownsRow B 66 2 v L.length (flatC L) := by
  rcases h with ⟨rfl, rfl⟩ | ⟨_, h⟩
  · exact World.ownsRow_nil W B 66 2
  · exact h


/-- 'left = append(left, c)' on a row of the call's own. -/
theorem wpList_push {ops : Array Oper} {rest : List Oper} {o : Oper} {a : Act} {Q : Exit → Act → World → Prop} {W : World} (hgd : o.guard = none) (s x : Operand)
    (ho : o.op = .call { callee := .builtin .append, args := #[s, x], argTypes := #[34, 34] })
    (B : Nat) (v : Value) (L : List Ch) (hs : a.eval s = v) (hown : RRow W B v L) (d1 d2 : Int) (hx : a.eval x = .slice (some ⟨W.heap.size, 0, none⟩) 1 1)
    (hl : L.length < 1000000) (hbase : B ≤ W.heap.size)
    (h : ∀ v' w', RRow w' B v' (L ++ [(d1, d2)]) → W.grownBy w' v.ownBlock → wpList Try.prog ops Q rest (a.put o.dst v') w') :
    wpList Try.prog ops Q (o :: rest) a (W.alloc (.cells #[.int .i64 d1, .int .i64 d2] 66)) := by
  obtain ⟨i0, hi, hz0, hz1, hz2⟩ := info_parts info66
  refine wpList_append_own _ hgd s x 34 ho B 66 i0 (.agg #[.int .i64 0, .int .i64 0]) 2 16 Try.underlying34 hi hz0 hz1 hz2 rfl (by decide) v L.length (flatC L) hs (World.ownsRow.alloc hown.own _) ⟨W.heap.size, 0, none⟩ 1 1 [.int .i64 d1, .int .i64 d2] hx rfl ?_ ?_ ?_ ?_ ?_ ?_
  · intro j u hj
    match j, hj with
    | 0, hj => simp at hj; subst hj; simp [Addr.add]
    | 1, hj => simp at hj; subst hj; simp [Addr.add]
  · intro u hu; simp at hu; rcases hu with rfl | rfl <;> rfl
  · unfold maxLen; omega
  · omega
  · simp; omega
  · intro v' w' h1 h2 _
    refine h v' w' (.inr ⟨by simp, ?_⟩) ?_
    · rw [flatC_append, List.length_append]
      exact h1
    · have := h2
      exact ⟨this.os, this.tape, this.output, by have := this.size; simp at this; omega, fun k hk hne => (this.block k (by simp; omega) hne).trans (Below.heap_alloc _ _ _ hk)⟩


theorem RRow.mono {W : World} {B B' : Nat} {v : Value} {L : List Ch} (h : RRow W B v L) (hb : B' ≤ B) : RRow W B' v L := by
  rcases h with h | ⟨h1, h2, h3⟩
  · exact .inl h
  · refine .inr ⟨h1, h2, ?_⟩
    rcases h3 with h3 | ⟨g, cap, cur, k1, k2, k3⟩
    · exact .inl h3
    · exact .inr ⟨g, cap, cur, k1, Nat.le_trans hb k2, k3⟩


theorem RRow.set {W : World} {B p : Nat} {v : Value} {L : List Ch} {c : Array Value} (h : RRow W B v L) (hp : W.heap[p]? = some (.cells c 41 (0, 0))) (o : Nat) (u : Value) : RRow (W.setCell ⟨p, o, none⟩ u) B v L := by
  rcases h with h | ⟨h1, h2, h3⟩
  · exact .inl h
  · refine .inr ⟨h1, h2, ?_⟩
    rcases h3 with h3 | ⟨g, cap, cur, k1, k2, k3, k4⟩
    · exact .inl h3
    · refine .inr ⟨g, cap, cur, k1, k2, ?_, k4⟩
      rw [Below.heap_setCell _ _ _ _ (fun e => by subst e; rw [hp] at k3; simp at k3)]
      exact k3


theorem RRow.apart {W : World} {B g : Nat} {v : Value} {L : List Ch} (h : RRow W B v L) {c : Array Value} {T : TypeId} (hp : W.heap[g]? = some (.cells c T (0, 0))) (hT : T ≠ 66) : v.ownBlock ≠ some g := by
  intro e
  rcases h.own.2 with ⟨e1, _⟩ | ⟨g', cap, cur, e1, _, e3, _⟩
  · rw [e1] at e; cases e
  · rw [e1] at e
    have : g' = g := by simpa [Value.ownBlock] using e
    subst this
    rw [hp] at e3
    simp at e3
    exact hT e3.2


theorem RRow.setFar {W : World} {B g : Nat} {v : Value} {L : List Ch} (h : RRow W B v L) (hne : v.ownBlock ≠ some g) (o : Nat) (u : Value) : RRow (W.setCell ⟨g, o, none⟩ u) B v L := by
  rcases h with h | ⟨h1, h2, h3⟩
  · exact .inl h
  · refine .inr ⟨h1, h2, ?_⟩
    rcases h3 with h3 | ⟨g', cap, cur, k1, k2, k3, k4⟩
    · exact .inl h3
    · refine .inr ⟨g', cap, cur, k1, k2, ?_, k4⟩
      rw [Below.heap_setCell _ _ _ _ (fun e => by subst e; rw [k1] at hne; exact hne rfl)]
      exact k3


end Go.Proofs.Ytclplacjgofccaa.Rf
