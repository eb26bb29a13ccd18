/- Rows of entries; Same. -/
import Derived.Test.YthgjccbmfbileaaV
import Derived.Test.YthgjccbmfbileaaB
import Derived.Deep.DrawnRows
import Derived.LoopTactic
import Derived.OwnWalk
namespace Go.Proofs.Ythgjccbmfbileaa
open Go.RowKit Go.Maps
set_option linter.unusedVariables false
set_option linter.unusedSimpArgs false

def atE (L : Ent) (k : Nat) : Int × Int := L[k]?.getD (0, 0)
theorem flatE_get (L : Ent) : ∀ k, k < L.length → (flatE L)[k * 2]? = some (.int .i64 (atE L k).1) ∧ (flatE L)[k * 2 + 1]? = some (.int .i64 (atE L k).2) := by
  induction L with
  | nil => intro k h; simp at h
  | cons c r ih =>
    intro k h
    cases k with
    | zero => simp [flatE, atE]
    | succ k =>
      have := ih k (by simpa using h)
      have e1 : (k + 1) * 2 = k * 2 + 1 + 1 := by omega
      rw [e1]
      simpa [flatE, atE] using this

/-- A row of entries that is only read. -/
def RdE (w : World) (A : Option Addr) (L : Ent) : Prop :=
  L = [] ∨ ∃ b, A = some ⟨b, 0, none⟩ ∧ b < w.heap.size ∧ ∀ k, k < L.length → w.cell? ⟨b, k * 2, none⟩ = some (.int .i64 (atE L k).1) ∧ w.cell? ⟨b, k * 2 + 1, none⟩ = some (.int .i64 (atE L k).2)
theorem RdE.below {w w' : World} {A : Option Addr} {L : Ent} (h : RdE w A L) (hb : Below w.heap.size w w') : RdE w' A L := by
  rcases h with h | ⟨b, h1, h2, h3⟩
  · exact .inl h
  · exact .inr ⟨b, h1, Nat.lt_of_lt_of_le h2 hb.size, fun k hk => ⟨(hb.cell (p := ⟨b, _, none⟩) h2).trans (h3 k hk).1, (hb.cell (p := ⟨b, _, none⟩) h2).trans (h3 k hk).2⟩⟩

abbrev ERow (W : World) (B : Nat) (v : Value) (L : Ent) : Prop := W.ownsRow B 58 2 v L.length (flatE L)
theorem ERow.rd {W : World} {B : Nat} {v : Value} {L : Ent} (h : ERow W B v L) : ∃ A c, v = .slice A L.length c ∧ RdE W A L := by
  rcases h.2 with ⟨h1, h2⟩ | ⟨g, cap, cur, hv, hb, hg, _, _, _, ht⟩
  · exact ⟨none, 0, by rw [h2]; exact h1, .inl (List.eq_nil_of_length_eq_zero h2)⟩
  · refine ⟨_, cap, hv, .inr ⟨g, rfl, lt_of_block hg, fun k hk => ?_⟩⟩
    have hq := flatE_get L k hk
    rw [← ht] at hq
    have e1 : (cur.toList.take (L.length * 2))[k * 2]? = cur[k * 2]? := by rw [List.getElem?_take_of_lt (by omega)]; simp
    have e2 : (cur.toList.take (L.length * 2))[k * 2 + 1]? = cur[k * 2 + 1]? := by rw [List.getElem?_take_of_lt (by omega)]; simp
    rw [e1, e2] at hq
    have c1 : ∀ o, W.cell? ⟨g, o, none⟩ = cur[o]? := fun o => by simp [World.cell?, hg]
    rw [c1, c1]
    exact hq

set_option maxHeartbeats 800000 in
theorem same_eq {A A' : Option Addr} {c c' : Nat} {L : Ent} {w : World} (hlen : L.length ≤ 100000) (h : RdE w A L) (h' : RdE w A' L) :
    Calls Try.prog 15 #[.slice A L.length c, .slice A' L.length c'] w fun e w' => e = .returned (.bool true) ∧ ∃ n, w' = w.drewN n := by
  obtain ⟨n, en⟩ : ∃ n, L.length = n := ⟨_, rfl⟩
  have HE := Lib.hid en
  rw [en] at hlen ⊢
  clear en
  go_enter Try.func15, Try.ntmps15
  go_wp2_with fail
  go_loopw [13] (fun i wr => ∃ k q : Nat, k ≤ n ∧ i = .int .i64 k ∧ wr = w.drewN q) (fun i _ => n - (intOf i).toNat)
  case atStart => exact ⟨0, 0, Nat.zero_le _, rfl, rfl⟩
  case round =>
    obtain ⟨k, q, hk, rfl, rfl⟩ := hrel
    by_cases hlt : k < n
    · have hkl : k < L.length := by rw [HE.out]; exact hlt
      rcases h with h | ⟨b, rfl, hbl, hc⟩
      · rw [h] at hkl; simp at hkl
      rcases h' with h' | ⟨b', rfl, hbl', hc'⟩
      · rw [h'] at hkl; simp at hkl
      obtain ⟨c0, c1⟩ := hc k hkl
      obtain ⟨d0, d1⟩ := hc' k hkl
      obtain ⟨o, eo⟩ : ∃ o, atE L k = o := ⟨_, rfl⟩
      rw [eo] at c0 c1 d0 d1
      obtain ⟨o1, o2⟩ := o
      simp only at c0 c1 d0 d1
      clear hc hc' eo
      have hk0 : (0 : Int) ≤ (k : Int) := Int.natCast_nonneg _
      have hk1 : (k : Int) < (n : Int) := by omega
      go_wp2_with fail
      go_quiet (fail)
      go_wp2_with fail
      go_roundw
      case rel => exact ⟨k + 1, _, by omega, by go_num, rfl⟩
      case measure => simp [intOf]; omega
    · go_wp2_with fail
      go_ret
      exact ⟨rfl, _, rfl⟩

theorem same_len {A A' : Option Addr} {n n' c c' : Nat} {w : World} (hn : n ≤ 100000) (hn' : n' ≤ 100000) (hne : n ≠ n') :
    Calls Try.prog 15 #[.slice A n c, .slice A' n' c'] w fun e w' => e = .returned (.bool false) ∧ ∃ q, w' = w.drewN q := by
  have h : ((n : Int) == (n' : Int)) = false := by simp; omega
  have h2 : ((n : Int) != (n' : Int)) = true := by simp; omega
  go_enter Try.func15, Try.ntmps15
  go_wp2_with fail
  go_ret
  exact ⟨rfl, 0, rfl⟩

end Go.Proofs.Ythgjccbmfbileaa
