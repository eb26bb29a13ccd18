/- The contracts of the reference's reading functions: At, Used, Get; without. -/
import Derived.Test.YthgjccbmfbileaaX
import Derived.Laws.AppendOwn
import Derived.Laws.OwnMore
import Derived.IntWalk
namespace Go.Proofs.Ythgjccbmfbileaa.Rf
open Go.RowKit Go.Maps
set_option linter.unusedVariables false
set_option linter.unusedSimpArgs false
attribute [local go_sem ↓] Go.wp_at_zero Go.wp_at_succ

/-- The reference's ledger. -/
def HasF (W : World) (q : Nat) (room : Int) (v : Value) : Prop := W.heap[q]? = some (.cells #[.int .i64 room, v] 46 (0, 0))
section
variable {W : World} {q : Nat} {room : Int} {v : Value} (h : HasF W q room v)
include h
theorem HasF.c0 : W.cell? ⟨q, 0, none⟩ = some (.int .i64 room) := by unfold HasF at h; simp [World.cell?, h]
theorem HasF.c1 : W.cell? ⟨q, 1, none⟩ = some v := by unfold HasF at h; simp [World.cell?, h]
theorem HasF.fr (o : Nat) : W.frozen? ⟨q, o, none⟩ = false := by unfold HasF at h; simp [World.frozen?, h]
theorem HasF.lt : q < W.heap.size := lt_of_block h
end
theorem HasF.below {W W' : World} {q : Nat} {room : Int} {v : Value} (h : HasF W q room v) (hb : Below W.heap.size W W') : HasF W' q room v := (hb.block q h.lt).trans h
theorem HasF.drewN {W : World} {q : Nat} {room : Int} {v : Value} (h : HasF W q room v) (n : Nat) : HasF (W.drewN n) q room v := h

/-- A number's place; below 0: none. -/
def atI (L : Ent) (id : Int) : Int := match L.findIdx? fun q => q.1 == id with | some i => i | none => -1

theorem atI_miss {L : Ent} {id : Int} (h : look L id = none) : atI L id = -1 := by
  unfold atI
  have : L.findIdx? (fun q => q.1 == id) = none := by
    rw [List.findIdx?_eq_none_iff]
    intro p hp
    have := look_none.1 h p hp
    simpa using this
  rw [this]

theorem drop_cons {L : Ent} {k : Nat} (h : k < L.length) : L.drop k = atE L k :: L.drop (k + 1) := by
  rw [List.drop_eq_getElem_cons h]; unfold atE; rw [List.getElem?_eq_getElem h]; rfl

/-- At: as far as it comes. -/
theorem at_any {W : World} {q : Nat} {room : Int} {A : Option Addr} {c : Nat} {L : Ent} (id : Int) (h : HasF W q room (.slice A L.length c)) (hr : RdE W A L) (hlen : L.length ≤ 100000) :
    Calls Try.prog 27 #[.pointer (some ⟨q, 0, none⟩), .int .i64 id] W fun e w' => w' = W ∧ ((look L id = none ∧ e = .returned (.int .i64 (-1))) ∨ ∃ i : Nat, i < L.length ∧ (atE L i).1 = id ∧ look L id = some (atE L i).2 ∧ e = .returned (.int .i64 i)) := by
  have c1 := h.c1
  obtain ⟨n, en⟩ : ∃ n, L.length = n := ⟨_, rfl⟩
  rw [en] at c1 hlen
  have HE := Lib.hid (And.intro hr en)
  clear h hr en
  go_enter Try.func27, Try.ntmps27
  go_wp2_with fail
  go_loop [11] (fun i => ∃ k : Nat, k ≤ n ∧ i = .int .i64 k ∧ look L id = look (L.drop k) id) (fun i => n - (intOf i).toNat)
  case atStart => exact ⟨0, Nat.zero_le _, rfl, by simp⟩
  case round =>
    obtain ⟨k, hk, rfl, hl⟩ := hrel
    by_cases hlt : k < n
    · have hkl : k < L.length := by rw [HE.out.2]; exact hlt
      rcases HE.out.1 with hr | ⟨b, rfl, hbl, hc⟩
      · rw [hr] at hkl; simp at hkl
      obtain ⟨d0, d1⟩ := hc k hkl
      rw [drop_cons hkl] at hl
      obtain ⟨o, eo⟩ : ∃ o, atE L k = o := ⟨_, rfl⟩
      rw [eo] at d0 d1 hl
      obtain ⟨o1, o2⟩ := o
      simp only at d0 d1
      by_cases hq : o1 = id
      · have hbq : (o1 == id) = true := by simpa using hq
        have hlk : look L id = some o2 := by
          rw [hl]
          unfold look
          rw [List.find?_cons]
          simp only [hbq]
          rfl
        have HH := Lib.hid (And.intro hlk (And.intro eo (And.intro hkl hq)))
        clear hc hl eo hlk hkl hq
        go_wp2_with fail
        go_ret
        exact ⟨rfl, .inr ⟨k, HH.out.2.2.1, by rw [HH.out.2.1]; exact HH.out.2.2.2, by rw [HH.out.2.1]; exact HH.out.1, rfl⟩⟩
      · have hbq : (o1 == id) = false := by simpa using hq
        have hlk : look L id = look (L.drop (k + 1)) id := by
          rw [hl]
          conv => lhs; unfold look
          rw [List.find?_cons]
          simp only [hbq]
          rfl
        have HH := Lib.hid hlk
        clear hc hl eo hlk hkl hq
        go_wp2_with fail
        go_round
        case rel => exact ⟨k + 1, by omega, by go_num, HH.out⟩
        case measure => simp [intOf]; omega
    · have hd : L.drop k = [] := List.drop_eq_nil_of_le (by rw [HE.out.2]; omega)
      rw [hd] at hl
      have HL := Lib.hid hl
      clear hd hl
      go_wp2_with fail
      go_ret
      exact ⟨rfl, .inl ⟨by rw [HL.out]; rfl, rfl⟩⟩

/-- The sum of all that is booked. -/
theorem used_any {W : World} {q : Nat} {room : Int} {A : Option Addr} {c : Nat} {L : Ent} (h : HasF W q room (.slice A L.length c)) (hr : RdE W A L) (hlen : L.length ≤ 100000) (hnn : ∀ p ∈ L, 0 ≤ p.2) (ht : tot L ≤ 1152921504606846976) :
    Calls Try.prog 24 #[.pointer (some ⟨q, 0, none⟩)] W fun e w' => e = .returned (.int .i64 (tot L)) ∧ ∃ n, w' = W.drewN n := by
  have c1 := h.c1
  obtain ⟨n, en⟩ : ∃ n, L.length = n := ⟨_, rfl⟩
  rw [en] at c1 hlen
  have HE := Lib.hid (And.intro hr (And.intro en hnn))
  clear h hr en hnn
  go_enter Try.func24, Try.ntmps24
  go_wp2_with fail
  go_loop [3, 10] (fun s i => ∃ (k : Nat) (u : Int), k ≤ n ∧ i = .int .i64 k ∧ s = .int .i64 u ∧ 0 ≤ u ∧ u + tot (L.drop k) = tot L) (fun _ i => n - (intOf i).toNat)
  case atStart => exact ⟨0, 0, Nat.zero_le _, rfl, rfl, Int.le_refl _, by simp⟩
  case round =>
    obtain ⟨k, u, hk, rfl, rfl, hu0, hu⟩ := hrel
    by_cases hlt : k < n
    · have hkl : k < L.length := by rw [HE.out.2.1]; exact hlt
      rcases HE.out.1 with hr | ⟨b, rfl, hbl, hc⟩
      · rw [hr] at hkl; simp at hkl
      obtain ⟨d0, d1⟩ := hc k hkl
      have hmem : atE L k ∈ L := by unfold atE; rw [List.getElem?_eq_getElem hkl]; exact List.getElem_mem _
      have hz := HE.out.2.2 _ hmem
      have htd : 0 ≤ tot (L.drop (k + 1)) := tot_nonneg (fun p hp => HE.out.2.2 p (List.mem_of_mem_drop hp))
      rw [drop_cons hkl] at hu
      obtain ⟨o, eo⟩ : ∃ o, atE L k = o := ⟨_, rfl⟩
      rw [eo] at d0 d1 hu hz
      obtain ⟨o1, o2⟩ := o
      simp only [tot] at d0 d1 hu hz
      obtain ⟨td, etd⟩ : ∃ td, tot (L.drop (k + 1)) = td := ⟨_, rfl⟩
      rw [etd] at hu htd
      obtain ⟨tl, etl⟩ : ∃ tl, tot L = tl := ⟨_, rfl⟩
      rw [etl] at hu ht
      have hub : u + o2 ≤ 1152921504606846976 := by omega
      have HH := Lib.hid (And.intro hu (And.intro etd etl))
      clear hc eo hkl hmem hu etd etl
      go_wp2_with fail
      go_round
      case rel => exact ⟨k + 1, u + o2, by omega, by go_num, rfl, by omega, by rw [HH.out.2.1, HH.out.2.2]; have := HH.out.1; omega⟩
      case measure => simp [intOf]; omega
    · have hd : L.drop k = [] := List.drop_eq_nil_of_le (by rw [HE.out.2.1]; omega)
      rw [hd] at hu
      have HU := Lib.hid hu
      clear hd hu
      go_wp2_with fail
      go_ret
      exact ⟨by have := HU.out; simp only [tot] at this; rw [← this]; simp, 0, rfl⟩

end Go.Proofs.Ythgjccbmfbileaa.Rf
