/- Plain laws for LedgerBack: what is booked, and freed, leaves all as it was. -/
import Derived.Test.YthgjccbmfbileaaX
namespace Go.Proofs.Ythgjccbmfbileaa
open Go.RowKit Go.Maps
set_option linter.unusedVariables false
set_option linter.unusedSimpArgs false

theorem look_ins_self {L : Ent} {id n : Int} (h : look L id = none) : look (ins id n L) id = some n := by
  induction L with
  | nil => simp [ins, look]
  | cons q r ih =>
    have hq : (q.1 == id) = false := by
      unfold look at h
      rw [List.find?_cons] at h
      cases hh : (q.1 == id) with
      | false => rfl
      | true => rw [hh] at h; simp at h
    have hr : look r id = none := by
      unfold look at h ⊢
      rw [List.find?_cons, hq] at h
      exact h
    unfold ins
    split
    · unfold look
      rw [List.find?_cons]
      simp
    · unfold look
      rw [List.find?_cons, hq]
      exact ih hr

theorem ins_del {L : Ent} (hs : Sorted L) {id n : Int} (h : look L id = some n) : ins id n (del L id) = L := by
  induction L with
  | nil => simp [look] at h
  | cons q r ih =>
    have hs' := hs
    unfold Sorted at hs
    rw [List.pairwise_cons] at hs
    by_cases hq : q.1 = id
    · have hqn : q.2 = n := by
        unfold look at h
        rw [List.find?_cons] at h
        simp [hq] at h
        exact h
      have hr : del r id = r := by
        unfold del
        apply List.filter_eq_self.2
        intro p hp
        have := hs.1 p hp
        simp
        omega
      have e1 : del (q :: r) id = r := by
        have : del (q :: r) id = del r id := by unfold del; rw [List.filter_cons, if_neg (by simp [hq])]
        rw [this, hr]
      rw [e1]
      have hqe : (id, n) = q := by rw [← hq, ← hqn]
      cases r with
      | nil => simp [ins, hqe]
      | cons s t =>
        unfold ins
        have := hs.1 s (by simp)
        rw [if_pos (by omega), hqe]
    · have hr : look r id = some n := by
        unfold look at h ⊢
        rw [List.find?_cons] at h
        have : (q.1 == id) = false := by simpa using hq
        rw [this] at h
        exact h
      have e1 : del (q :: r) id = q :: del r id := by unfold del; rw [List.filter_cons, if_pos (by simpa using hq)]
      rw [e1]
      have hlt : q.1 < id := hs.1 (id, n) (look_some hr)
      unfold ins
      rw [if_neg (by omega), ih hs.2 hr]

/-- What is booked, changed, and freed again. -/
theorem book_back {x : Lg} {id need : Int} (h : bookE x id need = 0) (other : Int) :
    ∃ v, (v = need ∨ v = other) ∧ look (changeS (bookS x id need) id other).L id = some v ∧ freeS (changeS (bookS x id need) id other) id = x := by
  obtain ⟨h0, h1, h2⟩ := bookE_zero.1 h
  have hy : bookS x id need = ⟨x.room, ins id need x.L⟩ := by unfold bookS; rw [if_pos h]
  rw [hy]
  have hd : del (ins id need x.L) id = x.L := by rw [del_ins, del_none h1]
  unfold changeS
  split
  · refine ⟨other, .inr rfl, ?_, ?_⟩
    · exact look_ins_self (look_del _ _)
    · unfold freeS
      show Lg.mk x.room (del (ins id other (del (ins id need x.L) id)) id) = x
      rw [del_ins, hd, del_none h1]
  · refine ⟨need, .inl rfl, look_ins_self h1, ?_⟩
    unfold freeS
    show Lg.mk x.room (del (ins id need x.L) id) = x
    rw [hd]

theorem tot_change {x : Lg} {id n o : Int} (hs : Sorted x.L) (h : look x.L id = some n) : tot (ins id o (del x.L id)) = tot x.L - n + o := by
  have h1 := tot_ins id n (del x.L id)
  rw [ins_del hs h] at h1
  rw [tot_ins]
  omega

/-- What is changed, and changed back. -/
theorem change_back {x : Lg} (hx : x.Ok) {id n other : Int} (hl : look x.L id = some n) (h : changeE x id other = 0) :
    changeE (changeS x id other) id n = 0 ∧ changeS (changeS x id other) id n = x := by
  have hy : changeS x id other = ⟨x.room, ins id other (del x.L id)⟩ := by unfold changeS; rw [if_pos h]
  have hlk : look (ins id other (del x.L id)) id = some other := look_ins_self (look_del _ _)
  have hn := (look_bd hx id).1
  rw [hl] at hn
  simp only [Option.getD_some] at hn
  have hle := hx.le
  have e1 : changeE (changeS x id other) id n = 0 := by
    rw [changeE_zero, hy]
    exact ⟨hn, other, hlk, by simp only; rw [tot_change hx.so hl]; omega⟩
  refine ⟨e1, ?_⟩
  have hch : ∀ y : Lg, changeE y id n = 0 → changeS y id n = ⟨y.room, ins id n (del y.L id)⟩ := fun y h => by unfold changeS; rw [if_pos h]
  rw [hch _ e1, hy]
  show Lg.mk x.room (ins id n (del (ins id other (del x.L id)) id)) = x
  rw [del_ins]
  have hdd : del (del x.L id) id = del x.L id := del_none (look_del _ _)
  rw [hdd, ins_del hx.so hl]

theorem wf_ins {L : Ent} (h : WfL L) {id n : Int} (hw : (Lit.int .i64 id).wf = true) : WfL (ins id n L) := by
  intro q hq
  rcases mem_ins.1 hq with rfl | hq
  · exact hw
  · exact h q hq
theorem wf_del {L : Ent} (h : WfL L) (id : Int) : WfL (del L id) := fun q hq => h q (mem_del.1 hq).1
theorem wf_book {x : Lg} (h : WfL x.L) {id n : Int} (hw : (Lit.int .i64 id).wf = true) : WfL (bookS x id n).L := by
  unfold bookS; split
  · exact wf_ins h hw
  · exact h
theorem wf_change {x : Lg} (h : WfL x.L) {id n : Int} (hw : (Lit.int .i64 id).wf = true) : WfL (changeS x id n).L := by
  unfold changeS; split
  · exact wf_ins (wf_del h id) hw
  · exact h
theorem wf_free {x : Lg} (h : WfL x.L) (id : Int) : WfL (freeS x id).L := wf_del h id
theorem wf_do {x : Lg} (h : WfL x.L) {o : Op3} (hw : (Lit.int .i64 o.2.1).wf = true) : WfL (doS x o).L := by
  unfold doS
  split
  · exact wf_book h hw
  · split
    · exact wf_change h hw
    · split
      · exact wf_free h _
      · exact h

/-- A row of entries beside a ledger. -/
theorem row_kept {W W' : World} {B p m : Nat} {v : Value} {L : Ent} {x : Lg} (h : ERow W B v L) (hl : HasL W p m x) (hk : Kept p m W W') : ERow W' B v L := by
  refine ⟨h.1, ?_⟩
  rcases h.2 with h2 | ⟨g, cap, cur, h1, h2, h3, h4⟩
  · exact .inl h2
  · refine .inr ⟨g, cap, cur, h1, h2, (hk.block g (lt_of_block h3) ?_ ?_).trans h3, h4⟩
    · rintro rfl
      rw [hl.cells] at h3
      simp at h3
    · rintro rfl
      obtain ⟨es, clock, hb, _⟩ := hl.own
      rw [hb] at h3
      simp at h3
theorem row_below {W W' : World} {B : Nat} {v : Value} {L : Ent} (h : ERow W B v L) (hb : Below W.heap.size W W') : ERow W' B v L := by
  refine ⟨h.1, ?_⟩
  rcases h.2 with h2 | ⟨g, cap, cur, h1, h2, h3, h4⟩
  · exact .inl h2
  · exact .inr ⟨g, cap, cur, h1, h2, (hb.block g (lt_of_block h3)).trans h3, h4⟩

end Go.Proofs.Ythgjccbmfbileaa
