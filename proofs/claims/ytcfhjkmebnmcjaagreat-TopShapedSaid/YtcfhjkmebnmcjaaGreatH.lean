/- Plain laws on what is booked: a list of numbers and needs, in order; and how a map of the model reads as one. No program in sight. -/
import Derived.Maps.OwnSet
import Derived.Maps.Views
namespace Go.Proofs.YtcfhjkmebnmcjaaGreat
set_option linter.unusedVariables false
set_option linter.unusedSimpArgs false

abbrev Ent := List (Int × Int)
def ins (id n : Int) : Ent → Ent
  | [] => [(id, n)]
  | q :: r => if id < q.1 then (id, n) :: q :: r else q :: ins id n r
def del (L : Ent) (id : Int) : Ent := L.filter fun p => !(p.1 == id)
def look (L : Ent) (id : Int) : Option Int := (L.find? fun p => p.1 == id).map (·.2)
def tot : Ent → Int
  | [] => 0
  | p :: r => p.2 + tot r
def Sorted (L : Ent) : Prop := L.Pairwise fun a b => a.1 < b.1

/-- The datum of such a map. -/
def dm (L : Ent) : DataW Unit := .map (L.map fun p => (.int .i64 p.1, .lit (.int .i64 p.2)))

theorem same_int (a id : Int) : (Lit.int .i64 a).sameKey (.int .i64 id) = (a == id) := by
  by_cases h : a = id
  · simp [Lit.sameKey, h]
  · simp [Lit.sameKey, h]

theorem dm_del (L : Ent) (id : Int) : (dm L).del (.int .i64 id) = dm (del L id) := by
  unfold dm DataW.del del
  simp only [List.filter_map, DataW.map.injEq]
  congr 1
  apply List.filter_congr
  intro p _
  simp only [Function.comp, same_int]
theorem dm_insert (L : Ent) (id n : Int) : DataW.insert (H := Unit) (.int .i64 id, .lit (.int .i64 n)) (L.map fun p => (.int .i64 p.1, .lit (.int .i64 p.2))) = (ins id n L).map fun p => (.int .i64 p.1, .lit (.int .i64 p.2)) := by
  induction L with
  | nil => rfl
  | cons q r ih =>
    simp only [List.map_cons, DataW.insert, Lit.before, ins]
    by_cases h : id < q.1
    · simp [h]
    · simp [h, ih]
theorem dm_put (L : Ent) (id n : Int) : (dm L).put (.int .i64 id) (.lit (.int .i64 n)) = dm (ins id n (del L id)) := by
  have h := dm_del L id
  unfold dm DataW.del at h
  unfold dm DataW.put
  simp only [DataW.map.injEq] at h ⊢
  rw [h, dm_insert]
theorem dm_find (L : Ent) (id : Int) : (L.map fun p => ((.int .i64 p.1, .lit (.int .i64 p.2)) : Lit × DataW Unit)).find? (fun p => p.1.sameKey (.int .i64 id)) = (L.find? fun p => p.1 == id).map fun p => (.int .i64 p.1, .lit (.int .i64 p.2)) := by
  induction L with
  | nil => rfl
  | cons q r ih =>
    simp only [List.map_cons, List.find?_cons, same_int]
    cases h : (q.1 == id)
    · exact ih
    · rfl
theorem dm_at (L : Ent) (id : Int) : (dm L).atKey (.int .i64 id) (.lit (.int .i64 0)) = .lit (.int .i64 ((look L id).getD 0)) := by
  unfold dm DataW.atKey look
  simp only [dm_find]
  cases L.find? fun p => p.1 == id <;> rfl
theorem dm_has (L : Ent) (id : Int) : Maps.has (dm L) (.int .i64 id) = (look L id).isSome := by
  unfold dm Maps.has look
  induction L with
  | nil => rfl
  | cons q r ih =>
    simp only [List.map_cons, List.any_cons, List.find?_cons, same_int]
    cases h : (q.1 == id)
    · simp only [Bool.false_or]; exact ih
    · rfl

theorem tot_ins (id n : Int) (L : Ent) : tot (ins id n L) = n + tot L := by
  induction L with
  | nil => rfl
  | cons q r ih =>
    unfold ins
    split
    · rfl
    · simp only [tot, ih]; omega
theorem mem_ins {id n : Int} {L : Ent} {p : Int × Int} : p ∈ ins id n L ↔ p = (id, n) ∨ p ∈ L := by
  induction L with
  | nil => simp [ins]
  | cons q r ih =>
    unfold ins
    split
    · simp
    · simp [ih]; constructor <;> rintro (h | h | h) <;> simp [h]
theorem length_ins (id n : Int) (L : Ent) : (ins id n L).length = L.length + 1 := by
  induction L with
  | nil => rfl
  | cons q r ih => unfold ins; split <;> simp [ih]
theorem sorted_ins {id n : Int} {L : Ent} (h : Sorted L) (hn : ∀ p ∈ L, p.1 ≠ id) : Sorted (ins id n L) := by
  induction L with
  | nil => simp [ins, Sorted]
  | cons q r ih =>
    unfold Sorted at *
    rw [List.pairwise_cons] at h
    unfold ins
    split
    · rename_i hlt
      rw [List.pairwise_cons, List.pairwise_cons]
      refine ⟨fun a ha => ?_, h⟩
      rcases List.mem_cons.1 ha with rfl | ha
      · exact hlt
      · have := h.1 a ha; simp only; omega
    · rename_i hge
      rw [List.pairwise_cons]
      refine ⟨fun a ha => ?_, ih h.2 (fun p hp => hn p (List.mem_cons_of_mem _ hp))⟩
      rcases mem_ins.1 ha with rfl | ha
      · have := hn q List.mem_cons_self; simp only; omega
      · exact h.1 a ha
theorem mem_del {L : Ent} {id : Int} {p : Int × Int} : p ∈ del L id ↔ p ∈ L ∧ p.1 ≠ id := by simp [del]
theorem sorted_del {L : Ent} (h : Sorted L) (id : Int) : Sorted (del L id) := List.Pairwise.filter _ h
theorem del_none {L : Ent} {id : Int} (h : look L id = none) : del L id = L := by
  unfold look at h
  unfold del
  apply List.filter_eq_self.2
  intro p hp
  have := List.find?_eq_none.1 (Option.map_eq_none_iff.1 h) p hp
  simpa using this
theorem look_some {L : Ent} {id n : Int} (h : look L id = some n) : (id, n) ∈ L := by
  unfold look at h
  obtain ⟨p, hp, rfl⟩ := Option.map_eq_some_iff.1 h
  have h1 := List.find?_some hp
  have h2 := List.mem_of_find?_eq_some hp
  simp at h1
  rw [← h1]
  exact h2
theorem look_of_mem {L : Ent} (h : Sorted L) {id n : Int} (hm : (id, n) ∈ L) : look L id = some n := by
  induction L with
  | nil => cases hm
  | cons q r ih =>
    unfold Sorted at h
    rw [List.pairwise_cons] at h
    unfold look
    rw [List.find?_cons]
    by_cases e : q.1 = id
    · simp only [e, BEq.rfl]
      rcases List.mem_cons.1 hm with rfl | hm
      · rfl
      · have := h.1 _ hm; simp only at this; omega
    · rcases List.mem_cons.1 hm with rfl | hm
      · exact absurd rfl e
      · have e' : (q.1 == id) = false := by simpa using e
        simp only [e']
        exact ih h.2 hm
theorem look_none {L : Ent} {id : Int} : look L id = none ↔ ∀ p ∈ L, p.1 ≠ id := by
  unfold look
  rw [Option.map_eq_none_iff, List.find?_eq_none]
  simp
theorem tot_del {L : Ent} (h : Sorted L) (id : Int) : tot (del L id) = tot L - (look L id).getD 0 := by
  induction L with
  | nil => rfl
  | cons q r ih =>
    unfold Sorted at h
    rw [List.pairwise_cons] at h
    by_cases e : q.1 = id
    · have hl : look (q :: r) id = some q.2 := by unfold look; rw [List.find?_cons]; simp [e]
      have hr : look r id = none := look_none.2 fun p hp => by have := h.1 p hp; omega
      have hd : del (q :: r) id = r := by
        have := del_none hr
        unfold del at this ⊢
        rw [List.filter_cons]
        simp [e, this]
      rw [hl, hd]
      simp only [tot, Option.getD_some]; omega
    · have hl : look (q :: r) id = look r id := by
        have e' : (q.1 == id) = false := by simpa using e
        unfold look; rw [List.find?_cons]; simp only [e']
      have hd : del (q :: r) id = q :: del r id := by unfold del; rw [List.filter_cons]; simp [e]
      rw [hl, hd]
      simp only [tot, ih h.2]; omega
theorem length_del (L : Ent) (id : Int) : (del L id).length ≤ L.length := List.length_filter_le _ _
theorem look_del (L : Ent) (id : Int) : look (del L id) id = none := look_none.2 fun p hp => (mem_del.1 hp).2
theorem tot_nonneg {L : Ent} (h : ∀ p ∈ L, 0 ≤ p.2) : 0 ≤ tot L := by
  induction L with
  | nil => simp [tot]
  | cons q r ih =>
    have h1 := h q List.mem_cons_self
    have h2 := ih fun p hp => h p (List.mem_cons_of_mem _ hp)
    simp only [tot]; omega
theorem mem_le_tot {L : Ent} (h : ∀ p ∈ L, 0 ≤ p.2) {p : Int × Int} (hp : p ∈ L) : p.2 ≤ tot L := by
  induction L with
  | nil => cases hp
  | cons q r ih =>
    have h1 := h q List.mem_cons_self
    have h2 := tot_nonneg fun p hp => h p (List.mem_cons_of_mem _ hp)
    rcases List.mem_cons.1 hp with rfl | hp
    · simp only [tot]; omega
    · have := ih (fun p hp => h p (List.mem_cons_of_mem _ hp)) hp
      simp only [tot]; omega

/-- A ledger: its room, what is booked. -/
structure Lg where
  room : Int
  L : Ent
structure Lg.Ok (x : Lg) : Prop where
  r0 : 0 ≤ x.room
  r1 : x.room ≤ 1152921504606846976
  so : Sorted x.L
  nn : ∀ p ∈ x.L, 0 ≤ p.2
  le : tot x.L ≤ x.room

def bookE (x : Lg) (id need : Int) : Int := if need < 0 then 1 else if (look x.L id).isSome then 7 else if x.room - tot x.L < need then 9 else 0
def bookS (x : Lg) (id need : Int) : Lg := if bookE x id need = 0 then ⟨x.room, ins id need x.L⟩ else x
def changeE (x : Lg) (id need : Int) : Int := if need < 0 then 1 else if (look x.L id).isNone then 8 else if x.room - tot x.L + (look x.L id).getD 0 < need then 9 else 0
def changeS (x : Lg) (id need : Int) : Lg := if changeE x id need = 0 then ⟨x.room, ins id need (del x.L id)⟩ else x
def freeS (x : Lg) (id : Int) : Lg := ⟨x.room, del x.L id⟩

theorem bookE_zero {x : Lg} {id need : Int} : bookE x id need = 0 ↔ 0 ≤ need ∧ look x.L id = none ∧ need ≤ x.room - tot x.L := by
  unfold bookE
  by_cases h1 : need < 0
  · rw [if_pos h1]; constructor
    · intro h; omega
    · intro h; omega
  · rw [if_neg h1]
    cases hl : look x.L id with
    | some n => simp
    | none =>
      simp only [Option.isSome_none, Bool.false_eq_true, if_false, true_and]
      by_cases h2 : x.room - tot x.L < need
      · rw [if_pos h2]; constructor
        · intro h; omega
        · intro h; omega
      · rw [if_neg h2]; constructor
        · intro _; omega
        · intro _; rfl
theorem bookS_ok {x : Lg} (hx : x.Ok) (id need : Int) : (bookS x id need).Ok := by
  unfold bookS
  by_cases h : bookE x id need = 0
  · rw [if_pos h]
    obtain ⟨h1, h2, h3⟩ := bookE_zero.1 h
    refine ⟨hx.r0, hx.r1, sorted_ins hx.so (look_none.1 h2), fun p hp => ?_, ?_⟩
    · rcases mem_ins.1 hp with rfl | hp
      · exact h1
      · exact hx.nn p hp
    · simp only [tot_ins]; omega
  · rw [if_neg h]; exact hx
theorem freeS_ok {x : Lg} (hx : x.Ok) (id : Int) : (freeS x id).Ok := by
  refine ⟨hx.r0, hx.r1, sorted_del hx.so id, fun p hp => hx.nn p (mem_del.1 hp).1, ?_⟩
  show tot (del x.L id) ≤ x.room
  rw [tot_del hx.so]
  have := hx.le
  cases hl : look x.L id with
  | none => simp; omega
  | some n => have := hx.nn _ (look_some hl); simp at this ⊢; omega
theorem changeE_zero {x : Lg} {id need : Int} : changeE x id need = 0 ↔ 0 ≤ need ∧ ∃ n, look x.L id = some n ∧ need ≤ x.room - tot x.L + n := by
  unfold changeE
  by_cases h1 : need < 0
  · rw [if_pos h1]; constructor
    · intro h; omega
    · intro h; omega
  · rw [if_neg h1]
    cases hl : look x.L id with
    | none => simp
    | some n =>
      simp only [Option.isNone_some, Bool.false_eq_true, if_false, Option.getD_some, Option.some.injEq, exists_eq_left']
      by_cases h2 : x.room - tot x.L + n < need
      · rw [if_pos h2]; constructor
        · intro h; omega
        · intro h; omega
      · rw [if_neg h2]; constructor
        · intro _; omega
        · intro _; rfl
theorem changeS_ok {x : Lg} (hx : x.Ok) (id need : Int) : (changeS x id need).Ok := by
  unfold changeS
  by_cases h : changeE x id need = 0
  · rw [if_pos h]
    obtain ⟨h1, n, h2, h3⟩ := changeE_zero.1 h
    refine ⟨hx.r0, hx.r1, sorted_ins (sorted_del hx.so id) (fun p hp => (mem_del.1 hp).2), fun p hp => ?_, ?_⟩
    · rcases mem_ins.1 hp with rfl | hp
      · exact h1
      · exact hx.nn p (mem_del.1 hp).1
    · show tot (ins id need (del x.L id)) ≤ x.room
      rw [tot_ins, tot_del hx.so, h2]
      simp only [Option.getD_some]
      omega
  · rw [if_neg h]; exact hx
theorem tot_bd {x : Lg} (hx : x.Ok) : 0 ≤ tot x.L ∧ tot x.L ≤ 1152921504606846976 := ⟨tot_nonneg hx.nn, Int.le_trans hx.le hx.r1⟩
theorem look_bd {x : Lg} (hx : x.Ok) (id : Int) : 0 ≤ (look x.L id).getD 0 ∧ (look x.L id).getD 0 ≤ tot x.L := by
  cases hl : look x.L id with
  | none => simp; exact (tot_bd hx).1
  | some n => exact ⟨hx.nn _ (look_some hl), mem_le_tot hx.nn (look_some hl)⟩

end Go.Proofs.YtcfhjkmebnmcjaaGreat
