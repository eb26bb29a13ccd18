/- Plain laws of the shaper: which step is in force; the sort by time does not change it. -/
import Derived.Sort.LotA
import Derived.Shelf.SlSortCmp.Insertion
namespace Go.Proofs.Ytclplacjgofccaa
open Go.Sort
set_option linter.unusedVariables false

abbrev Ch := Int × Int

/-- By definition: of those whose time is up the one of the latest time, of these the last. -/
def comeOne (t : Int) (r : Ch) (c : Ch) : Ch := if c.2 ≤ t ∧ r.2 ≤ c.2 then c else r
def comeF (t s : Int) (L : List Ch) : Int := (L.foldl (comeOne t) (s, -1)).1
/-- As the program does on what is sorted: the last one whose time is up. -/
def lastF (t s : Int) (L : List Ch) : Int := L.foldl (fun r c => if c.2 ≤ t then c.1 else r) s
/-- What is left. -/
def leftF (t : Int) (L : List Ch) : List Ch := L.filter fun c => decide (t < c.2)

theorem come_swap (t : Int) (r x y : Ch) (h : x.2 ≠ y.2) : comeOne t (comeOne t r y) x = comeOne t (comeOne t r x) y := by
  unfold comeOne
  by_cases h1 : x.2 ≤ t <;> by_cases h2 : y.2 ≤ t <;> by_cases h3 : r.2 ≤ x.2 <;> by_cases h4 : r.2 ≤ y.2 <;> simp [h1, h2, h3, h4] <;> (repeat' split) <;> first | rfl | omega | (exfalso; omega)

theorem fold_swap {α β : Type} [Inhabited α] (f : β → α → β) : ∀ (j : Nat) (l : List α) (r : β), j + 1 < l.length → (∀ r, f (f r l[j + 1]!) l[j]! = f (f r l[j]!) l[j + 1]!) → ((l.set (j + 1) l[j]!).set j l[j + 1]!).foldl f r = l.foldl f r
  | 0, x :: y :: B, r, _, hf => by
    have := hf r
    simp at this
    simp [this]
  | j + 1, x :: l, r, hj, hf => by
    simp only [List.length_cons] at hj
    have ih := fold_swap f j l (f r x) (by omega) (fun r => by simpa using hf r)
    simpa using ih
  | 0, [], r, h, _ => by simp at h
  | 0, [x], r, h, _ => by simp at h
  | j + 1, [], r, h, _ => by simp at h

theorem fold_swp {β : Type} (f : β → Ch → β) (hf : ∀ r x y, x.2 ≠ y.2 → f (f r y) x = f (f r x) y) (d : Array Ch) (j : Nat) (hj : j + 1 < d.size) (h : d[j + 1]!.2 < d[j]!.2) (r : β) : (swp d (j + 1) j).toList.foldl f r = d.toList.foldl f r := by
  have e : ∀ k : Nat, d.toList[k]! = d[k]! := fun k => by simp [getElem!_def]
  have h1 := fold_swap f j d.toList r (by simpa using hj) (fun r => by rw [e, e]; exact hf r _ _ (by omega))
  rw [e, e] at h1
  unfold swp
  simp only [Array.toList_setIfInBounds]
  exact h1

def cfAt (x y : Ch) : Int := Lib.compareInt x.2 y.2
theorem ltOf_at (x y : Ch) : ltOf cfAt x y = decide (x.2 < y.2) := by
  unfold ltOf cfAt Lib.compareInt
  by_cases h : x.2 < y.2
  · simp [h]
  · by_cases h' : y.2 < x.2 <;> simp [h, h']

theorem swo_at : SWO (ltOf cfAt) := by
  constructor
  all_goals intros
  all_goals simp_all [ltOf_at]
  all_goals omega

theorem ins_inner {β : Type} (f : β → Ch → β) (hf : ∀ r x y, x.2 ≠ y.2 → f (f r y) x = f (f r x) y) (a : Nat) : ∀ (j : Nat) (d : Array Ch) (r : β), j < d.size → (insInner (ltOf cfAt) a j d).toList.foldl f r = d.toList.foldl f r ∧ (insInner (ltOf cfAt) a j d).size = d.size
  | 0, d, r, _ => ⟨rfl, rfl⟩
  | j + 1, d, r, hj => by
    rw [insInner]
    split
    · rename_i h
      simp only [Bool.and_eq_true, ltOf_at, decide_eq_true_eq] at h
      have ih := ins_inner f hf a j (swp d (j + 1) j) r (by rw [swp_size]; omega)
      exact ⟨ih.1.trans (fold_swp f hf d j hj h.2 r), ih.2.trans (swp_size d _ _)⟩
    · exact ⟨rfl, rfl⟩

theorem ins_outer {β : Type} (f : β → Ch → β) (hf : ∀ r x y, x.2 ≠ y.2 → f (f r y) x = f (f r x) y) (a b : Nat) (r : β) : ∀ (n i : Nat) (d : Array Ch), b - i = n → b ≤ d.size → (insOuter (ltOf cfAt) a b i d).toList.foldl f r = d.toList.foldl f r ∧ (insOuter (ltOf cfAt) a b i d).size = d.size
  | 0, i, d, hn, _ => by rw [insOuter, if_neg (by omega)]; exact ⟨rfl, rfl⟩
  | n + 1, i, d, hn, hb => by
    rw [insOuter, if_pos (by omega)]
    have h1 := ins_inner f hf a i d r (by omega)
    have h2 := ins_outer f hf a b r n (i + 1) (insInner (ltOf cfAt) a i d) (by omega) (by rw [h1.2]; exact hb)
    exact ⟨h2.1.trans h1.1, h2.2.trans h1.2⟩

def sortAt (d : Array Ch) : Array Ch := insertionSort (ltOf cfAt) d 0 d.size

theorem sortAt_size (d : Array Ch) : (sortAt d).size = d.size := (ins_outer (fun (_ : Unit) _ => ()) (fun _ _ _ _ => rfl) 0 d.size () _ 1 d rfl (Nat.le_refl _)).2
theorem sortAt_come (t s : Int) (d : Array Ch) : comeF t s (sortAt d).toList = comeF t s d.toList := by
  unfold comeF
  rw [show (sortAt d).toList.foldl (comeOne t) (s, -1) = d.toList.foldl (comeOne t) (s, -1) from (ins_outer (comeOne t) (fun r x y h => come_swap t r x y h) 0 d.size _ _ 1 d rfl (Nat.le_refl _)).1]

theorem fold_and (q : Ch → Bool) : ∀ (L : List Ch) (b : Bool), L.foldl (fun r x => r && q x) b = (b && L.all q)
  | [], b => by simp
  | c :: L, b => by simp [fold_and q L, Bool.and_assoc]

theorem sortAt_all (q : Ch → Bool) (d : Array Ch) : (sortAt d).toList.all q = d.toList.all q := by
  have h := (ins_outer (fun r x => r && q x) (fun r x y _ => by cases r <;> cases q x <;> cases q y <;> rfl) 0 d.size true _ 1 d rfl (Nat.le_refl _)).1
  rw [fold_and, fold_and, Bool.true_and, Bool.true_and] at h
  exact h

theorem last_come (t : Int) : ∀ (L : List Ch) (r : Ch), L.Pairwise (fun x y => x.2 ≤ y.2) → (∀ x ∈ L, r.2 ≤ x.2) → L.foldl (fun r c => if c.2 ≤ t then c.1 else r) r.1 = (L.foldl (comeOne t) r).1
  | [], r, _, _ => rfl
  | c :: L, r, hp, hr => by
    have hc := hr c (by simp)
    rw [List.pairwise_cons] at hp
    simp only [List.foldl_cons]
    by_cases h : c.2 ≤ t
    · have e : comeOne t r c = c := by unfold comeOne; rw [if_pos ⟨h, hc⟩]
      rw [if_pos h, e]
      exact last_come t L c hp.2 hp.1
    · have e : comeOne t r c = r := by unfold comeOne; rw [if_neg (fun hh => h hh.1)]
      rw [if_neg h, e]
      exact last_come t L r hp.2 (fun x hx => hr x (by simp [hx]))

theorem sorted_pairwise (d : Array Ch) : (sortAt d).toList.Pairwise (fun x y => x.2 ≤ y.2) := by
  have hs := (insertionSort_holds (lt := ltOf cfAt) swo_at d 0 d.size (Nat.zero_le _) (Nat.le_refl _)).2
  rw [List.pairwise_iff_getElem]
  intro i j hi hj hij
  have hi' : i < (sortAt d).size := by simpa using hi
  have hj' : j < (sortAt d).size := by simpa using hj
  have := hs i j (Nat.zero_le _) hij (by rw [← sortAt_size]; exact hj')
  change ltOf cfAt (sortAt d)[j]! (sortAt d)[i]! = false at this
  rw [ltOf_at, getElem!_pos (sortAt d) i hi', getElem!_pos (sortAt d) j hj'] at this
  simp only [decide_eq_false_iff_not] at this
  simp only [Array.getElem_toList]
  omega

theorem sorted_mem (d : Array Ch) (h : ∀ x ∈ d.toList, 0 ≤ x.2) : ∀ x ∈ (sortAt d).toList, 0 ≤ x.2 := by
  have h1 : d.toList.all (fun x => decide (0 ≤ x.2)) = true := by
    rw [List.all_eq_true]
    intro x hx
    simpa using h x hx
  rw [← sortAt_all, List.all_eq_true] at h1
  intro x hx
  simpa using h1 x hx

theorem sorted_last (t s : Int) (d : Array Ch) (h0 : ∀ x ∈ d.toList, 0 ≤ x.2) : lastF t s (sortAt d).toList = comeF t s d.toList := by
  rw [← sortAt_come]
  exact last_come t _ (s, -1) (sorted_pairwise d) (fun x hx => by have := sorted_mem d h0 x hx; simp only; omega)

end Go.Proofs.Ytclplacjgofccaa
