/- LedgerRoom of a slice that is too long. -/
import Derived.Test.YthgjccbmfbileaaRooQ
namespace Go.Proofs.Ythgjccbmfbileaa
open Go.RowKit Go.Maps Go.Shelf Go.Sort
set_option linter.unusedVariables false
set_option linter.unusedSimpArgs false

theorem roo_long (room : Int) (A : Option Addr) (n cap : Nat) (w : World) (hn : 100 < n) :
    Calls Try.prog 6 #[.int .i64 room, .slice A n cap] w fun e w' => e = .returned (.bool true) ∧ Below w.heap.size w w' := by
  refine (callsIn_wide (n := 7)).1 (callsIn_of_wp_marks Try.func6 rfl trivial ?_ rfl)
  simp only [Try.ntmps6, List.size_toArray, List.length_cons, List.length_nil, Nat.reduceAdd, Nat.reduceSub, Array.replicate_succ, Array.replicate_zero, List.push_toArray, List.append_toArray, List.nil_append, List.cons_append]
  refine wpIn_wide.2 ?_
  have HBS := Lib.hid (Boxed.new w 4 (.bool false))
  have HB0 := Lib.hid ((Below.refl w.heap.size w).alloc (Nat.le_refl _) (.cells #[.bool false] 4))
  obtain ⟨b4, eb4⟩ : ∃ b4, w.heap.size = b4 := ⟨_, rfl⟩
  go_wp2_with fail
  refine (awake_any _).mono ?_
  rintro e w1 ⟨rfl, b1⟩
  have HB := Lib.hid (And.intro (HB0.out.trans (b1.mono HB0.out.size)) (Boxed.below HBS.out b1))
  clear b1
  go_wp2_with fail
  refine (awake_any _).mono ?_
  rintro e w2 ⟨rfl, b2⟩
  have HB2 := Lib.hid (And.intro (HB.out.1.trans (b2.mono HB.out.1.size)) (Boxed.below HB.out.2 b2))
  have HK := Lib.hid (Kept.set (p := b4) (m := b4) w2 0 (.bool true))
  clear b2
  have hE := HB2.out.2
  rw [eb4] at hE
  have c4 := hE.cell
  have f4 := hE.frozen
  have HE := Lib.hid hE
  clear hE
  go_wp2_with fail
  have hB4 := Kept.below HB2.out.1 HK.out HB2.out.1.size (by omega) (by omega)
  exact ⟨_, results6 _ _ b4 _ rfl (HE.out.set _), rfl, by rw [← eb4]; rw [← eb4] at hB4; exact hB4⟩

end Go.Proofs.Ythgjccbmfbileaa
