/- The sort by time: its contract. -/
import Derived.Test.YtclplacjgofccaaP
import Derived.Test.YtclplacjgofccaaL
import Derived.WalkKit
import Derived.WalkLawsBesides
import Derived.RegionTactic
import Derived.BigRegion
import Derived.Deep.QuietTactic
import Derived.BigQuiet
import Derived.Deep.RegionHeld3
import Derived.Deep.DrawnRows
import Derived.Lib.Hide
import Derived.OneCell
import Derived.IntWalk
import Derived.LoopTactic
import Derived.OwnWalk
namespace Go.Proofs.Ytclplacjgofccaa
open Go.RowKit Go.Sort Go.Shelf Go.Lib
set_option linter.unusedVariables false
set_option linter.unusedSimpArgs false

def encC (c : Ch) : List Value := [.int .i64 c.1, .int .i64 c.2]

theorem closure30 (x y : Ch) (W : World) : Calls Try.prog 30 #[.agg #[.int .i64 x.1, .int .i64 x.2], .agg #[.int .i64 y.1, .int .i64 y.2]] W fun e w' => e = .returned (.int .i64 (cfAt x y)) ∧ ∃ q os', w' = grow (W.drewN q) os' := by
  have hcon := fun W' => AnyG.cmp_Compare_int cmpInt x.2 y.2 W'
  change ∀ W', Calls Try.prog 31 _ _ _ at hcon
  unfold cfAt
  generalize Lib.compareInt x.2 y.2 = r at hcon ⊢
  go_enter Try.func30, Try.ntmps30
  go_wp2_with (go_at_call 31; refine (hcon _).mono ?_; rintro e w' ⟨rfl, rfl⟩)
  go_ret
  exact ⟨rfl, 0, _, by rw [alloc_eq_grow, alloc_eq_grow, grow_grow]; rfl⟩

theorem cmpLays30 (blk off size : Nat) (w : World) : CmpLays Try.prog 30 #[] encC 2 cfAt blk off size w :=
  fun _ _ _ _ x y => closure30 x y _

theorem ins_any (blk off cap : Nat) (d : Array Ch) (w : World) (hH : HoldsK encC 2 w blk off d) (hblk : blk < w.heap.size) (hsz : d.size ≤ 8) :
    Calls Try.prog 36 #[.slice (some ⟨blk, off, none⟩) d.size cap, .int .i64 0, .int .i64 d.size, .func (.func 30) #[] #[]] w fun e w' =>
      e = .returned (.tuple #[]) ∧ ∃ n os, w' = sortWorldK encC 2 w blk off n (sortAt d) os := by
  have eg : ∀ args w, (callFunc 30 args).run Try.prog w = .ok (.enter 30 args) w := enters_of Try.func30 (by kernel_rfl) rfl
  exact AnyQ.insertionSortCmpFunc ins36 2 Try.isAgg64 Try.sizeOf64 encC (fun _ => rfl) (fun x v hv => by simp [encC] at hv; rcases hv with rfl | rfl <;> rfl) cfAt 30 #[] blk off cap 0 d.size d w eg (cmpLays30 _ _ _ _) hH hblk (Nat.zero_le _) (Nat.le_refl _) (by omega)

theorem stable_any (blk off cap : Nat) (d : Array Ch) (w : World) (hH : HoldsK encC 2 w blk off d) (hblk : blk < w.heap.size) (hsz : d.size ≤ 8) :
    Calls Try.prog 34 #[.slice (some ⟨blk, off, none⟩) d.size cap, .int .i64 d.size, .func (.func 30) #[] #[]] w fun e w' =>
      e = .returned (.tuple #[]) ∧ ∃ n os, w' = sortWorldK encC 2 w blk off n (sortAt d) os := by
  have hcon := ins_any blk off cap d w hH hblk hsz
  clear hH
  obtain ⟨d', hd'⟩ : ∃ d', sortAt d = d' := ⟨_, rfl⟩
  rw [hd'] at hcon ⊢
  clear hd'
  obtain ⟨n, hn⟩ : ∃ n, d.size = n := ⟨_, rfl⟩
  rw [hn] at hcon hsz ⊢
  clear hn
  go_enter Try.func34, Try.ntmps34
  go_wp2_with fail
  go_loop [7, 8] (fun a b => a = .int .i64 0 ∧ b = .int .i64 20) (fun _ _ => 0)
  case atStart => exact ⟨rfl, rfl⟩
  case round =>
    obtain ⟨rfl, rfl⟩ := hrel
    go_wp2_with fail
    refine hcon.mono ?_
    rintro e w' ⟨rfl, m, os, rfl⟩
    go_wp2_with fail
    go_loop [6] (fun a => a = .int .i64 20) (fun _ => 0)
    case atStart => rfl
    case round =>
      obtain rfl := hrel
      go_wp2_with fail
      go_end0
      exact ⟨rfl, m, os, rfl⟩

theorem sort_any (blk off cap : Nat) (d : Array Ch) (w : World) (hH : HoldsK encC 2 w blk off d) (hblk : blk < w.heap.size) (hsz : d.size ≤ 8) :
    Calls Try.prog 29 #[.slice (some ⟨blk, off, none⟩) d.size cap, .func (.func 30) #[] #[]] w fun e w' =>
      e = .returned (.tuple #[]) ∧ ∃ n os, w' = sortWorldK encC 2 w blk off n (sortAt d) os := by
  have hcon := stable_any blk off cap d w hH hblk hsz
  clear hH
  obtain ⟨d', hd'⟩ : ∃ d', sortAt d = d' := ⟨_, rfl⟩
  rw [hd'] at hcon ⊢
  clear hd'
  obtain ⟨n, hn⟩ : ∃ n, d.size = n := ⟨_, rfl⟩
  rw [hn] at hcon hsz ⊢
  clear hn
  go_enter Try.func29, Try.ntmps29
  go_wp2_with (go_at_call 34; refine hcon.mono ?_; rintro e w' ⟨rfl, m, os, rfl⟩)
  go_end0
  exact ⟨rfl, m, os, rfl⟩

end Go.Proofs.Ytclplacjgofccaa
