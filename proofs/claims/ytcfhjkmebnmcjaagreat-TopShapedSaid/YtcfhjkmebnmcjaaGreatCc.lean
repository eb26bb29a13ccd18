/- A header's check, and how it differs. -/
import Derived.Test.YtcfhjkmebnmcjaaGreatCb
import Derived.Deep.RegionHeld3
import Derived.Deep.RegionWith
namespace Go.Proofs.YtcfhjkmebnmcjaaGreat
open Go.RowKit Go.Shelf
set_option linter.unusedVariables false
set_option linter.unusedSimpArgs false

def eightN (bs : List Int) : Int := bits BinOp.xor IntKind.u8 (regOf (bitsOf bs) % 256) 85

theorem eight_at (b off n cap : Nat) (bs : List Int) (r : Int) (hr : eightN bs = r) (hl : bs.length = n) (hbs : ∀ x ∈ bs, 0 ≤ x ∧ x ≤ 255) (hn : n ≤ 1000) (w : World) (hb : b < w.heap.size) (hB : Bytes w b off bs) :
    Calls Tryz.prog 92 #[.slice (some ⟨b, off, none⟩) n cap] w fun e W' => e = .returned (.int .u8 r) ∧ Below w.heap.size w W' := by
  subst hl
  have hk := rest_any b off cap bs hbs hn w hb hB
  unfold eightN at hr
  obtain ⟨x, ex⟩ : ∃ x, regOf (bitsOf bs) = x := ⟨_, rfl⟩
  rw [ex] at hk hr
  have HR := Lib.hid hr
  clear hr ex hB
  go_enter Tryz.func92, Tryz.ntmps92
  go_wp2_with fail
  refine hk.mono ?_
  rintro e w1 ⟨rfl, b1⟩
  have HB := Lib.hid b1
  clear b1 hk
  go_wp2
  go_ret
  exact ⟨ret_int HR.out, HB.out⟩

/-- Four bytes and their check: no difference. -/
theorem syn_at (b off : Nat) (bs : List Int) (r : Int) (hr : eightN bs = r) (hl : bs.length = 4) (hbs : ∀ x ∈ bs, 0 ≤ x ∧ x ≤ 255) (hx : bits BinOp.xor IntKind.u8 r r = 0) (w : World) (hb : b < w.heap.size) (hB : Bytes w b off bs) (hc : w.cell? ⟨b, off + 4, none⟩ = some (.int .u8 r)) :
    Calls Tryz.prog 64 #[.slice (some ⟨b, off, none⟩) 5 5] w fun e W' => e = .returned (.int .u8 0) ∧ Below w.heap.size w W' := by
  have HE := Lib.hid (fun (W : World) (hW : Below w.heap.size w W) => eight_at b off 4 5 bs r hr hl hbs (by omega) W (Nat.lt_of_lt_of_le hb hW.size) (hB.below hb hW))
  have HC := Lib.hid (fun (W : World) (hW : Below w.heap.size w W) => (hW.cell (p := ⟨b, off + 4, none⟩) hb).trans hc)
  clear hr hB
  have hW : Below w.heap.size w w.drew := (Below.refl _ _).drew
  go_enter Tryz.func64, Tryz.ntmps64
  go_wp2_with fail
  go_region_held3 (fun w' => w'.cell? ⟨b, off + 4, none⟩ = some (.int .u8 r)) (first | assumption | go_keep)
    (first | (go_at_call 92; refine (HE.out _ (by assumption)).mono ?_; rintro e w1 ⟨rfl, b1⟩; have hW1 := Below.trans hW (b1.mono (Nat.le_refl _)); have hc1 := HC.out _ hW1))
  all_goals
    go_wp2
    go_ret
    exact ⟨rfl, by assumption⟩

end Go.Proofs.YtcfhjkmebnmcjaaGreat
