/- Proves Rows.ShaperFullSaid: for every input the law returns true, and each argument reads afterwards as before; no condition. -/
import Derived.Test.YtclplacjgofccaaRows
import Derived.Test.YtclplacjgofccaaFulO
import Derived.WalkKit
import Derived.ProofKit
import Derived.OpenShut
import Derived.ShutString
import Derived.ChangeOld
import Derived.Below
import Derived.Deep.Slices
import Derived.Deep.Fields
import Derived.Lib.SmallJoins
namespace Go.Proofs.Ytclplacjgofccaa.shaperFull
open Go.ChangeShapes Go.WideShapes Go.ChangeAt Go.RowKit Go.Deep Go.Joins
open Go.ChangeMaps (open_string shut_string)
set_option linter.unusedVariables false

theorem own : ownKnob Try.prog.godebug = none := by kernel_rfl
theorem laidOut : laidOutB Try.prog = true := by kernel_rfl

theorem walk (a0 : Int) (c1 : Array Value) (z1 : Nat → Int) (a2 : Int) (w : World) (w0 : (Lit.int .u16 a0).wf = true) (w1 : c1.size = 9 ∧ (∀ j, j < 9 → (c1)[j]? = some (.int .u8 (z1 j))) ∧ ∀ j, 0 ≤ z1 j ∧ z1 j ≤ 255) (w2 : (Lit.int .u16 a2).wf = true) :
    Calls Try.prog 6 #[.int .u16 a0, .agg c1, .int .u16 a2] w fun e w' => e = .returned (.bool true) ∧ Below w.heap.size w w' := by
  exact ful_walk a0 a2 c1 z1 w (bounds_u16 w0) (bounds_u16 w2) w1.1 w1.2.1 w1.2.2

set_option maxRecDepth 100000 in
theorem lifted (os : Os) (started : os.Started) (H : Type) (enc : TypeId × Value → H) :
    ReturnsInHanded {} Try.checked os 6 .any (Rows.shaperFullSpec.pre6 enc Try.prog Try.f6 Rows.shaperFullRow.domain false) (Rows.shaperFullSpec.post enc Try.prog Try.f6 false true false false) := by
  refine returnsInHanded_of_change (C := Try.checked) own started (by kernel_rfl) Try.func6
    (ChangeSpec.witness6 (enc := enc) (C := Try.checked) false ⟨#[], #[.int .u16 0, .agg #[.int .u8 0, .int .u8 0, .int .u8 0, .int .u8 0, .int .u8 0, .int .u8 0, .int .u8 0, .int .u8 0, .int .u8 0], .int .u16 0], []⟩ 8 (by kernel_rfl) (by kernel_rfl) (by kernel_rfl) (by kernel_rfl)) ?_
  intro W base args ds gs before hval0 hW hcnd _
  have hval : ∀ (j : Nat) t v, Try.f6.params[j]? = some t → args[j]? = some v → Value.okWide Try.prog W .any base t v := hval0
  have hW' := hW
  obtain ⟨p, q, hA0, hV, rfl, hfz, hnd⟩ := hW
  have hA : DataW.TrodAll enc Try.prog W 0 (fun _ => true) true Try.f6.params.toList args.toList ds p := hA0
  rw [Try.params6] at hA hval
  obtain ⟨v0, vs0, d0, ds0, p0, q0, hargs, rfl, rfl, h0, r0⟩ := trodAll_cons hA
  obtain ⟨v1, vs1, d1, ds1, p1, q1, rfl, rfl, rfl, h1, r1⟩ := trodAll_cons r0
  obtain ⟨v2, vs2, d2, ds2, p2, q2, rfl, rfl, rfl, h2, r2⟩ := trodAll_cons r1
  obtain ⟨rfl, rfl, rfl⟩ := trodAll_nil r2
  obtain rfl : args = #[v0, v1, v2] := by cases args; simp_all
  obtain ⟨rfl, rfl⟩ := trodVars_none hV
  have k0 := h0
  have lt0 : ∀ x ∈ p0, x.block < W.heap.size := by obtain ⟨m, hm⟩ := k0; exact DataW.trod_lt m _ _ _ hm
  have k1 := h1
  have lt1 : ∀ x ∈ p1, x.block < W.heap.size := by obtain ⟨m, hm⟩ := k1; exact DataW.trod_lt m _ _ _ hm
  have k2 := h2
  have lt2 : ∀ x ∈ p2, x.block < W.heap.size := by obtain ⟨m, hm⟩ := k2; exact DataW.trod_lt m _ _ _ hm
  obtain ⟨a0, rfl, _, _, w0⟩ := open_int Try.underlying44 (hval 0 44 v0 rfl rfl) h0
  obtain ⟨c1, m1, hv1, hs1, he1⟩ := open_arrN Try.underlying50 (by kernel_rfl) (by kernel_rfl) (hval 1 50 v1 rfl rfl) h1
  obtain ⟨z1, hz1, hb1⟩ := bytes_of (cs := c1) (fun j hj => by obtain ⟨u, y, hu, hy⟩ := he1 j hj; obtain ⟨x, f, _, g⟩ := DataW.trod_int Try.underlying5 hy; simp only [List.cons.injEq, and_true] at f; subst f; exact ⟨x, hu, bounds_u8 g⟩)
  have w1 := And.intro hs1 (And.intro hz1 hb1)
  subst hv1
  obtain ⟨a2, rfl, _, _, w2⟩ := open_int Try.underlying44 (hval 2 44 v2 rfl rfl) h2
  clear hA0 hval0
  refine (walk a0 c1 z1 a2 W w0 w1 w2).mono fun e W' ⟨he, bel⟩ => ?_
  subst he
  exact ⟨_, rfl, _, _, _, [], _, [], hW', trodAll_mk1 (shut_bool Try.underlying4 _), (trodAll_cons_mk (Below.trod laidOut (by kernel_rfl) (of_decide_eq_true (by kernel_rfl)) k0 bel lt0) (trodAll_cons_mk (Below.trod laidOut (by kernel_rfl) (of_decide_eq_true (by kernel_rfl)) k1 bel lt1) (trodAll_cons_mk (Below.trod laidOut (by kernel_rfl) (of_decide_eq_true (by kernel_rfl)) k2 bel lt2) trodAll_mk0))), rfl, bel.frame _, fun h => by cases h⟩

theorem over : Rows.shaperFullRow.holds Try.pinned (OpenSpec.ofChange Rows.shaperFullSpec) :=
  OpenClaim.holds_of_wide 6 Try.f6 rfl rfl rfl rfl rfl rfl rfl ⟨rfl, rfl, rfl, rfl, rfl⟩ rfl rfl rfl rfl rfl (by kernel_rfl) Try.func6 (by kernel_rfl)
    (of_decide_eq_true (by kernel_rfl)) (by unfold Func.isWrapper; first | (rw [if_pos (by decide +kernel)]; kernel_rfl) | (rw [if_neg (by decide +kernel)]; exact ⟨rfl, rfl⟩))
    (fun os started H enc _ => lifted os started H enc)

theorem proved : Rows.ShaperFullSaid := over
#print axioms proved
end Go.Proofs.Ytclplacjgofccaa.shaperFull
