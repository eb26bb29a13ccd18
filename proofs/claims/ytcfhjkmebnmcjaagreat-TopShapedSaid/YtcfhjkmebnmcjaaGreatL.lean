/- A node's verdict on a cell of its one connection. -/
import Derived.Test.YtcfhjkmebnmcjaaGreatJc
import Derived.Test.YtcfhjkmebnmcjaaGreatK
namespace Go.Proofs.YtcfhjkmebnmcjaaGreat
open Go.RowKit Go.Shelf
set_option linter.unusedVariables false
set_option linter.unusedSimpArgs false
attribute [local go_sem] Oper.semAt_some

/-- What a node keeps of a connection: its contract, its policer. -/
abbrev connV (c : Ct) (pb : Nat) : Value := .agg #[.int .i64 c.k, .int .i64 c.p, .int .i64 c.e, .int .i64 c.w, .int .i64 c.b, .int .i64 c.l, .pointer (some ⟨pb, 0, none⟩)]
/-- A policer as a whole. -/
structure Po (W : World) (pb rg cap : Nat) (al : Bool) (rs : List Ru) (σ : Nat → Bk) : Prop where
  p : ∃ c, Pb W pb rg cap al rs.length c
  r : Rb W rg rs
  b : ∀ u ∈ rs, HasB W u.b (σ u.b)
  ok : ∀ b, (σ b).Ok
theorem Rb.lt {W : World} {rg : Nat} {rs : List Ru} (h : Rb W rg rs) : rg < W.heap.size := by obtain ⟨cur, h1, _⟩ := h; exact (Array.getElem?_eq_some_iff.1 h1).1
theorem Pb.lt {W : World} {pb rg cap n : Nat} {al : Bool} {c : Int × Int × Int × Int} (h : Pb W pb rg cap al n c) : pb < W.heap.size := (Array.getElem?_eq_some_iff.1 h.h).1
theorem Po.below {W W' : World} {pb rg cap : Nat} {al : Bool} {rs : List Ru} {σ : Nat → Bk} (h : Po W pb rg cap al rs σ) (hb : Below W.heap.size W W') : Po W' pb rg cap al rs σ := by
  refine ⟨?_, ?_, fun u hu => (hb.block u.b (h.b u hu).lt).trans (h.b u hu), h.ok⟩
  · obtain ⟨c, hc⟩ := h.p
    exact ⟨c, ⟨(hb.block pb hc.lt).trans hc.h⟩⟩
  · have hl := h.r.lt
    obtain ⟨cur, h1, h2⟩ := h.r
    exact ⟨cur, (hb.block rg hl).trans h1, h2⟩
/-- What a policer's step leaves as it was. -/
structure PoK (w W' : World) (pb : Nat) (rs : List Ru) : Prop where
  os : W'.os = w.os
  tape : W'.tape = w.tape
  output : W'.output = w.output
  size : w.heap.size ≤ W'.heap.size
  block : ∀ k, k < w.heap.size → k ≠ pb → (∀ u ∈ rs, k ≠ u.b) → W'.heap[k]? = w.heap[k]?
theorem PoK.after {w w1 W' : World} {pb : Nat} {rs : List Ru} (hb : Below w.heap.size w w1) (h : PoK w1 W' pb rs) : PoK w W' pb rs :=
  ⟨h.os.trans hb.os, h.tape.trans hb.tape, h.output.trans hb.output, Nat.le_trans hb.size h.size, fun k hk h1 h2 => (h.block k (Nat.lt_of_lt_of_le hk hb.size) h1 h2).trans (hb.block k hk)⟩

set_option maxRecDepth 100000 in
set_option maxHeartbeats 2000000 in
theorem nverdict_at (nb tb mp : Nat) (Lk : Value) (nx : Int) (c : Ct) (pb rg cap : Nat) (al : Bool) (rs : List Ru) (hn : rs.length ≤ 1000) (σ : Nat → Bk) (t : Int) (w : World)
    (hN : Nb w nb Lk tb mp nx) (hT : Tb w tb 1 50 355 true) (hM : w.heap[mp]? = some (one (connV c pb))) (hP : Po w pb rg cap al rs σ) (hf : ∀ u ∈ rs, fitB (σ u.b) t = true) :
    Calls Tryz.prog 52 #[.pointer (some ⟨nb, 0, none⟩), keyV 1 50, .int .i64 t, .int .i64 0] w fun e W' => e = .returned (.tuple #[.int .i64 (if al then 2 else 1), .bool true]) ∧ Po W' pb rg cap al rs (σp σ t rs) ∧ PoK w W' pb rs := by
  have HB0 := Lib.hid ((Below.refl w.heap.size w).alloc (Nat.le_refl _) (.cells #[.int .i64 1, .int .i64 0, .int .i64 50] 35))
  have hk := heap_new' w (o := .cells #[.int .i64 1, .int .i64 0, .int .i64 50] 35) rfl
  have hml : mp < w.heap.size := (Array.getElem?_eq_some_iff.1 hM).1
  have HF := Lib.hid (nfind_at nb tb mp Lk nx true _ (hN.below HB0.out) (hT.below HB0.out))
  have HT := Lib.hid (And.intro (hN.below HB0.out) (And.intro ((HB0.out.block mp hml).trans hM) (And.intro (hP.below HB0.out) (And.intro hf (Nat.lt_of_lt_of_le hml HB0.out.size)))))
  have k0 : (w.alloc (.cells #[.int .i64 1, .int .i64 0, .int .i64 50] 35)).cell? ⟨w.heap.size, 0, none⟩ = some (.int .i64 1) := by simp only [World.cell?, hk]; rfl
  have k1 : (w.alloc (.cells #[.int .i64 1, .int .i64 0, .int .i64 50] 35)).cell? ⟨w.heap.size, 1, none⟩ = some (.int .i64 0) := by simp only [World.cell?, hk]; rfl
  have k2 : (w.alloc (.cells #[.int .i64 1, .int .i64 0, .int .i64 50] 35)).cell? ⟨w.heap.size, 2, none⟩ = some (.int .i64 50) := by simp only [World.cell?, hk]; rfl
  clear hN hT hM hP hf hk hml
  obtain ⟨v, ev⟩ : ∃ v : Int, (if al then 2 else 1) = v := ⟨_, rfl⟩
  rw [ev]
  have hfd : ∀ W, (Instr.field 161 (connV c pb) 1).run Tryz.prog W = .ok (.pointer (some ⟨pb, 0, none⟩)) W := fun _ => by kernel_rfl
  go_enter Tryz.func52, Tryz.ntmps52
  go_wp2_with fail
  generalize w.alloc (.cells #[.int .i64 1, .int .i64 0, .int .i64 50] 35) = W at k0 k1 k2 HB0 HT HF ⊢
  go_wp2_with (first | (go_at_call 89; refine HF.out.mono ?_; rintro e w1 ⟨rfl, hb1⟩; have HB1 := Lib.hid hb1; clear hb1 k0 k1 k2; obtain ⟨_, d2, _, _⟩ := (HT.out.1.below HB1.out).at.2; have hlk := run_lookup_one Tryz.underlying98 Tryz.underlying3 ((HB1.out.block mp HT.out.2.2.2.2).trans HT.out.2.1)) |
    (go_at_call 90; obtain ⟨_, ⟨cc, hcc⟩⟩ : True ∧ ∃ cc, Pb w1 pb rg cap al rs.length cc := ⟨trivial, (HT.out.2.2.1.below HB1.out).p⟩; refine (ptake_at pb rg cap al cc rs hn σ t _ hcc (HT.out.2.2.1.below HB1.out).r (fun u hu => ⟨HT.out.2.2.1.ok u.b, (HT.out.2.2.1.below HB1.out).b u hu, HT.out.2.2.2.1 u hu⟩) HT.out.2.2.1.ok).mono ?_; rintro e w2 ⟨he, hp2, hr2, hb2, hk2⟩; have HP2 := Lib.hid (And.intro hp2 (And.intro hr2 (And.intro hb2 hk2))); rw [ev] at he; subst he; clear hp2 hr2 hb2 hk2 hcc))
  go_ret2
  obtain ⟨h1, h2, h3, o1, o2, o3, o4, o5⟩ := HP2.out
  exact ⟨rfl, ⟨h1, h2, h3, σp_ok HT.out.2.2.1.ok t rs⟩, PoK.after (HB0.out.trans (HB1.out.mono HB0.out.size)) ⟨o1, o2, o3, o4, o5⟩⟩

end Go.Proofs.YtcfhjkmebnmcjaaGreat
