/- A node's put, a node's Take. -/
import Derived.Test.YtcfhjkmebnmcjaaGreatO
import Derived.Test.YtcfhjkmebnmcjaaGreatMb
namespace Go.Proofs.YtcfhjkmebnmcjaaGreat
open Go.RowKit Go.Shelf
set_option linter.unusedVariables false
set_option linter.unusedSimpArgs false
attribute [local go_sem] Oper.semAt_some

/-- All but the blocks of a list are as they were. -/
structure KL (S : List Nat) (w w' : World) : Prop where
  os : w'.os = w.os
  tape : w'.tape = w.tape
  output : w'.output = w.output
  size : w.heap.size ≤ w'.heap.size
  block : ∀ k, k < w.heap.size → k ∉ S → w'.heap[k]? = w.heap[k]?
theorem KL.of_below {S : List Nat} {w w' : World} (h : Below w.heap.size w w') : KL S w w' := ⟨h.os, h.tape, h.output, h.size, fun k hk _ => h.block k hk⟩
theorem KL.refl (S : List Nat) (w : World) : KL S w w := ⟨rfl, rfl, rfl, Nat.le_refl _, fun _ _ _ => rfl⟩
theorem KL.trans {S : List Nat} {a b c : World} (h : KL S a b) (k : KL S b c) : KL S a c :=
  ⟨k.os.trans h.os, k.tape.trans h.tape, k.output.trans h.output, Nat.le_trans h.size k.size, fun i hi h1 => (k.block i (Nat.lt_of_lt_of_le hi h.size) h1).trans (h.block i hi h1)⟩
theorem KL.of_kept {S : List Nat} {p m : Nat} {w w' : World} (h : Kept p m w w') (hp : p ∈ S) (hm : m ∈ S) : KL S w w' :=
  ⟨h.os, h.tape, h.output, h.size, fun k hk h1 => h.block k hk (fun e => h1 (e ▸ hp)) (fun e => h1 (e ▸ hm))⟩
theorem KL.set {S : List Nat} {w : World} {p o : Nat} (v : Value) (hp : p ∈ S) : KL S w (w.setCell ⟨p, o, none⟩ v) :=
  ⟨rfl, rfl, rfl, by simp [World.setCell], fun k hk h1 => Below.heap_setCell _ _ _ _ (fun e => h1 (e ▸ hp))⟩
theorem KL.drew {S : List Nat} {a b : World} (h : KL S a b) : KL S a b.drew := ⟨h.os, h.tape, h.output, h.size, h.block⟩

theorem Po.same {W W' : World} {pb rg cap : Nat} {al : Bool} {rs : List Ru} {σ : Nat → Bk} (h : Po W pb rg cap al rs σ) (h1 : W'.heap[pb]? = W.heap[pb]?) (h2 : W'.heap[rg]? = W.heap[rg]?) (h3 : ∀ u ∈ rs, W'.heap[u.b]? = W.heap[u.b]?) : Po W' pb rg cap al rs σ := by
  refine ⟨?_, ?_, fun u hu => (h3 u hu).trans (h.b u hu), h.ok⟩
  · obtain ⟨c, hc⟩ := h.p
    exact ⟨c, ⟨h1.trans hc.h⟩⟩
  · obtain ⟨cur, hc, hr⟩ := h.r
    exact ⟨cur, h2.trans hc, hr⟩

/-- A new policer as a whole. -/
def sigOf (us : List Ru) : Nat → Bk := fun b => ((us.find? (fun u => u.b = b)).map (fun u => newBk u.r)).getD (newBk ⟨0, 0, false, false⟩)
theorem sigOf_at {us : List Ru} (hnd : (us.map (·.b)).Nodup) {u : Ru} (hu : u ∈ us) : sigOf us u.b = newBk u.r := by
  have hf : us.find? (fun x => x.b = u.b) = some u := by
    induction us with
    | nil => cases hu
    | cons a t ih =>
      rw [List.find?_cons]
      rcases List.mem_cons.1 hu with rfl | hu
      · simp
      · have hne : a.b ≠ u.b := fun e => by
          simp only [List.map_cons, List.nodup_cons] at hnd
          exact hnd.1 (e ▸ List.mem_map_of_mem hu)
        simp only [hne, decide_false]
        exact ih (by simp only [List.map_cons, List.nodup_cons] at hnd; exact hnd.2) hu
  unfold sigOf
  simp only [hf]
  rfl
/-- A new policer, from base B on. -/
structure Pn (B : Nat) (W : World) (pb rg cap : Nat) (al : Bool) (rl : List Rl) (us : List Ru) : Prop where
  po : Po W pb rg cap al us (sigOf us)
  rs : us.map (·.r) = rl
  nd : (us.map (·.b)).Nodup
  ge : B ≤ pb ∧ B ≤ rg ∧ ∀ u ∈ us, B ≤ u.b
theorem Mk.pn {w W : World} {pb k : Nat} {al : Bool} {v0 v : Value} {rl : List Rl} {us : List Ru} (h : Mk w W pb al v0 rl k v us) (hk : k = rl.length) (h0 : 0 < k) : ∃ rg cap, Pn w.heap.size W pb rg cap al rl us := by
  obtain ⟨rg, cap, h1, h2⟩ := h.po hk h0
  refine ⟨rg, cap, h2, h1, h.nd, h.pl, ?_, fun u hu => (h.b u hu).2⟩
  obtain ⟨c, hc⟩ := h2.p
  have h3 := hc.h
  rw [h.p] at h3
  simp only [Option.some.injEq, Obj.cells.injEq, Array.mk.injEq, List.cons.injEq] at h3
  obtain ⟨g, cap', e, hg, _⟩ := h.o.form h0
  have h4 := h3.1.2.1
  rw [e] at h4
  simp only [Value.slice.injEq, Option.some.injEq, Addr.mk.injEq] at h4
  omega
theorem rules_pos (c : Ct) : 0 < (rulesOf c).length := by unfold rulesOf; simp

set_option maxRecDepth 100000 in
set_option maxHeartbeats 4000000 in
theorem adput_at {nb tb mp : Nat} {Lk : Value} {nx : Int} {c : Ct} (hc : c.Ok) (w : World) (hN : Nb w nb Lk tb mp nx) (hM : w.heap[mp]? = some (.map #[] 0)) :
    Calls Tryz.prog 40 #[.pointer (some ⟨nb, 0, none⟩), .int .i64 0, c.v] w fun e w' => (∃ v, e = .returned v) ∧ ∃ pb rg cap us, Pn w.heap.size w' pb rg cap (c.k == 7) (rulesOf c) us ∧ w'.heap[mp]? = some (one (connV c pb)) ∧ KL [mp] w w' := by
  have HB0 := Lib.hid ((Below.refl w.heap.size w).alloc (Nat.le_refl _) (.cells #[.int .i64 c.k, .int .i64 c.p, .int .i64 c.e, .int .i64 c.w, .int .i64 c.b, .int .i64 c.l] 23))
  have hk := heap_new' w (o := .cells #[.int .i64 c.k, .int .i64 c.p, .int .i64 c.e, .int .i64 c.w, .int .i64 c.b, .int .i64 c.l] 23) rfl
  have hml : mp < w.heap.size := (Array.getElem?_eq_some_iff.1 hM).1
  have hsz : w.heap.size < (w.alloc (.cells #[.int .i64 c.k, .int .i64 c.p, .int .i64 c.e, .int .i64 c.w, .int .i64 c.b, .int .i64 c.l] 23)).heap.size := by simp
  have HC := Lib.hid (And.intro hc (And.intro (hN.below HB0.out) (And.intro ((HB0.out.block mp hml).trans hM) hml)))
  obtain ⟨al, ea⟩ : ∃ al, (c.k == 7) = al := ⟨_, rfl⟩
  obtain ⟨rl, erl⟩ : ∃ rl, rulesOf c = rl := ⟨_, rfl⟩
  have hpn := fun W => pnew_at c hc W
  have hrp := rules_pos c
  rw [ea, erl] at *
  have HPN := Lib.hid (And.intro hpn hrp)
  clear hc hN hM hml ea erl hpn hrp
  go_enter Tryz.func40, Tryz.ntmps40
  go_wp2_with fail
  generalize w.alloc (.cells #[.int .i64 c.k, .int .i64 c.p, .int .i64 c.e, .int .i64 c.w, .int .i64 c.b, .int .i64 c.l] 23) = W at HB0 HC hk hsz ⊢
  refine (HPN.out.1 _).mono ?_
  rintro e w1 ⟨pb, v, us, rfl, v0, hm1⟩
  obtain ⟨rg, cap, hpn⟩ := hm1.pn rfl HPN.out.2
  have hb1 := hm1.bel
  have HP := Lib.hid (And.intro hpn hb1)
  clear hm1 hpn
  go_wp2_with fail
  have hn1 := HC.out.2.1.below hb1
  have d2 : w1.cell? ⟨nb, 2, none⟩ = some (.map (some mp)) := hn1.at.2.2.1
  obtain ⟨a0, a1, a2, a3, a4, a5⟩ := at6 ((hb1.block w.heap.size hsz).trans hk)
  have hlm := run_update_one (W := w1.drew) Tryz.underlying98 Tryz.underlying3 ((hb1.block mp (Nat.lt_of_lt_of_le HC.out.2.2.2 HB0.out.size)).trans HC.out.2.2.1) (connV c pb)
  clear hn1 hb1
  go_still_tail 8, (by kernel_rfl)
  change wpList _ _ _ _ _ w1.drew
  go_wp2_with fail
  go_end0
  have hm0 : mp < w1.heap.size := Nat.lt_of_lt_of_le HC.out.2.2.2 (Nat.le_trans HB0.out.size HP.out.2.size)
  have hb01 := HB0.out.trans (HP.out.2.mono HB0.out.size)
  have ho : ∀ k, k ≠ mp → (w1.drew.putObj mp (one (connV c pb))).heap[k]? = w1.heap[k]? := fun k hk => World.putObj_heap_other hk
  have hge := HP.out.1.ge
  have hws := HB0.out.size
  have hmw := HC.out.2.2.2
  refine ⟨⟨_, rfl⟩, pb, rg, cap, us, ⟨HP.out.1.po.same (ho _ (by omega)) (ho _ (by omega)) (fun u hu => ho _ (by have := hge.2.2 u hu; omega)), HP.out.1.rs, HP.out.1.nd, by omega, by omega, fun u hu => Nat.le_trans hws (hge.2.2 u hu)⟩, World.putObj_heap_same hm0, ⟨hb01.os, hb01.tape, hb01.output, by simpa using hb01.size, fun k hk h1 => (ho k (by simpa using h1)).trans (hb01.block k hk)⟩⟩

end Go.Proofs.YtcfhjkmebnmcjaaGreat
