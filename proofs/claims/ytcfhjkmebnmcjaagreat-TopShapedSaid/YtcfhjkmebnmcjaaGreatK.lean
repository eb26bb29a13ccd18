/- A map of one entry, by number; a node's find. -/
import Derived.Test.YtcfhjkmebnmcjaaGreatGb
import Derived.MapKept
import Derived.RangeFuncRecord
namespace Go.Proofs.YtcfhjkmebnmcjaaGreat
open Go.RowKit
set_option linter.unusedVariables false
set_option linter.unusedSimpArgs false
attribute [local go_sem] Oper.semAt_some

/-- A map that has an entry for the number 0. -/
abbrev one (v : Value) : Obj := .map #[{ key := .int .i64 0, val := v, born := 0 }] 1

theorem run_update_one {P : Program} {W : World} {t kt et : TypeId} {m : Nat} (ht : P.underlying t = some (.map kt et)) (hk : P.underlying kt = some (.int .i64)) (h : W.heap[m]? = some (.map #[] 0)) (v : Value) :
    (Instr.mapUpdate t (.map (some m)) (.int .i64 0) v).run P W = .ok () (W.putObj m (one v)) := by
  have hf : Instr.findNow (.int .i64) (.int .i64 0) ([] : List MapEntry) 0 = some none := rfl
  have hc : (Instr.checkKey false 10000 kt (.int .i64 0)).run P W = .ok () W := MapKept.run_checkKey (k := .int .i64 0) hk (by simp [MapKept.IsKey]) false 9999
  simp [Instr.mapUpdate, run_underlying ht, MapKept.run_getObj_map h, hc, MapKept.run_findKey hk hf, MapKept.run_setObj_map _ h, Result.andThen, World.putObj]

theorem run_lookup_one {P : Program} {W : World} {t kt et : TypeId} {m : Nat} {v : Value} (ht : P.underlying t = some (.map kt et)) (hk : P.underlying kt = some (.int .i64)) (h : W.heap[m]? = some (one v)) :
    (Instr.lookup t (.map (some m)) (.int .i64 0) false).run P W = .ok v W := by
  have hf : Instr.findNow (.int .i64) (.int .i64 0) [{ key := .int .i64 0, val := v, born := 0 }] 0 = some (some (0, v)) := by simp [Instr.findNow, Instr.sameNow]
  have hc : (Instr.checkKey false 10000 kt (.int .i64 0)).run P W = .ok () W := MapKept.run_checkKey (k := .int .i64 0) hk (by simp [MapKept.IsKey]) false 9999
  simp [Instr.lookup, run_underlying ht, MapKept.run_getObj_map h, hc, MapKept.run_findKey hk hf, Result.andThen]

/-- A look-up in a map that has nothing. -/
theorem run_lookup_none {P : Program} {W : World} {t kt et : TypeId} {m c : Nat} {z : Value} (ht : P.underlying t = some (.map kt et)) (hk : P.underlying kt = some (.int .i64)) (hz : (zeroValue et).run P W = .ok z W) (h : W.heap[m]? = some (.map #[] c)) :
    (Instr.lookup t (.map (some m)) (.int .i64 0) false).run P W = .ok z W := by
  have hf : Instr.findNow (.int .i64) (.int .i64 0) ([] : List MapEntry) 0 = some none := rfl
  have hc : (Instr.checkKey true 10000 kt (.int .i64 0)).run P W = .ok () W := MapKept.run_checkKey (k := .int .i64 0) hk (by simp [MapKept.IsKey]) true 9999
  simp [Instr.lookup, run_underlying ht, MapKept.run_getObj_map h, hc, MapKept.run_findKey hk hf, hz, Result.andThen]

/-- A node's block. -/
def Nb (W : World) (nb : Nat) (L : Value) (tb mp : Nat) (nx : Int) : Prop := W.heap[nb]? = some (.cells #[L, .pointer (some ⟨tb, 0, none⟩), .map (some mp), .int .i64 nx] 101 (0, 0))
theorem Nb.at {W : World} {nb tb mp : Nat} {L : Value} {nx : Int} (h : Nb W nb L tb mp nx) : W.cell? ⟨nb, 0, none⟩ = some L ∧ W.cell? ⟨nb, 1, none⟩ = some (.pointer (some ⟨tb, 0, none⟩)) ∧ W.cell? ⟨nb, 2, none⟩ = some (.map (some mp)) ∧ W.cell? ⟨nb, 3, none⟩ = some (.int .i64 nx) ∧ ∀ o, W.frozen? ⟨nb, o, none⟩ = false := by
  unfold Nb at h
  exact ⟨by simp [World.cell?, h], by simp [World.cell?, h], by simp [World.cell?, h], by simp [World.cell?, h], fun o => by simp [World.frozen?, h]⟩
theorem Nb.lt {W : World} {nb tb mp : Nat} {L : Value} {nx : Int} (h : Nb W nb L tb mp nx) : nb < W.heap.size := (Array.getElem?_eq_some_iff.1 h).1
theorem Nb.below {W W' : World} {nb tb mp : Nat} {L : Value} {nx : Int} (h : Nb W nb L tb mp nx) (hb : Below W.heap.size W W') : Nb W' nb L tb mp nx := (hb.block nb h.lt).trans h

set_option maxRecDepth 100000 in
set_option maxHeartbeats 2000000 in
theorem nfind_at (nb tb mp : Nat) (L : Value) (nx : Int) (u : Bool) (w : World) (hN : Nb w nb L tb mp nx) (hT : Tb w tb 1 50 355 u) : Calls Tryz.prog 89 #[.pointer (some ⟨nb, 0, none⟩), keyV 1 50] w fun e w' => e = .returned (.tuple #[.int .i64 0, .bool u]) ∧ Below w.heap.size w w' := by
  have HB0 := Lib.hid (((Below.refl w.heap.size w).alloc (Nat.le_refl _) (.cells #[.int .i64 1, .int .i64 0, .int .i64 50] 35)).drew)
  have hk := heap_new' w (o := .cells #[.int .i64 1, .int .i64 0, .int .i64 50] 35) rfl
  have hN1 := hN.below HB0.out
  have hT1 := hT.below HB0.out
  have HT := Lib.hid (And.intro hT1 hN1)
  have hlt := hN.lt
  have c1 := (hN.below ((Below.refl w.heap.size w).alloc (Nat.le_refl _) (.cells #[.int .i64 1, .int .i64 0, .int .i64 50] 35))).at.2.1
  have k0 : (w.alloc (.cells #[.int .i64 1, .int .i64 0, .int .i64 50] 35)).cell? ⟨w.heap.size, 0, none⟩ = some (.int .i64 1) := by simp only [World.cell?, hk]; rfl
  have k1 : (w.alloc (.cells #[.int .i64 1, .int .i64 0, .int .i64 50] 35)).cell? ⟨w.heap.size, 1, none⟩ = some (.int .i64 0) := by simp only [World.cell?, hk]; rfl
  have k2 : (w.alloc (.cells #[.int .i64 1, .int .i64 0, .int .i64 50] 35)).cell? ⟨w.heap.size, 2, none⟩ = some (.int .i64 50) := by simp only [World.cell?, hk]; rfl
  clear hN hT hk hN1 hT1
  go_enter Tryz.func89, Tryz.ntmps89
  go_wp2_with fail
  have hsz : w.heap.size < (w.alloc (.cells #[.int .i64 1, .int .i64 0, .int .i64 50] 35)).heap.size := by simp
  generalize w.alloc (.cells #[.int .i64 1, .int .i64 0, .int .i64 50] 35) = W at c1 k0 k1 k2 HB0 HT hsz ⊢
  have hnb : nb < W.heap.size := by omega
  have HS := Lib.hid (show ∀ X, Below W.heap.size W X → X.cell? ⟨nb, 1, none⟩ = some (.pointer (some ⟨tb, 0, none⟩)) ∧ X.cell? ⟨w.heap.size, 0, none⟩ = some (.int .i64 1) ∧ X.cell? ⟨w.heap.size, 1, none⟩ = some (.int .i64 0) ∧ X.cell? ⟨w.heap.size, 2, none⟩ = some (.int .i64 50) from fun X hX =>
    ⟨(hX.cell (p := ⟨nb, 1, none⟩) hnb).trans c1, (hX.cell (p := ⟨w.heap.size, 0, none⟩) hsz).trans k0, (hX.cell (p := ⟨w.heap.size, 1, none⟩) hsz).trans k1, (hX.cell (p := ⟨w.heap.size, 2, none⟩) hsz).trans k2⟩)
  have hWd : Gs w W W.drew := ⟨HB0.out, hsz, (Below.refl _ _).drew⟩
  go_region_held3 (fun X => X.cell? ⟨nb, 1, none⟩ = some (.pointer (some ⟨tb, 0, none⟩)) ∧ X.cell? ⟨w.heap.size, 0, none⟩ = some (.int .i64 1) ∧ X.cell? ⟨w.heap.size, 1, none⟩ = some (.int .i64 0) ∧ X.cell? ⟨w.heap.size, 2, none⟩ = some (.int .i64 50)) (first | (with_reducible exact ⟨by assumption, by assumption, by assumption, by assumption⟩) | (with_reducible exact HS.out _ (Gs.bel (by assumption))))
    (first | (go_at_call 35; refine (tget_at ks50 tb _ HT.out.1).mono ?_; rintro e w1 ⟨rfl, hb1⟩; have hG1 : Gs w W w1 := Gs.next hWd hb1; obtain ⟨j0, j1, j2, j3⟩ := HS.out _ hG1.bel))
  have HB1 := Lib.hid hG1.b0
  clear hG1 hb1 j0 j1 j2 j3 c1 k0 k1 k2
  go_wp2_with fail
  go_ret2
  exact ⟨rfl, HB1.out⟩

end Go.Proofs.YtcfhjkmebnmcjaaGreat
