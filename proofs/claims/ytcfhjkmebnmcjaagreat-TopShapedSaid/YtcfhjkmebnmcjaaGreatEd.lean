/- The contract of cell.Build, at the cells that come. -/
import Derived.Test.YtcfhjkmebnmcjaaGreatEb
import Derived.Test.YtcfhjkmebnmcjaaGreatEc
import Derived.StillTailTactics
namespace Go.Proofs.YtcfhjkmebnmcjaaGreat
open Go.RowKit
set_option linter.unusedVariables false
set_option linter.unusedSimpArgs false
attribute [local go_sem] Oper.semAt_some

/-- A header's bytes and their check. -/
structure Hd (vci clp x y r : Int) : Prop where
  v : vci = 40 ∨ vci = 50
  c : clp = 0 ∨ clp = 1
  h : hb4 vci clp = [0, 0, x, y]
  x0 : 0 ≤ x ∧ x ≤ 255
  y0 : 0 ≤ y ∧ y ≤ 255
  r : eightN [0, 0, x, y] = r
theorem hd40 : Hd 40 0 2 128 246 := ⟨.inl rfl, .inl rfl, by decide, by decide, by decide, by decide +kernel⟩
theorem hd50 : Hd 50 0 3 32 138 := ⟨.inr rfl, .inl rfl, by decide, by decide, by decide, by decide +kernel⟩
theorem hd51 : Hd 50 1 3 33 141 := ⟨.inr rfl, .inr rfl, by decide, by decide, by decide, by decide +kernel⟩
theorem x246 : bits BinOp.xor IntKind.u8 246 246 = 0 := by decide

/-- A cell's bytes. -/
def cellB (x y r : Int) : List Value := [.int .u8 0, .int .u8 0, .int .u8 x, .int .u8 y, .int .u8 r] ++ List.replicate 48 (.int .u8 0)

theorem at2 {W : World} {g : Nat} {a b : Value} {t : TypeId} (h : W.heap[g]? = some (.cells #[a, b] t (0, 0))) :
    W.cell? ⟨g, 0, none⟩ = some a ∧ W.cell? ⟨g, 1, none⟩ = some b := by
  refine ⟨?_, ?_⟩ <;> simp [World.cell?, h]

theorem own_base {W : World} {B B' : Nat} {e : TypeId} {size n : Nat} {v : Value} {xs : List Value} (h : W.ownsRow B e size v n xs) (hB : B' ≤ B) : W.ownsRow B' e size v n xs := by
  refine ⟨h.1, ?_⟩
  rcases h.2 with h2 | ⟨g, cap, cur, h1, h2, h3⟩
  · exact .inl h2
  · exact .inr ⟨g, cap, cur, h1, Nat.le_trans hB h2, h3⟩

theorem pay_at {W : World} {b : Nat} {h0 h1 h2 h3 h4 : Value} {t : TypeId} (h : W.heap[b]? = some (.cells #[h0, h1, h2, h3, h4, .int .u8 0, .int .u8 0, .int .u8 0, .int .u8 0, .int .u8 0, .int .u8 0, .int .u8 0, .int .u8 0, .int .u8 0, .int .u8 0, .int .u8 0, .int .u8 0, .int .u8 0, .int .u8 0, .int .u8 0, .int .u8 0, .int .u8 0, .int .u8 0, .int .u8 0, .int .u8 0, .int .u8 0, .int .u8 0, .int .u8 0, .int .u8 0, .int .u8 0, .int .u8 0, .int .u8 0, .int .u8 0, .int .u8 0, .int .u8 0, .int .u8 0, .int .u8 0, .int .u8 0, .int .u8 0, .int .u8 0, .int .u8 0, .int .u8 0, .int .u8 0, .int .u8 0, .int .u8 0, .int .u8 0, .int .u8 0, .int .u8 0, .int .u8 0, .int .u8 0, .int .u8 0, .int .u8 0, .int .u8 0] t (0, 0))) : ∀ j u, (List.replicate 48 (Value.int .u8 0))[j]? = some u → W.cell? ((⟨b, 5, none⟩ : Addr).add j) = some u := by
  intro j u hu
  have e : (⟨b, 5, none⟩ : Addr).add j = ⟨b, 5 + j, none⟩ := by unfold Addr.add; split <;> simp_all
  have hl : (#[h0, h1, h2, h3, h4, .int .u8 0, .int .u8 0, .int .u8 0, .int .u8 0, .int .u8 0, .int .u8 0, .int .u8 0, .int .u8 0, .int .u8 0, .int .u8 0, .int .u8 0, .int .u8 0, .int .u8 0, .int .u8 0, .int .u8 0, .int .u8 0, .int .u8 0, .int .u8 0, .int .u8 0, .int .u8 0, .int .u8 0, .int .u8 0, .int .u8 0, .int .u8 0, .int .u8 0, .int .u8 0, .int .u8 0, .int .u8 0, .int .u8 0, .int .u8 0, .int .u8 0, .int .u8 0, .int .u8 0, .int .u8 0, .int .u8 0, .int .u8 0, .int .u8 0, .int .u8 0, .int .u8 0, .int .u8 0, .int .u8 0, .int .u8 0, .int .u8 0, .int .u8 0, .int .u8 0, .int .u8 0, .int .u8 0, .int .u8 0] : Array Value).toList = [h0, h1, h2, h3, h4] ++ List.replicate 48 (Value.int .u8 0) := rfl
  rw [e]
  simp only [World.cell?, h]
  have hj : (#[h0, h1, h2, h3, h4, .int .u8 0, .int .u8 0, .int .u8 0, .int .u8 0, .int .u8 0, .int .u8 0, .int .u8 0, .int .u8 0, .int .u8 0, .int .u8 0, .int .u8 0, .int .u8 0, .int .u8 0, .int .u8 0, .int .u8 0, .int .u8 0, .int .u8 0, .int .u8 0, .int .u8 0, .int .u8 0, .int .u8 0, .int .u8 0, .int .u8 0, .int .u8 0, .int .u8 0, .int .u8 0, .int .u8 0, .int .u8 0, .int .u8 0, .int .u8 0, .int .u8 0, .int .u8 0, .int .u8 0, .int .u8 0, .int .u8 0, .int .u8 0, .int .u8 0, .int .u8 0, .int .u8 0, .int .u8 0, .int .u8 0, .int .u8 0, .int .u8 0, .int .u8 0, .int .u8 0, .int .u8 0, .int .u8 0, .int .u8 0] : Array Value)[5 + j]? = some u := by
    rw [← Array.getElem?_toList, hl, List.getElem?_append_right (by simp)]
    simpa using hu
  simpa using hj

set_option maxRecDepth 100000 in
set_option maxHeartbeats 4000000 in
theorem build_at {vci clp x y r : Int} (H : Hd vci clp x y r) (w : World) : Calls Tryz.prog 33 #[cellV vci clp, .bool false] w fun e w' => ∃ v, e = .returned (.tuple #[v, .int .i64 0]) ∧ w'.ownsRow w.heap.size 5 1 v 53 (cellB x y r) ∧ Below w.heap.size w w' := by
  have HB0 := Lib.hid ((Below.refl w.heap.size w).alloc (Nat.le_refl _) (.cells #[.int .i64 0, .int .i64 0, .int .i64 vci, .int .i64 0, .int .i64 clp, .int .u8 0, .int .u8 0, .int .u8 0, .int .u8 0, .int .u8 0, .int .u8 0, .int .u8 0, .int .u8 0, .int .u8 0, .int .u8 0, .int .u8 0, .int .u8 0, .int .u8 0, .int .u8 0, .int .u8 0, .int .u8 0, .int .u8 0, .int .u8 0, .int .u8 0, .int .u8 0, .int .u8 0, .int .u8 0, .int .u8 0, .int .u8 0, .int .u8 0, .int .u8 0, .int .u8 0, .int .u8 0, .int .u8 0, .int .u8 0, .int .u8 0, .int .u8 0, .int .u8 0, .int .u8 0, .int .u8 0, .int .u8 0, .int .u8 0, .int .u8 0, .int .u8 0, .int .u8 0, .int .u8 0, .int .u8 0, .int .u8 0, .int .u8 0, .int .u8 0, .int .u8 0, .int .u8 0, .int .u8 0] 87))
  have HP := Lib.hid (fun w => hpack_at vci clp H.v H.c w)
  have HS := Lib.hid (fun w => seal_at x y r H.x0 H.y0 H.r w)
  have HH := Lib.hid H
  clear H
  go_enter Tryz.func33, Tryz.ntmps33
  go_wp2_with fail
  refine (HP.out _).mono ?_
  rintro e w1 ⟨b, rfl, hbs, hbh, hb1⟩
  rw [HH.out.h] at hbh
  have hbh' : w1.heap[b]? = some (.cells #[.int .u8 0, .int .u8 0, .int .u8 x, .int .u8 y] 5 (0, 0)) := hbh
  have HB1 := Lib.hid (HB0.out.trans (hb1.mono (by simp)))
  have hsz : w.heap.size + 1 ≤ w1.heap.size := by have := hb1.size; simpa using this
  have k0 := (hb1.block w.heap.size (by simp)).trans (heap_new' _ rfl)
  obtain ⟨c0, c1, c2, c3⟩ := at4 hbh'
  have HK := Lib.hid (And.intro k0 hbh')
  have hA := fun W => run_arrayAt (P := Tryz.prog) (w := W) 122 5 4 (some ⟨b, 0, none⟩) 4 4 Tryz.underlying122 (by omega)
  clear hb1 k0 hbh hbh' hbs
  go_wp2_with fail
  refine (HS.out _).mono ?_
  rintro e w2 ⟨rfl, hb2⟩
  have HB2 := Lib.hid (HB1.out.trans (hb2.mono (by omega)))
  have hsz2 : w.heap.size + 1 ≤ w2.heap.size := by have := hb2.size; omega
  have k1 := (hb2.block w.heap.size (by omega)).trans HK.out.1
  have HK2 := Lib.hid k1
  clear hb2 k1 c0 c1 c2 c3 hA
  go_wp2_with fail
  have k2 : (w2.alloc (.cells #[.int .u8 0, .int .u8 0, .int .u8 x, .int .u8 y, .int .u8 r] 125)).drew.heap[w2.heap.size]? = some (.cells #[.int .u8 0, .int .u8 0, .int .u8 x, .int .u8 y, .int .u8 r] 125 (0, 0)) := heap_new' _ rfl
  have k3 := (Below.heap_alloc w2 (.cells #[.int .u8 0, .int .u8 0, .int .u8 x, .int .u8 y, .int .u8 r] 125) w.heap.size (by omega)).trans HK2.out
  have HB3 := Lib.hid ((HB2.out.alloc (by omega) (.cells #[.int .u8 0, .int .u8 0, .int .u8 x, .int .u8 y, .int .u8 r] 125)).drew)
  have hs3 : (w2.alloc (.cells #[.int .u8 0, .int .u8 0, .int .u8 x, .int .u8 y, .int .u8 r] 125)).drew.heap.size = w2.heap.size + 1 := by simp [World.drew]
  go_still_tail 3, (by kernel_rfl)
  change wpList _ _ _ _ _ (w2.alloc (.cells #[.int .u8 0, .int .u8 0, .int .u8 x, .int .u8 y, .int .u8 r] 125)).drew
  obtain ⟨g, eg⟩ : ∃ g, w2.heap.size = g := ⟨_, rfl⟩
  rw [eg] at k2 hs3 hsz2 ⊢
  have k3' : (w2.alloc (.cells #[.int .u8 0, .int .u8 0, .int .u8 x, .int .u8 y, .int .u8 r] 125)).drew.heap[w.heap.size]? = _ := k3
  generalize (w2.alloc (.cells #[.int .u8 0, .int .u8 0, .int .u8 x, .int .u8 y, .int .u8 r] 125)).drew = w3 at k2 k3' hs3 HB3 ⊢
  have HK3 := Lib.hid (And.intro k2 (And.intro k3' hs3))
  clear k2 k3 k3' eg HK2 HB2 hs3
  go_wp2_with fail
  have hs3 := HK3.out.2.2
  have m0 := heap_new' w3 (o := .cells #[.slice (some ⟨g, 0, none⟩) 5 5, .slice (some ⟨w.heap.size, 5, none⟩) 48 48] 43) rfl
  have m1 := (Below.heap_alloc w3 (.cells #[.slice (some ⟨g, 0, none⟩) 5 5, .slice (some ⟨w.heap.size, 5, none⟩) 48 48] 43) g (by omega)).trans HK3.out.1
  have m2 := (Below.heap_alloc w3 (.cells #[.slice (some ⟨g, 0, none⟩) 5 5, .slice (some ⟨w.heap.size, 5, none⟩) 48 48] 43) w.heap.size (by omega)).trans HK3.out.2.1
  have n1 := World.news_of_block (cs := #[.int .u8 0, .int .u8 0, .int .u8 x, .int .u8 y, .int .u8 r]) m1
  have n2 := pay_at m2
  have q1 : ∀ u ∈ ([.int .u8 0, .int .u8 0, .int .u8 x, .int .u8 y, .int .u8 r] : List Value), u.oneCell' = true := (by simp [Value.oneCell'])
  have q2 : ∀ u ∈ List.replicate 48 (Value.int .u8 0), u.oneCell' = true := by intro u hu; rw [List.eq_of_mem_replicate hu]; rfl
  have r0 : (w3.alloc (.cells #[.slice (some ⟨g, 0, none⟩) 5 5, .slice (some ⟨w.heap.size, 5, none⟩) 48 48] 43)).cell? ⟨w3.heap.size, 0, none⟩ = some (.slice (some ⟨g, 0, none⟩) 5 5) := (at2 m0).1
  have r1 : (w3.alloc (.cells #[.slice (some ⟨g, 0, none⟩) 5 5, .slice (some ⟨w.heap.size, 5, none⟩) 48 48] 43)).cell? ⟨w3.heap.size, 1, none⟩ = some (.slice (some ⟨w.heap.size, 5, none⟩) 48 48) := (at2 m0).2
  have hcc := concat_at w3.heap.size g w.heap.size 5 _ _ rfl (by rw [List.length_replicate]) q1 q2 _ (by simp) (by simp; omega) (by simp; omega) r0 r1 n1 n2
  have HCC := Lib.hid hcc
  clear hcc n1 n2 q1 q2 r0 r1 m0 m1 m2
  refine HCC.out.mono ?_
  rintro e w5 ⟨v, rfl, hown, hb5⟩
  have HO := Lib.hid (And.intro hown hb5)
  have HS3 := Lib.hid (And.intro hs3 (And.intro hsz hsz2))
  clear hown hb5 hs3 hsz hsz2
  go_wp2_with fail
  go_ret2
  have q9 := HS3.out.1
  have q8 := HS3.out.2.2
  exact ⟨v, rfl, own_base HO.out.1 (by simp; omega), (HB3.out.alloc (by omega) _).trans (HO.out.2.mono (by simp; omega))⟩

end Go.Proofs.YtcfhjkmebnmcjaaGreat
