/- The library's contracts at hand; All; what it hands back. -/
import Derived.Test.YthgjccbmfbileaaT
import Derived.Test.YthgjccbmfbileaaL
namespace Go.Proofs.Ythgjccbmfbileaa
open Go.RowKit Go.Maps Go.Shelf Go.Sort
set_option linter.unusedVariables false
set_option linter.unusedSimpArgs false
attribute [local go_sem] Oper.semAt_some

theorem clone_in : CloneC := fun b L W hown => by
  refine callsIn_wide.2 ((AnyW.maps_Clone_owns clone31 3 (plainElem Try.prog 3) b L.length (dm L) W hown).mono ?_)
  rintro e w' ⟨rfl, h1, _, h3⟩
  exact ⟨rfl, h1, h3⟩
theorem keys_in : KeysC := fun mb W => AnyZI.keys_in keys33 Fence.wide 5 trivial rfl mb W

theorem sortsA (m : Nat) : AnyZI.SortsIn Try.prog sorted32_ren Fence.wide m :=
  ⟨fun blk off cap ss W hH hblk hsz => callsIn_wide.2 (AnyM.slices_Sort_int sort36 blk off cap ss W hH hblk hsz),
   fun p cap W => callsIn_wide.2 (AnyM.slices_Sort_int_none sort36 p cap W)⟩

theorem sort_in : SortC := fun b bx L W hs hlen hbx hbox hown => by
  have hsz : Maps.size (dm L) = L.length := size_dm L
  have hseq : SeqGives Fence.wide 2 Try.prog 37 #[.pointer (some ⟨bx, 0, none⟩)] encZ (fun ss => ss.Perm (intKeys (dm L))) (Maps.size (dm L)) W :=
    AnyZI.keys_gives (ρ := keys33_ren) { keys33 with } Fence.wide _ trivial rfl (by omega) bx b L.length (dm L) _ hbx hbox hown
  have cS := AnyZI.sorted_in sorted32 Fence.wide 5 trivial trivial trivial trivial rfl (by omega) (sortsA _) (enters_of Try.func36 (by kernel_rfl) rfl) 37 #[.pointer (some ⟨bx, 0, none⟩)] trivial (enters_of Try.func37 (by kernel_rfl) rfl) _ _ (by rw [hsz]; unfold maxLen; omega) (by rw [hsz]; omega) _ hseq
  change CallsIn _ _ Try.prog 32 _ _ _ at cS
  refine cS.mono ?_
  rintro e w' ⟨v, ss, rfl, hp, hrow, _, hb⟩
  rw [keys_of] at hp
  refine ⟨v, rfl, ?_, hb⟩
  rw [sort_keys hs hp] at hrow
  have hl : ss.length = L.length := by rw [hp.length_eq, List.length_map]
  rw [hl, List.map_map] at hrow
  exact hrow

/-- 'All' boxes the ledger. -/
theorem All_in (n : Nat) (v : Option Addr) (W : World) : CallsIn Fence.wide n Try.prog 25 #[.pointer v] W fun e w' => e = .returned (.func (.func 30) #[] #[.pointer (some ⟨W.heap.size, 0, none⟩)]) ∧ w' = W.alloc (.cells #[.pointer v] 24) := by
  refine callsIn_of_wp Try.func25 rfl trivial ?_ rfl
  simp only [Try.ntmps25, List.size_toArray, List.length_cons, List.length_nil, Nat.reduceAdd, Nat.reduceSub, Array.replicate_succ, Array.replicate_zero, List.push_toArray, List.append_toArray, List.nil_append, List.cons_append]
  gi_wp2
  go_ret
  exact ⟨rfl, rfl⟩

theorem HasL.below {W W' : World} {p m : Nat} {x : Lg} (h : HasL W p m x) (hb : Below W.heap.size W W') : HasL W' p m x := ⟨(hb.block p h.lt).trans h.cells, ownsMap_below h.own hb⟩

/-- WHAT 'All' HANDS BACK. -/
theorem all_stops (Bn p m : Nat) (x : Lg) (hx : x.Ok) (hlen : x.L.length ≤ 1000) (ys : List I64P) (hys : ys.map (·.1) = x.L) (w : World) (hBn : Bn < w.heap.size) (hbox : w.cell? ⟨Bn, 0, none⟩ = some (.pointer (some ⟨p, 0, none⟩))) (h : HasL w p m x) :
    SeqStopsK Fence.wide 6 Try.prog 30 #[.pointer (some ⟨Bn, 0, none⟩)] encP (KpB w.heap.size) (fun xs => xs = ys) (fun pre => pre <+: ys) ys.length w := fun l J Jx W hW hJ _ hY h0 =>
  all1_in clone_in keys_in sort_in l Bn w.heap.size p m x hx hlen ys hys J Jx W hW.size ((hW.cell (p := ⟨Bn, 0, none⟩) hBn).trans hbox) (h.below hW) hJ hY h0

/-- Of no ledger: nothing. -/
theorem all1_nil (l Bn : Nat) (J Jx : List I64P → World → Prop) (W : World) (hbox : W.cell? ⟨Bn, 0, none⟩ = some (.pointer none)) (h0 : J [] W) :
    CallsIn Fence.wide 6 Try.prog 30 #[.func (.yield l) #[] #[], .pointer (some ⟨Bn, 0, none⟩)] W fun e W' => (∃ v, e = .returned v) ∧
      ((∃ xs, xs = [] ∧ J xs W') ∨ (∃ pre, pre <+: [] ∧ Jx pre W')) := by
  refine callsIn_of_wp Try.func30 rfl trivial ?_ rfl
  simp only [Try.ntmps30, List.size_toArray, List.length_cons, List.length_nil, Nat.reduceAdd, Nat.reduceSub, Array.replicate_succ, Array.replicate_zero, List.push_toArray, List.append_toArray, List.nil_append, List.cons_append]
  gi_wp2_with fail
  refine bodyPost_ret (results_none rfl _ _ _) rfl ?_
  exact ⟨⟨_, rfl⟩, .inl ⟨_, rfl, h0⟩⟩
theorem all_stops_nil (Bn : Nat) (w : World) (hBn : Bn < w.heap.size) (hbox : w.cell? ⟨Bn, 0, none⟩ = some (.pointer none)) :
    SeqStopsK Fence.wide 6 Try.prog 30 #[.pointer (some ⟨Bn, 0, none⟩)] encP (KpB w.heap.size) (fun xs => xs = []) (fun pre => pre <+: []) 0 w := fun l J Jx W hW hJ _ hY h0 =>
  all1_nil l Bn J Jx W ((hW.cell (p := ⟨Bn, 0, none⟩) hBn).trans hbox) h0

end Go.Proofs.Ythgjccbmfbileaa
