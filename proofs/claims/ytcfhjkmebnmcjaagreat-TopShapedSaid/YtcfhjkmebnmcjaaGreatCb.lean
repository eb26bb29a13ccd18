/- The register behind bytes; a header's check. -/
import Derived.Test.YtcfhjkmebnmcjaaGreatC
import Derived.WalkMore
namespace Go.Proofs.YtcfhjkmebnmcjaaGreat
open Go.RowKit Go.Shelf
set_option linter.unusedVariables false
set_option linter.unusedSimpArgs false
attribute [local go_sem] Oper.semAt_some


/-- What the rounds of a loop over bits keep of the bytes' block. -/
structure KpO (b : Nat) (A C : World) : Prop where
  size : A.heap.size ≤ C.heap.size
  same : C.heap[b]? = A.heap[b]?
theorem KpO.trans {b : Nat} {A B C : World} (h : KpO b A B) (k : KpO b B C) : KpO b A C := ⟨Nat.le_trans h.size k.size, k.same.trans h.same⟩
theorem KpO.turn {b B : Nat} (hb : b < B) (W : World) (l : Nat) (o o' : Obj) (hl : B ≤ l) : KpO b W (W.putObj l o') :=
  ⟨by simp, World.putObj_heap_other (by omega)⟩
theorem KpO.bytes {b off : Nat} {bs : List Int} {A C : World} (h : KpO b A C) (hB : Bytes A b off bs) : Bytes C b off bs := fun k hk => (World.cell?_of_block h.same).trans (hB k hk)
theorem Bytes.below {b off : Nat} {bs : List Int} {A C : World} (hB : Bytes A b off bs) (hb : b < A.heap.size) (h : Below A.heap.size A C) : Bytes C b off bs := fun k hk => (h.cell (p := ⟨b, off + k, none⟩) hb).trans (hB k hk)

theorem keeps_set {B c : Nat} (hc : c < B) (W : World) (o : Nat) (v : Value) : KeepsFrom B W (W.setCell ⟨c, o, none⟩ v) :=
  ⟨by simp [World.setCell], fun k ob hB h _ => (Below.heap_setCell _ _ _ _ (show k ≠ c by omega)).trans h⟩
theorem KpO.set {b c : Nat} (hc : b ≠ c) (W : World) (o : Nat) (v : Value) : KpO b W (W.setCell ⟨c, o, none⟩ v) :=
  ⟨by simp [World.setCell], Below.heap_setCell _ _ _ _ hc⟩

/-- 'bits' boxes the bytes. -/
theorem bits_in (n : Nat) (A : Option Addr) (len cap : Nat) (W : World) : CallsIn Fence.wide n Tryz.prog 138 #[.slice A len cap] W fun e w' => e = .returned (.func (.func 148) #[] #[.pointer (some ⟨W.heap.size, 0, none⟩)]) ∧ w' = W.alloc (.cells #[.slice A len cap] 43) := by
  refine callsIn_of_wp Tryz.func138 rfl trivial ?_ rfl
  simp only [Tryz.ntmps138, List.size_toArray, List.length_cons, List.length_nil, Nat.reduceAdd, Nat.reduceSub, Array.replicate_succ, Array.replicate_zero, List.push_toArray, List.append_toArray, List.nil_append, List.cons_append]
  gi_wp2
  go_ret
  exact ⟨rfl, rfl⟩

theorem bits_stops (Bn b off cap : Nat) (bs : List Int) (hbs : ∀ x ∈ bs, 0 ≤ x ∧ x ≤ 255) (hn : bs.length ≤ 1000) (w : World) (hBn : Bn < w.heap.size) (hb : b < w.heap.size) (hbox : w.cell? ⟨Bn, 0, none⟩ = some (.slice (some ⟨b, off, none⟩) bs.length cap)) (hB : Bytes w b off bs) :
    SeqStopsK Fence.wide 6 Tryz.prog 148 #[.pointer (some ⟨Bn, 0, none⟩)] encB (KpO b) (fun xs => xs = bitsOf bs) (fun _ => True) (8 * bs.length) w := fun l J Jx W hW _ _ hY h0 =>
  bits1_in l Bn b off cap bs hbs hn (KpO b) (fun _ _ h k => h.bytes k) J Jx W ((hW.cell (p := ⟨Bn, 0, none⟩) hBn).trans hbox) (hB.below hb hW) hY h0

/-- The register, its constants. -/
structure Rs (w W : World) (r : Int) : Prop where
  r : Boxed W w.heap.size 38 (.int .u32 r)
  t : Boxed W (w.heap.size + 1) 38 (.int .u32 128)
  y : Boxed W (w.heap.size + 1 + 1) 38 (.int .u32 7)
  m : Boxed W (w.heap.size + 1 + 1 + 1) 38 (.int .u32 255)
  bel : Below w.heap.size w W
theorem Rs.own {w A C : World} {r : Int} {B0 : Nat} {row : Option Nat} (h : Rs w A r) (hB : w.heap.size + 4 ≤ B0) (hg : A.grownBy C row)
    (hr : ∀ k, row = some k → B0 ≤ k ∧ ∃ o : Obj, A.heap[k]? = some o ∧ o.isCells = false) : Rs w C r := by
  have hn : ∀ k, k < B0 → some k ≠ row := fun k hk e => by have := (hr k e.symm).1; omega
  exact ⟨h.r.kept hg (hn _ (by omega)), h.t.kept hg (hn _ (by omega)), h.y.kept hg (hn _ (by omega)), h.m.kept hg (hn _ (by omega)), h.bel.grown hg h.bel.size (fun k e => by have := (hr k e).1; omega)⟩
theorem Rs.set {w W : World} {r : Int} (h : Rs w W r) (v : Int) : Rs w (W.setCell ⟨w.heap.size, 0, none⟩ (.int .u32 v)) v :=
  ⟨h.r.set _, h.t.other (by omega) _, h.y.other (by omega) _, h.m.other (by omega) _, h.bel.setCell (Nat.le_refl _) _⟩

/-- The register behind one bit. -/
def stepR (r : Int) (q : Bool) : Int :=
  if ((bits BinOp.and IntKind.u32 r 128 != 0) == q) = true then bits BinOp.and IntKind.u32 (r * 2 % 4294967296) 255 else bits BinOp.xor IntKind.u32 (bits BinOp.and IntKind.u32 (r * 2 % 4294967296) 255) 7
def regOf (pre : List Bool) : Int := pre.foldl stepR 0
theorem regOf_snoc (pre : List Bool) (q : Bool) : regOf (pre ++ [q]) = stepR (regOf pre) q := by simp [regOf]

set_option maxRecDepth 100000 in
set_option maxHeartbeats 2000000 in
theorem rest_any (b off cap : Nat) (bs : List Int) (hbs : ∀ x ∈ bs, 0 ≤ x ∧ x ≤ 255) (hn : bs.length ≤ 1000) (w : World) (hb : b < w.heap.size) (hB : Bytes w b off bs) :
    Calls Tryz.prog 121 #[.slice (some ⟨b, off, none⟩) bs.length cap, .int .u32 0, .int .u32 128, .int .u32 7] w fun e W' => e = .returned (.int .u32 (regOf (bitsOf bs))) ∧ Below w.heap.size w W' := by
  refine (callsIn_wide (n := 7)).1 (callsIn_of_wp_marks Tryz.func121 rfl trivial ?_ rfl)
  simp only [Tryz.ntmps121, List.size_toArray, List.length_cons, List.length_nil, Nat.reduceAdd, Nat.reduceSub, Array.replicate_succ, Array.replicate_zero, List.push_toArray, List.append_toArray, List.nil_append, List.cons_append]
  have HBS := Lib.hid hB
  clear hB
  have hfA : Fence.wide.fn 138 := trivial
  refine wpIn_wide.2 ?_
  go_wp2_with (go_at_call 138; refine ((callsIn_wide (n := 7)).1 (bits_in 7 _ _ _ _)).mono ?_; rintro e w' ⟨rfl, rfl⟩)
  go_step3
  go_wp2_with (first | go_step3 | (go_at_call 138; refine ((callsIn_wide (n := 7)).1 (bits_in 7 _ _ _ _)).mono ?_; rintro e w' ⟨rfl, rfl⟩))
  generalize hW0 : ((((w.alloc (.cells #[.int .u32 0] 38)).alloc (.cells #[.int .u32 128] 38)).alloc (.cells #[.int .u32 7] 38)).alloc (.cells #[.int .u32 255] 38)).alloc (.cells #[.slice (some ⟨b, off, none⟩) bs.length cap] 43) = W0
  have hsz0 : W0.heap.size = w.heap.size + 5 := by rw [← hW0]; simp
  have hbx : Boxed W0 (w.heap.size + 4) 43 (.slice (some ⟨b, off, none⟩) bs.length cap) := by rw [← hW0]; exact heap_new' _ (by simp)
  have hbel : Below w.heap.size w W0 := by
    rw [← hW0]
    exact (((((Below.refl _ _).alloc (Nat.le_refl _) _).alloc (by simp) _).alloc (by simp; omega) _).alloc (by simp; omega) _).alloc (by simp; omega) _
  have h0 : Rs w W0 0 := by
    refine ⟨?_, ?_, ?_, ?_, hbel⟩
    · rw [← hW0]; exact ((((Boxed.new _ _ _).alloc _).alloc _).alloc _).alloc _
    · rw [← hW0]; exact (((show Boxed _ _ _ _ from heap_new' _ (by simp)).alloc _).alloc _).alloc _
    · rw [← hW0]; exact ((show Boxed _ _ _ _ from heap_new' _ (by simp)).alloc _).alloc _
    · rw [← hW0]; exact (show Boxed _ _ _ _ from heap_new' _ (by simp)).alloc _
  have hB0 : Bytes W0 b off bs := HBS.out.below hb hbel
  refine (wpIn_wide (n := 7)).1 ?_
  refine wpIn_rangeFunc_ownG rfl (by omega) (gf := 148) (lb := #[.pointer (some ⟨w.heap.size + 1 + 1 + 1 + 1, 0, none⟩)]) rfl trivial (enters_of Tryz.func148 (by kernel_rfl) rfl)
    (bits_stops (w.heap.size + 4) b off cap bs hbs hn W0 (by omega) (by omega) hbx.cell hB0) KpO.trans (fun W l o o' hl ho hc hw => KpO.turn (B := W0.heap.size) (by omega) W l o o' hl) (Below.refl _ _) (fun _ => rfl)
    (fun pre W => Rs w W (regOf pre))
    (fun c pre W => False)
    (fun pre C C' row hs hg hr => hs.own (B0 := W0.heap.size) (by omega) hg hr)
    (fun c pre C C' row hs hg hr => hs)
    h0
    (fun q => { tmps := #[.slice (some ⟨b, off, none⟩) bs.length cap, .int .u32 0, .int .u32 128, .int .u32 7, undef, .pointer (some ⟨w.heap.size, 0, none⟩), .pointer (some ⟨w.heap.size + 1, 0, none⟩), .pointer (some ⟨w.heap.size + 1 + 1, 0, none⟩), .int .u32 0, .pointer (some ⟨w.heap.size + 1 + 1 + 1, 0, none⟩), .bool q, undef, .int .u32 128, .int .u32 256, .int .u32 255, .slice (some ⟨b, off, none⟩) bs.length cap, .func (.func 148) #[] #[.pointer (some ⟨w.heap.size + 1 + 1 + 1 + 1, 0, none⟩)], .bool q, undef, undef, undef, undef, undef, undef, undef, undef, undef, undef, undef, undef, undef, undef, undef], defers := [] }) ?assign ?body ?done ?stop
  case assign =>
    intro l q W K hK
    unfold encB
    gi_wp2
    exact hK
  case body =>
    rintro l pre q W hN hlt
    obtain ⟨r, er⟩ : ∃ r, regOf pre = r := ⟨_, rfl⟩
    rw [er] at hN
    have c0 := hN.r.cell
    have c1 := hN.t.cell
    have c2 := hN.y.cell
    have c3 := hN.m.cell
    have f0 := hN.r.frozen
    have HN := Lib.hid (And.intro hN er)
    clear hN er
    have hs1 := regOf_snoc pre q
    rw [HN.out.2] at hs1
    unfold stepR at hs1
    have HS := Lib.hid hs1
    clear hs1
    gi_wp2_with fail
    · refine ⟨keeps_set (by omega) _ _ _, KpO.set (by omega) _ _ _, ?_⟩
      show Rs w _ (regOf (pre ++ [q]))
      rw [HS.out, if_pos (by assumption)]
      exact HN.out.1.set _
    · refine ⟨(keeps_set (by omega) _ _ _).trans (keeps_set (by omega) _ _ _), (KpO.set (by omega) _ _ _).trans (KpO.set (by omega) _ _ _), ?_⟩
      show Rs w _ (regOf (pre ++ [q]))
      rw [HS.out, if_neg (by simp_all)]
      exact (HN.out.1.set _).set _
  case done =>
    rintro D xs W hD hxs hN1 hDd
    subst hxs
    have c0 := hN1.r.cell
    have HN := Lib.hid hN1
    have HD := Lib.hid (And.intro hDd hD)
    clear hN1 hDd hD
    go_wp2_with fail
    rw [Exit.noGoto_ret]
    refine ⟨by simp, .inl ⟨_, _, rfl, run_takeDeferred HD.out.1, ?_⟩⟩
    exact ⟨_, results_tmp rfl _ _ _, rfl, HN.out.bel.trans (belowK_b (w := w) (Nat.le_refl _) W D _ _ (by have := HD.out.2; omega) HD.out.1 rfl rfl)⟩
  case stop =>
    rintro D c0 pre W hD hp h
    exact h.elim

end Go.Proofs.YtcfhjkmebnmcjaaGreat
