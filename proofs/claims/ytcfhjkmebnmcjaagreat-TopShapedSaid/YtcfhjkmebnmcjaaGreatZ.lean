/- The law's alive: a plane of two links, a way opened, a cell sent on. -/
import Derived.Test.YtcfhjkmebnmcjaaGreatY
namespace Go.Proofs.YtcfhjkmebnmcjaaGreat
open Go.RowKit Go.Shelf
set_option linter.unusedVariables false
set_option linter.unusedSimpArgs false
attribute [local go_sem] Oper.semAt_some

theorem KL.below {S : List Nat} {B : Nat} {w W : World} (h : KL S w W) (hB : B ≤ w.heap.size) (hS : ∀ k ∈ S, B ≤ k) : Below B w W :=
  ⟨h.os, h.tape, h.output, h.size, fun k hk => h.block k (Nat.lt_of_lt_of_le hk hB) (fun e => by have := hS k e; omega)⟩


theorem Ln.po0 {w X : World} {p nb t0 wm cm tb mp lg cap p2 m : Nat} {r : Int} {v : Value} {lbs : List Nat} (h : Ln w X p nb t0 wm cm tb mp lg cap p2 m r v 2 lbs) :
    ∃ q : Pw, q.p = p ∧ Po0 X q lg cap p2 m ⟨roomOf r, []⟩ ∧ ∀ k ∈ [q.p, q.t0, q.wm, q.nb, q.tb, p2, m, q.mp], w.heap.size ≤ k := by
  have hlen := h.len
  have ho := h.o
  match lbs, hlen with
  | [b0, b1], _ =>
    obtain ⟨⟨g, hg⟩, hgb⟩ := h.l b0 (by simp)
    rcases ho.2 with ⟨_, h0⟩ | ⟨kg, kcap, cur, rfl, hb, hc, _, _, hsz, htk⟩
    · omega
    · have hge := h.bp.ge
      refine ⟨⟨p, nb, t0, wm, cm, kg, kcap, b0, g, 0, 0, tb, mp, .bool false, 0, 0, 0, []⟩, rfl, ⟨h.bp.pl, ⟨cur, hc, ?_⟩, hg, h.bp.t, h.bp.wmv, h.bp.nd, h.bp.mpv, h.bp.ne⟩, ?_⟩
      · have e : (cur.toList.take (2 * 1))[0]? = some (.pointer (some ⟨b0, 0, none⟩)) := by rw [htk]; rfl
        rw [List.getElem?_take] at e
        simpa using e
      · intro k hk
        simp only [List.mem_cons, List.not_mem_nil, or_false] at hk
        omega

theorem mk_at (sb : Nat) (r : Int) (w : World) (hs0 : w.cell? ⟨sb, 0, none⟩ = some (.int .i64 r)) (hs1 : w.cell? ⟨sb, 1, none⟩ = some (.int .i64 r)) :
    Calls Tryz.prog 6 #[.slice (some ⟨sb, 0, none⟩) 2 2, .agg #[.int .i64 0, .int .i64 0, .int .i64 0], .int .i64 10] w fun e W' => ∃ (q : Pw) (lg cap p2 m : Nat), e = .returned (.pointer (some ⟨q.p, 0, none⟩)) ∧ Po0 W' q lg cap p2 m ⟨roomOf r, []⟩ ∧ (∀ k ∈ [q.p, q.t0, q.wm, q.nb, q.tb, p2, m, q.mp], w.heap.size ≤ k) ∧ Below w.heap.size w W' := by
  refine (plnew_at sb r w hs0 hs1).mono ?_
  rintro e W' ⟨p, nb, t0, wm, cm, tb, mp, lg, cap, p2, m, v, lbs, rfl, hL⟩
  obtain ⟨q, rfl, h1, h2⟩ := hL.po0
  exact ⟨q, lg, cap, p2, m, rfl, h1, h2, hL.bel⟩

/-- Open, of a plane of which nothing is open: what is left behind it. -/
theorem opens_at (q : Pw) (lg cap2 p2 m : Nat) (r : Int) (c : Ct) (hc : c.Ok) (hfit : ∀ n : Int, 0 ≤ n → n ≤ 1152921504606846976 → (c.k = 6 → n = 0) → n ≤ roomOf r) (B : Nat) (w : World) (h : Po0 w q lg cap2 p2 m ⟨roomOf r, []⟩) (hB : B ≤ w.heap.size) (hS : ∀ k ∈ [q.p, q.t0, q.wm, q.nb, q.tb, p2, m, q.mp], B ≤ k) :
    Calls Tryz.prog 7 #[.pointer (some ⟨q.p, 0, none⟩), keyV 0 40, keyV 1 50, c.v] w fun e w' => e = .returned (.int .i64 0) ∧
      ∃ q' : Pw, q'.p = q.p ∧ q'.rs.map (·.r) = rulesOf c ∧ (q'.rs.map (·.b)).Nodup ∧ (∀ k ∈ q'.S, B ≤ k) ∧ Ps w' q' c (sigOf q'.rs) 0 0 0 ∧ Below B w w' := by
  refine (open_at q lg cap2 p2 m ⟨roomOf r, []⟩ c hc ⟨?_, ?_, List.Pairwise.nil, by simp, ?_⟩ (by simp) rfl ?_ w h).mono ?_
  · simp only [roomOf]; omega
  · simp only [roomOf]; omega
  · simp only [roomOf, tot]; omega
  · simpa [tot] using hfit
  · rintro e w' ⟨rfl, q', h1, h2, h3, h4, h5, h6⟩
    exact ⟨rfl, q', h1, h2, h3, fun k hk => by
      rcases h4 k hk with e | e
      · rw [e]; exact hS _ (by simp)
      · omega, h5, h6.below hB hS⟩

theorem fit_new (r : Rl) (t : Int) : fitB (newBk r) t = true := by simp [fitB, newBk]
theorem sig_fit {us : List Ru} (hnd : (us.map (·.b)).Nodup) (t : Int) : ∀ u ∈ us, fitB (sigOf us u.b) t = true := fun u hu => by rw [sigOf_at hnd hu]; exact fit_new _ _
theorem rules_len (c : Ct) : (rulesOf c).length ≤ 2 := by
  unfold rulesOf
  simp only [List.length_cons]
  split
  · simp
  · split
    · simp
    · split <;> simp
theorem rs_len {us : List Ru} {c : Ct} (h : us.map (·.r) = rulesOf c) : us.length ≤ 2 := by
  have h1 := congrArg List.length h
  have h2 := rules_len c
  simp at h1
  omega

set_option maxRecDepth 100000 in
set_option maxHeartbeats 8000000 in
theorem alive_at (w : World) : Calls Tryz.prog 4 #[] w fun e w' => e = .returned (.bool true) ∧ Below w.heap.size w w' := by
  have hB1 := (Below.refl w.heap.size w).alloc (Nat.le_refl _) (.cells #[.int .i64 10, .int .i64 10] 3)
  have hk := heap_new' w (o := .cells #[.int .i64 10, .int .i64 10] 3) rfl
  have s0 : (w.alloc (.cells #[.int .i64 10, .int .i64 10] 3)).cell? ⟨w.heap.size, 0, none⟩ = some (.int .i64 10) := by simp only [World.cell?, hk]; rfl
  have s1 : (w.alloc (.cells #[.int .i64 10, .int .i64 10] 3)).cell? ⟨w.heap.size, 1, none⟩ = some (.int .i64 10) := by simp only [World.cell?, hk]; rfl
  have HB1 := Lib.hid hB1
  clear hB1 hk
  go_enter Tryz.func4, Tryz.ntmps4
  go_wp2_with fail
  refine (mk_at w.heap.size 10 _ s0 s1).mono ?_
  rintro e w2 ⟨q, lg, cap, p2, m, rfl, hP, hS, hb2⟩
  have HP := Lib.hid (And.intro hP (And.intro hS (And.intro hb2 HB1.out)))
  clear hP hS hb2 s0 s1
  go_wp2_with fail
  refine (opens_at q lg cap p2 m 10 ⟨6, 5, 0, 0, 0, 0⟩ (by unfold Ct.Ok; simp) (fun n h0 h1 h6 => by rw [h6 rfl]; unfold roomOf; omega) w.heap.size _ HP.out.1 (Nat.le_trans HP.out.2.2.2.size HP.out.2.2.1.size) (fun k hk => Nat.le_trans HP.out.2.2.2.size (HP.out.2.1 k hk))).mono ?_
  rintro e w3 ⟨rfl, q', hqp, hrs, hnd, hSq, hps, hb3⟩
  have HQ := Lib.hid (And.intro hrs (And.intro hnd (And.intro hSq (And.intro hps hb3))))
  rw [← hqp]
  clear hrs hnd hSq hps hb3 hqp
  go_wp2_with fail
  refine (bytes_at _).mono ?_
  rintro e w4 ⟨gb, gcap, rfl, hgc, hin, hb4⟩
  have HI := Lib.hid (And.intro hgc (And.intro hin hb4))
  clear hgc hin hb4
  go_wp2_with fail
  have hln := rs_len HQ.out.1
  have HLN := Lib.hid hln
  clear hln
  refine (arrive_at q' ⟨6, 5, 0, 0, 0, 0⟩ (sigOf q'.rs) 0 0 0 0 gb gcap _ (HQ.out.2.2.2.1.below HI.out.2.2) (Int.le_refl _) (by decide) (by have := HLN.out; omega) (sig_fit HQ.out.2.1 0) (by decide) (by decide) HI.out.2.1 HI.out.1).mono ?_
  rintro e w5 ⟨⟨xb, rfl⟩, hps5, hk5⟩
  have HE := Lib.hid hk5
  clear hps5 hk5
  go_wp2_with fail
  go_ret
  have hz1 := Nat.le_trans HP.out.2.2.2.size HP.out.2.2.1.size
  have hz2 := Nat.le_trans hz1 HQ.out.2.2.2.2.size
  have hz3 := Nat.le_trans hz2 HI.out.2.2.size
  exact ⟨rfl, (((HP.out.2.2.2.trans (HP.out.2.2.1.mono HP.out.2.2.2.size)).trans HQ.out.2.2.2.2).trans (HI.out.2.2.mono hz2)).trans (HE.out.below hz3 HQ.out.2.2.1)⟩

end Go.Proofs.YtcfhjkmebnmcjaaGreat
