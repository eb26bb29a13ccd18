/- A plane with one way open; what it keeps. -/
import Derived.Test.YtcfhjkmebnmcjaaGreatQ
import Derived.Test.YtcfhjkmebnmcjaaGreatT
import Derived.Test.YtcfhjkmebnmcjaaGreatI
import Derived.Test.YtcfhjkmebnmcjaaGreatFb
namespace Go.Proofs.YtcfhjkmebnmcjaaGreat
open Go.RowKit Go.Shelf
set_option linter.unusedVariables false
set_option linter.unusedSimpArgs false
attribute [local go_sem] Oper.semAt_some

/-- The blocks of a plane with one way open. -/
structure Pw where
  p : Nat
  nb : Nat
  t0 : Nat
  wm : Nat
  cm : Nat
  kg : Nat
  kcap : Nat
  lb : Nat
  g : Nat
  wy : Nat
  al : Nat
  tb : Nat
  mp : Nat
  lk : Value
  pb : Nat
  rg : Nat
  cap : Nat
  rs : List Ru
/-- A plane with one way open: its policer's buckets, the time, what has passed and what was tagged. -/
structure Ps (W : World) (q : Pw) (c : Ct) (σ : Nat → Bk) (now a t : Int) : Prop where
  pl : Pl W q.p q.nb q.t0 q.wm q.cm (.slice (some ⟨q.kg, 0, none⟩) 2 q.kcap) 1 now a t
  kg : ∃ cur, W.heap[q.kg]? = some (.cells cur 59 (0, 0)) ∧ cur[0]? = some (.pointer (some ⟨q.lb, 0, none⟩))
  lb : W.heap[q.lb]? = some (.cells (linkC q.g) 67 (0, 0))
  t : Tb W q.t0 0 40 15 true
  wm : W.heap[q.wm]? = some (one (.pointer (some ⟨q.wy, 0, none⟩)))
  wy : W.heap[q.wy]? = some (.cells #[.int .i64 0, .int .i64 0, .int .i64 40, .int .i64 1, .int .i64 0, .int .i64 50, .pointer (some ⟨q.al, 0, none⟩), .bool false] 77 (0, 0))
  al : HasA W q.al
  nd : Nb W q.nb q.lk q.tb q.mp 1
  nt : Tb W q.tb 1 50 355 true
  mp : W.heap[q.mp]? = some (one (connV c q.pb))
  po : Po W q.pb q.rg q.cap (c.k == 7) q.rs σ
theorem Ps.below {W W' : World} {q : Pw} {c : Ct} {σ : Nat → Bk} {now a t : Int} (h : Ps W q c σ now a t) (hb : Below W.heap.size W W') : Ps W' q c σ now a t := by
  have hlt : ∀ {k : Nat} {o : Obj}, W.heap[k]? = some o → W'.heap[k]? = some o := fun {k o} hk => (hb.block k (Array.getElem?_eq_some_iff.1 hk).1).trans hk
  obtain ⟨cur, h1, h2⟩ := h.kg
  exact ⟨h.pl.below hb, ⟨cur, hlt h1, h2⟩, hlt h.lb, h.t.below hb, hlt h.wm, hlt h.wy, h.al.below hb, h.nd.below hb, h.nt.below hb, hlt h.mp, h.po.below hb⟩
/-- A store into the plane's own block. -/
theorem Ps.own {W W' : World} {q : Pw} {c : Ct} {σ : Nat → Bk} {now a t now' a' t' : Int} (h : Ps W q c σ now a t) (hp : Pl W' q.p q.nb q.t0 q.wm q.cm (.slice (some ⟨q.kg, 0, none⟩) 2 q.kcap) 1 now' a' t')
    (hb : ∀ k, k ≠ q.p → W'.heap[k]? = W.heap[k]?) : Ps W' q c σ now' a' t' := by
  have hlt : ∀ {k : Nat} {o : Obj}, W.heap[k]? = some o → k ≠ q.p → W'.heap[k]? = some o := fun {k o} hk hn => (hb k hn).trans hk
  have hpl : W.heap[q.p]? = _ := h.pl
  obtain ⟨cur, h1, h2⟩ := h.kg
  obtain ⟨cs, ht1, ht2⟩ := h.t
  obtain ⟨cs2, hu1, hu2⟩ := h.nt
  obtain ⟨cc, hpb⟩ := h.po.p
  obtain ⟨cur2, hr1, hr2⟩ := h.po.r
  exact ⟨hp, ⟨cur, hlt h1 (blk_ne h1 hpl (by simp)), h2⟩, hlt h.lb (blk_ne h.lb hpl (by simp)), ⟨cs, hlt ht1 (blk_ne ht1 hpl (by simp)), ht2⟩, hlt h.wm (blk_ne h.wm hpl (by simp)), hlt h.wy (blk_ne h.wy hpl (by simp)), hlt h.al (blk_ne h.al hpl (by simp)),
    hlt h.nd (blk_ne h.nd hpl (by simp)), ⟨cs2, hlt hu1 (blk_ne hu1 hpl (by simp)), hu2⟩, hlt h.mp (blk_ne h.mp hpl (by simp)), h.po.same (hb _ (blk_ne hpb.h hpl (by simp))) (hb _ (blk_ne hr1 hpl (by simp))) (fun u hu => hb _ (blk_ne (h.po.b u hu) hpl (by simp)))⟩
/-- The policer's step. -/
theorem Ps.pol {W W' : World} {q : Pw} {c : Ct} {σ σ' : Nat → Bk} {now a t : Int} (h : Ps W q c σ now a t) (hpo : Po W' q.pb q.rg q.cap (c.k == 7) q.rs σ') (hk : PoK W W' q.pb q.rs) : Ps W' q c σ' now a t := by
  obtain ⟨cc, hpb⟩ := h.po.p
  have hpb' := hpb.h
  have hlt : ∀ {k : Nat} {o : Obj}, W.heap[k]? = some o → (∀ cs, o ≠ .cells cs 200 (0, 0)) → (∀ cs, o ≠ .cells cs 82 (0, 0)) → W'.heap[k]? = some o := fun {k o} hk1 h1 h2 =>
    (hk.block k (Array.getElem?_eq_some_iff.1 hk1).1 (fun e => by rw [e, hpb'] at hk1; exact h1 _ (Option.some.inj hk1).symm) (fun u hu e => by have hb := h.po.b u hu; unfold HasB at hb; rw [e, hb] at hk1; exact h2 _ (Option.some.inj hk1).symm)).trans hk1
  obtain ⟨cur, h1, h2⟩ := h.kg
  obtain ⟨cs, ht1, ht2⟩ := h.t
  obtain ⟨cs2, hu1, hu2⟩ := h.nt
  exact ⟨hlt h.pl (by simp) (by simp), ⟨cur, hlt h1 (by simp) (by simp), h2⟩, hlt h.lb (by simp) (by simp), ⟨cs, hlt ht1 (by simp) (by simp), ht2⟩, hlt h.wm (by simp) (by simp), hlt h.wy (by simp) (by simp), hlt h.al (by simp) (by simp),
    hlt h.nd (by simp) (by simp), ⟨cs2, hlt hu1 (by simp) (by simp), hu2⟩, hlt h.mp (by simp) (by simp), hpo⟩

end Go.Proofs.YtcfhjkmebnmcjaaGreat
