/- A plane's Open. -/
import Derived.Test.YtcfhjkmebnmcjaaGreatR
import Derived.Test.YtcfhjkmebnmcjaaGreatX
namespace Go.Proofs.YtcfhjkmebnmcjaaGreat
open Go.RowKit Go.Shelf
set_option linter.unusedVariables false
set_option linter.unusedSimpArgs false
attribute [local go_sem] Oper.semAt_some

/-- A plane of two links, nothing open: what Open asks. -/
structure Po0 (W : World) (q : Pw) (lg cap2 p2 m : Nat) (x : Lg) : Prop where
  pl : Pl W q.p q.nb q.t0 q.wm q.cm (.slice (some ⟨q.kg, 0, none⟩) 2 q.kcap) 0 0 0 0
  kg : ∃ cur, W.heap[q.kg]? = some (.cells cur 59 (0, 0)) ∧ cur[0]? = some (.pointer (some ⟨q.lb, 0, none⟩))
  lb : W.heap[q.lb]? = some (.cells (linkC q.g) 67 (0, 0))
  t : Tb W q.t0 0 40 15 false
  wm : W.heap[q.wm]? = some (.map #[] 0)
  nd : Nd W q.nb q.tb q.mp lg cap2 p2 m false 0 x
  mp : W.heap[q.mp]? = some (.map #[] 0)
  ne : q.wm ≠ q.mp ∧ q.wm ≠ m ∧ q.tb ≠ q.t0

theorem Po0.below {W W' : World} {q : Pw} {lg cap2 p2 m : Nat} {x : Lg} (h : Po0 W q lg cap2 p2 m x) (hb : Below W.heap.size W W') : Po0 W' q lg cap2 p2 m x := by
  have hlt : ∀ {k : Nat} {o : Obj}, W.heap[k]? = some o → W'.heap[k]? = some o := fun {k o} hk => (hb.block k (Array.getElem?_eq_some_iff.1 hk).1).trans hk
  obtain ⟨cur, h1, h2⟩ := h.kg
  exact ⟨h.pl.below hb, ⟨cur, hlt h1, h2⟩, hlt h.lb, h.t.below hb, hlt h.wm, h.nd.below hb, hlt h.mp, h.ne⟩
/-- The boxes of the keys and of the contract. -/
def Kc3 (X : World) (b : Nat) (c : Ct) : Prop := (X.cell? ⟨b, 0, none⟩ = some (.int .i64 0) ∧ X.cell? ⟨b, 1, none⟩ = some (.int .i64 0) ∧ X.cell? ⟨b, 2, none⟩ = some (.int .i64 40)) ∧ Kc X (b + 1) c

theorem Po0.lst {W : World} {q : Pw} {lg cap2 p2 m : Nat} {x : Lg} (h : Po0 W q lg cap2 p2 m x) : ∀ k ∈ [q.nb, q.tb, p2, m, q.mp], k ≠ q.p ∧ k < W.heap.size := by
  have hp : W.heap[q.p]? = _ := h.pl
  have hn : W.heap[q.nb]? = _ := h.nd.n
  obtain ⟨cs, ht, _⟩ := h.nd.t
  obtain ⟨es, n, hm⟩ := h.nd.l.mapAt
  intro k hk
  simp only [List.mem_cons, List.not_mem_nil, or_false] at hk
  rcases hk with rfl | rfl | rfl | rfl | rfl
  · exact ⟨blk_ne hn hp (by simp), (Array.getElem?_eq_some_iff.1 hn).1⟩
  · exact ⟨blk_ne ht hp (by simp), (Array.getElem?_eq_some_iff.1 ht).1⟩
  · exact ⟨blk_ne h.nd.l.cells hp (by simp), h.nd.l.lt⟩
  · exact ⟨blk_ne hm hp (by simp), (Array.getElem?_eq_some_iff.1 hm).1⟩
  · exact ⟨blk_ne h.mp hp (by simp), (Array.getElem?_eq_some_iff.1 h.mp).1⟩

/-- The plane behind its node's Take: its table and its ways are as they were. -/
structure Po1 (W : World) (q : Pw) (c : Ct) (Lk : Value) (pb rg cap : Nat) (us : List Ru) : Prop where
  pl : Pl W q.p q.nb q.t0 q.wm q.cm (.slice (some ⟨q.kg, 0, none⟩) 2 q.kcap) 0 0 0 0
  kg : ∃ cur, W.heap[q.kg]? = some (.cells cur 59 (0, 0)) ∧ cur[0]? = some (.pointer (some ⟨q.lb, 0, none⟩))
  lb : W.heap[q.lb]? = some (.cells (linkC q.g) 67 (0, 0))
  t : Tb W q.t0 0 40 15 false
  wm : W.heap[q.wm]? = some (.map #[] 0)
  nd : Nb W q.nb Lk q.tb q.mp 1
  nt : Tb W q.tb 1 50 355 true
  mp : W.heap[q.mp]? = some (one (connV c pb))
  po : Po W pb rg cap (c.k == 7) us (sigOf us)
theorem Po0.take {W W' : World} {q : Pw} {lg cap2 p2 m pb rg cap3 : Nat} {x y : Lg} {c : Ct} {us : List Ru} {B : Nat} (h : Po0 W q lg cap2 p2 m x) (hn : Nd W' q.nb q.tb q.mp lg cap2 p2 m true 1 y) (hm : W'.heap[q.mp]? = some (one (connV c pb)))
    (hp : Pn B W' pb rg cap3 (c.k == 7) (rulesOf c) us) (hk : KL [q.nb, q.tb, p2, m, q.mp] W W') : Po1 W' q c (.slice (some ⟨lg, 0, none⟩) 2 cap2) pb rg cap3 us := by
  have hnb : W.heap[q.nb]? = _ := h.nd.n
  obtain ⟨cs2, hu1, _⟩ := h.nd.t
  obtain ⟨es, n, hmm⟩ := h.nd.l.mapAt
  obtain ⟨cur, h1, h2⟩ := h.kg
  obtain ⟨cs, ht1, ht2⟩ := h.t
  have hpl : W.heap[q.p]? = _ := h.pl
  have hlt : ∀ {k : Nat} {o : Obj}, W.heap[k]? = some o → k ∉ [q.nb, q.tb, p2, m, q.mp] → W'.heap[k]? = some o := fun {k o} h1 h2 => (hk.block k (Array.getElem?_eq_some_iff.1 h1).1 h2).trans h1
  have hno : ∀ {k : Nat} {o : Obj}, W.heap[k]? = some o → (∀ cs, o ≠ .cells cs 101 (0, 0)) → (∀ cs, o ≠ .cells cs 108 (0, 0) ∨ k ≠ q.tb) → (∀ cs, o ≠ .cells cs 154 (0, 0)) → (k ≠ m ∧ k ≠ q.mp) → k ∉ [q.nb, q.tb, p2, m, q.mp] := fun {k o} h1 e1 e2 e3 e4 => by
    intro hk
    simp only [List.mem_cons, List.not_mem_nil, or_false] at hk
    rcases hk with rfl | rfl | rfl | rfl | rfl
    · exact e1 _ (Option.some.inj (h1.symm.trans hnb))
    · rcases e2 cs2 with e | e
      · exact e (Option.some.inj (h1.symm.trans hu1))
      · exact e rfl
    · exact e3 _ (Option.some.inj (h1.symm.trans h.nd.l.cells))
    · exact e4.1 rfl
    · exact e4.2 rfl
  exact ⟨hlt hpl (hno hpl (by simp) (by simp) (by simp) ⟨blk_ne hpl hmm (by simp), blk_ne hpl h.mp (by simp)⟩),
    ⟨cur, hlt h1 (hno h1 (by simp) (by simp) (by simp) ⟨blk_ne h1 hmm (by simp), blk_ne h1 h.mp (by simp)⟩), h2⟩,
    hlt h.lb (hno h.lb (by simp) (by simp) (by simp) ⟨blk_ne h.lb hmm (by simp), blk_ne h.lb h.mp (by simp)⟩),
    ⟨cs, hlt ht1 (hno ht1 (by simp) (fun _ => .inr h.ne.2.2.symm) (by simp) ⟨blk_ne ht1 hmm (by simp), blk_ne ht1 h.mp (by simp)⟩), ht2⟩,
    hlt h.wm (hno h.wm (by simp) (by simp) (by simp) ⟨h.ne.2.1, h.ne.1⟩), hn.n, hn.t, hm, hp.po⟩

def Xo (s : Nat) (X : World) (q : Pw) (c : Ct) : Prop := X.cell? ⟨q.p, 0, none⟩ = some (.pointer (some ⟨q.nb, 0, none⟩)) ∧ Kc3 X s c
theorem Xo.kl {s : Nat} {X Y : World} {q : Pw} {c : Ct} {S : List Nat} (h : Xo s X q c) (hk : KL S X Y) (hS : ∀ k ∈ S, k ≠ q.p ∧ k < s) : Xo s Y q c := by
  have hc : ∀ b o v, X.cell? ⟨b, o, none⟩ = some v → b ∉ S → Y.cell? ⟨b, o, none⟩ = X.cell? ⟨b, o, none⟩ := fun b o v hv hb => World.cell?_of_block (hk.block b (World.block_lt_of_cell? X ⟨b, o, none⟩ hv) hb)
  have n0 : q.p ∉ S := fun e => (hS _ e).1 rfl
  have n1 : s ∉ S := fun e => by have := (hS _ e).2; omega
  have n2 : s + 1 ∉ S := fun e => by have := (hS _ e).2; omega
  have n3 : s + 1 + 1 ∉ S := fun e => by have := (hS _ e).2; omega
  obtain ⟨a0, ⟨a1, a2, a3⟩, a4, a5, a6, a7, a8, a9, a10, a11, a12⟩ := h
  exact ⟨(hc _ _ _ a0 n0).trans a0, ⟨(hc _ _ _ a1 n1).trans a1, (hc _ _ _ a2 n1).trans a2, (hc _ _ _ a3 n1).trans a3⟩, (hc _ _ _ a4 n2).trans a4, (hc _ _ _ a5 n2).trans a5, (hc _ _ _ a6 n2).trans a6, (hc _ _ _ a7 n3).trans a7, (hc _ _ _ a8 n3).trans a8, (hc _ _ _ a9 n3).trans a9, (hc _ _ _ a10 n3).trans a10, (hc _ _ _ a11 n3).trans a11, (hc _ _ _ a12 n3).trans a12⟩

theorem Po1.below {W W' : World} {q : Pw} {c : Ct} {Lk : Value} {pb rg cap : Nat} {us : List Ru} (h : Po1 W q c Lk pb rg cap us) (hb : Below W.heap.size W W') : Po1 W' q c Lk pb rg cap us := by
  have hlt : ∀ {k : Nat} {o : Obj}, W.heap[k]? = some o → W'.heap[k]? = some o := fun {k o} hk => (hb.block k (Array.getElem?_eq_some_iff.1 hk).1).trans hk
  obtain ⟨cur, h1, h2⟩ := h.kg
  exact ⟨h.pl.below hb, ⟨cur, hlt h1, h2⟩, hlt h.lb, h.t.below hb, hlt h.wm, h.nd.below hb, h.nt.below hb, hlt h.mp, h.po.below hb⟩
theorem Kc3.below {X Y : World} {b : Nat} {c : Ct} (h : Kc3 X b c) (hb : Below X.heap.size X Y) : Kc3 Y b c := by
  have l0 := World.block_lt_of_cell? X ⟨b, 0, none⟩ h.1.1
  have hl := h.2.lt
  refine ⟨?_, h.2.blocks (hb.block _ hl.1) (hb.block _ hl.2)⟩
  exact ⟨(hb.cell (p := ⟨b, 0, none⟩) l0).trans h.1.1, (hb.cell (p := ⟨b, 1, none⟩) l0).trans h.1.2.1, (hb.cell (p := ⟨b, 2, none⟩) l0).trans h.1.2.2⟩
/-- The plane and the boxes. -/
structure Zo (s : Nat) (X : World) (q : Pw) (c : Ct) (Lk : Value) (pb rg cap : Nat) (us : List Ru) : Prop where
  p : Po1 X q c Lk pb rg cap us
  k : Kc3 X s c
theorem Zo.below {s : Nat} {X Y : World} {q : Pw} {c : Ct} {Lk : Value} {pb rg cap : Nat} {us : List Ru} (h : Zo s X q c Lk pb rg cap us) (hb : Below X.heap.size X Y) : Zo s Y q c Lk pb rg cap us := ⟨h.p.below hb, h.k.below hb⟩
theorem Zo.al {s : Nat} {X : World} {q : Pw} {c : Ct} {Lk : Value} {pb rg cap : Nat} {us : List Ru} (h : Zo s X q c Lk pb rg cap us) (o : Obj) : Zo s (X.alloc o) q c Lk pb rg cap us := h.below ((Below.refl _ _).alloc (Nat.le_refl _) o)
theorem ZS9 {s : Nat} {X : World} {q : Pw} {c : Ct} {Lk : Value} {pb rg cap : Nat} {us : List Ru} (h : Zo s X q c Lk pb rg cap us) :
    X.cell? ⟨s, 0, none⟩ = some (.int .i64 0) ∧ X.cell? ⟨s, 1, none⟩ = some (.int .i64 0) ∧ X.cell? ⟨s, 2, none⟩ = some (.int .i64 40) ∧ X.cell? ⟨s + 1, 0, none⟩ = some (.int .i64 1) ∧ X.cell? ⟨s + 1, 1, none⟩ = some (.int .i64 0) ∧ X.cell? ⟨s + 1, 2, none⟩ = some (.int .i64 50) ∧ X.cell? ⟨q.p, 8, none⟩ = some (.int .i64 10) :=
  ⟨h.k.1.1, h.k.1.2.1, h.k.1.2.2, h.k.2.1, h.k.2.2.1, h.k.2.2.2.1, h.p.pl.c8⟩

/-- The plane, the boxes, the way and its alarm. -/
structure Yo (s : Nat) (X : World) (q : Pw) (c : Ct) (Lk : Value) (pb rg cap : Nat) (us : List Ru) (wy al : Nat) : Prop where
  z : Zo s X q c Lk pb rg cap us
  wy : X.heap[wy]? = some (.cells #[.int .i64 0, .int .i64 0, .int .i64 40, .int .i64 1, .int .i64 0, .int .i64 50, .pointer (some ⟨al, 0, none⟩), .bool false] 77 (0, 0))
  al : HasA X al
theorem Yo.below {s : Nat} {X Y : World} {q : Pw} {c : Ct} {Lk : Value} {pb rg cap : Nat} {us : List Ru} {wy al : Nat} (h : Yo s X q c Lk pb rg cap us wy al) (hb : Below X.heap.size X Y) : Yo s Y q c Lk pb rg cap us wy al :=
  ⟨h.z.below hb, (hb.block wy (Array.getElem?_eq_some_iff.1 h.wy).1).trans h.wy, h.al.below hb⟩
theorem YS10 {s : Nat} {X : World} {q : Pw} {c : Ct} {Lk : Value} {pb rg cap : Nat} {us : List Ru} {wy al : Nat} (h : Yo s X q c Lk pb rg cap us wy al) :
    X.cell? ⟨wy, 6, none⟩ = some (.pointer (some ⟨al, 0, none⟩)) ∧ X.cell? ⟨q.p, 1, none⟩ = some (.slice (some ⟨q.kg, 0, none⟩) 2 q.kcap) ∧ X.cell? ⟨s, 0, none⟩ = some (.int .i64 0) ∧ X.cell? ⟨q.kg, 0, none⟩ = some (.pointer (some ⟨q.lb, 0, none⟩)) ∧ X.cell? ⟨q.lb, 4, none⟩ = some (.bool false) := by
  obtain ⟨cur, h1, h2⟩ := h.z.p.kg
  exact ⟨by simp [World.cell?, h.wy], h.z.p.pl.c1, h.z.k.1.1, by simp [World.cell?, h1, h2], by simp [World.cell?, h.z.p.lb]⟩

theorem YS11 {s : Nat} {X : World} {q : Pw} {c : Ct} {Lk : Value} {pb rg cap : Nat} {us : List Ru} {wy al : Nat} (h : Yo s X q c Lk pb rg cap us wy al) :
    X.cell? ⟨q.p, 2, none⟩ = some (.pointer (some ⟨q.t0, 0, none⟩)) ∧ X.cell? ⟨s, 0, none⟩ = some (.int .i64 0) ∧ X.cell? ⟨s, 1, none⟩ = some (.int .i64 0) ∧ X.cell? ⟨s, 2, none⟩ = some (.int .i64 40) ∧ X.cell? ⟨q.p, 9, none⟩ = some (.int .i64 0) :=
  ⟨h.z.p.pl.c2, h.z.k.1.1, h.z.k.1.2.1, h.z.k.1.2.2, h.z.p.pl.c9⟩
theorem YS11' {s : Nat} {X Y : World} {q : Pw} {c : Ct} {Lk : Value} {pb rg cap : Nat} {us : List Ru} {wy al : Nat} (h : Yo s X q c Lk pb rg cap us wy al) (hs : q.t0 < s) (hk : Kept q.t0 q.t0 X Y) :
    Y.cell? ⟨q.p, 2, none⟩ = some (.pointer (some ⟨q.t0, 0, none⟩)) ∧ Y.cell? ⟨s, 0, none⟩ = some (.int .i64 0) ∧ Y.cell? ⟨s, 1, none⟩ = some (.int .i64 0) ∧ Y.cell? ⟨s, 2, none⟩ = some (.int .i64 40) ∧ Y.cell? ⟨q.p, 9, none⟩ = some (.int .i64 0) := by
  have hc : ∀ b o v, X.cell? ⟨b, o, none⟩ = some v → b ≠ q.t0 → Y.cell? ⟨b, o, none⟩ = some v := fun b o v hv hb => (World.cell?_of_block (hk.block b (World.block_lt_of_cell? X ⟨b, o, none⟩ hv) hb hb)).trans hv
  obtain ⟨cs, ht1, ht2⟩ := h.z.p.t
  have hp : q.p ≠ q.t0 := blk_ne (show X.heap[q.p]? = _ from h.z.p.pl) ht1 (by simp)
  have hs' : s ≠ q.t0 := by omega
  obtain ⟨a0, a1, a2, a3, a4⟩ := YS11 h
  exact ⟨hc _ _ _ a0 hp, hc _ _ _ a1 hs', hc _ _ _ a2 hs', hc _ _ _ a3 hs', hc _ _ _ a4 hp⟩

/-- The plane with its table's key; its map of ways is this; its next way is that. -/
structure Pq (W : World) (q : Pw) (c : Ct) (o : Obj) (nx : Int) : Prop where
  pl : Pl W q.p q.nb q.t0 q.wm q.cm (.slice (some ⟨q.kg, 0, none⟩) 2 q.kcap) nx 0 0 0
  kg : ∃ cur, W.heap[q.kg]? = some (.cells cur 59 (0, 0)) ∧ cur[0]? = some (.pointer (some ⟨q.lb, 0, none⟩))
  lb : W.heap[q.lb]? = some (.cells (linkC q.g) 67 (0, 0))
  t : Tb W q.t0 0 40 15 true
  wm : W.heap[q.wm]? = some o
  wy : W.heap[q.wy]? = some (.cells #[.int .i64 0, .int .i64 0, .int .i64 40, .int .i64 1, .int .i64 0, .int .i64 50, .pointer (some ⟨q.al, 0, none⟩), .bool false] 77 (0, 0))
  al : HasA W q.al
  nd : Nb W q.nb q.lk q.tb q.mp 1
  nt : Tb W q.tb 1 50 355 true
  mp : W.heap[q.mp]? = some (one (connV c q.pb))
  po : Po W q.pb q.rg q.cap (c.k == 7) q.rs (sigOf q.rs)
def Pw.full (q : Pw) (Lk : Value) (pb rg cap : Nat) (us : List Ru) (wy al : Nat) : Pw := ⟨q.p, q.nb, q.t0, q.wm, q.cm, q.kg, q.kcap, q.lb, q.g, wy, al, q.tb, q.mp, Lk, pb, rg, cap, us⟩
theorem Yo.put {s : Nat} {X Y : World} {q : Pw} {c : Ct} {Lk : Value} {pb rg cap : Nat} {us : List Ru} {wy al : Nat} (h : Yo s X q c Lk pb rg cap us wy al) (hne : q.tb ≠ q.t0) (ht : Tb Y q.t0 0 40 15 true) (hk : Kept q.t0 q.t0 X Y) :
    Pq Y (q.full Lk pb rg cap us wy al) c (.map #[] 0) 0 := by
  obtain ⟨cs, ht1, ht2⟩ := h.z.p.t
  obtain ⟨cs2, hu1, hu2⟩ := h.z.p.nt
  obtain ⟨cur, h1, h2⟩ := h.z.p.kg
  obtain ⟨cc, hpb⟩ := h.z.p.po.p
  obtain ⟨cur2, hr1, hr2⟩ := h.z.p.po.r
  have hlt : ∀ {k : Nat} {o : Obj}, X.heap[k]? = some o → k ≠ q.t0 → Y.heap[k]? = some o := fun {k o} hk1 hn => (hk.block k (Array.getElem?_eq_some_iff.1 hk1).1 hn hn).trans hk1
  have hsm : ∀ {k : Nat} {o : Obj}, X.heap[k]? = some o → k ≠ q.t0 → Y.heap[k]? = X.heap[k]? := fun {k o} hk1 hn => hk.block k (Array.getElem?_eq_some_iff.1 hk1).1 hn hn
  have hpl : X.heap[q.p]? = _ := h.z.p.pl
  have hnb : X.heap[q.nb]? = _ := h.z.p.nd
  have hal : X.heap[al]? = _ := h.al
  exact ⟨hlt hpl (blk_ne hpl ht1 (by simp)), ⟨cur, hlt h1 (blk_ne h1 ht1 (by simp)), h2⟩, hlt h.z.p.lb (blk_ne h.z.p.lb ht1 (by simp)), ht, hlt h.z.p.wm (blk_ne h.z.p.wm ht1 (by simp)), hlt h.wy (blk_ne h.wy ht1 (by simp)), hlt hal (blk_ne hal ht1 (by simp)),
    hlt hnb (blk_ne hnb ht1 (by simp)), ⟨cs2, hlt hu1 hne, hu2⟩, hlt h.z.p.mp (blk_ne h.z.p.mp ht1 (by simp)), h.z.p.po.same (hsm hpb.h (blk_ne hpb.h ht1 (by simp))) (hsm hr1 (blk_ne hr1 ht1 (by simp))) (fun u hu => hsm (h.z.p.po.b u hu) (blk_ne (h.z.p.po.b u hu) ht1 (by simp)))⟩
theorem Pq.drew {W : World} {q : Pw} {c : Ct} {o : Obj} {nx : Int} (h : Pq W q c o nx) : Pq W.drew q c o nx := ⟨h.pl, h.kg, h.lb, h.t, h.wm, h.wy, h.al, h.nd, h.nt, h.mp, h.po.same rfl rfl (fun _ _ => rfl)⟩
theorem Pq.way {W : World} {q : Pw} {c : Ct} {nx : Int} (h : Pq W q c (.map #[] 0) nx) (hne : q.wm ≠ q.mp) (o : Obj) : Pq (W.putObj q.wm o) q c o nx := by
  have hlt : ∀ {k : Nat} {o' : Obj}, W.heap[k]? = some o' → k ≠ q.wm → (W.putObj q.wm o).heap[k]? = some o' := fun {k o'} hk1 hn => (World.putObj_heap_other hn).trans hk1
  obtain ⟨cs, ht1, ht2⟩ := h.t
  obtain ⟨cs2, hu1, hu2⟩ := h.nt
  obtain ⟨cur, h1, h2⟩ := h.kg
  obtain ⟨cc, hpb⟩ := h.po.p
  obtain ⟨cur2, hr1, hr2⟩ := h.po.r
  have hpl : W.heap[q.p]? = _ := h.pl
  have hnb : W.heap[q.nb]? = _ := h.nd
  have hal : W.heap[q.al]? = _ := h.al
  have hw := h.wm
  exact ⟨hlt hpl (blk_ne hpl hw (by simp)), ⟨cur, hlt h1 (blk_ne h1 hw (by simp)), h2⟩, hlt h.lb (blk_ne h.lb hw (by simp)), ⟨cs, hlt ht1 (blk_ne ht1 hw (by simp)), ht2⟩, World.putObj_heap_same (Array.getElem?_eq_some_iff.1 hw).1, hlt h.wy (blk_ne h.wy hw (by simp)), hlt hal (blk_ne hal hw (by simp)),
    hlt hnb (blk_ne hnb hw (by simp)), ⟨cs2, hlt hu1 (blk_ne hu1 hw (by simp)), hu2⟩, hlt h.mp hne.symm, h.po.same (World.putObj_heap_other (blk_ne hpb.h hw (by simp))) (World.putObj_heap_other (blk_ne hr1 hw (by simp))) (fun u hu => World.putObj_heap_other (blk_ne (h.po.b u hu) hw (by simp)))⟩
theorem Pq.next {W : World} {q : Pw} {c : Ct} (h : Pq W q c (one (.pointer (some ⟨q.wy, 0, none⟩))) 0) : Ps (W.setCell ⟨q.p, 9, none⟩ (.int .i64 1)) q c (sigOf q.rs) 0 0 0 := by
  have hlt : ∀ {k : Nat} {o' : Obj}, W.heap[k]? = some o' → k ≠ q.p → (W.setCell ⟨q.p, 9, none⟩ (.int .i64 1)).heap[k]? = some o' := fun {k o'} hk1 hn => (Below.heap_setCell _ _ _ _ hn).trans hk1
  obtain ⟨cs, ht1, ht2⟩ := h.t
  obtain ⟨cs2, hu1, hu2⟩ := h.nt
  obtain ⟨cur, h1, h2⟩ := h.kg
  obtain ⟨cc, hpb⟩ := h.po.p
  obtain ⟨cur2, hr1, hr2⟩ := h.po.r
  have hpl : W.heap[q.p]? = _ := h.pl
  have hnb : W.heap[q.nb]? = _ := h.nd
  have hal : W.heap[q.al]? = _ := h.al
  exact ⟨h.pl.next' 1, ⟨cur, hlt h1 (blk_ne h1 hpl (by simp)), h2⟩, hlt h.lb (blk_ne h.lb hpl (by simp)), ⟨cs, hlt ht1 (blk_ne ht1 hpl (by simp)), ht2⟩, hlt h.wm (blk_ne h.wm hpl (by simp)), hlt h.wy (blk_ne h.wy hpl (by simp)), hlt hal (blk_ne hal hpl (by simp)),
    hlt hnb (blk_ne hnb hpl (by simp)), ⟨cs2, hlt hu1 (blk_ne hu1 hpl (by simp)), hu2⟩, hlt h.mp (blk_ne h.mp hpl (by simp)), h.po.same (Below.heap_setCell _ _ _ _ (blk_ne hpb.h hpl (by simp))) (Below.heap_setCell _ _ _ _ (blk_ne hr1 hpl (by simp))) (fun u hu => Below.heap_setCell _ _ _ _ (blk_ne (h.po.b u hu) hpl (by simp)))⟩
theorem KL.kept {S : List Nat} {a b d : World} {p : Nat} (h : KL S a b) (k : Kept p p b d) (hp : p ∈ S) : KL S a d := h.trans (KL.of_kept k hp hp)
theorem KL.putObj {S : List Nat} {a b : World} {p : Nat} (h : KL S a b) (o : Obj) (hp : p ∈ S) : KL S a (b.putObj p o) :=
  h.trans ⟨rfl, rfl, rfl, by simp, fun k hk h1 => World.putObj_heap_other (fun e => h1 (e ▸ hp))⟩

set_option maxRecDepth 100000 in
set_option maxHeartbeats 8000000 in
theorem open_at (q : Pw) (lg cap2 p2 m : Nat) (x : Lg) (c : Ct) (hc : c.Ok) (hx : x.Ok) (hlen : x.L.length < 1000000) (hlook : look x.L 0 = none) (hfit : ∀ n : Int, 0 ≤ n → n ≤ 1152921504606846976 → (c.k = 6 → n = 0) → n ≤ x.room - tot x.L) (w : World) (h : Po0 w q lg cap2 p2 m x) :
    Calls Tryz.prog 7 #[.pointer (some ⟨q.p, 0, none⟩), keyV 0 40, keyV 1 50, c.v] w fun e w' => e = .returned (.int .i64 0) ∧
      ∃ q' : Pw, q'.p = q.p ∧ q'.rs.map (·.r) = rulesOf c ∧ (q'.rs.map (·.b)).Nodup ∧ (∀ k ∈ q'.S, k = q.p ∨ w.heap.size ≤ k) ∧ Ps w' q' c (sigOf q'.rs) 0 0 0 ∧ KL [q.p, q.t0, q.wm, q.nb, q.tb, p2, m, q.mp] w w' := by
  have HB0 := Lib.hid ((((Below.refl w.heap.size w).alloc (Nat.le_refl _) (.cells #[.int .i64 0, .int .i64 0, .int .i64 40] 35)).alloc (by simp) (.cells #[.int .i64 1, .int .i64 0, .int .i64 50] 35)).alloc (by simp; omega) (.cells #[.int .i64 c.k, .int .i64 c.p, .int .i64 c.e, .int .i64 c.w, .int .i64 c.b, .int .i64 c.l] 23))
  have HP := Lib.hid (h.below HB0.out)
  have HLS := Lib.hid h.lst
  have HLT := Lib.hid (And.intro h.t.lt (And.intro h.pl.lt (Array.getElem?_eq_some_iff.1 h.wm).1))
  have HC := Lib.hid (And.intro hc (And.intro hx (And.intro hlen (And.intro hlook hfit))))
  clear hx hlen hlook hfit
  have hk2 := heap_new' ((w.alloc (.cells #[.int .i64 0, .int .i64 0, .int .i64 40] 35)).alloc (.cells #[.int .i64 1, .int .i64 0, .int .i64 50] 35)) (o := .cells #[.int .i64 c.k, .int .i64 c.p, .int .i64 c.e, .int .i64 c.w, .int .i64 c.b, .int .i64 c.l] 23) (n := w.heap.size + 1 + 1) (by simp)
  have hk1 : (((w.alloc (.cells #[.int .i64 0, .int .i64 0, .int .i64 40] 35)).alloc (.cells #[.int .i64 1, .int .i64 0, .int .i64 50] 35)).alloc (.cells #[.int .i64 c.k, .int .i64 c.p, .int .i64 c.e, .int .i64 c.w, .int .i64 c.b, .int .i64 c.l] 23)).heap[w.heap.size + 1]? = some (.cells #[.int .i64 1, .int .i64 0, .int .i64 50] 35 (0, 0)) := by
    rw [Below.heap_alloc _ _ _ (by simp), heap_new' _ (by simp)]
  have hk0 : (((w.alloc (.cells #[.int .i64 0, .int .i64 0, .int .i64 40] 35)).alloc (.cells #[.int .i64 1, .int .i64 0, .int .i64 50] 35)).alloc (.cells #[.int .i64 c.k, .int .i64 c.p, .int .i64 c.e, .int .i64 c.w, .int .i64 c.b, .int .i64 c.l] 23)).heap[w.heap.size]? = some (.cells #[.int .i64 0, .int .i64 0, .int .i64 40] 35 (0, 0)) := by
    rw [Below.heap_alloc _ _ _ (by simp; omega), Below.heap_alloc _ _ _ (by simp), heap_new' w rfl]
  have hxx : ∀ X, Below (((w.alloc (.cells #[.int .i64 0, .int .i64 0, .int .i64 40] 35)).alloc (.cells #[.int .i64 1, .int .i64 0, .int .i64 50] 35)).alloc (.cells #[.int .i64 c.k, .int .i64 c.p, .int .i64 c.e, .int .i64 c.w, .int .i64 c.b, .int .i64 c.l] 23)).heap.size (((w.alloc (.cells #[.int .i64 0, .int .i64 0, .int .i64 40] 35)).alloc (.cells #[.int .i64 1, .int .i64 0, .int .i64 50] 35)).alloc (.cells #[.int .i64 c.k, .int .i64 c.p, .int .i64 c.e, .int .i64 c.w, .int .i64 c.b, .int .i64 c.l] 23)) X → Kc3 X w.heap.size c := fun X hX => by
    have h0 := (hX.block w.heap.size (by simp; omega)).trans hk0
    exact ⟨⟨by simp [World.cell?, h0], by simp [World.cell?, h0], by simp [World.cell?, h0]⟩, Kc.mk' ((hX.block (w.heap.size + 1) (by simp)).trans hk1) ((hX.block (w.heap.size + 1 + 1) (by simp)).trans hk2)⟩
  clear h hc hk0 hk1 hk2
  go_enter Tryz.func7, Tryz.ntmps7
  go_wp2_with fail
  generalize ((w.alloc (.cells #[.int .i64 0, .int .i64 0, .int .i64 40] 35)).alloc (.cells #[.int .i64 1, .int .i64 0, .int .i64 50] 35)).alloc (.cells #[.int .i64 c.k, .int .i64 c.p, .int .i64 c.e, .int .i64 c.w, .int .i64 c.b, .int .i64 c.l] 23) = W at HB0 HP hxx ⊢
  have HX := Lib.hid hxx
  clear hxx
  obtain ⟨⟨z0, z1, z2⟩, k0, k1, k2, c0, c1, c2, c3, c4, c5⟩ := HX.out W (Below.refl _ _)
  refine (linked_at _ HP.out.pl).mono ?_
  rintro e w1 ⟨rfl, rfl⟩
  go_wp2_with fail
  refine (kright_at ks40 _).mono ?_
  rintro e w2 ⟨rfl, hb2⟩
  have HB2 := Lib.hid hb2
  clear hb2 z0 z1 z2 k0 k1 k2 c0 c1 c2 c3 c4 c5
  obtain ⟨⟨z0, z1, z2⟩, k0, k1, k2, c0, c1, c2, c3, c4, c5⟩ := HX.out w2 HB2.out
  have HP2 := Lib.hid (HP.out.below HB2.out)
  go_wp2_with (go_at_call 19; refine (pfind_at q.p q.nb q.t0 q.wm q.cm _ 0 0 0 0 false none _ HP2.out.pl HP2.out.t (.inl ⟨rfl, rfl, HP2.out.wm⟩)).mono ?_; rintro e w3 ⟨rfl, hb3⟩; have HB3 := Lib.hid (Below.nx HB2.out hb3); have HP3 := Lib.hid (HP2.out.below hb3); clear hb3 z0 z1 z2 k0 k1 k2 c0 c1 c2 c3 c4 c5)
  have hS := Lib.hid (show ∀ X, Xo w.heap.size X q c → X.cell? ⟨q.p, 0, none⟩ = some (.pointer (some ⟨q.nb, 0, none⟩)) ∧ X.cell? ⟨w.heap.size + 1, 0, none⟩ = some (.int .i64 1) ∧ X.cell? ⟨w.heap.size + 1, 1, none⟩ = some (.int .i64 0) ∧ X.cell? ⟨w.heap.size + 1, 2, none⟩ = some (.int .i64 50) ∧ X.cell? ⟨w.heap.size + 1 + 1, 0, none⟩ = some (.int .i64 c.k) ∧ X.cell? ⟨w.heap.size + 1 + 1, 1, none⟩ = some (.int .i64 c.p) ∧ X.cell? ⟨w.heap.size + 1 + 1, 2, none⟩ = some (.int .i64 c.e) ∧ X.cell? ⟨w.heap.size + 1 + 1, 3, none⟩ = some (.int .i64 c.w) ∧ X.cell? ⟨w.heap.size + 1 + 1, 4, none⟩ = some (.int .i64 c.b) ∧ X.cell? ⟨w.heap.size + 1 + 1, 5, none⟩ = some (.int .i64 c.l) from fun X hX => ⟨hX.1, hX.2.2⟩)
  have HPD := Lib.hid (HP3.out.below (Below.refl _ _).drew)
  have hX0 : Xo w.heap.size w3.drew q c := ⟨HP3.out.pl.c0, HX.out w3 HB3.out⟩
  go_region_held3 (fun X => X.cell? ⟨q.p, 0, none⟩ = some (.pointer (some ⟨q.nb, 0, none⟩)) ∧ X.cell? ⟨w.heap.size + 1, 0, none⟩ = some (.int .i64 1) ∧ X.cell? ⟨w.heap.size + 1, 1, none⟩ = some (.int .i64 0) ∧ X.cell? ⟨w.heap.size + 1, 2, none⟩ = some (.int .i64 50) ∧ X.cell? ⟨w.heap.size + 1 + 1, 0, none⟩ = some (.int .i64 c.k) ∧ X.cell? ⟨w.heap.size + 1 + 1, 1, none⟩ = some (.int .i64 c.p) ∧ X.cell? ⟨w.heap.size + 1 + 1, 2, none⟩ = some (.int .i64 c.e) ∧ X.cell? ⟨w.heap.size + 1 + 1, 3, none⟩ = some (.int .i64 c.w) ∧ X.cell? ⟨w.heap.size + 1 + 1, 4, none⟩ = some (.int .i64 c.b) ∧ X.cell? ⟨w.heap.size + 1 + 1, 5, none⟩ = some (.int .i64 c.l)) (with_reducible exact hS.out _ (by assumption))
    (first | (go_at_call 20; refine (adtake_at HC.out.1 HC.out.2.1 HC.out.2.2.1 HC.out.2.2.2.1 HC.out.2.2.2.2 _ HPD.out.nd HPD.out.mp).mono ?_; rintro e w4 ⟨rfl, pb, rg, cap3, us, y, hpn, hm4, hn4, hk4⟩; have hX4 : Xo w.heap.size w4 q c := hX0.kl hk4 HLS.out))
  have hP4 := HPD.out.take hn4 hm4 hpn hk4
  have HZ4 := Lib.hid (And.intro hP4 (And.intro hX4 (And.intro hpn (And.intro hk4 hn4))))
  clear hP4 hX4 hX0 hpn hm4 hn4 hk4
  go_wp2_with fail
  have hZ : Zo w.heap.size w4.drew q c _ pb rg cap3 us := (Zo.mk HZ4.out.1 HZ4.out.2.1.2).below (Below.refl _ _).drew
  go_region_held3 (fun X => X.cell? ⟨w.heap.size, 0, none⟩ = some (.int .i64 0) ∧ X.cell? ⟨w.heap.size, 1, none⟩ = some (.int .i64 0) ∧ X.cell? ⟨w.heap.size, 2, none⟩ = some (.int .i64 40) ∧ X.cell? ⟨w.heap.size + 1, 0, none⟩ = some (.int .i64 1) ∧ X.cell? ⟨w.heap.size + 1, 1, none⟩ = some (.int .i64 0) ∧ X.cell? ⟨w.heap.size + 1, 2, none⟩ = some (.int .i64 50) ∧ X.cell? ⟨q.p, 8, none⟩ = some (.int .i64 10)) (first | (with_reducible exact ZS9 (by assumption)) | (with_reducible exact ZS9 (Zo.al (by assumption) _)))
    (first | (go_at_call 21; refine (anew_at _).mono ?_; rintro e w5 ⟨al, rfl, hal, hA5, hb5⟩; have hZ5 := hZ.below hb5))
  obtain ⟨wy, ewy⟩ : ∃ wy, w5.heap.size = wy := ⟨_, rfl⟩
  have hb6 := (Below.refl w5.heap.size w5).alloc (Nat.le_refl _) (.cells #[.int .i64 0, .int .i64 0, .int .i64 40, .int .i64 1, .int .i64 0, .int .i64 50, .pointer (some ⟨al, 0, none⟩), .bool false] 77)
  have hw6 := heap_new' w5 (o := .cells #[.int .i64 0, .int .i64 0, .int .i64 40, .int .i64 1, .int .i64 0, .int .i64 50, .pointer (some ⟨al, 0, none⟩), .bool false] 77) ewy
  have hY6 : Yo w.heap.size (w5.alloc (.cells #[.int .i64 0, .int .i64 0, .int .i64 40, .int .i64 1, .int .i64 0, .int .i64 50, .pointer (some ⟨al, 0, none⟩), .bool false] 77)) q c _ pb rg cap3 us wy al := ⟨hZ5.below hb6, hw6, hA5.below hb6⟩
  rw [ewy]
  have HO6 := Lib.hid (And.intro hb5 (And.intro hb6 hal))
  clear hZ hal hA5 hb5 hZ5 hb6 hw6 ewy
  generalize w5.alloc (.cells #[.int .i64 0, .int .i64 0, .int .i64 40, .int .i64 1, .int .i64 0, .int .i64 50, .pointer (some ⟨al, 0, none⟩), .bool false] 77) = w6 at hY6 HO6 ⊢
  go_wp2_with fail
  have hY7 := hY6.below (Below.refl _ _).drew
  clear hY6
  go_region_held3 (fun X => X.cell? ⟨wy, 6, none⟩ = some (.pointer (some ⟨al, 0, none⟩)) ∧ X.cell? ⟨q.p, 1, none⟩ = some (.slice (some ⟨q.kg, 0, none⟩) 2 q.kcap) ∧ X.cell? ⟨w.heap.size, 0, none⟩ = some (.int .i64 0) ∧ X.cell? ⟨q.kg, 0, none⟩ = some (.pointer (some ⟨q.lb, 0, none⟩)) ∧ X.cell? ⟨q.lb, 4, none⟩ = some (.bool false)) (with_reducible exact YS10 (by assumption))
    (first | (go_at_call 22; refine (adown_at al _ hY7.al).mono ?_; rintro e w7 ⟨⟨v7, rfl⟩, hb7⟩; have hY8 := hY7.below hb7))
  have HO8 := Lib.hid hb7
  clear hY7 hb7
  go_wp2_with fail
  have hY9 := hY8.below (Below.refl _ _).drew
  clear hY8
  go_region_held3 (fun X => X.cell? ⟨q.p, 2, none⟩ = some (.pointer (some ⟨q.t0, 0, none⟩)) ∧ X.cell? ⟨w.heap.size, 0, none⟩ = some (.int .i64 0) ∧ X.cell? ⟨w.heap.size, 1, none⟩ = some (.int .i64 0) ∧ X.cell? ⟨w.heap.size, 2, none⟩ = some (.int .i64 40) ∧ X.cell? ⟨q.p, 9, none⟩ = some (.int .i64 0)) (first | (with_reducible exact YS11 (by assumption)) | (with_reducible assumption))
    (first | (go_at_call 23; refine (tput_40 q.t0 _ hY9.z.p.t).mono ?_; rintro e w8 ⟨rfl, ht8, hk8⟩; have hQ8 := hY9.put HPD.out.ne.2.2 ht8 hk8; have hS8 := YS11' hY9 HLT.out.1 hk8))
  have HO9 := Lib.hid hk8
  clear hY9 hk8 ht8 hS8
  go_wp2_with fail
  have d3 : w8.cell? ⟨q.p, 3, none⟩ = some (.map (some q.wm)) := hQ8.pl.c3
  have d9 : w8.cell? ⟨q.p, 9, none⟩ = some (.int .i64 0) := hQ8.pl.c9
  have hlm : (Instr.mapUpdate 54 (.map (some q.wm)) (.int .i64 0) (.pointer (some ⟨wy, 0, none⟩))).run Tryz.prog w8.drew = .ok () (w8.drew.putObj q.wm (one (.pointer (some ⟨wy, 0, none⟩)))) := run_update_one (W := w8.drew) Tryz.underlying54 Tryz.underlying3 hQ8.drew.wm _
  have hQ9 : Pq (w8.drew.putObj q.wm (one (.pointer (some ⟨wy, 0, none⟩)))) (q.full (.slice (some ⟨lg, 0, none⟩) 2 cap2) pb rg cap3 us wy al) c (one (.pointer (some ⟨wy, 0, none⟩))) 0 := hQ8.drew.way (show q.wm ≠ q.mp from HPD.out.ne.1) (one (.pointer (some ⟨wy, 0, none⟩)))
  go_still_tail 9, (by kernel_rfl)
  change wpList _ _ _ _ _ w8.drew
  clear d3 d9
  have d3 : w8.drew.cell? ⟨q.p, 3, none⟩ = some (.map (some q.wm)) := hQ8.drew.pl.c3
  go_upto_region 13 with fail
  have HO10 := Lib.hid (KL.putObj (p := q.wm) (KL.refl [q.wm] w8.drew) (one (.pointer (some ⟨wy, 0, none⟩))) (by simp))
  clear hlm d3 hQ8
  generalize w8.drew.putObj q.wm (one (.pointer (some ⟨wy, 0, none⟩))) = w9 at hQ9 HO10 ⊢
  have d9 : w9.cell? ⟨q.p, 9, none⟩ = some (.int .i64 0) := hQ9.pl.c9
  have f9 : w9.frozen? ⟨q.p, 9, none⟩ = false := hQ9.pl.fr 9
  go_wp2_with fail
  go_ret
  have k3 : KL [q.p, q.t0, q.wm, q.nb, q.tb, p2, m, q.mp] w w3 := (KL.of_below HB0.out).after HB3.out
  have k4 := k3.drew.trans (HZ4.out.2.2.2.1.mono (T := [q.p, q.t0, q.wm, q.nb, q.tb, p2, m, q.mp]) (fun k hk => by simp only [List.mem_cons, List.not_mem_nil, or_false] at hk ⊢; omega))
  have k7 := ((k4.drew.after HO6.out.1).after HO6.out.2.1).drew.after HO8.out
  have k8 := (k7.drew.kept HO9.out (by simp)).drew.trans (HO10.out.mono (T := [q.p, q.t0, q.wm, q.nb, q.tb, p2, m, q.mp]) (fun k hk => by simp only [List.mem_cons, List.not_mem_nil, or_false] at hk ⊢; omega))
  have hge := HZ4.out.2.2.1.ge
  have hsz : w.heap.size ≤ w3.drew.heap.size := Nat.le_trans HB0.out.size HB3.out.size
  refine ⟨rfl, q.full (.slice (some ⟨lg, 0, none⟩) 2 cap2) pb rg cap3 us wy al, rfl, HZ4.out.2.2.1.rs, HZ4.out.2.2.1.nd, ?_, hQ9.next, k8.trans (KL.set _ (by simp))⟩
  intro k hk
  simp only [Pw.S, Pw.full, List.mem_cons, List.mem_map] at hk
  rcases hk with rfl | rfl | ⟨u, hu, rfl⟩
  · exact .inl rfl
  · exact .inr (Nat.le_trans hsz hge.1)
  · exact .inr (Nat.le_trans hsz (hge.2.2 u hu))

end Go.Proofs.YtcfhjkmebnmcjaaGreat
