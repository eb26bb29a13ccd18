/- The plain law of TopShaped: what fits the shaping bucket fits the bucket of each rule. -/
import Derived.Test.YtcfhjkmebnmcjaaGreatZ
namespace Go.Proofs.YtcfhjkmebnmcjaaGreat
open Go.RowKit Go.Shelf
set_option linter.unusedVariables false
set_option linter.unusedSimpArgs false

theorem σp_far {σ : Nat → Bk} {t : Int} {b : Nat} : ∀ {us : List Ru}, b ∉ us.map (·.b) → σp σ t us b = σ b := by
  intro us
  induction us generalizing σ with
  | nil => intro _; rfl
  | cons q r ih =>
    intro h
    simp only [List.map_cons, List.mem_cons, not_or] at h
    have e : σp σ t (q :: r) b = σp (upd σ t q) t r b := rfl
    rw [e, ih h.2]
    unfold upd
    rw [if_neg h.1]
theorem σp_at {σ : Nat → Bk} {t : Int} : ∀ {us : List Ru}, (us.map (·.b)).Nodup → ∀ u ∈ us, σp σ t us u.b = takeB (σ u.b) t := by
  intro us
  induction us generalizing σ with
  | nil => intro _ u hu; cases hu
  | cons q r ih =>
    intro hnd u hu
    simp only [List.map_cons, List.nodup_cons] at hnd
    have e : σp σ t (q :: r) u.b = σp (upd σ t q) t r u.b := rfl
    rw [e]
    rcases List.mem_cons.1 hu with rfl | hu
    · rw [σp_far hnd.1]
      unfold upd
      rw [if_pos rfl]
    · rw [ih hnd.2 u hu]
      have hne : u.b ≠ q.b := fun e => hnd.1 (by rw [← e]; exact List.mem_map.2 ⟨u, hu, rfl⟩)
      unfold upd
      rw [if_neg hne]

/-- The shaping bucket is behind none of the rules' buckets. -/
structure Jn (s : Bk) (σ : Nat → Bk) (us : List Ru) : Prop where
  e : s.e = 0
  u : ∀ u ∈ us, (σ u.b).s ≤ s.s ∧ 0 ≤ (σ u.b).e ∧ (σ u.b).a = s.a ∧ (σ u.b).n ≤ s.n

theorem Jn.fit {s : Bk} {σ : Nat → Bk} {us : List Ru} (h : Jn s σ us) {t : Int} (hf : fitB s t = true) : ∀ u ∈ us, fitB (σ u.b) t = true := fun u hu => by
  obtain ⟨h1, h2, h3, h4⟩ := h.u u hu
  have he := h.e
  unfold fitB at hf ⊢
  rw [h3]
  cases ha : s.a
  · rfl
  · rw [ha] at hf
    simp only [Bool.not_true, Bool.false_or, decide_eq_true_eq] at hf ⊢
    omega
theorem Jn.step {s : Bk} {σ : Nat → Bk} {us : List Ru} (h : Jn s σ us) (hnd : (us.map (·.b)).Nodup) {t : Int} (hf : fitB s t = true) : Jn (takeB s t) (σp σ t us) us := by
  have es : takeB s t = tookB s t := by unfold takeB; rw [hf]; rfl
  rw [es]
  refine ⟨h.e, fun u hu => ?_⟩
  obtain ⟨h1, h2, h3, h4⟩ := h.u u hu
  have eu : takeB (σ u.b) t = tookB (σ u.b) t := by unfold takeB; rw [h.fit hf u hu]; rfl
  rw [σp_at hnd u hu, eu]
  unfold tookB
  refine ⟨h1, h2, rfl, ?_⟩
  simp only
  omega
theorem Jn.start {us : List Ru} {c : Ct} {x : Int} (hx : c.p ≤ x ∧ c.w ≤ x) (hrs : us.map (·.r) = rulesOf c) (hnd : (us.map (·.b)).Nodup) : Jn ⟨hold x 1 1152921504606846976, hold 0 0 1152921504606846976, 0, false⟩ (sigOf us) us := by
  refine ⟨by show hold 0 0 _ = 0; unfold hold; omega, fun u hu => ?_⟩
  rw [sigOf_at hnd hu]
  have hr : u.r ∈ rulesOf c := by rw [← hrs]; exact List.mem_map.2 ⟨u, hu, rfl⟩
  have hs : u.r.s = c.p ∨ u.r.s = c.w := by
    unfold rulesOf at hr
    rcases List.mem_cons.1 hr with e | e
    · rw [e]; exact .inl rfl
    · split at e
      · exact .inr (by rw [List.mem_singleton.1 e])
      · split at e
        · exact .inr (by rw [List.mem_singleton.1 e])
        · split at e
          · exact .inr (by rw [List.mem_singleton.1 e])
          · cases e
  refine ⟨?_, ?_, rfl, Int.le_refl _⟩
  · simp only [newBk, hold]; omega
  · simp only [newBk, hold]; omega

/-- A store into a bucket that is none of the plane's. -/
theorem Ps.grow {W W' : World} {q : Pw} {c : Ct} {σ : Nat → Bk} {now a t : Int} (h : Ps W q c σ now a t) {sb : Nat} {s : Bk} (hs : HasB W sb s) (hne : ∀ u ∈ q.rs, u.b ≠ sb) (hg : W.grownBy W' (some sb)) : Ps W' q c σ now a t := by
  have hsm : ∀ {k : Nat} {o : Obj}, W.heap[k]? = some o → k ≠ sb → W'.heap[k]? = W.heap[k]? := fun {k o} hk1 hn => hg.block k (Array.getElem?_eq_some_iff.1 hk1).1 (fun e => hn (Option.some.inj e))
  have hlt : ∀ {k : Nat} {o : Obj}, W.heap[k]? = some o → (∀ cs, o ≠ .cells cs 82 (0, 0)) → W'.heap[k]? = some o := fun {k o} hk1 hn => (hsm hk1 (blk_ne hk1 hs (hn _))).trans hk1
  obtain ⟨cc, hpb⟩ := h.po.p
  obtain ⟨cur2, hr1, hr2⟩ := h.po.r
  obtain ⟨cur, h1, h2⟩ := h.kg
  obtain ⟨cs, ht1, ht2⟩ := h.t
  obtain ⟨cs2, hu1, hu2⟩ := h.nt
  exact ⟨hlt h.pl (by simp), ⟨cur, hlt h1 (by simp), h2⟩, hlt h.lb (by simp), ⟨cs, hlt ht1 (by simp), ht2⟩, hlt h.wm (by simp), hlt h.wy (by simp), hlt h.al (by simp),
    hlt h.nd (by simp), ⟨cs2, hlt hu1 (by simp), hu2⟩, hlt h.mp (by simp), h.po.same (hsm hpb.h (blk_ne hpb.h hs (by simp))) (hsm hr1 (blk_ne hr1 hs (by simp))) (fun u hu => hsm (h.po.b u hu) (hne u hu))⟩

/-- What lies in a plane's changing blocks lies below the heap's end. -/
theorem Ps.lts {W : World} {q : Pw} {c : Ct} {σ : Nat → Bk} {now a t : Int} (h : Ps W q c σ now a t) : ∀ k ∈ q.S, k < W.heap.size := fun k hk => by
  simp only [Pw.S, List.mem_cons, List.mem_map] at hk
  obtain ⟨cc, hpb⟩ := h.po.p
  rcases hk with rfl | rfl | ⟨u, hu, rfl⟩
  · exact h.pl.lt
  · exact hpb.lt
  · exact (h.po.b u hu).lt

/-- What the walk is told of a slice of numbers that is only read: it is empty; or it leads to cells that hold the numbers. -/
def Rd (w : World) (A : Option Addr) (zs : List Int) : Prop :=
  zs = [] ∨ ∃ b off, A = some ⟨b, off, none⟩ ∧ b < w.heap.size ∧ ∀ j, j < zs.length → w.cell? ⟨b, off + j, none⟩ = some (.int .u32 (zs[j]?.getD 0))
theorem Rd.below {w w' : World} {A : Option Addr} {zs : List Int} (h : Rd w A zs) {B : Nat} (hb : Below B w w') (hB : w.heap.size ≤ B) : Rd w' A zs := by
  rcases h with h | ⟨b, off, h1, h2, h3⟩
  · exact .inl h
  · exact .inr ⟨b, off, h1, Nat.lt_of_lt_of_le h2 hb.size, fun j hj => (hb.cell (p := ⟨b, off + j, none⟩) (Nat.lt_of_lt_of_le h2 hB)).trans (h3 j hj)⟩
def Small (zs : List Int) : Prop := ∀ j : Nat, 0 ≤ zs[j]?.getD 0 ∧ zs[j]?.getD 0 ≤ 4294967295

/-- The rounds of the law. -/
structure Lp (w X : World) (q : Pw) (c : Ct) (sb : Nat) (s : Bk) (σ : Nat → Bk) (tv nn : Int) : Prop where
  ps : ∃ now, 0 ≤ now ∧ now ≤ tv ∧ Ps X q c σ now (if c.k == 7 then 0 else nn) (if c.k == 7 then nn else 0)
  hb : HasB X sb s
  ok : s.Ok
  j : Jn s σ q.rs
  bel : Below (w.heap.size + 1) (w.alloc (.cells #[.int .i64 c.k, .int .i64 c.p, .int .i64 c.e, .int .i64 c.w, .int .i64 c.b, .int .i64 c.l] 23)) X
/-- What the rounds lean on. -/
structure Lq (w : World) (q : Pw) (c : Ct) (sb : Nat) : Prop where
  rs : q.rs.map (·.r) = rulesOf c
  nd : (q.rs.map (·.b)).Nodup
  ge : ∀ k ∈ q.S, w.heap.size + 1 ≤ k
  lt : ∀ k ∈ q.S, k < sb
theorem Lq.ne {w : World} {q : Pw} {c : Ct} {sb : Nat} (h : Lq w q c sb) : ∀ u ∈ q.rs, u.b ≠ sb := fun u hu e => by
  have := h.lt u.b (by simp only [Pw.S, List.mem_cons, List.mem_map]; exact .inr (.inr ⟨u, hu, rfl⟩))
  omega
theorem Lq.sb {w : World} {q : Pw} {c : Ct} {sb : Nat} (h : Lq w q c sb) : w.heap.size + 1 ≤ sb := by
  have h1 := h.ge q.p (by simp [Pw.S])
  have h2 := h.lt q.p (by simp [Pw.S])
  omega
theorem Lp.sz {w X : World} {q : Pw} {c : Ct} {sb : Nat} {s : Bk} {σ : Nat → Bk} {tv nn : Int} (h : Lp w X q c sb s σ tv nn) : w.heap.size + 1 ≤ X.heap.size := by
  have := h.bel.size
  simpa using this
theorem Lp.below {w X Y : World} {q : Pw} {c : Ct} {sb : Nat} {s : Bk} {σ : Nat → Bk} {tv nn : Int} (h : Lp w X q c sb s σ tv nn) (hb : Below X.heap.size X Y) : Lp w Y q c sb s σ tv nn := by
  obtain ⟨now, h1, h2, h3⟩ := h.ps
  exact ⟨⟨now, h1, h2, h3.below hb⟩, (hb.block sb h.hb.lt).trans h.hb, h.ok, h.j, h.bel.trans (hb.mono h.sz)⟩
theorem Lp.later {w X : World} {q : Pw} {c : Ct} {sb : Nat} {s : Bk} {σ : Nat → Bk} {tv nn : Int} (h : Lp w X q c sb s σ tv nn) {t2 : Int} (ht : tv ≤ t2) : Lp w X q c sb s σ t2 nn := by
  obtain ⟨now, h1, h2, h3⟩ := h.ps
  exact ⟨⟨now, h1, Int.le_trans h2 ht, h3⟩, h.hb, h.ok, h.j, h.bel⟩
/-- The box of the contract. -/
theorem Lp.box {w X : World} {q : Pw} {c : Ct} {sb : Nat} {s : Bk} {σ : Nat → Bk} {tv nn : Int} (h : Lp w X q c sb s σ tv nn) : X.cell? ⟨w.heap.size, 0, none⟩ = some (.int .i64 c.k) := by
  have hk := heap_new' w (o := .cells #[.int .i64 c.k, .int .i64 c.p, .int .i64 c.e, .int .i64 c.w, .int .i64 c.b, .int .i64 c.l] 23) rfl
  have h1 := (h.bel.block w.heap.size (Nat.lt_succ_self _)).trans hk
  simp [World.cell?, h1]
theorem Lp.rd {w X : World} {q : Pw} {c : Ct} {sb : Nat} {s : Bk} {σ : Nat → Bk} {tv nn : Int} (h : Lp w X q c sb s σ tv nn) {A : Option Addr} {zs : List Int} (hr : Rd w A zs) : Rd X A zs :=
  (hr.below ((Below.refl w.heap.size w).alloc (Nat.le_refl _) (.cells #[.int .i64 c.k, .int .i64 c.p, .int .i64 c.e, .int .i64 c.w, .int .i64 c.b, .int .i64 c.l] 23)) (Nat.le_refl _)).below h.bel (by simp)

/-- The bucket takes a cell; the plane is as it was. -/
structure Lt (w X : World) (q : Pw) (c : Ct) (sb : Nat) (s : Bk) (σ : Nat → Bk) (tv nn : Int) : Prop where
  ps : ∃ now, 0 ≤ now ∧ now ≤ tv ∧ Ps X q c σ now (if c.k == 7 then 0 else nn) (if c.k == 7 then nn else 0)
  hb : HasB X sb (takeB s tv)
  ok : s.Ok
  j : Jn s σ q.rs
  bel : Below (w.heap.size + 1) (w.alloc (.cells #[.int .i64 c.k, .int .i64 c.p, .int .i64 c.e, .int .i64 c.w, .int .i64 c.b, .int .i64 c.l] 23)) X
theorem Lp.take {w X Y : World} {q : Pw} {c : Ct} {sb : Nat} {s : Bk} {σ : Nat → Bk} {tv nn : Int} {v : Value} {e : Ending} (h : Lp w X q c sb s σ tv nn) (hq : Lq w q c sb) (hs : SetsB sb (takeB s tv) v X e Y) : Lt w Y q c sb s σ tv nn := by
  obtain ⟨_, h2, h3, h4⟩ := hs
  obtain ⟨now, n1, n2, n3⟩ := h.ps
  have hsb := hq.sb
  refine ⟨⟨now, n1, n2, n3.grow h.hb hq.ne h3⟩, h2, h.ok, h.j, ?_⟩
  exact h.bel.grown h3 h.sz (fun k e => by have := Option.some.inj e; omega)
theorem Lt.below {w X Y : World} {q : Pw} {c : Ct} {sb : Nat} {s : Bk} {σ : Nat → Bk} {tv nn : Int} (h : Lt w X q c sb s σ tv nn) (hb : Below X.heap.size X Y) : Lt w Y q c sb s σ tv nn := by
  obtain ⟨now, h1, h2, h3⟩ := h.ps
  have hz : w.heap.size + 1 ≤ X.heap.size := by have := h.bel.size; simpa using this
  exact ⟨⟨now, h1, h2, h3.below hb⟩, (hb.block sb h.hb.lt).trans h.hb, h.ok, h.j, h.bel.trans (hb.mono hz)⟩
/-- It did not fit. -/
theorem Lt.no {w X : World} {q : Pw} {c : Ct} {sb : Nat} {s : Bk} {σ : Nat → Bk} {tv nn : Int} (h : Lt w X q c sb s σ tv nn) (hf : fitB s tv = false) : Lp w X q c sb s σ tv nn := by
  have e : takeB s tv = s := by unfold takeB; rw [hf]; rfl
  have hb := h.hb
  rw [e] at hb
  exact ⟨h.ps, hb, h.ok, h.j, h.bel⟩
/-- It fits, and the plane is told of it. -/
theorem Lt.yes {w X Y : World} {q : Pw} {c : Ct} {sb : Nat} {s : Bk} {σ : Nat → Bk} {tv nn : Int} (h : Lt w X q c sb s σ tv nn) (hq : Lq w q c sb) (hf : fitB s tv = true) (h0 : 0 ≤ tv)
    (hp : Ps Y q c (σp σ tv q.rs) tv (if c.k == 7 then (if c.k == 7 then 0 else nn) else (if c.k == 7 then 0 else nn) + 1) (if c.k == 7 then (if c.k == 7 then nn else 0) + 1 else (if c.k == 7 then nn else 0))) (hk : KL q.S X Y) : Lp w Y q c sb (takeB s tv) (σp σ tv q.rs) tv (nn + 1) := by
  have hz : w.heap.size + 1 ≤ X.heap.size := by have := h.bel.size; simpa using this
  refine ⟨⟨tv, h0, Int.le_refl _, ?_⟩, (hk.block sb h.hb.lt (fun e => by have := hq.lt sb e; omega)).trans h.hb, takeB_ok h.ok tv, h.j.step hq.nd hf, h.bel.trans (hk.below hz hq.ge)⟩
  cases hc : (c.k == 7)
  · simpa [hc] using hp
  · simpa [hc] using hp

theorem mkb_at {w W : World} {q : Pw} {c : Ct} (x : Int) (hx : c.p ≤ x ∧ c.w ≤ x) (hrs : q.rs.map (·.r) = rulesOf c) (hnd : (q.rs.map (·.b)).Nodup) (hge : ∀ k ∈ q.S, w.heap.size + 1 ≤ k) (hps : Ps W q c (sigOf q.rs) 0 0 0)
    (hbel : Below (w.heap.size + 1) (w.alloc (.cells #[.int .i64 c.k, .int .i64 c.p, .int .i64 c.e, .int .i64 c.w, .int .i64 c.b, .int .i64 c.l] 23)) W) :
    Calls Tryz.prog 8 #[.int .i64 x, .int .i64 0] W fun e w' => ∃ sb s0, e = .returned (.pointer (some ⟨sb, 0, none⟩)) ∧ Lq w q c sb ∧ Lp w w' q c sb s0 (sigOf q.rs) 0 0 := by
  refine (new_any x 0 _).mono ?_
  rintro e w6 ⟨sb, rfl, hsb, h6, g6⟩
  have b6 : Below W.heap.size W w6 := ⟨g6.os, g6.tape, g6.output, g6.size, fun k hk => g6.block k hk (by simp)⟩
  have hz : w.heap.size + 1 ≤ W.heap.size := by have := hbel.size; simpa using this
  refine ⟨sb, _, rfl, ⟨hrs, hnd, hge, fun k hk => Nat.lt_of_lt_of_le (hps.lts k hk) hsb⟩, ⟨⟨0, Int.le_refl _, Int.le_refl _, ?_⟩, h6, hold_ok _ _, Jn.start hx hrs hnd, hbel.trans (b6.mono hz)⟩⟩
  simpa using hps.below b6
theorem Lp.take_at {w X : World} {q : Pw} {c : Ct} {sb : Nat} {s : Bk} {σ : Nat → Bk} {tv nn : Int} (h : Lp w X q c sb s σ tv nn) (hq : Lq w q c sb) :
    Calls Tryz.prog 9 #[.pointer (some ⟨sb, 0, none⟩), .int .i64 tv] X fun e Y => e = .returned (.bool (fitB s tv)) ∧ Lt w Y q c sb s σ tv nn :=
  (take_any s h.ok sb tv X h.hb).mono fun e Y hs => ⟨hs.1, h.take hq hs⟩
theorem Lt.arrive_at {w X : World} {q : Pw} {c : Ct} {sb : Nat} {s : Bk} {σ : Nat → Bk} {tv nn : Int} (h : Lt w X q c sb s σ tv nn) (hq : Lq w q c sb) (hf : fitB s tv = true) (h0 : 0 ≤ tv) (h1 : tv ≤ 1152921504606846976) (hn0 : 0 ≤ nn) (hn1 : nn ≤ 1000000) {gb cap : Nat} (hi : In40 X gb) (hcap : 53 ≤ cap) :
    Calls Tryz.prog 10 #[.pointer (some ⟨q.p, 0, none⟩), .int .i64 tv, .int .i64 0, .slice (some ⟨gb, 0, none⟩) 53 cap] X fun e Y => (∃ x, e = .returned (.tuple #[.slice (some ⟨x, 0, none⟩) 1 1, .int .i64 0])) ∧ Lp w Y q c sb (takeB s tv) (σp σ tv q.rs) tv (nn + 1) := by
  obtain ⟨now, n1, n2, n3⟩ := h.ps
  have hl := rs_len hq.rs
  refine (Go.Proofs.YtcfhjkmebnmcjaaGreat.arrive_at q c σ now _ _ tv gb cap X n3 n2 h1 (by omega) (h.j.fit hf) (by split <;> omega) (by split <;> omega) hi hcap).mono ?_
  rintro e Y ⟨he, hp, hk⟩
  exact ⟨he, h.yes hq hf h0 hp hk⟩

end Go.Proofs.YtcfhjkmebnmcjaaGreat
