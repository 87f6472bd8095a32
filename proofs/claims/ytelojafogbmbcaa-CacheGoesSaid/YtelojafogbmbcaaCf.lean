/- A cache, its Back and what is held beside them, in one word; the chapter's examples. -/
import Derived.Test.YtelojafogbmbcaaCe
set_option linter.unusedVariables false
set_option linter.unusedSimpArgs false
namespace Go.Proofs.Ytelojafogbmbcaa
open Go Go.Sx
variable {B : BkI Try.prog}

/-- A cache at c, its Back, and slices apart from both; all of it newer than w0. -/
structure CSX (B : BkI Try.prog) (w0 : World) (N c n : Nat) (L : List (Sl × List UInt8)) (Z : List (Nat × Obj)) (s : CSt B) (w : World) (F G : Nat → Prop) : Prop where
  ca : CaAt B N w c F s.ps s.hand
  bk : B.At w G s.b
  dj : Dj F G
  rs : B.rest s.b n
  kp : Keeps [] w0 w
  nw : ∀ x, F x ∨ G x → w0.heap.size ≤ x
  sl : ∀ p ∈ L, SlC w p.1 1 (cB p.2) ∧ ∀ x ∈ blk p.1, w0.heap.size ≤ x ∧ ¬ F x ∧ ¬ G x
  zs : ∀ z ∈ Z, w.heap[z.1]? = some z.2 ∧ w0.heap.size ≤ z.1 ∧ ¬ F z.1 ∧ ¬ G z.1 ∧ ∀ p ∈ L, z.1 ∉ blk p.1
def CS (B : BkI Try.prog) (w0 : World) (N c n : Nat) (L : List (Sl × List UInt8)) (Z : List (Nat × Obj)) (s : CSt B) (w : World) : Prop := ∃ F G, CSX B w0 N c n L Z s w F G

theorem CS.drop {w0 w : World} {N c n n' : Nat} {L L' : List (Sl × List UInt8)} {Z Z' : List (Nat × Obj)} {s : CSt B} (h : CS B w0 N c n L Z s w) (hL : ∀ p ∈ L', p ∈ L) (hZ : ∀ z ∈ Z', z ∈ Z) (hn : n' ≤ n) : CS B w0 N c n' L' Z' s w := by
  obtain ⟨F, G, h⟩ := h
  exact ⟨F, G, h.ca, h.bk, h.dj, B.restM h.rs hn, h.kp, h.nw, fun p hp => h.sl p (hL p hp), fun z hz => ⟨(h.zs z (hZ z hz)).1, (h.zs z (hZ z hz)).2.1, (h.zs z (hZ z hz)).2.2.1, (h.zs z (hZ z hz)).2.2.2.1, fun p hp => (h.zs z (hZ z hz)).2.2.2.2 p (hL p hp)⟩⟩
theorem CS.less {w0 w : World} {N c n n' : Nat} {L : List (Sl × List UInt8)} {Z : List (Nat × Obj)} {s : CSt B} (h : CS B w0 N c n L Z s w) (hn : n' ≤ n) : CS B w0 N c n' L Z s w := h.drop (fun _ h => h) (fun _ h => h) hn
theorem CS.noL {w0 w : World} {N c n : Nat} {L : List (Sl × List UInt8)} {Z : List (Nat × Obj)} {s : CSt B} (h : CS B w0 N c n L Z s w) : CS B w0 N c n [] Z s w := h.drop (by simp) (fun _ h => h) (Nat.le_refl _)
theorem CS.mono {w0 w : World} {N M c n : Nat} {L : List (Sl × List UInt8)} {Z : List (Nat × Obj)} {s : CSt B} (h : CS B w0 N c n L Z s w) (hN : N ≤ M) : CS B w0 M c n L Z s w := by
  obtain ⟨F, G, h⟩ := h
  exact ⟨F, G, h.ca.mono hN, h.bk, h.dj, h.rs, h.kp, h.nw, h.sl, h.zs⟩
theorem CS.kp {w0 w : World} {N c n : Nat} {L : List (Sl × List UInt8)} {Z : List (Nat × Obj)} {s : CSt B} (h : CS B w0 N c n L Z s w) : Keeps [] w0 w := by
  obtain ⟨F, G, h⟩ := h
  exact h.kp

/-- What neither the cache nor its Back nor the slices own may be turned. -/
theorem CS.grow {w0 w w' : World} {N c n : Nat} {L : List (Sl × List UInt8)} {Z : List (Nat × Obj)} {s : CSt B} (h : CS B w0 N c n L Z s w) (hk : Keeps [] w w') : CS B w0 N c n L Z s w' := by
  obtain ⟨F, G, h⟩ := h
  have hkp : KeepsP (fun _ => False) w w' := hk.toP (by simp)
  exact ⟨F, G, h.ca.keeps hkp (fun _ _ h => h), B.keeps h.bk hkp (fun _ _ h => h), h.dj, h.rs, h.kp.trans hk (by simp), h.nw, fun p hp => ⟨(h.sl p hp).1.keeps hk (by simp), (h.sl p hp).2⟩, fun z hz => ⟨hk.at (h.zs z hz).1 (by simp), (h.zs z hz).2⟩⟩
/-- A new slice of bytes. -/
theorem CS.add {w0 w : World} {N c n : Nat} {L : List (Sl × List UInt8)} {Z : List (Nat × Obj)} {s : CSt B} (h : CS B w0 N c n L Z s w) {w' : World} (hk : Keeps [] w w') {r : Sl} {bs : List UInt8} (hr : SlC w' r 1 (cB bs)) (hf : ∀ x ∈ blk r, w.heap.size ≤ x) : CS B w0 N c n ((r, bs) :: L) Z s w' := by
  obtain ⟨F, G, h⟩ := h
  have hkp : KeepsP (fun _ => False) w w' := hk.toP (by simp)
  have hF := h.ca.bl
  have hG := B.bl h.bk
  have hz := h.kp.size
  refine ⟨F, G, h.ca.keeps hkp (fun _ _ h => h), B.keeps h.bk hkp (fun _ _ h => h), h.dj, h.rs, h.kp.trans hk (by simp), h.nw, fun p hp => ?_, fun z hz => ⟨hk.at (h.zs z hz).1 (by simp), (h.zs z hz).2.1, (h.zs z hz).2.2.1, (h.zs z hz).2.2.2.1, fun p hp hx => ?_⟩⟩
  · rcases List.mem_cons.1 hp with rfl | hp
    · exact ⟨hr, fun x hx => ⟨by have := hf x hx; omega, fun h => by have := hF x h; have := hf x hx; omega, fun h => by have := hG x h; have := hf x hx; omega⟩⟩
    · exact ⟨(h.sl p hp).1.keeps hk (by simp), (h.sl p hp).2⟩
  · rcases List.mem_cons.1 hp with rfl | hp
    · have := hf _ hx
      have := hp_lt (h.zs z hz).1
      omega
    · exact (h.zs z hz).2.2.2.2 p hp hx
/-- A new block. -/
theorem CS.addZ {w0 w : World} {N c n : Nat} {L : List (Sl × List UInt8)} {Z : List (Nat × Obj)} {s : CSt B} (h : CS B w0 N c n L Z s w) {w' : World} (hk : Keeps [] w w') {a : Nat} {o : Obj} (ha : w'.heap[a]? = some o) (hf : w.heap.size ≤ a) : CS B w0 N c n L ((a, o) :: Z) s w' := by
  have hg := h.grow hk
  obtain ⟨F, G, h⟩ := h
  have hkp : KeepsP (fun _ => False) w w' := hk.toP (by simp)
  have hF := h.ca.bl
  have hG := B.bl h.bk
  have hz := h.kp.size
  refine ⟨F, G, h.ca.keeps hkp (fun _ _ h => h), B.keeps h.bk hkp (fun _ _ h => h), h.dj, h.rs, h.kp.trans hk (by simp), h.nw, fun p hp => ⟨(h.sl p hp).1.keeps hk (by simp), (h.sl p hp).2⟩, fun z hz' => ?_⟩
  rcases List.mem_cons.1 hz' with rfl | hz'
  · exact ⟨ha, by simp only; omega, fun h => by have := hF _ h; omega, fun h => by have := hG _ h; omega, fun p hp hx => by have := (h.sl p hp).1.lt _ hx; omega⟩
  · exact ⟨hk.at (h.zs z hz').1 (by simp), (h.zs z hz').2⟩
/-- A block beside them is turned. -/
theorem CS.turn {w0 w w' : World} {N c n : Nat} {L : List (Sl × List UInt8)} {Z : List (Nat × Obj)} {s : CSt B} {a : Nat} {o o' : Obj} (h : CS B w0 N c n L ((a, o) :: Z) s w) (hk : Keeps [a] w w') (ha : w'.heap[a]? = some o') (hZ : ∀ z ∈ Z, z.1 ≠ a) : CS B w0 N c n L ((a, o') :: Z) s w' := by
  obtain ⟨F, G, h⟩ := h
  obtain ⟨g1, g2, g3, g4, g5⟩ := h.zs (a, o) List.mem_cons_self
  simp only at g1 g2 g3 g4 g5
  have hkp : KeepsP (fun x => x = a) w w' := hk.toP (by simp)
  refine ⟨F, G, h.ca.keeps hkp (fun x hx e => g3 (e ▸ hx)), B.keeps h.bk hkp (fun x hx e => g4 (e ▸ hx)), h.dj, h.rs, h.kp.trans hk (fun x hx => .inr (by simp at hx; rw [hx]; exact g2)), h.nw, fun p hp => ⟨(h.sl p hp).1.keeps hk (fun x hx hm => by simp at hm; subst hm; exact g5 p hp hx), (h.sl p hp).2⟩, fun z hz' => ?_⟩
  rcases List.mem_cons.1 hz' with rfl | hz'
  · exact ⟨ha, g2, g3, g4, g5⟩
  · have := h.zs z (List.mem_cons_of_mem _ hz')
    exact ⟨hk.at this.1 (by simp; exact hZ z hz'), this.2⟩
theorem CS.at {w0 w : World} {N c n : Nat} {L : List (Sl × List UInt8)} {Z : List (Nat × Obj)} {s : CSt B} (h : CS B w0 N c n L Z s w) {z : Nat × Obj} (hz : z ∈ Z) : w.heap[z.1]? = some z.2 := by
  obtain ⟨F, G, h⟩ := h
  exact (h.zs z hz).1
theorem CS.slice {w0 w : World} {N c n : Nat} {L : List (Sl × List UInt8)} {Z : List (Nat × Obj)} {s : CSt B} (h : CS B w0 N c n L Z s w) {p : Sl × List UInt8} (hp : p ∈ L) : SlC w p.1 1 (cB p.2) := by
  obtain ⟨F, G, h⟩ := h
  exact (h.sl p hp).1

theorem CS.has {w0 w : World} {N c n : Nat} {L : List (Sl × List UInt8)} {Z : List (Nat × Obj)} {s : CSt B} (h : CS B w0 N c n L Z s w) (id : Int) :
    Cl Try.prog i_cache_Cache_Has [.pointer (some ⟨c, 0, none⟩), .int .i64 id] false [.sc .b] (fun r w' => w = w' ∧ r.1 = (pidx s.ps id).isSome) w := by
  obtain ⟨F, G, h⟩ := h
  exact Has_ok h.ca id

/-- Where the pages are, once. -/
theorem CS.uq {w0 w : World} {N c n : Nat} {L : List (Sl × List UInt8)} {Z : List (Nat × Obj)} {s : CSt B} (h : CS B w0 N c n L Z s w) :
    (∀ (i j : Nat) (p q : Pg), s.ps[i]? = some (some p) → s.ps[j]? = some (some q) → p.id = q.id → i = j) ∧ (∀ (i : Nat) (p : Pg), s.ps[i]? = some (some p) → PgOk N p) ∧ s.hand < s.ps.length ∧ s.ps.length ≤ 64 := by
  obtain ⟨F, G, h⟩ := h
  obtain ⟨τ, sl, m, pl, h1, h2, hps, hF⟩ := h.ca
  refine ⟨hps ▸ h2.uq, fun i p hp => ?_, by rw [← hps, pgs_length]; exact h1.hd, by rw [← hps, pgs_length]; exact h1.ln⟩
  rw [← hps] at hp
  obtain ⟨x, hx, rfl⟩ := pgs_get' hp
  exact h1.ok i x hx

theorem CS.pin {w0 w : World} {N c n : Nat} {L : List (Sl × List UInt8)} {Z : List (Nat × Obj)} {s : CSt B} (h : CS B w0 N c (n + 3) L Z s w) (hN : N < 4611686018427387904) (id : Int) :
    Cl Try.prog i_cache_Cache_Pin [.pointer (some ⟨c, 0, none⟩), .int .i64 id] true [.sc .sl, .sc (.i .i64)]
      (fun r w' => r.2.1 = (mPin B s id).2.2 ∧ CS B w0 (N + 1) c n ((r.1, (mPin B s id).2.1) :: L) Z (mPin B s id).1 w') w := by
  obtain ⟨F, G, h⟩ := h
  have hF := h.ca.bl
  have hG := B.bl h.bk
  have hz := h.kp.size
  refine Cl.mono (Pin_ok h.ca h.bk h.dj h.rs hN id) ?_
  rintro r w' ⟨F', G', h1, h2, h3, h4, h5, h6, h7, h8, h9, h10⟩
  refine ⟨h1, F', G', h2, h3, h4, h5, ?_, fun x hx => ?_, fun p hp => ?_, fun z hz' => ?_⟩
  · have : KeepsP (fun x => w0.heap.size ≤ x) w w' := h7.mono (fun x hx => .inl (h.nw x hx))
    refine KeepsP.toL (F := fun x => w0.heap.size ≤ x) ?_ (fun x hx => hx)
    exact (h.kp.toP (by simp)).trans this (fun x hx => .inl hx)
  · rcases hx with hx | hx
    · rcases h8 x hx with h' | h'
      · exact h.nw x (.inl h')
      · omega
    · rcases h9 x hx with h' | h'
      · exact h.nw x (.inr h')
      · omega
  · rcases List.mem_cons.1 hp with rfl | hp
    · exact ⟨h6, fun x hx => ⟨by have := (h10 x hx).1; omega, (h10 x hx).2⟩⟩
    · obtain ⟨g1, g2⟩ := h.sl p hp
      have hlt := g1.lt
      refine ⟨g1.keepsP h7 (fun x hx hh => by rcases hh with hh | hh; exact (g2 x hx).2.1 hh; exact (g2 x hx).2.2 hh), fun x hx => ⟨(g2 x hx).1, fun hf => ?_, fun hg => ?_⟩⟩
      · rcases h8 x hf with h' | h'
        · exact (g2 x hx).2.1 h'
        · have := hlt x hx; omega
      · rcases h9 x hg with h' | h'
        · exact (g2 x hx).2.2 h'
        · have := hlt x hx; omega
  · obtain ⟨g1, g2, g3, g4, g5⟩ := h.zs z hz'
    have hlt := hp_lt g1
    refine ⟨h7.at g1 (fun hh => by rcases hh with hh | hh; exact g3 hh; exact g4 hh), g2, fun hf => ?_, fun hg => ?_, fun p hp hx => ?_⟩
    · rcases h8 _ hf with h' | h'
      · exact g3 h'
      · omega
    · rcases h9 _ hg with h' | h'
      · exact g4 h'
      · omega
    · rcases List.mem_cons.1 hp with rfl | hp
      · have := (h10 _ hx).1; omega
      · exact g5 p hp hx

theorem mUnpin_b (s : CSt B) (id : Int) : (mUnpin B s id).1.b = s.b := by
  unfold mUnpin
  split
  · split
    · split <;> rfl
    · rfl
  · rfl
theorem mPut_b (s : CSt B) (id : Int) (bs : List UInt8) (l : Int) : (mPut B s id bs l).1.b = s.b := by
  unfold mPut
  split
  · split
    · split <;> rfl
    · rfl
  · rfl

theorem CS.unpin {w0 w : World} {N c n : Nat} {L : List (Sl × List UInt8)} {Z : List (Nat × Obj)} {s : CSt B} (h : CS B w0 N c n L Z s w) (hN : N < 4611686018427387904) (id : Int) :
    Cl Try.prog i_cache_Cache_Unpin [.pointer (some ⟨c, 0, none⟩), .int .i64 id] false [.sc (.i .i64)]
      (fun r w' => r.1 = (mUnpin B s id).2 ∧ CS B w0 N c n L Z (mUnpin B s id).1 w') w := by
  obtain ⟨F, G, h⟩ := h
  have hz := h.kp.size
  refine Cl.mono (Unpin_ok h.ca hN id) ?_
  rintro r w' ⟨h1, h2, h3⟩
  refine ⟨h1, F, G, h2, by rw [mUnpin_b]; exact B.keeps h.bk h3 h.dj.symm, h.dj, by rw [mUnpin_b]; exact h.rs, ?_, h.nw, fun p hp => ⟨(h.sl p hp).1.keepsP h3 (fun x hx => ((h.sl p hp).2 x hx).2.1), (h.sl p hp).2⟩, fun z hz' => ⟨h3.at (h.zs z hz').1 (h.zs z hz').2.2.1, (h.zs z hz').2⟩⟩
  refine KeepsP.toL (F := fun x => w0.heap.size ≤ x) ?_ (fun x hx => hx)
  exact (h.kp.toP (by simp)).trans h3 (fun x hx => .inl (h.nw x (.inl hx)))

theorem CS.put {w0 w : World} {N c n : Nat} {L : List (Sl × List UInt8)} {Z : List (Nat × Obj)} {s : CSt B} (h : CS B w0 N c n L Z s w) (id : Int) (a : Sl) (bs : List UInt8) (l : Int) (ha : SlC w a 1 (cB bs)) (hda : ∀ F G, CSX B w0 N c n L Z s w F G → ∀ y ∈ blk a, ¬ F y) (hbs : bs.length ≤ 140737488355328) :
    Cl Try.prog i_cache_Cache_Put [.pointer (some ⟨c, 0, none⟩), .int .i64 id, .slice a.p a.len a.cap, .int .u64 l] false [.sc (.i .i64)]
      (fun r w' => r.1 = (mPut B s id bs l).2 ∧ CS B w0 N c n L Z (mPut B s id bs l).1 w') w := by
  obtain ⟨F, G, h⟩ := h
  have hz := h.kp.size
  have hG := B.bl h.bk
  refine Cl.mono (Put_ok h.ca id a bs l ha (hda F G h) hbs) ?_
  rintro r w' ⟨F', h1, h2, h3, h4⟩
  refine ⟨h1, F', G, h2, by rw [mPut_b]; exact B.keeps h.bk h3 h.dj.symm, h.dj.step h4 hG, by rw [mPut_b]; exact h.rs, ?_, fun x hx => ?_, fun p hp => ⟨(h.sl p hp).1.keepsP h3 (fun x hx => ((h.sl p hp).2 x hx).2.1), fun x hx => ?_⟩, fun z hz' => ?_⟩
  · refine KeepsP.toL (F := fun x => w0.heap.size ≤ x) ?_ (fun x hx => hx)
    exact (h.kp.toP (by simp)).trans h3 (fun x hx => .inl (h.nw x (.inl hx)))
  · rcases hx with hx | hx
    · rcases h4 x hx with h' | h'
      · exact h.nw x (.inl h')
      · omega
    · exact h.nw x (.inr hx)
  · obtain ⟨g1, g2, g3⟩ := (h.sl p hp).2 x hx
    refine ⟨g1, fun hf => ?_, g3⟩
    rcases h4 x hf with h' | h'
    · exact g2 h'
    · have := (h.sl p hp).1.lt x hx; omega
  · obtain ⟨g1, g2, g3, g4, g5⟩ := h.zs z hz'
    refine ⟨h3.at g1 g3, g2, fun hf => ?_, g4, g5⟩
    rcases h4 _ hf with h' | h'
    · exact g3 h'
    · have := hp_lt g1; omega

/-- A cache and the reference's Back are made. -/
theorem make_ok {w0 w : World} {places : Nat} {n : Nat} {left : Int} (hk : Keeps [] w0 w) (h1 : 1 ≤ places) (h2 : places ≤ 64) {b : Nat} {F : Nat → Prop} (hb : BkAt b w F (newB n left)) (hF : ∀ x, F x → w0.heap.size ≤ x)
    (hp : ∀ k s, (newB n left).pages k = some s → s.length ≤ 140737488355328) :
    Cl Try.prog i_cache_New [.int .i64 (places : Int), .iface 28 (.pointer (some ⟨b, 0, none⟩))] true [.sc .p, .sc (.i .i64)]
      (fun r w' => ∃ c, r = (some ⟨c, 0, none⟩, 0, ()) ∧ CS (refB b) w0 0 c 1099511627776 [] [] (newC (B := refB b) places ⟨newB n left, hp⟩) w') w := by
  refine Cl.mono (New_yes (B := refB b) h1 h2) ?_
  rintro r w' ⟨c, F', h3, h4, h5, h6⟩
  have hbl := hb.bl
  have hz := hk.size
  refine ⟨c, h3, F', F, h4, hb.keeps (h5.toP (F := fun _ => False) (by simp)) (fun _ _ h => h), fun x hx hf => ?_, ?_, hk.trans h5 (by simp), fun x hx => ?_, by simp, by simp⟩
  · have := h6 x hx; have := hbl x hf; omega
  · show (newB n left).rest _
    simp [BSt.rest, newB]
  · rcases hx with hx | hx
    · have := h6 x hx; omega
    · exact hF x hx

theorem newB_plen (n : Nat) (left : Int) : ∀ k s, (newB n left).pages k = some s → s.length ≤ 140737488355328 := by
  intro k s hs
  simp only [newB, newPg] at hs
  split at hs
  · cases hs; simp
  · cases hs

set_option maxRecDepth 100000 in
theorem live_ok {w : World} : Cl Try.prog i_sumpterlaw10_live [] false [.sc .b] (fun r w' => r.1 = true ∧ Keeps [] w w') w := by
  apply sumpterlaw10_live_call
  unfold sumpterlaw10_live
  refine Cl.mono (NewBack_ok 5 (-1) (by decide) (by decide) (by decide)) ?_
  rintro r1 w1 ⟨b, F, hr1, hb, hk1, hF⟩
  rw [hr1]
  refine Cl.mono (make_ok (places := 2) hk1 (by decide) (by decide) hb hF (newB_plen _ _)) ?_
  rintro r2 w2 ⟨c, hr2, h2⟩
  rw [hr2]
  simp only [Jp, sx, Option.isNone_some]
  obtain ⟨s0, hs0⟩ : ∃ s0, newC (B := refB b) 2 ⟨newB 5 (-1), newB_plen _ _⟩ = s0 := ⟨_, rfl⟩
  rw [hs0] at h2
  refine Cl.mono ((h2.less (n' := 12 + 3) (by decide)).pin (by decide) 1) ?_
  rintro r5 w5 ⟨hr5, h5⟩
  refine Cl.mono ((h5.less (n' := 9 + 3) (by decide)).pin (by decide) 2) ?_
  rintro r6 w6 ⟨hr6, h6⟩
  refine Cl.mono ((h6.less (n' := 6 + 3) (by decide)).pin (by decide) 3) ?_
  rintro r7 w7 ⟨hr7, h7⟩
  refine Cl.mono (h7.unpin (by decide) 1) ?_
  rintro r8 w8 ⟨hr8, h8⟩
  refine Cl.mono (h8.unpin (by decide) 2) ?_
  rintro r9 w9 ⟨hr9, h9⟩
  refine Cl.mono (h9.put 1 ⟨none, 0, 0⟩ [] 0 (SlC.nil _ _) (by simp [blk]) (by simp)) ?_
  rintro r10 w10 ⟨hr10, h10⟩
  refine Cl.mono ((h10.less (n' := 3 + 3) (by decide)).pin (by decide) 3) ?_
  rintro r11 w11 ⟨hr11, h11⟩
  rw [show (mPin (refB b) s0 1).2.2 = 0 from by rw [← hs0]; kernel_rfl] at hr5
  have e1 : (mPin (refB b) s0 1).2.1 = [98] := by rw [← hs0]; kernel_rfl
  rw [show (mPin (refB b) (mPin (refB b) (mPin (refB b) s0 1).1 2).1 3).2.2 = 100 from by rw [← hs0]; kernel_rfl] at hr7
  obtain ⟨s9, hs9⟩ : ∃ s9, (mUnpin (refB b) (mUnpin (refB b) (mPin (refB b) (mPin (refB b) (mPin (refB b) s0 1).1 2).1 3).1 1).1 2).1 = s9 := ⟨_, rfl⟩
  rw [hs9] at hr10 h11 hr11
  rw [show (mPut (refB b) s9 1 [] 0).2 = 5 from by rw [← hs9, ← hs0]; kernel_rfl] at hr10
  rw [show (mPin (refB b) (mPut (refB b) s9 1 [] 0).1 3).2.2 = 0 from by rw [← hs9, ← hs0]; kernel_rfl] at hr11
  have e2 : (mPin (refB b) (mPut (refB b) s9 1 [] 0).1 3).2.1 = [100] := by rw [← hs9, ← hs0]; kernel_rfl
  rw [e1, e2] at h11
  have hq5 : RdB r5.1 [98] w11 := by
    obtain ⟨F', G', h⟩ := h11
    exact ((h.sl (r5.1, [98]) (by simp)).1).rdb
  have hq11 : RdB r11.1 [100] w11 := by
    obtain ⟨F', G', h⟩ := h11
    exact ((h.sl (r11.1, [100]) (by simp)).1).rdb
  refine BtoS_of hq5 ?_
  rw [show seq (⟨[98].toArray⟩ : ByteArray) (BA [98]) = true from seq_refl _, hr5, hr7, hr10]
  simp only [sx, show ((0 : Int) == 0) = true from rfl, show ((100 : Int) == 100) = true from rfl, show ((5 : Int) == 5) = true from rfl]
  refine BtoS_of hq11 ?_
  rw [show seq (⟨[100].toArray⟩ : ByteArray) (BA [100]) = true from seq_refl _, hr11]
  simp only [sx, show ((0 : Int) == 0) = true from rfl]
  refine Cl.mono (h11.has 1) ?_
  rintro r14 _ ⟨rfl, hr14⟩
  rw [hr14, show (pidx (mPin (refB b) (mPut (refB b) s9 1 [] 0).1 3).1.ps 1).isSome = false from by rw [← hs9, ← hs0]; kernel_rfl]
  simp only [Bool.not_false, sx]
  refine Cl.mono (h11.has 2) ?_
  rintro r15 _ ⟨rfl, hr15⟩
  rw [hr15, show (pidx (mPin (refB b) (mPut (refB b) s9 1 [] 0).1 3).1.ps 2).isSome = true from by rw [← hs9, ← hs0]; kernel_rfl]
  simp only [sx]
  refine Cl.mono (h11.has 3) ?_
  rintro r16 _ ⟨rfl, hr16⟩
  rw [hr16, show (pidx (mPin (refB b) (mPut (refB b) s9 1 [] 0).1 3).1.ps 3).isSome = true from by rw [← hs9, ← hs0]; kernel_rfl]
  exact ⟨rfl, h11.kp⟩

end Go.Proofs.Ytelojafogbmbcaa
