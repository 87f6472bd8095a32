/- A cache and its Back as one thing that is owned; which pages there may be. -/
import Derived.Test.YtelojafogbmbcaaRi
import Derived.Test.YtelojafogbmbcaaCr
set_option linter.unusedVariables false
set_option linter.unusedSimpArgs false
namespace Go.Proofs.Ytelojafogbmbcaa
open Go Go.Sx
variable {B : BkI Try.prog}

structure CWX (B : BkI Try.prog) (N c n : Nat) (s : CSt B) (w : World) (F G H : Nat → Prop) : Prop where
  ca : CaAt B N w c F s.ps s.hand
  bk : B.At w G s.b
  dj : Dj F G
  rs : B.rest s.b n
  own : ∀ x, H x ↔ F x ∨ G x
def CW (B : BkI Try.prog) (N c n : Nat) (s : CSt B) (w : World) (H : Nat → Prop) : Prop := ∃ F G, CWX B N c n s w F G H

theorem CW.bl {N c n : Nat} {s : CSt B} {w : World} {H : Nat → Prop} (h : CW B N c n s w H) : Bl H w := by
  obtain ⟨F, G, h⟩ := h
  intro x hx
  rcases (h.own x).1 hx with hx | hx
  · exact h.ca.bl x hx
  · exact B.bl h.bk x hx
theorem CW.keeps {N c n : Nat} {s : CSt B} {w w' : World} {H F : Nat → Prop} (h : CW B N c n s w H) (hk : KeepsP F w w') (hd : Dj H F) : CW B N c n s w' H := by
  obtain ⟨F', G, h⟩ := h
  exact ⟨F', G, h.ca.keeps hk (fun x hx => hd x ((h.own x).2 (.inl hx))), B.keeps h.bk hk (fun x hx => hd x ((h.own x).2 (.inr hx))), h.dj, h.rs, h.own⟩
theorem CW.less {N c n m : Nat} {s : CSt B} {w : World} {H : Nat → Prop} (h : CW B N c n s w H) (hm : m ≤ n) : CW B N c m s w H := by
  obtain ⟨F, G, h⟩ := h
  exact ⟨F, G, h.ca, h.bk, h.dj, B.restM h.rs hm, h.own⟩
theorem CW.mono {N M c n : Nat} {s : CSt B} {w : World} {H : Nat → Prop} (h : CW B N c n s w H) (hm : N ≤ M) : CW B M c n s w H := by
  obtain ⟨F, G, h⟩ := h
  exact ⟨F, G, h.ca.mono hm, h.bk, h.dj, h.rs, h.own⟩
theorem CW.uq {N c n : Nat} {s : CSt B} {w : World} {H : Nat → Prop} (h : CW B N c n s w H) :
    (∀ (i j : Nat) (p q : Pg), s.ps[i]? = some (some p) → s.ps[j]? = some (some q) → p.id = q.id → i = j) ∧ (∀ (i : Nat) (p : Pg), s.ps[i]? = some (some p) → PgOk N p) ∧ s.hand < s.ps.length ∧ s.ps.length ≤ 64 := by
  obtain ⟨F, G, h⟩ := h
  obtain ⟨τ, sl, m, pl, h1, h2, hps, hF⟩ := h.ca
  refine ⟨hps ▸ h2.uq, fun i p hp => ?_, by rw [← hps, pgs_length]; exact h1.hd, by rw [← hps, pgs_length]; exact h1.ln⟩
  rw [← hps] at hp
  obtain ⟨x, hx, rfl⟩ := pgs_get' hp
  exact h1.ok i x hx

theorem CWX.out {N M c n m : Nat} {s s' : CSt B} {w w' : World} {F G H F' G' : Nat → Prop} (h : CWX B N c n s w F G H) (h1 : CaAt B M w' c F' s'.ps s'.hand) (h2 : B.At w' G' s'.b) (h3 : Dj F' G') (h4 : B.rest s'.b m) (hk : KeepsP (fun y => F y ∨ G y) w w') (hf : Fr F F' w) (hg : Fr G G' w) :
    ∃ H', (CW B M c m s' w' H' ∧ ∀ x, H' x ↔ F' x ∨ G' x) ∧ KeepsP H w w' ∧ Fr H H' w := by
  refine ⟨fun x => F' x ∨ G' x, ⟨⟨F', G', h1, h2, h3, h4, fun x => Iff.rfl⟩, fun x => Iff.rfl⟩, hk.mono (fun y hy => .inl ((h.own y).2 hy)), fun x hx => ?_⟩
  rcases hx with hx | hx
  · rcases hf x hx with h' | h'
    · exact .inl ((h.own x).2 (.inl h'))
    · exact .inr h'
  · rcases hg x hx with h' | h'
    · exact .inl ((h.own x).2 (.inr h'))
    · exact .inr h'

theorem CW.pin {N c n : Nat} {s : CSt B} {w : World} {H : Nat → Prop} (h : CW B N c (n + 3) s w H) (hN : N < 4611686018427387904) (id : Int) :
    Cl Try.prog i_cache_Cache_Pin [.pointer (some ⟨c, 0, none⟩), .int .i64 id] true [.sc .sl, .sc (.i .i64)]
      (fun r w' => r.2.1 = (mPin B s id).2.2 ∧ ∃ H', CW B (N + 1) c n (mPin B s id).1 w' H' ∧ SlC w' r.1 1 (cB (mPin B s id).2.1) ∧ (∀ x ∈ blk r.1, w.heap.size ≤ x ∧ ¬ H' x) ∧ KeepsP H w w' ∧ Fr H H' w) w := by
  obtain ⟨F, G, h⟩ := h
  refine Cl.mono (Pin_ok h.ca h.bk h.dj h.rs hN id) ?_
  rintro r w' ⟨F', G', h1, h2, h3, h4, h5, h6, h7, h8, h9, h10⟩
  obtain ⟨H', ⟨g1, g0⟩, g2, g3⟩ := h.out (s' := (mPin B s id).1) h2 h3 h4 h5 h7 h8 h9
  exact ⟨h1, H', g1, h6, fun x hx => ⟨(h10 x hx).1, fun hh => by rcases (g0 x).1 hh with h' | h'; exact (h10 x hx).2.1 h'; exact (h10 x hx).2.2 h'⟩, g2, g3⟩
theorem CW.unpin {N c n : Nat} {s : CSt B} {w : World} {H : Nat → Prop} (h : CW B N c n s w H) (hN : N < 4611686018427387904) (id : Int) :
    Cl Try.prog i_cache_Cache_Unpin [.pointer (some ⟨c, 0, none⟩), .int .i64 id] false [.sc (.i .i64)]
      (fun r w' => r.1 = (mUnpin B s id).2 ∧ ∃ H', CW B N c n (mUnpin B s id).1 w' H' ∧ KeepsP H w w' ∧ Fr H H' w) w := by
  obtain ⟨F, G, h⟩ := h
  refine Cl.mono (Unpin_ok h.ca hN id) ?_
  rintro r w' ⟨h1, h2, h3⟩
  obtain ⟨H', ⟨g1, g0⟩, g2, g3⟩ := h.out (s' := (mUnpin B s id).1) (F' := F) (G' := G) h2 (by rw [mUnpin_b]; exact B.keeps h.bk h3 h.dj.symm) h.dj (by rw [mUnpin_b]; exact h.rs) (h3.mono fun y hy => .inl (.inl hy)) (Fr.refl _ _) (Fr.refl _ _)
  exact ⟨h1, H', g1, g2, g3⟩
theorem CW.put {N c n : Nat} {s : CSt B} {w : World} {H : Nat → Prop} (h : CW B N c n s w H) (id : Int) (a : Sl) (bs : List UInt8) (l : Int) (ha : SlC w a 1 (cB bs)) (hda : ∀ y ∈ blk a, ¬ H y) (hbs : bs.length ≤ 140737488355328) :
    Cl Try.prog i_cache_Cache_Put [.pointer (some ⟨c, 0, none⟩), .int .i64 id, .slice a.p a.len a.cap, .int .u64 l] false [.sc (.i .i64)]
      (fun r w' => r.1 = (mPut B s id bs l).2 ∧ ∃ H', CW B N c n (mPut B s id bs l).1 w' H' ∧ KeepsP H w w' ∧ Fr H H' w) w := by
  obtain ⟨F, G, h⟩ := h
  have hG := B.bl h.bk
  refine Cl.mono (Put_ok h.ca id a bs l ha (fun y hy hf => hda y hy ((h.own y).2 (.inl hf))) hbs) ?_
  rintro r w' ⟨F', h1, h2, h3, h4⟩
  obtain ⟨H', ⟨g1, g0⟩, g2, g3⟩ := h.out (s' := (mPut B s id bs l).1) (F' := F') (G' := G) h2 (by rw [mPut_b]; exact B.keeps h.bk h3 h.dj.symm) (h.dj.step h4 hG) (by rw [mPut_b]; exact h.rs) (h3.mono fun y hy => .inl (.inl hy)) h4 (Fr.refl _ _)
  exact ⟨h1, H', g1, g2, g3⟩
theorem CW.flush {N c n : Nat} {s : CSt B} {w : World} {H : Nat → Prop} (h : CW B N c (n + 2 * s.ps.length) s w H) :
    Cl Try.prog i_cache_Cache_Flush [.pointer (some ⟨c, 0, none⟩)] false [.sc (.i .i64)]
      (fun r w' => r.1 = (mFlush B s.ps.length 0 s).2 ∧ ∃ H', CW B N c n (mFlush B s.ps.length 0 s).1 w' H' ∧ KeepsP H w w' ∧ Fr H H' w) w := by
  obtain ⟨F, G, h⟩ := h
  refine Cl.mono (Flush_ok h.ca h.bk h.dj h.rs) ?_
  rintro r w' ⟨G', h1, h2, h3, h4, h5, h7, h9⟩
  obtain ⟨H', ⟨g1, g0⟩, g2, g3⟩ := h.out (s' := (mFlush B s.ps.length 0 s).1) (F' := F) h2 h3 h4 h5 h7 (Fr.refl _ _) h9
  exact ⟨h1, H', g1, g2, g3⟩

/-! ### which pages there may be -/
def PagesIn (σ : BSt) : Prop := ∀ k, σ.pages k ≠ none → 1 ≤ k ∧ k ≤ 6
def IdsIn (ps : List (Option Pg)) : Prop := ∀ (i : Nat) (p : Pg), ps[i]? = some (some p) → 1 ≤ p.id ∧ p.id ≤ 6
variable {b : Nat}
structure InOk (s : CSt (refB b)) : Prop where
  ids : IdsIn s.ps
  pgs : PagesIn s.b.σ

theorem IdsIn.set {ps : List (Option Pg)} (h : IdsIn ps) {i : Nat} {o : Option Pg} (ho : ∀ p, o = some p → 1 ≤ p.id ∧ p.id ≤ 6) : IdsIn (ps.set i o) := by
  intro j q hq
  rcases get_set_cases hq with ⟨_, e⟩ | ⟨_, e⟩
  · exact ho q e
  · exact h j q e

theorem clean_in {s : BS} (h : PagesIn s.σ) {p : Pg} (hp : 1 ≤ p.id ∧ p.id ≤ 6) : PagesIn (mClean (refB b) s p).1.σ := by
  have hf : ∀ l, PagesIn ((refB b).force s l).1.σ := fun l => by
    show PagesIn (s.σ.force l).1
    unfold BSt.force
    split <;> exact h
  have hs : ∀ t : BS, PagesIn t.σ → PagesIn ((refB b).save t p.id p.bytes).1.σ := fun t ht => by
    show PagesIn (t.σ.save p.id _).1
    unfold BSt.save
    split
    · exact ht
    · intro k hk
      simp only at hk
      split at hk
      · rename_i e; rw [e]; exact hp
      · exact ht k hk
  unfold mClean
  split
  · exact h
  · by_cases hc : (refB b).safe s < p.lsn
    · simp only [if_pos hc]
      split
      · exact hs _ (hf _)
      · exact hf _
    · simp only [if_neg hc]
      split
      · exact hs _ h
      · exact h

theorem sweep_in (n : Nat) : ∀ (s : CSt (refB b)), InOk s → InOk (sweep (refB b) n s).1 := by
  induction n with
  | zero => intro s h; exact h
  | succ n ih =>
    intro s h
    unfold sweep
    split
    · rename_i p hp
      have hid := h.ids _ p hp
      simp only
      split
      · exact ih _ ⟨h.ids, h.pgs⟩
      · split
        · exact ih _ ⟨h.ids.set fun q hq => by cases hq; exact hid, h.pgs⟩
        · split
          · exact ⟨h.ids.set (fun q hq => by cases hq), clean_in h.pgs hid⟩
          · exact ⟨h.ids, clean_in h.pgs hid⟩
    · exact h

theorem room_in {s : CSt (refB b)} (h : InOk s) : InOk (mRoom (refB b) s).1 := by
  unfold mRoom
  split
  · exact h
  · split
    · exact sweep_in _ s h
    · exact h

theorem pin_in {s : CSt (refB b)} (h : InOk s) (id : Int) : InOk (mPin (refB b) s id).1 := by
  have hr := room_in h
  have hl : PagesIn ((refB b).load (mRoom (refB b) s).1.b id).1.σ ∧ (((refB b).load (mRoom (refB b) s).1.b id).2.1 = 0 → 1 ≤ id ∧ id ≤ 6) := by
    show PagesIn ((mRoom (refB b) s).1.b.σ.load id).1 ∧ (((mRoom (refB b) s).1.b.σ.load id).2.1 = 0 → 1 ≤ id ∧ id ≤ 6)
    unfold BSt.load
    split
    · exact ⟨hr.pgs, fun h => absurd (show (60 : Int) = 0 from h) (by decide)⟩
    · split
      · exact ⟨hr.pgs, fun h => absurd (show (90 : Int) = 0 from h) (by decide)⟩
      · rename_i s' hs'
        exact ⟨hr.pgs, fun _ => hr.pgs id (by rw [hs']; simp)⟩
  unfold mPin
  split
  · split
    · rename_i p hp
      exact ⟨h.ids.set fun q hq => by cases hq; exact h.ids _ p hp, h.pgs⟩
    · exact h
  · simp only
    split
    · split
      · rename_i h0
        exact ⟨hr.ids.set fun q hq => by cases hq; exact hl.2 h0, hl.1⟩
      · exact ⟨hr.ids, hl.1⟩
    · exact hr

theorem unpin_in {s : CSt (refB b)} (h : InOk s) (id : Int) : InOk (mUnpin (refB b) s id).1 := by
  unfold mUnpin
  split
  · split
    · rename_i p hp
      split
      · exact h
      · exact ⟨h.ids.set fun q hq => by cases hq; exact h.ids _ p hp, h.pgs⟩
    · exact h
  · exact h
theorem put_in {s : CSt (refB b)} (h : InOk s) (id : Int) (bs : List UInt8) (l : Int) : InOk (mPut (refB b) s id bs l).1 := by
  unfold mPut
  split
  · split
    · rename_i p hp
      split
      · exact h
      · exact ⟨h.ids.set fun q hq => by cases hq; exact h.ids _ p hp, h.pgs⟩
    · exact h
  · exact h
theorem flush_in : ∀ (n i : Nat) (s : CSt (refB b)), InOk s → InOk (mFlush (refB b) n i s).1
  | 0, i, s, h => h
  | n + 1, i, s, h => by
    unfold mFlush
    split
    · rename_i p hp
      have hid := h.ids i p hp
      simp only
      split
      · exact flush_in n (i + 1) _ ⟨h.ids.set fun q hq => by cases hq; exact hid, clean_in h.pgs hid⟩
      · exact ⟨h.ids, clean_in h.pgs hid⟩
    · exact flush_in n (i + 1) s h

theorem nodup_bound : ∀ (n : Nat) (l : List Int), l.Nodup → (∀ x ∈ l, 1 ≤ x ∧ x ≤ n) → l.length ≤ n
  | 0, l, _, h => by
    cases l with
    | nil => simp
    | cons x l => have := h x List.mem_cons_self; omega
  | n + 1, l, hn, h => by
    have h1 : (l.erase ((n + 1 : Nat) : Int)).length ≤ n := nodup_bound n _ (hn.erase _) fun x hx => by
      have hx' := (List.Nodup.mem_erase_iff hn).1 hx
      have := h x hx'.2
      have := hx'.1
      omega
    have := List.length_erase (a := ((n + 1 : Nat) : Int)) (l := l)
    split at this <;> omega

theorem dirty_len {ps : List (Option Pg)} (uq : ∀ (i j : Nat) (p q : Pg), ps[i]? = some (some p) → ps[j]? = some (some q) → p.id = q.id → i = j) (h : IdsIn ps) : (dirtyIds ps).length ≤ 6 := by
  refine nodup_bound 6 _ ?_ fun x hx => ?_
  · have key : ∀ (l : List (Option Pg)), (∀ (i j : Nat) (p q : Pg), l[i]? = some (some p) → l[j]? = some (some q) → p.id = q.id → i = j) → (dirtyIds l).Nodup := by
      intro l
      induction l with
      | nil => intro _; exact List.nodup_nil
      | cons o l ih =>
        intro hu
        have ih' := ih fun i j p q hp hq he => by have := hu (i + 1) (j + 1) p q (by simpa using hp) (by simpa using hq) he; omega
        unfold dirtyIds at ih' ⊢
        rw [List.filterMap_cons]
        split
        · exact ih'
        · rename_i d hd
          rw [List.nodup_cons]
          refine ⟨fun hm => ?_, ih'⟩
          obtain ⟨o', ho', hd'⟩ := List.mem_filterMap.1 hm
          obtain ⟨j, hj⟩ := List.mem_iff_getElem?.1 ho'
          cases o with
          | none => simp [dirty1] at hd
          | some p =>
            cases o' with
            | none => simp [dirty1] at hd'
            | some q =>
              simp only [dirty1] at hd hd'
              split at hd
              · split at hd'
                · have := hu 0 (j + 1) p q rfl (by simpa using hj) ((Option.some.inj hd).trans (Option.some.inj hd').symm)
                  omega
                · cases hd'
              · cases hd
    exact key ps uq
  · obtain ⟨o, ho, hd⟩ := List.mem_filterMap.1 hx
    obtain ⟨j, hj⟩ := List.mem_iff_getElem?.1 ho
    cases o with
    | none => simp [dirty1] at hd
    | some p =>
      simp only [dirty1] at hd
      split at hd
      · cases hd; exact h j p hj
      · cases hd

end Go.Proofs.Ytelojafogbmbcaa
