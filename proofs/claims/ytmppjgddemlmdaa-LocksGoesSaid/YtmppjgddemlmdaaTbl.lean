/- The lock table as lists; its memory; drop, the place of an ask among those that wait. Conditions: none. -/
import Derived.Test.YtmppjgddemlmdaaLbt
set_option linter.unusedVariables false
set_option linter.unusedSimpArgs false
namespace Go.Proofs.Ytmppjgddemlmdaa
open Go Go.Sx

theorem Compare_ok (x y : Int) (w : World) : Cl Try.prog i_cmp_Compare [.int .u64 x, .int .u64 y] false [.sc (.i .i64)] (fun r w' => r.1 = (if x < y then (-1 : Int) else if y < x then 1 else 0) ∧ w = w') w := by
  refine Cl_gen fun R hR => ?_
  apply cmp_Compare_call
  unfold cmp_Compare
  have hn : ∀ (z : Int) (K : TR [.sc .b] → Pr), K (false, ()) w → Cl Try.prog 57 [.int .u64 z] false [.sc .b] K w := by
    intro z K hK
    apply cmp_isNaN_call
    unfold cmp_isNaN
    rw [show (z != z) = false from by simp]
    exact hK
  refine hn x _ ?_
  refine hn y _ ?_
  simp only [Br_false]
  by_cases h1 : x < y
  · rw [decide_eq_true h1]
    exact hR _ _ ⟨by rw [if_pos h1], rfl⟩
  · rw [decide_eq_false h1]
    simp only [Br_false]
    by_cases h2 : y < x
    · rw [decide_eq_true (show x > y from h2)]
      exact hR _ _ ⟨by rw [if_neg h1, if_pos h2], rfl⟩
    · rw [decide_eq_false (show ¬ x > y from h2)]
      exact hR _ _ ⟨by rw [if_neg h1, if_neg h2], rfl⟩

/-- Where an ask of txn t belongs among those that wait. -/
theorem Search_ok {w : World} {s : Sl} {l : List Ak} (h : As w s l) (hs : l.Pairwise (fun a b => a.n < b.n)) (t : Int) (hN : l.length ≤ 1000) :
    Cl Try.prog i_slices_BinarySearchFunc [.slice s.p s.len s.cap, .int .u64 t, .func (.func 30) #[] #[]] true [.sc (.i .i64), .sc .b] (fun r w' => ∃ i : Nat, r.1 = (i : Int) ∧ i ≤ l.length ∧ (∀ y ∈ l.take i, y.n < t) ∧ (∀ y ∈ l.drop i, t ≤ y.n) ∧ Keeps [] w w') w := by
  refine Cl_gen fun R hR => ?_
  have hl := as_len h
  have call : ∀ (w1 : World) (x : Ak) (K : TR [.sc (.i .i64)] → Pr), (∀ w2, Keeps [] w1 w2 → K ((if x.n < t then (-1 : Int) else if t < x.n then 1 else 0), ()) w2) → CallV Try.prog (.func (.func 30) #[] #[]) [vA x, .int .u64 t] false [.sc (.i .i64)] K w1 := by
    intro w1 x K hK
    refine CallV_fn0 (by kernel_rfl) ?_
    apply locks_Table_Ask_1_call
    unfold locks_Table_Ask_1
    refine New_bx fun b w2 h2 n2 k2 => ?_
    simp only [sxn, h2, sxl, Nat.reduceAdd]
    refine Cl.mono (Compare_ok _ _ _) ?_
    rintro ⟨r, _⟩ _ ⟨e, rfl⟩
    dsimp only at e
    subst e
    exact hK _ k2
  apply slices_BinarySearchFunc_call
  unfold slices_BinarySearchFunc
  refine ⟨fun n st w' => ∃ (i j : Nat), st = ((i : Int), (j : Int), ()) ∧ n = j - i ∧ i ≤ j ∧ j ≤ l.length ∧ (∀ y ∈ l.take i, y.n < t) ∧ (∀ y ∈ l.drop j, t ≤ y.n) ∧ Keeps [] w w', ⟨_, 0, l.length, by rw [hl]; rfl, rfl, by omega, by omega, by simp, by simp, Keeps.refl _ _⟩, ?_⟩
  rintro n _ w1 ⟨i, j, rfl, rfl, hij, hj, h1, h2, k1⟩
  dsimp only
  by_cases hlt : i < j
  · rw [decide_eq_true (by omega)]
    simp only [Br_true]
    refine ⟨by decide, ?_⟩
    have e : w64 (ishr .u64 (IntKind.u64.wrap (w64 ((i : Int) + (j : Int)))) 1) = (((i + j) / 2 : Nat) : Int) := by
      rw [w64a rfl rfl (by omega), wrap_u64_nat (by omega), show ishr .u64 ((i + j : Nat) : Int) 1 = (((i + j) >>> 1 : Nat) : Int) from ishr_nat .u64 (i + j) 1 (by decide), Nat.shiftRight_eq_div_pow, w64_in (by omega) (by omega)]
    rw [e]
    generalize hm : (i + j) / 2 = m
    have hm1 : i ≤ m ∧ m < j := by omega
    obtain ⟨x, hx⟩ : ∃ x, l[m]? = some x := ⟨_, List.getElem?_eq_getElem (by omega)⟩
    refine as_ld (h.keeps k1 (by simp)) hx ?_
    refine call w1 x _ ?_
    intro w2 k2
    have hml := (List.getElem?_eq_some_iff.1 hx)
    obtain ⟨hm2, hxe⟩ := hml
    by_cases hc : x.n < t
    · rw [if_pos hc, decide_eq_true (by decide)]
      simp only [Br_true]
      refine ⟨j - (m + 1), by omega, m + 1, j, by rw [w64p (by omega)], rfl, by omega, by omega, ?_, h2, kp0 k1 k2⟩
      intro y hy
      obtain ⟨q, hq⟩ := List.getElem?_of_mem hy
      rw [List.getElem?_take] at hq
      split at hq
      · rename_i hqm
        by_cases hqe : q = m
        · subst hqe
          rw [hx] at hq
          injection hq with hq
          rw [← hq]; exact hc
        · obtain ⟨h5, h6⟩ := List.getElem?_eq_some_iff.1 hq
          have := List.pairwise_iff_getElem.1 hs q m h5 hm2 (by omega)
          rw [h6, hxe] at this
          omega
      · cases hq
    · rw [if_neg hc]
      have hd : decide ((if t < x.n then (1 : Int) else 0) < 0) = false := by split <;> rfl
      rw [hd]
      simp only [Br_false]
      refine ⟨m - i, by omega, i, m, rfl, rfl, by omega, by omega, h1, ?_, kp0 k1 k2⟩
      intro y hy
      obtain ⟨q, hq⟩ := List.getElem?_of_mem hy
      rw [List.getElem?_drop] at hq
      obtain ⟨h5, h6⟩ := List.getElem?_eq_some_iff.1 hq
      by_cases hqe : q = 0
      · subst hqe
        rw [Nat.add_zero, hx] at hq
        injection hq with hq
        rw [← hq]; omega
      · have := List.pairwise_iff_getElem.1 hs m (m + q) hm2 h5 (by omega)
        rw [h6, hxe] at this
        omega
  · rw [decide_eq_false (by omega)]
    simp only [Br_false]
    have hije : i = j := by omega
    subst hije
    by_cases h3 : i < l.length
    · rw [decide_eq_true (by omega)]
      simp only [Br_true]
      obtain ⟨x, hx⟩ : ∃ x, l[i]? = some x := ⟨_, List.getElem?_eq_getElem (by omega)⟩
      refine as_ld (h.keeps k1 (by simp)) hx ?_
      refine call w1 x _ ?_
      intro w2 k2
      exact hR _ _ ⟨i, rfl, by omega, h1, h2, kp0 k1 k2⟩
    · rw [decide_eq_false (by omega)]
      exact hR _ _ ⟨i, rfl, by omega, h1, h2, k1⟩

/-! ### the table -/
structure TS where
  held : List Ak
  wait : List Ak
deriving DecidableEq
/-- Who waits, waits in the order of their numbers, each once. -/
structure TOk (s : TS) : Prop where
  wt : s.wait.Pairwise (fun a b => a.n < b.n)
  few : s.held.length + s.wait.length ≤ 192

structure TAtX (w : World) (t : Nat) (H : Nat → Prop) (s : TS) (sh sw : Sl) : Prop where
  hd : w.heap[t]? = some (.cells #[.slice sh.p sh.len sh.cap, .slice sw.p sw.len sw.cap] 58 (0, 0))
  h : As w sh s.held
  w : As w sw s.wait
  th : t ∉ blk sh
  tw : t ∉ blk sw
  hw : ∀ x ∈ blk sh, x ∉ blk sw
  own : ∀ x, H x ↔ x = t ∨ x ∈ blk sh ∨ x ∈ blk sw
def TAt (w : World) (t : Nat) (H : Nat → Prop) (s : TS) : Prop := ∃ sh sw, TAtX w t H s sh sw
theorem TAtX.bl {w : World} {t : Nat} {H : Nat → Prop} {s : TS} {sh sw : Sl} (h : TAtX w t H s sh sw) : Bl H w := by
  intro x hx
  rcases (h.own x).1 hx with rfl | hx | hx
  · exact hp_lt h.hd
  · exact h.h.lt x hx
  · exact h.w.lt x hx
theorem TAt.bl {w : World} {t : Nat} {H : Nat → Prop} {s : TS} (h : TAt w t H s) : Bl H w := by
  obtain ⟨sh, sw, h⟩ := h
  exact h.bl
theorem TAtX.keeps {w w' : World} {t : Nat} {H F : Nat → Prop} {s : TS} {sh sw : Sl} (h : TAtX w t H s sh sw) (hk : KeepsP F w w') (hd : Dj H F) : TAtX w' t H s sh sw :=
  ⟨hk.at h.hd (hd t ((h.own t).2 (.inl rfl))), h.h.keepsP hk (fun x hx => hd x ((h.own x).2 (.inr (.inl hx)))), h.w.keepsP hk (fun x hx => hd x ((h.own x).2 (.inr (.inr hx)))), h.th, h.tw, h.hw, h.own⟩
theorem TAt.keeps {w w' : World} {t : Nat} {H F : Nat → Prop} {s : TS} (h : TAt w t H s) (hk : KeepsP F w w') (hd : Dj H F) : TAt w' t H s := by
  obtain ⟨sh, sw, h⟩ := h
  exact ⟨sh, sw, h.keeps hk hd⟩
theorem TAtX.keeps0 {w w' : World} {t : Nat} {H : Nat → Prop} {s : TS} {sh sw : Sl} (h : TAtX w t H s sh sw) (hk : Keeps [] w w') : TAtX w' t H s sh sw := h.keeps (hk.toP (F := fun _ => False) (by simp)) (fun _ _ h => h)
theorem TAt.keeps0 {w w' : World} {t : Nat} {H : Nat → Prop} {s : TS} (h : TAt w t H s) (hk : Keeps [] w w') : TAt w' t H s := h.keeps (hk.toP (F := fun _ => False) (by simp)) (fun _ _ h => h)

/-- What holds now: another slice of those that hold. -/
theorem TAtX.setH {w w1 w2 : World} {t : Nat} {H : Nat → Prop} {s : TS} {sh sw r : Sl} {l : List Ak} (h : TAtX w t H s sh sw) (k1 : Keeps (blk sh) w w1) (hr : As w1 r l) (hb : ∀ x ∈ blk r, x ∈ blk sh ∨ w.heap.size ≤ x) (k2 : Keeps [t] w1 w2)
    (hd : w2.heap[t]? = some (.cells #[.slice r.p r.len r.cap, .slice sw.p sw.len sw.cap] 58 (0, 0))) :
    ∃ H', TAtX w2 t H' ⟨l, s.wait⟩ r sw ∧ Fr H H' w ∧ KeepsP H w w2 := by
  have htl := hp_lt h.hd
  have tr : t ∉ blk r := fun hx => by rcases hb t hx with h' | h'; exact h.th h'; omega
  have rw' : ∀ x ∈ blk r, x ∉ blk sw := fun x hx hx2 => by rcases hb x hx with h' | h'; exact h.hw x h' hx2; have := h.w.lt x hx2; omega
  refine ⟨fun x => x = t ∨ x ∈ blk r ∨ x ∈ blk sw, ⟨hd, hr.keeps k2 (fun x hx => by simp; rintro rfl; exact tr hx), (h.w.keeps k1 (fun x hx h' => h.hw x h' hx)).keeps k2 (fun x hx => by simp; rintro rfl; exact h.tw hx), tr, h.tw, rw', fun _ => Iff.rfl⟩, ?_, ?_⟩
  · rintro x (rfl | hx | hx)
    · exact .inl ((h.own _).2 (.inl rfl))
    · rcases hb x hx with h' | h'
      · exact .inl ((h.own _).2 (.inr (.inl h')))
      · exact .inr h'
    · exact .inl ((h.own _).2 (.inr (.inr hx)))
  · exact (k1.toP (F := H) (fun x hx => .inl ((h.own _).2 (.inr (.inl hx))))).step k2 (by simp; exact .inl ((h.own _).2 (.inl rfl)))
theorem TAtX.setW {w w1 w2 : World} {t : Nat} {H : Nat → Prop} {s : TS} {sh sw r : Sl} {l : List Ak} (h : TAtX w t H s sh sw) (k1 : Keeps (blk sw) w w1) (hr : As w1 r l) (hb : ∀ x ∈ blk r, x ∈ blk sw ∨ w.heap.size ≤ x) (k2 : Keeps [t] w1 w2)
    (hd : w2.heap[t]? = some (.cells #[.slice sh.p sh.len sh.cap, .slice r.p r.len r.cap] 58 (0, 0))) :
    ∃ H', TAtX w2 t H' ⟨s.held, l⟩ sh r ∧ Fr H H' w ∧ KeepsP H w w2 := by
  have htl := hp_lt h.hd
  have tr : t ∉ blk r := fun hx => by rcases hb t hx with h' | h'; exact h.tw h'; omega
  have rw' : ∀ x ∈ blk sh, x ∉ blk r := fun x hx hx2 => by rcases hb x hx2 with h' | h'; exact h.hw x hx h'; have := h.h.lt x hx; omega
  refine ⟨fun x => x = t ∨ x ∈ blk sh ∨ x ∈ blk r, ⟨hd, (h.h.keeps k1 (fun x hx h' => h.hw x hx h')).keeps k2 (fun x hx => by simp; rintro rfl; exact h.th hx), hr.keeps k2 (fun x hx => by simp; rintro rfl; exact tr hx), h.th, tr, rw', fun _ => Iff.rfl⟩, ?_, ?_⟩
  · rintro x (rfl | hx | hx)
    · exact .inl ((h.own _).2 (.inl rfl))
    · exact .inl ((h.own _).2 (.inr (.inl hx)))
    · rcases hb x hx with h' | h'
      · exact .inl ((h.own _).2 (.inr (.inr h')))
      · exact .inr h'
  · exact (k1.toP (F := H) (fun x hx => .inl ((h.own _).2 (.inr (.inr hx))))).step k2 (by simp; exact .inl ((h.own _).2 (.inl rfl)))

def dropA (n : Int) (s : TS) : TS := ⟨s.held.filter (fun x => !(x.n == n)), s.wait.filter (fun x => !(x.n == n))⟩
theorem TOk.drop {s : TS} (h : TOk s) (n : Int) : TOk (dropA n s) := by
  refine ⟨h.wt.filter _, ?_⟩
  have h1 := List.length_filter_le (fun x : Ak => !(x.n == n)) s.held
  have h2 := List.length_filter_le (fun x : Ak => !(x.n == n)) s.wait
  have := h.few
  unfold dropA
  dsimp only
  omega
/-- A step over a table: it is still one, and nothing else is changed. -/
def TSt (w w' : World) (t : Nat) (H : Nat → Prop) (s' : TS) : Prop := ∃ H', TAt w' t H' s' ∧ Fr H H' w ∧ KeepsP H w w'

theorem drop_ok {w : World} {t : Nat} {H : Nat → Prop} {s : TS} (h : TAt w t H s) (ho : TOk s) (n : Int) :
    Cl Try.prog i_locks_Table_drop [.pointer (some ⟨t, 0, none⟩), .int .u64 n] true [] (fun _ w' => TSt w w' t H (dropA n s)) w := by
  obtain ⟨sh, sw, h⟩ := h
  have hfew := ho.few
  refine Cl_gen fun R hR => ?_
  apply locks_Table_drop_call
  unfold locks_Table_drop
  simp only [sxn, h.hd, sxl, Nat.reduceAdd]
  have kd : Keeps [] w w.drew := (Keeps.refl _ _).drew
  refine Cl.mono (of_ok n _) ?_
  rintro ⟨f, _⟩ w1 ⟨e, n1, hf, k1⟩
  dsimp only at hf ⊢
  have k01 := kp0 kd k1
  have g1 := h.keeps0 k01
  have hne : e ∉ blk sh := fun hx => by have := h.h.lt e hx; have : e < w.drew.heap.size := this; omega
  simp only [sxn, g1.hd, sxl, Nat.reduceAdd]
  refine ⟨by trivial, ?_⟩
  refine Cl.mono (DeleteFunc_ok g1.h (hf _ hne) (by omega)) ?_
  rintro ⟨r, _⟩ w2 ⟨h2, hb2, k2⟩
  dsimp only at h2 hb2 ⊢
  have hd2 := k2.at g1.hd g1.th
  refine set_box hd2 0 _ rfl (by simp) fun w3 hd3 k3 => ?_
  obtain ⟨H3, g3, f3, kp3⟩ := g1.setH k2 h2 (fun x hx => .inl (hb2 x hx)) k3 hd3
  simp only [sxn, g3.hd, sxl, Nat.reduceAdd]
  refine Cl.mono (of_ok n _) ?_
  rintro ⟨f, _⟩ w4 ⟨e, n4, hf, k4⟩
  dsimp only at hf ⊢
  have g4 := g3.keeps0 (kp0 ((Keeps.refl [] w3).drew) k4)
  have hne : e ∉ blk sw := fun hx => by have := g3.w.lt e hx; have : e < w3.drew.heap.size := this; omega
  simp only [sxn, g4.hd, sxl, Nat.reduceAdd]
  refine ⟨by trivial, ?_⟩
  refine Cl.mono (DeleteFunc_ok g4.w (hf _ hne) (by dsimp only; omega)) ?_
  rintro ⟨r2, _⟩ w5 ⟨h5, hb5, k5⟩
  dsimp only at h5 hb5 ⊢
  have hd5 := k5.at g4.hd g4.tw
  refine set_box hd5 1 _ rfl (by simp) fun w6 hd6 k6 => ?_
  obtain ⟨H6, g6, f6, kp6⟩ := g4.setW k5 h5 (fun x hx => .inl (hb5 x hx)) k6 hd6
  have s1 : w.heap.size ≤ w1.heap.size := k01.size
  have s3 : w1.heap.size ≤ w3.heap.size := kp3.size
  have s4 : w3.heap.size ≤ w4.heap.size := k4.size
  refine hR _ _ ⟨H6, ⟨_, _, g6⟩, ?_, ?_⟩
  · intro x hx
    rcases f6 x hx with h' | h'
    · rcases f3 x h' with h'' | h''
      · exact .inl h''
      · exact .inr (by omega)
    · exact .inr (by omega)
  · have q1 : KeepsP H w w3 := (k01.toP (F := H) (by simp)).same kp3
    have q2 : KeepsP H w w4 := q1.step (kp0 ((Keeps.refl [] w3).drew) k4) (by simp)
    exact q2.trans kp6 (fun x hx => by
      rcases f3 x hx with h' | h'
      · exact .inl h'
      · exact .inr (by omega))
end Go.Proofs.Ytmppjgddemlmdaa
