/- CachePinned, walked. -/
import Derived.Test.YtelojafogbmbcaaCg
set_option linter.unusedVariables false
set_option linter.unusedSimpArgs false
namespace Go.Proofs.Ytelojafogbmbcaa
open Go Go.Sx

structure Op where
  act : Int
  n : Int
  text : ByteArray
  lsn : Int
def encO (o : Op) : List Value := [.int .i64 o.act, .int .i64 o.n, .string o.text, .int .u64 o.lsn]
theorem encO_len (o : Op) : (encO o).length = 4 := rfl

/-- One of the operations is read, and laid in a block of its own. -/
theorem op_row {w0 w : World} {s : Sl} {os : List Op} (h : RdC s.p (s.len * 4) (os.flatMap encO) w0) (hk : Keeps [] w0 w) {k : Nat} (hl : k < s.len) {K : Addr → Pr} (kk : ∀ (a : Addr) (o : Op), os[k]? = some o → (∀ j v, j < 4 → (encO o)[j]? = some v → w.cell? (a.add j) = some v) → K a w) : Ix s (k : Int) 4 K w := by
  have hol : os.length = s.len := by
    have := h.1
    rw [flat_length encO_len] at this
    omega
  obtain ⟨o, ho⟩ : ∃ o, os[k]? = some o := ⟨_, List.getElem?_eq_getElem (by omega)⟩
  refine Ix_row (rdc_keeps h hk (by simp)) (by omega) hl fun a hc => kk a o ho fun j v hj hv => hc j v hj (by rw [flat_get encO_len os k j hj, ho]; exact hv)

theorem mod6 (x : Int) : ∃ k : Nat, 1 ≤ k ∧ k ≤ 6 ∧ w64 (1 + (w64 (x.tmod 6 + 6)).tmod 6) = (k : Int) := by
  obtain ⟨k, h1, h2⟩ := wrapMod x 6 (by decide) (by decide)
  have h2 : (w64 (x.tmod 6 + 6)).tmod 6 = (k : Int) := h2
  exact ⟨k + 1, by omega, by omega, by rw [h2, show (1 : Int) + (k : Int) = ((k + 1 : Nat) : Int) from by omega]; exact w64_nat (by omega)⟩

/-- Eight numbers in a row. -/
def ints8 (f : Nat → Int) : Obj := .cells ((List.range 8).map fun i => Value.int .i64 (f i)).toArray 30

theorem ints8_get (f : Nat → Int) {k : Nat} (hk : k < 8) : cellO (some (ints8 f)) k = some (.int .i64 (f k)) := by
  simp only [ints8, cellO, List.getElem?_toArray, List.getElem?_map, List.getElem?_range hk, Option.map_some]

theorem ints8_st {w0 w : World} {B : BkI Try.prog} {N c n : Nat} {L : List (Sl × List UInt8)} {s : CSt B} {a : Nat} {f : Nat → Int} (h : CS B w0 N c n L [(a, ints8 f)] s w) {k : Nat} (hk : k < 8) (x : Int) {K : Pr}
    (kk : ∀ w', CS B w0 N c n L [(a, ints8 fun i => if i = k then x else f i)] s w' → K w') : St ⟨a, k, none⟩ (.int .i64 x) K w := by
  have ha := h.at (z := (a, ints8 f)) List.mem_cons_self
  refine set_box (cs := ((List.range 8).map fun i => Value.int .i64 (f i)).toArray) (t := 30) ha k _ rfl (by simp; omega) ?_
  intro w' h1 h2
  refine kk w' (h.turn h2 ?_ (by simp))
  rw [h1]
  simp only [ints8]
  congr 2
  apply Array.toList_inj.1
  apply List.ext_getElem?
  intro j
  simp only [Array.toList_setIfInBounds, List.getElem?_set]
  by_cases hj : k = j
  · subst hj
    simp [hk]
  · rw [if_neg hj]
    by_cases hj8 : j < 8
    · simp [hj8, Ne.symm hj]
    · simp [hj8]

/-- What is so between two operations. -/
def PInv (w0 : World) (b c a places N : Nat) (s : CSt (refB b)) (w : World) : Prop :=
  ∃ f : Nat → Int, CS (refB b) w0 N c ((1000 - N) * 3) [] [(a, ints8 f)] s w ∧ Fine s ∧ s.ps.length = places ∧ (∀ k : Nat, 1 ≤ k → k ≤ 6 → f k = pinsOf s.ps k)

theorem tail_ok {w0 w : World} {b c a places N : Nat} {s : CSt (refB b)} (h : PInv w0 b c a places N s w) {R : Bool → Pr} {K : Bool → Pr} (t : Bool) (hK : ∀ w', PInv w0 b c a places N s w' → K t w') (hp : places ≤ 64) {Lp' : Pr} (hlp :
    Lp' = Lp (σ := Bool × Int × Int × Unit) (fun L18 s19 =>
  Br (decide ((s19.2.2.1 : Int) ≤ 6)) (
  Jp (σ := Int × Unit) (fun s21 =>
  Jp (σ := Bool × Unit) (fun s23 =>
  Br s23.1 (
  R false) (
  L18 (s19.1, s21.1, (w64 (s19.2.2.1 + 1)), ()))) fun J22 =>
  IxR ⟨a, 0, none⟩ 8 s19.2.2.1 1 fun a24 =>
  LdI .i64 a24 fun x25 =>
  Br (decide ((x25 : Int) > 0)) (
  Cl Try.prog 11 [(.pointer (some ⟨c, 0, none⟩)), (.int .i64 s19.2.2.1)] false [.sc .b] fun r26 =>
  J22 ((!r26.1), ())) (
  J22 (false, ()))) fun J20 =>
  Cl Try.prog 11 [(.pointer (some ⟨c, 0, none⟩)), (.int .i64 s19.2.2.1)] false [.sc .b] fun r27 =>
  Br r27.1 (
  J20 ((w64 (s19.2.1 + 1)), ())) (
  J20 (s19.2.1, ()))) (
  Br (decide ((s19.2.1 : Int) > (places : Int))) (
  R false) (K s19.1))) (t, 0, 1, ())) : Lp' w := by
  subst hlp
  obtain ⟨f, hC, hF, hl, hf⟩ := id h
  refine ⟨fun m st w' => w = w' ∧ ∃ i : Nat, st = (t, ((cntI (fun k => (pidx s.ps k).isSome) i : Nat) : Int), ((i + 1 : Nat) : Int), ()) ∧ i ≤ 6 ∧ m = 6 - i, ⟨6, rfl, 0, by simp [cntI], by omega, rfl⟩, ?_⟩
  rintro _ _ _ ⟨rfl, i, rfl, hi, rfl⟩
  dsimp only
  have hcnt := cnt_places s.ps i
  by_cases hi6 : i < 6
  · rw [decide_eq_true (by omega)]
    simp only [sx]
    have hw : w64 (((i + 1 : Nat) : Int) + 1) = ((i + 1 + 1 : Nat) : Int) := w64_nat (n := i + 2) (by omega)
    refine Jp_of (fun st w' => w = w' ∧ st = (((cntI (fun k => (pidx s.ps k).isSome) (i + 1) : Nat) : Int), ())) ?_ ?_
    · intro J hJ
      refine Cl.mono (hC.has _) ?_
      rintro r _ ⟨rfl, hr⟩
      rw [hr]
      refine Br_of (fun hc => ?_) (fun hc => ?_)
      · refine hJ _ _ ⟨rfl, ?_⟩
        rw [show w64 (((cntI (fun k => (pidx s.ps k).isSome) i : Nat) : Int) + 1) = ((cntI (fun k => (pidx s.ps k).isSome) i + 1 : Nat) : Int) from w64_nat (n := cntI (fun k => (pidx s.ps k).isSome) i + 1) (by omega)]
        simp only [cntI, hc]
        rfl
      · refine hJ _ _ ⟨rfl, ?_⟩
        simp only [cntI, hc]
        rfl
    rintro _ _ ⟨rfl, rfl⟩
    refine Jp_of (fun st w' => w = w' ∧ st = (false, ())) ?_ ?_
    · intro J hJ
      have ha := hC.at (z := (a, ints8 f)) List.mem_cons_self
      simp only [IxR, add_of, Nat.mul_one, Nat.zero_add, Int.toNat_natCast]
      refine ⟨by omega, by omega, ?_⟩
      rw [LdI_c, ha, ints8_get f (by omega)]
      simp only [sx]
      refine Br_of (fun hc => ?_) (fun hc => hJ _ _ ⟨rfl, rfl⟩)
      simp only [decide_eq_true_eq] at hc
      refine Cl.mono (hC.has _) ?_
      rintro r _ ⟨rfl, hr⟩
      refine hJ _ _ ⟨rfl, ?_⟩
      rw [hr]
      congr 1
      cases hp : pidx s.ps ((i + 1 : Nat) : Int) with
      | none =>
        have := pinsOf_none hp
        rw [hf (i + 1) (by omega) (by omega), this] at hc
        omega
      | some j => rfl
    rintro _ _ ⟨rfl, rfl⟩
    exact ⟨6 - (i + 1), by omega, rfl, i + 1, by rw [hw], by omega, rfl⟩
  · have : i = 6 := by omega
    subst this
    rw [decide_eq_false (by omega), decide_eq_false (by omega)]
    exact hK _ h

theorem CachePinned_ok {w : World} {places : Int} {l : Sl} {os : List Op} (h : RdC l.p (l.len * 4) (os.flatMap encO) w) :
    Cl Try.prog i_sumpterlaw10_CachePinned [.int .i64 places, .slice l.p l.len l.cap] false [.sc .b] (fun r w' => r.1 = true ∧ Keeps [] w w') w := by
  refine Cl_gen fun R hR => ?_
  apply sumpterlaw10_CachePinned_call
  unfold sumpterlaw10_CachePinned
  refine Cl.mono live_ok ?_
  rintro r1 w1 ⟨hr1, hk1⟩
  rw [hr1]
  refine ⟨by decide, by decide, ?_⟩
  obtain ⟨pl, hp1, hp6, hpl⟩ := mod6 places
  rw [hpl]
  refine Cl.mono (NewBack_ok 6 (-1) (by decide) (by decide) (by decide)) ?_
  rintro r2 w2 ⟨b, F, hr2, hb, hk2, hF⟩
  rw [hr2]
  have hk02 : Keeps [] w w2 := hk1.trans hk2 (by simp)
  have hz1 := hk1.size
  refine Cl.mono (make_ok (places := pl) hk02 hp1 (by omega) hb (fun x hx => by have := hF x hx; omega) (newB_plen _ _)) ?_
  rintro r3 w3 ⟨c, hr3, h3⟩
  rw [hr3]
  refine Jp_of (fun st w' => w3 = w' ∧ st = (decide (l.len > 200), ())) ?_ ?_
  · intro J hJ
    simp only [Option.isNone_some, sx]
    refine hJ _ _ ⟨rfl, ?_⟩
    congr 1
    apply decide_eq_decide.2
    omega
  rintro _ _ ⟨rfl, rfl⟩
  by_cases hlen : l.len > 200
  · rw [decide_eq_true hlen]
    exact hR _ _ ⟨rfl, h3.kp⟩
  rw [decide_eq_false hlen]
  simp only [sx]
  generalize ha : w3.heap.size = a
  generalize hw4 : w3.alloc _ = w4
  have ha4 : w4.heap[a]? = some (ints8 fun _ => 0) := by rw [← hw4]; exact hp_alloc_eq _ _ ha.symm
  have hk4 : Keeps [] w3 w4 := by rw [← hw4]; exact (Keeps.refl [] w3).alloc _
  generalize hs0 : newC (B := refB b) pl ⟨newB 6 (-1), newB_plen _ _⟩ = s0 at h3
  have h4 : PInv w b c a pl 0 s0 w4 := by
    refine ⟨fun _ => 0, (h3.addZ hk4 ha4 (by omega)).less (by decide), ?_, ?_, ?_⟩
    · rw [← hs0]
      have hg : ∀ (i : Nat) (p : Pg), (List.replicate pl (none : Option Pg))[i]? ≠ some (some p) := by
        intro i p h
        rw [List.getElem?_replicate] at h
        split at h <;> cases h
      refine ⟨fun i p hp => absurd hp (hg i p), fun i p hp => absurd hp (hg i p), rfl, fun k h1 h2 => ?_⟩
      simp only [newC, newB, newPg]
      rw [if_pos (by omega)]
      simp
    · rw [← hs0]; simp [newC]
    · intro k _ _
      rw [← hs0]
      refine (pinsOf_none (pidx_no.2 fun i p hp => ?_)).symm
      simp only [newC, List.getElem?_replicate] at hp
      split at hp <;> cases hp
  have hz02 := hk02.size
  refine ⟨fun m st w' => ∃ (i : Nat) (s : CSt (refB b)) (t : Bool), st = (t, (i : Int), ()) ∧ i ≤ l.len ∧ m = l.len - i ∧ PInv w b c a pl i s w', ⟨l.len, 0, s0, false, rfl, by omega, rfl, h4⟩, ?_⟩
  rintro _ _ w5 ⟨i, s, t, rfl, hi, rfl, h5⟩
  dsimp only
  by_cases hil : i < l.len
  · rw [decide_eq_true (by omega)]
    simp only [sx]
    have hkp5 : Keeps [] w w5 := by obtain ⟨f, hC, _⟩ := h5; exact hC.kp
    refine op_row h hkp5 hil fun ad o ho hc => ?_
    refine ⟨_, hc 0 _ (by omega) rfl, _, hc 1 _ (by omega) rfl, _, hc 2 _ (by omega) rfl, _, hc 3 _ (by omega) rfl, ?_⟩
    simp (disch := ((try simp only [sx]); first | done | omega)) only [sx, sxc, sxl, Nat.zero_add, Nat.reduceAdd, Nat.reduceLT, true_and]
    generalize hq : w5.heap.size = q
    generalize hw6 : setObjW (w5.alloc _) q _ = w6
    have hk56 : Keeps [] w5 w6 := by subst hw6; exact ((Keeps.refl [] w5).alloc _).setObjW (.inr (by omega)) _
    have hq6 : w6.heap[q]? = some (.cells #[.int .i64 o.act, .int .i64 o.n, .string o.text, .int .u64 o.lsn] 33) := by subst hw6; exact hp_setObjW_same (by rw [World.size_alloc]; omega)
    obtain ⟨f, hC, hFi, hl, hf⟩ := h5
    have hC6 := hC.grow hk56
    have hql : w.heap.size ≤ q := by have := hkp5.size; omega
    obtain ⟨id, hid1, hid6, hid⟩ := mod6 o.n
    simp only [hid]
    refine ⟨by decide, by decide, ?_⟩
    refine Jp_of (fun st w' => ∃ (s' : CSt (refB b)) (t' : Bool), st = (t', ()) ∧ PInv w b c a pl (i + 1) s' w') ?_ ?_
    case refine_2 =>
      rintro _ w7 ⟨s', t', rfl, h7⟩
      refine tail_ok (R := fun b => R (b, ())) (K := fun t'' w' => ∃ m, m < l.len - i ∧ ∃ (i_1 : Nat) (s : CSt (refB b)) (t : Bool), (t'', w64 ((i : Int) + 1), ()) = (t, (i_1 : Int), ()) ∧ i_1 ≤ l.len ∧ m = l.len - i_1 ∧ PInv w b c a pl i_1 s w') h7 t' ?_ (by omega) rfl
      intro w8 h8
      exact ⟨l.len - (i + 1), by omega, i + 1, s', t', by rw [show w64 ((i : Int) + 1) = ((i + 1 : Nat) : Int) from w64_nat (n := i + 1) (by omega)], by omega, rfl, h8⟩
    intro J hJ
    simp only [sx, sxl, hq6, Nat.zero_add]
    have hn : (1000 - (i + 1)) * 3 + 3 ≤ (1000 - i) * 3 := by omega
    have hidx : ∀ {K : Addr → Pr} {w' : World}, K ⟨a, id, none⟩ w' → IxR ⟨a, 0, none⟩ 8 (id : Int) 1 K w' := fun hK => by
      simp only [IxR, add_of, Nat.mul_one, Nat.zero_add, Int.toNat_natCast]
      exact ⟨by omega, by omega, hK⟩
    refine Br_of (fun hdo => ?_) (fun hdo => ?_)
    · refine Cl.mono (hC6.unpin (by omega) id) ?_
      rintro r7 w7 ⟨hr7, h7⟩
      obtain ⟨u1, u2, u3, u4⟩ := unpin_law hC.uq.1 hFi (id : Int)
      have hfid := hf id hid1 hid6
      refine hidx ?_
      rw [LdI_c, h7.at (z := (a, ints8 f)) List.mem_cons_self, ints8_get f (by omega)]
      simp only [sx, hr7]
      have hcond : (!(((mUnpin (refB b) s id).2 == 0) == decide (f id > 0))) = false := by
        rw [hfid]
        by_cases hp : pinsOf s.ps (id : Int) > 0
        · rw [decide_eq_true hp, u1.2 hp]; rfl
        · rw [decide_eq_false hp, show ((mUnpin (refB b) s id).2 == 0) = false from beq_eq_false_iff_ne.2 fun h => hp (u1.1 h)]
          rfl
      rw [hcond]
      simp only [sx]
      refine hidx ?_
      rw [LdI_c, h7.at (z := (a, ints8 f)) List.mem_cons_self, ints8_get f (by omega)]
      simp only [sx]
      refine Br_of (fun hp => ?_) (fun hp => ?_)
      · simp only [decide_eq_true_eq] at hp
        refine hidx ?_
        rw [LdI_c, h7.at (z := (a, ints8 f)) List.mem_cons_self, ints8_get f (by omega)]
        simp only [sx]
        refine hidx ?_
        refine ints8_st h7 (by omega) _ ?_
        intro w8 h8
        refine hJ _ _ ⟨_, t, rfl, _, (h8.mono (by omega)).less (by omega), u2, u3.trans hl, fun k hk1 hk6 => ?_⟩
        rw [u4, hf k hk1 hk6]
        by_cases hk : k = id
        · subst hk
          have hpb : pinsOf s.ps (k : Int) ≤ 9223372036854775807 := by
            cases hx : pidx s.ps (k : Int) with
            | none => rw [pinsOf_none hx]; decide
            | some j =>
              obtain ⟨p, hpj, hpe⟩ := pidx_some hx
              rw [← hpe, pinsOf_some hC.uq.1 hpj]
              have := (hC.uq.2.1 j p hpj).pinsN
              omega
          rw [if_pos rfl, if_pos ⟨by omega, rfl⟩, hfid, w64_in (by omega) (by omega)]
        · rw [if_neg hk, if_neg (fun hh => hk (by omega))]
          omega
      · simp only [decide_eq_false_iff_not] at hp
        refine hJ _ _ ⟨_, t, rfl, f, (h7.mono (by omega)).less (by omega), u2, u3.trans hl, fun k hk1 hk6 => ?_⟩
        rw [u4, hf k hk1 hk6, if_neg (by omega)]
        omega
    · have hh := hC.uq.2.2.1
      obtain ⟨u1, u2, u3, u4⟩ := pin_law hh hFi (id := (id : Int)) (by omega) (by omega)
      refine Cl.mono ((hC6.less hn).pin (by omega) id) ?_
      rintro r7 w7 ⟨hr7, h7⟩
      have h7 := h7.noL
      rw [hr7]
      refine Jp_of (fun _ w' => PInv w b c a pl (i + 1) (mPin (refB b) s id).1 w') ?_ ?_
      · intro J2 hJ2
        refine Br_of (fun h0 => ?_) (fun h0 => ?_)
        · have h0 : (mPin (refB b) s id).2.2 = 0 := by simpa using h0
          refine hidx ?_
          rw [LdI_c, h7.at (z := (a, ints8 f)) List.mem_cons_self, ints8_get f (by omega)]
          simp only [sx]
          refine hidx ?_
          refine ints8_st h7 (by omega) _ ?_
          intro w8 h8
          refine hJ2 _ _ ⟨_, h8, u2, u3.trans hl, fun k hk1 hk6 => ?_⟩
          rw [u4, hf k hk1 hk6]
          by_cases hk : k = id
          · subst hk
            have hpb : pinsOf s.ps (k : Int) ≤ i ∧ 0 ≤ pinsOf s.ps (k : Int) := by
              cases hx : pidx s.ps (k : Int) with
              | none => rw [pinsOf_none hx]; omega
              | some j =>
                obtain ⟨p, hpj, hpe⟩ := pidx_some hx
                rw [← hpe, pinsOf_some hC.uq.1 hpj]
                exact ⟨(hC.uq.2.1 j p hpj).pinsN, (hC.uq.2.1 j p hpj).pins0⟩
            rw [if_pos rfl, if_pos ⟨h0, rfl⟩, hf k hid1 hid6, w64_in (by omega) (by omega)]
          · rw [if_neg hk, if_neg (fun hh => hk (by omega))]
            omega
        · have h0 : ¬ (mPin (refB b) s id).2.2 = 0 := by simpa using h0
          refine hJ2 _ _ ⟨f, h7, u2, u3.trans hl, fun k hk1 hk6 => ?_⟩
          rw [u4, hf k hk1 hk6, if_neg (fun hh => h0 hh.1)]
          omega
      rintro _ w8 h8
      have hcond : ∀ {J3 : Bool × Unit → Pr} {w' : World}, J3 (false, ()) w' → (Br ((mPin (refB b) s id).2.2 != 0) (J3 (((mPin (refB b) s id).2.2 != 100), ())) (J3 (false, ()))) w' := by
        intro J3 w' hJ3
        rcases u1 with h0 | h0
        · rw [h0]; exact hJ3
        · rw [h0]; exact hJ3
      refine Jp_of (fun st w' => w8 = w' ∧ st = (false, ())) (fun J3 hJ3 => hcond (hJ3 _ _ ⟨rfl, rfl⟩)) ?_
      rintro _ _ ⟨rfl, rfl⟩
      exact hJ _ _ ⟨_, t, rfl, h8⟩
  · rw [decide_eq_false (by omega)]
    obtain ⟨f, hC, _⟩ := h5
    exact hR _ _ ⟨rfl, hC.kp⟩

end Go.Proofs.Ytelojafogbmbcaa
