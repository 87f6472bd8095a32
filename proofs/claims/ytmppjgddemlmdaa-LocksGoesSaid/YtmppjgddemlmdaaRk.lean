/- The reference's table: wait, Ask, Txns, Holds. Conditions: none. -/
import Derived.Test.YtmppjgddemlmdaaRs
set_option linter.unusedVariables false
set_option linter.unusedSimpArgs false
namespace Go.Proofs.Ytmppjgddemlmdaa
open Go Go.Sx

theorem waitR_ok {w : World} {t : Nat} {H : Nat → Prop} {s : TS} (h : XAt w t H s) (ho : TOk s) (x : Ak) :
    Cl Try.prog i_sumpterref16_Table_wait [.pointer (some ⟨t, 0, none⟩), vA x] true [] (fun _ w' => XSt w w' t H ⟨s.held, insA x s.wait⟩) w := by
  obtain ⟨sh, sw, h⟩ := h
  have hfew := ho.few
  have hlw := as_len h.w
  have hcw := h.w.cap
  refine Cl_gen fun R hR => ?_
  apply sumpterref16_Table_wait_call
  unfold sumpterref16_Table_wait
  refine New_bx fun a w0 ha na k0 => ?_
  refine ⟨fun k st w' => ∃ (i : Nat), st = ((i : Int), ()) ∧ k = s.wait.length - i ∧ i ≤ s.wait.length ∧ (∀ y ∈ s.wait.take i, y.n < x.n) ∧ Keeps [] w0 w', ⟨_, 0, rfl, rfl, by omega, by simp, Keeps.refl _ _⟩, ?_⟩
  rintro k _ w1 ⟨i, rfl, rfl, hi, hp, k1⟩
  dsimp only
  refine Jp_of (fun st w' => st = ((match s.wait[i]? with | some y => decide (y.n < x.n) | none => false), ()) ∧ Keeps [] w0 w') (fun J hJ => ?_) ?_
  · have g1 := h.keeps0 (kp0 k0 k1)
    have ha1 := k1.at ha (by simp)
    simp only [sxn, g1.hd, sxl, Nat.reduceAdd]
    have kd : Keeps [] w0 w1.drew := k1.drew
    by_cases hlt : i < s.wait.length
    · rw [decide_eq_true (by omega)]
      simp only [sxn, g1.hd, sxl, Nat.reduceAdd]
      obtain ⟨y, hy⟩ : ∃ y, s.wait[i]? = some y := ⟨_, List.getElem?_eq_getElem hlt⟩
      have g1' := g1.w.keeps (m := []) ((Keeps.refl [] w1).drew) (by simp)
      obtain ⟨b, o, hpb, _⟩ := g1'.base (by omega)
      have hit := g1'.item cA_len hpb hy 0 (by omega)
      rw [Ix_base hpb (by omega) (by omega), Int.toNat_natCast]
      simp only [add_of]
      rw [LdI_c, hit]
      show asI _ _ (some (.int .u64 y.n)) _
      simp only [asI, true_and]
      simp only [sxn, ha1, sxl, Nat.reduceAdd]
      exact hJ _ _ ⟨by rw [hy], kd⟩
    · rw [decide_eq_false (by omega)]
      exact hJ _ _ ⟨by rw [List.getElem?_eq_none (by omega)], kd⟩
  rintro _ w2 ⟨rfl, k2⟩
  dsimp only
  have k02 := kp0 k0 k2
  cases hc1 : (match s.wait[i]? with | some y => decide (y.n < x.n) | none => false) with
  | true =>
    simp only [Br_true]
    cases hy : s.wait[i]? with
    | none => rw [hy] at hc1; cases hc1
    | some y =>
      rw [hy] at hc1
      have hlt := (List.getElem?_eq_some_iff.1 hy).1
      refine ⟨s.wait.length - (i + 1), by omega, i + 1, by rw [w64p (by omega)], rfl, by omega, fun z hz => ?_, k2⟩
      rw [List.take_add_one, hy] at hz
      simp at hz
      rcases hz with hz | rfl
      · exact hp z hz
      · simpa using hc1
  | false =>
    have hdr : ∀ y ∈ s.wait.drop i, x.n ≤ y.n := by
      intro y hy
      obtain ⟨q, hq⟩ := List.getElem?_of_mem hy
      rw [List.getElem?_drop] at hq
      have hq1 := (List.getElem?_eq_some_iff.1 hq)
      obtain ⟨hq2, hq3⟩ := hq1
      obtain ⟨z, hz⟩ : ∃ z, s.wait[i]? = some z := ⟨_, List.getElem?_eq_getElem (by omega)⟩
      rw [hz] at hc1
      have hzx : ¬ z.n < x.n := by simpa using hc1
      by_cases hq0 : q = 0
      · subst hq0
        rw [Nat.add_zero, hz] at hq
        injection hq with hq
        rw [← hq]; omega
      · obtain ⟨hz1, hz2⟩ := List.getElem?_eq_some_iff.1 hz
        have := List.pairwise_iff_getElem.1 ho.wt i (i + q) hz1 hq2 (by omega)
        rw [hz2, hq3] at this
        omega
    have hins := insA_at hp hdr
    have g2 := h.keeps0 k02
    have ha2 := k2.at ha (by simp)
    simp only [sxn, g2.hd, sxl, Nat.reduceAdd]
    refine ⟨⟨by omega, by omega⟩, ?_⟩
    simp only [slOff_zero, Int.toNat_natCast, Nat.sub_zero]
    have hf := slc_front g2.w (i := i) (by omega)
    rw [flatA_take] at hf
    have hnil : As w2 ⟨none, 0, 0⟩ [] := SlC.nil _ 4
    refine App_of hnil hf.rdc (by rw [flatA_len, List.length_take]; congr 1; omega) (cAs_one _) (by kernel_rfl) (by dsimp only; omega) (by dsimp only; omega) ?_
    intro r3 w3 h3 l3 k3 b3
    have k23 : Keeps [] w2 w3 := k3.mono (by simp [blk])
    have f3 : ∀ y ∈ blk r3, w2.heap.size ≤ y := fun y hy => (b3 y hy).elim (fun h => by simp [blk] at h) id
    dsimp only at l3
    have ha3 := k23.at ha2 (by simp)
    simp only [sxn, ha3, sxl, Nat.reduceAdd]
    refine NewApp_of (bytes := 48) (new := cA x) h3 (by rw [cA_len]) (cA_one x) (by kernel_rfl) (by omega) (by omega) ?_
    intro r4 w4 h4 l4 k4 b4
    have k24 := kpx k23 k4 f3
    have f4 : ∀ y ∈ blk r4, w2.heap.size ≤ y := fun y hy => (b4 y hy).elim (f3 y) (fun h => by have := k23.size; omega)
    have g4 := g2.keeps0 k24
    simp only [sxn, g4.hd, sxl, Nat.reduceAdd]
    refine ⟨⟨by omega, by omega⟩, ?_⟩
    have hs := g4.w.sub (lo := i) (hi := sw.len) (by omega) (Nat.le_refl _)
    rw [flatA_drop, List.take_of_length_le (by rw [flatA_len, List.length_drop]; omega)] at hs
    refine App_of h4 hs.rdc (by rw [flatA_len, List.length_drop]; congr 1; omega) (cAs_one _) (by kernel_rfl) (by omega) (by omega) ?_
    intro r5 w5 h5 l5 k5 b5
    have k25 := kpx k24 k5 f4
    have f5 : ∀ y ∈ blk r5, w2.heap.size ≤ y := fun y hy => (b5 y hy).elim (f4 y) (fun h => by have := k24.size; omega)
    have g5 := g2.keeps0 k25
    refine set_box g5.hd 1 _ rfl (by simp) fun w6 hd6 k6 => ?_
    have h5' : As w5 r5 (insA x s.wait) := by
      rw [hins]
      show SlC _ _ _ _
      have e : (s.wait.take i ++ x :: s.wait.drop i).flatMap cA = ([] : List Ak).flatMap cA ++ (s.wait.take i).flatMap cA ++ cA x ++ (s.wait.drop i).flatMap cA := by simp
      rw [e]
      exact h5
    obtain ⟨H6, g6, f6, kp6⟩ := g2.setW (k25.mono (by simp)) h5' (fun y hy => .inr (f5 y hy)) k6 hd6
    have s2 := k02.size
    exact hR _ _ ⟨H6, ⟨_, _, g6⟩, fun z hz => (f6 z hz).elim .inl (fun h => .inr (by omega)), (k02.toP (F := H) (by simp)).same kp6⟩

theorem young_first {x : Ak} {l : List Ak} : l.all (fun y => !(wayA x y && decide (y.n < x.n))) = firstA x l := by
  unfold firstA
  induction l with
  | nil => rfl
  | cons y t ih =>
    rw [List.all_cons, List.all_cons, ih]
    congr 1
    cases hw : wayA x y with
    | false => rfl
    | true =>
      have := wayA_ne hw
      by_cases h : y.n < x.n
      · rw [decide_eq_true h, decide_eq_false (by omega)]; rfl
      · rw [decide_eq_false h, decide_eq_true (by omega)]; rfl

set_option maxRecDepth 8000 in
theorem AskR_ok {w : World} {t : Nat} {H : Nat → Prop} {s : TS} (h : XAt w t H s) (ho : TOk s) (x : Ak) :
    Cl Try.prog i_sumpterref16_Table_Ask [.pointer (some ⟨t, 0, none⟩), .int .u64 x.n, .agg #[.string x.lo, .string x.hi, .bool x.wr]] true [.sc (.i .i64), .sc .sl, .sc .sl, .sc (.i .i64)]
      (fun r w' => r.1 = (askA x s).1.1 ∧ r.2.2.2.1 = (askA x s).1.2.2.2 ∧ LeftR w w' t H (askA x s).2 r.2.1 r.2.2.1 (askA x s).1.2.1 (askA x s).1.2.2.1) w := by
  obtain ⟨A, hA⟩ : ∃ A, A = askA x s := ⟨_, rfl⟩
  rw [← hA]
  unfold askA at hA
  have h0 := h
  obtain ⟨sh, sw, h⟩ := h
  have hfew := ho.few
  have hlh := as_len h.h
  have hlw := as_len h.w
  refine Cl_gen fun R hR => ?_
  apply sumpterref16_Table_Ask_call
  unfold sumpterref16_Table_Ask
  refine New_bx fun a w1 ha na k1 => ?_
  simp only [sxn, ha, sxl, Nat.reduceAdd]
  refine Cl.mono (RCheck_ok _ _ _) ?_
  rintro ⟨r, _⟩ w2 ⟨e, k2⟩
  dsimp only at e
  subst e
  simp only [ok1]
  have k02 := kp0 k1 k2
  have ha2 := k2.at ha (by simp)
  cases hok : okR x.lo x.hi with
  | false =>
    rw [if_pos hok] at hA
    rw [hA] at hR
    exact hR (0, ⟨none, 0, 0⟩, ⟨none, 0, 0⟩, 21, ()) _ ⟨rfl, rfl, LeftR.none h0 k02⟩
  | true =>
  rw [if_neg (by rw [hok]; simp)] at hA
  simp only [Bool.not_true, Br_false]
  refine Cl.mono (waitsR_ok (h0.keeps0 k02) ho x.n) ?_
  rintro ⟨r, _⟩ w4 ⟨e4, k4⟩
  dsimp only at e4
  subst e4
  have k04 := kp0 k02 k4
  cases hany : s.wait.any (fun y => y.n == x.n) with
  | true =>
    rw [if_pos hany] at hA
    rw [hA] at hR
    exact hR (0, ⟨none, 0, 0⟩, ⟨none, 0, 0⟩, 4, ()) _ ⟨rfl, rfl, LeftR.none h0 k04⟩
  | false =>
  rw [if_neg (by rw [hany]; simp)] at hA
  have ha4 := k4.at ha2 (by simp)
  simp only [sxn, ha4, sxl, Nat.reduceAdd]
  refine bx5 fun c w5 hc nc k5 => ?_
  have k05 := kp0 k04 k5
  have ha5 := k5.at ha4 (by simp)
  have g5 := h.keeps0 k05
  simp only [sxn, g5.hd, sxl, Nat.reduceAdd]
  refine ⟨fun n st w' => ∃ (q1 : Int) (q2 q3 : Sl) (q4 : Int) (i : Nat), st = (q1, q2, q3, q4, (s.held.take i).all (fun y => !(wayA x y && decide (y.n < x.n))), (i : Int), ()) ∧ n = s.held.length - i ∧ i ≤ s.held.length ∧ (∀ y ∈ s.held.take i, covA x y = false) ∧ Keeps [] w5 w', ⟨_, 0, ⟨none, 0, 0⟩, ⟨none, 0, 0⟩, 0, 0, rfl, rfl, by omega, by simp, Keeps.refl _ _⟩, ?_⟩
  rintro n _ w6 ⟨q1, q2, q3, q4, i, rfl, rfl, hi, hcov, k6⟩
  dsimp only
  have g6 := g5.keeps0 k6
  have ha6 := k6.at ha5 (by simp)
  have hc6 := k6.at hc (by simp)
  have k06 := kp0 k05 k6
  by_cases hlt : i < s.held.length
  · rw [decide_eq_true (by omega)]
    simp only [Br_true]
    obtain ⟨y, hy⟩ : ∃ y, s.held[i]? = some y := ⟨_, List.getElem?_eq_getElem hlt⟩
    have hfi : (s.held.take (i + 1)).all (fun y => !(wayA x y && decide (y.n < x.n))) = ((s.held.take i).all (fun y => !(wayA x y && decide (y.n < x.n))) && !(wayA x y && decide (y.n < x.n))) := by
      rw [List.take_add_one, hy, List.all_append]
      simp
    refine Jp_of (fun st w' => st = (q1, q2, q3, q4, (s.held.take (i + 1)).all (fun y => !(wayA x y && decide (y.n < x.n))), ()) ∧ covA x y = false ∧ Keeps [] w5 w') (fun J hJ => ?_) ?_
    rotate_left
    · rintro _ w7 ⟨rfl, hcy, k7⟩
      refine ⟨s.held.length - (i + 1), by omega, q1, q2, q3, q4, i + 1, by rw [w64p (by omega)], rfl, by omega, ?_, k7⟩
      intro z hz
      rw [List.take_add_one, hy] at hz
      simp at hz
      rcases hz with hz | rfl
      · exact hcov z hz
      · exact hcy
    refine as_ld g6.h hy ?_
    refine bx5 fun b w7 hb nb k7 => ?_
    have ha7 := k7.at ha6 (by simp)
    have hc7 := k7.at hc6 (by simp)
    refine Jp_of (fun st w' => st = (covA x y, ()) ∧ Keeps [] w7 w') (fun J2 hJ2 => ?_) ?_
    · simp only [sxn, hb, sxl, Nat.reduceAdd]
      cases hn : y.n == x.n with
      | false => exact hJ2 _ _ ⟨by unfold covA; rw [hn]; rfl, Keeps.refl _ _⟩
      | true =>
      simp only [sxn, hb, ha7, sxl, Nat.reduceAdd]
      refine Cl.mono (RCovers_ok _ _ _ _ _) ?_
      rintro ⟨q, _⟩ w8 ⟨e8, k8⟩
      dsimp only at e8
      subst e8
      cases hcv : coversR y.lo y.hi x.lo x.hi with
      | false => exact hJ2 _ _ ⟨by unfold covA; rw [hn, hcv]; rfl, k8⟩
      | true =>
      have hb8 := k8.at hb (by simp)
      have ha8 := k8.at ha7 (by simp)
      simp only [sxn, hb8, ha8, sxl, Nat.reduceAdd]
      cases hwr : y.wr with
      | true => exact hJ2 _ _ ⟨by unfold covA; rw [hn, hcv, hwr]; rfl, k8⟩
      | false =>
      simp only [sxn, ha8, sxl, Nat.reduceAdd]
      exact hJ2 _ _ ⟨by unfold covA; rw [hn, hcv, hwr]; rfl, k8⟩
    · rintro _ w8 ⟨rfl, k8⟩
      dsimp only
      have k78 := kp0 k7 k8
      have k08 := kp0 k06 k78
      cases hcy : covA x y with
      | true =>
        have hany2 : s.held.any (covA x) = true := List.any_eq_true.2 ⟨y, List.mem_of_getElem? hy, hcy⟩
        rw [if_pos hany2] at hA
        rw [hA] at hR
        exact hR (1, ⟨none, 0, 0⟩, ⟨none, 0, 0⟩, 0, ()) _ ⟨rfl, rfl, LeftR.none h0 k08⟩
      | false =>
        have hb8 := k8.at hb (by simp)
        have hc8 := k8.at hc7 (by simp)
        simp only [Br_false]
        refine Jp_of (fun st w' => st = (wayA x y && decide (y.n < x.n), ()) ∧ Keeps [] w8 w') (fun J3 hJ3 => ?_) ?_
        · simp only [sxn, hb8, hc8, sxl, Nat.reduceAdd]
          refine Cl.mono (Way_ok y x _) ?_
          rintro ⟨q, _⟩ w10 ⟨e10, k10⟩
          dsimp only at e10
          rw [wayA_comm] at e10
          subst e10
          have hb10 := k10.at hb8 (by simp)
          cases hw : wayA x y with
          | false => exact hJ3 _ _ ⟨by rw [hw]; rfl, k10⟩
          | true =>
            simp only [sxn, hb10, sxl, Nat.reduceAdd]
            exact hJ3 _ _ ⟨by rw [hw]; rfl, k10⟩
        · rintro _ w10 ⟨rfl, k10⟩
          dsimp only
          have k510 : Keeps [] w5 w10 := kp0 (kp0 k6 k78) k10
          cases hv : wayA x y && decide (y.n < x.n) with
          | true => exact hJ _ _ ⟨by rw [hfi, hv]; simp, hcy, k510⟩
          | false => exact hJ _ _ ⟨by rw [hfi, hv]; simp, hcy, k510⟩
  · have hil : i = s.held.length := by omega
    have htk : s.held.take i = s.held := List.take_of_length_le (by omega)
    rw [decide_eq_false (by omega)]
    rw [htk] at hcov ⊢
    rw [young_first]
    rw [if_neg (by rw [any_take_none hcov]; simp)] at hA
    simp only [Br_false]
    have kd : Keeps [] w6 w6.drew := (Keeps.refl _ _).drew
    simp only [sxn, g6.hd, sxl, Nat.reduceAdd]
    rw [hlh, hlw, w64a rfl rfl (by omega)]
    have k06d := kp0 k06 kd
    by_cases hmax : 192 ≤ s.held.length + s.wait.length
    · rw [if_pos hmax] at hA
      rw [hA] at hR
      rw [decide_eq_true (by omega)]
      exact hR (3, ⟨none, 0, 0⟩, ⟨none, 0, 0⟩, 0, ()) _ ⟨rfl, rfl, LeftR.none h0 k06d⟩
    · rw [if_neg hmax] at hA
      rw [decide_eq_false (by omega)]
      have hc6' : w6.drew.heap[c]? = _ := hc6
      simp only [sxn, hc6, sxl, Nat.reduceAdd]
      refine Cl.mono (freeR_ok (h0.keeps0 k06d) ho x) ?_
      rintro ⟨r7, _⟩ w7 ⟨e7, k7⟩
      dsimp only at e7
      subst e7
      have hc7 := k7.at hc6' (by simp)
      have k07 := kp0 k06d k7
      have hfr : freeA s x = !(s.held.any (wayA x)) := rfl
      rw [hfr]
      cases hv : s.held.any (wayA x) with
      | false =>
        rw [if_pos hv] at hA
        simp only [sxn, hc7, sxl, Nat.reduceAdd, Bool.not_false]
        have hog : TOk ⟨s.held ++ [x], s.wait⟩ := ⟨ho.wt, by show (s.held ++ [x]).length + s.wait.length ≤ 192; rw [List.length_append, List.length_singleton]; omega⟩
        refine Cl.mono (grantR_ok (h0.keeps0 k07) hog) ?_
        rintro ⟨r8, _⟩ w8 ⟨H8, h8, f8, k8, hr8, hn8⟩
        dsimp only at hr8 hn8 ⊢
        have hog2 : TOk (grantA x s).2 := TOk.dropAll hog
        have hkl : (grantA x s).1.length ≤ s.wait.length := killed_len x s.wait
        have hwl : (grantA x s).2.wait.length ≤ s.wait.length := dropAll_wait_le _ _
        have hb0 : (grantA x s).1.length + (grantA x s).2.wait.length * 200 ≤ 40000 := by omega
        have hself : setA (grantA x s).1 = (grantA x s).1 := setA_self (killed_rising ho.wt)
        have hset := settleR_ok h8 hog2 (by rw [hself]; exact hr8) (fun y hy => (hn8 y hy).2) hb0
        obtain ⟨Q, hQ⟩ : ∃ Q, Q = settleA (grantA x s).2.wait.length (grantA x s).2 [] (grantA x s).1 := ⟨_, rfl⟩
        rw [← hQ] at hset
        refine Cl.mono hset ?_
        rintro ⟨a9, b9, _⟩ w9 ⟨H9, h9, f9, k9, ha9, hb9, na9, nb9⟩
        dsimp only at ha9 hb9 na9 nb9 ⊢
        have hA' : A = ((1, setA Q.2.1, setA Q.2.2, 0), Q.1) := by rw [hA, hQ]
        rw [hA'] at hR
        have s8 := k8.size
        refine hR (1, a9, b9, 0, ()) _ ⟨rfl, rfl, LeftR.pre k07 ⟨H9, h9, f8.trans f9 s8, k8.trans k9 (fun z hz => f8 z hz), ha9, hb9, fun y hy => by have := (na9 y hy).1; omega, fun y hy => ?_⟩⟩
        rcases (nb9 y hy).1 with h' | h'
        · exact (hn8 y h').1
        · omega
      | true =>
        rw [if_neg (by rw [hv]; simp)] at hA
        simp only [Bool.not_true, Br_false]
        cases hfs : firstA x s.held with
        | false =>
          rw [if_neg (by rw [hfs]; simp)] at hA
          rw [hA] at hR
          exact hR (3, ⟨none, 0, 0⟩, ⟨none, 0, 0⟩, 0, ()) _ ⟨rfl, rfl, LeftR.none h0 k07⟩
        | true =>
          rw [if_pos hfs] at hA
          rw [hA] at hR
          simp only [sxn, hc7, sxl, Nat.reduceAdd]
          refine Cl.mono (waitR_ok (h0.keeps0 k07) ho x) ?_
          rintro _ w8 ⟨H8, h8, f8, k8⟩
          exact hR (2, ⟨none, 0, 0⟩, ⟨none, 0, 0⟩, 0, ()) _ ⟨rfl, rfl, LeftR.pre k07 ⟨H8, h8, f8, k8, SlC.nil _ 1, SlC.nil _ 1, by simp [blk], by simp [blk]⟩⟩

theorem TxnsR_ok {w : World} {t : Nat} {H : Nat → Prop} {s : TS} (h : XAt w t H s) (ho : TOk s) :
    Cl Try.prog i_sumpterref16_Table_Txns [.pointer (some ⟨t, 0, none⟩)] false [.sc .sl] (fun r w' => SlC w' r.1 1 (cU (txnsA s)) ∧ (∀ y ∈ blk r.1, w.heap.size ≤ y) ∧ Keeps [] w w') w := by
  obtain ⟨sh, sw, h⟩ := h
  have hfew := ho.few
  have hlh := as_len h.h
  have hlw := as_len h.w
  refine Cl_gen fun R hR => ?_
  apply sumpterref16_Table_Txns_call
  unfold sumpterref16_Table_Txns
  simp only [sxn, h.hd, sxl, Nat.reduceAdd]
  refine ⟨fun k st w' => ∃ (i : Nat) (r : Sl), st = (r, (i : Int), ()) ∧ k = s.held.length - i ∧ i ≤ s.held.length ∧ SlC w' r 1 (cU (setA ((s.held.take i).map (·.n)))) ∧ (∀ y ∈ blk r, w.heap.size ≤ y) ∧ Keeps [] w w', ⟨_, 0, ⟨none, 0, 0⟩, rfl, rfl, by omega, SlC.nil _ 1, by simp [blk], Keeps.refl _ _⟩, ?_⟩
  rintro k _ w1 ⟨i, r, rfl, rfl, hi, h1, hb1, k1⟩
  dsimp only
  have hs1 := setA_le ((s.held.take i).map (·.n))
  rw [List.length_map, List.length_take] at hs1
  by_cases hlt : i < s.held.length
  · rw [decide_eq_true (by omega)]
    simp only [Br_true]
    obtain ⟨y, hy⟩ : ∃ y, s.held[i]? = some y := ⟨_, List.getElem?_eq_getElem hlt⟩
    refine as_ld (h.h.keeps k1 (by simp)) hy ?_
    refine bx5 fun b w2 hb nb k2 => ?_
    simp only [sxn, hb, sxl, Nat.reduceAdd]
    refine Cl.mono (Add_ok (h1.keeps k2 (by simp)) y.n (by omega)) ?_
    rintro ⟨r3, _⟩ w3 ⟨h3, hb3, k3⟩
    dsimp only at h3 hb3 ⊢
    have k02 := kp0 k1 k2
    refine ⟨s.held.length - (i + 1), by omega, i + 1, r3, by rw [w64p (by omega)], rfl, by omega, ?_, fun z hz => (hb3 z hz).elim (hb1 z) (fun h => by have := k02.size; omega), kp0 k02 k3⟩
    rw [List.take_add_one, hy, List.map_append]
    show SlC _ _ 1 (cU (setA (_ ++ [y.n])))
    rw [setA_add]
    exact h3
  · rw [decide_eq_false (by omega)]
    simp only [Br_false]
    rw [List.take_of_length_le (by omega)] at h1
    have g1 := h.keeps0 k1
    simp only [sxn, g1.hd, sxl, Nat.reduceAdd]
    refine ⟨fun k st w' => ∃ (i : Nat) (r : Sl), st = (r, (i : Int), ()) ∧ k = s.wait.length - i ∧ i ≤ s.wait.length ∧ SlC w' r 1 (cU (setA ((s.held ++ s.wait.take i).map (·.n)))) ∧ (∀ y ∈ blk r, w.heap.size ≤ y) ∧ Keeps [] w w', ⟨_, 0, r, rfl, rfl, by omega, by rw [List.take_zero, List.append_nil]; exact h1, hb1, k1⟩, ?_⟩
    rintro k _ w2 ⟨i2, r2, rfl, rfl, hi2, h2, hb2, k2⟩
    dsimp only
    have hs2 := setA_le ((s.held ++ s.wait.take i2).map (·.n))
    rw [List.length_map, List.length_append, List.length_take] at hs2
    by_cases hlt2 : i2 < s.wait.length
    · rw [decide_eq_true (by omega)]
      simp only [Br_true]
      obtain ⟨y, hy⟩ : ∃ y, s.wait[i2]? = some y := ⟨_, List.getElem?_eq_getElem hlt2⟩
      refine as_ld (h.w.keeps k2 (by simp)) hy ?_
      refine bx5 fun b w3 hb nb k3 => ?_
      simp only [sxn, hb, sxl, Nat.reduceAdd]
      refine Cl.mono (Add_ok (h2.keeps k3 (by simp)) y.n (by omega)) ?_
      rintro ⟨r4, _⟩ w4 ⟨h4, hb4, k4⟩
      dsimp only at h4 hb4 ⊢
      have k03 := kp0 k2 k3
      refine ⟨s.wait.length - (i2 + 1), by omega, i2 + 1, r4, by rw [w64p (by omega)], rfl, by omega, ?_, fun z hz => (hb4 z hz).elim (hb2 z) (fun h => by have := k03.size; omega), kp0 k03 k4⟩
      rw [List.take_add_one, hy, Option.toList_some, ← List.append_assoc, List.map_append]
      show SlC _ _ 1 (cU (setA (_ ++ [y.n])))
      rw [setA_add]
      exact h4
    · rw [decide_eq_false (by omega)]
      rw [List.take_of_length_le (by omega)] at h2
      exact hR (r2, ()) _ ⟨h2, hb2, k2⟩

theorem HoldsR_ok {w : World} {t : Nat} {H : Nat → Prop} {s : TS} (h : XAt w t H s) (ho : TOk s) (n : Int) :
    Cl Try.prog i_sumpterref16_Table_Holds [.pointer (some ⟨t, 0, none⟩), .int .u64 n] false [.sc .sl] (fun r w' => Ls w' r.1 (holdsA n s) ∧ (∀ y ∈ blk r.1, w.heap.size ≤ y) ∧ Keeps [] w w') w := by
  obtain ⟨sh, sw, h⟩ := h
  have hfew := ho.few
  have hlh := as_len h.h
  refine Cl_gen fun R hR => ?_
  apply sumpterref16_Table_Holds_call
  unfold sumpterref16_Table_Holds
  simp only [sxn, h.hd, sxl, Nat.reduceAdd]
  refine ⟨fun k st w' => ∃ (i : Nat) (r : Sl), st = (r, (i : Int), ()) ∧ k = s.held.length - i ∧ i ≤ s.held.length ∧ Ls w' r ((s.held.take i).filter (fun x => x.n == n)) ∧ (∀ y ∈ blk r, w.heap.size ≤ y) ∧ Keeps [] w w', ⟨_, 0, ⟨none, 0, 0⟩, rfl, rfl, by omega, SlC.nil _ 3, by simp [blk], Keeps.refl _ _⟩, ?_⟩
  rintro k _ w1 ⟨i, r, rfl, rfl, hi, h1, hb1, k1⟩
  dsimp only
  have g1 := h.keeps0 k1
  have hl1 := ls_len h1
  have hfl := List.length_filter_le (fun x : Ak => x.n == n) (s.held.take i)
  rw [List.length_take] at hfl
  by_cases hlt : i < s.held.length
  · rw [decide_eq_true (by omega)]
    simp only [Br_true]
    obtain ⟨y, hy⟩ : ∃ y, s.held[i]? = some y := ⟨_, List.getElem?_eq_getElem hlt⟩
    have hsucc : (s.held.take (i + 1)).filter (fun x => x.n == n) = (s.held.take i).filter (fun x => x.n == n) ++ (if y.n == n then [y] else []) := by
      rw [List.take_add_one, hy, List.filter_append]
      congr 1
      cases hc : y.n == n <;> simp [hc]
    refine Jp_of (fun st w' => ∃ r', st = (r', ()) ∧ Ls w' r' ((s.held.take (i + 1)).filter (fun x => x.n == n)) ∧ (∀ y ∈ blk r', w.heap.size ≤ y) ∧ Keeps [] w w') (fun J hJ => ?_) ?_
    rotate_left
    · rintro _ w2 ⟨r', rfl, h2, hb2, k2⟩
      exact ⟨s.held.length - (i + 1), by omega, i + 1, r', by rw [w64p (by omega)], rfl, by omega, h2, hb2, k2⟩
    refine as_ld g1.h hy ?_
    refine bx5 fun b w2 hb nb k2 => ?_
    simp only [sxn, hb, sxl, Nat.reduceAdd]
    have k02 := kp0 k1 k2
    have h2 := h1.keeps k2 (by simp)
    cases hc : y.n == n with
    | false =>
      refine hJ (r, ()) _ ⟨r, rfl, ?_, hb1, k02⟩
      rw [hsucc, hc, if_neg (by simp), List.append_nil]
      exact h2
    | true =>
      simp only [sxn, hb, sxl, Nat.reduceAdd]
      refine NewApp_of (bytes := 40) (new := cL y) h2 (by rw [cL_len]) (cL_one y) (by kernel_rfl) (by omega) (by omega) ?_
      intro r3 w3 h3 _ k3 hb3
      refine hJ (r3, ()) _ ⟨r3, rfl, ?_, fun z hz => ?_, kpx k02 k3 hb1⟩
      · rw [hsucc, hc, if_pos rfl]
        show SlC _ _ _ _
        rw [List.flatMap_append]
        simpa using h3
      · rcases hb3 z hz with h' | h'
        · exact hb1 z h'
        · have := k02.size; omega
  · rw [decide_eq_false (by omega)]
    rw [List.take_of_length_le (by omega)] at h1
    exact hR (r, ()) _ ⟨h1, hb1, k1⟩
end Go.Proofs.Ytmppjgddemlmdaa
