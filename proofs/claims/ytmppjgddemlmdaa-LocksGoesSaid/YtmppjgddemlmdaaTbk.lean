/- The lock table: Ask. Conditions: none. -/
import Derived.Test.YtmppjgddemlmdaaTba
set_option linter.unusedVariables false
set_option linter.unusedSimpArgs false
namespace Go.Proofs.Ytmppjgddemlmdaa
open Go Go.Sx

theorem any_take_none {p : Ak → Bool} {l : List Ak} (h : ∀ y ∈ l, p y = false) : l.any p = false := List.any_eq_false.2 (fun y hy => by rw [h y hy]; simp)

theorem Ask_ok {w : World} {t : Nat} {H : Nat → Prop} {s : TS} (h : TAt w t H s) (ho : TOk s) (x : Ak) :
    Cl Try.prog i_locks_Table_Ask [.pointer (some ⟨t, 0, none⟩), .int .u64 x.n, .agg #[.string x.lo, .string x.hi, .bool x.wr]] true [.sc (.i .i64), .sc .sl, .sc .sl, .sc (.i .i64)]
      (fun r w' => r.1 = (askA x s).1.1 ∧ r.2.2.2.1 = (askA x s).1.2.2.2 ∧ Left w w' t H (askA x s).2 r.2.1 r.2.2.1 (askA x s).1.2.1 (askA x s).1.2.2.1) w := by
  obtain ⟨A, hA⟩ : ∃ A, A = askA x s := ⟨_, rfl⟩
  rw [← hA]
  unfold askA at hA
  have h0 := h
  obtain ⟨sh, sw, h⟩ := h
  have hfew := ho.few
  have hlh := as_len h.h
  have hlw := as_len h.w
  refine Cl_gen fun R hR => ?_
  apply locks_Table_Ask_call
  unfold locks_Table_Ask
  refine New_bx fun a w1 ha na k1 => ?_
  simp only [sxn, ha, sxl, Nat.reduceAdd]
  refine Cl.mono (Check_ok _ _ _) ?_
  rintro ⟨r, _⟩ w2 ⟨e, k2⟩
  dsimp only at e
  subst e
  simp only [ok1]
  have k02 := kp0 k1 k2
  have ha2 := k2.at ha (by simp)
  cases hok : okR x.lo x.hi with
  | false =>
    rw [if_pos hok] at hA
    rw [hA] at hR
    exact hR (0, ⟨none, 0, 0⟩, ⟨none, 0, 0⟩, 21, ()) _ ⟨rfl, rfl, Left.none h0 k02⟩
  | true =>
  rw [if_neg (by rw [hok]; simp)] at hA
  have g2 := h.keeps0 k02
  simp only [sxn, g2.hd, sxl, Nat.reduceAdd, Bool.not_true]
  refine Cl.mono (of_ok x.n _) ?_
  rintro ⟨f, _⟩ w3 ⟨e, ne, hf, k3⟩
  dsimp only at hf ⊢
  have k03 := kp0 k02.drew k3
  have g3 := h.keeps0 k03
  have ha3 := k3.at (show w2.drew.heap[a]? = _ from ha2) (by simp)
  simp only [sxn, g3.hd, sxl, Nat.reduceAdd]
  refine ⟨by trivial, ?_⟩
  refine Cl.mono (ContainsFunc_ok g3.w (hf [] (by simp)) (by omega)) ?_
  rintro ⟨r, _⟩ w4 ⟨e4, k4⟩
  dsimp only at e4
  subst e4
  have k04 := kp0 k03 k4
  cases hany : s.wait.any (fun y => y.n == x.n) with
  | true =>
    rw [if_pos hany] at hA
    rw [hA] at hR
    exact hR (0, ⟨none, 0, 0⟩, ⟨none, 0, 0⟩, 4, ()) _ ⟨rfl, rfl, Left.none h0 k04⟩
  | false =>
  rw [if_neg (by rw [hany]; simp)] at hA
  have ha4 := k4.at ha3 (by simp)
  simp only [sxn, ha4, sxl, Nat.reduceAdd]
  refine bx4 fun c w5 hc nc k5 => ?_
  have k05 := kp0 k04 k5
  have ha5 := k5.at ha4 (by simp)
  have g5 := h.keeps0 k05
  simp only [sxn, g5.hd, sxl, Nat.reduceAdd]
  refine ⟨fun n st w' => ∃ (q1 : Int) (q2 q3 : Sl) (q4 : Int) (i : Nat), st = (q1, q2, q3, q4, (((s.held.take i).filter (wayA x)).length : Int), firstA x (s.held.take i), (i : Int), ()) ∧ n = s.held.length - i ∧ i ≤ s.held.length ∧ (∀ y ∈ s.held.take i, covA x y = false) ∧ Keeps [] w5 w', ⟨_, 0, ⟨none, 0, 0⟩, ⟨none, 0, 0⟩, 0, 0, rfl, rfl, by omega, by simp, Keeps.refl _ _⟩, ?_⟩
  rintro n _ w6 ⟨q1, q2, q3, q4, i, rfl, rfl, hi, hcov, k6⟩
  dsimp only
  have g6 := g5.keeps0 k6
  have ha6 := k6.at ha5 (by simp)
  have hc6 := k6.at hc (by simp)
  have k06 := kp0 k05 k6
  by_cases hlt : i < s.held.length
  · rw [decide_eq_true (by omega)]
    simp only [Br_true]
    obtain ⟨y, hy⟩ : ∃ y, s.held[i]? = some y := ⟨_, List.getElem?_eq_getElem hlt⟩
    have hfl : ((s.held.take (i + 1)).filter (wayA x)).length = ((s.held.take i).filter (wayA x)).length + (if wayA x y then 1 else 0) := by
      rw [List.take_add_one, hy, List.filter_append, List.length_append]
      congr 1
      cases hw : wayA x y <;> simp [hw]
    have hfi : firstA x (s.held.take (i + 1)) = (firstA x (s.held.take i) && (!wayA x y || decide (x.n < y.n))) := by
      unfold firstA
      rw [List.take_add_one, hy, List.all_append]
      simp
    refine Jp_of (fun st w' => st = (q1, q2, q3, q4, (((s.held.take (i + 1)).filter (wayA x)).length : Int), firstA x (s.held.take (i + 1)), ()) ∧ covA x y = false ∧ Keeps [] w5 w') (fun J hJ => ?_) ?_
    rotate_left
    · rintro _ w7 ⟨rfl, hcy, k7⟩
      refine ⟨s.held.length - (i + 1), by omega, q1, q2, q3, q4, i + 1, by rw [w64p (by omega)], rfl, by omega, ?_, k7⟩
      intro z hz
      rw [List.take_add_one, hy] at hz
      simp at hz
      rcases hz with hz | rfl
      · exact hcov z hz
      · exact hcy
    refine as_ld g6.h hy ?_
    refine bx4 fun b w7 hb nb k7 => ?_
    have ha7 := k7.at ha6 (by simp)
    have hc7 := k7.at hc6 (by simp)
    refine Jp_of (fun st w' => st = (covA x y, ()) ∧ Keeps [] w7 w') (fun J2 hJ2 => ?_) ?_
    · simp only [sxn, hb, sxl, Nat.reduceAdd]
      cases hn : y.n == x.n with
      | false => exact hJ2 _ _ ⟨by unfold covA; rw [hn]; rfl, Keeps.refl _ _⟩
      | true =>
      simp only [sxn, hb, ha7, sxl, Nat.reduceAdd]
      refine Cl.mono (Covers_ok _ _ _ _ _) ?_
      rintro ⟨q, _⟩ w8 ⟨e8, k8⟩
      dsimp only at e8
      subst e8
      cases hcv : coversR y.lo y.hi x.lo x.hi with
      | false => exact hJ2 _ _ ⟨by unfold covA; rw [hn, hcv]; rfl, k8⟩
      | true =>
      have hb8 := k8.at hb (by simp)
      have ha8 := k8.at ha7 (by simp)
      simp only [sxn, hb8, ha8, sxl, Nat.reduceAdd]
      cases hwr : y.wr with
      | true => exact hJ2 _ _ ⟨by unfold covA; rw [hn, hcv, hwr]; rfl, k8⟩
      | false =>
      simp only [sxn, ha8, sxl, Nat.reduceAdd]
      exact hJ2 _ _ ⟨by unfold covA; rw [hn, hcv, hwr]; rfl, k8⟩
    · rintro _ w8 ⟨rfl, k8⟩
      dsimp only
      have k78 := kp0 k7 k8
      have k08 := kp0 k06 k78
      cases hcy : covA x y with
      | true =>
        have hany2 : s.held.any (covA x) = true := List.any_eq_true.2 ⟨y, List.mem_of_getElem? hy, hcy⟩
        rw [if_pos hany2] at hA
        rw [hA] at hR
        exact hR (1, ⟨none, 0, 0⟩, ⟨none, 0, 0⟩, 0, ()) _ ⟨rfl, rfl, Left.none h0 k08⟩
      | false =>
        have hb8 := k8.at hb (by simp)
        have hc8 := k8.at hc7 (by simp)
        simp only [sxn, hb8, hc8, sxl, Nat.reduceAdd]
        refine Cl.mono (against_ok x _) ?_
        rintro ⟨f2, _⟩ w9 ⟨e9, n9, hf9, k9⟩
        dsimp only at hf9 ⊢
        have hb9 := k9.at (show w8.drew.heap[b]? = _ from hb8) (by simp)
        simp only [sxn, hb9, sxl, Nat.reduceAdd]
        refine ⟨by trivial, ?_⟩
        refine CallV.mono (hf9 [] (by simp) w9 (Keeps.refl _ _) y) ?_
        rintro ⟨q, _⟩ w10 ⟨e10, k10⟩
        dsimp only at e10
        subst e10
        have hb10 := k10.at hb9 (by simp)
        have k510 : Keeps [] w5 w10 := kp0 (kp0 (kp0 k6 k78).drew k9) k10
        cases hw : wayA x y with
        | false =>
          refine hJ _ _ ⟨?_, hcy, k510⟩
          rw [hfl, hfi, hw]
          simp
        | true =>
          have hwl : (((s.held.take i).filter (wayA x)).length) ≤ i := Nat.le_trans (List.length_filter_le _ _) (by rw [List.length_take]; omega)
          simp only [Br_true]
          rw [w64p (by omega)]
          cases hfs : firstA x (s.held.take i) with
          | false =>
            refine hJ _ _ ⟨?_, hcy, k510⟩
            rw [hfl, hfi, hw, hfs]
            simp
          | true =>
            simp only [sxn, hb10, sxl, Nat.reduceAdd]
            refine hJ _ _ ⟨?_, hcy, k510⟩
            rw [hfl, hfi, hw, hfs]
            simp
  · have hil : i = s.held.length := by omega
    have htk : s.held.take i = s.held := List.take_of_length_le (by omega)
    rw [decide_eq_false (by omega)]
    rw [htk] at hcov ⊢
    rw [if_neg (by rw [any_take_none hcov]; simp)] at hA
    simp only [Br_false]
    have kd : Keeps [] w6 w6.drew := (Keeps.refl _ _).drew
    simp only [sxn, g6.hd, sxl, Nat.reduceAdd]
    rw [hlh, hlw, w64a rfl rfl (by omega)]
    have k06d := kp0 k06 kd
    by_cases hmax : 192 ≤ s.held.length + s.wait.length
    · rw [if_pos hmax] at hA
      rw [hA] at hR
      rw [decide_eq_true (by omega)]
      exact hR (3, ⟨none, 0, 0⟩, ⟨none, 0, 0⟩, 0, ()) _ ⟨rfl, rfl, Left.none h0 k06d⟩
    · rw [if_neg hmax] at hA
      rw [decide_eq_false (by omega)]
      simp only [Br_false]
      have hnone : ((((s.held.filter (wayA x)).length : Nat) : Int) == 0) = !(s.held.any (wayA x)) := by
        cases hv : s.held.any (wayA x) with
        | false =>
          have : s.held.filter (wayA x) = [] := List.filter_eq_nil_iff.2 (fun y hy => by have := List.any_eq_false.1 hv y hy; exact this)
          rw [this]; rfl
        | true =>
          obtain ⟨y, hy, hwy⟩ := List.any_eq_true.1 hv
          have : 0 < (s.held.filter (wayA x)).length := List.length_pos_of_mem (List.mem_filter.2 ⟨hy, hwy⟩)
          simp
          exact ⟨y, hy, hwy⟩
      rw [hnone]
      have g6' := g6.keeps0 kd
      have hc6' : w6.drew.heap[c]? = _ := hc6
      cases hv : s.held.any (wayA x) with
      | false =>
        rw [if_pos hv] at hA
        simp only [sxn, hc6, sxl, Nat.reduceAdd, Bool.not_false]
        have hog : TOk ⟨s.held ++ [x], s.wait⟩ := ⟨ho.wt, by show (s.held ++ [x]).length + s.wait.length ≤ 192; rw [List.length_append, List.length_singleton]; omega⟩
        refine Cl.mono (grant_ok ⟨_, _, g6'⟩ hog) ?_
        rintro ⟨r7, _⟩ w7 ⟨H7, h7, f7, k7, hr7, hn7⟩
        dsimp only at hr7 hn7 ⊢
        have hog2 : TOk (grantA x s).2 := TOk.dropAll hog
        have hkl : (grantA x s).1.length ≤ s.wait.length := killed_len x s.wait
        have hwl : (grantA x s).2.wait.length ≤ s.wait.length := dropAll_wait_le _ _
        have hb0 : (grantA x s).1.length + (grantA x s).2.wait.length * 200 ≤ 40000 := by omega
        have hset := settle_ok h7 hog2 hr7 (fun y hy => (hn7 y hy).2) hb0
        obtain ⟨Q, hQ⟩ : ∃ Q, Q = settleA (grantA x s).2.wait.length (grantA x s).2 [] (grantA x s).1 := ⟨_, rfl⟩
        rw [← hQ] at hset
        refine Cl.mono hset ?_
        rintro ⟨a8, b8, _⟩ w8 ⟨H8, h8, f8, k8, ha8, hb8, na8, nb8, hab⟩
        dsimp only at ha8 hb8 na8 nb8 hab ⊢
        have hA' : A = ((1, setA Q.2.1, setA Q.2.2, 0), Q.1) := by rw [hA, hQ]
        rw [hA'] at hR
        have s07 := k06d.size
        have s7 := k7.size
        refine hR (1, a8, b8, 0, ()) _ ⟨rfl, rfl, Left.pre k06d ⟨H8, h8, ?_, ?_, ha8, hb8, ?_, ?_, hab⟩⟩
        · exact f7.trans f8 s7
        · refine k7.trans k8 (fun z hz => ?_)
          rcases hz with hz | hz
          · exact f7 z hz
          · exact .inr (hn7 z hz).1
        · exact fun y hy => ⟨by have := (na8 y hy).1; omega, (na8 y hy).2⟩
        · intro y hy
          refine ⟨?_, (nb8 y hy).2⟩
          rcases (nb8 y hy).1 with h' | h'
          · exact (hn7 y h').1
          · omega
      | true =>
        rw [if_neg (by rw [hv]; simp)] at hA
        simp only [Bool.not_true, Br_false]
        cases hfs : firstA x s.held with
        | false =>
          rw [if_neg (by rw [hfs]; simp)] at hA
          rw [hA] at hR
          exact hR (3, ⟨none, 0, 0⟩, ⟨none, 0, 0⟩, 0, ()) _ ⟨rfl, rfl, Left.none h0 k06d⟩
        | true =>
          rw [if_pos hfs] at hA
          rw [hA] at hR
          simp only [sxn, g6.hd, sxl, Nat.reduceAdd]
          refine Cl.mono (Search_ok g6'.w ho.wt x.n (by omega)) ?_
          rintro ⟨r7, r7b, _⟩ w7 ⟨j, hj, hjl, hj1, hj2, k7⟩
          dsimp only at hj ⊢
          have g7 := g6'.keeps0 k7
          have hc7 := k7.at hc6' (by simp)
          simp only [sxn, g7.hd, hc7, sxl, Nat.reduceAdd]
          have kd7 : Keeps [] w7 w7.drew := (Keeps.refl _ _).drew
          have g7' := g7.keeps0 kd7
          refine New_bx fun d w8 hd nd k8 => ?_
          have g8 := g7'.keeps0 k8
          simp only [sxn, g8.hd, sxl, Nat.reduceAdd]
          refine ⟨by trivial, ?_⟩
          have hdsw : d ∉ blk sw := fun hx => by have := g7'.w.lt d hx; omega
          subst hj
          refine Cl.mono (Insert_ok g8.w hd hdsw hjl (by omega)) ?_
          rintro ⟨r9, _⟩ w9 ⟨h9, hb9, k9⟩
          dsimp only at h9 hb9 ⊢
          rw [← insA_at hj1 hj2] at h9
          have hd9 := k9.at g8.hd g8.tw
          refine set_box hd9 1 _ rfl (by simp) fun w10 hd10 k10 => ?_
          obtain ⟨H10, g10, f10, kp10⟩ := g8.setW k9 h9 hb9 k10 hd10
          have k08 : Keeps [] w w8 := kp0 (kp0 (kp0 k06d k7) kd7) k8
          refine hR (2, ⟨none, 0, 0⟩, ⟨none, 0, 0⟩, 0, ()) _ ⟨rfl, rfl, Left.pre k08 ⟨H10, ⟨_, _, g10⟩, f10, kp10, SlC.nil _ 1, SlC.nil _ 1, by simp [blk], by simp [blk], by simp [blk]⟩⟩
end Go.Proofs.Ytmppjgddemlmdaa
