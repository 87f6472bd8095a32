/- LocksGoes: numbers, same. Conditions: none. -/
import Derived.Test.YtmppjgddemlmdaaRk
set_option linter.unusedVariables false
set_option linter.unusedSimpArgs false
namespace Go.Proofs.Ytmppjgddemlmdaa
open Go Go.Sx

theorem numbers_ok {w : World} {sa sb : Sl} {l : List Int} (ha : SlC w sa 1 (cU l)) (hb : SlC w sb 1 (cU l)) (hd : ∀ y ∈ blk sa, y ∉ blk sb) (hN : l.length ≤ 60000) :
    Cl Try.prog i_sumpterlaw16_numbers [.slice sa.p sa.len sa.cap, .slice sb.p sb.len sb.cap] false [.sc .b] (fun r w' => r.1 = true ∧ Keeps (blk sa) w w') w := by
  have hla := cU_slen ha
  have hlb := cU_slen hb
  refine Cl_gen fun R hR => ?_
  apply sumpterlaw16_numbers_call
  unfold sumpterlaw16_numbers
  rw [show ((((sa.len : Nat) : Int)) != ((sb.len : Nat) : Int)) = false from by rw [hla, hlb]; simp]
  simp only [Br_false]
  refine ⟨fun k st w' => ∃ (i : Nat) (q : Bool) (cur : List Int), st = (q, (i : Int), ()) ∧ k = l.length - i ∧ i ≤ l.length ∧ cur.length = l.length ∧ cur.drop i = l.drop i ∧ SlC w' sa 1 (cU cur) ∧ Keeps (blk sa) w w', ⟨_, 0, false, l, rfl, rfl, by omega, rfl, rfl, ha, Keeps.refl _ _⟩, ?_⟩
  rintro k _ w1 ⟨i, q, cur, rfl, rfl, hi, hcl, hcd, h1, k1⟩
  dsimp only
  by_cases hlt : i < l.length
  · rw [decide_eq_true (by omega)]
    simp only [Br_true, Dr]
    have kd : Keeps [] w1 w1.drew := (Keeps.refl _ _).drew
    have h1d := h1.keeps kd (by simp)
    have hbd := (hb.keeps k1 (fun y hy hy' => hd y hy' hy)).keeps kd (by simp)
    obtain ⟨x, hx⟩ : ∃ x, l[i]? = some x := ⟨_, List.getElem?_eq_getElem hlt⟩
    have hcx : cur[i]? = some x := by
      have e := congrArg (fun q => q[0]?) hcd
      simp only [List.getElem?_drop, Nat.add_zero] at e
      rw [e, hx]
    refine Ix_cu h1d hcx ?_
    refine Ix_cu hbd hx ?_
    rw [show (x != x) = false from by simp]
    simp only [Br_false]
    refine Ix_su h1d (by omega) 0 ?_
    intro w2 h2 k2
    refine ⟨l.length - (i + 1), by omega, i + 1, q, cur.set i 0, by rw [w64p (by omega)], rfl, by omega, by simp [hcl], ?_, h2, (k1.trans kd (by simp)).trans k2 (fun _ hx => .inl hx)⟩
    rw [List.drop_set_of_lt (by omega), ← List.drop_drop, hcd, List.drop_drop]
  · rw [decide_eq_false (by omega)]
    exact hR _ _ ⟨rfl, k1⟩

theorem as_ix {w : World} {s : Sl} {l : List Ak} (h : As w s l) {i : Nat} {x : Ak} (hx : l[i]? = some x) {K : Addr → Pr} (k : ∀ b o, cellO w.heap[b]? o = some (.int .u64 x.n) → cellO w.heap[b]? (o + 1) = some (.string x.lo) → cellO w.heap[b]? (o + 2) = some (.string x.hi) → cellO w.heap[b]? (o + 3) = some (.bool x.wr) → K ⟨b, o, none⟩ w) : Ix s (i : Int) 4 K w := by
  have hl := as_len h
  have hi := (List.getElem?_eq_some_iff.1 hx).1
  obtain ⟨b, o, hp, _⟩ := h.base (by omega)
  have hit := fun j hj => h.item cA_len hp hx j hj
  rw [Ix_base hp (by omega) (by omega), Int.toNat_natCast]
  exact k b (o + i * 4) (hit 0 (by omega)) (hit 1 (by omega)) (hit 2 (by omega)) (hit 3 (by omega))
theorem as_st0 {w : World} {s : Sl} {l : List Ak} (h : As w s l) {i : Nat} {x : Ak} (hx : l[i]? = some x) (n : Int) {K : Pr} (k : ∀ w', As w' s (l.set i ⟨n, x.lo, x.hi, x.wr⟩) → Keeps (blk s) w w' → K w') : Ix s (i : Int) 4 (fun a => St (a.add 0) (.int .u64 n) K) w := by
  have hl := as_len h
  have hi := (List.getElem?_eq_some_iff.1 hx).1
  obtain ⟨b, o, hp, hb⟩ := h.base (by omega)
  rw [Ix_base hp (by omega) (by omega), Int.toNat_natCast, add_of]
  exact h.put1 cA_len hp hx (⟨n, x.lo, x.hi, x.wr⟩ : Ak) (j := 0) rfl (by omega) rfl rfl (fun w' h1 h2 => k w' h1 (by rw [hb]; exact h2))
theorem ls_st2 {w : World} {s : Sl} {l : List Ak} (h : Ls w s l) {i : Nat} {x : Ak} (hx : l[i]? = some x) (b' : Bool) {K : Pr} (k : ∀ w', Ls w' s (l.set i ⟨x.n, x.lo, x.hi, b'⟩) → Keeps (blk s) w w' → K w') : Ix s (i : Int) 3 (fun a => St (a.add 2) (.bool b') K) w := by
  have hl := ls_len h
  have hi := (List.getElem?_eq_some_iff.1 hx).1
  obtain ⟨b, o, hp, hb⟩ := h.base (by omega)
  rw [Ix_base hp (by omega) (by omega), Int.toNat_natCast, add_of]
  exact h.put1 cL_len hp hx (⟨x.n, x.lo, x.hi, b'⟩ : Ak) (j := 2) rfl (by omega) rfl rfl (fun w' h1 h2 => k w' h1 (by rw [hb]; exact h2))
theorem ls_ld2 {w : World} {s : Sl} {l : List Ak} (h : Ls w s l) {i : Nat} {x : Ak} (hx : l[i]? = some x) {K : Bool → Pr} (k : K x.wr w) : Ix s (i : Int) 3 (fun a => LdB (a.add 2) K) w := by
  have hl := ls_len h
  have hi := (List.getElem?_eq_some_iff.1 hx).1
  obtain ⟨b, o, hp, hb⟩ := h.base (by omega)
  rw [Ix_base hp (by omega) (by omega), Int.toNat_natCast, add_of, LdB_c, h.item cL_len hp hx 2 (by omega)]
  exact k
theorem seq_self (a : ByteArray) : seq a a = true := by rw [seq_eq]; simp

set_option maxRecDepth 8000 in
theorem same_ok {w : World} {t x : Nat} {H G : Nat → Prop} {s : TS} (h : TAt w t H s) (hx : XAt w x G s) (ho : TOk s) :
    Cl Try.prog i_sumpterlaw16_same [.pointer (some ⟨t, 0, none⟩), .pointer (some ⟨x, 0, none⟩)] false [.sc .b] (fun r w' => r.1 = true ∧ Keeps [] w w') w := by
  have hfew := ho.few
  refine Cl_gen fun R hR => ?_
  apply sumpterlaw16_same_call
  unfold sumpterlaw16_same
  refine Cl.mono (Waiting_ok h ho) ?_
  rintro ⟨r1, _⟩ w1 ⟨h1, b1, k1⟩
  dsimp only at h1 b1 ⊢
  have hx0 := hx
  obtain ⟨sh, sw, hx⟩ := hx
  have g1 := hx.keeps0 k1
  have l1 := as_len h1
  have lw := as_len hx.w
  simp only [sxn, g1.hd, sxl, Nat.reduceAdd]
  rw [show ((((r1.len : Nat) : Int)) != ((sw.len : Nat) : Int)) = false from by rw [l1, lw]; simp]
  simp only [Br_false]
  refine ⟨fun k st w' => ∃ (i : Nat) (q : Bool) (cur : List Ak), st = (q, (i : Int), ()) ∧ k = s.wait.length - i ∧ i ≤ s.wait.length ∧ cur.length = s.wait.length ∧ cur.drop i = s.wait.drop i ∧ As w' r1 cur ∧ Keeps [] w w', ⟨_, 0, false, s.wait, rfl, rfl, by omega, rfl, rfl, h1, k1⟩, ?_⟩
  rintro k _ w2 ⟨i, q, cur, rfl, rfl, hi, hcl, hcd, h2, k2⟩
  dsimp only
  have g2 := hx.keeps0 k2
  by_cases hlt : i < s.wait.length
  · rw [decide_eq_true (by omega)]
    simp only [Br_true]
    obtain ⟨y, hy⟩ : ∃ y, s.wait[i]? = some y := ⟨_, List.getElem?_eq_getElem hlt⟩
    have hcy : cur[i]? = some y := by
      have e := congrArg (fun q => q[0]?) hcd
      simp only [List.getElem?_drop, Nat.add_zero] at e
      rw [e, hy]
    refine Jp_of (fun st w' => st = (false, ()) ∧ Keeps [] w2 w') (fun J hJ => ?_) ?_
    · simp only [Dr]
      have kd : Keeps [] w2 w2.drew := (Keeps.refl _ _).drew
      have h2d := h2.keeps kd (by simp)
      have g2d := g2.keeps0 kd
      refine as_ix h2d hcy fun b o c0 c1 c2 c3 => ?_
      simp only [sxn, sxl, Nat.add_zero, Nat.reduceAdd]
      rw [show w2.drew.heap = w2.heap from rfl] at c0 c1 c2 c3
      simp only [sxn, c0, g2.hd, sxl, Nat.reduceAdd]
      refine as_ix g2d.w hy fun b' o' d0 d1 d2 d3 => ?_
      rw [show w2.drew.heap = w2.heap from rfl] at d0 d1 d2 d3
      simp only [sxn, Nat.add_zero, d0, sxl]
      rw [show (y.n != y.n) = false from by simp]
      simp only [Br_false]
      refine as_ix h2d hcy fun b o c0 c1 c2 c3 => ?_
      rw [show w2.drew.heap = w2.heap from rfl] at c0 c1 c2 c3
      simp only [sxn, Nat.add_zero, Nat.add_assoc, Nat.reduceAdd, c1, c2, c3, g2.hd, sxl]
      refine as_ix g2d.w hy fun b' o' d0 d1 d2 d3 => ?_
      rw [show w2.drew.heap = w2.heap from rfl] at d0 d1 d2 d3
      simp only [sxn, Nat.add_zero, Nat.add_assoc, Nat.reduceAdd, d1, d2, d3, sxl]
      refine hJ _ _ ⟨?_, kd⟩
      rw [seq_self, seq_self]
      simp
    · rintro _ w3 ⟨rfl, k3⟩
      simp only [Br_false]
      refine as_st0 (h2.keeps k3 (by simp)) hcy 0 ?_
      intro w4 h4 k4
      refine ⟨s.wait.length - (i + 1), by omega, i + 1, q, _, by rw [w64p (by omega)], rfl, by omega, by simp [hcl], ?_, h4, kpx (kp0 k2 k3) k4 b1⟩
      rw [List.drop_set_of_lt (by omega), ← List.drop_drop, hcd, List.drop_drop]
  · rw [decide_eq_false (by omega)]
    simp only [Br_false]
    refine Cl.mono (TxnsR_ok (hx0.keeps0 k2) ho) ?_
    rintro ⟨r3, _⟩ w3 ⟨h3, b3, k3⟩
    dsimp only at h3 b3 ⊢
    have htl := txns_len ho
    have l3 := cU_slen h3
    generalize hT : txnsA s = T at h3 htl l3
    have k03 := kp0 k2 k3
    refine rounds T.length fun i4 q4 w4 L4 hi4 k4 hL4 => ?_
    dsimp only
    have k04 := kp0 k03 k4
    by_cases hlt4 : i4 < T.length
    · rw [decide_eq_true (by omega)]
      simp only [Br_true]
      obtain ⟨m, hm⟩ : ∃ m, T[i4]? = some m := ⟨_, List.getElem?_eq_getElem hlt4⟩
      refine Ix_cu (h3.keeps k4 (by simp)) hm ?_
      refine Cl.mono (Holds_ok (h.keeps0 k04) ho m) ?_
      rintro ⟨r5, _⟩ w5 ⟨h5, b5, k5⟩
      dsimp only at h5 b5 ⊢
      have k05 := kp0 k04 k5
      refine Cl.mono (HoldsR_ok (hx0.keeps0 k05) ho m) ?_
      rintro ⟨r6, _⟩ w6 ⟨h6, b6, k6⟩
      dsimp only at h6 b6 ⊢
      have hhl := hold_len ho m
      have h56 := h5.keeps k6 (by simp)
      generalize holdsA m s = hs at h5 h6 h56 hhl
      have l5 := ls_len h5
      have l6 := ls_len h6
      rw [show ((((r5.len : Nat) : Int)) != ((r6.len : Nat) : Int)) = false from by rw [l5, l6]; simp]
      simp only [Br_false]
      have d56 : ∀ y ∈ blk r6, y ∉ blk r5 := fun y hy hy' => by have := b6 y hy; have := h5.lt y hy'; omega
      refine ⟨fun k st w' => ∃ (i : Nat) (q : Bool) (cur : List Ak), st = (q, (i : Int), ()) ∧ k = hs.length - i ∧ i ≤ hs.length ∧ cur.length = hs.length ∧ cur.drop i = hs.drop i ∧ Ls w' r5 cur ∧ Keeps (blk r5) w6 w', ⟨_, 0, q4, hs, rfl, rfl, by omega, rfl, rfl, h56, Keeps.refl _ _⟩, ?_⟩
      rintro k _ w7 ⟨i7, q7, cur7, rfl, rfl, hi7, hcl7, hcd7, h7, k7⟩
      dsimp only
      have k46 := kp0 k5 k6
      by_cases hlt7 : i7 < hs.length
      · rw [decide_eq_true (by omega)]
        simp only [Br_true, Dr]
        have kd : Keeps [] w7 w7.drew := (Keeps.refl _ _).drew
        have h7d := h7.keeps kd (by simp)
        have h6d := (h6.keeps k7 d56).keeps kd (by simp)
        obtain ⟨y, hy⟩ : ∃ y, hs[i7]? = some y := ⟨_, List.getElem?_eq_getElem hlt7⟩
        have hcy : cur7[i7]? = some y := by
          have e := congrArg (fun q => q[0]?) hcd7
          simp only [List.getElem?_drop, Nat.add_zero] at e
          rw [e, hy]
        refine ls_ld h7d hcy ?_
        refine ls_ld h6d hy ?_
        rw [seq_self, seq_self, show (!((true && (true && true)) && ((y.wr == y.wr) && true))) = false from by simp]
        simp only [Br_false]
        refine ls_ld2 h7d hcy ?_
        refine ls_st2 h7d hcy (!y.wr) ?_
        intro w8 h8 k8
        refine ⟨hs.length - (i7 + 1), by omega, i7 + 1, q7, _, by rw [w64p (by omega)], rfl, by omega, by simp [hcl7], ?_, h8, (k7.trans kd (by simp)).trans k8 (fun _ hx => .inl hx)⟩
        rw [List.drop_set_of_lt (by omega), ← List.drop_drop, hcd7, List.drop_drop]
      · rw [decide_eq_false (by omega)]
        simp only [Br_false]
        rw [w64p (by omega)]
        exact hL4 hlt4 _ _ (kpx k46 k7 b5)
    · rw [decide_eq_false (by omega)]
      simp only [Br_false]
      refine Cl.mono (Txns_ok (h.keeps0 k04) ho) ?_
      rintro ⟨r5, _⟩ w5 ⟨h5, b5, k5⟩
      dsimp only at h5 b5 ⊢
      have k05 := kp0 k04 k5
      refine Cl.mono (TxnsR_ok (hx0.keeps0 k05) ho) ?_
      rintro ⟨r6, _⟩ w6 ⟨h6, b6, k6⟩
      dsimp only at h6 b6 ⊢
      rw [hT] at h5 h6
      refine Cl.mono (numbers_ok (h5.keeps k6 (by simp)) h6 (fun y hy hy' => by have := b6 y hy'; have := h5.lt y hy; omega) (by omega)) ?_
      rintro ⟨r7, _⟩ w7 ⟨e7, k7⟩
      have s04 := k04.size
      exact hR _ _ ⟨e7, kpx (kp0 k05 k6) k7 (fun y hy => by have := b5 y hy; omega)⟩
end Go.Proofs.Ytmppjgddemlmdaa
