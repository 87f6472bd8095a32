/- Concat of two slices of asks; the place in a list (BinarySearchFunc); set (Sort, Compact). Conditions: none. -/
import Derived.Test.YtmppjgddemlmdaaLbs
set_option linter.unusedVariables false
set_option linter.unusedSimpArgs false
namespace Go.Proofs.Ytmppjgddemlmdaa
open Go Go.Sx

/-- 'slices.Grow(nil, n)'. -/
theorem Grow_ok {w : World} {n : Nat} (hn : n ≤ 1000) : Cl Try.prog i_slices_Grow [.slice none 0 0, .int .i64 (n : Int)] false [.sc .sl] (fun r w' => As w' r.1 [] ∧ r.1.len = 0 ∧ (∀ x ∈ blk r.1, w.heap.size ≤ x) ∧ Keeps [] w w') w := by
  refine Cl_gen fun R hR => ?_
  refine slices_Grow_call ⟨none, 0, 0⟩ (n : Int) ?_
  unfold slices_Grow
  dsimp only
  rw [decide_eq_false (by omega)]
  simp only [Br_false]
  have hnil : As w ⟨none, 0, 0⟩ [] := SlC.nil w 4
  refine Jp_of (fun st w' => As w' st.1 [] ∧ st.1.len = 0 ∧ (∀ x ∈ blk st.1, w.heap.size ≤ x) ∧ Keeps [] w w') (fun J hJ => ?_) ?_
  · rw [show w64 ((n : Int) - w64 (((0 : Nat) : Int) - ((0 : Nat) : Int))) = (n : Int) from by rw [show w64 (((0 : Nat) : Int) - ((0 : Nat) : Int)) = 0 from by decide, w64_in (by omega) (by omega)]; omega]
    by_cases h0 : 0 < n
    · rw [decide_eq_true (by omega)]
      simp only [Br_true]
      refine ⟨⟨by omega, by omega⟩, ?_⟩
      refine ⟨by omega, by omega, by omega, ?_⟩
      rw [Int.toNat_natCast]
      refine App_new (cs := []) (new := zerosL (zc Try.prog 48).toList n) ⟨by simp, by simp⟩ ?_ ?_ (oneZ zc48 _) (by kernel_rfl) (by simp; omega) (by simp; omega) (by simp; omega) ?_
      · show _ = _
        rw [Int.toNat_natCast, if_neg (by omega), zeroCells_eq]
      · rw [zerosL_length, zc48e]; rfl
      · intro r w1 h1 hr k1 hb1
        refine ⟨⟨by omega, by omega⟩, ?_⟩
        have h2 := slc_front h1 (i := 0) (by omega)
        refine hJ _ _ ⟨?_, rfl, ?_, k1⟩
        · simp only [slOff_zero]
          show SlC _ _ _ _
          simpa using h2
        · simp only [slOff_zero]
          exact hb1
    · rw [decide_eq_false (by omega)]
      exact hJ (⟨none, 0, 0⟩, ()) _ ⟨hnil, rfl, by simp [blk], Keeps.refl _ _⟩
  · rintro ⟨s, _⟩ w1 h
    exact hR _ _ h

/-- 'slices.Concat(a, b)'. -/
theorem Concat_ok {w : World} {q : Nat} {sa sb : Sl} {la lb : List Ak} (hq : w.heap[q]? = some (.cells #[.slice sa.p sa.len sa.cap, .slice sb.p sb.len sb.cap] 40 (0, 0))) (ha : As w sa la) (hb : As w sb lb) (hN : la.length + lb.length ≤ 1000) :
    Cl Try.prog i_slices_Concat [.slice (some ⟨q, 0, none⟩) 2 2] false [.sc .sl] (fun r w' => As w' r.1 (la ++ lb) ∧ (∀ x ∈ blk r.1, w.heap.size ≤ x) ∧ Keeps [] w w') w := by
  refine Cl_gen fun R hR => ?_
  have hla := as_len ha
  have hlb := as_len hb
  refine slices_Concat_call ⟨some ⟨q, 0, none⟩, 2, 2⟩ ?_
  unfold slices_Concat
  dsimp only
  have rd : ∀ (w' : World), Keeps [] w w' → ∀ (i : Nat), i < 2 → ∀ (K : Sl → Pr), K (if i = 0 then sa else sb) w' → Ix ⟨some ⟨q, 0, none⟩, 2, 2⟩ (i : Int) 1 (fun a => LdL a K) w' := by
    intro w' k' i hi K hK
    have hq' := k'.at hq (by simp)
    rw [Ix_base (s := ⟨some ⟨q, 0, none⟩, 2, 2⟩) rfl (by omega) (by dsimp only; omega), Int.toNat_natCast, Nat.mul_one, Nat.zero_add]
    rcases i with _ | _ | i
    · exact LdL_of (x := sa) hq' rfl hK
    · exact LdL_of (x := sb) hq' rfl hK
    · omega
  refine ⟨fun n st w' => ∃ (i : Nat), st = (((if i = 0 then 0 else if i = 1 then la.length else la.length + lb.length : Nat) : Int), (i : Int), ()) ∧ n = 2 - i ∧ i ≤ 2 ∧ w = w', ⟨_, 0, rfl, rfl, by omega, rfl⟩, ?_⟩
  rintro n _ _ ⟨i, rfl, rfl, hi, rfl⟩
  dsimp only
  by_cases h2 : i < 2
  · rw [decide_eq_true (by omega)]
    simp only [Br_true]
    refine rd w (Keeps.refl _ _) i h2 _ ?_
    have e : w64 ((((if i = 0 then 0 else if i = 1 then la.length else la.length + lb.length : Nat)) : Int) + (((if i = 0 then sa else sb).len : Nat) : Int)) = ((if i + 1 = 0 then 0 else if i + 1 = 1 then la.length else la.length + lb.length : Nat) : Int) := by
      rcases i with _ | _ | i
      · simp only [if_true]; rw [w64_in (by omega) (by omega)]; simp; omega
      · simp; rw [w64_in (by omega) (by omega)]; omega
      · omega
    rw [e, decide_eq_false (by omega)]
    simp only [Br_false]
    exact ⟨2 - (i + 1), by omega, i + 1, by rw [w64p (by omega)], rfl, by omega, by trivial⟩
  · have hi2 : i = 2 := by omega
    subst hi2
    rw [decide_eq_false (by decide)]
    simp only [Br_false]
    refine Cl.mono (Grow_ok (n := la.length + lb.length) hN) ?_
    rintro ⟨g, _⟩ w1 ⟨h1, hg, hb1, k1⟩
    dsimp only at h1 hg hb1 ⊢
    refine ⟨fun n st w' => ∃ (i : Nat) (r : Sl), st = (r, (i : Int), ()) ∧ n = 2 - i ∧ i ≤ 2 ∧ As w' r (if i = 0 then [] else if i = 1 then la else la ++ lb) ∧ (∀ x ∈ blk r, w.heap.size ≤ x) ∧ Keeps [] w w', ⟨_, 0, g, rfl, rfl, by omega, h1, hb1, k1⟩, ?_⟩
    rintro n _ w2 ⟨i, r, rfl, rfl, hi, h2, hb2, k2⟩
    dsimp only
    have hlr := as_len h2
    by_cases h3 : i < 2
    · rw [decide_eq_true (by omega)]
      simp only [Br_true]
      refine rd w2 k2 i h3 _ ?_
      have hx : ∃ l', (if i = 0 then la else lb) = l' ∧ As w2 (if i = 0 then sa else sb) l' := by
        refine ⟨_, rfl, ?_⟩
        split
        · exact ha.keeps k2 (by simp)
        · exact hb.keeps k2 (by simp)
      obtain ⟨l', hl', hal'⟩ := hx
      have hlen' : l'.length ≤ 1000 := by rw [← hl']; split <;> omega
      have hrl : r.len ≤ 1000 := by rw [hlr]; split <;> (try split) <;> (try simp) <;> (try omega)
      have hll := as_len hal'
      refine App_of h2 hal'.rdc (by rw [flatA_len, hll]) (cAs_one _) (by kernel_rfl) (by omega) (by omega) ?_
      intro r' w3 h4 _ k4 hb4
      refine ⟨2 - (i + 1), by omega, i + 1, r', by rw [w64p (by omega)], rfl, by omega, ?_, fun x hx => ?_, kpx k2 k4 hb2⟩
      · rw [← List.flatMap_append] at h4
        rcases i with _ | _ | i
        · simp only [if_true] at h4 hl'
          subst hl'
          simpa using h4
        · simp at hl'
          subst hl'
          show SlC _ _ _ _
          simpa using h4
        · omega
      · rcases hb4 x hx with h' | h'
        · exact hb2 x h'
        · have := k2.size; omega
    · have hi2 : i = 2 := by omega
      subst hi2
      rw [decide_eq_false (by decide)]
      exact hR (r, ()) _ ⟨h2, hb2, k2⟩

theorem Ix_cu {w : World} {s : Sl} {l : List Int} (h : SlC w s 1 (cU l)) {j : Nat} {x : Int} (hj : l[j]? = some x) {K : Int → Pr} (k : K x w) : Ix s (j : Int) 1 (fun a => LdI .u64 a K) w := by
  have hlt := (List.getElem?_eq_some_iff.1 hj).1
  have hl := cU_slen h
  obtain ⟨b, o, hp, _⟩ := h.base (by omega)
  rw [Ix_base hp (by omega) (by omega), Int.toNat_natCast, Nat.mul_one, LdI_c, h.read hp (by rw [cU_len]; exact hlt), cU, List.getElem?_map, hj]
  simp only [Option.map_some, sx]
  exact k
theorem Ix_su {w : World} {s : Sl} {l : List Int} (h : SlC w s 1 (cU l)) {j : Nat} (hj : j < l.length) (x : Int) {K : Pr} (k : ∀ w', SlC w' s 1 (cU (l.set j x)) → Keeps (blk s) w w' → K w') : Ix s (j : Int) 1 (fun a => St a (.int .u64 x) K) w := by
  have hl := cU_slen h
  obtain ⟨b, o, hp, hb⟩ := h.base (by omega)
  rw [Ix_base hp (by omega) (by omega), Int.toNat_natCast, Nat.mul_one]
  refine h.write hp (by rw [cU_len]; exact hj) rfl ?_
  intro w' h1 h2
  refine k w' ?_ (by rw [hb]; exact h2)
  rw [cU, List.map_set]
  exact h1
/-! ### a set of numbers: sorted, each once -/
/-- The one strictly rising list of these numbers. -/
theorem rising_unique : ∀ {a b : List Int}, a.Pairwise (· < ·) → b.Pairwise (· < ·) → (∀ x, x ∈ a ↔ x ∈ b) → a = b := by
  intro a b ha hb h
  have pa : a.Nodup := ha.imp (fun h => by omega)
  have pb : b.Nodup := hb.imp (fun h => by omega)
  have hp : a.Perm b := (List.perm_ext_iff_of_nodup pa pb).2 h
  exact hp.eq_of_pairwise (fun x y _ _ h1 h2 => by omega) ha hb

/-- 'slices.Compact' of a sorted list. -/
theorem Compact_ok {w : World} {s : Sl} {l : List Int} (h : SlC w s 1 (cU l)) (hs : l.Pairwise (· ≤ ·)) (hN : l.length ≤ 65000) :
    Cl Try.prog i_slices_Compact [.slice s.p s.len s.cap] false [.sc .sl] (fun r w' => ∃ l', SlC w' r.1 1 (cU l') ∧ l'.Pairwise (· < ·) ∧ (∀ x, x ∈ l' ↔ x ∈ l) ∧ (∀ x ∈ blk r.1, x ∈ blk s) ∧ Keeps (blk s) w w') w := by
  refine Cl_gen fun R hR => ?_
  have hl := cU_slen h
  have hc := h.cap
  apply slices_Compact_call
  unfold slices_Compact
  by_cases h2 : s.len < 2
  · rw [decide_eq_true (by omega)]
    refine hR (s, ()) _ ⟨l, h, ?_, fun _ => Iff.rfl, fun _ hx => hx, Keeps.refl _ _⟩
    match l, hl with
    | [], _ => simp
    | [a], _ => simp
    | a :: b :: t, hl => simp at hl; omega
  rw [decide_eq_false (by omega)]
  simp only [Br_false]
  have get : ∀ j, j < l.length → ∃ x, l[j]? = some x := fun j hj => ⟨_, List.getElem?_eq_getElem hj⟩
  have le_of : ∀ {i j : Nat} {x y : Int}, i < j → l[i]? = some x → l[j]? = some y → x ≤ y := by
    intro i j x y hij hx hy
    obtain ⟨h1, e1⟩ := List.getElem?_eq_some_iff.1 hx
    obtain ⟨h2, e2⟩ := List.getElem?_eq_some_iff.1 hy
    have := List.pairwise_iff_getElem.1 hs i j h1 h2 hij
    rw [e1, e2] at this
    exact this
  have step : ∀ {j : Nat} {x y : Int} {p : List Int}, 0 < j → l[j - 1]? = some x → l[j]? = some y → p.Pairwise (· < ·) → (∀ z, z ∈ p ↔ z ∈ l.take j) → x ≠ y → (p ++ [y]).Pairwise (· < ·) ∧ ∀ z, z ∈ p ++ [y] ↔ z ∈ l.take (j + 1) := by
    intro j x y p hj hx hy hp hm hne
    refine ⟨?_, fun z => ?_⟩
    · rw [List.pairwise_append]
      refine ⟨hp, by simp, fun a ha b hb => ?_⟩
      simp at hb
      subst hb
      obtain ⟨i, hi⟩ := List.getElem?_of_mem ((hm a).1 ha)
      rw [List.getElem?_take] at hi
      split at hi
      · rename_i hij
        have h1 := le_of (show j - 1 < j by omega) hx hy
        by_cases h3 : i = j - 1
        · subst h3
          rw [hx] at hi
          injection hi with hi
          omega
        · have h4 := le_of (show i < j - 1 by omega) hi hx
          omega
      · cases hi
    · rw [List.mem_append, hm, List.take_add_one, hy]
      simp
  have skip : ∀ {j : Nat} {x y : Int} {p : List Int}, 0 < j → l[j - 1]? = some x → l[j]? = some y → (∀ z, z ∈ p ↔ z ∈ l.take j) → x = y → ∀ z, z ∈ p ↔ z ∈ l.take (j + 1) := by
    intro j x y p hj hx hy hm e z
    subst e
    rw [hm, List.take_add_one, hy]
    simp
    rintro rfl
    refine List.mem_of_getElem? (i := j - 1) ?_
    rw [List.getElem?_take, if_pos (by omega)]
    exact hx
  refine ⟨fun n st w' => ∃ (q : Sl) (j : Nat), st = (q, (j : Int), ()) ∧ n = l.length - j ∧ 1 ≤ j ∧ j ≤ l.length ∧ (l.take j).Pairwise (· < ·) ∧ Keeps [] w w', ⟨_, ⟨none, 0, 0⟩, 1, rfl, rfl, by omega, by omega, ?_, Keeps.refl _ _⟩, ?_⟩
  · obtain ⟨x, hx⟩ := get 0 (by omega)
    rw [List.take_add_one, hx]
    simp
  rintro n _ w1 ⟨q, j, rfl, rfl, hj1, hj, hpw, k1⟩
  dsimp only
  have h1 := h.keeps k1 (by simp)
  by_cases hlt : j < l.length
  · rw [decide_eq_true (by omega)]
    simp only [Br_true, Dr]
    have kd : Keeps [] w w1.drew := k1.drew
    have hd := h.keeps kd (by simp)
    obtain ⟨y, hy⟩ := get j hlt
    obtain ⟨x, hx⟩ := get (j - 1) (by omega)
    refine Ix_cu hd hy ?_
    rw [w64m (by omega) (by omega)]
    refine Ix_cu hd hx ?_
    by_cases hxy : x = y
    · rw [show (y == x) = true from by simp [hxy]]
      simp only [Br_true]
      refine ⟨⟨by omega, by omega⟩, ?_⟩
      simp only [Int.toNat_natCast]
      refine ⟨fun n st w' => ∃ (i k : Nat) (cur : List Int), st = ((i : Int), (k : Int), ()) ∧ n = l.length - (j + k) ∧ 1 ≤ k ∧ j + k ≤ l.length ∧ i < j + k ∧ cur.length = l.length ∧ (cur.take i).Pairwise (· < ·) ∧ (∀ z, z ∈ cur.take i ↔ z ∈ l.take (j + k)) ∧ cur.drop (j + k - 1) = l.drop (j + k - 1) ∧ SlC w' s 1 (cU cur) ∧ Keeps (blk s) w w',
        ⟨_, j, 1, l, rfl, rfl, by omega, by omega, by omega, rfl, hpw, skip hj1 hx hy (fun _ => Iff.rfl) hxy, rfl, hd, kd.mono (by simp)⟩, ?_⟩
      rintro n _ w2 ⟨i, k, cur, rfl, rfl, hk1, hjk, hik, hcl, hcp, hcm, hcd, h2, k2⟩
      dsimp only
      by_cases hlt2 : j + k < l.length
      · rw [decide_eq_true (by omega)]
        simp only [Br_true]
        have hcur : ∀ m, j + k - 1 ≤ m → cur[m]? = l[m]? := by
          intro m hm
          have e := congrArg (fun q => q[m - (j + k - 1)]?) hcd
          simp only [List.getElem?_drop] at e
          rwa [show j + k - 1 + (m - (j + k - 1)) = m from by omega] at e
        obtain ⟨y2, hy2⟩ := get (j + k) hlt2
        obtain ⟨x2, hx2⟩ := get (j + k - 1) (by omega)
        refine Jp_of (fun st w' => ∃ (i' : Nat) (cur' : List Int), st = ((i' : Int), ()) ∧ i' < j + k + 1 ∧ cur'.length = l.length ∧ (cur'.take i').Pairwise (· < ·) ∧ (∀ z, z ∈ cur'.take i' ↔ z ∈ l.take (j + k + 1)) ∧ cur'.drop (j + k) = l.drop (j + k) ∧ SlC w' s 1 (cU cur') ∧ Keeps (blk s) w w') (fun J hJ => ?_) ?_
        rotate_left
        · rintro _ w3 ⟨i', cur', rfl, g1, g2, g3, g4, g5, g6, g7⟩
          exact ⟨l.length - (j + (k + 1)), by omega, i', k + 1, cur', by rw [w64p (by omega)], rfl, by omega, by omega, by omega, g2, g3, g4, by rw [show j + (k + 1) - 1 = j + k from by omega]; exact g5, g6, g7⟩
        simp only [Dr]
        have kd2 : Keeps [] w2 w2.drew := (Keeps.refl _ _).drew
        have h2d := h2.keeps kd2 (by simp)
        have hsub : SlC w2.drew ⟨slOff s.p s.cap j 1, s.len - j, s.cap - j⟩ 1 (cU (cur.drop j)) := by
          have := h2d.sub (lo := j) (hi := s.len) (by omega) (Nat.le_refl _)
          rwa [Nat.mul_one, Nat.mul_one, cU, ← List.map_drop, List.take_of_length_le (by simp; omega)] at this
        have hcj : (cur.drop j)[k]? = some y2 := by rw [List.getElem?_drop, hcur _ (by omega), hy2]
        have hcj1 : (cur.drop j)[k - 1]? = some x2 := by rw [List.getElem?_drop, show j + (k - 1) = j + k - 1 from by omega, hcur _ (by omega), hx2]
        refine Ix_cu hsub hcj ?_
        rw [w64m (by omega) (by omega)]
        refine Ix_cu hsub hcj1 ?_
        have hcd' : cur.drop (j + k) = l.drop (j + k) := by
          have e := congrArg (List.drop 1) hcd
          rwa [List.drop_drop, List.drop_drop, show j + k - 1 + 1 = j + k from by omega] at e
        by_cases hne : x2 = y2
        · rw [show (y2 != x2) = false from by simp [hne]]
          simp only [Br_false]
          exact hJ _ _ ⟨i, cur, rfl, by omega, hcl, hcp, skip (by omega) hx2 hy2 hcm hne, hcd', h2d, k2.trans kd2 (by simp)⟩
        · rw [show (y2 != x2) = true from by simp; exact fun e => hne e.symm]
          simp only [Br_true]
          refine Ix_cu hsub hcj ?_
          refine Ix_su h2d (by omega) y2 ?_
          intro w3 h3 k3
          have htk : (cur.set i y2).take (i + 1) = cur.take i ++ [y2] := by
            rw [List.take_add_one, List.take_set_of_le (by omega), List.getElem?_set_self (by omega)]
            rfl
          obtain ⟨g1, g2⟩ := step (by omega) hx2 hy2 hcp hcm hne
          refine hJ _ _ ⟨i + 1, cur.set i y2, by rw [w64p (by omega)], by omega, by simp [hcl], by rw [htk]; exact g1, by rw [htk]; exact g2, by rw [List.drop_set_of_lt (by omega), hcd'], h3, (k2.trans kd2 (by simp)).trans k3 (fun _ hx => .inl hx)⟩
      · rw [decide_eq_false (by omega)]
        simp only [Br_false]
        have hjl : j + k = l.length := by omega
        refine ⟨⟨by omega, by omega⟩, ?_⟩
        simp only [Int.toNat_natCast]
        refine ClrS_front h2 (by kernel_rfl) zc26 (by omega) ?_
        intro w3 h3 k3 _
        refine ⟨⟨by omega, by omega⟩, ?_⟩
        rw [slOff_zero]
        refine hR (⟨s.p, i - 0, s.cap - 0⟩, ()) _ ⟨cur.take i, ?_, hcp, ?_, fun _ hx => hx, k2.trans k3 (fun _ hx => .inl hx)⟩
        · rw [Nat.mul_one, cU, ← List.map_take] at h3
          exact h3
        · intro z
          rw [hcm, List.take_of_length_le (by omega)]
    · rw [show (y == x) = false from by simp; exact fun e => hxy e.symm]
      simp only [Br_false]
      refine ⟨l.length - (j + 1), by omega, q, j + 1, by rw [w64p (by omega)], rfl, by omega, by omega, ?_, kd⟩
      rw [List.take_add_one, hy]
      exact (step hj1 hx hy hpw (fun _ => Iff.rfl) hxy).1
  · rw [decide_eq_false (by omega)]
    rw [List.take_of_length_le (by omega)] at hpw
    exact hR (s, ()) _ ⟨l, h1, hpw, fun _ => Iff.rfl, fun _ hx => hx, k1.mono (by simp)⟩
/-- 'set'. -/
theorem set_ok {w : World} {s : Sl} {l : List Int} (h : SlC w s 1 (cU l)) (hN : l.length ≤ 65000) :
    Cl Try.prog i_locks_set [.slice s.p s.len s.cap] false [.sc .sl] (fun r w' => ∃ l', SlC w' r.1 1 (cU l') ∧ l'.Pairwise (· < ·) ∧ (∀ x, x ∈ l' ↔ x ∈ l) ∧ (∀ x ∈ blk r.1, x ∈ blk s) ∧ Keeps (blk s) w w') w := by
  refine Cl_gen fun R hR => ?_
  apply locks_set_call
  unfold locks_set
  refine Cl.mono (Sort_ok h hN) ?_
  rintro _ w1 ⟨l1, hp, hs, h1, k1⟩
  refine Cl.mono (Compact_ok h1 hs (by rw [hp.length_eq]; exact hN)) ?_
  rintro ⟨r, _⟩ w2 ⟨l2, h2, g1, g2, g3, k2⟩
  exact hR (r, ()) _ ⟨l2, h2, g1, fun x => (g2 x).trans hp.mem_iff, g3, k1.trans k2 (fun _ hx => .inl hx)⟩
end Go.Proofs.Ytmppjgddemlmdaa
