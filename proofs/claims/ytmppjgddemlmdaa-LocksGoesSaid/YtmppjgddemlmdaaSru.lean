/- slices.Sort of a slice of uint64: the partitions. Conditions: none. -/
import Derived.Test.YtmppjgddemlmdaaSrt
set_option linter.unusedVariables false
set_option linter.unusedSimpArgs false
namespace Go.Proofs.Ytmppjgddemlmdaa
open Go Go.Sx

theorem kt {s : Sl} {a b c : World} (h : Keeps (blk s) a b) (k : Keeps (blk s) b c) : Keeps (blk s) a c := h.trans k (fun _ hx => .inl hx)

/-- The way up: 'for i <= j && p(data[i]) { i++ }'. -/
theorem up_loop {w w0 : World} {s : Sl} {d : Array Int} (hN : d.size ≤ 65000) (hd : Rw w s d) (hk0 : Keeps (blk s) w0 w) (p : Int → Bool) {j i0 : Nat} (hj : j < d.size) {A : (Bool × Unit → Pr) → Int × Unit → Pr} {K : Int × Unit → Pr}
    (hA : ∀ (i : Nat) (w1 : World) (J : Bool × Unit → Pr), Rw w1 s d → i ≤ 65001 → (∀ w2, Rw w2 s d → Keeps (blk s) w1 w2 → J (decide (i ≤ j) && p d[i]!, ()) w2) → A J ((i : Int), ()) w1)
    (hi0 : i0 ≤ 65001) (hK : ∀ w1, Rw w1 s d → Keeps (blk s) w0 w1 → K ((Sort.scanUp p d j i0 : Int), ()) w1) :
    Lp (σ := Int × Unit) (fun L7 s8 => Jp (σ := Bool × Unit) (fun s10 => Br s10.1 (L7 (w64 (s8.1 + 1), ())) (K s8)) fun J9 => A J9 s8) ((i0 : Int), ()) w := by
  refine scan_loop (stp := fun x => w64 (x + 1)) (fun i w' => i ≤ 65001 ∧ Sort.scanUp p d j i = Sort.scanUp p d j i0 ∧ Rw w' s d ∧ Keeps (blk s) w0 w') (fun i => (i : Int)) (fun i => decide (i ≤ j) && p d[i]!) (fun i => i + 1) (fun i => j + 1 - i) ?_ ?_ ?_ ⟨hi0, rfl, hd, hk0⟩
  · rintro i w1 ⟨h1, h2, h3, h4⟩ J hJ
    exact hA i w1 J h3 h1 fun w2 h5 h6 => hJ w2 ⟨h1, h2, h5, kt h4 h6⟩
  · rintro i w1 ⟨h1, h2, h3, h4⟩ hc
    have hij : i ≤ j := by simp at hc; exact hc.1
    refine ⟨w64p (by omega), by omega, by omega, ?_, h3, h4⟩
    rw [← h2]
    conv => rhs; rw [Sort.scanUp, if_pos hc]
  · rintro i w1 ⟨h1, h2, h3, h4⟩ hc
    have : Sort.scanUp p d j i = i := by rw [Sort.scanUp, if_neg (by rw [hc]; simp)]
    rw [this] at h2
    rw [h2]
    exact hK w1 h3 h4

/-- The way down. -/
theorem down_loop {w w0 : World} {s : Sl} {d : Array Int} (hN : d.size ≤ 65000) (hd : Rw w s d) (hk0 : Keeps (blk s) w0 w) (p : Int → Bool) {i j0 : Nat} (hi : 1 ≤ i) (hj : j0 < d.size) {A : (Bool × Unit → Pr) → Int × Unit → Pr} {K : Int × Unit → Pr}
    (hA : ∀ (j : Nat) (w1 : World) (J : Bool × Unit → Pr), Rw w1 s d → j < d.size → (∀ w2, Rw w2 s d → Keeps (blk s) w1 w2 → J (decide (i ≤ j) && p d[j]!, ()) w2) → A J ((j : Int), ()) w1)
    (hK : ∀ w1, Rw w1 s d → Keeps (blk s) w0 w1 → K ((Sort.scanDown p d i j0 : Int), ()) w1) :
    Lp (σ := Int × Unit) (fun L7 s8 => Jp (σ := Bool × Unit) (fun s10 => Br s10.1 (L7 (w64 (s8.1 - 1), ())) (K s8)) fun J9 => A J9 s8) ((j0 : Int), ()) w := by
  refine scan_loop (stp := fun x => w64 (x - 1)) (fun j w' => j < d.size ∧ Sort.scanDown p d i j = Sort.scanDown p d i j0 ∧ Rw w' s d ∧ Keeps (blk s) w0 w') (fun j => (j : Int)) (fun j => decide (i ≤ j) && p d[j]!) (fun j => j - 1) (fun j => j) ?_ ?_ ?_ ⟨hj, rfl, hd, hk0⟩
  · rintro j w1 ⟨h1, h2, h3, h4⟩ J hJ
    exact hA j w1 J h3 h1 fun w2 h5 h6 => hJ w2 ⟨h1, h2, h5, kt h4 h6⟩
  · rintro j w1 ⟨h1, h2, h3, h4⟩ hc
    have hij : i ≤ j := by simp at hc; exact hc.1
    obtain ⟨k, rfl⟩ : ∃ k, j = k + 1 := ⟨j - 1, by omega⟩
    refine ⟨w64m (by omega) (by omega), by simp, by simp; omega, ?_, h3, h4⟩
    rw [← h2]
    conv => rhs; rw [Sort.scanDown, if_pos hc]
    rfl
  · rintro j w1 ⟨h1, h2, h3, h4⟩ hc
    have : Sort.scanDown p d i j = j := by
      cases j with
      | zero => rfl
      | succ k => rw [Sort.scanDown, if_neg (by rw [hc]; simp)]
    rw [this] at h2
    rw [h2]
    exact hK w1 h3 h4

/-- What the four tests ask. -/
theorem test_ok {w : World} {s : Sl} {d : Array Int} (hd : Rw w s d) {c : Bool} {x y : Int} {i j : Nat} {J : Bool × Unit → Pr} (f : Bool → Bool) {b : Bool} (hx : x = (i : Int)) (hy : y = (j : Int)) (hi : c = true → i < d.size) (hj : c = true → j < d.size) (hb : (c && f (lt d[i]! d[j]!)) = b)
    (hJ : ∀ w2, Rw w2 s d → Keeps (blk s) w w2 → J (b, ()) w2) :
    Dr (Br c (Ix s x 1 fun a64 => LdI .u64 a64 fun x65 => Ix s y 1 fun a66 => LdI .u64 a66 fun x67 => Cl Try.prog 77 [(.int .u64 x65), (.int .u64 x67)] false [.sc .b] fun r68 => J (f r68.1, ())) (J (false, ()))) w := by
  have hkd : Keeps (blk s) w w.drew := (Keeps.refl _ _).drew
  simp only [Dr]
  cases c with
  | false =>
    rw [Bool.false_and] at hb
    subst hb
    exact hJ _ hd.dr hkd
  | true =>
    rw [Bool.true_and] at hb
    refine Rw.rd (w := w.drew) hd.dr hx (hi rfl) ?_
    refine Rw.rd (w := w.drew) hd.dr hy (hj rfl) ?_
    refine Cl.mono (Less_ok _ _) ?_
    rintro ⟨r, _⟩ _ ⟨rfl, hr⟩
    simp only at hr
    rw [hr]
    subst hb
    exact hJ _ hd.dr hkd
/-- The same, the element that stays first. -/
theorem test_ok' {w : World} {s : Sl} {d : Array Int} (hd : Rw w s d) {c : Bool} {x y : Int} {i j : Nat} {J : Bool × Unit → Pr} (f : Bool → Bool) {b : Bool} (hx : x = (i : Int)) (hy : y = (j : Int)) (hi : c = true → i < d.size) (hj : c = true → j < d.size) (hb : (c && f (lt d[i]! d[j]!)) = b)
    (hJ : ∀ w2, Rw w2 s d → Keeps (blk s) w w2 → J (b, ()) w2) :
    Dr (Br c (Ix s x 1 fun a64 => LdI .u64 a64 fun x65 => Ix s y 1 fun a66 => LdI .u64 a66 fun x67 => Cl Try.prog 77 [(.int .u64 x65), (.int .u64 x67)] false [.sc .b] fun r68 => J (f r68.1, ())) (J (false, ()))) w := test_ok hd f hx hy hi hj hb hJ

theorem partition_ok {w : World} {s : Sl} {d : Array Int} (h : Rw w s d) {a b pivot : Nat} (hb : b ≤ d.size) (hN : d.size ≤ 65000) (hap : a ≤ pivot) (hpb : pivot < b) :
    Cl Try.prog i_slices_partitionOrdered [.slice s.p s.len s.cap, .int .i64 (a : Int), .int .i64 (b : Int), .int .i64 (pivot : Int)] true [.sc (.i .i64), .sc .b]
      (fun r w' => r.1 = ((Sort.partition lt d a b pivot).1 : Int) ∧ Rw w' s (Sort.partition lt d a b pivot).2.2 ∧ Keeps (blk s) w w') w := by
  refine Cl_gen fun R hR => ?_
  apply slices_partitionOrdered_call
  unfold slices_partitionOrdered
  refine Rw.sw h rfl rfl (by omega) (by omega) ?_
  intro w1 hd1 hk1
  unfold Sort.partition at hR
  simp only at hR
  generalize hd : Sort.swp d a pivot = d1 at hd1 hR
  have hz1 : d1.size = d.size := by rw [← hd, size_swp]
  rw [w64m (by omega) (by omega), w64p (by omega)]
  refine up_loop (by omega) hd1 hk1 (fun x => lt x d1[a]!) (j := b - 1) (by omega) ?_ (by omega) ?_
  · intro i w2 J h2 hi hJ
    exact test_ok h2 (fun b => b) rfl rfl (by simp; omega) (by simp; omega) (by congr 1; exact decide_eq_decide.2 (by omega)) hJ
  intro w2 hd2 hk2
  generalize hi2 : Sort.scanUp (fun x => lt x d1[a]!) d1 (b - 1) (a + 1) = i2 at hR
  have hi2a : a + 1 ≤ i2 := by rw [← hi2]; exact Sort.scanUp_ge _ _ _ _
  refine down_loop (by omega) hd2 hk2 (fun x => !lt x d1[a]!) (i := i2) (by omega) (by omega) ?_ ?_
  · intro j w3 J h3 hj hJ
    exact test_ok h3 (fun b => !b) rfl rfl (by simp; omega) (by simp; omega) (by congr 1; exact decide_eq_decide.2 (by omega)) hJ
  intro w3 hd3 hk3
  generalize hj2 : Sort.scanDown (fun x => !lt x d1[a]!) d1 i2 (b - 1) = j2 at hR
  have hj2b : j2 ≤ b - 1 := by rw [← hj2]; exact Sort.scanDown_le _ _ _ _
  by_cases hij : i2 > j2
  · rw [decide_eq_true (by omega)]
    simp only [if_pos hij] at hR
    simp only [Br]
    refine Rw.sw hd3 rfl rfl (by omega) (by omega) ?_
    intro w4 hd4 hk4
    exact hR _ _ ⟨rfl, hd4, kt hk3 hk4⟩
  · rw [decide_eq_false (by omega)]
    simp only [if_neg hij] at hR
    simp only [Br]
    refine Rw.sw hd3 rfl rfl (by omega) (by omega) ?_
    intro w4 hd4 hk4
    generalize hdd : Sort.swp d1 i2 j2 = d2 at hd4 hR
    have hz2 : d2.size = d.size := by rw [← hdd, size_swp]; exact hz1
    rw [w64p (by omega), w64m (by omega) (by omega)]
    have hk04 := kt hk3 hk4
    refine ⟨fun m st w' => ∃ (i j : Nat) (d' : Array Int), st = ((i : Int), (j : Int), ()) ∧ m = j + 1 - i ∧ a < i ∧ i ≤ 65001 ∧ j < b ∧ d'.size = d.size ∧ Sort.partLoop lt a i j d' = Sort.partLoop lt a (i2 + 1) (j2 - 1) d2 ∧ Rw w' s d' ∧ Keeps (blk s) w w', ⟨_, i2 + 1, j2 - 1, d2, rfl, rfl, by omega, by omega, by omega, hz2, rfl, hd4, hk04⟩, ?_⟩
    rintro _ _ w5 ⟨i, j, e1, rfl, rfl, hai, hi65, hjb, hze, hpe, he5, hk5⟩
    dsimp only
    rw [Sort.partLoop_eq] at hpe
    refine up_loop (by omega) he5 hk5 (fun x => lt x e1[a]!) (j := j) (by omega) ?_ (by omega) ?_
    · intro i w2 J h2 hi hJ
      exact test_ok h2 (fun b => b) rfl rfl (by simp; omega) (by simp; omega) (by congr 1; exact decide_eq_decide.2 (by omega)) hJ
    intro w6 he6 hk6
    generalize hi3 : Sort.scanUp (fun x => lt x e1[a]!) e1 j i = i3 at hpe
    have hi3a : i ≤ i3 := by rw [← hi3]; exact Sort.scanUp_ge _ _ _ _
    refine down_loop (by omega) he6 hk6 (fun x => !lt x e1[a]!) (i := i3) (by omega) (by omega) ?_ ?_
    · intro j w3 J h3 hj hJ
      exact test_ok h3 (fun b => !b) rfl rfl (by simp; omega) (by simp; omega) (by congr 1; exact decide_eq_decide.2 (by omega)) hJ
    intro w7 he7 hk7
    generalize hj3 : Sort.scanDown (fun x => !lt x e1[a]!) e1 i3 j = j3 at hpe
    have hj3b : j3 ≤ j := by rw [← hj3]; exact Sort.scanDown_le _ _ _ _
    by_cases hij3 : i3 > j3
    · rw [decide_eq_true (by omega)]
      rw [if_pos hij3] at hpe
      simp only [Br]
      refine Rw.sw he7 rfl rfl (by omega) (by omega) ?_
      intro w8 he8 hk8
      rw [← hpe] at hR
      exact hR _ _ ⟨rfl, he8, kt hk7 hk8⟩
    · rw [decide_eq_false (by omega)]
      rw [if_neg hij3] at hpe
      simp only [Br]
      refine Rw.sw he7 rfl rfl (by omega) (by omega) ?_
      intro w8 he8 hk8
      rw [w64p (by omega), w64m (by omega) (by omega)]
      exact ⟨(j3 - 1) + 1 - (i3 + 1), by omega, i3 + 1, j3 - 1, _, rfl, rfl, by omega, by omega, by omega, by rw [size_swp]; exact hze, hpe, he8, kt hk7 hk8⟩

theorem partitionEqual_ok {w : World} {s : Sl} {d : Array Int} (h : Rw w s d) {a b pivot : Nat} (hb : b ≤ d.size) (hN : d.size ≤ 65000) (hap : a ≤ pivot) (hpb : pivot < b) :
    Cl Try.prog i_slices_partitionEqualOrdered [.slice s.p s.len s.cap, .int .i64 (a : Int), .int .i64 (b : Int), .int .i64 (pivot : Int)] false [.sc (.i .i64)]
      (fun r w' => r.1 = ((Sort.partitionEqual lt d a b pivot).1 : Int) ∧ Rw w' s (Sort.partitionEqual lt d a b pivot).2 ∧ Keeps (blk s) w w') w := by
  refine Cl_gen fun R hR => ?_
  apply slices_partitionEqualOrdered_call
  unfold slices_partitionEqualOrdered
  refine Rw.sw h rfl rfl (by omega) (by omega) ?_
  intro w1 hd1 hk1
  unfold Sort.partitionEqual at hR
  generalize hd : Sort.swp d a pivot = d1 at hd1 hR
  have hz1 : d1.size = d.size := by rw [← hd, size_swp]
  rw [w64m (by omega) (by omega), w64p (by omega)]
  refine ⟨fun m st w' => ∃ (i j : Nat) (d' : Array Int), st = ((i : Int), (j : Int), ()) ∧ m = j + 1 - i ∧ a < i ∧ i ≤ 65001 ∧ j < b ∧ d'.size = d.size ∧ Sort.partEqLoop lt a i j d' = Sort.partEqLoop lt a (a + 1) (b - 1) d1 ∧ Rw w' s d' ∧ Keeps (blk s) w w', ⟨_, a + 1, b - 1, d1, rfl, rfl, by omega, by omega, by omega, hz1, rfl, hd1, hk1⟩, ?_⟩
  rintro _ _ w5 ⟨i, j, e1, rfl, rfl, hai, hi65, hjb, hze, hpe, he5, hk5⟩
  dsimp only
  rw [Sort.partEqLoop_eq] at hpe
  refine up_loop (by omega) he5 hk5 (fun x => !lt e1[a]! x) (j := j) (by omega) ?_ (by omega) ?_
  · intro i w2 J h2 hi hJ
    exact test_ok h2 (fun b => !b) rfl rfl (by simp; omega) (by simp; omega) (by congr 1; exact decide_eq_decide.2 (by omega)) hJ
  intro w6 he6 hk6
  generalize hi3 : Sort.scanUp (fun x => !lt e1[a]! x) e1 j i = i3 at hpe
  have hi3a : i ≤ i3 := by rw [← hi3]; exact Sort.scanUp_ge _ _ _ _
  refine down_loop (by omega) he6 hk6 (fun x => lt e1[a]! x) (i := i3) (by omega) (by omega) ?_ ?_
  · intro j w3 J h3 hj hJ
    exact test_ok h3 (fun b => b) rfl rfl (by simp; omega) (by simp; omega) (by congr 1; exact decide_eq_decide.2 (by omega)) hJ
  intro w7 he7 hk7
  generalize hj3 : Sort.scanDown (fun x => lt e1[a]! x) e1 i3 j = j3 at hpe
  have hj3b : j3 ≤ j := by rw [← hj3]; exact Sort.scanDown_le _ _ _ _
  by_cases hij3 : i3 > j3
  · rw [decide_eq_true (by omega)]
    rw [if_pos hij3] at hpe
    rw [← hpe] at hR
    exact hR _ _ ⟨rfl, he7, hk7⟩
  · rw [decide_eq_false (by omega)]
    rw [if_neg hij3] at hpe
    simp only [Br]
    refine Rw.sw he7 rfl rfl (by omega) (by omega) ?_
    intro w8 he8 hk8
    rw [w64p (by omega), w64m (by omega) (by omega)]
    exact ⟨(j3 - 1) + 1 - (i3 + 1), by omega, i3 + 1, j3 - 1, _, rfl, rfl, by omega, by omega, by omega, by rw [size_swp]; exact hze, hpe, he8, kt hk7 hk8⟩

/-! ### partialInsertionSort -/
theorem partialInsertion_ok {w : World} {s : Sl} {d : Array Int} (h : Rw w s d) {a b : Nat} (hb : b ≤ d.size) (hN : d.size ≤ 65000) (hab : a < b) :
    Cl Try.prog i_slices_partialInsertionSortOrdered [.slice s.p s.len s.cap, .int .i64 (a : Int), .int .i64 (b : Int)] false [.sc .b]
      (fun r w' => r.1 = (Sort.partialInsertionSort lt d a b).2 ∧ Rw w' s (Sort.partialInsertionSort lt d a b).1 ∧ Keeps (blk s) w w') w := by
  refine Cl_gen fun R hR => ?_
  apply slices_partialInsertionSortOrdered_call
  unfold slices_partialInsertionSortOrdered
  rw [w64p (by omega)]
  unfold Sort.partialInsertionSort at hR
  refine ⟨fun m st w' => ∃ (i t : Nat) (d' : Array Int), st = (false, (i : Int), ((5 - t : Nat) : Int), ()) ∧ m = t ∧ t ≤ 5 ∧ a + 1 ≤ i ∧ i ≤ b ∧ d'.size = d.size ∧ Sort.partialIns lt a b t i d' = Sort.partialIns lt a b 5 (a + 1) d ∧ Rw w' s d' ∧ Keeps (blk s) w w', ⟨_, a + 1, 5, d, rfl, rfl, Nat.le_refl _, Nat.le_refl _, by omega, rfl, rfl, h, Keeps.refl _ _⟩, ?_⟩
  rintro t _ w1 ⟨i, _, d1, rfl, rfl, ht, hai, hib, hz1, he1, hd1, hk1⟩
  dsimp only
  cases t with
  | zero =>
    rw [decide_eq_false (by omega)]
    refine hR _ _ ⟨?_, ?_, hk1⟩
    · rw [← he1]; rfl
    · rw [← he1]; exact hd1
  | succ t =>
    rw [decide_eq_true (by omega)]
    simp only [Br]
    rw [Sort.partialIns] at he1
    -- what follows a round
    refine Jp_of (fun st w' => ∃ (i' : Nat) (d' : Array Int), st = (false, (i' : Int), ()) ∧ a + 1 ≤ i' ∧ i' ≤ b ∧ d'.size = d.size ∧ Sort.partialIns lt a b t i' d' = Sort.partialIns lt a b 5 (a + 1) d ∧ Rw w' s d' ∧ Keeps (blk s) w w') ?_ ?_
    · intro J3 hJ3
      refine scan_loop (stp := fun x => w64 (x + 1)) (fun k w' => i ≤ k ∧ k ≤ b ∧ Sort.scanSorted lt d1 b k = Sort.scanSorted lt d1 b i ∧ Rw w' s d1 ∧ Keeps (blk s) w w') (fun k => (k : Int)) (fun k => decide (k < b) && !lt d1[k]! d1[k - 1]!) (fun k => k + 1) (fun k => b - k) ?_ ?_ ?_ ⟨Nat.le_refl _, hib, rfl, hd1, hk1⟩
      · rintro k w2 ⟨h1, h2, h3, h4, h5⟩ J hJ
        rw [w64m (by omega) (by omega)]
        exact test_ok h4 (fun b => !b) rfl rfl (by simp; omega) (by simp; omega) (by congr 1; exact decide_eq_decide.2 (by omega)) fun w3 h6 h7 => hJ w3 ⟨h1, h2, h3, h6, kt h5 h7⟩
      · rintro k w2 ⟨h1, h2, h3, h4, h5⟩ hc
        have hkb : k < b := by simp at hc; exact hc.1
        refine ⟨w64p (by omega), by omega, by omega, by omega, ?_, h4, h5⟩
        rw [← h3]
        conv => rhs; rw [Sort.scanSorted, if_pos hc]
      · rintro k w2 ⟨h1, h2, h3, h4, h5⟩ hc
        have hk : Sort.scanSorted lt d1 b k = k := by rw [Sort.scanSorted, if_neg (by rw [hc]; simp)]
        rw [hk] at h3
        simp only [← h3] at he1
        by_cases hkb : k = b
        · rw [show (((k : Int)) == (b : Int)) = true from by simp [hkb]]
          rw [if_pos hkb] at he1
          rw [← he1] at hR
          exact hR _ _ ⟨rfl, h4, h5⟩
        · rw [show (((k : Int)) == (b : Int)) = false from by simp; omega]
          rw [if_neg hkb] at he1
          simp only [Br]
          rw [w64s rfl rfl (by omega) (by omega)]
          by_cases h50 : b - a < 50
          · rw [decide_eq_true (by omega)]
            rw [if_pos h50] at he1
            rw [← he1] at hR
            exact hR _ _ ⟨rfl, h4, h5⟩
          · rw [decide_eq_false (by omega)]
            rw [if_neg h50] at he1
            simp only [Br]
            rw [w64m (by omega) (by omega)]
            refine Rw.sw h4 rfl rfl (by omega) (by omega) ?_
            intro w3 hd3 hk3
            generalize hdd : Sort.swp d1 k (k - 1) = d2 at hd3 he1
            have hz2 : d2.size = d.size := by rw [← hdd, size_swp]; exact hz1
            refine Jp_of (fun _ w' => ∃ d3, d3.size = d.size ∧ (if k - a ≥ 2 then Sort.shiftDown lt (k - 1) d2 else d2) = d3 ∧ Rw w' s d3 ∧ Keeps (blk s) w w') ?_ ?_
            · intro J15 hJ15
              rw [w64s rfl rfl (by omega) (by omega)]
              by_cases hka : k - a ≥ 2
              · rw [decide_eq_true (by omega)]
                rw [if_pos hka] at hJ15
                simp only [Br]
                refine ⟨fun m st w' => ∃ (j : Nat) (d' : Array Int), st = ((j : Int), ()) ∧ m = j ∧ j < b ∧ d'.size = d.size ∧ Sort.shiftDown lt j d' = Sort.shiftDown lt (k - 1) d2 ∧ Rw w' s d' ∧ Keeps (blk s) w w', ⟨_, k - 1, d2, rfl, rfl, by omega, hz2, rfl, hd3, kt h5 hk3⟩, ?_⟩
                rintro j _ w4 ⟨_, d3, rfl, rfl, hjb, hz3, hs3, hd4, hk4⟩
                dsimp only
                cases j with
                | zero =>
                  rw [decide_eq_false (by omega)]
                  exact hJ15 _ _ ⟨d3, hz3, hs3.symm, hd4, hk4⟩
                | succ j =>
                  rw [decide_eq_true (by omega)]
                  simp only [Br, Dr]
                  rw [w64m (by omega) (by omega), Nat.add_sub_cancel]
                  have hkd : Keeps (blk s) w4 w4.drew := (Keeps.refl _ _).drew
                  refine Rw.rd (w := w4.drew) hd4.dr rfl (by omega) ?_
                  refine Rw.rd (w := w4.drew) hd4.dr rfl (by omega) ?_
                  refine Cl.mono (Less_ok _ _) ?_
                  rintro ⟨r, _⟩ _ ⟨rfl, hr⟩
                  simp only at hr
                  rw [Sort.shiftDown] at hs3
                  cases hl : lt d3[j + 1]! d3[j]! with
                  | false =>
                    rw [hl] at hr hs3
                    subst hr
                    exact hJ15 _ _ ⟨d3, hz3, by rw [← hs3]; rfl, hd4.dr, kt hk4 hkd⟩
                  | true =>
                    rw [hl] at hr hs3
                    subst hr
                    simp only [Bool.not_true]
                    refine Rw.sw (w := w4.drew) hd4.dr rfl rfl (by omega) (by omega) ?_
                    intro w5 hd5 hk5
                    exact ⟨j, by omega, j, _, rfl, rfl, by omega, by rw [size_swp]; exact hz3, by simpa using hs3, hd5, kt (kt hk4 hkd) hk5⟩
              · rw [decide_eq_false (by omega)]
                rw [if_neg hka] at hJ15
                exact hJ15 _ _ ⟨d2, hz2, rfl, hd3, kt h5 hk3⟩
            · rintro _ w4 ⟨d3, hz3, hs3, hd4, hk4⟩
              simp only [hs3] at he1
              rw [w64s rfl rfl (by omega) (by omega)]
              by_cases hkb2 : b - k ≥ 2
              · rw [decide_eq_true (by omega)]
                rw [if_pos hkb2] at he1
                simp only [Br]
                rw [w64p (by omega)]
                refine ⟨fun m st w' => ∃ (j : Nat) (d' : Array Int), st = ((j : Int), ()) ∧ m = b - j ∧ k + 1 ≤ j ∧ j ≤ b ∧ d'.size = d.size ∧ Sort.shiftUp lt b j d' = Sort.shiftUp lt b (k + 1) d3 ∧ Rw w' s d' ∧ Keeps (blk s) w w', ⟨_, k + 1, d3, rfl, rfl, by omega, by omega, hz3, rfl, hd4, hk4⟩, ?_⟩
                rintro _ _ w5 ⟨j, d4, rfl, rfl, hkj, hjb, hz4, hs4, hd5, hk5⟩
                dsimp only
                rw [Sort.shiftUp] at hs4
                by_cases hjb2 : j < b
                · rw [decide_eq_true (by omega)]
                  rw [if_pos hjb2] at hs4
                  simp only [Br, Dr]
                  rw [w64m (by omega) (by omega)]
                  have hkd : Keeps (blk s) w5 w5.drew := (Keeps.refl _ _).drew
                  refine Rw.rd (w := w5.drew) hd5.dr rfl (by omega) ?_
                  refine Rw.rd (w := w5.drew) hd5.dr rfl (by omega) ?_
                  refine Cl.mono (Less_ok _ _) ?_
                  rintro ⟨r, _⟩ _ ⟨rfl, hr⟩
                  simp only at hr
                  cases hl : lt d4[j]! d4[j - 1]! with
                  | false =>
                    rw [hl] at hr hs4
                    subst hr
                    refine hJ3 _ _ ⟨k, d4, rfl, by omega, by omega, hz4, ?_, hd5.dr, kt hk5 hkd⟩
                    rw [← he1, ← hs4]; rfl
                  | true =>
                    rw [hl] at hr hs4
                    subst hr
                    simp only [Bool.not_true]
                    refine Rw.sw (w := w5.drew) hd5.dr rfl rfl (by omega) (by omega) ?_
                    intro w6 hd6 hk6
                    exact ⟨b - (j + 1), by omega, j + 1, _, by rw [w64p (by omega)], rfl, by omega, by omega, by rw [size_swp]; exact hz4, by simpa using hs4, hd6, kt (kt hk5 hkd) hk6⟩
                · rw [decide_eq_false (by omega)]
                  rw [if_neg hjb2] at hs4
                  refine hJ3 _ _ ⟨k, d4, rfl, by omega, by omega, hz4, ?_, hd5, hk5⟩
                  rw [← he1, ← hs4]
              · rw [decide_eq_false (by omega)]
                rw [if_neg hkb2] at he1
                exact hJ3 _ _ ⟨k, d3, rfl, by omega, by omega, hz3, he1, hd4, hk4⟩
    · rintro _ w2 ⟨i', d', rfl, h1, h2, h3, h4, h5, h6⟩
      refine ⟨t, by omega, i', t, d', ?_, rfl, by omega, h1, h2, h3, h4, h5, h6⟩
      rw [w64_in (by omega) (by omega)]
      congr 3
      omega

end Go.Proofs.Ytmppjgddemlmdaa
