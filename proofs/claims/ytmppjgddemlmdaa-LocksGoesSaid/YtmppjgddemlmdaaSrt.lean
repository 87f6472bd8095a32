/- slices.Sort of a slice of uint64: its parts, each by the kit's plain layer of the sort. Conditions: none. -/
import Derived.Test.YtmppjgddemlmdaaSem
import Derived.Test.YtmppjgddemlmdaaSxY
import Derived.Sort.LotD3
import Derived.Sort.LotA
import Derived.Sort.LotB
import Derived.Sort.LotC
import Derived.Sort.LotD1
set_option linter.unusedVariables false
set_option linter.unusedSimpArgs false
namespace Go.Proofs.Ytmppjgddemlmdaa
open Go Go.Sx

def cU (l : List Int) : List Value := l.map (Value.int .u64)
theorem cU_len (l : List Int) : (cU l).length = l.length := by simp [cU]
theorem cU_one (l : List Int) : ∀ v ∈ cU l, v.oneCell' = true := by simp [cU, Value.oneCell']
theorem cU_slen {w : World} {s : Sl} {l : List Int} (h : SlC w s 1 (cU l)) : s.len = l.length := by have := h.len; rw [cU_len] at this; omega
abbrev Rw (w : World) (s : Sl) (d : Array Int) : Prop := SlC w s 1 (cU d.toList)

section
variable {w : World} {s : Sl} {d : Array Int} (h : Rw w s d)
include h
theorem Rw.rd {x : Int} {j : Nat} (hx : x = (j : Int)) (hj : j < d.size) {K : Int → Pr} (k : K d[j]! w) : Ix s x 1 (fun a => LdI .u64 a K) w := by
  subst hx
  have hl := cU_slen h
  rw [Array.length_toList] at hl
  obtain ⟨b, o, hp, _⟩ := h.base (by omega)
  rw [Ix_base hp (by omega) (by omega), Int.toNat_natCast, Nat.mul_one, LdI_c, h.read hp (by rw [cU_len, Array.length_toList]; exact hj), cU, List.getElem?_map, Array.getElem?_toList, Array.getElem?_eq_getElem hj]
  simp only [Option.map_some, sx]
  rw [getElem!_pos d j hj] at k
  exact k
theorem Rw.wr {x : Int} {j : Nat} (hx : x = (j : Int)) (hj : j < d.size) (v : Int) {K : Pr} (k : ∀ w', Rw w' s (d.setIfInBounds j v) → Keeps (blk s) w w' → K w') : Ix s x 1 (fun a => St a (.int .u64 v) K) w := by
  subst hx
  have hl := cU_slen h
  rw [Array.length_toList] at hl
  obtain ⟨b, o, hp, hb⟩ := h.base (by omega)
  rw [Ix_base hp (by omega) (by omega), Int.toNat_natCast, Nat.mul_one]
  refine h.write hp (by rw [cU_len, Array.length_toList]; exact hj) rfl ?_
  intro w' h1 h2
  refine k w' ?_ (by rw [hb]; exact h2)
  unfold Rw
  rw [Array.toList_setIfInBounds, cU, List.map_set]
  exact h1
theorem Rw.keeps {w' : World} (hk : Keeps [] w w') : Rw w' s d := SlC.keeps h hk (by simp)
theorem Rw.dr : Rw w.drew s d := Rw.keeps h ((Keeps.refl _ _).drew)
/-- 'data[i], data[j] = data[j], data[i]'. -/
theorem Rw.sw {x y : Int} {i j : Nat} (hx : x = (i : Int)) (hy : y = (j : Int)) (hi : i < d.size) (hj : j < d.size) {K : Pr} (k : ∀ w', Rw w' s (Sort.swp d i j) → Keeps (blk s) w w' → K w') :
    Dr (Ix s y 1 fun a3 => LdI .u64 a3 fun x4 => Ix s x 1 fun a5 => LdI .u64 a5 fun x6 => Ix s x 1 fun a7 => St a7 (.int .u64 x4) <| Ix s y 1 fun a8 => St a8 (.int .u64 x6) K) w := by
  have hkd : Keeps [] w w.drew := (Keeps.refl _ _).drew
  refine Rw.rd (w := w.drew) (Rw.dr h) hy hj ?_
  refine Rw.rd (w := w.drew) (Rw.dr h) hx hi ?_
  refine Rw.wr (w := w.drew) (Rw.dr h) hx hi _ ?_
  intro w1 h1 k1
  refine Rw.wr h1 hy (by simpa using hj) _ ?_
  intro w2 h2 k2
  exact k w2 h2 (((hkd.mono (m' := blk s) (by simp)).trans k1 (fun _ hx => .inl hx)).trans k2 (fun _ hx => .inl hx))
end

theorem w64a {x y : Int} {i j : Nat} (hx : x = (i : Int)) (hy : y = (j : Int)) (h : i + j < 4611686018427387904) : w64 (x + y) = ((i + j : Nat) : Int) := by subst hx hy; rw [w64_in (by omega) (by omega)]; omega
theorem w64s {x y : Int} {i j : Nat} (hx : x = (i : Int)) (hy : y = (j : Int)) (h : j ≤ i) (h2 : i < 4611686018427387904) : w64 (x - y) = ((i - j : Nat) : Int) := by subst hx hy; rw [w64_in (by omega) (by omega)]; omega

theorem w64p {i : Nat} (h : i < 4611686018427387904) : w64 ((i : Int) + 1) = ((i + 1 : Nat) : Int) := by rw [w64_in (by omega) (by omega)]; omega
theorem w64m {i : Nat} (h : 1 ≤ i) (h2 : i < 4611686018427387904) : w64 ((i : Int) - 1) = ((i - 1 : Nat) : Int) := by rw [w64_in (by omega) (by omega)]; omega

abbrev lt := Sort.ltInt

theorem Less_ok {w : World} (x y : Int) : Cl Try.prog i_cmp_Less [.int .u64 x, .int .u64 y] false [.sc .b] (fun r w' => w = w' ∧ r.1 = lt x y) w := by
  have hn : ∀ z : Int, ∀ {K : TR [.sc .b] → Pr}, K (false, ()) w → Cl Try.prog i_cmp_isNaN [.int .u64 z] false [.sc .b] K w := fun z K h => by
    apply cmp_isNaN_call
    unfold cmp_isNaN
    rw [show (z != z) = false from by simp]
    exact h
  refine Cl_gen fun R hR => ?_
  apply cmp_Less_call
  unfold cmp_Less
  refine hn x ?_
  exact hR _ _ ⟨rfl, rfl⟩

theorem size_swp (d : Array Int) (i j : Nat) : (Sort.swp d i j).size = d.size := Sort.size_swp d i j

/-- A loop whose way on is asked for behind a join. -/
theorem scan_loop {w : World} {A : (Bool × Unit → Pr) → Int × Unit → Pr} {K : Int × Unit → Pr} {stp : Int → Int} (Inv : Nat → World → Prop) (enc : Nat → Int) (cond : Nat → Bool) (nxt : Nat → Nat) (ms : Nat → Nat)
    (hc : ∀ i w', Inv i w' → ∀ J : Bool × Unit → Pr, (∀ w'', Inv i w'' → J (cond i, ()) w'') → A J (enc i, ()) w')
    (hn : ∀ i w', Inv i w' → cond i = true → stp (enc i) = enc (nxt i) ∧ ms (nxt i) < ms i ∧ Inv (nxt i) w')
    (he : ∀ i w', Inv i w' → cond i = false → K (enc i, ()) w') {i0 : Nat} (h0 : Inv i0 w) :
    Lp (σ := Int × Unit) (fun L7 s8 => Jp (σ := Bool × Unit) (fun s10 => Br s10.1 (L7 (stp s8.1, ())) (K s8)) fun J9 => A J9 s8) (enc i0, ()) w := by
  refine ⟨fun m st w' => ∃ i, st = (enc i, ()) ∧ m = ms i ∧ Inv i w', ⟨_, i0, rfl, rfl, h0⟩, ?_⟩
  rintro _ _ w1 ⟨i, rfl, rfl, hI⟩
  refine Jp_of (fun st w' => st = (cond i, ()) ∧ Inv i w') (fun J hJ => hc i w1 hI J fun w'' h => hJ _ _ ⟨rfl, h⟩) ?_
  rintro _ w2 ⟨rfl, hI2⟩
  cases hb : cond i with
  | true =>
    obtain ⟨h1, h2, h3⟩ := hn i w2 hI2 hb
    exact ⟨_, h2, nxt i, by rw [h1], rfl, h3⟩
  | false => exact he i w2 hI2 hb

/-! ### insertionSort -/
theorem insertion_ok {w : World} {s : Sl} {d : Array Int} (h : Rw w s d) {a b : Nat} (hb : b ≤ d.size) (hN : d.size ≤ 65000) (hab : a ≤ b) :
    Cl Try.prog i_slices_insertionSortOrdered [.slice s.p s.len s.cap, .int .i64 (a : Int), .int .i64 (b : Int)] true [] (fun _ w' => Rw w' s (Sort.insertionSort lt d a b) ∧ Keeps (blk s) w w') w := by
  refine Cl_gen fun R hR => ?_
  apply slices_insertionSortOrdered_call
  unfold slices_insertionSortOrdered
  rw [w64p (by omega)]
  refine ⟨fun m st w' => ∃ (i : Nat) (d' : Array Int), st = ((i : Int), ()) ∧ m = b + 1 - i ∧ a + 1 ≤ i ∧ d'.size = d.size ∧ Sort.insOuter lt a b i d' = Sort.insOuter lt a b (a + 1) d ∧ Rw w' s d' ∧ Keeps (blk s) w w', ⟨_, a + 1, d, rfl, rfl, Nat.le_refl _, rfl, rfl, h, Keeps.refl _ _⟩, ?_⟩
  rintro _ _ w1 ⟨i, d1, rfl, rfl, hi, hz1, he1, hd1, hk1⟩
  dsimp only
  by_cases hib : i < b
  · rw [decide_eq_true (by omega)]
    simp only [Br]
    rw [Sort.insOuter, if_pos hib] at he1
    refine ⟨fun m st w' => ∃ (j : Nat) (d' : Array Int), st = ((j : Int), ()) ∧ m = j ∧ j ≤ i ∧ d'.size = d.size ∧ Sort.insInner lt a j d' = Sort.insInner lt a i d1 ∧ Rw w' s d' ∧ Keeps (blk s) w w', ⟨_, i, d1, rfl, rfl, Nat.le_refl _, hz1, rfl, hd1, hk1⟩, ?_⟩
    rintro j _ w2 ⟨_, d2, rfl, rfl, hj, hz2, he2, hd2, hk2⟩
    dsimp only
    have hkd : Keeps (blk s) w2 w2.drew := (Keeps.refl _ _).drew
    refine Jp_of (fun st w' => st = (decide (j > a) && lt d2[j]! d2[j - 1]!, ()) ∧ Rw w' s d2 ∧ Keeps (blk s) w w') ?_ ?_
    · intro J hJ
      simp only [Dr]
      by_cases hja : j > a
      · rw [decide_eq_true (by omega)]
        rw [decide_eq_true hja, Bool.true_and] at hJ
        simp only [Br]
        rw [w64m (by omega) (by omega)]
        refine Rw.rd (w := w2.drew) hd2.dr rfl (by omega) ?_
        refine Rw.rd (w := w2.drew) hd2.dr rfl (by omega) ?_
        refine Cl.mono (Less_ok _ _) ?_
        rintro ⟨r, _⟩ _ ⟨rfl, hr⟩
        simp only at hr
        refine hJ _ _ ⟨by rw [hr], hd2.dr, hk2.trans hkd (fun _ hx => .inl hx)⟩
      · rw [decide_eq_false (by omega)]
        rw [decide_eq_false hja, Bool.false_and] at hJ
        exact hJ _ _ ⟨rfl, hd2.dr, hk2.trans hkd (fun _ hx => .inl hx)⟩
    · rintro _ w3 ⟨rfl, hd3, hk3⟩
      cases hc : (decide (j > a) && lt d2[j]! d2[j - 1]!) with
      | true =>
        simp only [Br]
        simp only [Bool.and_eq_true, decide_eq_true_eq] at hc
        obtain ⟨k, rfl⟩ : ∃ k, j = k + 1 := ⟨j - 1, by omega⟩
        rw [Nat.add_sub_cancel] at hc
        rw [w64m (by omega) (by omega), Nat.add_sub_cancel]
        refine hd3.sw rfl rfl (by omega) (by omega) ?_
        intro w4 hd4 hk4
        refine ⟨k, by omega, k, _, rfl, rfl, by omega, by rw [size_swp]; exact hz2, ?_, hd4, hk3.trans hk4 (fun _ hx => .inl hx)⟩
        rw [← he2, Sort.insInner, if_pos (by simp [hc])]
      | false =>
        simp only [Br]
        refine ⟨b + 1 - (i + 1), by omega, i + 1, d2, by rw [w64p (by omega)], rfl, by omega, hz2, ?_, hd3, hk3⟩
        rw [← he1, ← he2]
        cases j with
        | zero => rfl
        | succ k =>
          rw [Nat.add_sub_cancel] at hc
          rw [Sort.insInner, if_neg (by rw [hc]; simp)]
  · rw [decide_eq_false (by omega)]
    rw [Sort.insOuter, if_neg hib] at he1
    refine hR _ _ ⟨?_, hk1⟩
    unfold Sort.insertionSort
    rw [← he1]
    exact hd1

/-! ### heapSort -/
theorem sift_ok {w : World} {s : Sl} {d : Array Int} (h : Rw w s d) {lo hi first : Nat} (hb : first + hi ≤ d.size) (hN : d.size ≤ 65000) (hlo : lo ≤ hi) :
    Cl Try.prog i_slices_siftDownOrdered [.slice s.p s.len s.cap, .int .i64 (lo : Int), .int .i64 (hi : Int), .int .i64 (first : Int)] true [] (fun _ w' => Rw w' s (Sort.siftDown lt hi first lo d) ∧ Keeps (blk s) w w') w := by
  refine Cl_gen fun R hR => ?_
  apply slices_siftDownOrdered_call
  unfold slices_siftDownOrdered
  refine ⟨fun m st w' => ∃ (root : Nat) (d' : Array Int), st = ((root : Int), ()) ∧ m = hi - root ∧ root ≤ hi ∧ d'.size = d.size ∧ Sort.siftDown lt hi first root d' = Sort.siftDown lt hi first lo d ∧ Rw w' s d' ∧ Keeps (blk s) w w', ⟨_, lo, d, rfl, rfl, hlo, rfl, rfl, h, Keeps.refl _ _⟩, ?_⟩
  rintro _ _ w1 ⟨root, d1, rfl, rfl, hr, hz1, he1, hd1, hk1⟩
  dsimp only
  have e2 : w64 (2 * (root : Int)) = ((2 * root : Nat) : Int) := by rw [w64_in (by omega) (by omega)]; omega
  rw [e2, w64p (by omega), w64p (by omega)]
  by_cases hch : 2 * root + 1 ≥ hi
  · rw [decide_eq_true (by omega)]
    rw [Sort.siftDown, dif_pos hch] at he1
    simp only [Br]
    refine hR _ _ ⟨?_, hk1⟩
    rw [← he1]
    exact hd1
  · rw [decide_eq_false (by omega)]
    simp only [Br]
    rw [Sort.siftDown, dif_neg hch] at he1
    have kt : ∀ {a b c : World}, Keeps (blk s) a b → Keeps (blk s) b c → Keeps (blk s) a c := fun h k => h.trans k (fun _ hx => .inl hx)
    refine Jp_of (fun st w' => ∃ c : Nat, st = ((c : Int), ()) ∧ (c = 2 * root + 1 ∨ c = 2 * root + 2) ∧ c < hi ∧ Rw w' s d1 ∧ Keeps (blk s) w w' ∧ (if !lt d1[first + root]! d1[first + c]! then d1 else Sort.siftDown lt hi first c (Sort.swp d1 (first + root) (first + c))) = Sort.siftDown lt hi first lo d) ?_ ?_
    · intro J3 hJ3
      refine Jp_of (fun st w' => st = (decide (2 * root + 1 + 1 < hi) && lt d1[first + (2 * root + 1)]! d1[first + (2 * root + 1) + 1]!, ()) ∧ Rw w' s d1 ∧ Keeps (blk s) w w') ?_ ?_
      · intro J hJ
        have hkd : Keeps (blk s) w1 w1.drew := (Keeps.refl _ _).drew
        simp only [Dr]
        by_cases hc2 : 2 * root + 1 + 1 < hi
        · rw [decide_eq_true (by omega)]
          rw [decide_eq_true hc2, Bool.true_and] at hJ
          simp only [Br]
          rw [w64a rfl rfl (by omega), w64p (by omega)]
          refine Rw.rd (w := w1.drew) hd1.dr rfl (by omega) ?_
          refine Rw.rd (w := w1.drew) hd1.dr rfl (by omega) ?_
          refine Cl.mono (Less_ok _ _) ?_
          rintro ⟨r, _⟩ _ ⟨rfl, hr⟩
          simp only at hr
          exact hJ _ _ ⟨by rw [hr], hd1.dr, kt hk1 hkd⟩
        · rw [decide_eq_false (by omega)]
          rw [decide_eq_false hc2, Bool.false_and] at hJ
          exact hJ _ _ ⟨rfl, hd1.dr, kt hk1 hkd⟩
      · rintro _ w2 ⟨rfl, hd2, hk2⟩
        cases hc : (decide (2 * root + 1 + 1 < hi) && lt d1[first + (2 * root + 1)]! d1[first + (2 * root + 1) + 1]!) with
        | true =>
          simp only [Br]
          rw [if_pos hc] at he1
          simp only [Bool.and_eq_true, decide_eq_true_eq] at hc
          refine hJ3 _ _ ⟨2 * root + 2, rfl, .inr rfl, by omega, hd2, hk2, ?_⟩
          rw [← he1, dif_pos (show 2 * root + 2 < hi by omega)]
        | false =>
          simp only [Br]
          rw [if_neg (by rw [hc]; simp)] at he1
          exact hJ3 _ _ ⟨2 * root + 1, rfl, .inl rfl, by omega, hd2, hk2, he1⟩
    · rintro _ w2 ⟨c, rfl, hc12, hci, hd2, hk2, he2⟩
      simp only [Dr]
      rw [w64a rfl rfl (by omega), w64a rfl rfl (by omega)]
      have hkd : Keeps (blk s) w2 w2.drew := (Keeps.refl _ _).drew
      refine Rw.rd (w := w2.drew) hd2.dr rfl (by omega) ?_
      refine Rw.rd (w := w2.drew) hd2.dr rfl (by omega) ?_
      refine Cl.mono (Less_ok _ _) ?_
      rintro ⟨r, _⟩ _ ⟨rfl, hr⟩
      simp only at hr
      cases hl : lt d1[first + root]! d1[first + c]! with
      | false =>
        rw [hl] at hr he2
        subst hr
        simp only [Bool.not_false, Br]
        refine hR _ _ ⟨?_, kt hk2 hkd⟩
        rw [← he2]
        exact hd2.dr
      | true =>
        rw [hl] at hr he2
        subst hr
        simp only [Bool.not_true, Br]
        refine Rw.sw (w := w2.drew) hd2.dr rfl rfl (by omega) (by omega) ?_
        intro w3 hd3 hk3
        exact ⟨hi - c, by omega, c, _, rfl, rfl, by omega, by rw [size_swp]; exact hz1, by simpa using he2, hd3, kt (kt hk2 hkd) hk3⟩

theorem sift_size (hi first : Nat) : ∀ (n root : Nat) (d : Array Int), hi - root ≤ n → (Sort.siftDown lt hi first root d).size = d.size
  | n, root, d, hn => by
    rw [Sort.siftDown]
    split
    · rfl
    · rename_i h1
      split
      · split
        · rfl
        · split
          · cases n with
            | zero => omega
            | succ n => rw [sift_size hi first n _ _ (by omega), size_swp]
          · rfl
      · split
        · rfl
        · cases n with
          | zero => omega
          | succ n => rw [sift_size hi first n _ _ (by omega), size_swp]

theorem heapSort_ok {w : World} {s : Sl} {d : Array Int} (h : Rw w s d) {a b : Nat} (hb : b ≤ d.size) (hN : d.size ≤ 65000) (hab : a < b) :
    Cl Try.prog i_slices_heapSortOrdered [.slice s.p s.len s.cap, .int .i64 (a : Int), .int .i64 (b : Int)] true [] (fun _ w' => Rw w' s (Sort.heapSort lt d a b) ∧ Keeps (blk s) w w') w := by
  refine Cl_gen fun R hR => ?_
  have kt : ∀ {a b c : World}, Keeps (blk s) a b → Keeps (blk s) b c → Keeps (blk s) a c := fun h k => h.trans k (fun _ hx => .inl hx)
  apply slices_heapSortOrdered_call
  unfold slices_heapSortOrdered
  refine ⟨by decide, ?_⟩
  rw [w64s rfl rfl (by omega) (by omega)]
  rw [w64m (i := b - a) (by omega) (by omega)]
  have e2 : w64 ((((b - a - 1 : Nat) : Int)).tdiv 2) = (((b - a - 1) / 2 : Nat) : Int) := by
    rw [show ((b - a - 1 : Nat) : Int).tdiv 2 = (((b - a - 1) / 2 : Nat) : Int) from tdiv_nat _ 2]
    exact w64_nat (by omega)
  rw [e2]
  refine ⟨fun m st w' => ∃ (k : Nat) (d' : Array Int), st = ((k : Int) - 1, ()) ∧ m = k ∧ k ≤ (b - a - 1) / 2 + 1 ∧ d'.size = d.size ∧ Sort.heapBuild lt (b - a) a k d' = Sort.heapBuild lt (b - a) a ((b - a - 1) / 2 + 1) d ∧ Rw w' s d' ∧ Keeps (blk s) w w', ⟨_, (b - a - 1) / 2 + 1, d, by simp, rfl, Nat.le_refl _, rfl, rfl, h, Keeps.refl _ _⟩, ?_⟩
  rintro k _ w1 ⟨_, d1, rfl, rfl, hk, hz1, he1, hd1, hk1⟩
  dsimp only
  cases k with
  | succ k =>
    rw [decide_eq_true (by omega)]
    simp only [Br]
    rw [show ((k + 1 : Nat) : Int) - 1 = (k : Int) from by omega]
    refine Cl.mono (sift_ok hd1 (lo := k) (hi := b - a) (first := a) (by omega) (by omega) (by omega)) ?_
    rintro _ w2 ⟨hd2, hk2⟩
    refine ⟨k, by omega, k, _, by rw [w64_in (by omega) (by omega)], rfl, by omega, by rw [sift_size (b - a) a _ _ _ (Nat.le_refl _)]; exact hz1, ?_, hd2, kt hk1 hk2⟩
    rw [← he1]
    rfl
  | zero =>
    rw [decide_eq_false (by omega)]
    simp only [Br]
    have hd0 : Sort.heapBuild lt (b - a) a ((b - a - 1) / 2 + 1) d = d1 := by rw [← he1]; rfl
    refine ⟨fun m st w' => ∃ (k : Nat) (d' : Array Int), st = ((k : Int) - 1, ()) ∧ m = k ∧ k ≤ b - a ∧ d'.size = d.size ∧ Sort.heapPop lt a k d' = Sort.heapPop lt a (b - a) d1 ∧ Rw w' s d' ∧ Keeps (blk s) w w', ⟨_, b - a, d1, by congr 1; omega, rfl, Nat.le_refl _, hz1, rfl, hd1, hk1⟩, ?_⟩
    rintro k _ w2 ⟨_, d2, rfl, rfl, hk, hz2, he2, hd2, hk2⟩
    dsimp only
    cases k with
    | succ k =>
      rw [decide_eq_true (by omega)]
      simp only [Br]
      rw [show ((k + 1 : Nat) : Int) - 1 = (k : Int) from by omega, w64a rfl rfl (by omega)]
      refine Rw.sw hd2 rfl rfl (by omega) (by omega) ?_
      intro w3 hd3 hk3
      refine Cl.mono (sift_ok hd3 (lo := 0) (hi := k) (first := a) (by rw [size_swp]; omega) (by rw [size_swp]; omega) (by omega)) ?_
      rintro _ w4 ⟨hd4, hk4⟩
      refine ⟨k, by omega, k, _, by rw [w64_in (by omega) (by omega)], rfl, by omega, by rw [sift_size k a _ _ _ (Nat.le_refl _), size_swp]; exact hz2, ?_, hd4, kt (kt hk2 hk3) hk4⟩
      rw [← he2]
      rfl
    | zero =>
      rw [decide_eq_false (by omega)]
      refine hR _ _ ⟨?_, hk2⟩
      unfold Sort.heapSort
      rw [hd0, ← he2]
      exact hd2

/-! ### reverseRange -/
theorem reverse_ok {w : World} {s : Sl} {d : Array Int} (h : Rw w s d) {a b : Nat} (hb : b ≤ d.size) (hN : d.size ≤ 65000) (hab : a < b) :
    Cl Try.prog i_slices_reverseRangeOrdered [.slice s.p s.len s.cap, .int .i64 (a : Int), .int .i64 (b : Int)] true [] (fun _ w' => Rw w' s (Sort.reverseRange d a b) ∧ Keeps (blk s) w w') w := by
  refine Cl_gen fun R hR => ?_
  have kt : ∀ {a b c : World}, Keeps (blk s) a b → Keeps (blk s) b c → Keeps (blk s) a c := fun h k => h.trans k (fun _ hx => .inl hx)
  apply slices_reverseRangeOrdered_call
  unfold slices_reverseRangeOrdered
  rw [w64m (by omega) (by omega)]
  refine ⟨fun m st w' => ∃ (i j : Nat) (d' : Array Int), st = ((i : Int), (j : Int), ()) ∧ m = j - i ∧ j < b ∧ d'.size = d.size ∧ Sort.reverseLoop i j d' = Sort.reverseLoop a (b - 1) d ∧ Rw w' s d' ∧ Keeps (blk s) w w', ⟨_, a, b - 1, d, rfl, rfl, by omega, rfl, rfl, h, Keeps.refl _ _⟩, ?_⟩
  rintro _ _ w1 ⟨i, j, d1, rfl, rfl, hj, hz1, he1, hd1, hk1⟩
  dsimp only
  rw [Sort.reverseLoop] at he1
  by_cases hij : i < j
  · rw [decide_eq_true (by omega)]
    simp only [Br]
    rw [if_pos hij] at he1
    refine Rw.sw hd1 rfl rfl (by omega) (by omega) ?_
    intro w2 hd2 hk2
    exact ⟨j - 1 - (i + 1), by omega, i + 1, j - 1, _, by rw [w64p (by omega), w64m (by omega) (by omega)], rfl, by omega, by rw [size_swp]; exact hz1, he1, hd2, kt hk1 hk2⟩
  · rw [decide_eq_false (by omega)]
    rw [if_neg hij] at he1
    refine hR _ _ ⟨?_, hk1⟩
    unfold Sort.reverseRange
    rw [← he1]
    exact hd1

end Go.Proofs.Ytmppjgddemlmdaa
