/- slices.Sort of a few integers. -/
import Derived.Test.YtelojafogbmbcaaSxX
import Derived.Test.YtelojafogbmbcaaSem
set_option linter.unusedVariables false
set_option linter.unusedSimpArgs false
namespace Go.Proofs.Ytelojafogbmbcaa
open Go Go.Sx

set_option maxRecDepth 10000 in
theorem Len_small {w : World} {x : Nat} (hx : x < 256) : Cl Try.prog i_math_bits_Len [.int .u64 (x : Int)] false [.sc (.i .i64)] (fun r w' => w = w') w := by
  apply math_bits_Len_call
  unfold math_bits_Len
  refine Cl.mono (K := fun (r : TR [.sc (.i .i64)]) w' => w = w') ?_ (fun r w' h => h)
  apply math_bits_Len64_call
  unfold math_bits_Len64
  simp only [Jp]
  rw [decide_eq_false (by omega)]
  simp only [sx]
  rw [decide_eq_false (by omega)]
  simp only [sx]
  rw [decide_eq_false (by omega)]
  simp only [sx]
  rw [wrap_u8_nat, Nat.mod_eq_of_lt hx]
  refine ⟨by omega, ?_⟩
  rw [Int.toNat_natCast]
  refine ⟨_, Array.getElem?_eq_getElem (show x < (BA _).data.size from ?_), rfl⟩
  exact hx

theorem Less_ok {w : World} (x y : Int) : Cl Try.prog i_cmp_Less [.int .i64 x, .int .i64 y] false [.sc .b] (fun r w' => w = w' ∧ r.1 = decide (x < y)) w := by
  have hn : ∀ z : Int, ∀ {K : TR [.sc .b] → Pr}, K (false, ()) w → Cl Try.prog i_cmp_isNaN [.int .i64 z] false [.sc .b] K w := fun z K h => by
    apply cmp_isNaN_call
    unfold cmp_isNaN
    rw [show (z != z) = false from by simp]
    exact h
  apply cmp_Less_call
  unfold cmp_Less
  refine hn x ?_
  exact ⟨rfl, rfl⟩

def cI (l : List Int) : List Value := l.map (Value.int .i64)
theorem cI_len (l : List Int) : (cI l).length = l.length := by simp [cI]

theorem swap_perm : ∀ (l : List Int) (k : Nat) (a b : Int), l[k]? = some a → l[k + 1]? = some b → ((l.set (k + 1) a).set k b).Perm l
  | [], k, a, b, h, _ => by simp at h
  | [x], 0, a, b, _, h => by simp at h
  | x :: y :: l, 0, a, b, h1, h2 => by
    simp at h1 h2
    subst h1 h2
    exact List.Perm.swap _ _ _
  | x :: l, k + 1, a, b, h1, h2 => by
    simp only [List.getElem?_cons_succ] at h1 h2
    simp only [List.set_cons_succ]
    exact (swap_perm l k a b h1 h2).cons _

/-- In order, up to a place, but for one. -/
def Ord (l : List Int) (i j : Nat) : Prop := ∀ (p q : Nat) (x y : Int), p < q → q ≤ i → q ≠ j → l[p]? = some x → l[q]? = some y → x ≤ y
def Ordd (l : List Int) (i : Nat) : Prop := ∀ (p q : Nat) (x y : Int), p < q → q < i → l[p]? = some x → l[q]? = some y → x ≤ y

theorem Ix_c {w : World} {s : Sl} {l : List Int} (h : SlC w s 1 (cI l)) {j : Nat} {x : Int} (hj : l[j]? = some x) {K : Int → Pr} (k : K x w) : Ix s (j : Int) 1 (fun a => LdI .i64 a K) w := by
  have hlt := (List.getElem?_eq_some_iff.1 hj).1
  have hl := h.len
  rw [cI_len] at hl
  obtain ⟨b, o, hp, _⟩ := h.base (by omega)
  rw [Ix_base hp (by omega) (by omega), Int.toNat_natCast, Nat.mul_one, LdI_c, h.read hp (by rw [cI_len]; exact hlt), cI, List.getElem?_map, hj]
  simp only [Option.map_some, sx]
  exact k

theorem Ix_s {w : World} {s : Sl} {l : List Int} (h : SlC w s 1 (cI l)) {j : Nat} (hj : j < l.length) (x : Int) {K : Pr} (k : ∀ w', SlC w' s 1 (cI (l.set j x)) → Keeps (blk s) w w' → K w') : Ix s (j : Int) 1 (fun a => St a (.int .i64 x) K) w := by
  have hl := h.len
  rw [cI_len] at hl
  obtain ⟨b, o, hp, hb⟩ := h.base (by omega)
  rw [Ix_base hp (by omega) (by omega), Int.toNat_natCast, Nat.mul_one]
  refine h.write hp (by rw [cI_len]; exact hj) rfl ?_
  intro w' h1 h2
  refine k w' ?_ (by rw [hb]; exact h2)
  rw [cI, List.map_set]
  exact h1

theorem insertion_ok {w : World} {s : Sl} {l : List Int} (h : SlC w s 1 (cI l)) (hl : l.length ≤ 1000) :
    Cl Try.prog i_slices_insertionSortOrdered [.slice s.p s.len s.cap, .int .i64 0, .int .i64 (l.length : Int)] true [] (fun _ w' => ∃ l', l'.Perm l ∧ Ordd l' l.length ∧ SlC w' s 1 (cI l') ∧ Keeps (blk s) w w') w := by
  apply slices_insertionSortOrdered_call
  unfold slices_insertionSortOrdered
  rw [show w64 ((0 : Int) + 1) = ((1 : Nat) : Int) from rfl]
  refine ⟨fun m st w' => ∃ (i : Nat) (l' : List Int), st = ((i : Int), ()) ∧ m = l.length + 1 - i ∧ 1 ≤ i ∧ i ≤ l.length + 1 ∧ l'.Perm l ∧ Ordd l' i ∧ SlC w' s 1 (cI l') ∧ Keeps (blk s) w w', ⟨l.length, 1, l, rfl, by omega, by omega, by omega, List.Perm.refl _, fun p q x y h1 h2 => by omega, h, Keeps.refl _ _⟩, ?_⟩
  rintro _ _ w1 ⟨i, l1, rfl, rfl, hi1, hi2, hp1, ho1, hs1, hk1⟩
  dsimp only
  have hll : l1.length = l.length := hp1.length_eq
  by_cases hil : i < l.length
  · rw [decide_eq_true (by omega)]
    simp only [sx]
    refine ⟨fun m st w' => ∃ (j : Nat) (l' : List Int), st = ((j : Int), ()) ∧ m = j ∧ j ≤ i ∧ l'.Perm l ∧ Ord l' i j ∧ SlC w' s 1 (cI l') ∧ Keeps (blk s) w w', ⟨i, i, l1, rfl, rfl, by omega, hp1, fun p q x y h1 h2 h3 => ho1 p q x y h1 (by omega), hs1, hk1⟩, ?_⟩
    rintro j _ w2 ⟨_, l2, rfl, rfl, hj, hp2, ho2, hs2, hk2⟩
    dsimp only
    have hl2 : l2.length = l.length := hp2.length_eq
    obtain ⟨b, hb⟩ : ∃ b, l2[j]? = some b := ⟨_, List.getElem?_eq_getElem (by omega)⟩
    have done : (∀ a, 0 < j → l2[j - 1]? = some a → a ≤ b) → Ordd l2 (i + 1) := by
      intro ha p q x y hpq hqi hx hy
      by_cases hqj : q = j
      · subst hqj
        rw [hb] at hy
        cases hy
        obtain ⟨a, haa⟩ : ∃ a, l2[q - 1]? = some a := ⟨_, List.getElem?_eq_getElem (by omega)⟩
        have h1 := ha a (by omega) haa
        by_cases hpj : p = q - 1
        · subst hpj
          rw [haa] at hx
          cases hx
          exact h1
        · exact Int.le_trans (ho2 p (q - 1) x a (by omega) (by omega) (by omega) hx haa) h1
      · exact ho2 p q x y hpq (by omega) hqj hx hy
    have hkd : Keeps (blk s) w w2.drew := hk2.drew
    have hs2d : SlC w2.drew s 1 (cI l2) := hs2.keeps ((Keeps.refl [] w2).drew) (by simp)
    have hw1 : w64 ((i : Int) + 1) = ((i + 1 : Nat) : Int) := w64_nat (n := i + 1) (by omega)
    refine Jp_of (fun st w' => Keeps (blk s) w w' ∧ SlC w' s 1 (cI l2) ∧ ((st = (false, ()) ∧ ∀ a, 0 < j → l2[j - 1]? = some a → a ≤ b) ∨ ∃ a, st = (true, ()) ∧ 0 < j ∧ l2[j - 1]? = some a ∧ b < a)) ?_ ?_
    · intro J hJ
      simp only [sx]
      by_cases hj0 : 0 < j
      · rw [decide_eq_true (by omega)]
        simp only [sx]
        obtain ⟨a, ha⟩ : ∃ a, l2[j - 1]? = some a := ⟨_, List.getElem?_eq_getElem (by omega)⟩
        refine Ix_c hs2d hb ?_
        rw [show w64 ((j : Int) - 1) = ((j - 1 : Nat) : Int) from by rw [show (j : Int) - 1 = ((j - 1 : Nat) : Int) from by omega]; exact w64_nat (by omega)]
        refine Ix_c hs2d ha ?_
        refine Cl.mono (Less_ok b a) ?_
        rintro r _ ⟨rfl, hr⟩
        refine hJ _ _ ⟨hkd, hs2d, ?_⟩
        rw [hr]
        by_cases hlt : b < a
        · rw [decide_eq_true hlt]; exact .inr ⟨a, rfl, hj0, ha, hlt⟩
        · rw [decide_eq_false hlt]
          refine .inl ⟨rfl, fun a' _ ha' => ?_⟩
          rw [ha] at ha'
          cases ha'
          omega
      · rw [decide_eq_false (by omega)]
        simp only [sx]
        exact hJ _ _ ⟨hkd, hs2d, .inl ⟨rfl, fun a h => absurd h hj0⟩⟩
    rintro st w3 ⟨hk3, hs3, ⟨rfl, hle⟩ | ⟨a, rfl, hj0, ha, hlt⟩⟩
    · simp only [sx]
      exact ⟨l.length + 1 - (i + 1), by omega, i + 1, l2, by rw [hw1], rfl, by omega, by omega, hp2, done hle, hs3, hk3⟩
    · simp only [sx]
      have hs3d : SlC w3.drew s 1 (cI l2) := hs3.keeps ((Keeps.refl [] w3).drew) (by simp)
      rw [show w64 ((j : Int) - 1) = ((j - 1 : Nat) : Int) from by rw [show (j : Int) - 1 = ((j - 1 : Nat) : Int) from by omega]; exact w64_nat (by omega)]
      refine Ix_c hs3d ha ?_
      refine Ix_c hs3d hb ?_
      refine Ix_s hs3d (by omega) a ?_
      intro w4 hs4 hk4
      refine Ix_s hs4 (by simp; omega) b ?_
      intro w5 hs5 hk5
      have hp5 : ((l2.set j a).set (j - 1) b).Perm l2 := by
        have := swap_perm l2 (j - 1) a b ha (by rw [show j - 1 + 1 = j from by omega]; exact hb)
        rwa [show j - 1 + 1 = j from by omega] at this
      refine ⟨j - 1, by omega, j - 1, _, rfl, rfl, by omega, hp5.trans hp2, ?_, hs5, (hk3.drew.trans hk4 (fun x hx => .inl hx)).trans hk5 (fun x hx => .inl hx)⟩
      intro p q x y hpq hqi hqj hx hy
      have get : ∀ (k : Nat) (z : Int), ((l2.set j a).set (j - 1) b)[k]? = some z → (k = j ∧ z = a) ∨ (k = j - 1 ∧ z = b) ∨ (k ≠ j ∧ k ≠ j - 1 ∧ l2[k]? = some z) := by
        intro k z hz
        by_cases h1 : j - 1 = k
        · subst h1
          rw [List.getElem?_set_self (by simp; omega)] at hz
          cases hz
          exact .inr (.inl ⟨rfl, rfl⟩)
        · rw [List.getElem?_set_ne h1] at hz
          by_cases h2 : j = k
          · subst h2
            rw [List.getElem?_set_self (by omega)] at hz
            cases hz
            exact .inl ⟨rfl, rfl⟩
          · rw [List.getElem?_set_ne h2] at hz
            exact .inr (.inr ⟨fun e => h2 e.symm, fun e => h1 e.symm, hz⟩)
      rcases get p x hx with ⟨g1, g2⟩ | ⟨g1, g2⟩ | ⟨g1, g2, g3⟩
      · rcases get q y hy with ⟨k1, k2⟩ | ⟨k1, k2⟩ | ⟨k1, k2, k3⟩
        · omega
        · exact absurd k1 hqj
        · subst g2; exact ho2 (j - 1) q x y (by omega) hqi k1 ha k3
      · rcases get q y hy with ⟨k1, k2⟩ | ⟨k1, k2⟩ | ⟨k1, k2, k3⟩
        · omega
        · exact absurd k1 hqj
        · subst g2; exact ho2 j q x y (by omega) hqi k1 hb k3
      · rcases get q y hy with ⟨k1, k2⟩ | ⟨k1, k2⟩ | ⟨k1, k2, k3⟩
        · subst k2; exact ho2 p (j - 1) x y (by omega) (by omega) (by omega) g3 ha
        · exact absurd k1 hqj
        · exact ho2 p q x y hpq hqi k1 g3 k3
  · rw [decide_eq_false (by omega)]
    exact ⟨l1, hp1, fun p q x y h1 h2 => ho1 p q x y h1 (by omega), hs1, hk1⟩

theorem Sort_small {w : World} {s : Sl} {l : List Int} (h : SlC w s 1 (cI l)) (hl : l.length ≤ 12) :
    Cl Try.prog i_slices_Sort [.slice s.p s.len s.cap] true [] (fun _ w' => ∃ l', l'.Perm l ∧ Ordd l' l.length ∧ SlC w' s 1 (cI l') ∧ Keeps (blk s) w w') w := by
  have hsl : s.len = l.length := by have := h.len; rw [cI_len] at this; omega
  apply slices_Sort_call
  unfold slices_Sort
  rw [show IntKind.u64.wrap ((s.len : Nat) : Int) = ((l.length : Nat) : Int) from by rw [hsl]; exact wrap_u64_nat (by omega)]
  refine Cl.mono (Len_small (x := l.length) (by omega)) ?_
  rintro r _ rfl
  refine Cl.mono (K := fun (_ : TR []) w' => ∃ l', l'.Perm l ∧ Ordd l' l.length ∧ SlC w' s 1 (cI l') ∧ Keeps (blk s) w w') ?_ (fun _ _ h => h)
  apply slices_pdqsortOrdered_call
  unfold slices_pdqsortOrdered
  refine ⟨fun m st w' => w = w' ∧ st = (0, (s.len : Int), r.1, true, true, ()), ⟨0, rfl, rfl⟩, ?_⟩
  rintro m _ _ ⟨rfl, rfl⟩
  dsimp only
  rw [Int.sub_zero, w64_nat (n := s.len) (by omega), decide_eq_true (by omega), hsl]
  simp only [sx]
  rw [← hsl]
  have := insertion_ok h (by omega)
  rw [← hsl] at this
  exact this

/-- Two lists in order, of the same numbers, none twice, are one. -/
theorem ord_one : ∀ {l m : List Int}, l.Perm m → Ordd l l.length → Ordd m m.length → l = m
  | [], m, h, _, _ => (List.nil_perm.1 h).symm
  | x :: l, [], h, _, _ => by have := h.length_eq; simp at this
  | x :: l, y :: m, h, h1, h2 => by
    have hx : ∀ z ∈ x :: l, x ≤ z := by
      intro z hz
      rcases List.mem_cons.1 hz with rfl | hz
      · exact Int.le_refl _
      · obtain ⟨j, hj⟩ := List.mem_iff_getElem?.1 hz
        have hjl := (List.getElem?_eq_some_iff.1 hj).1
        exact h1 0 (j + 1) x z (by omega) (by simp; omega) rfl (by simpa using hj)
    have hy : ∀ z ∈ y :: m, y ≤ z := by
      intro z hz
      rcases List.mem_cons.1 hz with rfl | hz
      · exact Int.le_refl _
      · obtain ⟨j, hj⟩ := List.mem_iff_getElem?.1 hz
        have hjl := (List.getElem?_eq_some_iff.1 hj).1
        exact h2 0 (j + 1) y z (by omega) (by simp; omega) rfl (by simpa using hj)
    have e : x = y := Int.le_antisymm (hx y (h.symm.subset List.mem_cons_self)) (hy x (h.subset List.mem_cons_self))
    subst e
    rw [ord_one (List.Perm.cons_inv h) (fun p q a b hpq hq ha hb => h1 (p + 1) (q + 1) a b (by omega) (by simp; omega) (by simpa using ha) (by simpa using hb)) (fun p q a b hpq hq ha hb => h2 (p + 1) (q + 1) a b (by omega) (by simp; omega) (by simpa using ha) (by simpa using hb))]

end Go.Proofs.Ytelojafogbmbcaa
