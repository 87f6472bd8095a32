/-
  Words of 64 bits and bytes as natural numbers.
-/
import Derived.Test.YtmppjgddemlmdaaSxT
set_option linter.unusedSimpArgs false
set_option linter.unusedVariables false
namespace Go.Sx
open Go

theorem wrap_u64_nat {n : Nat} (h : n < 2 ^ 64) : IntKind.u64.wrap (n : Int) = n := by
  simp [IntKind.wrap, IntKind.bits, IntKind.signed]; omega
theorem wrap_u8_nat (n : Nat) : IntKind.u8.wrap (n : Int) = ((n % 256 : Nat) : Int) := by
  simp [IntKind.wrap, IntKind.bits, IntKind.signed]
theorem w64_nat {n : Nat} (h : n < 2 ^ 63) : w64 (n : Int) = n := by
  simp only [w64]; exact IntWalk.i64_in _ (by omega)
theorem w64_in {n : Int} (h1 : -9223372036854775808 ≤ n) (h2 : n ≤ 9223372036854775807) : w64 n = n := by
  simp only [w64]; exact IntWalk.i64_in _ (by omega)

theorem iand_u64 {a b : Nat} (ha : a < 2 ^ 64) (hb : b < 2 ^ 64) : iand .u64 (a : Int) (b : Int) = ((a &&& b : Nat) : Int) := by
  have hab : a &&& b < 2 ^ 64 := Nat.lt_of_le_of_lt Nat.and_le_left ha
  have e : ((BitVec.ofInt 64 (a : Int)) &&& (BitVec.ofInt 64 (b : Int))).toNat = a &&& b := by
    simp only [BitVec.ofInt_natCast, BitVec.toNat_and, BitVec.toNat_ofNat, Nat.mod_eq_of_lt ha, Nat.mod_eq_of_lt hb]
  show IntKind.u64.wrap ((((BitVec.ofInt 64 (a : Int)) &&& (BitVec.ofInt 64 (b : Int))).toNat : Nat) : Int) = _
  rw [e]
  exact wrap_u64_nat hab
theorem ior_u64 {a b : Nat} (ha : a < 2 ^ 64) (hb : b < 2 ^ 64) : ior .u64 (a : Int) (b : Int) = ((a ||| b : Nat) : Int) := by
  have hab : a ||| b < 2 ^ 64 := Nat.or_lt_two_pow ha hb
  have e : ((BitVec.ofInt 64 (a : Int)) ||| (BitVec.ofInt 64 (b : Int))).toNat = a ||| b := by
    simp only [BitVec.ofInt_natCast, BitVec.toNat_or, BitVec.toNat_ofNat, Nat.mod_eq_of_lt ha, Nat.mod_eq_of_lt hb]
  show IntKind.u64.wrap ((((BitVec.ofInt 64 (a : Int)) ||| (BitVec.ofInt 64 (b : Int))).toNat : Nat) : Int) = _
  rw [e]
  exact wrap_u64_nat hab
theorem ixor_u64 {a b : Nat} (ha : a < 2 ^ 64) (hb : b < 2 ^ 64) : ixor .u64 (a : Int) (b : Int) = ((a ^^^ b : Nat) : Int) := by
  have hab : a ^^^ b < 2 ^ 64 := Nat.xor_lt_two_pow ha hb
  have e : ((BitVec.ofInt 64 (a : Int)) ^^^ (BitVec.ofInt 64 (b : Int))).toNat = a ^^^ b := by
    simp only [BitVec.ofInt_natCast, BitVec.toNat_xor, BitVec.toNat_ofNat, Nat.mod_eq_of_lt ha, Nat.mod_eq_of_lt hb]
  show IntKind.u64.wrap ((((BitVec.ofInt 64 (a : Int)) ^^^ (BitVec.ofInt 64 (b : Int))).toNat : Nat) : Int) = _
  rw [e]
  exact wrap_u64_nat hab
theorem iand_i64 {a b : Nat} (ha : a < 2 ^ 63) (hb : b < 2 ^ 63) : iand .i64 (a : Int) (b : Int) = ((a &&& b : Nat) : Int) := by
  have hab : a &&& b < 2 ^ 63 := Nat.lt_of_le_of_lt Nat.and_le_left ha
  have ha' : a < 2 ^ 64 := by omega
  have hb' : b < 2 ^ 64 := by omega
  have e : ((BitVec.ofInt 64 (a : Int)) &&& (BitVec.ofInt 64 (b : Int))).toNat = a &&& b := by
    simp only [BitVec.ofInt_natCast, BitVec.toNat_and, BitVec.toNat_ofNat, Nat.mod_eq_of_lt ha', Nat.mod_eq_of_lt hb']
  show IntKind.i64.wrap ((((BitVec.ofInt 64 (a : Int)) &&& (BitVec.ofInt 64 (b : Int))).toNat : Nat) : Int) = _
  rw [e]
  generalize a &&& b = u at hab
  exact IntWalk.i64_in _ (by omega)
theorem ishr_nat (k : IntKind) (a s : Nat) (hs : s ≤ k.bits) : ishr k (a : Int) (s : Int) = ((a >>> s : Nat) : Int) := by
  simp only [ishr, Int.toNat_natCast, Nat.min_eq_left hs, Nat.shiftRight_eq_div_pow]
  rw [show ((2 : Int) ^ s) = ((2 ^ s : Nat) : Int) from by simp, Int.fdiv_eq_ediv_of_nonneg _ (Int.natCast_nonneg _)]
  rfl
theorem ishl_u64 (a s : Nat) (hs : s ≤ 64) : ishl .u64 (a : Int) (s : Int) = ((a <<< s % 2 ^ 64 : Nat) : Int) := by
  simp only [ishl, Int.toNat_natCast, IntKind.bits, Nat.min_eq_left hs, Nat.shiftLeft_eq]
  rw [show ((2 : Int) ^ s) = ((2 ^ s : Nat) : Int) from by simp, ← Int.natCast_mul]
  simp only [IntKind.wrap, IntKind.bits, IntKind.signed]
  simp

/-- math/bits.OnesCount64's own reckoning, on integers. -/
theorem ones64 {x : Nat} (hx : x < 2 ^ 64) : ∀ y, y = Pop.step 1 6148914691236517205 x → ∀ z, z = Pop.step 2 3689348814741910323 y → ∀ a, a = Pop.fold4 1085102592571150095 z → ∀ b, b = a + a / 2 ^ 8 → ∀ c, c = b + b / 2 ^ 16 →
    IntKind.u64.wrap (iand .u64 (ishr .u64 (x : Int) 1) 6148914691236517205 + iand .u64 (x : Int) 6148914691236517205) = (y : Int) ∧
    IntKind.u64.wrap (iand .u64 (ishr .u64 (y : Int) 2) 3689348814741910323 + iand .u64 (y : Int) 3689348814741910323) = (z : Int) ∧
    iand .u64 (IntKind.u64.wrap (ishr .u64 (z : Int) 4 + (z : Int))) 1085102592571150095 = (a : Int) ∧
    IntKind.u64.wrap ((a : Int) + ishr .u64 (a : Int) 8) = (b : Int) ∧ IntKind.u64.wrap ((b : Int) + ishr .u64 (b : Int) 16) = (c : Int) ∧
    iand .i64 (w64 (IntKind.u64.wrap ((c : Int) + ishr .u64 (c : Int) 32))) 127 = (Pop.popc 64 x : Int) := by
  intro y hy z hz a ha b hb c hc
  obtain ⟨g1, g2, g3, g4, g5, g6⟩ := Pop.pop64 hx y hy z hz a ha b hb c hc
  have hsh : ∀ (u s : Nat), u < 2 ^ 64 → u >>> s < 2 ^ 64 := fun u s h => Nat.lt_of_le_of_lt (Nat.shiftRight_le _ _) h
  have c1 : (6148914691236517205 : Int) = ((6148914691236517205 : Nat) : Int) := rfl
  have c2 : (3689348814741910323 : Int) = ((3689348814741910323 : Nat) : Int) := rfl
  have c3 : (1085102592571150095 : Int) = ((1085102592571150095 : Nat) : Int) := rfl
  have d1 := ishr_nat .u64 x 1 (by decide)
  have d2 := ishr_nat .u64 y 2 (by decide)
  have d4 := ishr_nat .u64 z 4 (by decide)
  have d8 := ishr_nat .u64 a 8 (by decide)
  have d16 := ishr_nat .u64 b 16 (by decide)
  have d32 := ishr_nat .u64 c 32 (by decide)
  refine ⟨?_, ?_, ?_, ?_, ?_, ?_⟩
  · rw [c1, show (1 : Int) = ((1 : Nat) : Int) from rfl, d1, iand_u64 (hsh _ _ hx) (by decide), iand_u64 hx (by decide), ← Int.natCast_add, hy]
    exact wrap_u64_nat (by rw [hy] at g2; exact g2)
  · rw [c2, show (2 : Int) = ((2 : Nat) : Int) from rfl, d2, iand_u64 (hsh _ _ g2) (by decide), iand_u64 g2 (by decide), ← Int.natCast_add, hz]
    exact wrap_u64_nat (by rw [hz] at g3; exact g3)
  · rw [c3, show (4 : Int) = ((4 : Nat) : Int) from rfl, d4, ← Int.natCast_add, wrap_u64_nat g5, iand_u64 g5 (by decide), ha]
    rfl
  · rw [show (8 : Int) = ((8 : Nat) : Int) from rfl, d8, ← Int.natCast_add, Nat.shiftRight_eq_div_pow, ← hb]
    exact wrap_u64_nat (by omega)
  · rw [show (16 : Int) = ((16 : Nat) : Int) from rfl, d16, ← Int.natCast_add, Nat.shiftRight_eq_div_pow, ← hc]
    exact wrap_u64_nat (by omega)
  · rw [show (32 : Int) = ((32 : Nat) : Int) from rfl, d32, ← Int.natCast_add, Nat.shiftRight_eq_div_pow, wrap_u64_nat (Nat.lt_trans g6 (by decide)), w64_nat g6, show (127 : Int) = ((127 : Nat) : Int) from rfl, iand_i64 g6 (by decide), show (127 : Nat) = 2 ^ 7 - 1 from rfl, Nat.and_two_pow_sub_one_eq_mod, show (2 : Nat) ^ 7 = 128 from rfl, g1]

theorem tdiv_nat (j c : Nat) : (j : Int).tdiv (c : Int) = ((j / c : Nat) : Int) := by
  rw [Int.tdiv_eq_ediv_of_nonneg (Int.natCast_nonneg _)]; rfl
theorem tmod_nat (j c : Nat) : (j : Int).tmod (c : Int) = ((j % c : Nat) : Int) := by
  rw [Int.tmod_eq_emod_of_nonneg (Int.natCast_nonneg _)]; rfl
theorem tdiv64 (j : Nat) : (j : Int).tdiv 64 = ((j / 64 : Nat) : Int) := tdiv_nat j 64
theorem tmod64 (j : Nat) : (j : Int).tmod 64 = ((j % 64 : Nat) : Int) := tmod_nat j 64
theorem tdiv8 (j : Nat) : (j : Int).tdiv 8 = ((j / 8 : Nat) : Int) := tdiv_nat j 8
theorem tmod8 (j : Nat) : (j : Int).tmod 8 = ((j % 8 : Nat) : Int) := tmod_nat j 8

theorem Ix_row {s : Sl} {cs : List Value} {size : Nat} {w : World} (h : RdC s.p (s.len * size) cs w) (h0 : 0 < size) {k : Nat} (hk : k < s.len) {K : Addr → Pr}
    (kk : ∀ a : Addr, (∀ j v, j < size → cs[k * size + j]? = some v → w.cell? (a.add j) = some v) → K a w) : Ix s (k : Int) size K w := by
  have hm : (k + 1) * size ≤ s.len * size := Nat.mul_le_mul_right _ hk
  rw [Nat.succ_mul] at hm
  have hl := h.1
  obtain ⟨a, ha, _⟩ := h.2 (k * size) _ (List.getElem?_eq_getElem (by omega))
  unfold Ix
  rw [ha]
  refine ⟨by omega, by omega, kk _ fun j v hj hv => ?_⟩
  obtain ⟨a', ha', hc⟩ := h.2 _ v hv
  rw [ha] at ha'
  cases ha'
  rw [Int.toNat_natCast, show (a.add (k * size)).add j = a.add (k * size + j) from by unfold Addr.add; split <;> split <;> split <;> simp_all <;> omega]
  exact hc


end Go.Sx
