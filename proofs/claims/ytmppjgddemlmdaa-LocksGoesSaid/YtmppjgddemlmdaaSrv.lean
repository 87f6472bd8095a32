/- slices.Sort of a slice of uint64: the pivot, the patterns, the whole. Conditions: none. -/
import Derived.Test.YtmppjgddemlmdaaSru
set_option linter.unusedVariables false
set_option linter.unusedSimpArgs false
namespace Go.Proofs.Ytmppjgddemlmdaa
open Go Go.Sx

theorem wrapu (z : Int) : ∃ n : Nat, IntKind.u64.wrap z = (n : Int) ∧ n < 18446744073709551616 := by
  refine ⟨(z % 18446744073709551616).toNat, ?_, ?_⟩
  · simp [IntKind.wrap, IntKind.signed, IntKind.bits]
    omega
  · omega

/-! ### bits.Len, the power of two -/
def tabB (s : ByteArray) : Bool := (List.range 256).all fun i => match s[i]? with
  | some b => decide (b.toNat ≤ 8) && (decide (i = 0) || decide (2 ^ b.toNat ≤ 2 * i))
  | none => false
theorem IxS_tab {w : World} {s : ByteArray} (h : tabB s = true) {i : Nat} (hi : i < 256) {K : Int → Pr} (k : ∀ b : Nat, b ≤ 8 → (1 ≤ i → 2 ^ b ≤ 2 * i) → K (b : Int) w) : IxS s (i : Int) K w := by
  have := (List.all_eq_true.1 h) i (List.mem_range.2 hi)
  refine ⟨by omega, ?_⟩
  rw [Int.toNat_natCast]
  split at this
  · rename_i b hb
    simp only [Bool.and_eq_true, Bool.or_eq_true, decide_eq_true_eq] at this
    exact ⟨b, hb, k b.toNat this.1 (fun h1 => by rcases this.2 with h' | h'; omega; exact h')⟩
  · cases this

set_option maxRecDepth 10000 in
theorem Len_ok {w : World} {x : Nat} (hx : x < 65536) : Cl Try.prog i_math_bits_Len [.int .u64 (x : Int)] false [.sc (.i .i64)] (fun r w' => ∃ n : Nat, r.1 = (n : Int) ∧ n ≤ 16 ∧ (1 ≤ x → 2 ^ n ≤ 2 * x) ∧ w = w') w := by
  refine Cl_gen fun R hR => ?_
  apply math_bits_Len_call
  unfold math_bits_Len
  refine Cl.mono (K := fun (r : TR [.sc (.i .i64)]) w' => ∃ n : Nat, r.1 = (n : Int) ∧ n ≤ 16 ∧ (1 ≤ x → 2 ^ n ≤ 2 * x) ∧ w = w') ?_ (fun r w' h => hR _ _ h)
  refine Cl_gen fun R' hR' => ?_
  apply math_bits_Len64_call
  unfold math_bits_Len64
  refine Jp_of (fun st w' => st = ((x : Int), 0, ()) ∧ w = w') (fun J hJ => ?_) ?_
  · rw [decide_eq_false (by omega)]
    exact hJ _ _ ⟨rfl, rfl⟩
  rintro _ _ ⟨rfl, rfl⟩
  refine Jp_of (fun st w' => st = ((x : Int), 0, ()) ∧ w = w') (fun J hJ => ?_) ?_
  · dsimp only
    rw [decide_eq_false (by omega)]
    exact hJ _ _ ⟨rfl, rfl⟩
  rintro _ _ ⟨rfl, rfl⟩
  refine Jp_of (fun st w' => ∃ y m : Nat, st = ((y : Int), (m : Int), ()) ∧ w = w' ∧ y < 256 ∧ m ≤ 8 ∧ (1 ≤ x → 1 ≤ y ∧ 2 ^ m * y ≤ x)) (fun J hJ => ?_) ?_
  · dsimp only
    by_cases h : x ≥ 256
    · rw [decide_eq_true (by omega)]
      simp only [Br]
      refine ⟨by decide, ?_⟩
      rw [show ishr .u64 (x : Int) 8 = ((x >>> 8 : Nat) : Int) from ishr_nat .u64 x 8 (by decide)]
      rw [Nat.shiftRight_eq_div_pow]
      exact hJ _ _ ⟨x / 2 ^ 8, 8, by rw [w64_in (by omega) (by omega)]; rfl, rfl, by omega, by omega, fun _ => ⟨by omega, by omega⟩⟩
    · rw [decide_eq_false (by omega)]
      exact hJ _ _ ⟨x, 0, rfl, rfl, by omega, by omega, fun h => ⟨h, by omega⟩⟩
  · rintro _ _ ⟨y, m, rfl, rfl, hy, hm, hxy⟩
    dsimp only
    rw [wrap_u8_nat, Nat.mod_eq_of_lt hy]
    refine IxS_tab (by kernel_rfl) hy ?_
    intro b hb hpb
    rw [w64_in (n := (b : Int)) (by omega) (by omega), w64a rfl rfl (by omega)]
    refine hR' _ _ ⟨m + b, rfl, by omega, fun h => ?_, rfl⟩
    obtain ⟨h1, h2⟩ := hxy h
    have h3 := hpb h1
    rw [Nat.pow_add]
    calc 2 ^ m * 2 ^ b ≤ 2 ^ m * (2 * y) := Nat.mul_le_mul_left _ h3
      _ = 2 * (2 ^ m * y) := by rw [Nat.mul_left_comm]
      _ ≤ 2 * x := Nat.mul_le_mul_left _ h2

theorem Pow_ok {w : World} {x : Nat} (hx : x < 65536) (h0 : 1 ≤ x) : Cl Try.prog i_slices_nextPowerOfTwo [.int .i64 (x : Int)] false [.sc (.i .u64)] (fun r w' => ∃ n : Nat, r.1 = (n : Int) ∧ 1 ≤ n ∧ n ≤ 2 * x ∧ w = w') w := by
  refine Cl_gen fun R hR => ?_
  apply slices_nextPowerOfTwo_call
  unfold slices_nextPowerOfTwo
  rw [wrap_u64_nat (by omega)]
  refine Cl.mono (Len_ok hx) ?_
  rintro ⟨r, _⟩ _ ⟨n, hr, hn, hp, rfl⟩
  simp only at hr
  subst hr
  refine ⟨by omega, ?_⟩
  rw [show ishl .u64 (1 : Int) (n : Int) = ((1 <<< n % 2 ^ 64 : Nat) : Int) from ishl_u64 1 n (by omega)]
  rw [Nat.shiftLeft_eq, Nat.one_mul]
  have h2 : 2 ^ n ≤ 2 ^ 16 := Nat.pow_le_pow_right (by omega) hn
  have h3 : 1 ≤ 2 ^ n := Nat.one_le_two_pow
  rw [Nat.mod_eq_of_lt (by omega)]
  exact hR _ _ ⟨2 ^ n, rfl, h3, hp h0, rfl⟩

/-- 'random.Next()': some number. -/
theorem Next_ok {w : World} {c : Nat} {t : TypeId} {x : Int} (h : w.heap[c]? = some (.cells #[.int .u64 x] t (0, 0))) :
    Cl Try.prog i_slices_xorshift_Next [.pointer (some ⟨c, 0, none⟩)] false [.sc (.i .u64)] (fun r w' => (∃ n : Nat, r.1 = (n : Int) ∧ n < 18446744073709551616) ∧ (∃ y : Int, w'.heap[c]? = some (.cells #[.int .u64 y] t (0, 0))) ∧ Keeps [c] w w') w := by
  refine Cl_gen fun R hR => ?_
  apply slices_xorshift_Next_call
  unfold slices_xorshift_Next
  simp only [Dr, Nn]
  have k0 : Keeps [c] w w.drew := (Keeps.refl _ _).drew
  refine LdI_of (i := 0) (w := w.drew) h rfl ?_
  refine LdI_of (i := 0) (w := w.drew) h rfl ?_
  refine ⟨by decide, ?_⟩
  refine set_box (w := w.drew) h 0 _ rfl (by simp) ?_
  intro w1 h1 k1
  have k1d : Keeps [c] w w1.drew := (k0.trans k1 (by simp)).drew
  refine LdI_of (i := 0) (w := w1.drew) h1 rfl ?_
  refine LdI_of (i := 0) (w := w1.drew) h1 rfl ?_
  refine ⟨by decide, ?_⟩
  refine set_box (w := w1.drew) h1 0 _ rfl (by simp) ?_
  intro w2 h2 k2
  have k2d : Keeps [c] w w2.drew := (k1d.trans k2 (by simp)).drew
  refine LdI_of (i := 0) (w := w2.drew) h2 rfl ?_
  refine LdI_of (i := 0) (w := w2.drew) h2 rfl ?_
  refine ⟨by decide, ?_⟩
  refine set_box (w := w2.drew) h2 0 _ rfl (by simp) ?_
  intro w3 h3 k3
  refine LdI_of (i := 0) h3 rfl ?_
  refine hR _ _ ⟨?_, ⟨_, h3⟩, k2d.trans k3 (by simp)⟩
  obtain ⟨n, hn, hl⟩ := wrapu (((BitVec.ofInt IntKind.u64.bits _) ^^^ (BitVec.ofInt IntKind.u64.bits _)).toNat : Int)
  exact ⟨n, hn, hl⟩

theorem breakPatterns_ok {w : World} {s : Sl} {d : Array Int} (h : Rw w s d) {a b : Nat} (hb : b ≤ d.size) (hN : d.size ≤ 65000) (hab : a + 12 < b) :
    Cl Try.prog i_slices_breakPatternsOrdered [.slice s.p s.len s.cap, .int .i64 (a : Int), .int .i64 (b : Int)] true [] (fun _ w' => ∃ d', Sort.PermIn a b d d' ∧ Rw w' s d' ∧ Keeps (blk s) w w') w := by
  refine Cl_gen fun R hR => ?_
  apply slices_breakPatternsOrdered_call
  unfold slices_breakPatternsOrdered
  rw [w64s rfl rfl (by omega) (by omega), decide_eq_true (by omega)]
  simp only [Br, New]
  generalize hc : w.heap.size = c
  generalize hw1 : w.alloc _ = w1
  have h1 : w1.heap[c]? = some (.cells #[.int .u64 0] 114 (0, 0)) := by rw [← hw1, ← hc]; exact hp_alloc_new w _
  have k1 : Keeps [] w w1 := by rw [← hw1]; exact (Keeps.refl _ _).alloc _
  have hcs : c ∉ blk s := fun hh => by have := SlC.lt h c hh; omega
  refine set_box h1 0 _ rfl (by simp) ?_
  intro w2 h2 k2
  have k02 : Keeps [] w w2 := k1.trans k2 (by simp; omega)
  have hd2 : Rw w2 s d := SlC.keeps h k02 (by simp)
  refine Cl.mono (Pow_ok (x := b - a) (by omega) (by omega)) ?_
  rintro ⟨m, _⟩ _ ⟨m, hm, hm1, hm2, rfl⟩
  simp only at hm
  subst hm
  refine ⟨by decide, ?_⟩
  rw [show ((b - a : Nat) : Int).tdiv 4 = (((b - a) / 4 : Nat) : Int) from tdiv_nat _ 4]
  rw [w64_nat (n := (b - a) / 4) (by omega)]
  rw [show w64 ((((b - a) / 4 : Nat) : Int) * 2) = (((b - a) / 4 * 2 : Nat) : Int) from by rw [w64_in (by omega) (by omega)]; omega]
  rw [w64a rfl rfl (by omega), w64m (by omega) (by omega), w64p (by omega)]
  generalize hq : (b - a) / 4 * 2 = q
  have hqa : q ≥ 6 := by omega
  have hqb : a + q + 1 < b := by omega
  have hwm : IntKind.u64.wrap ((m : Int) - 1) = ((m - 1 : Nat) : Int) := by
    rw [show (m : Int) - 1 = ((m - 1 : Nat) : Int) from by omega]
    exact wrap_u64_nat (by omega)
  rw [hwm]
  have k02' : Keeps (c :: blk s) w w2 := k02.mono (by simp)
  refine ⟨fun n st w' => ∃ (i : Nat) (d' : Array Int), st = ((i : Int), ()) ∧ n = a + q + 2 - i ∧ a + q - 1 ≤ i ∧ i ≤ a + q + 2 ∧ Sort.PermIn a b d d' ∧ Rw w' s d' ∧ (∃ y : Int, w'.heap[c]? = some (.cells #[.int .u64 y] 114 (0, 0))) ∧ Keeps (c :: blk s) w w', ⟨_, a + q - 1, d, rfl, rfl, Nat.le_refl _, by omega, Sort.permIn_refl _ _ _, hd2, ⟨_, by simpa using h2⟩, k02'⟩, ?_⟩
  rintro _ _ w3 ⟨i, d1, rfl, rfl, hi1, hi2, hp1, hd3, ⟨y, hy⟩, hk3⟩
  dsimp only
  have hz1 : d1.size = d.size := hp1.1
  refine ⟨by decide, ?_⟩
  by_cases hi : i ≤ a + q + 1
  · rw [decide_eq_true (by omega)]
    simp only [Br]
    refine Cl.mono (Next_ok hy) ?_
    rintro ⟨r, _⟩ w4 ⟨⟨r, hr, hrl⟩, hy4, hk4⟩
    simp only at hr
    subst hr
    have hd4 : Rw w4 s d1 := SlC.keeps hd3 hk4 (fun x hx => by simp; rintro rfl; exact hcs hx)
    have hk04 : Keeps (c :: blk s) w w4 := hk3.trans hk4 (by simp)
    rw [iand_u64 (by omega) (by omega)]
    have hand : r &&& (m - 1) ≤ m - 1 := Nat.and_le_right
    rw [w64_nat (by omega)]
    refine Jp_of (fun st w' => ∃ o : Nat, st = ((o : Int), ()) ∧ o < b - a ∧ w4 = w') ?_ ?_
    · intro J hJ
      by_cases ho : (r &&& (m - 1)) ≥ b - a
      · rw [decide_eq_true (by omega)]
        refine hJ _ _ ⟨_, by rw [w64s rfl rfl (by omega) (by omega)], by omega, rfl⟩
      · rw [decide_eq_false (by omega)]
        exact hJ _ _ ⟨_, rfl, by omega, rfl⟩
    · rintro _ _ ⟨o, rfl, ho, rfl⟩
      rw [w64a rfl rfl (by omega)]
      refine Rw.sw hd4 rfl rfl (by omega) (by omega) ?_
      intro w5 hd5 hk5
      refine ⟨a + q + 2 - (i + 1), by omega, i + 1, _, by rw [w64p (by omega)], rfl, by omega, by omega, Sort.permIn_trans _ _ _ _ _ hp1 (Sort.swp_permIn _ _ _ _ _ (by omega) (by omega) (by omega) (by omega) (by omega)), hd5, ?_, hk04.trans hk5 (fun x hx => .inl (by simp [hx]))⟩
      obtain ⟨y4, hy4⟩ := hy4
      exact ⟨y4, hk5.at hy4 hcs⟩
  · rw [decide_eq_false (by omega)]
    refine hR _ _ ⟨d1, hp1, hd3, hk3.mono (fun x hx => ?_)⟩
    rcases List.mem_cons.1 hx with rfl | hx
    · right; omega
    · exact .inl hx

/-! ### the pivot -/
/-- The count of swaps: some number, in a variable of its own. -/
def Cnt (w : World) (c : Nat) : Prop := ∃ y : Int, w.heap[c]? = some (.cells #[.int .i64 y] 3 (0, 0))

theorem order2_ok {w : World} {s : Sl} {d : Array Int} (h : Rw w s d) {c : Nat} (hc : Cnt w c) (hcs : c ∉ blk s) {a b : Nat} (ha : a < d.size) (hb : b < d.size) :
    Cl Try.prog i_slices_order2Ordered [.slice s.p s.len s.cap, .int .i64 (a : Int), .int .i64 (b : Int), .pointer (some ⟨c, 0, none⟩)] true [.sc (.i .i64), .sc (.i .i64)]
      (fun r w' => (r = ((a : Int), (b : Int), ()) ∨ r = ((b : Int), (a : Int), ())) ∧ Cnt w' c ∧ Rw w' s d ∧ Keeps [c] w w') w := by
  refine Cl_gen fun R hR => ?_
  apply slices_order2Ordered_call
  unfold slices_order2Ordered
  obtain ⟨y, hy⟩ := hc
  simp only [Dr]
  have k0 : Keeps [c] w w.drew := (Keeps.refl _ _).drew
  refine Rw.rd (w := w.drew) h.dr rfl hb ?_
  refine Rw.rd (w := w.drew) h.dr rfl ha ?_
  refine Cl.mono (Less_ok _ _) ?_
  rintro ⟨r, _⟩ _ ⟨rfl, hr⟩
  simp only at hr
  cases hl : lt d[b]! d[a]! with
  | false =>
    rw [hl] at hr
    subst hr
    exact hR _ _ ⟨.inl rfl, ⟨y, hy⟩, h.dr, k0⟩
  | true =>
    rw [hl] at hr
    subst hr
    simp only [Br, Nn]
    refine LdI_of (i := 0) (w := w.drew) hy rfl ?_
    refine set_box (w := w.drew) hy 0 _ rfl (by simp) ?_
    intro w1 h1 k1
    have k01 : Keeps [c] w w1 := k0.trans k1 (by simp)
    exact hR _ _ ⟨.inr rfl, ⟨_, h1⟩, SlC.keeps h k01 (fun x hx => by simp; rintro rfl; exact hcs hx), k01⟩

theorem median_ok {w : World} {s : Sl} {d : Array Int} (h : Rw w s d) {c : Nat} (hc : Cnt w c) (hcs : c ∉ blk s) {i j k : Nat} (hi : i < d.size) (hj : j < d.size) (hk : k < d.size) :
    Cl Try.prog i_slices_medianOrdered [.slice s.p s.len s.cap, .int .i64 (i : Int), .int .i64 (j : Int), .int .i64 (k : Int), .pointer (some ⟨c, 0, none⟩)] false [.sc (.i .i64)]
      (fun r w' => (∃ p : Nat, r.1 = (p : Int) ∧ (p = i ∨ p = j ∨ p = k)) ∧ Cnt w' c ∧ Rw w' s d ∧ Keeps [c] w w') w := by
  refine Cl_gen fun R hR => ?_
  apply slices_medianOrdered_call
  unfold slices_medianOrdered
  refine Cl.mono (order2_ok h hc hcs hi hj) ?_
  rintro r1 w1 ⟨hr1, hc1, hd1, hk1⟩
  obtain ⟨p, q, rfl, hpq⟩ : ∃ p q : Nat, r1 = ((p : Int), (q : Int), ()) ∧ ((p = i ∧ q = j) ∨ (p = j ∧ q = i)) := by
    rcases hr1 with rfl | rfl
    · exact ⟨i, j, rfl, .inl ⟨rfl, rfl⟩⟩
    · exact ⟨j, i, rfl, .inr ⟨rfl, rfl⟩⟩
  dsimp only
  refine Cl.mono (order2_ok hd1 hc1 hcs (a := q) (b := k) (by omega) hk) ?_
  rintro r2 w2 ⟨hr2, hc2, hd2, hk2⟩
  obtain ⟨u, v, rfl, huv⟩ : ∃ u v : Nat, r2 = ((u : Int), (v : Int), ()) ∧ ((u = q ∧ v = k) ∨ (u = k ∧ v = q)) := by
    rcases hr2 with rfl | rfl
    · exact ⟨q, k, rfl, .inl ⟨rfl, rfl⟩⟩
    · exact ⟨k, q, rfl, .inr ⟨rfl, rfl⟩⟩
  dsimp only
  refine Cl.mono (order2_ok hd2 hc2 hcs (a := p) (b := u) (by omega) (by omega)) ?_
  rintro r3 w3 ⟨hr3, hc3, hd3, hk3⟩
  refine hR _ _ ⟨?_, hc3, hd3, (hk1.trans hk2 (by simp)).trans hk3 (by simp)⟩
  rcases hr3 with rfl | rfl
  · exact ⟨u, rfl, by omega⟩
  · exact ⟨p, rfl, by omega⟩

theorem adj_ok {w : World} {s : Sl} {d : Array Int} (h : Rw w s d) (hN : d.size ≤ 65000) {c : Nat} (hc : Cnt w c) (hcs : c ∉ blk s) {i : Nat} (hi : 1 ≤ i) (hi1 : i + 1 < d.size) :
    Cl Try.prog i_slices_medianAdjacentOrdered [.slice s.p s.len s.cap, .int .i64 (i : Int), .pointer (some ⟨c, 0, none⟩)] false [.sc (.i .i64)]
      (fun r w' => (∃ p : Nat, r.1 = (p : Int) ∧ i - 1 ≤ p ∧ p ≤ i + 1) ∧ Cnt w' c ∧ Rw w' s d ∧ Keeps [c] w w') w := by
  refine Cl_gen fun R hR => ?_
  apply slices_medianAdjacentOrdered_call
  unfold slices_medianAdjacentOrdered
  rw [w64m (by omega) (by omega), w64p (by omega)]
  refine Cl.mono (median_ok h hc hcs (by omega) (by omega) (by omega)) ?_
  rintro ⟨r, _⟩ w1 ⟨⟨p, hp, hpp⟩, h2, h3, h4⟩
  exact hR _ _ ⟨⟨p, hp, by omega, by omega⟩, h2, h3, h4⟩

theorem choosePivot_ok {w : World} {s : Sl} {d : Array Int} (h : Rw w s d) {a b : Nat} (hb : b ≤ d.size) (hN : d.size ≤ 65000) (hab : a + 12 < b) :
    Cl Try.prog i_slices_choosePivotOrdered [.slice s.p s.len s.cap, .int .i64 (a : Int), .int .i64 (b : Int)] true [.sc (.i .i64), .sc (.i .i64)]
      (fun r w' => (∃ p : Nat, r.1 = (p : Int) ∧ a ≤ p ∧ p < b) ∧ Rw w' s d ∧ Keeps [] w w') w := by
  refine Cl_gen fun R hR => ?_
  apply slices_choosePivotOrdered_call
  unfold slices_choosePivotOrdered
  simp only [New]
  generalize hc : w.heap.size = c
  generalize hw1 : w.alloc _ = w1
  have h1 : Cnt w1 c := ⟨0, by rw [← hw1, ← hc]; exact hp_alloc_new w _⟩
  have k1 : Keeps [] w w1 := by rw [← hw1]; exact (Keeps.refl _ _).alloc _
  have hcs : c ∉ blk s := fun hh => by have := SlC.lt h c hh; omega
  have hd1 : Rw w1 s d := h.keeps k1
  refine ⟨by decide, by decide, by decide, ?_⟩
  rw [w64s rfl rfl (by omega) (by omega)]
  rw [show ((b - a : Nat) : Int).tdiv 4 = (((b - a) / 4 : Nat) : Int) from tdiv_nat _ 4]
  rw [w64_nat (n := (b - a) / 4) (by omega)]
  generalize hq : (b - a) / 4 = q
  have hq3 : 3 ≤ q := by omega
  have hq4 : a + q * 3 + 1 < b := by omega
  rw [show w64 ((q : Int) * 1) = ((q : Nat) : Int) from by rw [w64_in (by omega) (by omega)]; omega]
  rw [show w64 ((q : Int) * 2) = ((q * 2 : Nat) : Int) from by rw [w64_in (by omega) (by omega)]; omega]
  rw [show w64 ((q : Int) * 3) = ((q * 3 : Nat) : Int) from by rw [w64_in (by omega) (by omega)]; omega]
  rw [w64a (i := a) (j := q) rfl rfl (by omega), w64a (i := a) (j := q * 2) rfl rfl (by omega), w64a (i := a) (j := q * 3) rfl rfl (by omega)]
  have kc : ∀ {w' : World}, Keeps [c] w1 w' → Keeps [] w w' := fun k => k1.trans k (by simp; omega)
  refine Jp_of (fun st w' => (∃ p : Nat, st = ((p : Int), ()) ∧ a ≤ p ∧ p < b) ∧ Cnt w' c ∧ Rw w' s d ∧ Keeps [] w w') ?_ ?_
  · intro J2 hJ2
    rw [decide_eq_true (by omega)]
    simp only [Br]
    refine Jp_of (fun st w' => (∃ i j k : Nat, st = ((i : Int), (j : Int), (k : Int), ()) ∧ a ≤ i ∧ i < b ∧ a ≤ j ∧ j < b ∧ a ≤ k ∧ k < b) ∧ Cnt w' c ∧ Rw w' s d ∧ Keeps [c] w1 w') ?_ ?_
    · intro J5 hJ5
      by_cases h50 : b - a ≥ 50
      · rw [decide_eq_true (by omega)]
        simp only [Br]
        refine Cl.mono (adj_ok hd1 hN h1 hcs (by omega) (by omega)) ?_
        rintro ⟨r8, _⟩ w2 ⟨⟨i, hi, hi1, hi2⟩, hc2, hd2, hk2⟩
        simp only at hi
        subst hi
        refine Cl.mono (adj_ok hd2 hN hc2 hcs (by omega) (by omega)) ?_
        rintro ⟨r9, _⟩ w3 ⟨⟨j, hj, hj1, hj2⟩, hc3, hd3, hk3⟩
        simp only at hj
        subst hj
        refine Cl.mono (adj_ok hd3 hN hc3 hcs (by omega) (by omega)) ?_
        rintro ⟨r10, _⟩ w4 ⟨⟨k, hk, hk1, hk2'⟩, hc4, hd4, hk4⟩
        simp only at hk
        subst hk
        exact hJ5 _ _ ⟨⟨i, j, k, rfl, by omega, by omega, by omega, by omega, by omega, by omega⟩, hc4, hd4, (hk2.trans hk3 (by simp)).trans hk4 (by simp)⟩
      · rw [decide_eq_false (by omega)]
        exact hJ5 _ _ ⟨⟨_, _, _, rfl, by omega, by omega, by omega, by omega, by omega, by omega⟩, h1, hd1, Keeps.refl _ _⟩
    · rintro _ w2 ⟨⟨i, j, k, rfl, hi1, hi2, hj1, hj2, hk1, hk2⟩, hc2, hd2, hk⟩
      dsimp only
      refine Cl.mono (median_ok hd2 hc2 hcs (by omega) (by omega) (by omega)) ?_
      rintro ⟨r, _⟩ w3 ⟨⟨p, hp, hpp⟩, hc3, hd3, hk3⟩
      simp only at hp
      subst hp
      exact hJ2 _ _ ⟨⟨p, rfl, by omega, by omega⟩, hc3, hd3, kc (hk.trans hk3 (by simp))⟩
  · rintro _ w2 ⟨⟨p, rfl, hp1, hp2⟩, ⟨y, hy⟩, hd2, hk2⟩
    refine LdI_of (i := 0) hy rfl ?_
    refine Br_of (fun _ => ?_) (fun _ => Br_of (fun _ => ?_) (fun _ => ?_)) <;> exact hR _ _ ⟨⟨p, rfl, hp1, hp2⟩, hd2, hk2⟩

/-! ### the whole -/
theorem pdq_ok {s : Sl} : ∀ (n : Nat) {w : World} {d : Array Int} (_h : Rw w s d) {a b lim : Nat} (_hb : b ≤ d.size) (_hN : d.size ≤ 65000) (_hab : a ≤ b) (_hn : b - a ≤ n) (_hl : lim ≤ 65000) (_hB : Sort.Below lt a b d),
    Cl Try.prog i_slices_pdqsortOrdered [.slice s.p s.len s.cap, .int .i64 (a : Int), .int .i64 (b : Int), .int .i64 (lim : Int)] true [] (fun _ w' => ∃ d', Sort.PermIn a b d d' ∧ Sort.SortedIn lt a b d' ∧ Rw w' s d' ∧ Keeps (blk s) w w') w := by
  intro n
  induction n using Nat.strongRecOn with
  | _ n ih =>
  intro w d h a b lim hb hN hab hn hl hB
  have hS := Sort.swo_ltInt
  refine Cl_gen fun R hR => ?_
  apply slices_pdqsortOrdered_call
  unfold slices_pdqsortOrdered
  refine ⟨fun m st w' => ∃ (a' b' l' : Nat) (wb wp : Bool) (d' : Array Int), st = ((a' : Int), (b' : Int), (l' : Int), wb, wp, ()) ∧ m = b' - a' ∧ m ≤ n ∧ a' ≤ b' ∧ b' ≤ d.size ∧ l' ≤ 65000 ∧ d'.size = d.size ∧ Sort.Below lt a' b' d' ∧ (∀ R, Sort.PermIn a' b' d' R → Sort.SortedIn lt a' b' R → Sort.PermIn a b d R ∧ Sort.SortedIn lt a b R) ∧ Rw w' s d' ∧ Keeps (blk s) w w', ⟨_, a, b, lim, true, true, d, rfl, rfl, hn, hab, hb, hl, rfl, hB, fun R h1 h2 => ⟨h1, h2⟩, h, Keeps.refl _ _⟩, ?_⟩
  rintro _ _ w1 ⟨a, b, lim, wb, wp, d1, rfl, rfl, hmn, hab, hbd, hlim, hz1, hB1, hend, hd1, hk1⟩
  dsimp only
  rw [w64s rfl rfl hab (by omega)]
  by_cases h12 : b - a ≤ 12
  · rw [decide_eq_true (by omega)]
    simp only [Br]
    refine Cl.mono (insertion_ok hd1 (by omega) (by omega) hab) ?_
    rintro _ w2 ⟨hd2, hk2⟩
    obtain ⟨p1, p2⟩ := Sort.insertionSort_holds hS d1 a b hab (by omega)
    obtain ⟨e1, e2⟩ := hend _ p1 p2
    exact hR _ _ ⟨_, e1, e2, hd2, kt hk1 hk2⟩
  rw [decide_eq_false (by omega)]
  simp only [Br]
  by_cases hl0 : lim = 0
  · rw [show ((lim : Int) == 0) = true from by simp [hl0]]
    simp only
    refine Cl.mono (heapSort_ok hd1 (by omega) (by omega) (by omega)) ?_
    rintro _ w2 ⟨hd2, hk2⟩
    obtain ⟨p1, p2⟩ := Sort.heapSort_holds hS d1 a b hab (by omega)
    obtain ⟨e1, e2⟩ := hend _ p1 p2
    exact hR _ _ ⟨_, e1, e2, hd2, kt hk1 hk2⟩
  rw [show ((lim : Int) == 0) = false from by simp; omega]
  simp only
  -- one round: permutations, then a partition
  refine Jp_of (fun st w' => ∃ (l' : Nat) (d' : Array Int), st = ((l' : Int), ()) ∧ l' ≤ 65000 ∧ Sort.PermIn a b d1 d' ∧ Rw w' s d' ∧ Keeps (blk s) w w') ?_ ?_
  · intro J hJ
    cases wb with
    | true => exact hJ _ _ ⟨lim, d1, rfl, hlim, Sort.permIn_refl _ _ _, hd1, hk1⟩
    | false =>
      simp only [Bool.not_false]
      refine Cl.mono (breakPatterns_ok hd1 (by omega) (by omega) (by omega)) ?_
      rintro _ w2 ⟨d2, hp2, hd2, hk2⟩
      exact hJ _ _ ⟨lim - 1, d2, by rw [w64m (by omega) (by omega)], by omega, hp2, hd2, kt hk1 hk2⟩
  rintro _ w2 ⟨l2, d2, rfl, hl2, hp2, hd2, hk2⟩
  have hz2 : d2.size = d.size := by rw [hp2.1]; exact hz1
  dsimp only
  refine Cl.mono (choosePivot_ok hd2 (by omega) (by omega) (by omega)) ?_
  rintro ⟨r7, hint, _⟩ w3 ⟨⟨p, hp, hpa, hpb⟩, hd3, hk3⟩
  simp only at hp
  subst hp
  have hk03 : Keeps (blk s) w w3 := hk2.trans hk3 (by simp)
  refine Jp_of (fun st w' => ∃ (p' : Nat) (hint' : Int) (d' : Array Int), st = ((p' : Int), hint', ()) ∧ a ≤ p' ∧ p' < b ∧ Sort.PermIn a b d1 d' ∧ Rw w' s d' ∧ Keeps (blk s) w w') ?_ ?_
  · intro J hJ
    dsimp only
    refine Br_of (fun _ => ?_) (fun _ => hJ _ _ ⟨p, hint, d2, rfl, hpa, hpb, hp2, hd3, hk03⟩)
    refine Cl.mono (reverse_ok hd3 (by omega) (by omega) (by omega)) ?_
    rintro _ w4 ⟨hd4, hk4⟩
    refine hJ _ _ ⟨b - 1 - (p - a), 1, _, ?_, by omega, by omega, Sort.permIn_trans _ _ _ _ _ hp2 (Sort.reverseRange_holds d2 a b hab (by omega)), hd4, kt hk03 hk4⟩
    rw [w64m (by omega) (by omega), w64s (i := p) rfl rfl (by omega) (by omega), w64s rfl rfl (by omega) (by omega)]
  rintro _ w4 ⟨p4, hint4, d4, rfl, hp4a, hp4b, hp4, hd4, hk4⟩
  have hz4 : d4.size = d.size := by rw [hp4.1]; exact hz1
  dsimp only
  refine Jp_of (fun _ w' => ∃ (d' : Array Int), Sort.PermIn a b d1 d' ∧ Rw w' s d' ∧ Keeps (blk s) w w') ?_ ?_
  · intro J10 hJ10
    refine Jp_of (fun st w' => ∃ c : Bool, st = (c, ()) ∧ w4 = w') ?_ ?_
    · intro J hJ
      cases wb with
      | false => exact hJ _ _ ⟨_, rfl, rfl⟩
      | true =>
        cases wp with
        | false => exact hJ _ _ ⟨_, rfl, rfl⟩
        | true => exact hJ _ _ ⟨_, rfl, rfl⟩
    · rintro _ _ ⟨c, rfl, rfl⟩
      cases c with
      | false => exact hJ10 _ _ ⟨d4, hp4, hd4, hk4⟩
      | true =>
        simp only
        refine Cl.mono (partialInsertion_ok hd4 (by omega) (by omega) (by omega)) ?_
        rintro ⟨r, _⟩ w5 ⟨hr, hd5, hk5⟩
        simp only at hr
        obtain ⟨e1, e2⟩ := Sort.partialInsertionSort_holds hS d4 a b (by omega) (by omega) (Sort.Below.perm hB1 (by omega) hp4)
        have hp5 := Sort.permIn_trans _ _ _ _ _ hp4 e1
        cases r with
        | true =>
          obtain ⟨f1, f2⟩ := hend _ hp5 (e2 hr.symm)
          exact hR _ _ ⟨_, f1, f2, hd5, kt hk4 hk5⟩
        | false => exact hJ10 _ _ ⟨_, hp5, hd5, kt hk4 hk5⟩
  rintro _ w5 ⟨d5, hp5, hd5, hk5⟩
  have hz5 : d5.size = d.size := by rw [hp5.1]; exact hz1
  have hB5 := Sort.Below.perm hB1 (by omega) hp5
  have hend5 : ∀ R, Sort.PermIn a b d5 R → Sort.SortedIn lt a b R → Sort.PermIn _ _ d R ∧ Sort.SortedIn lt _ _ R := fun R h1 h2 => hend R (Sort.permIn_trans _ _ _ _ _ hp5 h1) h2
  refine Jp_of (fun st w' => st = (decide (a > 0) && !lt d5[a - 1]! d5[p4]!, ()) ∧ Rw w' s d5 ∧ Keeps (blk s) w w') ?_ ?_
  · intro J hJ
    by_cases ha0 : a > 0
    · rw [w64m (by omega) (by omega)]
      exact test_ok hd5 (fun b => !b) rfl rfl (by omega) (by omega) (by congr 1; exact decide_eq_decide.2 (by omega)) fun w6 h6 k6 => hJ _ _ ⟨rfl, h6, kt hk5 k6⟩
    · rw [decide_eq_false (show ¬ ((a : Int) > 0) by omega)]
      rw [decide_eq_false ha0, Bool.false_and] at hJ
      simp only [Dr]
      exact hJ _ _ ⟨rfl, hd5.dr, kt hk5 ((Keeps.refl _ _).drew)⟩
  rintro _ w6 ⟨rfl, hd6, hk6⟩
  cases hc : (decide (a > 0) && !lt d5[a - 1]! d5[p4]!) with
  | true =>
    simp only [Bool.and_eq_true, decide_eq_true_eq, Bool.not_eq_true'] at hc
    simp only
    refine Cl.mono (partitionEqual_ok hd6 (by omega) (by omega) hp4a hp4b) ?_
    rintro ⟨r, _⟩ w7 ⟨hr, hd7, hk7⟩
    simp only at hr
    cases hpe : Sort.partitionEqual lt d5 a b p4 with
    | mk mid d7 =>
    rw [hpe] at hr hd7
    subst hr
    obtain ⟨g1, g2, g3, g4, g5⟩ := Sort.round_eq hS (Sort.partitionEqual_holds lt) hc.1 hp4a hp4b (by omega) hB5 hc.2 hpe
    exact ⟨b - mid, by omega, mid, b, l2, wb, wp, d7, rfl, rfl, by omega, g2, hbd, hl2, by rw [g3]; exact hz5, g4, fun R h1 h2 => by obtain ⟨e1, e2⟩ := g5 R h1 h2; exact hend5 R e1 e2, hd7, kt hk6 hk7⟩
  | false =>
    simp only
    refine Cl.mono (partition_ok hd6 (by omega) (by omega) hp4a hp4b) ?_
    rintro ⟨r, ap, _⟩ w7 ⟨hr, hd7, hk7⟩
    simp only at hr
    cases hpt : Sort.partition lt d5 a b p4 with
    | mk mid q =>
    obtain ⟨ap', d7⟩ := q
    rw [hpt] at hr hd7
    subst hr
    obtain ⟨g1, g2, g3, g4, g5, g6, g7⟩ := Sort.round_part hS (Sort.partition_holds lt) hp4a hp4b (by omega) hB5 hpt
    dsimp only at hd7 ⊢
    refine ⟨by decide, ?_⟩
    rw [w64s rfl rfl g1 (by omega), w64s rfl rfl (by omega) (by omega), w64p (by omega)]
    have hk07 := kt hk6 hk7
    by_cases hlt : mid - a < b - mid
    · rw [decide_eq_true (by omega)]
      simp only [Br]
      refine Cl.mono (ih (mid - a) (by omega) hd7 (lim := l2) (by omega) (by omega) g1 (Nat.le_refl _) hl2 g4) ?_
      rintro _ w8 ⟨d8, e1, e2, hd8, hk8⟩
      obtain ⟨f1, f2⟩ := g6 d8 e1 e2
      exact ⟨b - (mid + 1), by omega, mid + 1, b, l2, _, ap, d8, rfl, rfl, by omega, by omega, hbd, hl2, by rw [e1.1, g3]; exact hz5, f1, fun R h1 h2 => by obtain ⟨e1, e2⟩ := f2 R h1 h2; exact hend5 R e1 e2, hd8, kt hk07 hk8⟩
    · rw [decide_eq_false (by omega)]
      simp only [Br]
      refine Cl.mono (ih (b - (mid + 1)) (by omega) hd7 (lim := l2) (by omega) (by omega) (by omega) (Nat.le_refl _) hl2 g5) ?_
      rintro _ w8 ⟨d8, e1, e2, hd8, hk8⟩
      obtain ⟨f1, f2⟩ := g7 d8 e1 e2
      exact ⟨mid - a, by omega, a, mid, l2, _, ap, d8, rfl, rfl, by omega, g1, by omega, hl2, by rw [e1.1, g3]; exact hz5, f1, fun R h1 h2 => by obtain ⟨e1, e2⟩ := f2 R h1 h2; exact hend5 R e1 e2, hd8, kt hk07 hk8⟩

/-- 'slices.Sort'. -/
theorem Sort_ok {w : World} {s : Sl} {l : List Int} (h : SlC w s 1 (cU l)) (hN : l.length ≤ 65000) :
    Cl Try.prog i_slices_Sort [.slice s.p s.len s.cap] true [] (fun _ w' => ∃ l', l'.Perm l ∧ l'.Pairwise (· ≤ ·) ∧ SlC w' s 1 (cU l') ∧ Keeps (blk s) w w') w := by
  refine Cl_gen fun R hR => ?_
  have hl := cU_slen h
  apply slices_Sort_call
  unfold slices_Sort
  rw [hl, wrap_u64_nat (by omega)]
  refine Cl.mono (Len_ok (by omega)) ?_
  rintro ⟨r, _⟩ _ ⟨n, hr, hn, _, rfl⟩
  simp only at hr
  subst hr
  have h' : Rw w s l.toArray := h
  have := pdq_ok (s := s) l.length h' (a := 0) (b := l.length) (lim := n) (by simp) (by simpa using hN) (by omega) (by omega) (by omega) (.inl rfl)
  rw [hl] at this
  refine Cl.mono this ?_
  rintro _ w1 ⟨d', hp, hs, hd, hk⟩
  have hz : d'.size = l.length := by rw [hp.1]; simp
  refine hR _ _ ⟨d'.toList, ?_, ?_, hd, hk⟩
  · have := hp.2.2
    rw [Array.toList_extract, Array.toList_extract] at this
    simp only [List.extract_eq_take_drop, List.drop_zero, Nat.sub_zero] at this
    rw [List.take_of_length_le (by simp [hz]), List.take_of_length_le (by simp)] at this
    exact this
  · rw [List.pairwise_iff_getElem]
    intro i j hi hj hij
    rw [Array.length_toList, hz] at hi hj
    have := hs i j (by omega) hij (by omega)
    rw [getElem!_pos d' j (by omega), getElem!_pos d' i (by omega)] at this
    simp [lt, Sort.ltInt] at this
    simpa using this

end Go.Proofs.Ytmppjgddemlmdaa
