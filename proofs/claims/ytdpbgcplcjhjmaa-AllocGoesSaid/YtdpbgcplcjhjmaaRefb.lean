/- The reference's Bits and Load; Load where the bits are bad. -/
import Derived.Test.YtdpbgcplcjhjmaaRef
set_option linter.unusedVariables false
set_option linter.unusedSimpArgs false
namespace Go.Proofs.Ytdpbgcplcjhjmaa
open Go Go.Sx

def Part (T : Nat → Bool) (n i : Nat) (bs : List UInt8) : Prop := bs.length = (n + 7) / 8 ∧ ∀ (m : Nat) (b : UInt8), bs[m]? = some b → ∀ j, j < 8 → b.toNat.testBit j = (decide (8 * m + j < i) && T (8 * m + j))

theorem ishl_u8 (s : Nat) (hs : s < 8) : ishl .u8 1 (s : Int) = ((2 ^ s : Nat) : Int) := by
  have : ∀ s : Fin 8, ishl .u8 1 ((s.val : Nat) : Int) = ((2 ^ s.val : Nat) : Int) := by decide
  exact this ⟨s, hs⟩

theorem rBits_ok {w : World} {q n : Nat} {T : Nat → Bool} {fq : List Nat} (h : RfAt w q n T fq) :
    Cl Try.prog 29 [.pointer (some ⟨q, 0, none⟩)] false [.sc .sl] (fun r w' => ∃ bs, Tells T n bs ∧ SlC w' r.1 1 (cB bs) ∧ Keeps [] w w' ∧ ∀ x ∈ blk r.1, w.heap.size ≤ x) w := by
  apply sumpterref08_Alloc_Bits_call
  unfold sumpterref08_Alloc_Bits
  have hA := h
  obtain ⟨s0, h, rfl⟩ := h
  have hsl := h.slen
  have n2 := h.n2
  have n1 := h.n1
  have e1 : w64 ((w64 ((n : Int) + 7)).tdiv 8) = (((n + 7) / 8 : Nat) : Int) := by
    have e : (n : Int) + 7 = ((n + 7 : Nat) : Int) := rfl
    rw [e, w64_nat (n := n + 7) (by omega), tdiv8, w64_nat (by omega)]
  have e1' : w64 ((w64 (((s0.len : Nat) : Int) + 7)).tdiv 8) = (((n + 7) / 8 : Nat) : Int) := by rw [hsl]; exact e1
  simp only [sx, sxl, h.box, Nat.zero_add, e1']
  refine ⟨by omega, ?_⟩
  refine Mk_of (Nat.le_refl _) (by omega) (by omega) ?_
  intro w1 hs1 hk1 hz1
  have hc : ((madeCells (zc Try.prog 5) ((n + 7) / 8 * 1)).toList.take ((n + 7) / 8 * 1)) = cB (List.replicate ((n + 7) / 8) 0) := by
    rw [show zc Try.prog 5 = #[.int .u8 0] from by kernel_rfl, toList_madeCells_one, Nat.mul_one, List.take_of_length_le (by simp)]
    simp [cB]
  rw [hc] at hs1
  have hbox1 := hk1.at h.box (by simp)
  simp only [sx, sxl, hbox1, Nat.zero_add]
  refine ⟨fun m st w' => ∃ (i : Nat) (bs : List UInt8), st = ((i : Int), ()) ∧ m = n - i ∧ i ≤ n ∧ Part T n i bs ∧ SlC w' ⟨some ⟨w.heap.size, 0, none⟩, (n + 7) / 8, (n + 7) / 8⟩ 1 (cB bs) ∧ Keeps [] w w',
    ⟨n, 0, _, rfl, by omega, by omega, ⟨by simp, fun m b hb j hj => ?_⟩, hs1, hk1⟩, ?_⟩
  · rw [List.getElem?_replicate] at hb
    split at hb
    · simp at hb; subst hb; simp
    · cases hb
  rintro _ _ w2 ⟨i, bs, rfl, rfl, hi, hP, hs2, hk2⟩
  dsimp only
  by_cases hin : i < n
  case neg =>
    rw [decide_eq_false (by omega)]
    have : i = n := by omega
    subst this
    refine ⟨bs, ⟨hP.1, fun m b hb j hj => ?_⟩, hs2, hk2, by simp [blk]⟩
    rw [hP.2 m b hb j hj]
    by_cases hlt : 8 * m + j < i
    · simp [hlt]
    · simp [hlt, h.out _ (by omega : i ≤ 8 * m + j)]
  rw [decide_eq_true (by omega)]
  simp only [sx]
  have e2 : w64 ((i : Int) + 1) = ((i + 1 : Nat) : Int) := w64_nat (n := i + 1) (by omega)
  refine Jp_of (fun _ w' => ∃ bs' : List UInt8, Part T n (i + 1) bs' ∧ SlC w' ⟨some ⟨w.heap.size, 0, none⟩, (n + 7) / 8, (n + 7) / 8⟩ 1 (cB bs') ∧ Keeps [] w w') ?_ ?_
  case refine_2 =>
    rintro _ w' ⟨bs', hP', hs', hk'⟩
    exact ⟨n - (i + 1), by omega, i + 1, bs', by rw [e2], rfl, by omega, hP', hs', hk'⟩
  intro J hJ
  have h2 : RfR w2 q n s0 T := ⟨hk2.at h.box (by simp), h.arr.keeps hk2 (by simp), h.q1, h.n1, h.n2, h.out⟩
  refine h2.look hin ?_
  cases hT : T i with
  | false =>
    refine hJ _ _ ⟨bs, ⟨hP.1, fun m b hb j hj => ?_⟩, hs2, hk2⟩
    rw [hP.2 m b hb j hj]
    by_cases hx : 8 * m + j = i
    · rw [hx, hT]; simp
    · congr 1
      exact decide_eq_decide.2 (by omega)
  | true =>
    obtain ⟨b, hb⟩ : ∃ b, bs[i / 8]? = some b := ⟨_, List.getElem?_eq_getElem (by rw [hP.1]; omega)⟩
    have e3 : w64 ((i : Int).tdiv 8) = ((i / 8 : Nat) : Int) := by rw [tdiv8, w64_nat (by omega)]
    have hkd : Keeps [] w2 w2.drew := (Keeps.refl [] w2).drew
    have hs3 := hs2.keeps hkd (by simp)
    have hbl := hP.1
    have m0 := hs3.read (b := w.heap.size) (o := 0) rfl (j := i / 8) (by rw [cB_length]; omega)
    rw [cB, List.getElem?_map, hb, hp_drew] at m0
    simp only [Option.map_some, Nat.zero_add] at m0
    have hix : ∀ (K : Addr → Pr) (w' : World), Ix ⟨some ⟨w.heap.size, 0, none⟩, (n + 7) / 8, (n + 7) / 8⟩ ((i / 8 : Nat) : Int) 1 K w' = K ⟨w.heap.size, i / 8, none⟩ w' := fun K w' => by
      rw [Ix_base (s := ⟨some ⟨w.heap.size, 0, none⟩, (n + 7) / 8, (n + 7) / 8⟩) rfl (by omega) (by simp only; omega), Int.toNat_natCast, Nat.mul_one, Nat.zero_add]
    simp only [sxr, e3, hix, m0, tmod8]
    refine ⟨by omega, by omega, by omega, ?_⟩
    have hlow : b.toNat < 2 ^ (i % 8) := by
      apply Nat.lt_pow_two_of_testBit
      intro j hj
      by_cases hj8 : j < 8
      · rw [hP.2 (i / 8) b hb j hj8, decide_eq_false (by omega)]; rfl
      · have e : (2 : Nat) ^ 8 ≤ 2 ^ j := Nat.pow_le_pow_right (by omega) (by omega)
        have := b.toNat_lt
        exact Nat.testBit_lt_two_pow (by omega)
    have hpow : 2 ^ (i % 8) * 2 ≤ 256 := by
      have : (2 : Nat) ^ (i % 8 + 1) ≤ 2 ^ 8 := Nat.pow_le_pow_right (by omega) (by omega)
      rw [Nat.pow_succ] at this
      exact this
    have hsum : b.toNat + 2 ^ (i % 8) < 256 := by omega
    rw [ishl_u8 _ (by omega), ← Int.natCast_add, wrap_u8_nat, Nat.mod_eq_of_lt hsum]
    refine hs3.write' (off := i / 8) rfl (i / 8) (by omega) (by rw [cB_length]; omega) rfl fun w4 hs4 hk4 => ?_
    have hset : (cB bs).set (i / 8) (.int .u8 ((b.toNat + 2 ^ (i % 8) : Nat) : Int)) = cB (bs.set (i / 8) (UInt8.ofNat (b.toNat + 2 ^ (i % 8)))) := by
      rw [cB, cB, List.map_set]
      congr 2
      simp [Nat.mod_eq_of_lt hsum]
    rw [hset] at hs4
    refine hJ _ _ ⟨_, ⟨by rw [List.length_set]; exact hP.1, fun m c hc j hj => ?_⟩, hs4, (hk2.trans hkd (by simp)).trans hk4 (by simp)⟩
    by_cases hm : i / 8 = m
    · subst hm
      rw [List.getElem?_set_self (by omega), Option.some.injEq] at hc
      subst hc
      rw [show (UInt8.ofNat (b.toNat + 2 ^ (i % 8))).toNat = 2 ^ (i % 8) * 1 + b.toNat from by simp [Nat.mod_eq_of_lt hsum]; omega, Nat.testBit_two_pow_mul_add _ hlow]
      by_cases hjs : j < i % 8
      · rw [if_pos hjs, hP.2 (i / 8) b hb j hj]
        congr 1
        exact decide_eq_decide.2 (by omega)
      · rw [if_neg hjs]
        by_cases hje : j = i % 8
        · subst hje
          rw [show 8 * (i / 8) + i % 8 = i from by omega, hT]
          simp
        · rw [decide_eq_false (by omega : ¬ 8 * (i / 8) + j < i + 1), Nat.testBit_lt_two_pow (x := 1)]
          · rfl
          · exact Nat.one_lt_two_pow (by omega)
    · rw [List.getElem?_set_ne hm] at hc
      rw [hP.2 m c hc j hj]
      by_cases hx : 8 * m + j = i
      · omega
      · congr 1
        exact decide_eq_decide.2 (by omega)

theorem Load_bad {w : World} {n : Nat} (h1 : 1 ≤ n) (h2 : n ≤ 1024) {b : Sl} {bs : List UInt8} (hb : RdB b bs w) (hbad : ¬ Good bs n) (hmax : b.len ≤ 9223372036854775807) :
    Cl Try.prog 15 [.int .i64 (n : Int), .slice b.p b.len b.cap] true [.sc .p, .sc (.i .i64)] (fun r w' => r = (none, 11, ()) ∧ Keeps [] w w') w := by
  apply alloc_Load_call
  unfold alloc_Load
  refine Cl.mono (New_yes h1 h2) ?_
  rintro r1 w1 ⟨rfl, hA1, hk1⟩
  have hbl := hb.1
  simp only [sx, bne_self_eq_false]
  have e1 : w64 ((w64 ((n : Int) + 7)).tdiv 8) = (((n + 7) / 8 : Nat) : Int) := by
    have e : (n : Int) + 7 = ((n + 7 : Nat) : Int) := rfl
    rw [e, w64_nat (n := n + 7) (by omega), tdiv8, w64_nat (by omega)]
  have hb1 := rdb_keeps hb hk1 (by simp)
  have hbc : RdC b.p (b.len * 1) (cB bs) w1 := by rw [Nat.mul_one]; exact rdb_rdc hb1
  refine Jp_of (fun st w' => w1 = w' ∧ st = (true, ())) ?_ ?_
  case refine_2 =>
    rintro _ _ ⟨rfl, rfl⟩
    exact ⟨by trivial, hk1⟩
  intro J hJ
  simp only [e1, sx, tmod8]
  refine ⟨by omega, ?_⟩
  refine Br_of (fun _ => hJ _ _ ⟨rfl, rfl⟩) (fun hl => ?_)
  have hgl : bs.length = (n + 7) / 8 := by
    simp only [bne_eq_false_iff_eq] at hl
    omega
  refine ⟨by omega, ?_⟩
  have e2 : w64 (((b.len : Nat) : Int) - 1) = (((n + 7) / 8 - 1 : Nat) : Int) := by
    rw [w64_in (by omega) (by omega)]; omega
  rw [e2]
  obtain ⟨x, hx⟩ : ∃ x, bs[(n + 7) / 8 - 1]? = some x := ⟨_, List.getElem?_eq_getElem (by omega)⟩
  have hnz : ¬ (n % 8 = 0 ∨ x.toNat >>> (n % 8) = 0) := fun hh => hbad ⟨hgl, (last_ok hgl h1 hx).2 hh⟩
  rw [show ((((n % 8 : Nat) : Int)) != 0) = true from by simp; omega]
  simp only [sx]
  refine Ix_row hbc (by omega) (k := (n + 7) / 8 - 1) (by omega) fun a ha => ?_
  have hc0 := ha 0 (.int .u8 (x.toNat : Int)) (by omega) (by rw [Nat.mul_one, Nat.add_zero, cB, List.getElem?_map, hx]; rfl)
  rw [show a.add 0 = a from by simp [Addr.add]] at hc0
  refine ⟨_, hc0, by omega, by omega, ?_⟩
  rw [ishr_u8_nat _ _ (by omega)]
  refine hJ _ _ ⟨rfl, ?_⟩
  have hnz' : ¬ x.toNat >>> (n % 8) = 0 := fun hh => hnz (.inr hh)
  congr 1
  exact bne_iff_ne.2 (fun hh => hnz' (by exact_mod_cast hh))

theorem tmod2 (j : Nat) : (j : Int).tmod 2 = ((j % 2 : Nat) : Int) := tmod_nat j 2
theorem bit_u8 (x : UInt8) (j : Nat) (hj : j < 8) : (((ishr .u8 (x.toNat : Int) (j : Int)).tmod 2 : Int) == 0) = !(x.toNat.testBit j) := by
  rw [ishr_u8_nat _ _ (by omega), tmod2, Nat.testBit]
  rw [Nat.and_comm, Nat.and_one_is_mod]
  rcases Nat.mod_two_eq_zero_or_one (x.toNat >>> j) with h | h <;> rw [h] <;> rfl

theorem tOf_at {bs : List UInt8} {i : Nat} {x : UInt8} (hx : bs[i]? = some x) (j : Nat) (hj : j < 8) : tOf bs (8 * i + j) = x.toNat.testBit j := by
  unfold tOf
  rw [show (8 * i + j) / 8 = i from by omega, show (8 * i + j) % 8 = j from by omega, List.getD_eq_getElem?_getD, hx]
  rfl

def LoadI (w : World) (q n : Nat) (fq : List Nat) (bs : List UInt8) (k : Nat) (w' : World) : Prop :=
  RfAt w' q n (fun j => decide (j < k) && tOf bs j) fq ∧ (∀ j, j < k → tOf bs j = true → j < n) ∧ Keeps [] w w'

theorem rLoad_ok {w : World} {n : Nat} (h1 : 1 ≤ n) (h2 : n ≤ 1024) {b : Sl} {bs : List UInt8} (hb : RdB b bs w) :
    Cl Try.prog 20 [.int .i64 (n : Int), .slice b.p b.len b.cap] true [.sc .p, .sc (.i .i64)]
      (fun r w' => (r = (none, 11, ()) ∧ ¬ Good bs n ∧ Keeps [] w w') ∨
        (Good bs n ∧ ∃ q fq, r = (some ⟨q, 0, none⟩, 0, ()) ∧ RfAt w' q n (tOf bs) fq ∧ Keeps [] w w' ∧ ∀ x ∈ fq, w.heap.size ≤ x)) w := by
  apply sumpterref08_Load_call
  unfold sumpterref08_Load
  refine Cl.mono (rNew_yes h1 h2) ?_
  rintro r1 w1 ⟨q, fq, rfl, hA1, hk1, hf⟩
  have hbl := hb.1
  simp only [sx, bne_self_eq_false]
  have e1 : w64 ((w64 ((n : Int) + 7)).tdiv 8) = (((n + 7) / 8 : Nat) : Int) := by
    have e : (n : Int) + 7 = ((n + 7 : Nat) : Int) := rfl
    rw [e, w64_nat (n := n + 7) (by omega), tdiv8, w64_nat (by omega)]
  rw [e1]
  refine ⟨by omega, ?_⟩
  refine Br_of (fun hl => ?_) (fun hl => ?_)
  · refine .inl ⟨by trivial, fun hg => ?_, hk1⟩
    have := hg.1
    simp at hl
    omega
  have hgl : bs.length = (n + 7) / 8 := by
    simp only [bne_eq_false_iff_eq] at hl
    omega
  refine ⟨fun m st w' => ∃ i : Nat, st = (none, 0, (i : Int), ()) ∧ m = b.len - i ∧ i ≤ b.len ∧ LoadI w q n fq bs (8 * i) w', ⟨b.len, 0, rfl, by simp, by omega, hA1.congr fun j => by simp, fun j hj => by omega, hk1⟩, ?_⟩
  rintro _ _ w2 ⟨i, rfl, rfl, hi, hA2, hbi, hk2⟩
  dsimp only
  by_cases hil : i < b.len
  case neg =>
    rw [decide_eq_false (by omega)]
    have hout : ∀ j, 8 * b.len ≤ j → tOf bs j = false := fun j hj => by
      unfold tOf
      rw [List.getD_eq_getElem?_getD, List.getElem?_eq_none (by omega)]
      simp
    have : i = b.len := by omega
    subst this
    refine .inr ⟨⟨hgl, fun j hj => ?_⟩, q, fq, rfl, hA2.congr fun j => ?_, hk2, hf⟩
    · by_cases hj8 : j < 8 * b.len
      · cases ht : tOf bs j with
        | false => rfl
        | true => have := hbi j hj8 ht; omega
      · exact hout j (by omega)
    · by_cases hj8 : j < 8 * b.len
      · simp [hj8]
      · simp [hj8, hout j (by omega)]
  rw [decide_eq_true (by omega)]
  simp only [sx]
  obtain ⟨x, hx⟩ : ∃ x, bs[i]? = some x := ⟨_, List.getElem?_eq_getElem (by omega)⟩
  have hbc2 : RdC b.p (b.len * 1) (cB bs) w2 := by rw [Nat.mul_one]; exact rdb_rdc (rdb_keeps hb hk2 (by simp))
  refine Ix_row hbc2 (by omega) (k := i) hil fun a ha => ?_
  have hc0 := ha 0 (.int .u8 (x.toNat : Int)) (by omega) (by rw [Nat.mul_one, Nat.add_zero, cB, List.getElem?_map, hx]; rfl)
  rw [show a.add 0 = a from by simp [Addr.add]] at hc0
  refine ⟨_, hc0, ?_⟩
  clear ha hc0
  have e4 : w64 ((i : Int) + 1) = ((i + 1 : Nat) : Int) := w64_nat (n := i + 1) (by omega)
  have e8 : w64 (8 * (i : Int)) = ((8 * i : Nat) : Int) := w64_nat (n := 8 * i) (by omega)
  refine ⟨fun m st w' => ∃ j : Nat, st = (none, 0, (j : Int), ()) ∧ m = 8 - j ∧ j ≤ 8 ∧ LoadI w q n fq bs (8 * i + j) w', ⟨8, 0, rfl, by omega, by omega, hA2, hbi, hk2⟩, ?_⟩
  rintro _ _ w3 ⟨j, rfl, rfl, hj, hA3, hbj, hk3⟩
  dsimp only
  by_cases hj8 : j < 8
  case neg =>
    rw [decide_eq_false (by omega)]
    have : j = 8 := by omega
    subst this
    exact ⟨b.len - (i + 1), by omega, i + 1, by rw [e4], rfl, by omega, hA3, hbj, hk3⟩
  rw [decide_eq_true (by omega)]
  have e5 : w64 ((j : Int) + 1) = ((j + 1 : Nat) : Int) := w64_nat (n := j + 1) (by omega)
  have e6 : w64 (((8 * i : Nat) : Int) + (j : Int)) = ((8 * i + j : Nat) : Int) := by rw [← Int.natCast_add]; exact w64_nat (by omega)
  simp only [sx, e8, e6, bit_u8 x j hj8]
  refine Jp_of (fun st w' => st = (none, 0, ()) ∧ LoadI w q n fq bs (8 * i + (j + 1)) w') ?_ ?_
  case refine_2 =>
    rintro _ w' ⟨rfl, hL⟩
    exact ⟨8 - (j + 1), by omega, j + 1, by rw [e5], rfl, by omega, hL⟩
  intro J hJ
  refine ⟨by omega, by omega, ?_⟩
  have ht := tOf_at hx j hj8
  cases hT : x.toNat.testBit j with
  | false =>
    refine hJ _ _ ⟨rfl, hA3.congr fun k => ?_, fun k hk hkt => ?_, hk3⟩
    · by_cases hkk : k = 8 * i + j
      · rw [hkk, ht, hT]; simp
      · congr 1
        exact decide_eq_decide.2 (by omega)
    · by_cases hkk : k = 8 * i + j
      · rw [hkk, ht, hT] at hkt; cases hkt
      · exact hbj k (by omega) hkt
  | true =>
    simp only [sx, Bool.not_true]
    by_cases hn : 8 * i + j < n
    · rw [decide_eq_false (by omega)]
      obtain ⟨s0, hR, he⟩ := hA3
      simp only [sx, sxl, hR.box, Nat.zero_add]
      refine hR.put hn true fun w4 hA4 hk4 => ?_
      rw [← he] at hA4 hk4
      refine hJ _ _ ⟨rfl, hA4.congr fun k => ?_, fun k hk hkt => ?_, hk3.trans hk4 fun x hx => .inr (hf x hx)⟩
      · by_cases hkk : k = 8 * i + j
        · rw [if_pos hkk, hkk, ht, hT]; simp
        · rw [if_neg hkk]
          congr 1
          exact decide_eq_decide.2 (by omega)
      · by_cases hkk : k = 8 * i + j
        · omega
        · exact hbj k (by omega) hkt
    · rw [decide_eq_true (by omega)]
      refine .inl ⟨by trivial, fun hg => ?_, hk3⟩
      have := hg.2 (8 * i + j) (by omega)
      rw [ht, hT] at this
      cases this

end Go.Proofs.Ytdpbgcplcjhjmaa
