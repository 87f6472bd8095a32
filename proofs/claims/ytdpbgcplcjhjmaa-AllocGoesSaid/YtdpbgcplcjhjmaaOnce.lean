/- Load, and the law AllocOnce. -/
import Derived.Test.YtdpbgcplcjhjmaaCount
set_option linter.unusedVariables false
set_option linter.unusedSimpArgs false
namespace Go.Proofs.Ytdpbgcplcjhjmaa
open Go Go.Sx

theorem St_word {w : World} {p n : Nat} {ws : List Nat} {T T' : Nat → Bool} (h : AlR w p n ws T) {k : Nat} (hk : k < 16) {y : Nat} (hy : y < 2 ^ 64) (hT : ∀ j, j < 1024 → T' j = if j / 64 = k then y.testBit (j % 64) else T j) (ho : ∀ i, n ≤ i → T' i = false)
    {K : Pr} (kk : ∀ w', AlAt w' p n T' → Keeps [p] w w' → K w') : St ⟨p, 1 + k, none⟩ (.int .u64 (y : Int)) K w := by
  have hl := h.len
  refine St_of h.box rfl (by simp [boxA, hl]; omega) (by simp) (kk _ ⟨ws.set k y, ?_, by rw [List.length_set]; exact hl, ?_, h.n1, h.n2, ?_, ho⟩ ((Keeps.refl [p] w).setObjW (.inl (by simp)) _))
  · rw [hp_setObjW_same (hp_lt h.box)]
    congr 2
    apply Array.toList_inj.1
    simp [boxA, List.map_set, Nat.add_comm 1]
  · intro z hz
    rcases List.mem_or_eq_of_mem_set hz with h' | h'
    · exact h.lt z h'
    · subst h'; exact hy
  · intro j hj
    rw [hT j hj]
    unfold bitAt
    by_cases hw : j / 64 = k
    · rw [if_pos hw, List.getD_eq_getElem?_getD, hw, List.getElem?_set_self (by omega)]; rfl
    · rw [if_neg hw, List.getD_eq_getElem?_getD, List.getElem?_set_ne (fun hh => hw hh.symm), ← List.getD_eq_getElem?_getD]
      exact h.bit j hj

def tOf (bs : List UInt8) (i : Nat) : Bool := (bs.getD (i / 8) 0).toNat.testBit (i % 8)
def Good (bs : List UInt8) (n : Nat) : Prop := bs.length = (n + 7) / 8 ∧ ∀ i, n ≤ i → tOf bs i = false

theorem tells_good {T : Nat → Bool} {n : Nat} {bs : List UInt8} (h : Tells T n bs) (ho : ∀ i, n ≤ i → T i = false) : Good bs n ∧ ∀ i, tOf bs i = T i := by
  have e : ∀ i, tOf bs i = T i := by
    intro i
    unfold tOf
    rw [List.getD_eq_getElem?_getD]
    cases hb : bs[i / 8]? with
    | none =>
      have := List.getElem?_eq_none_iff.1 hb
      rw [h.1] at this
      rw [ho i (by omega)]
      simp
    | some b =>
      have := h.2 (i / 8) b hb (i % 8) (by omega)
      rw [show 8 * (i / 8) + i % 8 = i from by omega] at this
      exact this
  exact ⟨⟨h.1, fun i hi => by rw [e, ho i hi]⟩, e⟩

theorem last_ok {n : Nat} {bs : List UInt8} (hl : bs.length = (n + 7) / 8) (h1 : 1 ≤ n) {b : UInt8} (hb : bs[(n + 7) / 8 - 1]? = some b) : (∀ i, n ≤ i → tOf bs i = false) ↔ (n % 8 = 0 ∨ b.toNat >>> (n % 8) = 0) := by
  have hb8 := b.toNat_lt
  constructor
  · intro h
    by_cases hn : n % 8 = 0
    · exact .inl hn
    · refine .inr (Nat.eq_of_testBit_eq fun j => ?_)
      rw [Nat.testBit_shiftRight, Nat.zero_testBit]
      by_cases hj : n % 8 + j < 8
      · have := h (n + j) (by omega)
        unfold tOf at this
        rw [show (n + j) / 8 = (n + 7) / 8 - 1 from by omega, show (n + j) % 8 = n % 8 + j from by omega, List.getD_eq_getElem?_getD, hb] at this
        exact this
      · have e : (2 : Nat) ^ 8 ≤ 2 ^ (n % 8 + j) := Nat.pow_le_pow_right (by omega) (by omega)
        exact Nat.testBit_lt_two_pow (by omega)
  · intro h i hi
    unfold tOf
    rw [List.getD_eq_getElem?_getD]
    by_cases hi8 : i / 8 < (n + 7) / 8
    · have : i / 8 = (n + 7) / 8 - 1 := by omega
      rw [this, hb]
      rcases h with h | h
      · omega
      · have e : (b.toNat >>> (n % 8)).testBit (i % 8 - n % 8) = false := by rw [h]; simp
        rw [Nat.testBit_shiftRight, show n % 8 + (i % 8 - n % 8) = i % 8 from by omega] at e
        exact e
    · rw [List.getElem?_eq_none (by omega)]
      simp

theorem ishr_u8_nat (a s : Nat) (hs : s ≤ 8) : ishr .u8 (a : Int) (s : Int) = ((a >>> s : Nat) : Int) := ishr_nat .u8 a s hs

theorem Load_good {w : World} {n : Nat} (h1 : 1 ≤ n) (h2 : n ≤ 1024) {b : Sl} {bs : List UInt8} (hb : RdB b bs w) (hg : Good bs n) :
    Cl Try.prog 15 [.int .i64 (n : Int), .slice b.p b.len b.cap] true [.sc .p, .sc (.i .i64)] (fun r w' => r = (some ⟨w.heap.size, 0, none⟩, 0, ()) ∧ AlAt w' w.heap.size n (tOf bs) ∧ Keeps [] w w') w := by
  apply alloc_Load_call
  unfold alloc_Load
  refine Cl.mono (New_yes h1 h2) ?_
  rintro r1 w1 ⟨rfl, hA1, hk1⟩
  have hbl := hb.1
  have hgl := hg.1
  simp only [sx, bne_self_eq_false]
  have e1 : w64 ((w64 ((n : Int) + 7)).tdiv 8) = (((n + 7) / 8 : Nat) : Int) := by
    have e : (n : Int) + 7 = ((n + 7 : Nat) : Int) := rfl
    rw [e, w64_nat (n := n + 7) (by omega), tdiv8, w64_nat (by omega)]
  have hb1 := rdb_keeps hb hk1 (by simp)
  have hbc : RdC b.p (b.len * 1) (cB bs) w1 := by rw [Nat.mul_one]; exact rdb_rdc hb1
  refine Jp_of (fun st w' => w1 = w' ∧ st = (false, ())) ?_ ?_
  · intro J hJ
    simp only [e1, ← hbl, hgl, sx, bne_self_eq_false, tmod8]
    refine ⟨by omega, by omega, ?_⟩
    refine Br_of (fun hc => ?_) (fun hc => hJ _ _ ⟨rfl, rfl⟩)
    have e2 : w64 ((((n + 7) / 8 : Nat) : Int) - 1) = (((n + 7) / 8 - 1 : Nat) : Int) := by
      rw [w64_in (by omega) (by omega)]; omega
    rw [e2]
    obtain ⟨x, hx⟩ : ∃ x, bs[(n + 7) / 8 - 1]? = some x := ⟨_, List.getElem?_eq_getElem (by omega)⟩
    refine Ix_row hbc (by omega) (k := (n + 7) / 8 - 1) (by omega) fun a ha => ?_
    have hc0 := ha 0 (.int .u8 (x.toNat : Int)) (by omega) (by rw [Nat.mul_one, Nat.add_zero, cB, List.getElem?_map, hx]; rfl)
    rw [show a.add 0 = a from by simp [Addr.add]] at hc0
    refine ⟨_, hc0, by omega, by omega, ?_⟩
    rw [ishr_u8_nat _ _ (by omega)]
    have hz : x.toNat >>> (n % 8) = 0 := by
      rcases (last_ok hgl h1 hx).1 hg.2 with h' | h'
      · simp [h'] at hc
      · exact h'
    rw [hz]
    exact hJ _ _ ⟨rfl, rfl⟩
  rintro _ _ ⟨rfl, rfl⟩
  simp only [sx]
  generalize hp : w.heap.size = p at *
  have hz1 := hk1.size
  refine ⟨fun m st w' => ∃ i : Nat, st = ((i : Int), ()) ∧ m = b.len - i ∧ i ≤ b.len ∧ AlAt w' p n (fun j => decide (j < 8 * i) && tOf bs j) ∧ Keeps [] w w', ⟨b.len, 0, rfl, by simp, by omega, hA1.congr fun j => by simp, hk1⟩, ?_⟩
  rintro _ _ w2 ⟨i, rfl, rfl, hi, hA2, hk2⟩
  dsimp only
  by_cases hil : i < b.len
  · rw [decide_eq_true (by omega)]
    obtain ⟨x, hx⟩ : ∃ x, bs[i]? = some x := ⟨_, List.getElem?_eq_getElem (by omega)⟩
    have hbc2 : RdC b.p (b.len * 1) (cB bs) w2 := by rw [Nat.mul_one]; exact rdb_rdc (rdb_keeps hb hk2 (by simp))
    simp only [sx]
    refine Ix_row hbc2 (by omega) (k := i) hil fun a ha => ?_
    have hc0 := ha 0 (.int .u8 (x.toNat : Int)) (by omega) (by rw [Nat.mul_one, Nat.add_zero, cB, List.getElem?_map, hx]; rfl)
    rw [show a.add 0 = a from by simp [Addr.add]] at hc0
    refine ⟨_, hc0, ?_⟩
    clear ha
    have hAd := hA2.keeps (Keeps.refl [] w2).drew (by simp)
    obtain ⟨ws, hr⟩ := hAd
    have e2 : w64 ((i : Int).tdiv 8) = ((i / 8 : Nat) : Int) := by rw [tdiv8, w64_nat (by omega)]
    have e3 : w64 (8 * (i : Int).tmod 8) = ((8 * (i % 8) : Nat) : Int) := by
      rw [tmod8]
      exact w64_nat (n := 8 * (i % 8)) (by omega)
    have e4 : w64 ((i : Int) + 1) = ((i + 1 : Nat) : Int) := w64_nat (n := i + 1) (by omega)
    have hword := hr.word (k := i / 8) (by omega)
    rw [hp_drew] at hword
    simp only [sxr, e2, e3, IxR, Int.toNat_natCast, Nat.mul_one, Nat.zero_add, hword]
    refine ⟨by omega, by omega, by omega, by omega, by omega, by omega, by omega, ?_⟩
    have hxb := x.toNat_lt
    have hX := hr.wlt (i / 8)
    have hshl : x.toNat <<< (8 * (i % 8)) < 2 ^ 64 := by
      rw [Nat.shiftLeft_eq]
      have : x.toNat * 2 ^ (8 * (i % 8)) < 2 ^ 8 * 2 ^ (8 * (i % 8)) := Nat.mul_lt_mul_of_pos_right hxb (Nat.pow_pos (by omega))
      rw [← Nat.pow_add] at this
      exact Nat.lt_of_lt_of_le this (Nat.pow_le_pow_right (by omega) (by omega))
    rw [wrap_u64_nat (Nat.lt_trans hxb (by decide)), ishl_u64 _ _ (by omega), Nat.mod_eq_of_lt hshl, ior_u64 hX hshl]
    refine St_word hr (by omega) (Nat.or_lt_two_pow hX hshl) (T' := fun j => decide (j < 8 * (i + 1)) && tOf bs j) ?_ ?_ fun w3 hA3 hk3 => ?_
    · intro j hj
      have hbit := hr.bit j hj
      unfold bitAt at hbit
      by_cases hw : j / 64 = i / 8
      · rw [if_pos hw, Nat.testBit_or, ← hw, hbit, Nat.testBit_shiftLeft]
        by_cases hlo : j < 8 * i
        · have : ¬ (8 * (i % 8) ≤ j % 64) := by omega
          simp [this, hlo, show j < 8 * (i + 1) from by omega]
        · by_cases hhi : j < 8 * (i + 1)
          · have hji : j / 8 = i := by omega
            have : tOf bs j = x.toNat.testBit (j % 8) := by
              unfold tOf
              rw [hji, List.getD_eq_getElem?_getD, hx]; rfl
            rw [this, show j % 64 - 8 * (i % 8) = j % 8 from by omega]
            simp [hlo, hhi, show 8 * (i % 8) ≤ j % 64 from by omega]
          · have e : (2 : Nat) ^ 8 ≤ 2 ^ (j % 64 - 8 * (i % 8)) := Nat.pow_le_pow_right (by omega) (by omega)
            rw [Nat.testBit_lt_two_pow (x := x.toNat) (by omega)]
            simp [hlo, hhi]
      · rw [if_neg hw]
        by_cases hlo : j < 8 * i
        · simp [hlo, show j < 8 * (i + 1) from by omega]
        · simp [hlo, show ¬ j < 8 * (i + 1) from by omega]
    · intro j hj
      simp [hg.2 j hj]
    · have hk23 : Keeps [p] w2 w3 := ((Keeps.refl [p] w2).drew).trans hk3 (by simp)
      exact ⟨b.len - (i + 1), by omega, i + 1, by rw [e4], rfl, by omega, hA3, hk2.trans hk23 (by simp; omega)⟩
  · rw [decide_eq_false (by omega)]
    have : i = b.len := by omega
    subst this
    refine ⟨by trivial, hA2.congr fun j => ?_, hk2⟩
    by_cases hj : j < n
    · simp [show j < 8 * b.len from by omega]
    · simp [hg.2 j (by omega)]

theorem cnt_false {T : Nat → Bool} : ∀ {k : Nat}, (∀ j, j < k → T j = false) → cnt T k = 0
  | 0, _ => rfl
  | k + 1, h => by rw [cnt, cnt_false fun j hj => h j (by omega), h k (by omega)]; rfl
theorem cnt_true {T : Nat → Bool} : ∀ {k : Nat}, (∀ j, j < k → T j = true) → cnt T k = k
  | 0, _ => rfl
  | k + 1, h => by rw [cnt, cnt_true fun j hj => h j (by omega), h k (by omega)]; rfl
theorem cnt_run {T : Nat → Bool} {a k n : Nat} (h : a + k ≤ n) (hf : freeAt T k a) : cnt (runT T a k) n = cnt T n + k := by
  obtain ⟨d, rfl⟩ : ∃ d, n = a + k + d := ⟨n - (a + k), by omega⟩
  rw [cnt_add, cnt_add, cnt_add T, cnt_add T]
  rw [cnt_congr (T := runT T a k) (T' := T) (n := a) fun i hi => by rw [runT, if_neg (by omega)]]
  rw [cnt_true (T := fun j => runT T a k (a + j)) fun j hj => by rw [runT, if_pos (by omega)]]
  rw [cnt_false (T := fun j => T (a + j)) fun j hj => hf j hj]
  rw [cnt_congr (T := fun j => runT T a k (a + k + j)) (T' := fun j => T (a + k + j)) (n := d) fun i hi => by rw [runT, if_neg (by omega)]]
  omega

theorem tells_unique {T : Nat → Bool} {n : Nat} {bs bs' : List UInt8} (h : Tells T n bs) (h' : Tells T n bs') : bs = bs' := by
  apply List.ext_getElem?
  intro i
  have hl := h.1
  have hl' := h'.1
  cases hb : bs[i]? with
  | none =>
    have := List.getElem?_eq_none_iff.1 hb
    exact (List.getElem?_eq_none (by omega)).symm
  | some b =>
    have hi := (List.getElem?_eq_some_iff.1 hb).1
    obtain ⟨c, hc⟩ : ∃ c, bs'[i]? = some c := ⟨_, List.getElem?_eq_getElem (by omega)⟩
    rw [hc]
    congr 1
    have : b.toNat = c.toNat := byte_eq b _ c.toNat_lt fun j hj => by rw [h.2 i b hb j hj, h'.2 i c hc j hj]
    exact UInt8.toNat_inj.1 this

theorem five (n : Int) : ∃ N : Nat, 1 ≤ N ∧ N ≤ 5 ∧ w64 (1 + ((w64 ((n : Int).tmod 5 + 5)).tmod 5)) = (N : Int) := by
  have h1 : -5 < n.tmod 5 := by
    have := Int.lt_tmod_of_pos n (b := 5) (by omega); omega
  have h2 : n.tmod 5 < 5 := Int.tmod_lt_of_pos n (by omega)
  rw [w64_in (n := n.tmod 5 + 5) (by omega) (by omega)]
  have h3 : 0 ≤ (n.tmod 5 + 5).tmod 5 := Int.tmod_nonneg _ (by omega)
  have h4 : (n.tmod 5 + 5).tmod 5 < 5 := Int.tmod_lt_of_pos _ (by omega)
  refine ⟨(1 + (n.tmod 5 + 5).tmod 5).toNat, by omega, by omega, ?_⟩
  rw [w64_in (by omega) (by omega)]
  omega

theorem has_def (T : Nat → Bool) (i : Int) : (decide (0 ≤ i) && T i.toNat) = has T i := rfl

set_option maxRecDepth 20000 in
theorem AllocOnce_ok {w : World} {places : Int} {s : Sl} {os : List Op} (h : RdC s.p (s.len * 3) (os.flatMap encO) w) :
    Cl Try.prog 4 [.int .i64 places, .slice s.p s.len s.cap] false [.sc .b] (fun r w' => r.1 = true ∧ Keeps [] w w') w := by
  apply sumpterlaw08_AllocOnce_call
  unfold sumpterlaw08_AllocOnce
  refine Cl.mono live_ok ?_
  rintro r1 w1 ⟨h1, hk1⟩
  rw [h1]
  by_cases hpl : 1 ≤ places ∧ places ≤ 1024
  case neg =>
    refine Cl.mono (New_no hpl) ?_
    rintro r2 _ ⟨rfl, rfl⟩
    exact ⟨by trivial, hk1⟩
  obtain ⟨n, rfl⟩ : ∃ n : Nat, places = (n : Int) := ⟨places.toNat, by omega⟩
  refine Cl.mono (New_yes (n := n) (by omega) (by omega)) ?_
  rintro r2 w2 ⟨rfl, hA2, hk2⟩
  generalize hp : w1.heap.size = p at *
  have hz1 := hk1.size
  have hpw : w.heap.size ≤ p := by omega
  simp only [sx, Option.isNone_some]
  have hk02 : Keeps [] w w2 := hk1.trans hk2 (by simp)
  by_cases hlong : 300 < s.len
  · rw [decide_eq_true (by omega)]
    exact ⟨by trivial, hk02⟩
  rw [decide_eq_false (by omega)]
  simp only [sx]
  have hol : os.length = s.len := by
    have := h.1
    rw [flat_length encO_len] at this
    omega
  refine ⟨fun m st w' => ∃ (k : Nat) (T : Nat → Bool), st = (false, (k : Int), ()) ∧ m = s.len - k ∧ k ≤ s.len ∧ AlAt w' p n T ∧ Keeps [] w w', ⟨s.len, 0, _, rfl, by simp, by omega, hA2, hk02⟩, ?_⟩
  rintro _ _ w3 ⟨k, T, rfl, rfl, hk, hA3, hk3⟩
  dsimp only
  have hn2 := hA3.n2
  have hn1 := hA3.n1
  by_cases hlt : k < s.len
  · rw [decide_eq_true (by omega)]
    simp only [sx]
    obtain ⟨o, ho⟩ : ∃ o, os[k]? = some o := ⟨_, List.getElem?_eq_getElem (by omega)⟩
    have hwk : w64 ((k : Int) + 1) = ((k + 1 : Nat) : Int) := w64_nat (n := k + 1) (by omega)
    refine Jp_of (fun st w' => st = (false, ()) ∧ ∃ T' : Nat → Bool, AlAt w' p n T' ∧ Keeps [] w w') ?_ ?_
    case refine_2 =>
      rintro _ w' ⟨rfl, T', hA', hk'⟩
      exact ⟨s.len - (k + 1), by omega, k + 1, T', by rw [hwk], rfl, by omega, hA', hk'⟩
    intro J hJ
    have done : ∀ (T' : Nat → Bool) (w' : World), AlAt w' p n T' → Keeps [] w w' → J (false, ()) w' := fun T' w' a b => hJ _ _ ⟨rfl, T', a, b⟩
    refine Ix_row (rdc_keeps h hk3 (by simp)) (by omega) hlt fun a hc => ?_
    have hc' : ∀ j v, j < 3 → (encO o)[j]? = some v → w3.cell? (a.add j) = some v := fun j v hj hv => hc j v hj (by rw [flat_get encO_len os k j hj, ho]; exact hv)
    refine ⟨_, hc' 0 _ (by omega) rfl, _, hc' 1 _ (by omega) rfl, _, hc' 2 _ (by omega) rfl, ?_⟩
    simp (disch := ((try simp only [sx]); first | done | omega)) only [sx, sxc, sxl, Nat.zero_add, Nat.reduceAdd, Nat.reduceLT, true_and]
    generalize hw5 : setObjW (w3.alloc (.cells #[.int .i64 0, .int .i64 0, .bool false] 29)) w3.heap.size (.cells #[.int .i64 o.a, .int .i64 o.b, .bool o.g] 29) = w5
    have hk35 : Keeps [] w3 w5 := by subst hw5; exact ((Keeps.refl [] w3).alloc _).setObjW (.inr (Nat.le_refl _)) _
    have hq5 : w5.heap[w3.heap.size]? = some (.cells #[.int .i64 o.a, .int .i64 o.b, .bool o.g] 29) := by subst hw5; exact hp_setObjW_same (by rw [World.size_alloc]; omega)
    have hA5 := hA3.keeps hk35 (by simp)
    have hk5 := hk3.trans hk35 (by simp)
    generalize hB : w3.heap.size = B at *
    have hpB : p ≠ B := by have := hA3.lt; omega
    refine Cl.mono (Clone_ok hA5) ?_
    rintro r12 w6 ⟨g12, hC6, hk56⟩
    rw [g12]
    generalize hcc : w5.heap.size = c at *
    have hpc : p ≠ c := by have := hA5.lt; omega
    have hA6 := hA5.keeps hk56 (by simp)
    have hk6 := hk5.trans hk56 (by simp)
    have hq6 := hk56.at hq5 (by simp)
    simp only [sx, Option.isNone_some, sxl, hq6, Nat.zero_add]
    refine Br_of (fun _ => ?_) (fun _ => ?_)
    · -- one is given back
      refine Jp_of (fun st w' => st = (false, ()) ∧ ∃ T' : Nat → Bool, AlAt w' p n T' ∧ Keeps [] w w') ?_ ?_
      case refine_2 =>
        rintro _ w' ⟨rfl, T', hA', hk'⟩
        exact done T' w' hA' hk'
      intro J14 hJ14
      have hkd : Keeps [] w6 w6.drew := (Keeps.refl [] w6).drew
      simp only [sx, sxl, hq6, Nat.zero_add]
      refine Cl.mono (Give_ok (hA6.keeps hkd (by simp)) o.b) ?_
      rintro r18 w7 ⟨g18, hA7, hk67⟩
      have hq7 := hk67.at (hkd.at hq6 (by simp)) (by simp; exact hpB.symm)
      simp only [sx, sxl, hq7, Nat.zero_add, and_true, true_and]
      have hC7 := (hC6.keeps hkd (by simp)).keeps hk67 (by simp; exact hpc.symm)
      refine Cl.mono (Has_ok hC7 _) ?_
      rintro r20 _ ⟨g20, rfl⟩
      have hx : ((r18.1 : Int) == 0) = r20.1 := by
        rw [g18, g20, has_def]
        cases has T o.b <;> rfl
      rw [hx, beq_self_eq_true]
      simp only [sx, sxl, hq7, Nat.zero_add, Bool.not_true]
      refine Cl.mono (Has_ok hA7 _) ?_
      rintro r22 _ ⟨g22, rfl⟩
      have hf : r22.1 = false := by
        rw [g22]
        by_cases h0 : 0 ≤ o.b
        · rw [if_pos (by omega)]; simp
        · rw [decide_eq_false h0]; rfl
      rw [hf]
      exact hJ14 _ _ ⟨rfl, _, hA7, (hk6.trans hkd (by simp)).trans hk67 (by simp; omega)⟩
    · -- some are taken
      obtain ⟨N, hN1, hN5, hN⟩ := five o.b
      simp only [sx, sxl, hq6, Nat.zero_add, hN]
      refine ⟨by omega, by omega, ?_⟩
      refine Cl.mono (TakeRun_ok hA6 hN1 (by omega)) ?_
      rintro r24 w7 (⟨rfl, _, rfl⟩ | ⟨a', rfl, hab, hfa, _, hA7, hk67⟩)
      · simp only [show (((62 : Int) != 0) = true) from rfl, sx]
        refine Cl.mono (Left_ok hA6) ?_
        rintro r25 _ ⟨g25, rfl⟩
        refine Cl.mono (Left_ok hC6) ?_
        rintro r26 _ ⟨g26, rfl⟩
        rw [g25, g26, bne_self_eq_false]
        exact done T _ hA6 hk6
      · simp only [bne_self_eq_false, sx]
        have hk7 := hk6.trans hk67 (by simp; omega)
        have hC7 := hC6.keeps hk67 (by simp; exact hpc.symm)
        have e1 : w64 ((a' : Int) + (N : Int)) = ((a' + N : Nat) : Int) := by rw [← Int.natCast_add]; exact w64_nat (by omega)
        refine ⟨fun m st w' => w7 = w' ∧ ∃ j : Nat, st = (false, ((a' + j : Nat) : Int), ()) ∧ m = N - j ∧ j ≤ N, ⟨N, rfl, 0, rfl, by omega, by omega⟩, ?_⟩
        rintro _ _ _ ⟨rfl, j, rfl, rfl, hj⟩
        dsimp only
        rw [e1]
        by_cases hjN : j < N
        · rw [decide_eq_true (by omega)]
          simp only [sx]
          refine Jp_of (fun st w' => w7 = w' ∧ st = (false, ())) ?_ ?_
          · intro J29 hJ29
            refine Cl.mono (Has_ok hC7 _) ?_
            rintro r31 _ ⟨g31, rfl⟩
            rw [g31, has_def, has_nat, hfa j hjN]
            simp only [sx]
            refine Cl.mono (Has_ok hA7 _) ?_
            rintro r32 _ ⟨g32, rfl⟩
            rw [g32, has_def, has_nat, runT, if_pos (by omega)]
            exact hJ29 _ _ ⟨rfl, rfl⟩
          rintro _ _ ⟨rfl, rfl⟩
          have e2 : w64 (((a' + j : Nat) : Int) + 1) = ((a' + (j + 1) : Nat) : Int) := w64_nat (n := a' + (j + 1)) (by omega)
          exact ⟨N - (j + 1), by omega, rfl, j + 1, by rw [e2], rfl, by omega⟩
        · rw [decide_eq_false (by omega)]
          simp only [sx]
          refine Cl.mono (Left_ok hA7) ?_
          rintro r33 _ ⟨g33, rfl⟩
          refine Cl.mono (Left_ok hC7) ?_
          rintro r34 _ ⟨g34, rfl⟩
          have hcr := cnt_run hab hfa
          have hcl := cnt_le (runT T a' N) n
          have e3 : w64 (((n - cnt T n : Nat) : Int) - (N : Int)) = ((n - cnt (runT T a' N) n : Nat) : Int) := by
            rw [w64_in (by omega) (by omega)]
            omega
          rw [g33, g34, e3, bne_self_eq_false]
          exact done _ _ hA7 hk7
  rw [decide_eq_false (by omega)]
  simp only [sx]
  refine Cl.mono (Bits_ok hA3) ?_
  rintro r35 w4 ⟨bs, ht, hs4, hk34, hf4⟩
  have hA4 := hA3.keeps hk34 (by simp)
  have hk4 := hk3.trans hk34 (by simp)
  obtain ⟨hg, hgt⟩ := tells_good ht hA3.out
  refine Cl.mono (Load_good hn1 hn2 hs4.rdb hg) ?_
  rintro r36 w5 ⟨rfl, hL5, hk45⟩
  have hL5 := hL5.congr hgt
  generalize hlp : w4.heap.size = lp at *
  have hkd : Keeps [] w5 w5.drew := (Keeps.refl [] w5).drew
  simp only [sx, BEq.rfl, Option.isNone_some, Bool.not_false]
  refine Cl.mono (Bits_ok (hL5.keeps hkd (by simp))) ?_
  rintro r37 w6 ⟨bs1, ht1, hs6, hk56, _⟩
  refine BtoS_of hs6.rdb ?_
  have hk46 : Keeps [] w4 w6 := (hk45.trans hkd (by simp)).trans hk56 (by simp)
  have hA6 := hA4.keeps hk46 (by simp)
  have hL6 := (hL5.keeps hkd (by simp)).keeps hk56 (by simp)
  refine Cl.mono (Bits_ok hA6) ?_
  rintro r39 w7 ⟨bs2, ht2, hs7, hk67, _⟩
  have e12 := tells_unique ht1 ht2
  subst e12
  refine ⟨BtoS_of (hs6.keeps hk67 (by simp)).rdb rfl, ?_⟩
  refine BtoS_of hs7.rdb ?_
  simp only [seq_refl, sx]
  refine Cl.mono (Left_ok (hL6.keeps hk67 (by simp))) ?_
  rintro r42 _ ⟨g42, rfl⟩
  refine Cl.mono (Left_ok (hA6.keeps hk67 (by simp))) ?_
  rintro r43 _ ⟨g43, rfl⟩
  rw [g42, g43]
  exact ⟨beq_self_eq_true _, (hk4.trans hk46 (by simp)).trans hk67 (by simp)⟩

end Go.Proofs.Ytdpbgcplcjhjmaa
