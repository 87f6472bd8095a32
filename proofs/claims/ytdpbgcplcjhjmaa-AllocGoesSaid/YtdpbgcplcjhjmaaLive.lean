/- The chapter's examples (live), and the law AllocLeast. -/
import Derived.Test.YtdpbgcplcjhjmaaAl
set_option linter.unusedVariables false
set_option linter.unusedSimpArgs false
namespace Go.Proofs.Ytdpbgcplcjhjmaa
open Go Go.Sx

theorem TakeRun_is {w : World} {p n : Nat} {T : Nat → Bool} (h : AlAt w p n T) {k : Nat} (hk : 1 ≤ k) (hk2 : k < 2 ^ 63) (c : Nat) (hc : c + k ≤ n) (hf : freeAt T k c) (hl : ∀ b, b < c → ¬ freeAt T k b) :
    Cl Try.prog 11 [.pointer (some ⟨p, 0, none⟩), .int .i64 (k : Int)] true [.sc (.i .i64), .sc (.i .i64)] (fun r w' => r = ((c : Int), 0, ()) ∧ AlAt w' p n (runT T c k) ∧ Keeps [p] w w') w := by
  refine Cl.mono (TakeRun_ok h hk hk2) ?_
  rintro r w' (⟨_, hn, _⟩ | ⟨a, rfl, _, hfa, hla, h1, h2⟩)
  · exact absurd hf (hn c hc)
  · have : a = c := by
      rcases Nat.lt_trichotomy a c with h' | h' | h'
      · exact absurd hfa (hl a h')
      · exact h'
      · exact absurd hf (hla c h')
    subst this
    exact ⟨rfl, h1, h2⟩
theorem Take_is {w : World} {p n : Nat} {T : Nat → Bool} (h : AlAt w p n T) (c : Nat) (hc : c + 1 ≤ n) (hf : freeAt T 1 c) (hl : ∀ b, b < c → ¬ freeAt T 1 b) :
    Cl Try.prog 17 [.pointer (some ⟨p, 0, none⟩)] true [.sc (.i .i64), .sc (.i .i64)] (fun r w' => r = ((c : Int), 0, ()) ∧ AlAt w' p n (runT T c 1) ∧ Keeps [p] w w') w := by
  apply alloc_Alloc_Take_call
  unfold alloc_Alloc_Take
  exact TakeRun_is (k := 1) h (by omega) (by decide) c hc hf hl

theorem byte_eq (b : UInt8) (x : Nat) (hx : x < 256) (h : ∀ j, j < 8 → b.toNat.testBit j = x.testBit j) : b.toNat = x := by
  apply Nat.eq_of_testBit_eq
  intro j
  by_cases hj : j < 8
  · exact h j hj
  · have e : (2 : Nat) ^ 8 ≤ 2 ^ j := Nat.pow_le_pow_right (by omega) (by omega)
    have hb := b.toNat_lt
    rw [Nat.testBit_lt_two_pow (by omega), Nat.testBit_lt_two_pow (by omega)]

def T1 : Nat → Bool := runT (fun _ => false) 0 1
def T2 : Nat → Bool := runT T1 1 1
def T3 : Nat → Bool := fun j => if (j : Int) = 0 then false else T2 j
def T4 : Nat → Bool := runT T3 2 2
def T5 : Nat → Bool := runT T4 0 1

theorem live_ok {w : World} : Cl Try.prog 7 [] false [.sc .b] (fun r w' => r.1 = true ∧ Keeps [] w w') w := by
  apply sumpterlaw08_live_call
  unfold sumpterlaw08_live
  refine Cl.mono (New_yes (n := 10) (by omega) (by omega)) ?_
  rintro r1 w1 ⟨rfl, hA1, hk1⟩
  generalize hp : w.heap.size = p at *
  simp only [Jp, sx, Option.isNone_some, bne_self_eq_false]
  refine Cl.mono (Take_is hA1 0 (by omega) (by unfold freeAt; decide) (fun b hb => by omega)) ?_
  rintro r4 w2 ⟨rfl, hA2, hk2⟩
  refine Cl.mono (Take_is (T := T1) hA2 1 (by omega) (by unfold freeAt; decide) (by unfold freeAt; decide)) ?_
  rintro r5 w3 ⟨rfl, hA3, hk3⟩
  refine Cl.mono (Give_ok (T := T2) hA3 0) ?_
  rintro r6 w4 ⟨h6, hA4, hk4⟩
  refine Cl.mono (TakeRun_is (T := T3) (k := 2) hA4 (by omega) (by decide) 2 (by omega) (by unfold freeAt; decide) (by unfold freeAt; decide)) ?_
  rintro r7 w5 ⟨rfl, hA5, hk5⟩
  refine Cl.mono (Take_is (T := T4) hA5 0 (by omega) (by unfold freeAt; decide) (fun b hb => by omega)) ?_
  rintro r8 w6 ⟨rfl, hA6, hk6⟩
  refine Cl.mono (Bits_ok (T := T5) hA6) ?_
  rintro r9 w7 ⟨bs, ⟨hbl, hbt⟩, hs7, hk7, _⟩
  have h6' : r6.1 = 0 := by rw [h6]; rfl
  have hl : r9.1.len = 2 := by
    have := hs7.len
    rw [cB_length, hbl] at this
    omega
  simp only [h6', hl, Int.cast_ofNat_Int, show ((0 : Nat) : Int) = 0 from rfl, show ((1 : Nat) : Int) = 1 from rfl, BEq.rfl, sx]
  obtain ⟨b, o, hpb, hbs⟩ := hs7.base (by omega)
  match bs, hbl with
  | [b0, b1], _ =>
    have e0 : b0.toNat = 15 := byte_eq b0 15 (by omega) fun j hj => by
      rw [hbt 0 b0 rfl j hj]
      have : ∀ j : Fin 8, T5 (8 * 0 + j.val) = (15 : Nat).testBit j.val := by decide
      exact this ⟨j, hj⟩
    have e1 : b1.toNat = 0 := byte_eq b1 0 (by omega) fun j hj => by
      rw [hbt 1 b1 rfl j hj]
      have : ∀ j : Fin 8, T5 (8 * 1 + j.val) = (0 : Nat).testBit j.val := by decide
      exact this ⟨j, hj⟩
    have m0 := hs7.read hpb (j := 0) (by simp [cB])
    have m1 := hs7.read hpb (j := 1) (by simp [cB])
    simp only [cB, List.map_cons, List.map_nil, sxl, e0, e1, Nat.add_zero] at m0 m1
    simp (disch := ((try simp only [sx]); first | done | omega)) only [sx, Ix_base hpb, m0, m1, Int.toNat_zero, Int.toNat_one, Nat.zero_mul, Nat.one_mul, Nat.add_zero, Int.cast_ofNat_Int, show ((0 : Nat) : Int) = 0 from rfl, BEq.rfl]
    refine Cl.mono (Left_ok (T := T5) (hA6.keeps hk7 (by simp))) ?_
    rintro r14 _ ⟨h14, rfl⟩
    rw [h14]
    refine ⟨by decide, ?_⟩
    have z1 := hk1.size
    exact ((((((hk1.trans hk2 (by simp; omega)).trans hk3 (by simp; omega)).trans hk4 (by simp; omega)).trans hk5 (by simp; omega)).trans hk6 (by simp; omega))).trans hk7 (by simp)

/-! ### the law AllocLeast -/
structure Op where
  a : Int
  b : Int
  g : Bool
def encO (o : Op) : List Value := [.int .i64 o.a, .int .i64 o.b, .bool o.g]
theorem encO_len (o : Op) : (encO o).length = 3 := rfl

instance (T : Nat → Bool) (k a : Nat) : Decidable (freeAt T k a) := by unfold freeAt; infer_instance

theorem six (n : Int) : ∃ N : Nat, 1 ≤ N ∧ N ≤ 6 ∧ w64 (1 + ((w64 ((n : Int).tmod 6 + 6)).tmod 6)) = (N : Int) := by
  have h1 : -6 < n.tmod 6 := by
    have := Int.lt_tmod_of_pos n (b := 6) (by omega); omega
  have h2 : n.tmod 6 < 6 := Int.tmod_lt_of_pos n (by omega)
  rw [w64_in (n := n.tmod 6 + 6) (by omega) (by omega)]
  have h3 : 0 ≤ (n.tmod 6 + 6).tmod 6 := Int.tmod_nonneg _ (by omega)
  have h4 : (n.tmod 6 + 6).tmod 6 < 6 := Int.tmod_lt_of_pos _ (by omega)
  refine ⟨(1 + (n.tmod 6 + 6).tmod 6).toNat, by omega, by omega, ?_⟩
  rw [w64_in (by omega) (by omega)]
  omega

def WantI (T : Nat → Bool) (N n : Nat) (want : Int) (i : Nat) : Prop :=
  (want = -1 ∧ ∀ b, b < i → b + N ≤ n → ¬ freeAt T N b) ∨ ∃ c : Nat, want = (c : Int) ∧ c + N ≤ n ∧ freeAt T N c ∧ ∀ b, b < c → ¬ freeAt T N b

set_option maxRecDepth 20000 in
theorem AllocLeast_ok {w : World} {places : Int} {s : Sl} {os : List Op} {num : Int} (h : RdC s.p (s.len * 3) (os.flatMap encO) w) (hmax : s.len ≤ 9223372036854775807) :
    Cl Try.prog 3 [.int .i64 places, .slice s.p s.len s.cap, .int .i64 num] false [.sc .b] (fun r w' => r.1 = true ∧ Keeps [] w w') w := by
  apply sumpterlaw08_AllocLeast_call
  unfold sumpterlaw08_AllocLeast
  refine Cl.mono live_ok ?_
  rintro r1 w1 ⟨h1, hk1⟩
  rw [h1]
  by_cases hpl : 1 ≤ places ∧ places ≤ 1024
  case neg =>
    refine Cl.mono (New_no hpl) ?_
    rintro r2 _ ⟨rfl, rfl⟩
    exact ⟨by trivial, hk1⟩
  obtain ⟨n, rfl⟩ : ∃ n : Nat, places = (n : Int) := ⟨places.toNat, by omega⟩
  refine Cl.mono (New_yes (n := n) (by omega) (by omega)) ?_
  rintro r2 w2 ⟨rfl, hA2, hk2⟩
  generalize hp : w1.heap.size = p at *
  have hz1 := hk1.size
  simp only [sx, Option.isNone_some]
  have hk02 : Keeps [] w w2 := hk1.trans hk2 (by simp)
  have hol : os.length = s.len := by
    have := h.1
    rw [flat_length encO_len] at this
    omega
  -- the marks
  refine ⟨fun m st w' => ∃ (k : Nat) (T : Nat → Bool), st = ((k : Int), ()) ∧ m = s.len - k ∧ k ≤ s.len ∧ AlAt w' p n T ∧ Keeps [] w w', ⟨s.len, 0, _, rfl, by simp, by omega, hA2, hk02⟩, ?_⟩
  rintro _ _ w3 ⟨k, T, rfl, rfl, hk, hA3, hk3⟩
  dsimp only
  by_cases hlt : k < s.len
  · rw [decide_eq_true (by omega)]
    simp only [sx]
    obtain ⟨o, ho⟩ : ∃ o, os[k]? = some o := ⟨_, List.getElem?_eq_getElem (by omega)⟩
    have hwk : w64 ((k : Int) + 1) = ((k + 1 : Nat) : Int) := w64_nat (n := k + 1) (by omega)
    refine Jp_of (fun _ w' => ∃ T' : Nat → Bool, AlAt w' p n T' ∧ Keeps [] w w') ?_ ?_
    case refine_2 =>
      rintro _ w' ⟨T', hA', hk'⟩
      exact ⟨s.len - (k + 1), by omega, k + 1, T', by rw [hwk], rfl, by omega, hA', hk'⟩
    intro J hJ
    refine Ix_row (rdc_keeps h hk3 (by simp)) (by omega) hlt fun a hc => ?_
    have hc' : ∀ j v, j < 3 → (encO o)[j]? = some v → w3.cell? (a.add j) = some v := fun j v hj hv => hc j v hj (by rw [flat_get encO_len os k j hj, ho]; exact hv)
    refine ⟨_, hc' 0 _ (by omega) rfl, _, hc' 1 _ (by omega) rfl, _, hc' 2 _ (by omega) rfl, ?_⟩
    simp (disch := ((try simp only [sx]); first | done | omega)) only [sx, sxc, sxl, Nat.zero_add, Nat.reduceAdd, Nat.reduceLT, true_and]
    generalize hw5 : setObjW (w3.alloc (.cells #[.int .i64 0, .int .i64 0, .bool false] 29)) w3.heap.size (.cells #[.int .i64 o.a, .int .i64 o.b, .bool o.g] 29) = w5
    have hk35 : Keeps [] w3 w5 := by subst hw5; exact ((Keeps.refl [] w3).alloc _).setObjW (.inr (Nat.le_refl _)) _
    have hq5 : w5.heap[w3.heap.size]? = some (.cells #[.int .i64 o.a, .int .i64 o.b, .bool o.g] 29) := by subst hw5; exact hp_setObjW_same (by rw [World.size_alloc]; omega)
    have hA5 := hA3.keeps hk35 (by simp)
    have hk5 := hk3.trans hk35 (by simp)
    rcases Nat.lt_or_ge k 200 with h200 | h200
    · rw [decide_eq_true (by omega)]
      simp only [sx, sxl, hq5, Nat.zero_add]
      refine Cl.mono (Mark_ok hA5 o.b) ?_
      rintro r13 w4 ⟨_, hA4, hk4⟩
      exact hJ _ _ ⟨_, hA4, hk5.trans hk4 (by simp; omega)⟩
    · rw [decide_eq_false (by omega)]
      exact hJ _ _ ⟨T, hA5, hk5⟩
  rw [decide_eq_false (by omega)]
  obtain ⟨N, hN1, hN6, hN⟩ := six num
  simp only [sx, hN]
  refine ⟨by omega, by omega, ?_⟩
  -- what is wanted
  refine ⟨fun m st w' => w3 = w' ∧ ∃ (i : Nat) (want : Int), st = (want, (i : Int), ()) ∧ m = n + 1 - i ∧ i ≤ n ∧ WantI T N n want i, ⟨n + 1, rfl, 0, -1, rfl, by omega, by omega, .inl ⟨rfl, fun b hb => by omega⟩⟩, ?_⟩
  rintro _ _ _ ⟨rfl, i, want, rfl, rfl, hi, hW⟩
  dsimp only
  have hn2 := hA3.n2
  have hwi : w64 ((i : Int) + (N : Int)) = ((i + N : Nat) : Int) := by rw [← Int.natCast_add]; exact w64_nat (by omega)
  have hwi1 : w64 ((i : Int) + 1) = ((i + 1 : Nat) : Int) := w64_nat (n := i + 1) (by omega)
  rw [hwi]
  refine Jp_of (fun st w' => w3 = w' ∧ st = (decide (i + N ≤ n ∧ want < 0), ())) ?_ ?_
  · intro J hJ
    refine Br_of (fun hc => hJ _ _ ⟨rfl, ?_⟩) (fun hc => hJ _ _ ⟨rfl, ?_⟩)
    · simp only [decide_eq_true_eq] at hc
      congr 1
      exact decide_eq_decide.2 ⟨fun hw => ⟨by omega, hw⟩, fun hw => hw.2⟩
    · simp only [decide_eq_false_iff_not] at hc
      congr 1
      exact (decide_eq_false (fun hw => hc (by omega))).symm
  rintro _ _ ⟨rfl, rfl⟩
  by_cases hin : i + N ≤ n ∧ want < 0
  · rw [decide_eq_true hin]
    simp only [sx]
    have hno : ∀ b, b < i → b + N ≤ n → ¬ freeAt T N b := by
      rcases hW with ⟨_, hW⟩ | ⟨c, hc, _⟩
      · exact hW
      · omega
    refine Jp_of (fun st w' => w3 = w' ∧ ∃ want' : Int, st = (want', ()) ∧ WantI T N n want' (i + 1)) ?_ ?_
    case refine_2 =>
      rintro _ _ ⟨rfl, want', rfl, hW'⟩
      exact ⟨n + 1 - (i + 1), by omega, rfl, i + 1, want', by rw [hwi1], rfl, by omega, hW'⟩
    intro J hJ
    refine ⟨fun m st w' => w3 = w' ∧ ∃ j : Nat, st = (decide (freeAt T j i), ((i + j : Nat) : Int), ()) ∧ m = N - j ∧ j ≤ N, ⟨N, rfl, 0, by simp [freeAt], by omega, by omega⟩, ?_⟩
    rintro _ _ _ ⟨rfl, j, rfl, rfl, hj⟩
    dsimp only
    by_cases hjN : j < N
    · rw [decide_eq_true (by omega)]
      simp only [sx]
      have hwj : w64 (((i + j : Nat) : Int) + 1) = ((i + (j + 1) : Nat) : Int) := w64_nat (n := i + (j + 1)) (by omega)
      have hstep : freeAt T (j + 1) i ↔ freeAt T j i ∧ T (i + j) = false := by
        constructor
        · exact fun hf => ⟨fun x hx => hf x (by omega), hf j (by omega)⟩
        · rintro ⟨hf, hT⟩ x hx
          rcases Nat.lt_or_ge x j with h' | h'
          · exact hf x h'
          · rw [show x = j from by omega]; exact hT
      refine Jp_of (fun st w' => w3 = w' ∧ st = (decide (freeAt T (j + 1) i), ())) ?_ ?_
      · intro J2 hJ2
        refine Br_of (fun hf => ?_) (fun hf => ?_)
        · simp only [decide_eq_true_eq] at hf
          refine Cl.mono (Has_ok hA3 _) ?_
          rintro r24 _ ⟨hr, rfl⟩
          refine hJ2 _ _ ⟨rfl, ?_⟩
          rw [hr, show (decide (0 ≤ ((i + j : Nat) : Int)) && T ((i + j : Nat) : Int).toNat) = has T ((i + j : Nat) : Int) from rfl, has_nat]
          congr 1
          cases hT : T (i + j) with
          | true => exact (decide_eq_false (fun hh => by have := (hstep.1 hh).2; rw [hT] at this; cases this)).symm
          | false => exact (decide_eq_true (hstep.2 ⟨hf, hT⟩)).symm
        · simp only [decide_eq_false_iff_not] at hf
          refine hJ2 _ _ ⟨rfl, ?_⟩
          rw [decide_eq_false (fun hh => hf (hstep.1 hh).1)]
      rintro _ _ ⟨rfl, rfl⟩
      exact ⟨N - (j + 1), by omega, rfl, j + 1, by rw [hwj], rfl, by omega⟩
    · have : j = N := by omega
      subst this
      rw [decide_eq_false (by omega)]
      simp only [sx]
      refine Br_of (fun hf => ?_) (fun hf => ?_)
      · simp only [decide_eq_true_eq] at hf
        exact hJ _ _ ⟨rfl, _, rfl, .inr ⟨i, rfl, hin.1, hf, fun b hb => hno b hb (by omega)⟩⟩
      · simp only [decide_eq_false_iff_not] at hf
        refine hJ _ _ ⟨rfl, _, rfl, .inl ⟨?_, fun b hb hbn => ?_⟩⟩
        · rcases hW with ⟨hW, _⟩ | ⟨c, hc, _⟩
          · exact hW
          · omega
        · rcases Nat.lt_or_ge b i with h' | h'
          · exact hno b h' hbn
          · rw [show b = i from by omega]; exact hf
  · rw [decide_eq_false hin]
    simp only [sx]
    refine Cl.mono (TakeRun_ok hA3 hN1 (by omega)) ?_
    have fin : ∀ w' : World, Keeps [p] w3 w' → Keeps [] w w' := fun w' hk' => hk3.trans hk' (by simp; omega)
    rintro r25 w4 (⟨rfl, hn, rfl⟩ | ⟨a, rfl, hab, hfa, hla, _, hk4⟩)
    · rcases hW with ⟨rfl, _⟩ | ⟨c, rfl, hc, hfc, _⟩
      · exact ⟨by trivial, hk3⟩
      · exact absurd hfc (hn c hc)
    · rcases hW with ⟨rfl, hW⟩ | ⟨c, rfl, hc, hfc, hlc⟩
      · have : i + N ≤ n → False := fun hh => hin ⟨hh, by omega⟩
        exact absurd hfa (hW a (by omega) hab)
      · have : a = c := by
          rcases Nat.lt_trichotomy a c with h' | h' | h'
          · exact absurd hfa (hlc a h')
          · exact h'
          · exact absurd hfc (hla c h')
        subst this
        rw [decide_eq_false (by omega)]
        simp only [sx, BEq.rfl]
        exact ⟨by trivial, fin _ hk4⟩

end Go.Proofs.Ytdpbgcplcjhjmaa
