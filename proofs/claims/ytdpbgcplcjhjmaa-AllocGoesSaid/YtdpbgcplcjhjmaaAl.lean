/- Contracts of package alloc's functions. -/
import Derived.Test.YtdpbgcplcjhjmaaSxU
import Derived.Test.YtdpbgcplcjhjmaaSem
set_option linter.unusedVariables false
set_option linter.unusedSimpArgs false
namespace Go.Proofs.Ytdpbgcplcjhjmaa
open Go Go.Sx

/-! ### the count of a word's bits -/
set_option maxRecDepth 100000 in
theorem OnesCount64_ok {w : World} {x : Nat} (hx : x < 2 ^ 64) : Cl Try.prog 26 [.int .u64 (x : Int)] false [.sc (.i .i64)] (fun r w' => r.1 = (Pop.popc 64 x : Int) ∧ w = w') w := by
  apply math_bits_OnesCount64_call
  unfold math_bits_OnesCount64
  obtain ⟨h1, h2, h3, h4, h5, h6⟩ := ones64 hx _ rfl _ rfl _ rfl _ rfl _ rfl
  simp only [sx]
  refine ⟨by omega, by omega, by omega, by omega, by omega, by omega, ?_, trivial⟩
  simp only [h1, h2, h3, h4, h5, h6]

/-! ### an alloc -/
def boxA (n : Nat) (ws : List Nat) : List Value := .int .i64 (n : Int) :: ws.map fun x : Nat => .int .u64 (x : Int)
def bitAt (ws : List Nat) (i : Nat) : Bool := (ws.getD (i / 64) 0).testBit (i % 64)

structure AlR (w : World) (p n : Nat) (ws : List Nat) (T : Nat → Bool) : Prop where
  box : w.heap[p]? = some (.cells (boxA n ws).toArray 53 (0, 0))
  len : ws.length = 16
  lt : ∀ x ∈ ws, x < 2 ^ 64
  n1 : 1 ≤ n
  n2 : n ≤ 1024
  bit : ∀ i, i < 1024 → bitAt ws i = T i
  out : ∀ i, n ≤ i → T i = false

def AlAt (w : World) (p n : Nat) (T : Nat → Bool) : Prop := ∃ ws, AlR w p n ws T

theorem AlAt.keeps {w w' : World} {p n : Nat} {T : Nat → Bool} {m : List Nat} (h : AlAt w p n T) (hk : Keeps m w w') (hd : p ∉ m) : AlAt w' p n T := by
  obtain ⟨ws, h⟩ := h
  exact ⟨ws, hk.at h.box hd, h.len, h.lt, h.n1, h.n2, h.bit, h.out⟩
theorem AlAt.lt {w : World} {p n : Nat} {T : Nat → Bool} (h : AlAt w p n T) : p < w.heap.size := by
  obtain ⟨ws, h⟩ := h
  exact hp_lt h.box
theorem AlAt.n1 {w : World} {p n : Nat} {T : Nat → Bool} (h : AlAt w p n T) : 1 ≤ n := by obtain ⟨ws, h⟩ := h; exact h.n1
theorem AlAt.n2 {w : World} {p n : Nat} {T : Nat → Bool} (h : AlAt w p n T) : n ≤ 1024 := by obtain ⟨ws, h⟩ := h; exact h.n2
theorem AlAt.out {w : World} {p n : Nat} {T : Nat → Bool} (h : AlAt w p n T) : ∀ i, n ≤ i → T i = false := by obtain ⟨ws, h⟩ := h; exact h.out
theorem AlAt.congr {w : World} {p n : Nat} {T T' : Nat → Bool} (h : AlAt w p n T) (he : ∀ i, T i = T' i) : AlAt w p n T' := by
  rw [← show T = T' from funext he]; exact h

theorem AlR.word {w : World} {p n : Nat} {ws : List Nat} {T : Nat → Bool} (h : AlR w p n ws T) {k : Nat} (hk : k < 16) : cellO w.heap[p]? (1 + k) = some (.int .u64 ((ws.getD k 0 : Nat) : Int)) := by
  have hl := h.len
  rw [h.box, cellO, List.getElem?_toArray, boxA, Nat.add_comm, List.getElem?_cons_succ, List.getElem?_map, List.getElem?_eq_getElem (by omega), Option.map_some, List.getD_eq_getElem?_getD, List.getElem?_eq_getElem (by omega)]
  rfl
theorem AlR.size0 {w : World} {p n : Nat} {ws : List Nat} {T : Nat → Bool} (h : AlR w p n ws T) : cellO w.heap[p]? 0 = some (.int .i64 (n : Int)) := by
  rw [h.box]; rfl
theorem AlR.wlt {w : World} {p n : Nat} {ws : List Nat} {T : Nat → Bool} (h : AlR w p n ws T) (k : Nat) : ws.getD k 0 < 2 ^ 64 := by
  rw [List.getD_eq_getElem?_getD]
  cases hk : ws[k]? with
  | none => simp
  | some x => exact h.lt x (List.mem_of_getElem? hk)

theorem bit_of_word (x s : Nat) (hx : x < 2 ^ 64) (hs : s < 64) : ((iand .u64 (ishr .u64 (x : Int) (s : Int)) 1 : Int) == 1) = x.testBit s := by
  have hsh : x >>> s < 2 ^ 64 := Nat.lt_of_le_of_lt (Nat.shiftRight_le _ _) hx
  rw [ishr_nat .u64 x s (by show s ≤ 64; omega), show (1 : Int) = ((1 : Nat) : Int) from rfl, iand_u64 hsh (by decide), Nat.testBit]
  rw [Nat.and_comm]
  cases hb : 1 &&& x >>> s with
  | zero => simp
  | succ m =>
    have : 1 &&& x >>> s ≤ 1 := Nat.and_le_left
    have hm : m = 0 := by omega
    subst hm
    simp

theorem Has_ok {w : World} {p n : Nat} {T : Nat → Bool} (h : AlAt w p n T) (i : Int) :
    Cl Try.prog 10 [.pointer (some ⟨p, 0, none⟩), .int .i64 i] false [.sc .b] (fun r w' => r.1 = (decide (0 ≤ i) && T i.toNat) ∧ w = w') w := by
  apply alloc_Alloc_Has_call
  unfold alloc_Alloc_Has
  obtain ⟨ws, h⟩ := h
  by_cases h0 : 0 ≤ i
  · obtain ⟨j, rfl⟩ : ∃ j : Nat, i = (j : Int) := ⟨i.toNat, by omega⟩
    have n2 := h.n2
    rw [decide_eq_true (by omega)]
    simp only [sx, h.size0, Nat.zero_add]
    by_cases hj : j < n
    · rw [decide_eq_true (by omega)]
      have e1 : w64 ((j : Int).tdiv 64) = ((j / 64 : Nat) : Int) := by
        rw [tdiv64]
        exact w64_nat (by omega)
      have e2 : (j : Int).tmod 64 = ((j % 64 : Nat) : Int) := tmod64 j
      simp only [sx, e1, e2, IxR, Int.toNat_natCast, Nat.mul_one, h.word (k := j / 64) (by omega)]
      refine ⟨by omega, by omega, by omega, by omega, by omega, ?_, trivial⟩
      rw [bit_of_word _ _ (h.wlt _) (by omega), Bool.true_and]
      exact h.bit j (by omega)
    · rw [decide_eq_false (by omega)]
      simp only [sx, Int.toNat_natCast, h.out j (by omega), Bool.and_false, and_self]
  · rw [decide_eq_false (by omega)]
    simp only [sx, decide_eq_false h0, Bool.false_and, and_self]

theorem set_ok {w : World} {p n : Nat} {T : Nat → Bool} (h : AlAt w p n T) {i : Nat} (hi : i < n) :
    Cl Try.prog 25 [.pointer (some ⟨p, 0, none⟩), .int .i64 (i : Int)] true [] (fun r w' => AlAt w' p n (fun j => if j = i then !T i else T j) ∧ Keeps [p] w w') w := by
  apply alloc_Alloc_set_call
  unfold alloc_Alloc_set
  obtain ⟨ws, h⟩ := h
  have n2 := h.n2
  have hl := h.len
  have e1 : w64 ((i : Int).tdiv 64) = ((i / 64 : Nat) : Int) := by
    rw [tdiv64]
    exact w64_nat (by omega)
  have e2 : (i : Int).tmod 64 = ((i % 64 : Nat) : Int) := tmod64 i
  simp only [sxr, e1, e2, IxR, Int.toNat_natCast, Nat.mul_one, Nat.zero_add, h.word (k := i / 64) (by omega)]
  refine ⟨by omega, by omega, by omega, by omega, by omega, by omega, by omega, ?_⟩
  have hx := h.wlt (i / 64)
  generalize hX : ws.getD (i / 64) 0 = x at hx
  have e3 : ishl .u64 1 ((i % 64 : Nat) : Int) = ((2 ^ (i % 64) : Nat) : Int) := by
    have := ishl_u64 1 (i % 64) (by omega)
    rw [Nat.shiftLeft_eq, Nat.one_mul, Nat.mod_eq_of_lt (Nat.pow_lt_pow_right (by omega) (by omega))] at this
    exact this
  have hp2 : 2 ^ (i % 64) < 2 ^ 64 := Nat.pow_lt_pow_right (by omega) (by omega)
  rw [e3, ixor_u64 hx hp2]
  have hxx : x ^^^ 2 ^ (i % 64) < 2 ^ 64 := Nat.xor_lt_two_pow hx hp2
  refine St_of (w := w.drew) h.box rfl (by simp [boxA, hl]; omega) (by simp) ?_
  refine ⟨⟨ws.set (i / 64) (x ^^^ 2 ^ (i % 64)), ⟨?_, by rw [List.length_set]; exact hl, ?_, h.n1, n2, ?_, ?_⟩⟩, ((Keeps.refl [p] w).drew).setObjW (.inl (by simp)) _⟩
  · rw [hp_setObjW_same (w := w.drew) (hp_lt h.box)]
    congr 2
    apply Array.toList_inj.1
    simp [boxA, List.map_set, Nat.add_comm 1]
  · intro y hy
    rcases List.mem_or_eq_of_mem_set hy with h' | h'
    · exact h.lt y h'
    · subst h'; exact hxx
  · intro j hj
    rw [← h.bit j hj]
    unfold bitAt
    by_cases hw : j / 64 = i / 64
    · have hg : (ws.set (i / 64) (x ^^^ 2 ^ (i % 64))).getD (j / 64) 0 = x ^^^ 2 ^ (i % 64) := by
        rw [List.getD_eq_getElem?_getD, hw, List.getElem?_set_self (by omega)]; rfl
      rw [hg, Nat.testBit_xor, Nat.testBit_two_pow, hw, hX]
      by_cases hji : j = i
      · subst hji
        rw [if_pos rfl]
        have := h.bit j hj
        unfold bitAt at this
        rw [hX] at this
        simp [this]
      · rw [if_neg hji]
        have : ¬ i % 64 = j % 64 := by omega
        simp [this]
    · have hg : (ws.set (i / 64) (x ^^^ 2 ^ (i % 64))).getD (j / 64) 0 = ws.getD (j / 64) 0 := by
        rw [List.getD_eq_getElem?_getD, List.getElem?_set_ne (fun hh => hw hh.symm), ← List.getD_eq_getElem?_getD]
      have hji : ¬ j = i := fun hh => hw (by rw [hh])
      rw [hg, if_neg hji]
  · intro j hj
    rw [if_neg (by omega)]
    exact h.out j hj

theorem New_no {w : World} {i : Int} (hi : ¬ (1 ≤ i ∧ i ≤ 1024)) : Cl Try.prog 8 [.int .i64 i] true [.sc .p, .sc (.i .i64)] (fun r w' => r = (none, 1, ()) ∧ w = w') w := by
  apply alloc_New_call
  unfold alloc_New
  simp only [Jp, sx]
  refine Br_of (fun h0 => ?_) (fun h0 => ?_)
  · exact ⟨by trivial, by trivial⟩
  · simp only [decide_eq_false_iff_not] at h0
    rw [decide_eq_true (by omega)]
    exact ⟨by trivial, by trivial⟩

theorem New_yes {w : World} {n : Nat} (h1 : 1 ≤ n) (h2 : n ≤ 1024) : Cl Try.prog 8 [.int .i64 (n : Int)] true [.sc .p, .sc (.i .i64)] (fun r w' => r = (some ⟨w.heap.size, 0, none⟩, 0, ()) ∧ AlAt w' w.heap.size n (fun _ => false) ∧ Keeps [] w w') w := by
  apply alloc_New_call
  unfold alloc_New
  simp only [Jp, sx]
  rw [decide_eq_false (by omega), decide_eq_false (by omega)]
  simp only [sx]
  refine ⟨trivial, ⟨List.replicate 16 0, hp_alloc_new _ _, rfl, by simp, h1, h2, ?_, by simp⟩, (Keeps.refl _ _).alloc _⟩
  intro i hi
  unfold bitAt
  rw [List.getD_eq_getElem?_getD, List.getElem?_replicate]
  split <;> simp

def has (T : Nat → Bool) (i : Int) : Bool := decide (0 ≤ i) && T i.toNat
theorem has_nat (T : Nat → Bool) (i : Nat) : has T (i : Int) = T i := by simp [has]

theorem Give_ok {w : World} {p n : Nat} {T : Nat → Bool} (h : AlAt w p n T) (i : Int) :
    Cl Try.prog 13 [.pointer (some ⟨p, 0, none⟩), .int .i64 i] false [.sc (.i .i64)]
      (fun r w' => r.1 = (if has T i then 0 else 5) ∧ AlAt w' p n (fun j => if (j : Int) = i then false else T j) ∧ Keeps [p] w w') w := by
  apply alloc_Alloc_Give_call
  unfold alloc_Alloc_Give
  refine Cl.mono (Has_ok h i) ?_
  rintro r _ ⟨hr, rfl⟩
  rw [hr]
  have e : (decide (0 ≤ i) && T i.toNat) = has T i := rfl
  rw [e]
  cases hh : has T i with
  | false =>
    simp only [Bool.not_false, sx]
    refine ⟨rfl, h.congr fun j => ?_, Keeps.refl _ _⟩
    split
    · rename_i hj
      subst hj
      rw [has_nat] at hh
      exact hh
    · rfl
  | true =>
    simp only [Bool.not_true, sx]
    have h0 : 0 ≤ i := by simp [has] at hh; exact hh.1
    obtain ⟨j, rfl⟩ : ∃ j : Nat, i = (j : Int) := ⟨i.toNat, by omega⟩
    rw [has_nat] at hh
    have hj : j < n := by
      rcases Nat.lt_or_ge j n with h' | h'
      · exact h'
      · rw [h.out j h'] at hh; cases hh
    refine Cl.mono (set_ok h hj) ?_
    rintro r w' ⟨h1, h2⟩
    refine ⟨rfl, h1.congr fun k => ?_, h2⟩
    by_cases hk : k = j
    · subst hk; simp [hh]
    · rw [if_neg hk, if_neg (by omega)]

theorem Mark_ok {w : World} {p n : Nat} {T : Nat → Bool} (h : AlAt w p n T) (i : Int) :
    Cl Try.prog 9 [.pointer (some ⟨p, 0, none⟩), .int .i64 i] false [.sc (.i .i64)]
      (fun r w' => r.1 = (if 0 ≤ i ∧ i < (n : Int) then (if has T i then 6 else 0) else 5) ∧ AlAt w' p n (fun j => if (j : Int) = i ∧ j < n then true else T j) ∧ Keeps [p] w w') w := by
  apply alloc_Alloc_Mark_call
  unfold alloc_Alloc_Mark
  refine Jp_of (fun s w' => s = (decide (¬ (0 ≤ i ∧ i < (n : Int))), ()) ∧ w = w') ?_ ?_
  · intro J hJ
    refine Br_of (fun h0 => hJ _ _ ⟨?_, rfl⟩) (fun h0 => ?_)
    · simp only [decide_eq_true_eq] at h0
      rw [decide_eq_true (by omega)]
    · simp only [decide_eq_false_iff_not] at h0
      obtain ⟨ws, hr⟩ := h
      simp only [sx, hr.size0, Nat.zero_add]
      refine hJ _ _ ⟨?_, rfl⟩
      congr 1
      apply decide_eq_decide.2
      omega
  rintro _ _ ⟨rfl, rfl⟩
  by_cases hi : 0 ≤ i ∧ i < (n : Int)
  · obtain ⟨j, rfl⟩ : ∃ j : Nat, i = (j : Int) := ⟨i.toNat, by omega⟩
    rw [decide_eq_false (fun hh => hh hi), if_pos hi]
    simp only [sx]
    refine Cl.mono (Has_ok h _) ?_
    rintro r _ ⟨hr, rfl⟩
    rw [hr, show (decide (0 ≤ (j : Int)) && T (j : Int).toNat) = has T (j : Int) from rfl, has_nat]
    cases hh : T j with
    | true =>
      refine ⟨rfl, h.congr fun k => ?_, Keeps.refl _ _⟩
      split
      · rename_i hk
        have : k = j := by omega
        subst this; exact hh
      · rfl
    | false =>
      simp only [sx]
      refine Cl.mono (set_ok h (i := j) (by omega)) ?_
      rintro r w' ⟨h1, h2⟩
      refine ⟨rfl, h1.congr fun k => ?_, h2⟩
      by_cases hk : k = j
      · subst hk; simp [hh]; omega
      · rw [if_neg hk, if_neg (by omega)]
  · rw [decide_eq_true hi, if_neg hi]
    simp only [sx]
    refine ⟨trivial, h.congr fun k => ?_, Keeps.refl _ _⟩
    rw [if_neg (by omega)]

/-! ### runs -/
def freeAt (T : Nat → Bool) (k a : Nat) : Prop := ∀ j, j < k → T (a + j) = false
def runT (T : Nat → Bool) (a k : Nat) : Nat → Bool := fun j => if a ≤ j ∧ j < a + k then true else T j

theorem TakeRun_none {w : World} {p n : Nat} {T : Nat → Bool} (h : AlAt w p n T) {k : Int} (hk : k < 1) :
    Cl Try.prog 11 [.pointer (some ⟨p, 0, none⟩), .int .i64 k] true [.sc (.i .i64), .sc (.i .i64)] (fun r w' => r = (0, 1, ()) ∧ w = w') w := by
  apply alloc_Alloc_TakeRun_call
  unfold alloc_Alloc_TakeRun
  rw [decide_eq_true hk]
  exact ⟨rfl, rfl⟩

theorem TakeRun_ok {w : World} {p n : Nat} {T : Nat → Bool} (h : AlAt w p n T) {k : Nat} (hk : 1 ≤ k) (hk2 : k < 2 ^ 63) :
    Cl Try.prog 11 [.pointer (some ⟨p, 0, none⟩), .int .i64 (k : Int)] true [.sc (.i .i64), .sc (.i .i64)]
      (fun r w' => (r = (0, 62, ()) ∧ (∀ a, a + k ≤ n → ¬ freeAt T k a) ∧ w = w') ∨
        ∃ a : Nat, r = ((a : Int), 0, ()) ∧ a + k ≤ n ∧ freeAt T k a ∧ (∀ b, b < a → ¬ freeAt T k b) ∧ AlAt w' p n (runT T a k) ∧ Keeps [p] w w') w := by
  have n1 := h.n1
  have n2 := h.n2
  obtain ⟨ws, hr⟩ := id h
  have e0 : w64 ((n : Int) - (k : Int)) = (n : Int) - (k : Int) := w64_in (by omega) (by omega)
  apply alloc_Alloc_TakeRun_call
  unfold alloc_Alloc_TakeRun
  rw [decide_eq_false (by omega)]
  simp only [sx]
  refine Jp_of (fun s w' => w = w' ∧ ∃ a : Nat, s = ((a : Int), ()) ∧ a ≤ n ∧ (a + k ≤ n → freeAt T k a) ∧ ∀ b, b < a → ¬ freeAt T k b) ?_ ?_
  · intro J hJ
    refine ⟨fun m s w' => w = w' ∧ ∃ a : Nat, s = ((a : Int), ()) ∧ a ≤ n ∧ m = n + 1 - a ∧ ∀ b, b < a → ¬ freeAt T k b, ⟨n + 1, rfl, 0, rfl, by omega, rfl, fun b hb => by omega⟩, ?_⟩
    rintro _ _ _ ⟨rfl, a, rfl, ha, rfl, hl⟩
    simp only [sx, hr.size0, Nat.zero_add, e0]
    refine Br_of (fun hc => ?_) (fun hc => ?_)
    · simp only [decide_eq_true_eq] at hc
      refine ⟨fun m s w' => w = w' ∧ ∃ j : Nat, s = ((a : Int), (j : Int), ()) ∧ j ≤ k ∧ m = k - j ∧ freeAt T j a, ⟨k, rfl, 0, rfl, by omega, by omega, fun i hi => by omega⟩, ?_⟩
      rintro _ _ _ ⟨rfl, j, rfl, hj, rfl, hf⟩
      dsimp only
      refine Br_of (fun hc2 => ?_) (fun hc2 => ?_)
      · simp only [decide_eq_true_eq] at hc2
        have e1 : w64 ((a : Int) + (j : Int)) = ((a + j : Nat) : Int) := by rw [← Int.natCast_add]; exact w64_nat (by omega)
        have e2 : w64 ((j : Int) + 1) = ((j + 1 : Nat) : Int) := w64_nat (n := j + 1) (by omega)
        have e3 : w64 ((a : Int) + ((j + 1 : Nat) : Int)) = ((a + (j + 1) : Nat) : Int) := by rw [← Int.natCast_add]; exact w64_nat (by omega)
        rw [e1, e2]
        refine Cl.mono (Has_ok h _) ?_
        rintro r _ ⟨hr', rfl⟩
        rw [hr', show (decide (0 ≤ ((a + j : Nat) : Int)) && T ((a + j : Nat) : Int).toNat) = has T ((a + j : Nat) : Int) from rfl, has_nat, e3]
        cases hT : T (a + j) with
        | true =>
          refine ⟨n + 1 - (a + (j + 1)), by omega, rfl, a + (j + 1), rfl, by omega, rfl, fun b hb hfb => ?_⟩
          rcases Nat.lt_or_ge b a with h' | h'
          · exact hl b h' hfb
          · have := hfb (a + j - b) (by omega)
            rw [show b + (a + j - b) = a + j from by omega, hT] at this
            cases this
        | false =>
          refine ⟨k - (j + 1), by omega, rfl, j + 1, rfl, by omega, rfl, fun i hi => ?_⟩
          rcases Nat.lt_or_ge i j with h' | h'
          · exact hf i h'
          · rw [show i = j from by omega]; exact hT
      · simp only [decide_eq_false_iff_not] at hc2
        have : j = k := by omega
        subst this
        exact hJ _ _ ⟨rfl, a, rfl, ha, fun _ => hf, hl⟩
    · simp only [decide_eq_false_iff_not] at hc
      exact hJ _ _ ⟨rfl, a, rfl, ha, fun hh => by omega, hl⟩
  rintro _ _ ⟨rfl, a, rfl, ha, hf, hl⟩
  simp only [sx, hr.size0, Nat.zero_add, e0]
  by_cases hc : a + k ≤ n
  · rw [decide_eq_false (by omega)]
    simp only [sx]
    refine ⟨fun m s w' => ∃ j : Nat, s = ((j : Int), ()) ∧ j ≤ k ∧ m = k - j ∧ AlAt w' p n (runT T a j) ∧ Keeps [p] w w', ⟨k, 0, rfl, by omega, by omega, h.congr fun i => by rw [runT, if_neg (by omega)], Keeps.refl _ _⟩, ?_⟩
    rintro _ _ w1 ⟨j, rfl, hj, rfl, hA, hk1⟩
    dsimp only
    by_cases hjk : j < k
    · rw [decide_eq_true (by omega)]
      simp only [sx]
      have e1 : w64 ((a : Int) + (j : Int)) = ((a + j : Nat) : Int) := by rw [← Int.natCast_add]; exact w64_nat (by omega)
      have e2 : w64 ((j : Int) + 1) = ((j + 1 : Nat) : Int) := w64_nat (n := j + 1) (by omega)
      rw [e1, e2]
      refine Cl.mono (set_ok hA (i := a + j) (by omega)) ?_
      rintro r w2 ⟨h1, h2⟩
      refine ⟨k - (j + 1), by omega, j + 1, rfl, by omega, rfl, h1.congr fun i => ?_, hk1.trans h2 (by simp)⟩
      simp only [runT]
      by_cases hi : i = a + j
      · subst hi
        rw [if_pos rfl, if_neg (by omega), if_pos (by omega), hf hc j hjk]
        rfl
      · rw [if_neg hi]
        by_cases hi2 : a ≤ i ∧ i < a + j
        · rw [if_pos hi2, if_pos (by omega)]
        · rw [if_neg hi2, if_neg (by omega)]
    · have : j = k := by omega
      subst this
      rw [decide_eq_false (by omega)]
      exact .inr ⟨a, rfl, hc, hf hc, hl, hA, hk1⟩
  · rw [decide_eq_true (by omega)]
    exact .inl ⟨by trivial, fun b hb => hl b (by omega), by trivial⟩

theorem Take_ok {w : World} {p n : Nat} {T : Nat → Bool} (h : AlAt w p n T) :
    Cl Try.prog 17 [.pointer (some ⟨p, 0, none⟩)] true [.sc (.i .i64), .sc (.i .i64)]
      (fun r w' => (r = (0, 62, ()) ∧ (∀ a, a + 1 ≤ n → ¬ freeAt T 1 a) ∧ w = w') ∨
        ∃ a : Nat, r = ((a : Int), 0, ()) ∧ a + 1 ≤ n ∧ freeAt T 1 a ∧ (∀ b, b < a → ¬ freeAt T 1 b) ∧ AlAt w' p n (runT T a 1) ∧ Keeps [p] w w') w := by
  apply alloc_Alloc_Take_call
  unfold alloc_Alloc_Take
  exact TakeRun_ok h (k := 1) (by omega) (by decide)

/-! ### Clone, Left -/
theorem list16 : ∀ {ws : List Nat}, ws.length = 16 → ∃ x0 x1 x2 x3 x4 x5 x6 x7 x8 x9 x10 x11 x12 x13 x14 x15, ws = [x0, x1, x2, x3, x4, x5, x6, x7, x8, x9, x10, x11, x12, x13, x14, x15]
  | [x0, x1, x2, x3, x4, x5, x6, x7, x8, x9, x10, x11, x12, x13, x14, x15], _ => ⟨x0, x1, x2, x3, x4, x5, x6, x7, x8, x9, x10, x11, x12, x13, x14, x15, rfl⟩

theorem Clone_ok {w : World} {p n : Nat} {T : Nat → Bool} (h : AlAt w p n T) :
    Cl Try.prog 12 [.pointer (some ⟨p, 0, none⟩)] false [.sc .p] (fun r w' => r.1 = some ⟨w.heap.size, 0, none⟩ ∧ AlAt w' w.heap.size n T ∧ Keeps [] w w') w := by
  apply alloc_Alloc_Clone_call
  unfold alloc_Alloc_Clone
  obtain ⟨ws, h⟩ := h
  obtain ⟨x0, x1, x2, x3, x4, x5, x6, x7, x8, x9, x10, x11, x12, x13, x14, x15, rfl⟩ := list16 h.len
  have hb := h.box
  have hp := hp_lt h.box
  simp only [boxA, List.map_cons, List.map_nil] at hb
  simp (maxSteps := 1000000) (disch := ((try simp only [sx]); first | done | omega)) only [sx, sxc, sxl, hb, Nat.zero_add, Nat.reduceAdd, Nat.reduceLT, true_and]
  exact ⟨⟨_, hp_setObjW_same (by rw [World.size_alloc]; omega), h.len, h.lt, h.n1, h.n2, h.bit, h.out⟩, ((Keeps.refl [] w).alloc _).setObjW (.inr (Nat.le_refl _)) _⟩

/-- How many of the first n are taken. -/
def cnt (T : Nat → Bool) : Nat → Nat
  | 0 => 0
  | n + 1 => cnt T n + (T n).toNat
theorem cnt_le (T : Nat → Bool) : ∀ n, cnt T n ≤ n
  | 0 => Nat.le_refl _
  | n + 1 => by have := cnt_le T n; rw [cnt]; cases T n <;> simp <;> omega
theorem cnt_out {T : Nat → Bool} {n : Nat} (h : ∀ i, n ≤ i → T i = false) : ∀ d, cnt T (n + d) = cnt T n
  | 0 => rfl
  | d + 1 => by rw [← Nat.add_assoc, cnt, cnt_out h d, h (n + d) (by omega)]; rfl
theorem cnt_add (T : Nat → Bool) (n : Nat) : ∀ d, cnt T (n + d) = cnt T n + cnt (fun j => T (n + j)) d
  | 0 => rfl
  | d + 1 => by rw [← Nat.add_assoc, cnt, cnt_add T n d, cnt]; omega
theorem cnt_congr {T T' : Nat → Bool} : ∀ {n : Nat}, (∀ i, i < n → T i = T' i) → cnt T n = cnt T' n
  | 0, _ => rfl
  | n + 1, h => by rw [cnt, cnt, cnt_congr fun i hi => h i (by omega), h n (by omega)]
theorem popc_cnt (n x : Nat) : Pop.popc n x = cnt x.testBit n := by
  induction n with
  | zero => rfl
  | succ n ih =>
    unfold Pop.popc at *
    rw [List.range_succ, List.map_append, List.sum_append, ih, cnt]
    simp

theorem AlR.cnt_words {w : World} {p n : Nat} {ws : List Nat} {T : Nat → Bool} (h : AlR w p n ws T) : ∀ k, k ≤ 16 → cnt T (64 * k) = ((ws.take k).map (Pop.popc 64)).sum
  | 0, _ => by simp [cnt]
  | k + 1, hk => by
    have hl := h.len
    rw [Nat.mul_succ, cnt_add, h.cnt_words k (by omega), List.take_add_one, List.map_append, List.sum_append, List.getElem?_eq_getElem (by omega)]
    simp only [Option.toList, List.map_cons, List.map_nil, List.sum_cons, List.sum_nil, Nat.add_zero]
    rw [popc_cnt]
    congr 1
    apply cnt_congr
    intro i hi
    rw [← h.bit (64 * k + i) (by omega)]
    unfold bitAt
    rw [show (64 * k + i) / 64 = k from by omega, show (64 * k + i) % 64 = i from by omega, List.getD_eq_getElem?_getD, List.getElem?_eq_getElem (by omega)]
    rfl

theorem Left_ok {w : World} {p n : Nat} {T : Nat → Bool} (h : AlAt w p n T) :
    Cl Try.prog 14 [.pointer (some ⟨p, 0, none⟩)] false [.sc (.i .i64)] (fun r w' => r.1 = ((n - cnt T n : Nat) : Int) ∧ w = w') w := by
  have n2 := h.n2
  have hout := h.out
  apply alloc_Alloc_Left_call
  unfold alloc_Alloc_Left
  obtain ⟨ws, h⟩ := h
  have hcw := fun k hk => h.cnt_words k hk
  have hlt := h.lt
  obtain ⟨x0, x1, x2, x3, x4, x5, x6, x7, x8, x9, x10, x11, x12, x13, x14, x15, hws⟩ := list16 h.len
  have hb := h.box
  rw [hws] at hb
  simp only [boxA, List.map_cons, List.map_nil] at hb
  simp (maxSteps := 1000000) only [sx, sxc, sxl, hb, Nat.zero_add, Nat.reduceAdd]
  have hlist : ∀ i, i < 16 → ([.int .u64 (x0 : Int), .int .u64 (x1 : Int), .int .u64 (x2 : Int), .int .u64 (x3 : Int), .int .u64 (x4 : Int), .int .u64 (x5 : Int), .int .u64 (x6 : Int), .int .u64 (x7 : Int), .int .u64 (x8 : Int), .int .u64 (x9 : Int), .int .u64 (x10 : Int), .int .u64 (x11 : Int), .int .u64 (x12 : Int), .int .u64 (x13 : Int), .int .u64 (x14 : Int), .int .u64 (x15 : Int)] : List Value)[i]? = some (.int .u64 ((ws.getD i 0 : Nat) : Int)) := by
    intro i hi
    have : ([.int .u64 (x0 : Int), .int .u64 (x1 : Int), .int .u64 (x2 : Int), .int .u64 (x3 : Int), .int .u64 (x4 : Int), .int .u64 (x5 : Int), .int .u64 (x6 : Int), .int .u64 (x7 : Int), .int .u64 (x8 : Int), .int .u64 (x9 : Int), .int .u64 (x10 : Int), .int .u64 (x11 : Int), .int .u64 (x12 : Int), .int .u64 (x13 : Int), .int .u64 (x14 : Int), .int .u64 (x15 : Int)] : List Value) = ws.map (fun x : Nat => .int .u64 (x : Int)) := by rw [hws]; rfl
    rw [this, List.getElem?_map, List.getElem?_eq_getElem (by rw [h.len]; omega), List.getD_eq_getElem?_getD, List.getElem?_eq_getElem (by rw [h.len]; omega)]
    rfl
  refine ⟨fun m s w' => w = w' ∧ ∃ i : Nat, s = ((n : Int) - ((cnt T (64 * i) : Nat) : Int), (i : Int), ()) ∧ i ≤ 16 ∧ m = 16 - i, ⟨16, rfl, 0, by simp [cnt], by omega, rfl⟩, ?_⟩
  rintro _ _ _ ⟨rfl, i, rfl, hi, rfl⟩
  dsimp only
  by_cases hi16 : i < 16
  · rw [decide_eq_true (by omega)]
    simp only [sx]
    refine ⟨by omega, by omega, _, by rw [Int.toNat_natCast, Nat.mul_one]; exact hlist i hi16, ?_⟩
    refine Cl.mono (OnesCount64_ok (h.wlt i)) ?_
    rintro r _ ⟨hr, rfl⟩
    have e2 : w64 ((i : Int) + 1) = ((i + 1 : Nat) : Int) := w64_nat (n := i + 1) (by omega)
    have hc1 : cnt T (64 * (i + 1)) = cnt T (64 * i) + Pop.popc 64 (ws.getD i 0) := by
      rw [hcw (i + 1) (by omega), hcw i (by omega), List.take_add_one, List.map_append, List.sum_append, List.getD_eq_getElem?_getD, List.getElem?_eq_getElem (by rw [h.len]; omega)]
      simp
    have hle := cnt_le T (64 * i)
    have hle1 := cnt_le T (64 * (i + 1))
    refine ⟨16 - (i + 1), by omega, rfl, i + 1, ?_, by omega, rfl⟩
    have e3 : w64 ((n : Int) - ((cnt T (64 * i) : Nat) : Int) - ((Pop.popc 64 (ws.getD i 0) : Nat) : Int)) = (n : Int) - ((cnt T (64 * (i + 1)) : Nat) : Int) := by
      rw [hc1, Int.natCast_add, Int.sub_sub]
      exact w64_in (by omega) (by omega)
    rw [e2, hr, e3]
  · have : i = 16 := by omega
    subst this
    rw [decide_eq_false (by omega)]
    simp only [sx]
    have hc : cnt T (64 * 16) = cnt T n := by
      have := cnt_out hout (1024 - n)
      rw [← this]
      congr 1
      omega
    have := cnt_le T n
    rw [hc]
    exact ⟨(Int.ofNat_sub (cnt_le T n)).symm, by trivial⟩

/-! ### Bits -/
def byteW (ws : List Nat) (i : Nat) : Nat := (ws.getD (i / 8) 0 >>> (8 * (i % 8))) % 256
def bytesW (ws : List Nat) (k : Nat) : List UInt8 := (List.range k).map fun i => UInt8.ofNat (byteW ws i)
/-- The bytes tell which are taken. -/
def Tells (T : Nat → Bool) (n : Nat) (bs : List UInt8) : Prop := bs.length = (n + 7) / 8 ∧ ∀ (i : Nat) (b : UInt8), bs[i]? = some b → ∀ j, j < 8 → b.toNat.testBit j = T (8 * i + j)

theorem AlR.tells {w : World} {p n : Nat} {ws : List Nat} {T : Nat → Bool} (h : AlR w p n ws T) : Tells T n (bytesW ws ((n + 7) / 8)) := by
  have n2 := h.n2
  refine ⟨by simp [bytesW], fun i b hb j hj => ?_⟩
  simp only [bytesW, List.getElem?_map, Option.map_eq_some_iff] at hb
  obtain ⟨i', hi', rfl⟩ := hb
  have hlt : i < (n + 7) / 8 := by
    have := (List.getElem?_eq_some_iff.1 hi').1
    simpa using this
  rw [List.getElem?_range hlt, Option.some.injEq] at hi'
  subst hi'
  have hb : byteW ws i < 256 := Nat.mod_lt _ (by omega)
  rw [show (UInt8.ofNat (byteW ws i)).toNat = byteW ws i from by simp [Nat.mod_eq_of_lt hb]]
  unfold byteW
  rw [show (256 : Nat) = 2 ^ 8 from rfl, Nat.testBit_mod_two_pow, Nat.testBit_shiftRight, decide_eq_true hj, Bool.true_and]
  rw [← h.bit (8 * i + j) (by omega)]
  unfold bitAt
  rw [show (8 * i + j) / 64 = i / 8 from by omega, show (8 * i + j) % 64 = 8 * (i % 8) + j from by omega]

theorem set_take_drop {a b : List Value} {i : Nat} (hl : a.length = b.length) {v : Value} (hv : a[i]? = some v) : (a.take i ++ b.drop i).set i v = a.take (i + 1) ++ b.drop (i + 1) := by
  have hi := (List.getElem?_eq_some_iff.1 hv).1
  have h1 : (a.take i).length = i := by simp; omega
  rw [List.set_append_right _ _ (by omega), h1, Nat.sub_self, List.drop_eq_getElem_cons (by omega), List.set_cons_zero, List.take_add_one, hv, List.append_assoc]
  rfl

theorem Bits_ok {w : World} {p n : Nat} {T : Nat → Bool} (h : AlAt w p n T) :
    Cl Try.prog 16 [.pointer (some ⟨p, 0, none⟩)] false [.sc .sl] (fun r w' => ∃ bs, Tells T n bs ∧ SlC w' r.1 1 (cB bs) ∧ Keeps [] w w' ∧ ∀ x ∈ blk r.1, w.heap.size ≤ x) w := by
  have n2 := h.n2
  have n1 := h.n1
  apply alloc_Alloc_Bits_call
  unfold alloc_Alloc_Bits
  obtain ⟨ws, h⟩ := h
  have e1 : w64 ((w64 ((n : Int) + 7)).tdiv 8) = (((n + 7) / 8 : Nat) : Int) := by
    have e : (n : Int) + 7 = ((n + 7 : Nat) : Int) := rfl
    rw [e, w64_nat (n := n + 7) (by omega), tdiv8, w64_nat (by omega)]
  simp only [sx, h.size0, Nat.zero_add, e1]
  refine ⟨by omega, ?_⟩
  refine Mk_of (Nat.le_refl _) (by omega) (by omega) ?_
  intro w1 hs1 hk1 hz1
  have h1l := hs1.len
  generalize hinit : ((madeCells (zc Try.prog 5) ((n + 7) / 8 * 1)).toList.take ((n + 7) / 8 * 1)) = init at hs1 h1l
  simp only [Nat.mul_one] at h1l
  have hbl : (cB (bytesW ws ((n + 7) / 8))).length = init.length := by rw [cB_length, h1l]; simp [bytesW]
  refine ⟨fun m s w' => ∃ i : Nat, s = ((i : Int), ()) ∧ i ≤ (n + 7) / 8 ∧ m = (n + 7) / 8 - i ∧ SlC w' ⟨some ⟨w.heap.size, 0, none⟩, (n + 7) / 8, (n + 7) / 8⟩ 1 ((cB (bytesW ws ((n + 7) / 8))).take i ++ init.drop i) ∧ Keeps [] w w',
    ⟨_, 0, rfl, by omega, rfl, by simpa using hs1, hk1⟩, ?_⟩
  rintro _ _ w2 ⟨i, rfl, hi, rfl, hs2, hk2⟩
  dsimp only
  by_cases hil : i < (n + 7) / 8
  · rw [decide_eq_true (by omega)]
    have hA : AlR w2 p n ws T := ⟨hk2.at h.box (by simp), h.len, h.lt, h.n1, h.n2, h.bit, h.out⟩
    have e2 : w64 ((i : Int).tdiv 8) = ((i / 8 : Nat) : Int) := by rw [tdiv8, w64_nat (by omega)]
    have e3 : w64 (8 * (i : Int).tmod 8) = ((8 * (i % 8) : Nat) : Int) := by
      rw [tmod8]
      exact w64_nat (n := 8 * (i % 8)) (by omega)
    have e4 : w64 ((i : Int) + 1) = ((i + 1 : Nat) : Int) := w64_nat (n := i + 1) (by omega)
    simp only [sxr, e2, e3, IxR, Int.toNat_natCast, Nat.mul_one, Nat.zero_add, hA.word (k := i / 8) (by omega)]
    refine ⟨by omega, by omega, by omega, by omega, by omega, ?_⟩
    rw [Ix_base (s := ⟨some ⟨w.heap.size, 0, none⟩, (n + 7) / 8, (n + 7) / 8⟩) rfl (by omega) (by simp only; omega), Int.toNat_natCast]
    have hv : (cB (bytesW ws ((n + 7) / 8)))[i]? = some (.int .u8 (IntKind.u8.wrap (ishr .u64 ((ws.getD (i / 8) 0 : Nat) : Int) ((8 * (i % 8) : Nat) : Int)))) := by
      rw [ishr_nat .u64 _ _ (by show 8 * (i % 8) ≤ 64; omega), wrap_u8_nat, cB, List.getElem?_map, bytesW, List.getElem?_map, List.getElem?_range hil]
      simp only [Option.map_some]
      have hb : byteW ws i < 256 := Nat.mod_lt _ (by omega)
      rw [show (UInt8.ofNat (byteW ws i)).toNat = byteW ws i from by simp [Nat.mod_eq_of_lt hb]]
      rfl
    refine hs2.write' (off := 0 + i * 1) rfl i (by omega) (by simp [hbl]; omega) rfl fun w3 hs3 hk3 => ?_
    rw [set_take_drop hbl hv] at hs3
    exact ⟨_, by omega, i + 1, by rw [e4], by omega, rfl, hs3, hk2.trans hk3 (by simp)⟩
  · rw [decide_eq_false (by omega)]
    simp only [sx]
    have hi' : i = (n + 7) / 8 := by omega
    rw [hi', List.take_of_length_le (by rw [cB_length]; simp [bytesW]), List.drop_of_length_le (by omega), List.append_nil] at hs2
    exact ⟨_, h.tells, hs2, hk2, by simp [blk]⟩

end Go.Proofs.Ytdpbgcplcjhjmaa
