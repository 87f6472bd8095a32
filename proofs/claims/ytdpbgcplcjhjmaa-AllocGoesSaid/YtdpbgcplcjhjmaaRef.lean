/- Contracts of the reference's functions. -/
import Derived.Test.YtdpbgcplcjhjmaaOnce
import Derived.Laws.OwnMore
set_option linter.unusedVariables false
set_option linter.unusedSimpArgs false
namespace Go.Proofs.Ytdpbgcplcjhjmaa
open Go Go.Sx

def boolsC (T : Nat → Bool) (n : Nat) : List Value := (List.range n).map fun i => .bool (T i)
theorem boolsC_length (T : Nat → Bool) (n : Nat) : (boolsC T n).length = n := by simp [boolsC]
theorem boolsC_get {T : Nat → Bool} {n i : Nat} (h : i < n) : (boolsC T n)[i]? = some (.bool (T i)) := by
  simp [boolsC, List.getElem?_range h]
theorem boolsC_set {T : Nat → Bool} {n i : Nat} (b : Bool) : (boolsC T n).set i (.bool b) = boolsC (fun j => if j = i then b else T j) n := by
  apply List.ext_getElem?
  intro j
  by_cases hj : j < n
  · rw [boolsC_get hj]
    by_cases hi : i = j
    · subst hi
      rw [List.getElem?_set_self (by rw [boolsC_length]; exact hj), if_pos rfl]
    · rw [List.getElem?_set_ne hi, boolsC_get hj, if_neg (fun hh => hi hh.symm)]
  · rw [List.getElem?_eq_none (by rw [List.length_set, boolsC_length]; omega), List.getElem?_eq_none (by rw [boolsC_length]; omega)]

structure RfR (w : World) (q n : Nat) (s : Sl) (T : Nat → Bool) : Prop where
  box : w.heap[q]? = some (.cells #[.slice s.p s.len s.cap] 58 (0, 0))
  arr : SlC w s 1 (boolsC T n)
  q1 : q ∉ blk s
  n1 : 1 ≤ n
  n2 : n ≤ 1024
  out : ∀ i, n ≤ i → T i = false

def RfAt (w : World) (q n : Nat) (T : Nat → Bool) (fq : List Nat) : Prop := ∃ s, RfR w q n s T ∧ fq = q :: blk s

theorem RfAt.keeps {w w' : World} {q n : Nat} {T : Nat → Bool} {fq m : List Nat} (h : RfAt w q n T fq) (hk : Keeps m w w') (hd : ∀ x ∈ fq, x ∉ m) : RfAt w' q n T fq := by
  obtain ⟨s, h, rfl⟩ := h
  exact ⟨s, ⟨hk.at h.box (hd q (by simp)), h.arr.keeps hk fun x hx => hd x (by simp [hx]), h.q1, h.n1, h.n2, h.out⟩, rfl⟩
theorem RfAt.lt {w : World} {q n : Nat} {T : Nat → Bool} {fq : List Nat} (h : RfAt w q n T fq) : ∀ x ∈ fq, x < w.heap.size := by
  obtain ⟨s, h, rfl⟩ := h
  intro x hx
  simp only [List.mem_cons] at hx
  rcases hx with rfl | hx
  · exact hp_lt h.box
  · exact h.arr.lt x hx
theorem RfAt.congr {w : World} {q n : Nat} {T T' : Nat → Bool} {fq : List Nat} (h : RfAt w q n T fq) (he : ∀ i, T i = T' i) : RfAt w q n T' fq := by
  rw [← show T = T' from funext he]; exact h
theorem RfR.slen {w : World} {q n : Nat} {s : Sl} {T : Nat → Bool} (h : RfR w q n s T) : s.len = n := by
  have := h.arr.len
  rw [boolsC_length] at this
  omega

/-- One is turned. -/
theorem RfR.put {w : World} {q n : Nat} {s : Sl} {T : Nat → Bool} (h : RfR w q n s T) {i : Nat} (hi : i < n) (b : Bool) {K : Pr} (kk : ∀ w', RfAt w' q n (fun j => if j = i then b else T j) (q :: blk s) → Keeps (q :: blk s) w w' → K w') :
    Ix s (i : Int) 1 (fun a => St a (.bool b) K) w := by
  have hsl := h.slen
  obtain ⟨bb, o, hp, hbs⟩ := h.arr.base (by have := h.n1; omega)
  rw [Ix_base hp (by omega) (by omega), Int.toNat_natCast]
  refine h.arr.write' (off := o + i * 1) hp i (by omega) (by rw [boolsC_length]; exact hi) rfl fun w' hs' hk' => ?_
  rw [boolsC_set] at hs'
  refine kk w' ⟨s, ⟨hk'.at h.box (by simp; rintro rfl; exact h.q1 (by simp [hbs])), hs', h.q1, h.n1, h.n2, fun j hj => ?_⟩, rfl⟩ (hk'.mono (by simp [hbs]))
  rw [if_neg (by omega)]
  exact h.out j hj

/-- One is looked at. -/
theorem RfR.look {w : World} {q n : Nat} {s : Sl} {T : Nat → Bool} (h : RfR w q n s T) {i : Nat} (hi : i < n) {K : Bool → Pr} (k : K (T i) w) : Ix s (i : Int) 1 (fun a => LdB a K) w := by
  have hsl := h.slen
  obtain ⟨bb, o, hp, hbs⟩ := h.arr.base (by have := h.n1; omega)
  rw [Ix_base hp (by omega) (by omega), Int.toNat_natCast, Nat.mul_one]
  refine ⟨T i, ?_, k⟩
  rw [cell_cellO, h.arr.read hp (by rw [boolsC_length]; exact hi), boolsC_get hi]

theorem rHas_ok {w : World} {q n : Nat} {T : Nat → Bool} {fq : List Nat} (h : RfAt w q n T fq) (i : Int) :
    Cl Try.prog 27 [.pointer (some ⟨q, 0, none⟩), .int .i64 i] false [.sc .b] (fun r w' => r.1 = has T i ∧ w = w') w := by
  apply sumpterref08_Alloc_Has_call
  unfold sumpterref08_Alloc_Has
  obtain ⟨s, h, rfl⟩ := h
  have hsl := h.slen
  by_cases h0 : 0 ≤ i
  · obtain ⟨j, rfl⟩ : ∃ j : Nat, i = (j : Int) := ⟨i.toNat, by omega⟩
    rw [decide_eq_true (by omega)]
    simp only [sx, sxl, h.box, Nat.zero_add]
    by_cases hj : j < n
    · rw [decide_eq_true (by omega)]
      simp only [sx, sxl, h.box, Nat.zero_add]
      exact h.look hj ⟨(has_nat T j).symm, rfl⟩
    · rw [decide_eq_false (by omega)]
      exact ⟨by rw [has_nat, h.out j (by omega)], rfl⟩
  · rw [decide_eq_false (by omega)]
    exact ⟨by simp [has, h0], rfl⟩

theorem rGive_ok {w : World} {q n : Nat} {T : Nat → Bool} {fq : List Nat} (h : RfAt w q n T fq) (i : Int) :
    Cl Try.prog 22 [.pointer (some ⟨q, 0, none⟩), .int .i64 i] false [.sc (.i .i64)]
      (fun r w' => r.1 = (if has T i then 0 else 5) ∧ RfAt w' q n (fun j => if (j : Int) = i then false else T j) fq ∧ Keeps fq w w') w := by
  apply sumpterref08_Alloc_Give_call
  unfold sumpterref08_Alloc_Give
  refine Cl.mono (rHas_ok h i) ?_
  rintro r _ ⟨hr, rfl⟩
  rw [hr]
  cases hh : has T i with
  | false =>
    refine ⟨rfl, h.congr fun j => ?_, Keeps.refl _ _⟩
    split
    · rename_i hj
      subst hj
      rw [has_nat] at hh
      exact hh
    · rfl
  | true =>
    have h0 : 0 ≤ i := by simp [has] at hh; exact hh.1
    obtain ⟨j, rfl⟩ : ∃ j : Nat, i = (j : Int) := ⟨i.toNat, by omega⟩
    rw [has_nat] at hh
    obtain ⟨s, h, rfl⟩ := h
    have hj : j < n := by
      rcases Nat.lt_or_ge j n with h' | h'
      · exact h'
      · rw [h.out j h'] at hh; cases hh
    simp only [sx, sxl, h.box, Nat.zero_add, Bool.not_true]
    refine h.put hj false fun w' hA hk => ⟨rfl, hA.congr fun k => ?_, hk⟩
    by_cases hk : k = j
    · subst hk; simp
    · rw [if_neg hk, if_neg (by omega)]

theorem rMark_ok {w : World} {q n : Nat} {T : Nat → Bool} {fq : List Nat} (h : RfAt w q n T fq) (i : Int) :
    Cl Try.prog 23 [.pointer (some ⟨q, 0, none⟩), .int .i64 i] false [.sc (.i .i64)]
      (fun r w' => r.1 = (if 0 ≤ i ∧ i < (n : Int) then (if has T i then 6 else 0) else 5) ∧ RfAt w' q n (fun j => if (j : Int) = i ∧ j < n then true else T j) fq ∧ Keeps fq w w') w := by
  apply sumpterref08_Alloc_Mark_call
  unfold sumpterref08_Alloc_Mark
  have hA := h
  obtain ⟨s, h, rfl⟩ := h
  have hsl := h.slen
  refine Jp_of (fun s w' => s = (decide (¬ (0 ≤ i ∧ i < (n : Int))), ()) ∧ w = w') ?_ ?_
  · intro J hJ
    refine Br_of (fun h0 => hJ _ _ ⟨?_, rfl⟩) (fun h0 => ?_)
    · simp only [decide_eq_true_eq] at h0
      rw [decide_eq_true (by omega)]
    · simp only [decide_eq_false_iff_not] at h0
      simp only [sx, sxl, h.box, Nat.zero_add, hsl]
      refine hJ _ _ ⟨?_, rfl⟩
      congr 1
      apply decide_eq_decide.2
      omega
  rintro _ _ ⟨rfl, rfl⟩
  by_cases hi : 0 ≤ i ∧ i < (n : Int)
  · obtain ⟨j, rfl⟩ : ∃ j : Nat, i = (j : Int) := ⟨i.toNat, by omega⟩
    rw [decide_eq_false (fun hh => hh hi), if_pos hi, has_nat]
    simp only [sx, sxl, h.box, Nat.zero_add]
    refine h.look (by omega) ?_
    cases hh : T j with
    | true =>
      refine ⟨rfl, hA.congr fun k => ?_, Keeps.refl _ _⟩
      split
      · rename_i hk
        have : k = j := by omega
        subst this; exact hh
      · rfl
    | false =>
      simp only [sx, sxl, h.box, Nat.zero_add]
      refine h.put (by omega) true fun w' hA' hk => ⟨rfl, hA'.congr fun k => ?_, hk⟩
      by_cases hk : k = j
      · subst hk; simp; omega
      · rw [if_neg hk, if_neg (by omega)]
  · rw [decide_eq_true hi, if_neg hi]
    refine ⟨rfl, hA.congr fun k => ?_, Keeps.refl _ _⟩
    rw [if_neg (by omega)]

theorem rNew_no {w : World} {i : Int} (hi : ¬ (1 ≤ i ∧ i ≤ 1024)) : Cl Try.prog 19 [.int .i64 i] true [.sc .p, .sc (.i .i64)] (fun r w' => r = (none, 1, ()) ∧ w = w') w := by
  apply sumpterref08_New_call
  unfold sumpterref08_New
  simp only [Jp, sx]
  refine Br_of (fun h0 => ?_) (fun h0 => ?_)
  · exact ⟨by trivial, by trivial⟩
  · simp only [decide_eq_false_iff_not] at h0
    rw [decide_eq_true (by omega)]
    exact ⟨by trivial, by trivial⟩

theorem rNew_yes {w : World} {n : Nat} (h1 : 1 ≤ n) (h2 : n ≤ 1024) : Cl Try.prog 19 [.int .i64 (n : Int)] true [.sc .p, .sc (.i .i64)]
    (fun r w' => ∃ q fq, r = (some ⟨q, 0, none⟩, 0, ()) ∧ RfAt w' q n (fun _ => false) fq ∧ Keeps [] w w' ∧ ∀ x ∈ fq, w.heap.size ≤ x) w := by
  apply sumpterref08_New_call
  unfold sumpterref08_New
  simp only [Jp, sx]
  rw [decide_eq_false (by omega), decide_eq_false (by omega)]
  simp only [sx]
  refine Mk_of (Nat.le_refl _) (by omega) (by omega) ?_
  intro w1 hs1 hk1 hz1
  have hc : ((madeCells (zc Try.prog 4) (n * 1)).toList.take (n * 1)) = boolsC (fun _ => false) n := by
    rw [show zc Try.prog 4 = #[.bool false] from by kernel_rfl, toList_madeCells_one, Nat.mul_one, List.take_of_length_le (by simp)]
    simp [boolsC, List.map_const']
  rw [hc] at hs1
  simp only [sx]
  have hk2 : Keeps [] w1 (w1.alloc (.cells #[.slice (some ⟨w.heap.size, 0, none⟩) n n] 58)) := (Keeps.refl [] w1).alloc _
  refine ⟨_, _, rfl, ⟨⟨some ⟨w.heap.size, 0, none⟩, n, n⟩, ⟨hp_alloc_new w1 _, hs1.keeps hk2 (by simp), by simp [blk]; omega, h1, h2, by simp⟩, rfl⟩, hk1.trans hk2 (by simp), ?_⟩
  intro x hx
  simp [blk] at hx
  omega

theorem rTakeRun_none {w : World} {q n : Nat} {T : Nat → Bool} {fq : List Nat} (h : RfAt w q n T fq) {k : Int} (hk : k < 1) :
    Cl Try.prog 21 [.pointer (some ⟨q, 0, none⟩), .int .i64 k] true [.sc (.i .i64), .sc (.i .i64)] (fun r w' => r = (0, 1, ()) ∧ w = w') w := by
  apply sumpterref08_Alloc_TakeRun_call
  unfold sumpterref08_Alloc_TakeRun
  rw [decide_eq_true hk]
  exact ⟨rfl, rfl⟩

theorem freeAt_succ {T : Nat → Bool} {j i : Nat} : freeAt T (j + 1) i ↔ freeAt T j i ∧ T (i + j) = false := by
  constructor
  · exact fun hf => ⟨fun x hx => hf x (by omega), hf j (by omega)⟩
  · rintro ⟨hf, hT⟩ x hx
    rcases Nat.lt_or_ge x j with h' | h'
    · exact hf x h'
    · rw [show x = j from by omega]; exact hT

theorem rTakeRun_ok {w : World} {q n : Nat} {T : Nat → Bool} {fq : List Nat} (h : RfAt w q n T fq) {k : Nat} (hk : 1 ≤ k) (hk2 : k < 2 ^ 63) :
    Cl Try.prog 21 [.pointer (some ⟨q, 0, none⟩), .int .i64 (k : Int)] true [.sc (.i .i64), .sc (.i .i64)]
      (fun r w' => (r = (0, 62, ()) ∧ (∀ a, a + k ≤ n → ¬ freeAt T k a) ∧ w = w') ∨
        ∃ a : Nat, r = ((a : Int), 0, ()) ∧ a + k ≤ n ∧ freeAt T k a ∧ (∀ b, b < a → ¬ freeAt T k b) ∧ RfAt w' q n (runT T a k) fq ∧ Keeps fq w w') w := by
  apply sumpterref08_Alloc_TakeRun_call
  unfold sumpterref08_Alloc_TakeRun
  rw [decide_eq_false (by omega)]
  have hA := h
  obtain ⟨s, h, rfl⟩ := h
  have hsl := h.slen
  have n1 := h.n1
  have n2 := h.n2
  simp only [sx]
  refine ⟨fun m st w' => w = w' ∧ ∃ a : Nat, st = (0, 0, (a : Int), ()) ∧ a ≤ n ∧ m = n + 1 - a ∧ ∀ b, b < a → ¬ freeAt T k b, ⟨n + 1, rfl, 0, rfl, by omega, rfl, fun b hb => by omega⟩, ?_⟩
  rintro _ _ _ ⟨rfl, a, rfl, ha, rfl, hl⟩
  have e0 : w64 ((n : Int) - (a : Int)) = (n : Int) - (a : Int) := w64_in (by omega) (by omega)
  simp only [sx, sxl, h.box, Nat.zero_add, hsl, e0]
  by_cases hc : a + k ≤ n
  case neg =>
    rw [decide_eq_false (by omega)]
    exact .inl ⟨by trivial, fun b hb => hl b (by omega), by trivial⟩
  rw [decide_eq_true (by omega)]
  have e1 : w64 ((a : Int) + (k : Int)) = ((a + k : Nat) : Int) := by rw [← Int.natCast_add]; exact w64_nat (by omega)
  have e2 : w64 ((a : Int) + 1) = ((a + 1 : Nat) : Int) := w64_nat (n := a + 1) (by omega)
  simp only [sx, e1]
  refine ⟨fun m st w' => w = w' ∧ ∃ j : Nat, st = (decide (freeAt T j a), ((a + j : Nat) : Int), ()) ∧ m = k - j ∧ j ≤ k, ⟨k, rfl, 0, by simp [freeAt], by omega, by omega⟩, ?_⟩
  rintro _ _ _ ⟨rfl, j, rfl, rfl, hj⟩
  dsimp only
  by_cases hjk : j < k
  · rw [decide_eq_true (by omega)]
    simp only [sx]
    have e3 : w64 (((a + j : Nat) : Int) + 1) = ((a + (j + 1) : Nat) : Int) := w64_nat (n := a + (j + 1)) (by omega)
    refine Jp_of (fun st w' => w = w' ∧ st = (decide (freeAt T (j + 1) a), ())) ?_ ?_
    · intro J hJ
      refine Br_of (fun hf => ?_) (fun hf => ?_)
      · simp only [decide_eq_true_eq] at hf
        simp only [sx, sxl, h.box, Nat.zero_add]
        refine h.look (by omega) (hJ _ _ ⟨rfl, ?_⟩)
        congr 1
        cases hT : T (a + j) with
        | true => exact (decide_eq_false (fun hh => by have := (freeAt_succ.1 hh).2; rw [hT] at this; cases this)).symm
        | false => exact (decide_eq_true (freeAt_succ.2 ⟨hf, hT⟩)).symm
      · simp only [decide_eq_false_iff_not] at hf
        refine hJ _ _ ⟨rfl, ?_⟩
        rw [decide_eq_false (fun hh => hf (freeAt_succ.1 hh).1)]
    rintro _ _ ⟨rfl, rfl⟩
    exact ⟨k - (j + 1), by omega, rfl, j + 1, by rw [e3], rfl, by omega⟩
  have hjk' : j = k := by omega
  subst hjk'
  rw [decide_eq_false (by omega)]
  simp only [sx]
  by_cases hf : freeAt T j a
  case neg =>
    rw [decide_eq_false hf]
    refine ⟨n + 1 - (a + 1), by omega, rfl, a + 1, by rw [e2], by omega, rfl, fun b hb => ?_⟩
    rcases Nat.lt_or_ge b a with h' | h'
    · exact hl b h'
    · rw [show b = a from by omega]; exact hf
  rw [decide_eq_true hf]
  simp only [sx, Bool.not_true]
  refine ⟨fun m st w' => ∃ i : Nat, st = (((a + i : Nat) : Int), ()) ∧ i ≤ j ∧ m = j - i ∧ RfAt w' q n (runT T a i) (q :: blk s) ∧ Keeps (q :: blk s) w w', ⟨j, 0, rfl, by omega, by omega, hA.congr fun i => by rw [runT, if_neg (by omega)], Keeps.refl _ _⟩, ?_⟩
  rintro _ _ w1 ⟨i, rfl, hi, rfl, hA1, hk1⟩
  dsimp only
  by_cases hij : i < j
  · rw [decide_eq_true (by omega)]
    obtain ⟨s1, h1, he⟩ := hA1
    have e3 : w64 (((a + i : Nat) : Int) + 1) = ((a + (i + 1) : Nat) : Int) := w64_nat (n := a + (i + 1)) (by omega)
    simp only [sx, sxl, h1.box, Nat.zero_add, e3]
    refine h1.put (by omega) true fun w2 hA2 hk2 => ⟨j - (i + 1), by omega, i + 1, rfl, by omega, rfl, ?_, hk1.trans hk2 (by rw [he]; exact fun x hx => .inl hx)⟩
    rw [← he] at hA2
    refine hA2.congr fun x => ?_
    simp only [runT]
    by_cases hx : x = a + i
    · rw [if_pos hx, if_pos (by omega)]
    · rw [if_neg hx]
      by_cases hx2 : a ≤ x ∧ x < a + i
      · rw [if_pos hx2, if_pos (by omega)]
      · rw [if_neg hx2, if_neg (by omega)]
  · have : i = j := by omega
    subst this
    rw [decide_eq_false (by omega)]
    exact .inr ⟨a, rfl, hc, hf, hl, hA1, hk1⟩

theorem rUsed_ok {w : World} {q n : Nat} {T : Nat → Bool} {fq : List Nat} (h : RfAt w q n T fq) :
    Cl Try.prog 28 [.pointer (some ⟨q, 0, none⟩)] false [.sc .sl] (fun r w' => SlC w' r.1 1 (cI (used T n)) ∧ Keeps [] w w' ∧ ∀ x ∈ blk r.1, w.heap.size ≤ x) w := by
  apply sumpterref08_Alloc_Used_call
  unfold sumpterref08_Alloc_Used
  have hA := h
  obtain ⟨s0, h, rfl⟩ := h
  have hsl := h.slen
  have n2 := h.n2
  simp only [sx, sxl, h.box, Nat.zero_add]
  refine ⟨fun m st w' => ∃ (i : Nat) (s : Sl), st = (s, (i : Int), ()) ∧ m = n - i ∧ i ≤ n ∧ SlC w' s 1 (cI (used T i)) ∧ Keeps [] w w' ∧ ∀ x ∈ blk s, w.heap.size ≤ x, ⟨n, 0, _, rfl, by omega, by omega, SlC.nil _ _, Keeps.refl _ _, by simp [blk]⟩, ?_⟩
  rintro _ _ w1 ⟨i, s, rfl, rfl, hi, hs, hk, hf⟩
  dsimp only
  have hz := hk.size
  by_cases hin : i < n
  · rw [decide_eq_true (by omega)]
    simp only [sx]
    have e1 : w64 ((i : Int) + 1) = ((i + 1 : Nat) : Int) := w64_nat (n := i + 1) (by omega)
    have hlen := hs.len
    rw [cI_length, used_length, Nat.mul_one] at hlen
    have hcl := cnt_le T i
    refine Jp_of (fun st w' => ∃ s' : Sl, st = (s', ()) ∧ SlC w' s' 1 (cI (used T (i + 1))) ∧ Keeps [] w w' ∧ ∀ x ∈ blk s', w.heap.size ≤ x) ?_ ?_
    case refine_2 =>
      rintro _ w2 ⟨s', rfl, hs', hk', hf'⟩
      exact ⟨n - (i + 1), by omega, i + 1, s', by rw [e1], rfl, by omega, hs', hk', hf'⟩
    intro J hJ
    have h1 : RfR w1 q n s0 T := ⟨hk.at h.box (by simp), h.arr.keeps hk (by simp), h.q1, h.n1, h.n2, h.out⟩
    refine h1.look hin ?_
    cases hT : T i with
    | false =>
      refine hJ _ _ ⟨s, rfl, ?_, hk, hf⟩
      rw [used_succ, hT]
      simpa using hs
    | true =>
      simp only [sx]
      have hka : Keeps [] w1 (w1.alloc (.cells #[.int .i64 (i : Int)] 3)) := (Keeps.refl [] w1).alloc _
      refine App_of (size := 1) (bytes := 8) (new := [.int .i64 (i : Int)]) (hs.keeps hka (by simp)) ?_ rfl (by simp [Value.oneCell']) (by kernel_rfl) (by omega) (by omega) ?_
      · refine ⟨rfl, fun j v hj => ⟨_, rfl, ?_⟩⟩
        rw [add_of, cell_of (hp_alloc_new w1 _), Nat.zero_add]
        simpa using hj
      intro r9 w2 hs2 hl2 hk2 hb2
      simp only [sx] at hb2
      refine hJ _ _ ⟨r9, rfl, ?_, (hk.trans hka (by simp)).trans hk2 (fun x hx => .inr (hf x hx)), fun x hx => ?_⟩
      · rw [used_succ, hT, cI, List.map_append]
        exact hs2
      · rcases hb2 with hb | hb <;> rw [hb] at hx
        · exact hf x hx
        · simp at hx; omega
  · rw [decide_eq_false (by omega)]
    simp only [sx]
    have : i = n := by omega
    subst this
    exact ⟨hs, hk, hf⟩

end Go.Proofs.Ytdpbgcplcjhjmaa
