/- Used, and the law AllocCounts. -/
import Derived.Test.YtdpbgcplcjhjmaaLive
set_option linter.unusedVariables false
set_option linter.unusedSimpArgs false
namespace Go.Proofs.Ytdpbgcplcjhjmaa
open Go Go.Sx

def used (T : Nat → Bool) (n : Nat) : List Nat := (List.range n).filter T
theorem used_length (T : Nat → Bool) : ∀ n, (used T n).length = cnt T n
  | 0 => rfl
  | n + 1 => by
    have ih := used_length T n
    unfold used at *
    rw [List.range_succ, List.filter_append, List.length_append, ih, cnt]
    cases h : T n <;> simp [h]
theorem used_succ (T : Nat → Bool) (n : Nat) : used T (n + 1) = used T n ++ (if T n then [n] else []) := by
  unfold used
  rw [List.range_succ, List.filter_append]
  cases h : T n <;> simp [h]
theorem used_lt (T : Nat → Bool) (n : Nat) : (used T n).Pairwise (· < ·) := List.Pairwise.filter _ List.pairwise_lt_range
theorem used_mem {T : Nat → Bool} {n x : Nat} (h : x ∈ used T n) : T x = true ∧ x < n := by
  unfold used at h
  rw [List.mem_filter, List.mem_range] at h
  exact ⟨h.2, h.1⟩

def cI (us : List Nat) : List Value := us.map fun x : Nat => .int .i64 (x : Int)
theorem cI_length (us : List Nat) : (cI us).length = us.length := by simp [cI]

theorem Used_ok {w : World} {p n : Nat} {T : Nat → Bool} (h : AlAt w p n T) :
    Cl Try.prog 18 [.pointer (some ⟨p, 0, none⟩)] false [.sc .sl] (fun r w' => SlC w' r.1 1 (cI (used T n)) ∧ Keeps [] w w' ∧ ∀ x ∈ blk r.1, w.heap.size ≤ x) w := by
  have n2 := h.n2
  apply alloc_Alloc_Used_call
  unfold alloc_Alloc_Used
  have hA := h
  obtain ⟨ws, h⟩ := h
  simp only [sx, h.size0, Nat.zero_add]
  refine ⟨fun m st w' => ∃ (i : Nat) (s : Sl), st = (s, (i : Int), ()) ∧ m = n - i ∧ i ≤ n ∧ SlC w' s 1 (cI (used T i)) ∧ Keeps [] w w' ∧ ∀ x ∈ blk s, w.heap.size ≤ x, ⟨n, 0, _, rfl, by omega, by omega, SlC.nil _ _, Keeps.refl _ _, by simp [blk]⟩, ?_⟩
  rintro _ _ w1 ⟨i, s, rfl, rfl, hi, hs, hk, hf⟩
  dsimp only
  have hz := hk.size
  by_cases hin : i < n
  · rw [decide_eq_true (by omega)]
    simp only [sx]
    have e1 : w64 ((i : Int) + 1) = ((i + 1 : Nat) : Int) := w64_nat (n := i + 1) (by omega)
    have hlen := hs.len
    rw [cI_length, used_length, Nat.mul_one] at hlen
    have hcl := cnt_le T i
    refine Jp_of (fun st w' => ∃ s' : Sl, st = (s', ()) ∧ SlC w' s' 1 (cI (used T (i + 1))) ∧ Keeps [] w w' ∧ ∀ x ∈ blk s', w.heap.size ≤ x) ?_ ?_
    case refine_2 =>
      rintro _ w2 ⟨s', rfl, hs', hk', hf'⟩
      exact ⟨n - (i + 1), by omega, i + 1, s', by rw [e1], rfl, by omega, hs', hk', hf'⟩
    intro J hJ
    refine Cl.mono (Has_ok (hA.keeps hk (by simp)) _) ?_
    rintro r7 _ ⟨hr, rfl⟩
    rw [hr, show (decide (0 ≤ (i : Int)) && T (i : Int).toNat) = has T (i : Int) from rfl, has_nat]
    cases hT : T i with
    | false =>
      refine hJ _ _ ⟨s, rfl, ?_, hk, hf⟩
      rw [used_succ, hT]
      simpa using hs
    | true =>
      simp only [sx]
      have hka : Keeps [] w1 (w1.alloc (.cells #[.int .i64 (i : Int)] 3)) := (Keeps.refl [] w1).alloc _
      refine App_of (size := 1) (bytes := 8) (new := [.int .i64 (i : Int)]) (hs.keeps hka (by simp)) ?_ rfl (by simp [Value.oneCell']) (by kernel_rfl) (by omega) (by omega) ?_
      · refine ⟨rfl, fun j v hj => ⟨_, rfl, ?_⟩⟩
        rw [add_of, cell_of (hp_alloc_new w1 _), Nat.zero_add]
        simpa using hj
      intro r9 w2 hs2 hl2 hk2 hb2
      simp only [sx] at hb2
      refine hJ _ _ ⟨r9, rfl, ?_, (hk.trans hka (by simp)).trans hk2 (fun x hx => .inr (hf x hx)), fun x hx => ?_⟩
      · rw [used_succ, hT, cI, List.map_append]
        exact hs2
      · rcases hb2 with hb | hb <;> rw [hb] at hx
        · exact hf x hx
        · simp at hx; omega
  · rw [decide_eq_false (by omega)]
    simp only [sx]
    have : i = n := by omega
    subst this
    exact ⟨hs, hk, hf⟩

set_option maxRecDepth 20000 in
theorem AllocCounts_ok {w : World} {places : Int} {s : Sl} {os : List Op} (h : RdC s.p (s.len * 3) (os.flatMap encO) w) (hmax : s.len ≤ 9223372036854775807) :
    Cl Try.prog 5 [.int .i64 places, .slice s.p s.len s.cap] false [.sc .b] (fun r w' => r.1 = true ∧ Keeps [] w w') w := by
  apply sumpterlaw08_AllocCounts_call
  unfold sumpterlaw08_AllocCounts
  refine Cl.mono live_ok ?_
  rintro r1 w1 ⟨h1, hk1⟩
  rw [h1]
  by_cases hpl : 1 ≤ places ∧ places ≤ 1024
  case neg =>
    refine Cl.mono (New_no hpl) ?_
    rintro r2 _ ⟨rfl, rfl⟩
    exact ⟨by trivial, hk1⟩
  obtain ⟨n, rfl⟩ : ∃ n : Nat, places = (n : Int) := ⟨places.toNat, by omega⟩
  refine Cl.mono (New_yes (n := n) (by omega) (by omega)) ?_
  rintro r2 w2 ⟨rfl, hA2, hk2⟩
  generalize hp : w1.heap.size = p at *
  have hz1 := hk1.size
  simp only [sx, Option.isNone_some]
  have hk02 : Keeps [] w w2 := hk1.trans hk2 (by simp)
  have hol : os.length = s.len := by
    have := h.1
    rw [flat_length encO_len] at this
    omega
  refine ⟨fun m st w' => ∃ (k : Nat) (T : Nat → Bool), st = ((k : Int), ()) ∧ m = s.len - k ∧ k ≤ s.len ∧ AlAt w' p n T ∧ Keeps [] w w', ⟨s.len, 0, _, rfl, by simp, by omega, hA2, hk02⟩, ?_⟩
  rintro _ _ w3 ⟨k, T, rfl, rfl, hk, hA3, hk3⟩
  dsimp only
  by_cases hlt : k < s.len
  · rw [decide_eq_true (by omega)]
    simp only [sx]
    obtain ⟨o, ho⟩ : ∃ o, os[k]? = some o := ⟨_, List.getElem?_eq_getElem (by omega)⟩
    have hwk : w64 ((k : Int) + 1) = ((k + 1 : Nat) : Int) := w64_nat (n := k + 1) (by omega)
    refine Jp_of (fun _ w' => ∃ T' : Nat → Bool, AlAt w' p n T' ∧ Keeps [] w w') ?_ ?_
    case refine_2 =>
      rintro _ w' ⟨T', hA', hk'⟩
      exact ⟨s.len - (k + 1), by omega, k + 1, T', by rw [hwk], rfl, by omega, hA', hk'⟩
    intro J hJ
    refine Ix_row (rdc_keeps h hk3 (by simp)) (by omega) hlt fun a hc => ?_
    have hc' : ∀ j v, j < 3 → (encO o)[j]? = some v → w3.cell? (a.add j) = some v := fun j v hj hv => hc j v hj (by rw [flat_get encO_len os k j hj, ho]; exact hv)
    refine ⟨_, hc' 0 _ (by omega) rfl, _, hc' 1 _ (by omega) rfl, _, hc' 2 _ (by omega) rfl, ?_⟩
    simp (disch := ((try simp only [sx]); first | done | omega)) only [sx, sxc, sxl, Nat.zero_add, Nat.reduceAdd, Nat.reduceLT, true_and]
    generalize hw5 : setObjW (w3.alloc (.cells #[.int .i64 0, .int .i64 0, .bool false] 29)) w3.heap.size (.cells #[.int .i64 o.a, .int .i64 o.b, .bool o.g] 29) = w5
    have hk35 : Keeps [] w3 w5 := by subst hw5; exact ((Keeps.refl [] w3).alloc _).setObjW (.inr (Nat.le_refl _)) _
    have hq5 : w5.heap[w3.heap.size]? = some (.cells #[.int .i64 o.a, .int .i64 o.b, .bool o.g] 29) := by subst hw5; exact hp_setObjW_same (by rw [World.size_alloc]; omega)
    have hA5 := hA3.keeps hk35 (by simp)
    have hk5 := hk3.trans hk35 (by simp)
    have hpw : w.heap.size ≤ p := by omega
    refine Br_of (fun _ => hJ _ _ ⟨T, hA5, hk5⟩) (fun _ => ?_)
    simp only [sx, sxl, hq5, Nat.zero_add]
    refine Br_of (fun _ => ?_) (fun _ => ?_)
    · simp only [sx, sxl, hq5, Nat.zero_add]
      refine Cl.mono (Give_ok hA5 o.b) ?_
      rintro r13 w4 ⟨_, hA4, hk4⟩
      exact hJ _ _ ⟨_, hA4, hk5.trans hk4 (by simp; omega)⟩
    simp only [sx, sxl, hq5, Nat.zero_add]
    refine Br_of (fun _ => ?_) (fun _ => ?_)
    · simp only [sx, sxl, hq5, Nat.zero_add]
      refine Cl.mono (Mark_ok hA5 o.b) ?_
      rintro r13 w4 ⟨_, hA4, hk4⟩
      exact hJ _ _ ⟨_, hA4, hk5.trans hk4 (by simp; omega)⟩
    · refine Cl.mono (Take_ok hA5) ?_
      rintro r18 w4 (⟨_, _, rfl⟩ | ⟨a, _, _, _, _, hA4, hk4⟩)
      · exact hJ _ _ ⟨T, hA5, hk5⟩
      · exact hJ _ _ ⟨_, hA4, hk5.trans hk4 (by simp; omega)⟩
  rw [decide_eq_false (by omega)]
  simp only [sx]
  refine Cl.mono (Used_ok hA3) ?_
  rintro r19 w4 ⟨hs4, hk4, hf4⟩
  have hA4 := hA3.keeps hk4 (by simp)
  have hk04 := hk3.trans hk4 (by simp)
  have hlen := hs4.len
  have hn2 := hA3.n2
  have hcl := cnt_le T n
  rw [cI_length, used_length, Nat.mul_one] at hlen
  have hul := used_length T n
  -- those that are told are there, each behind the one before
  refine ⟨fun m st w' => w4 = w' ∧ ∃ (j : Nat) (last : Int), st = (false, last, (j : Int), ()) ∧ m = cnt T n - j ∧ j ≤ cnt T n ∧ ∀ x, (used T n)[j]? = some x → last < (x : Int), ⟨cnt T n, rfl, 0, -1, rfl, by omega, by omega, fun x _ => by omega⟩, ?_⟩
  rintro _ _ _ ⟨rfl, j, last, rfl, rfl, hj, hlast⟩
  dsimp only
  by_cases hjl : j < cnt T n
  · rw [decide_eq_true (by omega)]
    simp only [sx]
    obtain ⟨x, hx⟩ : ∃ x, (used T n)[j]? = some x := ⟨_, List.getElem?_eq_getElem (by omega)⟩
    obtain ⟨b, o, hpb, _⟩ := hs4.base (by omega)
    have m := hs4.read hpb (j := j) (by rw [cI_length]; omega)
    rw [cI, List.getElem?_map, hx] at m
    simp only [Option.map_some] at m
    have hxl := hlast x hx
    have hxm := used_mem (List.mem_of_getElem? hx)
    simp (disch := ((try simp only [sx]); first | done | omega)) only [sx, Ix_base hpb, m, Int.toNat_natCast, Nat.mul_one]
    refine Jp_of (fun st w' => w4 = w' ∧ st = (false, ())) ?_ ?_
    · intro J hJ
      rw [decide_eq_false (by omega)]
      simp only [sx]
      refine Cl.mono (Has_ok hA4 _) ?_
      rintro r26 _ ⟨hr, rfl⟩
      rw [hr, show (decide (0 ≤ (x : Int)) && T (x : Int).toNat) = has T (x : Int) from rfl, has_nat, hxm.1]
      exact hJ _ _ ⟨rfl, rfl⟩
    rintro _ _ ⟨rfl, rfl⟩
    simp only [sx]
    have e1 : w64 ((j : Int) + 1) = ((j + 1 : Nat) : Int) := w64_nat (n := j + 1) (by omega)
    refine ⟨cnt T n - (j + 1), by omega, by trivial, j + 1, x, by rw [e1], rfl, by omega, fun y hy => ?_⟩
    have hpw := List.pairwise_iff_getElem.1 (used_lt T n)
    have g1 := List.getElem?_eq_some_iff.1 hx
    have g2 := List.getElem?_eq_some_iff.1 hy
    have := hpw j (j + 1) g1.1 g2.1 (by omega)
    rw [g1.2, g2.2] at this
    omega
  rw [decide_eq_false (by omega)]
  simp only [sx]
  -- they are counted
  refine ⟨fun m st w' => w4 = w' ∧ ∃ i : Nat, st = ((cnt T i : Int), (i : Int), ()) ∧ m = n - i ∧ i ≤ n, ⟨n, rfl, 0, rfl, by omega, by omega⟩, ?_⟩
  rintro _ _ _ ⟨rfl, i, rfl, rfl, hi⟩
  dsimp only
  by_cases hin : i < n
  · rw [decide_eq_true (by omega)]
    simp only [sx]
    have e1 : w64 ((i : Int) + 1) = ((i + 1 : Nat) : Int) := w64_nat (n := i + 1) (by omega)
    have hci := cnt_le T i
    have e2 : w64 (((cnt T i : Nat) : Int) + 1) = ((cnt T i + 1 : Nat) : Int) := w64_nat (n := cnt T i + 1) (by omega)
    refine Jp_of (fun st w' => w4 = w' ∧ st = ((cnt T (i + 1) : Int), ())) ?_ ?_
    · intro J hJ
      refine Cl.mono (Has_ok hA4 _) ?_
      rintro r31 _ ⟨hr, rfl⟩
      rw [hr, show (decide (0 ≤ (i : Int)) && T (i : Int).toNat) = has T (i : Int) from rfl, has_nat]
      cases hT : T i with
      | true => exact hJ _ _ ⟨rfl, by rw [e2, cnt, hT]; rfl⟩
      | false => exact hJ _ _ ⟨rfl, by rw [cnt, hT]; rfl⟩
    rintro _ _ ⟨rfl, rfl⟩
    exact ⟨n - (i + 1), by omega, rfl, i + 1, by rw [e1], rfl, by omega⟩
  · have : i = n := by omega
    subst this
    rw [decide_eq_false (by omega)]
    simp only [sx, ← hlen, BEq.rfl]
    refine Cl.mono (Left_ok hA4) ?_
    rintro r32 _ ⟨hr, rfl⟩
    have e3 : w64 (((i - cnt T i : Nat) : Int) + ((cnt T i : Nat) : Int)) = (i : Int) := by
      rw [← Int.natCast_add, Nat.sub_add_cancel hcl]
      exact w64_nat (by omega)
    rw [hr, e3]
    exact ⟨by simp, hk04⟩

end Go.Proofs.Ytdpbgcplcjhjmaa
