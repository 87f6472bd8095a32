/- cache.New; the reference's Back as a Back; the chapter's examples. -/
import Derived.Test.YtelojafogbmbcaaCd
set_option linter.unusedVariables false
set_option linter.unusedSimpArgs false
namespace Go.Proofs.Ytelojafogbmbcaa
open Go Go.Sx

theorem BSt.load_len (σ : BSt) (hp : ∀ k s, σ.pages k = some s → s.length ≤ 140737488355328) (id : Int) : (σ.load id).2.2.length ≤ 140737488355328 := by
  unfold BSt.load
  split
  · simp
  · split
    · simp
    · rename_i s hs
      exact hp _ s hs

/-- Its state, with what is always so. -/
structure BS where
  σ : BSt
  plen : ∀ k s, σ.pages k = some s → s.length ≤ 140737488355328

theorem BSt.save_plen (σ : BSt) (hp : ∀ k s, σ.pages k = some s → s.length ≤ 140737488355328) (id : Int) (bs : List UInt8) : ∀ k s, (σ.save id (bs.take 140737488355328)).1.pages k = some s → s.length ≤ 140737488355328 := by
  intro k s hs
  unfold BSt.save at hs
  split at hs
  · exact hp k s hs
  · simp only at hs
    split at hs
    · cases hs; simp; omega
    · exact hp k s hs
theorem BSt.load_plen (σ : BSt) (hp : ∀ k s, σ.pages k = some s → s.length ≤ 140737488355328) (id : Int) : ∀ k s, (σ.load id).1.pages k = some s → s.length ≤ 140737488355328 := by
  intro k s hs
  unfold BSt.load at hs
  split at hs
  · exact hp k s hs
  · split at hs <;> exact hp k s hs
theorem BSt.force_plen (σ : BSt) (hp : ∀ k s, σ.pages k = some s → s.length ≤ 140737488355328) (l : Int) : ∀ k s, (σ.force l).1.pages k = some s → s.length ≤ 140737488355328 := by
  intro k s hs
  unfold BSt.force at hs
  split at hs <;> exact hp k s hs

set_option maxRecDepth 100000 in
/-- The reference's Back, at a block. -/
def refB (b : Nat) : BkI Try.prog where
  S := BS
  v := .iface 28 (.pointer (some ⟨b, 0, none⟩))
  one := rfl
  nn := rfl
  nc := fun K w => by simp [nilCheckD, NnV, okNil]
  At := fun w F s => BkAt b w F s.σ
  rest := fun s n => s.σ.rest n
  load := fun s id => (⟨(s.σ.load id).1, s.σ.load_plen s.plen id⟩, (s.σ.load id).2.1, (s.σ.load id).2.2)
  save := fun s id bs => (⟨(s.σ.save id (bs.take 140737488355328)).1, s.σ.save_plen s.plen id bs⟩, (s.σ.save id (bs.take 140737488355328)).2)
  safe := fun s => s.σ.log
  force := fun s l => (⟨(s.σ.force l).1, s.σ.force_plen s.plen l⟩, (s.σ.force l).2)
  bl := fun h => h.bl
  keeps := fun h hk hd => h.keeps hk hd
  restM := fun h hm => by unfold BSt.rest at *; omega
  load_len := fun s id => s.σ.load_len s.plen id
  load_ok := fun id h hr => Inv_of (f := i_sumpterref10_Back_Load) (by kernel_rfl) (Load_ok id h hr)
  save_ok := fun id x bs h hr hx hl hd => by
    have e : bs.take 140737488355328 = bs := List.take_of_length_le hl
    simp only [e]
    exact Inv_of (f := i_sumpterref10_Back_Save) (by kernel_rfl) (Save_ok id x bs h hr hx hl hd)
  safe_ok := fun h => Inv_of (f := i_sumpterref10_Back_Safe) (by kernel_rfl) (Safe_ok h)
  force_ok := fun l h hr => Inv_of (f := i_sumpterref10_Back_Force) (by kernel_rfl) (Force_ok l h hr)

def newPg (n : Nat) (k : Int) : Option (List UInt8) := if 1 ≤ k ∧ k ≤ n then some [UInt8.ofNat (97 + k.toNat)] else none
def newB (n : Nat) (left : Int) : BSt := ⟨newPg n, 0, [], left⟩

theorem NewBack_ok {w : World} (n : Nat) (left : Int) (hn : n ≤ 100) (h1 : -9223372036854775808 ≤ left) (h2 : left ≤ 9223372036854775807) :
    Cl Try.prog i_sumpterref10_NewBack [.int .i64 n, .int .i64 left] false [.sc .p]
      (fun r w' => ∃ b F, r.1 = some ⟨b, 0, none⟩ ∧ BkAt b w' F (newB n left) ∧ Keeps [] w w' ∧ ∀ x, F x → w.heap.size ≤ x) w := by
  apply sumpterref10_NewBack_call
  unfold sumpterref10_NewBack
  simp only [sx]
  generalize hw1 : w.alloc (.map #[] 0) = w1
  have hm1 : MpR w1 w.heap.size (Value.int .i64) ([] : List (Int × Value)) := by rw [← hw1]; exact MpR.new w _
  have hk1 : Keeps [] w w1 := by rw [← hw1]; exact (Keeps.refl [] w).alloc _
  have hz1 : w1.heap.size = w.heap.size + 1 := by rw [← hw1, World.size_alloc]
  generalize hw2 : w1.alloc (.cells #[.map (some w.heap.size), .int .u64 0, .slice none 0 0, .int .i64 left] 51) = w2
  have hb2 : w2.heap[w.heap.size + 1]? = some (.cells #[.map (some w.heap.size), .int .u64 0, .slice none 0 0, .int .i64 left] 51 (0, 0)) := by rw [← hw2]; exact hp_alloc_eq w1 _ hz1.symm
  have hk2 : Keeps [] w1 w2 := by rw [← hw2]; exact (Keeps.refl [] w1).alloc _
  have hm2 := hm1.keepsL hk2 (by simp)
  refine ⟨fun k s w' => ∃ i : Nat, s = ((i : Int), ()) ∧ 1 ≤ i ∧ i ≤ n + 1 ∧ k = n + 1 - i ∧ Keeps [] w w' ∧ w'.heap[w.heap.size + 1]? = some (.cells #[.map (some w.heap.size), .int .u64 0, .slice none 0 0, .int .i64 left] 51 (0, 0)) ∧
      ∃ kv, MpR w' w.heap.size (Value.int .i64) kv ∧ ∀ k, aget k kv = (newPg (i - 1) k).map fun s => .string (BA s),
    ⟨n, 1, rfl, by omega, by omega, by omega, hk1.trans hk2 (by simp), hb2, [], hm2, fun k => ?_⟩, ?_⟩
  · simp only [aget, newPg, Nat.sub_self]
    rw [if_neg (by omega)]
    rfl
  rintro k _ w3 ⟨i, rfl, hi1, hi2, rfl, hk3, hb3, kv, hm3, hkv⟩
  dsimp only
  by_cases hin : i ≤ n
  · rw [decide_eq_true (by omega)]
    have hc := hp_lt hb3
    simp (disch := ((try simp only [sx]); first | done | omega)) only [sxr, sxc, sxl, hb3, Nat.zero_add, true_and]
    have e1 : IntKind.u8.wrap (w64 (97 + (i : Int))) = ((UInt8.ofNat (97 + i)).toNat : Int) := by
      rw [show (97 : Int) + (i : Int) = ((97 + i : Nat) : Int) from by omega, w64_nat (n := 97 + i) (by omega), wrap_u8_nat]
      simp
    generalize hw4 : w3.drew.alloc (.cells #[.int .u8 (IntKind.u8.wrap (w64 (97 + (i : Int))))] 5) = w4
    have hk4 : Keeps [] w3 w4 := by rw [← hw4]; exact (Keeps.refl [] w3).drew.alloc _
    have hrd : RdB ⟨some ⟨w3.heap.size, 0, none⟩, 1, 1⟩ [UInt8.ofNat (97 + i)] w4 := by
      refine rdb_of_rdc ?_
      have := rdc_row (w := w4) (b := w3.heap.size) (cs := [.int .u8 ((UInt8.ofNat (97 + i)).toNat : Int)]) (t := 5) (fr := (0, 0)) (by rw [← hw4, ← e1]; exact hp_alloc_new w3.drew _)
      exact this
    refine BtoS_of hrd ?_
    refine MSet_of (keyOk_int _) (hm3.keepsL hk4 (by simp)) (i : Int) _ ?_
    intro w5 hm5 hk5
    have hne : w.heap.size + 1 ∉ [w.heap.size] := by simp
    refine ⟨n + 1 - (i + 1), by omega, i + 1, by rw [show w64 ((i : Int) + 1) = ((i + 1 : Nat) : Int) from w64_nat (n := i + 1) (by omega)], by omega, by omega, rfl, ?_, hk5.at (hk4.at hb3 (by simp)) hne, _, hm5, fun k => ?_⟩
    · exact (hk3.trans hk4 (by simp)).trans hk5 (by simp)
    · rw [aget_aset, hkv]
      simp only [newPg]
      by_cases hk : k = (i : Int)
      · subst hk
        rw [if_pos rfl, if_pos (by omega)]
        simp [BA]
      · rw [if_neg hk]
        by_cases h' : 1 ≤ k ∧ k ≤ (i : Int)
        · rw [if_pos (by omega), if_pos (by omega)]
        · rw [if_neg (by omega), if_neg (by omega)]
  · have : i = n + 1 := by omega
    subst this
    rw [decide_eq_false (by omega)]
    simp only [sx]
    rw [Nat.add_sub_cancel] at hkv
    refine ⟨w.heap.size + 1, fun x => x = w.heap.size + 1 ∨ x = w.heap.size, rfl, ⟨w.heap.size, ⟨none, 0, 0⟩, ⟨⟨51, hb3⟩, ⟨kv, hm3, hkv⟩, SlC.nil _ _, by omega, by simp [blk], by simp [blk], h1, h2, fun k s hs => ?_⟩, fun x => by simp [blk]⟩, hk3, fun x hx => by omega⟩
    simp only [newB, newPg] at hs
    split at hs
    · cases hs; simp
    · cases hs

variable {B : BkI Try.prog}
def newC (n : Nat) (b : B.S) : CSt B := ⟨List.replicate n none, 0, b⟩

theorem New_no {w : World} {n : Int} {v : Value} (hn : ¬ (1 ≤ n ∧ n ≤ 64) ∨ isNilI v = some true) (hv : ∃ b, isNilI v = some b) : Cl Try.prog i_cache_New [.int .i64 n, v] true [.sc .p, .sc (.i .i64)] (fun r w' => r = (none, 1, ()) ∧ w = w') w := by
  apply cache_New_call
  unfold cache_New
  refine Jp_of (fun s w' => s = (true, ()) ∧ w = w') ?_ ?_
  · intro J hJ
    refine Br_of (fun hc => hJ _ _ ⟨rfl, rfl⟩) (fun hc => ?_)
    refine Br_of (fun hc2 => hJ _ _ ⟨rfl, rfl⟩) (fun hc2 => ?_)
    simp only [decide_eq_false_iff_not] at hc hc2
    rcases hn with hn | hn
    · omega
    · exact ⟨true, hn, hJ _ _ ⟨rfl, rfl⟩⟩
  rintro _ _ ⟨rfl, rfl⟩
  exact ⟨rfl, rfl⟩

theorem New_yes {w : World} {n : Nat} (h1 : 1 ≤ n) (h2 : n ≤ 64) :
    Cl Try.prog i_cache_New [.int .i64 (n : Int), B.v] true [.sc .p, .sc (.i .i64)]
      (fun r w' => ∃ c F, r = (some ⟨c, 0, none⟩, 0, ()) ∧ CaAt B 0 w' c F (List.replicate n none) 0 ∧ Keeps [] w w' ∧ ∀ x, F x → w.heap.size ≤ x) w := by
  apply cache_New_call
  unfold cache_New
  refine Jp_of (fun s w' => s = (false, ()) ∧ w = w') ?_ ?_
  · intro J hJ
    rw [decide_eq_false (by omega), decide_eq_false (by omega)]
    simp only [sx]
    exact ⟨false, B.nn, hJ _ _ ⟨rfl, rfl⟩⟩
  rintro _ _ ⟨rfl, rfl⟩
  simp only [sx]
  refine Mk_of (Nat.le_refl _) (by omega) (by omega) ?_
  intro w1 hs1 hk1 hz1
  rw [show zc Try.prog 69 = #[.pointer none] from by kernel_rfl, toList_madeCells_one, Nat.mul_one, List.take_of_length_le (by simp)] at hs1
  simp only [sx]
  refine ⟨B.one, ?_⟩
  generalize hw2 : w1.alloc (.map #[] 0) = w2
  have hm2 : MpR w2 w1.heap.size (Value.int .i64) ([] : List (Int × Value)) := by rw [← hw2]; exact MpR.new w1 _
  have hk2 : Keeps [] w1 w2 := by rw [← hw2]; exact (Keeps.refl [] w1).alloc _
  have hz2 : w2.heap.size = w1.heap.size + 1 := by rw [← hw2, World.size_alloc]
  generalize hw3 : w2.alloc _ = w3
  have hb3 : w3.heap[w2.heap.size]? = some (.cells #[.slice (some ⟨w.heap.size, 0, none⟩) n n, .map (some w1.heap.size), .int .i64 0, B.v] 68 (0, 0)) := by rw [← hw3]; exact hp_alloc_new w2 _
  have hk3 : Keeps [] w2 w3 := by rw [← hw3]; exact (Keeps.refl [] w2).alloc _
  have hz3 : w3.heap.size = w2.heap.size + 1 := by rw [← hw3, World.size_alloc]
  have hget : ∀ (i : Nat) (x : Slot), (List.replicate n (none : Option Slot))[i]? ≠ some (some x) := by
    intro i x h
    rw [List.getElem?_replicate] at h
    split at h <;> cases h
  refine ⟨w2.heap.size, fun x => x = w2.heap.size ∨ x = w.heap.size ∨ x = w1.heap.size, by rw [hz2],
    ⟨fun x => if x = w2.heap.size then some 0 else if x = w.heap.size then some 1 else if x = w1.heap.size then some 2 else none, ⟨some ⟨w.heap.size, 0, none⟩, n, n⟩, w1.heap.size, List.replicate n none, ?_, ?_, by simp [pgs], fun x => ?_⟩, (hk1.trans hk2 (by simp)).trans hk3 (by simp), fun x hx => by omega⟩
  · refine ⟨⟨68, hb3⟩, ?_, fun i x h => absurd h (hget i x), fun i x h => absurd h (hget i x), fun i x h => absurd h (hget i x), if_pos rfl, fun x hx => ?_, ?_, fun i x h => absurd h (hget i x), fun i x h => absurd h (hget i x), fun x hx => ?_, by simp; omega, by simp; omega⟩
    · rw [List.map_replicate]
      exact (hs1.keeps hk2 (by simp)).keeps hk3 (by simp)
    · have := blk_sub rfl x hx
      subst this
      rw [if_neg (by omega), if_pos rfl]
    · rw [if_neg (by omega), if_neg (by omega), if_pos rfl]
    · split at hx
      · omega
      · split at hx
        · omega
        · split at hx
          · omega
          · exact absurd rfl hx
  · have hp : ∀ id, pidx (pgs (List.replicate n none)) id = none := fun id => pidx_no.2 fun i p hp => by
      simp only [pgs, List.map_replicate, List.getElem?_replicate] at hp
      split at hp <;> cases hp
    refine ⟨⟨[], hm2.keepsL hk3 (by simp), fun id => by rw [hp]; rfl⟩, fun i j p q hp' _ _ => ?_⟩
    simp only [pgs, List.map_replicate, List.getElem?_replicate] at hp'
    split at hp' <;> cases hp'
  · by_cases h1 : x = w2.heap.size
    · simp [h1]
    · by_cases h2 : x = w.heap.size
      · simp [h2]
        split <;> simp
      · by_cases h3 : x = w1.heap.size
        · simp [h3]
          split
          · simp
          · split <;> simp
        · simp [h1, h2, h3]

end Go.Proofs.Ytelojafogbmbcaa
