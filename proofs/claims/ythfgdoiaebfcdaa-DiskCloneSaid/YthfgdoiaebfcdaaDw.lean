/- A device's memory and what its calls do: Read, Waits, New, Clone. Conditions: none. -/
import Derived.Test.YthfgdoiaebfcdaaDk
set_option linter.unusedVariables false
set_option linter.unusedSimpArgs false
namespace Go.Proofs.Ythfgdoiaebfcdaa
open Go Go.Sx

theorem lk_ok {w : World} {d : Nat} {H : Nat → Prop} {s : DS} {sl : Sl} {m : Nat} {kv : List (Int × Value)} (h : DAtX w d H s sl m kv) (i : Nat) {z : Value} (hz : z = .agg (cS zSec).toArray) {K : List Value → Bool → Pr}
    (k : K (cS ((s.wait i).getD zSec)) (waiting s i) w) : LkN z (.int .i64) (some m) (.int .i64 (i : Int)) K w := by
  have hg := h.wr (i : Int)
  rw [if_pos (by omega), Int.toNat_natCast] at hg
  unfold waiting at k
  cases hw : s.wait i with
  | none =>
    rw [hw] at hg k
    exact LkN_none (keyOk_int .i64) h.mp hg hz k
  | some x =>
    rw [hw] at hg k
    exact LkN_some (keyOk_int .i64) h.mp hg k

theorem CloneB_ok {w : World} {s : Sl} {bs : List UInt8} (h : RdB s bs w) (hl : bs.length ≤ 140737488355328) :
    Cl Try.prog i_slices_Clone [.slice s.p s.len s.cap] false [.sc .sl] (fun r w' => SlC w' r.1 1 (cB bs) ∧ Keeps [] w w' ∧ (∀ x ∈ blk r.1, w.heap.size ≤ x)) w := by
  refine Cl_gen fun R hR => ?_
  have h1 := h.1
  have hr := rdb_rdc h
  apply slices_Clone_call
  unfold slices_Clone
  refine Clone_w (K := fun r => R (r, ())) (size := 1) (bytes := 1) (cs := cB bs) (by kernel_rfl) (by omega) (by rw [Nat.mul_one]; exact hr) (cB_one bs) (by omega) (by omega) ?_
  intro r w' a1 a2 a3 a4
  exact hR _ _ ⟨a1, a3, a4⟩

theorem mAt_zero {s : DS} {i : Int} (h : mAt s i = 0) : s.down = false ∧ 0 ≤ i ∧ i < s.safe.length := by
  unfold mAt at h
  split at h
  · cases h
  · split at h
    · cases h
    · rename_i h1 h2
      exact ⟨by simpa using h1, by omega, by omega⟩

theorem Read_ok {w : World} {d : Nat} {H : Nat → Prop} {s : DS} (h : DAt w d H s) (i : Int) :
    Cl Try.prog i_disk_Disk_Read [.pointer (some ⟨d, 0, none⟩), .int .i64 i] true [.sc .sl, .sc (.i .i64)]
      (fun r w' => r.2.1 = (mRead s i).2 ∧ SlC w' r.1 1 (cB (mRead s i).1) ∧ Keeps [] w w' ∧ (∀ x ∈ blk r.1, w.heap.size ≤ x)) w := by
  refine Cl_gen fun R hR => ?_
  apply disk_Disk_Read_call
  unfold disk_Disk_Read
  refine Cl.mono (at_ok h i) ?_
  rintro ⟨r, _⟩ _ ⟨hr, rfl⟩
  simp only at hr
  subst hr
  unfold mRead at hR
  by_cases h0 : mAt s i = 0
  · obtain ⟨hdn, hi0, hi1⟩ := mAt_zero h0
    simp only [h0, if_true] at hR
    simp only [h0, bne_self_eq_false, sx]
    obtain ⟨n, rfl⟩ : ∃ n : Nat, i = n := ⟨i.toNat, by omega⟩
    simp only [Int.toNat_natCast] at hR
    obtain ⟨sl, m, kv, hX⟩ := h
    have hn : n < s.safe.length := by omega
    simp only [hX.hd, sxl, sx]
    refine lk_ok hX n (by kernel_rfl) ?_
    refine NewStN_of (by kernel_rfl) (cS_length _) (cS_one _) ?_
    intro w1 hb1 hk1 hs1
    refine Jp_of (fun st w2 => w2.heap[w.heap.size]? = some (.cells (cS (mSec s n)).toArray 59 (0, 0)) ∧ Keeps [] w w2) ?_ ?_
    · intro J hJ
      unfold mSec waiting at *
      cases hw : s.wait n with
      | some x =>
        rw [hw] at hb1 hJ
        simp only [Option.isSome_some, Bool.not_true, sx]
        exact hJ _ _ ⟨hb1, hk1⟩
      | none =>
        rw [hw] at hb1 hJ
        simp only [Option.isSome_none, Bool.not_false, sx]
        have hd1 := hk1.at hX.hd (by simp)
        have hr1 := hX.row.keeps hk1 (by simp)
        simp only [hd1, sxl, sx]
        obtain ⟨x, hx⟩ : ∃ x, s.safe[n]? = some x := ⟨_, List.getElem?_eq_getElem hn⟩
        refine hr1.ldn cS_length n hx (by omega) ?_
        refine StN_row hb1 (by rw [List.size_toArray, cS_length]) (cS_length _) (cS_one _) ?_
        intro w2 hb2 hk2 _
        refine hJ _ _ ⟨?_, hk1.trans hk2 (by simp)⟩
        rw [Option.getD_none, List.getD_eq_getElem?_getD, hx]
        exact hb2
    · rintro _ w2 ⟨hb2, hk2⟩
      rw [slOff_zero]
      have hS := SlC_row hb2
      rw [cS_length] at hS
      have hsz := hp_lt hb2
      refine Cl.mono (CloneB_ok (s := ⟨some ⟨w.heap.size, 0, none⟩, 64, 64⟩) (SlC.rdb hS) (by rw [(mSec s n).2]; omega)) ?_
      rintro ⟨r, _⟩ w3 ⟨h1, h2, h3⟩
      exact hR _ _ ⟨rfl, h1, hk2.trans h2 (by simp), fun x hx => by have := h3 x hx; omega⟩
  · rw [show (mAt s i != 0) = true from by simp [h0]]
    rw [if_neg h0] at hR
    simp only [sx]
    exact hR _ _ ⟨rfl, SlC.nil _ _, Keeps.refl _ _, by simp [blk]⟩

/-! ### Waits -/
theorem perm_of_mem {α : Type} : ∀ {l l' : List α}, l.Nodup → l'.Nodup → (∀ x, x ∈ l ↔ x ∈ l') → l.Perm l'
  | [], l', _, _, h => by
    cases l' with
    | nil => exact List.Perm.refl _
    | cons y r => exact absurd ((h y).2 (by simp)) (by simp)
  | x :: l, l', h1, h2, h => by
    obtain ⟨a, b, rfl⟩ := List.append_of_mem ((h x).1 (by simp))
    rw [List.nodup_cons] at h1
    have h2' : (x :: (a ++ b)).Nodup := List.perm_middle.nodup_iff.1 h2
    rw [List.nodup_cons] at h2'
    refine List.Perm.trans (List.Perm.cons x (perm_of_mem h1.2 h2'.2 fun y => ?_)) List.perm_middle.symm
    constructor
    · intro hy
      have := (h y).1 (List.mem_cons_of_mem _ hy)
      rw [List.perm_middle.mem_iff] at this
      rcases List.mem_cons.1 this with rfl | h'
      · exact absurd hy h1.1
      · exact h'
    · intro hy
      have := (h y).2 (List.perm_middle.mem_iff.2 (List.mem_cons_of_mem _ hy))
      rcases List.mem_cons.1 this with rfl | h'
      · exact absurd hy h2'.1
      · exact h'
theorem eq_of_sorted : ∀ {l l' : List Int}, l.Perm l' → l.Pairwise (· ≤ ·) → l'.Pairwise (· ≤ ·) → l = l'
  | [], l', h, _, _ => (List.eq_nil_of_length_eq_zero h.length_eq.symm).symm
  | x :: l, l', h, h1, h2 => by
    cases l' with
    | nil => exact absurd h.length_eq (by simp)
    | cons y r =>
      have hx : x ∈ y :: r := h.subset (by simp)
      have hy : y ∈ x :: l := h.symm.subset (by simp)
      rw [List.pairwise_cons] at h1 h2
      have hxy : x = y := by
        rcases List.mem_cons.1 hx with e | e
        · exact e
        · rcases List.mem_cons.1 hy with e' | e'
          · exact e'.symm
          · have a1 := h1.1 y e'
            have a2 := h2.1 x e
            omega
      subst hxy
      rw [eq_of_sorted (List.Perm.cons_inv h) h1.2 h2.2]

theorem mWaits_mem {s : DS} (h : DOk s) (i : Nat) : i ∈ mWaits s ↔ s.wait i ≠ none := by
  simp only [mWaits, List.mem_filter, List.mem_range, waiting, Option.isSome_iff_ne_none]
  exact ⟨fun h => h.2, fun hi => ⟨h.wt i hi, hi⟩⟩
theorem keys_perm {w : World} {d : Nat} {H : Nat → Prop} {s : DS} {sl : Sl} {m : Nat} {kv : List (Int × Value)} (h : DAtX w d H s sl m kv) : (kv.map Prod.fst).Perm ((mWaits s).map fun (i : Nat) => (i : Int)) := by
  obtain ⟨es, c, _, ha⟩ := h.mp
  refine perm_of_mem ha.nd ?_ fun k => ?_
  · unfold List.Nodup
    rw [List.pairwise_map]
    refine List.Pairwise.imp (fun hab => ?_) (List.Pairwise.filter _ List.nodup_range)
    omega
  · have hg := h.wr k
    have : k ∈ kv.map Prod.fst ↔ aget k kv ≠ none := by rw [Ne, aget_none]; simp
    rw [this, hg, List.mem_map]
    by_cases h0 : 0 ≤ k
    · rw [if_pos h0]
      obtain ⟨n, rfl⟩ : ∃ n : Nat, k = n := ⟨k.toNat, by omega⟩
      rw [Int.toNat_natCast]
      constructor
      · intro hn
        refine ⟨n, (mWaits_mem h.ok n).2 fun e => ?_, rfl⟩
        rw [e] at hn
        exact hn rfl
      · rintro ⟨j, hj, hjn⟩
        obtain rfl : j = n := by omega
        have := (mWaits_mem h.ok j).1 hj
        cases hw : s.wait j with
        | none => exact absurd hw this
        | some x => simp
    · rw [if_neg h0]
      constructor
      · intro hn; exact absurd rfl hn
      · rintro ⟨j, _, hj⟩; omega
theorem kv_length {w : World} {d : Nat} {H : Nat → Prop} {s : DS} {sl : Sl} {m : Nat} {kv : List (Int × Value)} (h : DAtX w d H s sl m kv) : kv.length ≤ 4096 := by
  have h1 := (keys_perm h).length_eq
  simp only [List.length_map] at h1
  have h2 : (mWaits s).length ≤ s.safe.length := by
    unfold mWaits
    exact Nat.le_trans (List.length_filter_le _ _) (by simp)
  have := h.ok.ln
  omega

def wI (s : DS) : List Int := (mWaits s).map fun (i : Nat) => (i : Int)
theorem wI_sorted (s : DS) : (wI s).Pairwise (· ≤ ·) := by
  unfold wI mWaits
  rw [List.pairwise_map]
  refine List.Pairwise.imp (fun hab => ?_) (List.Pairwise.filter _ List.pairwise_lt_range)
  omega

theorem Waits_ok {w : World} {d : Nat} {H : Nat → Prop} {s : DS} (h : DAt w d H s) :
    Cl Try.prog i_disk_Disk_Waits [.pointer (some ⟨d, 0, none⟩)] false [.sc .sl] (fun r w' => SlC w' r.1 1 (cI (wI s)) ∧ Keeps [] w w' ∧ (∀ x ∈ blk r.1, w.heap.size ≤ x)) w := by
  refine Cl_gen fun R hR => ?_
  obtain ⟨sl, m, kv, h⟩ := h
  apply disk_Disk_Waits_call
  unfold disk_Disk_Waits
  simp only [sx, h.hd, sxl]
  refine Cl.mono (K := fun (r : TR [.sc .v]) w' => r.1 = .func (.func 42) #[] #[.pointer (some ⟨w.heap.size, 0, none⟩)] ∧ w'.heap[w.heap.size]? = some (.cells #[.map (some m)] 54 (0, 0)) ∧ Keeps [] w w') ?_ ?_
  · refine Cl_gen fun R' hR' => ?_
    apply maps_Keys_call
    unfold maps_Keys
    simp only [sx]
    exact hR' _ _ ⟨rfl, hp_alloc_new w _, (Keeps.refl _ _).alloc _⟩
  · rintro ⟨r, _⟩ w1 ⟨hr, hb1, hk1⟩
    simp only at hr
    subst hr
    have hm1 := h.mp.keepsL hk1 (by simp)
    have hl := kv_length h
    refine Cl.mono (K := fun (r : TR [.sc .sl]) w' => SlC w' r.1 1 (cI (wI s)) ∧ Keeps [] w1 w' ∧ (∀ x ∈ blk r.1, w1.heap.size ≤ x)) ?_ ?_
    · refine Cl_gen fun R' hR' => ?_
      apply slices_Sorted_call
      unfold slices_Sorted
      refine Cl.mono (K := fun (r : TR [.sc .sl]) w' => ∃ acc, acc.Perm (kv.map Prod.fst) ∧ SlC w' r.1 1 (cI acc) ∧ (∀ x ∈ blk r.1, w1.heap.size ≤ x) ∧ Keeps [] w1 w') ?_ ?_
      · refine Cl_gen fun R'' hR'' => ?_
        apply slices_Collect_call
        unfold slices_Collect
        refine Cl.mono (Append_ok hb1 hm1 (by omega)) ?_
        rintro r w2 h2
        exact hR'' _ _ h2
      · rintro ⟨r, _⟩ w2 ⟨acc, hp, hs, hbk, hk2⟩
        have hal : acc.length ≤ 4096 := by rw [hp.length_eq]; simpa using hl
        refine Cl.mono (Sort_ok hs (by omega)) ?_
        rintro _ w3 ⟨hs3, hk3⟩
        refine hR' _ _ ⟨?_, ?_, hbk⟩
        · have : (acc.mergeSort fun x y => decide (x ≤ y)) = wI s := by
            refine eq_of_sorted ((List.mergeSort_perm _ _).trans (hp.trans (keys_perm h))) ?_ (wI_sorted s)
            have := List.pairwise_mergeSort (le := fun (x y : Int) => decide (x ≤ y)) (fun a b c hab hbc => by simp at *; omega) (fun a b => by simp; omega) acc
            exact this.imp (fun h => by simpa using h)
          rw [this] at hs3
          exact hs3
        · exact hk2.trans hk3 (fun x hx => .inr (hbk x hx))
    · rintro ⟨r, _⟩ w2 ⟨hs, hk2, hbk⟩
      have := hk1.size
      exact hR _ _ ⟨hs, hk1.trans hk2 (by simp), fun x hx => by have := hbk x hx; omega⟩

end Go.Proofs.Ythfgdoiaebfcdaa
