/- What Go's own library does for this program: sorts, keys of a map, clones of a map. Conditions: none. -/
import Derived.Test.YthfgdoiaebfcdaaSem
import Derived.Test.YthfgdoiaebfcdaaSxY
import Derived.Shelf.Sort.Plain
import Derived.Shelf.SlMaps.Clone
set_option linter.unusedVariables false
set_option linter.unusedSimpArgs false
namespace Go.Proofs.Ythfgdoiaebfcdaa
open Go Go.Sx Go.Shelf Go.Proofs Go.Sort

def renSort : Ren :=
{
  f := fun x =>
    match x with
    | 189 => 41
    | 125 => 46
    | 257 => 45
    | 128 => 56
    | 129 => 57
    | 294 => 47
    | 295 => 48
    | 296 => 49
    | 297 => 50
    | 298 => 51
    | 299 => 52
    | 216 => 53
    | 300 => 54
    | 301 => 55
    | 328 => 58
    | 329 => 59
    | 330 => 60
    | 331 => 61
    | 332 => 62
    | 215 => 63
    | 343 => 64
    | n => n,
  t := fun x =>
    match x with
    | 28 => 38
    | 3 => 3
    | 46 => 78
    | 0 => 0
    | 51 => 89
    | 53 => 91
    | 4 => 4
    | 183 => 81
    | 182 => 80
    | 131 => 86
    | 5 => 5
    | 9 => 9
    | 218 => 92
    | 222 => 96
    | 228 => 98
    | 229 => 99
    | n => n,
  g := fun x =>
    have n := x;
    n }

set_option maxRecDepth 100000 in
theorem laysSort : Lays.n189 Try.prog renSort :=
{ mixed := Try.checked.mixed, f125 := Eq.trans Try.func46 (by kernel_rfl),
  f128 := Eq.trans Try.func56 (by kernel_rfl),
  f129 := Eq.trans Try.func57 (by kernel_rfl),
  f189 := Eq.trans Try.func41 (by kernel_rfl),
  f215 := Eq.trans Try.func63 (by kernel_rfl),
  f216 := Eq.trans Try.func53 (by kernel_rfl),
  f257 := Eq.trans Try.func45 (by kernel_rfl),
  f294 := Eq.trans Try.func47 (by kernel_rfl),
  f295 := Eq.trans Try.func48 (by kernel_rfl),
  f296 := Eq.trans Try.func49 (by kernel_rfl),
  f297 := Eq.trans Try.func50 (by kernel_rfl),
  f298 := Eq.trans Try.func51 (by kernel_rfl),
  f299 := Eq.trans Try.func52 (by kernel_rfl),
  f300 := Eq.trans Try.func54 (by kernel_rfl),
  f301 := Eq.trans Try.func55 (by kernel_rfl),
  f328 := Eq.trans Try.func58 (by kernel_rfl),
  f329 := Eq.trans Try.func59 (by kernel_rfl),
  f330 := Eq.trans Try.func60 (by kernel_rfl),
  f331 := Eq.trans Try.func61 (by kernel_rfl),
  f332 := Eq.trans Try.func62 (by kernel_rfl),
  f343 := Eq.trans Try.func64 (by kernel_rfl), t0 := Try.underlying0,
  a0 := Try.isAgg0, z0 := Try.sizeOf0, v0 := Try.zeroValue0, t3 := Try.underlying3, a3 := Try.isAgg3, z3 := Try.sizeOf3,
  v3 := Try.zeroValue3, t4 := Try.underlying4, a4 := Try.isAgg4, z4 := Try.sizeOf4, v4 := Try.zeroValue4,
  t5 := Try.underlying5, a5 := Try.isAgg5, z5 := Try.sizeOf5, v5 := Try.zeroValue5, t9 := Try.underlying9,
  a9 := Try.isAgg9, z9 := Try.sizeOf9, v9 := Try.zeroValue9, t28 := Try.underlying38, a28 := Try.isAgg38,
  z28 := Try.sizeOf38, v28 := Try.zeroValue38, t46 := Try.underlying78, a46 := Try.isAgg78, z46 := Try.sizeOf78,
  v46 := Try.zeroValue78, t51 := Try.underlying89, a51 := Try.isAgg89, z51 := Try.sizeOf89, v51 := Try.zeroValue89,
  t53 := Try.underlying91, a53 := Try.isAgg91, z53 := Try.sizeOf91, v53 := Try.zeroValue91, t131 := Try.underlying86,
  a131 := Try.isAgg86, z131 := Try.sizeOf86, v131 := Try.zeroValue86, t182 := Try.underlying80, a182 := Try.isAgg80,
  z182 := Try.sizeOf80, v182 := Try.zeroValue80, t183 := Try.underlying81, a183 := Try.isAgg81, z183 := Try.sizeOf81,
  v183 := Try.zeroValue81, t218 := Try.underlying92, a218 := Try.isAgg92, z218 := Try.sizeOf92, v218 := Try.zeroValue92,
  t222 := Try.underlying96, a222 := Try.isAgg96, z222 := Try.sizeOf96, v222 := Try.zeroValue96,
  t228 := Try.underlying98, a228 := Try.isAgg98, z228 := Try.sizeOf98, v228 := Try.zeroValue98,
  t229 := Try.underlying99, a229 := Try.isAgg99, z229 := Try.sizeOf99, v229 := Try.zeroValue99 }

def renClone : Ren :=
{
  f := fun x =>
    match x with
    | 5 => 35
    | 7 => 43
    | n => n,
  t := fun x =>
    match x with
    | 23 => 54
    | 25 => 3
    | 3 => 59
    | 4 => 4
    | 20 => 20
    | n => n,
  g := fun x =>
    have n := x;
    n }

set_option maxRecDepth 100000 in
theorem laysClone : SlLaysW.n5 Try.prog renClone :=
{ mixed := Try.checked.mixed,
  f5 :=
    Exists.intro "maps.Clone[map[int]sumpter/disk.sector,int,sumpter/disk.sector]" ⟨of_decide_eq_true (by kernel_rfl), Eq.trans Try.func35
          (by kernel_rfl)⟩,
  f7 := Eq.trans Try.func43 (by kernel_rfl), t4 := Try.underlying4,
  a4 := Try.isAgg4, z4 := Try.sizeOf4, v4 := Try.zeroValue4, t20 := Try.underlying20, a20 := Try.isAgg20,
  z20 := Try.sizeOf20, v20 := Try.zeroValue20, t23 := Try.underlying54, a23 := Try.isAgg54, z23 := Try.sizeOf54,
  v23 := Try.zeroValue54 }

theorem putCells_get (d : List Int) (off : Nat) (c : Array Value) (k : Nat) : (putCells (Value.int .i64) off d.toArray c)[k]? = if off ≤ k ∧ k < off + d.length ∧ k < c.size then (cI d)[k - off]? else c[k]? := by
  simp only [putCells, Array.getElem?_mapIdx]
  by_cases hk : k < c.size
  · rw [Array.getElem?_eq_getElem hk]
    simp only [Option.map_some, List.size_toArray, hk, and_true]
    split
    · rename_i h
      have : (cI d)[k - off]? = some (Value.int .i64 d[k - off]!) := by
        simp only [cI, List.getElem?_map]
        rw [List.getElem?_eq_getElem (by omega), List.getElem!_eq_getElem?_getD, List.getElem?_eq_getElem (by omega)]
        rfl
      rw [this]
      simp
    · rfl
  · rw [Array.getElem?_eq_none (by omega), if_neg (by omega)]
    rfl

theorem mapBlock_set {w : World} {b : Nat} {cs : Array Value} {t : TypeId} {fr : Nat × Nat} (h : w.heap[b]? = some (.cells cs t fr)) (f : Array Value → Array Value) : mapBlock w b f = setObjW w b (.cells (f cs) t fr) := by
  simp only [mapBlock, setObjW]
  congr 1
  apply Array.ext_getElem?
  intro j
  rw [Array.getElem?_modify, Array.getElem?_setIfInBounds]
  by_cases hj : b = j
  · subst hj
    rw [if_pos rfl, if_pos rfl, h, if_pos (hp_lt h)]
    rfl
  · rw [if_neg hj, if_neg hj]

/-- What the sort leaves: the row put, draws, new blocks. -/
theorem SlC.sorted {w : World} {s : Sl} {zs ys : List Int} (h : SlC w s 1 (cI zs)) {b o : Nat} (hp : s.p = some ⟨b, o, none⟩) (hc : s.cap ≠ 0) (hl : ys.length = zs.length) (n : Nat) (os : Array Obj) :
    SlC (grow (putRow (Value.int .i64) (Sort.ahead w n) b o ys.toArray) os) s 1 (cI ys) ∧ Keeps (blk s) w (grow (putRow (Value.int .i64) (Sort.ahead w n) b o ys.toArray) os) := by
  obtain ⟨b', o', all, t, fr, hp', hb, h1, h2, h3⟩ := h.row.resolve_left hc
  rw [hp, Option.some.injEq, Addr.mk.injEq] at hp'
  obtain ⟨rfl, rfl, _⟩ := hp'
  have hll := h.len
  have hcap := h.cap
  rw [cI_len] at hll
  have hba : (Sort.ahead w n).heap[b]? = some (.cells all t fr) := hb
  have e1 : putRow (Value.int .i64) (Sort.ahead w n) b o ys.toArray = setObjW (Sort.ahead w n) b (.cells (putCells (Value.int .i64) o ys.toArray all) t fr) := mapBlock_set hba _
  rw [e1]
  have hbs : b < (Sort.ahead w n).heap.size := hp_lt hba
  have hsz : (putCells (Value.int .i64) o ys.toArray all).size = all.size := by simp [putCells]
  refine ⟨⟨by rw [cI_len, hl, ← hll], hcap, .inr ⟨b, o, putCells (Value.int .i64) o ys.toArray all, t, fr, hp, ?_, by rw [hsz]; exact h1, fun j hj => ?_, h3⟩⟩, ?_⟩
  · rw [heap_grow_old _ _ (by rw [size_setObjW]; exact hbs)]
    exact hp_setObjW_same hbs
  · rw [cI_len] at hj
    rw [putCells_get, if_pos (by omega)]
    congr 1
    omega
  · have k1 : Keeps (blk s) w (setObjW (Sort.ahead w n) b (.cells (putCells (Value.int .i64) o ys.toArray all) t fr)) := by
      have k0 : Keeps (blk s) w (Sort.ahead w n) := ⟨rfl, rfl, rfl, Nat.le_refl _, fun _ _ _ => rfl⟩
      exact k0.setObjW (.inl (by rw [blk_pos hc hp]; simp)) _
    refine ⟨k1.os, k1.tape, k1.output, ?_, fun k hk hn => ?_⟩
    · show _ ≤ (_ ++ os).size
      rw [Array.size_append]
      have := k1.size
      omega
    · rw [heap_grow_old _ _ (Nat.lt_of_lt_of_le hk k1.size)]
      exact k1.get k hk hn

set_option maxRecDepth 10000 in
theorem Len0 {w : World} : Cl Try.prog i_math_bits_Len [.int .u64 0] false [.sc (.i .i64)] (fun r w' => w = w') w := by
  apply math_bits_Len_call
  unfold math_bits_Len
  refine Cl.mono (K := fun (r : TR [.sc (.i .i64)]) w' => w = w') ?_ (fun r w' h => h)
  apply math_bits_Len64_call
  unfold math_bits_Len64
  simp only [Jp]
  rw [decide_eq_false (by omega)]
  simp only [sx]
  rw [decide_eq_false (by omega)]
  simp only [sx]
  rw [decide_eq_false (by omega)]
  simp only [sx]
  exact ⟨by decide, _, rfl, rfl⟩

/-- Nothing is sorted. -/
theorem Sort0 {w : World} (p : Option Addr) (c : Nat) : Cl Try.prog i_slices_Sort [.slice p 0 c] true [] (fun _ w' => w = w') w := by
  apply slices_Sort_call ⟨p, 0, c⟩
  unfold slices_Sort
  refine Cl.mono (Len0 (w := w)) ?_
  rintro r w' rfl
  refine Cl.mono (K := fun (r : TR []) w' => w = w') ?_ (fun r w' h => h)
  apply slices_pdqsortOrdered_call ⟨p, 0, c⟩
  unfold slices_pdqsortOrdered
  refine ⟨fun m st w' => m = 0 ∧ st.1 = 0 ∧ st.2.1 = 0 ∧ w = w', ⟨0, rfl, rfl, rfl, rfl⟩, ?_⟩
  rintro _ ⟨a, b, st⟩ w1 ⟨rfl, h1, h2, rfl⟩
  simp only at h1 h2
  subst h1 h2
  dsimp only
  rw [decide_eq_true (by decide)]
  simp only [sx]
  refine Cl.mono (K := fun (r : TR []) w' => w = w') ?_ (fun r w' h => h)
  apply slices_insertionSortOrdered_call ⟨p, 0, c⟩
  unfold slices_insertionSortOrdered
  refine ⟨fun m st w' => m = 0 ∧ st = (1, ()) ∧ w = w', ⟨0, rfl, rfl, rfl⟩, ?_⟩
  rintro _ _ w1 ⟨rfl, rfl, rfl⟩
  dsimp only
  rw [decide_eq_false (by decide)]
  rfl

/-- 'slices.Sort' of integers. -/
theorem Sort_ok {w : World} {s : Sl} {zs : List Int} (h : SlC w s 1 (cI zs)) (hl : zs.length < 4611686018427387904) :
    Cl Try.prog i_slices_Sort [.slice s.p s.len s.cap] true [] (fun _ w' => SlC w' s 1 (cI (zs.mergeSort fun x y => decide (x ≤ y))) ∧ Keeps (blk s) w w') w := by
  have hs := cI_slen h
  by_cases h0 : zs.length = 0
  · have hz : zs = [] := List.eq_nil_of_length_eq_zero h0
    subst hz
    rw [hs]
    refine Cl.mono (Sort0 s.p s.cap) ?_
    rintro r w' rfl
    exact ⟨by simpa using h, Keeps.refl _ _⟩
  · obtain ⟨b, o, hp, hblk⟩ := h.base (by omega)
    have hc : s.cap ≠ 0 := by have := h.cap; omega
    obtain ⟨b', o', all, t, fr, hp', hb, h1, h2, h3⟩ := h.row.resolve_left hc
    rw [hp, Option.some.injEq, Addr.mk.injEq] at hp'
    obtain ⟨rfl, rfl, _⟩ := hp'
    have hH : Holds (Value.int .i64) w b o zs.toArray := by
      intro j hj
      simp only [List.size_toArray] at hj
      refine ⟨?_, ?_⟩
      · rw [cell_of hb, h2 j (by rw [cI_len]; exact hj), cI, List.getElem?_map]
        simp [hj]
      · rw [frozen_of hb]
        exact h3 j (by have := h.cap; omega)
    refine ⟨by kernel_rfl, ?_⟩
    have := Any.slices_Sort_int (P := Try.prog) (ρ := renSort) laysSort b o s.cap zs w hH (hp_lt hb) hl
    rw [hp, hs]
    refine this.mono ?_
    rintro e w' ⟨rfl, n, os, rfl⟩
    exact ⟨(), rfl, SlC.sorted h hp hc (by simp) n os⟩

/-- 'maps.Clone'. -/
theorem MClone_ok {κ : Type} [DecidableEq κ] {w : World} {m : Nat} {ek : κ → Value} {kv : List (κ × Value)} (h : MpR w m ek kv) :
    Cl Try.prog 35 [.map (some m)] false [.sc .m] (fun r w' => r.1 = some w.heap.size ∧ MpR w' w.heap.size ek kv ∧ Keeps [] w w' ∧ w'.heap.size = w.heap.size + 1) w := by
  obtain ⟨es, c, hb, ha⟩ := h
  refine ⟨by kernel_rfl, (AnyW.maps_Clone (P := Try.prog) (ρ := renClone) laysClone m es c w hb).mono ?_⟩
  rintro e w' ⟨rfl, rfl⟩
  exact ⟨(some w.heap.size, ()), rfl, rfl, ⟨es, c, hp_alloc_new w _, ha⟩, (Keeps.refl _ _).alloc _, World.size_alloc _ _⟩

/-- The keys' iterator: whatever the rounds carry on. -/
theorem Keys1_ok {κ : Type} [DecidableEq κ] {w : World} {l c0 m : Nat} {t : TypeId} {kv : List (Int × Value)} (hc : w.heap[c0]? = some (.cells #[.map (some m)] t (0, 0))) (hm : MpR w m (Value.int .i64) kv) (J : List Int → World → Prop) (h0 : J [] w)
    (hJ : ∀ acc w1 w2, J acc w1 → Keeps [w.heap.size] w1 w2 → J acc w2)
    (hY : ∀ acc k w1, J acc w1 → acc.length + 1 ≤ kv.length → w.heap.size < w1.heap.size → Yd Try.prog l [.int .i64 k] false [.sc .b] (fun b w2 => b.1 = true ∧ J (acc ++ [k]) w2 ∧ KeepsP (fun x => x ≠ w.heap.size ∧ x ≠ m) w1 w2) w1) :
    Cl Try.prog i_maps_Keys_1 [.func (.yield l) #[] #[], .pointer (some ⟨c0, 0, none⟩)] true [] (fun _ w' => ∃ acc, acc.Perm (kv.map Prod.fst) ∧ J acc w') w := by
  apply maps_Keys_1_call
  unfold maps_Keys_1
  simp only [sx, hc, sxl]
  refine RgM_of hm ?_
  intro w1 hi hk hs
  have hJ0 : J [] w1 := hJ _ _ _ h0 (hk.mono (by simp))
  refine ⟨fun n _ w' => ∃ acc left, n = left.length ∧ (acc ++ left).Perm (kv.map Prod.fst) ∧ J acc w' ∧ ItR w' w.heap.size m (Value.int .i64) kv left ∧ w.heap.size < w'.heap.size, ⟨_, [], _, rfl, List.Perm.refl _, hJ0, hi, by omega⟩, ?_⟩
  rintro _ _ w2 ⟨acc, left, rfl, hp, hj, hit, hsz⟩
  refine NxEn_of (keyOk_int .i64) hit ?_ ?_
  · intro k v left' w3 hget hperm hit3 hk3 hs3
    refine Ty_of (k := .i .i64) k rfl ?_
    refine CallV.mono (K := fun (b : TR [.sc .b]) w4 => b.1 = true ∧ J (acc ++ [k]) w4 ∧ KeepsP (fun x => x ≠ w.heap.size ∧ x ≠ m) w3 w4) (hY acc k w3 (hJ _ _ _ hj hk3) (by have h1 := hp.length_eq; have h2 := hperm.length_eq; simp at h1 h2; omega) (by omega)) ?_
    rintro ⟨b, _⟩ w4 ⟨hb, hj4, hk4⟩
    simp only at hb
    subst hb
    simp only [Bool.not_true, sx]
    refine ⟨left'.length, by rw [hperm.length_eq]; simp, acc ++ [k], left', rfl, ?_, hj4, hit3.keepsP hk4 (by simp) (by simp), Nat.lt_of_lt_of_le (by omega) hk4.size⟩
    refine List.Perm.trans ?_ hp
    rw [List.append_assoc]
    exact List.Perm.append_left acc hperm.symm
  · intro hl w3 hw3
    subst hl
    refine ⟨acc, by simpa using hp, ?_⟩
    rcases hw3 with rfl | rfl
    · exact hj
    · exact hJ _ _ _ hj ((Keeps.refl _ _).drew)

theorem put_set (w : World) (b : Nat) (o : Obj) : w.putObj b o = setObjW w b o := rfl

/-- 'slices.Sorted(maps.Keys(m))', its collecting. -/
theorem Append_ok {w : World} {c0 m : Nat} {t : TypeId} {kv : List (Int × Value)} (hc : w.heap[c0]? = some (.cells #[.map (some m)] t (0, 0))) (hm : MpR w m (Value.int .i64) kv) (hl : kv.length ≤ 1000000) :
    Cl Try.prog i_slices_AppendSeq [.slice none 0 0, .func (.func 42) #[] #[.pointer (some ⟨c0, 0, none⟩)]] false [.sc .sl] (fun r w' => ∃ acc, acc.Perm (kv.map Prod.fst) ∧ SlC w' r.1 1 (cI acc) ∧ (∀ x ∈ blk r.1, w.heap.size ≤ x) ∧ Keeps [] w w') w := by
  apply slices_AppendSeq_call ⟨none, 0, 0⟩
  unfold slices_AppendSeq
  simp only [sx]
  generalize hn : w.heap.size = n
  generalize hw1 : w.alloc (.cells #[.slice none 0 0] 38) = w1
  have hs1 : w1.heap.size = n + 1 := by rw [← hw1, World.size_alloc, hn]
  have hk1 : Keeps [] w w1 := by rw [← hw1]; exact (Keeps.refl _ _).alloc _
  have hb1 : w1.heap[n]? = some (.cells #[.slice none 0 0] 38 (0, 0)) := by rw [← hw1, ← hn]; exact hp_alloc_new w _
  simp only [RgV, Rg, hs1]
  intro rec hr1 hr2 hr3 hround
  generalize hw3 : (w1.alloc (.deferred (some []))).alloc (.loop rec) = w3
  have hs3 : w3.heap.size = n + 3 := by rw [← hw3, World.size_alloc, World.size_alloc, hs1]
  have hk3 : Keeps [] w1 w3 := by rw [← hw3]; exact ((Keeps.refl _ _).alloc _).alloc _
  have hl3 : w3.heap[n + 2]? = some (.loop rec) := by rw [← hw3]; exact hp_alloc_eq _ _ (by rw [World.size_alloc, hs1])
  have hd3 : w3.heap[n + 1]? = some (.deferred (some [])) := by rw [← hw3, hp_alloc_ne _ _ (by rw [World.size_alloc, hs1]; omega)]; exact hp_alloc_eq _ _ hs1.symm
  have hcn : c0 < n := by rw [← hn]; exact hp_lt hc
  have hmn : m < n := by rw [← hn]; exact hm.lt
  have hc3 := hk3.at (hk1.at hc (by simp)) (by simp)
  have hm3 := (hm.keepsL hk1 (by simp)).keepsL hk3 (by simp)
  refine Cl.mono (K := fun _ w' => ∃ acc, acc.Perm (kv.map Prod.fst) ∧ w'.heap[n + 2]? = some (.loop rec) ∧ w'.heap[n + 1]? = some (.deferred (some [])) ∧ (∃ r : Sl, w'.heap[n]? = some (.cells #[.slice r.p r.len r.cap] 38 (0, 0)) ∧ SlC w' r 1 (cI acc) ∧ (∀ x ∈ blk r, n + 3 < x)) ∧ KeepsP (fun x => n ≤ x) w w') ?_ ?_
  · refine Cl.mono (Keys1_ok (κ := Int) hc3 hm3 (fun acc w' => acc.length ≤ 1000000 ∧ w'.heap[n + 2]? = some (.loop rec) ∧ w'.heap[n + 1]? = some (.deferred (some [])) ∧ (∃ r : Sl, w'.heap[n]? = some (.cells #[.slice r.p r.len r.cap] 38 (0, 0)) ∧ SlC w' r 1 (cI acc) ∧ (∀ x ∈ blk r, n + 3 < x)) ∧ KeepsP (fun x => n ≤ x) w w') ?_ ?_ ?_) ?_
    · refine ⟨by simp, hl3, hd3, ⟨⟨none, 0, 0⟩, hk3.at hb1 (by simp), SlC.nil _ _, by simp [blk]⟩, ?_⟩
      show KeepsP _ w w3
      exact (hk1.trans hk3 (by simp)).toP (by simp)
    · rintro acc wa wb ⟨h0, h1, h2, ⟨r, h3, h4, h5⟩, h6⟩ hk
      rw [hs3] at hk
      refine ⟨h0, hk.at h1 (by simp), hk.at h2 (by simp), ⟨r, hk.at h3 (by simp), h4.keeps hk (fun x hx => by have := h5 x hx; simp; omega), h5⟩, h6.step hk (by simp <;> omega)⟩
    · rintro acc k wa ⟨h0, h1, h2, ⟨r, h3, h4, h5⟩, h6⟩ hac hsa
      rw [hs3] at hsa
      refine Yd.mono (hround (k, ()) (fun b w2 => b = true ∧ acc.length + 1 ≤ 1000000 ∧ w2.heap[n + 2]? = some (.loop rec) ∧ w2.heap[n + 1]? = some (.deferred (some [])) ∧ (∃ r : Sl, w2.heap[n]? = some (.cells #[.slice r.p r.len r.cap] 38 (0, 0)) ∧ SlC w2 r 1 (cI (acc ++ [k])) ∧ (∀ x ∈ blk r, n + 3 < x)) ∧ KeepsP (fun x => n ≤ x) w w2 ∧ KeepsP (fun x => x ≠ n + 3 ∧ x ≠ m) wa w2) wa h1 ?_) ?_
      · refine ⟨h1, ?_⟩
        rw [put_set]
        generalize hwb : setObjW wa (n + 1 + 1) _ = wb
        have hkb : Keeps [n + 2] wa wb := by rw [← hwb]; exact (Keeps.refl _ _).setObjW (.inl (by simp)) _
        have hlb : wb.heap[n + 2]? = some (.loop { rec with state := .busy }) := by rw [← hwb]; exact hp_setObjW_same (hp_lt h1)
        have hsb : wb.heap.size = wa.heap.size := by rw [← hwb, size_setObjW]
        have h3b := hkb.at h3 (by simp)
        refine LdL_of h3b (x := r) rfl ?_
        have h4b := h4.keeps hkb (fun x hx => by have := h5 x hx; simp; omega)
        have hrl := cI_slen h4b
        refine NewApp_of (bytes := 8) (new := cI [k]) h4b rfl (cI_one _) (by kernel_rfl) (by omega) (by omega) ?_
        intro r' wc h4c hlc hkc hbc
        have h3c := hkc.at h3b (fun hh => by have := h5 n hh; omega)
        refine set_box h3c 0 _ rfl (by simp) ?_
        intro wd h3d hkd
        have hbr' : ∀ x ∈ blk r', n + 3 < x := fun x hx => by
          rcases hbc x hx with h | h
          · exact h5 x h
          · omega
        have hld := hkd.at (hkc.at hlb (fun hh => by have := h5 _ hh; omega)) (by simp)
        refine ⟨hld, ?_⟩
        rw [put_set]
        generalize hwe : setObjW wd (n + 1 + 1) _ = we
        have hke : Keeps [n + 2] wd we := by rw [← hwe]; exact (Keeps.refl _ _).setObjW (.inl (by simp)) _
        have hle : we.heap[n + 2]? = some (.loop rec) := by
          rw [← hwe]
          rw [hp_setObjW_same (hp_lt hld)]
          congr 2
          cases rec
          simp only at hr1 hr2
          subst hr1 hr2
          rfl
        have hde := hke.at (hkd.at (hkc.at (hkb.at h2 (by simp)) (fun hh => by have := h5 _ hh; omega)) (by simp)) (by simp)
        refine ⟨rfl, ?_, hle, hde, ⟨r', hke.at (by simpa using h3d) (by simp), ?_, hbr'⟩, ?_, ?_⟩
        · omega
        · refine (h4c.keeps hkd (fun x hx => by have := hbr' x hx; simp; omega)).keeps hke (fun x hx => by have := hbr' x hx; simp; omega) |> fun h => ?_
          simpa [cI] using h
        · exact (((h6.step hkb (by simp <;> omega)).step hkc (fun x hx => .inl (by have := h5 x hx; omega))).step hkd (by simp)).step hke (by simp <;> omega)
        · have k0 : KeepsP (fun x => x ≠ n + 3 ∧ x ≠ m) wa wb := hkb.toP (by simp <;> omega)
          exact ((k0.step hkc (fun x hx => .inl (by have := h5 x hx; omega))).step hkd (by simp <;> omega)).step hke (by simp <;> omega)
      · rintro ⟨b, _⟩ w2 ⟨hb, h1, h2, h3, h4, h5, h6⟩
        refine ⟨hb, ⟨by simpa using h1, h2, h3, h4, h5⟩, ?_⟩
        rw [hs3]
        exact h6
    · rintro _ w' ⟨acc, hp, _, h1, h2, h3, h4⟩
      exact ⟨acc, hp, h1, h2, h3, h4⟩
  · rintro _ w4 ⟨acc, hp, h1, h2, ⟨r, h3, h4, h5⟩, h6⟩
    refine ⟨rec, h1, by rw [hr1]; simp, ?_⟩
    rw [hr2, put_set]
    generalize hw5 : setObjW w4 (n + 1 + 1) _ = w5
    have hk4 : Keeps [n + 2] w4 w5 := by rw [← hw5]; exact (Keeps.refl _ _).setObjW (.inl (by simp)) _
    simp only [Jm]
    have hb5 := hk4.at h3 (by simp)
    simp only [sx, hb5, sxl]
    refine ⟨hk4.at h2 (by simp), ?_⟩
    rw [put_set]
    have hk6 : Keeps [n + 1] w5 (setObjW w5 (n + 1) (.deferred none)) := (Keeps.refl _ _).setObjW (.inl (by simp)) _
    refine ⟨acc, hp, (h4.keeps hk4 (fun x hx => by have := h5 x hx; simp; omega)).keeps hk6 (fun x hx => by have := h5 x hx; simp; omega), fun x hx => by have := h5 x hx; omega, ?_⟩
    have := (h6.step hk4 (by simp <;> omega)).step hk6 (by simp <;> omega)
    exact this.toL (fun x hx => by omega)

end Go.Proofs.Ythfgdoiaebfcdaa
