/-
  Slices of structs: a list of things, each so many cells.
-/
import Derived.Test.YtmppjgddemlmdaaSxO
set_option linter.unusedSimpArgs false
set_option linter.unusedVariables false
namespace Go.Sx
open Go

/-- The bytes' cells. -/
def cB (bs : List UInt8) : List Value := bs.map fun b => .int .u8 (b.toNat : Int)
theorem cB_length (bs : List UInt8) : (cB bs).length = bs.length := by simp [cB]
theorem cB_one (bs : List UInt8) : ∀ v ∈ cB bs, v.oneCell' = true := by simp [cB, Value.oneCell']

theorem rdb_rdc {s : Sl} {bs : List UInt8} {w : World} (h : RdB s bs w) : RdC s.p s.len (cB bs) w := by
  refine ⟨by simp [cB, h.1], fun j v hj => ?_⟩
  simp only [cB, List.getElem?_map, Option.map_eq_some_iff] at hj
  obtain ⟨b, hb, rfl⟩ := hj
  exact h.2 j b hb

theorem rdb_of_rdc {s : Sl} {bs : List UInt8} {w : World} (h : RdC s.p s.len (cB bs) w) : RdB s bs w := by
  refine ⟨by have := h.1; simpa [cB] using this, fun j b hj => ?_⟩
  exact h.2 j _ (by simp [cB, hj])

theorem rdc_keeps {p : Option Addr} {n : Nat} {cs : List Value} {w w' : World} {m : List Nat} (h : RdC p n cs w) (hk : Keeps m w w') (hd : ∀ a, p = some a → a.block ∉ m) : RdC p n cs w' := by
  refine ⟨h.1, fun j v hj => ?_⟩
  obtain ⟨a, ha, hc⟩ := h.2 j v hj
  refine ⟨a, ha, ?_⟩
  have hb : (a.add j).block = a.block := by unfold Addr.add; split <;> rfl
  have hlt : a.block < w.heap.size := by
    rcases Nat.lt_or_ge a.block w.heap.size with h' | h'
    · exact h'
    · simp [World.cell?, hb, Array.getElem?_eq_none h'] at hc
  simp only [World.cell?, hb] at hc ⊢
  rw [hk.get _ hlt (hd a ha)]
  exact hc

theorem rdb_keeps {s : Sl} {bs : List UInt8} {w w' : World} {m : List Nat} (h : RdB s bs w) (hk : Keeps m w w') (hd : ∀ x ∈ rblk s, x ∉ m) : RdB s bs w' :=
  rdb_of_rdc (rdc_keeps (rdb_rdc h) hk fun a ha => hd _ (by simp [rblk, ha]))

theorem SlC.rdb {w : World} {s : Sl} {bs : List UInt8} (h : SlC w s 1 (cB bs)) : RdB s bs w := by
  refine rdb_of_rdc ?_
  have := h.rdc
  rwa [Nat.mul_one] at this

/-! ### where a slice's row begins -/
theorem SlC.base {w : World} {s : Sl} {size : Nat} {cs : List Value} (h : SlC w s size cs) (hp : 0 < s.len) : ∃ b o, s.p = some ⟨b, o, none⟩ ∧ blk s = [b] := by
  rcases h.row with hc | ⟨b, o, all, t, fr, hp, _⟩
  · have := h.cap; omega
  · exact ⟨b, o, hp, blk_pos (by have := h.cap; omega) hp⟩

theorem Ix_base {s : Sl} {b o : Nat} (hp : s.p = some ⟨b, o, none⟩) {i : Int} (h0 : 0 ≤ i) (h1 : i < s.len) (size : Nat) (K : Addr → Pr) (w : World) : Ix s i size K w = K ⟨b, o + i.toNat * size, none⟩ w := by
  unfold Ix
  rw [hp]
  simp only [add_of, h0, h1, true_and]

/-- What is read there. -/
theorem SlC.read {w : World} {s : Sl} {size : Nat} {cs : List Value} (h : SlC w s size cs) {b o : Nat} (hp : s.p = some ⟨b, o, none⟩) {j : Nat} (hj : j < cs.length) : cellO w.heap[b]? (o + j) = cs[j]? := by
  rcases h.row with hc | ⟨b', o', all, t, fr, hp', hb, h1, h2, h3⟩
  · exact absurd hj (by have := h.len; have hc' := h.cap; have : s.len = 0 := by omega
                        simp_all)
  · rw [hp, Option.some.injEq, Addr.mk.injEq] at hp'
    obtain ⟨rfl, rfl, _⟩ := hp'
    rw [hb]
    exact h2 j hj

/-- One cell is written. -/
theorem SlC.write {w : World} {s : Sl} {size : Nat} {cs : List Value} (h : SlC w s size cs) {b o : Nat} (hp : s.p = some ⟨b, o, none⟩) {j : Nat} (hj : j < cs.length) {v : Value} (hv : v.oneCell' = true) {K : Pr}
    (k : ∀ w', SlC w' s size (cs.set j v) → Keeps [b] w w' → K w') : St ⟨b, o + j, none⟩ v K w := by
  rcases h.row with hc | ⟨b', o', all, t, fr, hp', hb, h1, h2, h3⟩
  · exact absurd hj (by have := h.len; have hc' := h.cap; have : s.len = 0 := by omega
                        simp_all)
  · rw [hp, Option.some.injEq, Addr.mk.injEq] at hp'
    obtain ⟨rfl, rfl, _⟩ := hp'
    have hl := h.len
    have hcap : s.len * size ≤ s.cap * size := Nat.mul_le_mul_right _ h.cap
    refine St_of hb hv (by omega) (h3 j (by omega)) (k _ ⟨by simpa using hl, h.cap, .inr ⟨b, o, _, t, fr, hp, hp_setObjW_same (hp_lt hb), by simpa using h1, fun i hi => ?_, h3⟩⟩ ((Keeps.refl _ _).setObjW (.inl (by simp)) _))
    rw [List.length_set] at hi
    by_cases hij : j = i
    · subst hij
      rw [Array.getElem?_setIfInBounds_self, if_pos (by omega)]
      simp [hj]
    · rw [Array.getElem?_setIfInBounds_ne (by omega), h2 i hi, List.getElem?_set_ne hij]

def setL (cs : List Value) (k : Nat) (vs : List Value) : List Value := cs.take k ++ vs ++ cs.drop (k + vs.length)
theorem setL_length {cs vs : List Value} {k : Nat} (h : k + vs.length ≤ cs.length) : (setL cs k vs).length = cs.length := by
  simp [setL]; omega
theorem setL_get {cs vs : List Value} {k : Nat} (h : k + vs.length ≤ cs.length) (j : Nat) : (setL cs k vs)[j]? = if k ≤ j ∧ j < k + vs.length then vs[j - k]? else cs[j]? := by
  unfold setL
  have hk : (cs.take k).length = k := by simp; omega
  by_cases h1 : j < k
  · rw [if_neg (by omega), List.append_assoc, List.getElem?_append_left (by omega), List.getElem?_take, if_pos h1]
  · by_cases h2 : j < k + vs.length
    · rw [if_pos (by omega), List.append_assoc, List.getElem?_append_right (by omega), hk, List.getElem?_append_left (by omega)]
    · rw [if_neg (by omega), List.getElem?_append_right (by simp; omega), List.getElem?_drop]
      congr 1
      simp
      omega

/-- Many cells are written. -/
theorem SlC.writes {w : World} {s : Sl} {size : Nat} {cs : List Value} (h : SlC w s size cs) {b o : Nat} (hp : s.p = some ⟨b, o, none⟩) {k : Nat} {vs : List Value} (hj : k + vs.length ≤ cs.length) (hv : ∀ v ∈ vs, v.oneCell' = true) {K : Pr}
    (kk : ∀ w', SlC w' s size (setL cs k vs) → Keeps [b] w w' → K w') : StR vs ⟨b, o + k, none⟩ 0 K w := by
  rcases h.row with hc | ⟨b', o', all, t, fr, hp', hb, h1, h2, h3⟩
  · have hl := h.len
    have hc' := h.cap
    have h0 : s.len = 0 := by omega
    rw [h0, Nat.zero_mul] at hl
    have hv0 : vs = [] := List.eq_nil_of_length_eq_zero (by omega)
    subst hv0
    have hcs : cs = [] := List.eq_nil_of_length_eq_zero hl
    subst hcs
    exact kk w (by simpa [setL] using h) (Keeps.refl _ _)
  · rw [hp, Option.some.injEq, Addr.mk.injEq] at hp'
    obtain ⟨rfl, rfl, _⟩ := hp'
    have hl := h.len
    have hcap : s.len * size ≤ s.cap * size := Nat.mul_le_mul_right _ h.cap
    refine StR_of hb (by omega) hv (fun j _ hj' => by rw [Nat.add_assoc]; exact h3 _ (by omega)) (kk _ ⟨by rw [setL_length hj]; exact hl, h.cap, .inr ⟨b, o, _, t, fr, hp, hp_setObjW_same (hp_lt hb), by rw [setA_size]; exact h1, fun i hi => ?_, h3⟩⟩ ((Keeps.refl _ _).setObjW (.inl (by simp)) _))
    rw [setL_length hj] at hi
    rw [setA_get _ _ _ _ (by omega), setL_get hj]
    by_cases hc : k ≤ i ∧ i < k + vs.length
    · rw [if_pos (by omega), if_pos hc]
      congr 1
      omega
    · rw [if_neg (by omega), if_neg hc, h2 i hi]

/-! ### a part of a slice -/
theorem slOff_eq {b o cap l size : Nat} (h : l ≠ cap ∨ size = 0 ∨ l = 0) : ∃ o', slOff (some ⟨b, o, none⟩) cap l size = some ⟨b, o', none⟩ := by
  unfold slOff
  split
  · exact ⟨o, rfl⟩
  · exact ⟨o + l * size, by simp [add_of]⟩

theorem rblk_slOff (s : Sl) (l size n c : Nat) : rblk ⟨slOff s.p s.cap l size, n, c⟩ = rblk s := by
  unfold rblk slOff
  cases hp : s.p with
  | none => simp
  | some a =>
    have hadd : (a.add (l * size)).block = a.block := by unfold Addr.add; split <;> rfl
    by_cases hc : s.cap = l
    · simp only [if_pos hc]
    · simp only [if_neg hc, Option.map_some, hadd]

theorem blk_slOff (s : Sl) (l size n c : Nat) (hc : c ≤ s.cap) : ∀ x ∈ blk ⟨slOff s.p s.cap l size, n, c⟩, x ∈ blk s := by
  intro x hx
  have h1 := blk_rblk _ x hx
  rw [rblk_slOff] at h1
  unfold blk at hx ⊢
  cases hc' : c with
  | zero => subst hc'; cases hx
  | succ k =>
    cases hs : s.cap with
    | zero => omega
    | succ n => exact h1

/-- 's[lo:hi]', hi at most the length. -/
theorem SlC.sub {w : World} {s : Sl} {size : Nat} {cs : List Value} (h : SlC w s size cs) {lo hi : Nat} (h1 : lo ≤ hi) (h2 : hi ≤ s.len) : SlC w ⟨slOff s.p s.cap lo size, hi - lo, s.cap - lo⟩ size ((cs.drop (lo * size)).take ((hi - lo) * size)) := by
  have hl := h.len
  have hc := h.cap
  have e1 : (hi - lo) * size + lo * size = hi * size := by rw [← Nat.add_mul]; congr 1; omega
  have e2 : hi * size ≤ s.len * size := Nat.mul_le_mul_right _ h2
  have hlen : ((cs.drop (lo * size)).take ((hi - lo) * size)).length = (hi - lo) * size := by
    simp; omega
  refine ⟨hlen, by simp only; omega, ?_⟩
  rcases h.row with h0 | ⟨b, o, all, t, fr, hp, hb, h3, h4, h5⟩
  · exact .inl (by simp only; omega)
  · by_cases hz : s.cap = lo
    · -- nothing is left
      refine .inr ⟨b, o, all, t, fr, ?_, hb, ?_, ?_, ?_⟩
      · simp [slOff, hz, hp]
      · simp only [hz, Nat.sub_self, Nat.zero_mul]; omega
      · intro j hj
        rw [hlen] at hj
        have : hi - lo = 0 := by omega
        rw [this] at hj
        omega
      · intro j hj
        simp only [hz, Nat.sub_self, Nat.zero_mul] at hj
        omega
    · have e3 : (s.cap - lo) * size + lo * size = s.cap * size := by rw [← Nat.add_mul]; congr 1; omega
      refine .inr ⟨b, o + lo * size, all, t, fr, ?_, hb, ?_, ?_, ?_⟩
      · simp [slOff, hz, hp, add_of]
      · simp only; omega
      · intro j hj
        rw [hlen] at hj
        rw [List.getElem?_take, if_pos hj, List.getElem?_drop, Nat.add_assoc]
        exact h4 _ (by omega)
      · intro j hj
        simp only at hj
        rw [Nat.add_assoc]
        exact h5 _ (by omega)

/-! ### things of several cells -/
theorem flat_length {α : Type} {enc : α → List Value} {size : Nat} (he : ∀ x, (enc x).length = size) (l : List α) : (l.flatMap enc).length = l.length * size := by
  induction l with
  | nil => simp
  | cons x l ih => simp only [List.flatMap_cons, List.length_append, ih, he, List.length_cons, Nat.succ_mul]; omega

theorem flat_get {α : Type} {enc : α → List Value} {size : Nat} (he : ∀ x, (enc x).length = size) : ∀ (l : List α) (i j : Nat), j < size → (l.flatMap enc)[i * size + j]? = l[i]?.bind fun x => (enc x)[j]?
  | [], i, j, hj => by simp
  | x :: l, i, j, hj => by
    rw [List.flatMap_cons]
    cases i with
    | zero =>
      rw [Nat.zero_mul, Nat.zero_add, List.getElem?_append_left (by rw [he]; exact hj)]
      rfl
    | succ i =>
      rw [List.getElem?_append_right (by rw [he, Nat.succ_mul]; omega), he, Nat.succ_mul, show i * size + size + j - size = i * size + j from by omega, flat_get he l i j hj]
      simp

theorem flat_set {α : Type} {enc : α → List Value} {size : Nat} (he : ∀ x, (enc x).length = size) : ∀ (l : List α) (i : Nat) (y : α), i < l.length → setL (l.flatMap enc) (i * size) (enc y) = (l.set i y).flatMap enc
  | [], i, y, hi => by simp at hi
  | x :: l, i, y, hi => by
    cases i with
    | zero =>
      simp only [setL, Nat.zero_mul, List.take_zero, List.nil_append, Nat.zero_add, List.flatMap_cons, List.set_cons_zero, he]
      congr 1
      rw [List.drop_append]
      simp [he]
    | succ i =>
      have ih := flat_set he l i y (by simpa using hi)
      simp only [List.set_cons_succ, List.flatMap_cons]
      rw [← ih]
      simp only [setL, Nat.succ_mul]
      rw [List.take_append, List.drop_append, List.take_of_length_le (by rw [he]; omega), List.drop_of_length_le (by rw [he]; omega), he]
      simp only [List.nil_append, List.append_assoc]
      congr 2
      · congr 1
        omega
      · congr 2
        omega

theorem flat_take {α : Type} {enc : α → List Value} {size : Nat} (he : ∀ x, (enc x).length = size) : ∀ (l : List α) (n : Nat), (l.flatMap enc).take (n * size) = (l.take n).flatMap enc
  | [], n => by simp
  | x :: l, n => by
    cases n with
    | zero => simp
    | succ n =>
      simp only [List.flatMap_cons, List.take_succ_cons]
      rw [List.take_append, List.take_of_length_le (by rw [he, Nat.succ_mul]; omega), he, ← flat_take he l n, Nat.succ_mul]
      congr 2
      omega

theorem flat_drop {α : Type} {enc : α → List Value} {size : Nat} (he : ∀ x, (enc x).length = size) : ∀ (l : List α) (n : Nat), (l.flatMap enc).drop (n * size) = (l.drop n).flatMap enc
  | [], n => by simp
  | x :: l, n => by
    cases n with
    | zero => simp
    | succ n =>
      simp only [List.flatMap_cons, List.drop_succ_cons]
      rw [List.drop_append, List.drop_of_length_le (by rw [he, Nat.succ_mul]; omega), he, ← flat_drop he l n, Nat.succ_mul, List.nil_append]
      congr 1
      omega

theorem erase_cells {α : Type} {enc : α → List Value} {size : Nat} (he : ∀ x, (enc x).length = size) (l : List α) (k : Nat) (hk : k < l.length) :
    ((setL (l.flatMap enc) (k * size) ((l.drop (k + 1)).flatMap enc)).take ((l.length - 1) * size)) = (l.eraseIdx k).flatMap enc := by
  rw [List.eraseIdx_eq_take_drop_succ, List.flatMap_append, ← flat_take he, ← flat_drop he]
  unfold setL
  have h1 : ((l.flatMap enc).take (k * size)).length = k * size := by
    rw [List.length_take, flat_length he, Nat.min_eq_left (Nat.mul_le_mul_right _ (by omega))]
  have h2 : ((l.flatMap enc).drop ((k + 1) * size)).length = (l.length - (k + 1)) * size := by
    rw [List.length_drop, flat_length he, Nat.sub_mul]
  have h3 : (l.length - 1) * size = k * size + (l.length - (k + 1)) * size := by
    rw [← Nat.add_mul]; congr 1; omega
  rw [List.take_append_of_le_length (by rw [List.length_append, h1, h2, h3]; exact Nat.le_refl _)]
  rw [List.take_of_length_le (by rw [List.length_append, h1, h2, h3]; exact Nat.le_refl _)]

/-- 'make([]T, n, c)'. -/
theorem Mk_of {e size bytes : Nat} {z : Array Value} {l c : Nat} {K : Sl → Pr} {w : World} (hlc : l ≤ c) (hb : bytes * c ≤ 281474976710656) (h63 : c ≤ 9223372036854775807)
    (k : ∀ (w' : World), SlC w' ⟨some ⟨w.heap.size, 0, none⟩, l, c⟩ size ((madeCells z (c * size)).toList.take (l * size)) → Keeps [] w w' → w'.heap.size = w.heap.size + 1 → K ⟨some ⟨w.heap.size, 0, none⟩, l, c⟩ w') : Mk e size bytes z (l : Int) (c : Int) K w := by
  have hb' : ((bytes * c : Nat) : Int) ≤ 281474976710656 := by omega
  rw [Int.natCast_mul] at hb'
  refine ⟨by omega, by omega, hb', by omega, ?_⟩
  simp only [Int.toNat_natCast]
  have hm : l * size ≤ c * size := Nat.mul_le_mul_right _ hlc
  have hlen : ((madeCells z (c * size)).toList.take (l * size)).length = l * size := by
    rw [List.length_take, Array.length_toList, size_madeCells]
    exact Nat.min_eq_left hm
  refine k _ ⟨hlen, hlc, .inr ⟨_, 0, _, _, _, rfl, hp_alloc_new w _, by simp [size_madeCells], ?_, by simp⟩⟩ ((Keeps.refl [] w).alloc _) (World.size_alloc _ _)
  intro j hj
  rw [hlen] at hj
  rw [List.getElem?_take, if_pos (by omega), Nat.zero_add]
  simp

theorem setL_all {cs vs : List Value} (h : vs.length = cs.length) : setL cs 0 vs = vs := by
  simp only [setL, List.take_zero, List.nil_append, Nat.zero_add, h, List.drop_length, List.append_nil]

theorem setL_nil (cs : List Value) (k : Nat) : setL cs k [] = cs := by simp [setL]
theorem setL_cons {cs : List Value} {k : Nat} (v : Value) (vs : List Value) (h : k + (vs.length + 1) ≤ cs.length) : setL cs k (v :: vs) = setL (cs.set k v) (k + 1) vs := by
  apply List.ext_getElem?
  intro j
  rw [setL_get (by simpa using h), setL_get (by simp; omega)]
  simp only [List.length_cons]
  by_cases h1 : k = j
  · subst h1
    rw [if_pos (by omega), if_neg (by omega), List.getElem?_set_self (by omega)]
    simp
  · rw [List.getElem?_set_ne h1]
    by_cases h2 : k + 1 ≤ j ∧ j < k + 1 + vs.length
    · rw [if_pos h2, if_pos (by omega), show j - k = (j - (k + 1)) + 1 from by omega]
      simp
    · rw [if_neg h2, if_neg (by omega)]

theorem SlC.write' {w : World} {s : Sl} {size : Nat} {cs : List Value} (h : SlC w s size cs) {b o : Nat} (hp : s.p = some ⟨b, o, none⟩) {off : Nat} (j : Nat) (ho : off = o + j) (hj : j < cs.length) {v : Value} (hv : v.oneCell' = true) {K : Pr}
    (k : ∀ w', SlC w' s size (cs.set j v) → Keeps [b] w w' → K w') : St ⟨b, off, none⟩ v K w := by
  subst ho
  exact h.write hp hj hv k

/-! ### bytes and texts -/
theorem cellsB_eq (s : ByteArray) : cellsB s = cB s.data.toList := by
  simp [cellsB, cB]

theorem rdb_row {w : World} {b : Nat} {all : List Value} {t : TypeId} {fr : Nat × Nat} {bs : List UInt8} (rest : List Value) (h : w.heap[b]? = some (.cells all.toArray t fr)) (ha : all = cB bs ++ rest) (c : Nat) : RdB ⟨some ⟨b, 0, none⟩, bs.length, c⟩ bs w := by
  refine ⟨rfl, fun j x hj => ⟨_, rfl, ?_⟩⟩
  rw [add_of, cell_of h, Nat.zero_add, List.getElem?_toArray, ha, List.getElem?_append_left (by rw [cB_length]; exact (List.getElem?_eq_some_iff.1 hj).1)]
  simp [cB, hj]

/-- '[]byte(s)'. -/
theorem StoB_of {e : TypeId} {s : ByteArray} {K : Sl → Pr} {w : World}
    (k : ∀ (r : Sl) (w' : World), RdB r s.data.toList w' → Keeps [] w w' → rblk r = [w.heap.size] → r.len = s.size → K r w') : StoB e s K w := by
  intro c hc
  have hs : s.size = s.data.toList.length := by simp
  refine k _ _ ?_ ((Keeps.refl [] w).drew.alloc _) rfl rfl
  rw [hs]
  exact rdb_row (List.replicate (c - s.size) (Value.int .u8 0)) (hp_alloc_new w.drew _) (by rw [cellsB_eq, hs]) c

theorem BtoS_of {s : Sl} {bs : List UInt8} {K : ByteArray → Pr} {w : World} (h : RdB s bs w) (k : K ⟨bs.toArray⟩ w) : BtoS s K w := ⟨bs, h, k⟩
theorem seq_refl (a : ByteArray) : seq a a = true := by simp [seq]
theorem mk_data (s : ByteArray) : (⟨s.data.toList.toArray⟩ : ByteArray) = s := by cases s; simp

end Go.Sx
