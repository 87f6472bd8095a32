/-
  Facts on memory: what a block holds behind the words; slices as lists of cells; append and copy on them.
-/
import Derived.Test.YtmppjgddemlmdaaSxM
set_option linter.unusedSimpArgs false
set_option linter.unusedVariables false
namespace Go.Sx
open Go

/-! ### blocks -/
theorem hp_alloc_new (w : World) (o : Obj) : (w.alloc o).heap[w.heap.size]? = some o := by simp [World.alloc, -World.alloc_eq]
theorem hp_alloc_old (w : World) (o : Obj) {b : Nat} (h : b < w.heap.size) : (w.alloc o).heap[b]? = w.heap[b]? := by
  simp only [World.alloc]
  rw [Array.getElem?_push, if_neg (by omega)]
theorem hp_alloc_ne (w : World) (o : Obj) {b : Nat} (h : b ≠ w.heap.size) : (w.alloc o).heap[b]? = w.heap[b]? := by
  simp only [World.alloc]
  rw [Array.getElem?_push, if_neg h]
theorem hp_drew (w : World) : w.drew.heap = w.heap := rfl
theorem size_setObjW (w : World) (r : Nat) (o : Obj) : (setObjW w r o).heap.size = w.heap.size := by simp [setObjW]
theorem hp_setObjW_same {w : World} {r : Nat} {o : Obj} (h : r < w.heap.size) : (setObjW w r o).heap[r]? = some o := by simp [setObjW, h]
theorem hp_setObjW_ne {w : World} {r b : Nat} {o : Obj} (h : b ≠ r) : (setObjW w r o).heap[b]? = w.heap[b]? := by
  simp only [setObjW]
  exact Array.getElem?_setIfInBounds_ne (Ne.symm h)
theorem hp_lt {w : World} {b : Nat} {o : Obj} (h : w.heap[b]? = some o) : b < w.heap.size := (Array.getElem?_eq_some_iff.1 h).1

theorem setCell_eq {w : World} {b i : Nat} {cs : Array Value} {t : TypeId} {fr : Nat × Nat} (h : w.heap[b]? = some (.cells cs t fr)) (v : Value) : w.setCell ⟨b, i, none⟩ v = setObjW w b (.cells (cs.setIfInBounds i v) t fr) := by
  simp only [World.setCell, setObjW]
  congr 1
  apply Array.ext_getElem?
  intro j
  rw [Array.getElem?_modify, Array.getElem?_setIfInBounds]
  by_cases hj : b = j
  · subst hj
    rw [if_pos rfl, if_pos rfl, h, if_pos (hp_lt h)]
    simp
  · rw [if_neg hj, if_neg hj]

theorem setObjW_setObjW (w : World) (b : Nat) (o o' : Obj) : setObjW (setObjW w b o) b o' = setObjW w b o' := by
  simp [setObjW]

theorem setObjW_self {w : World} {b : Nat} {o : Obj} (h : w.heap[b]? = some o) : setObjW w b o = w := by
  have : w.heap.setIfInBounds b o = w.heap := by
    apply Array.ext_getElem?
    intro j
    rw [Array.getElem?_setIfInBounds]
    by_cases hj : b = j
    · subst hj; rw [if_pos rfl, if_pos (hp_lt h), h]
    · rw [if_neg hj]
  simp [setObjW, this]

theorem cell_of {w : World} {b i : Nat} {cs : Array Value} {t : TypeId} {fr : Nat × Nat} (h : w.heap[b]? = some (.cells cs t fr)) : w.cell? ⟨b, i, none⟩ = cs[i]? := by simp [World.cell?, h]
theorem frozen_of {w : World} {b i : Nat} {cs : Array Value} {t : TypeId} {fr : Nat × Nat} (h : w.heap[b]? = some (.cells cs t fr)) : w.frozen? ⟨b, i, none⟩ = (decide (fr.1 ≤ i) && decide (i < fr.2)) := by
  obtain ⟨lo, hi⟩ := fr
  simp [World.frozen?, h]
theorem add_of (b i n : Nat) : Addr.add ⟨b, i, none⟩ n = ⟨b, i + n, none⟩ := by
  unfold Addr.add
  split
  · rename_i h; subst h; rfl
  · rfl

/-! ### what is kept -/
structure Keeps (m : List Nat) (w w' : World) : Prop where
  os : w'.os = w.os
  tape : w'.tape = w.tape
  output : w'.output = w.output
  size : w.heap.size ≤ w'.heap.size
  get : ∀ k, k < w.heap.size → k ∉ m → w'.heap[k]? = w.heap[k]?

theorem Keeps.refl (m : List Nat) (w : World) : Keeps m w w := ⟨rfl, rfl, rfl, Nat.le_refl _, fun _ _ _ => rfl⟩
theorem Keeps.trans {m m' : List Nat} {a b c : World} (h : Keeps m a b) (k : Keeps m' b c) (hm : ∀ x ∈ m', x ∈ m ∨ a.heap.size ≤ x) : Keeps m a c :=
  ⟨k.os.trans h.os, k.tape.trans h.tape, k.output.trans h.output, Nat.le_trans h.size k.size, fun i hi hn => by
    rw [k.get i (Nat.lt_of_lt_of_le hi h.size) (fun hh => by rcases hm i hh with hh | hh; exact hn hh; omega)]
    exact h.get i hi hn⟩
theorem Keeps.mono {m m' : List Nat} {w w' : World} (h : Keeps m w w') (hm : ∀ x ∈ m, x ∈ m' ∨ w.heap.size ≤ x) : Keeps m' w w' :=
  ⟨h.os, h.tape, h.output, h.size, fun k hk hn => h.get k hk (fun hh => by rcases hm k hh with hh | hh; exact hn hh; omega)⟩
theorem Keeps.alloc {m : List Nat} {a w : World} (h : Keeps m a w) (o : Obj) : Keeps m a (w.alloc o) :=
  ⟨h.os, h.tape, h.output, by rw [World.size_alloc]; have := h.size; omega, fun k hk hn => by
    have := h.size
    rw [hp_alloc_old w o (by omega)]
    exact h.get k hk hn⟩
theorem Keeps.drew {m : List Nat} {a w : World} (h : Keeps m a w) : Keeps m a w.drew := ⟨h.os, h.tape, h.output, h.size, h.get⟩
theorem Keeps.setObjW {m : List Nat} {a w : World} (h : Keeps m a w) {b : Nat} (hb : b ∈ m ∨ a.heap.size ≤ b) (o : Obj) : Keeps m a (setObjW w b o) :=
  ⟨h.os, h.tape, h.output, by rw [size_setObjW]; exact h.size, fun k hk hn => by
    rw [hp_setObjW_ne (fun he => by subst he; rcases hb with hb | hb; exact hn hb; omega)]
    exact h.get k hk hn⟩
theorem Keeps.setCell {m : List Nat} {a w : World} (h : Keeps m a w) {p : Addr} (hb : p.block ∈ m ∨ a.heap.size ≤ p.block) (v : Value) : Keeps m a (w.setCell p v) :=
  ⟨h.os, h.tape, h.output, by rw [World.size_setCell]; exact h.size, fun k hk hn => by
    rw [show (w.setCell p v).heap[k]? = w.heap[k]? from by
      simp only [World.setCell, Array.getElem?_modify]
      rw [if_neg (fun he => by subst he; rcases hb with hb | hb; exact hn hb; omega)]]
    exact h.get k hk hn⟩
/-- A block that holds something holds it still. -/
theorem Keeps.at {m : List Nat} {w w' : World} (h : Keeps m w w') {b : Nat} {o : Obj} (hb : w.heap[b]? = some o) (hn : b ∉ m) : w'.heap[b]? = some o := (h.get b (hp_lt hb) hn).trans hb
theorem Keeps.lt {m : List Nat} {w w' : World} (h : Keeps m w w') {b : Nat} (hb : b < w.heap.size) : b < w'.heap.size := Nat.lt_of_lt_of_le hb h.size

/-! ### rules for the words, where the block is known -/
section
variable {w : World} {b i : Nat} {cs : Array Value} {t : TypeId} {fr : Nat × Nat} (h : w.heap[b]? = some (.cells cs t fr))
include h
theorem LdB_of {x : Bool} {K : Bool → Pr} (hi : cs[i]? = some (.bool x)) (k : K x w) : LdB ⟨b, i, none⟩ K w := ⟨x, (cell_of h).trans hi, k⟩
theorem LdI_of {kd : IntKind} {x : Int} {K : Int → Pr} (hi : cs[i]? = some (.int kd x)) (k : K x w) : LdI kd ⟨b, i, none⟩ K w := ⟨x, (cell_of h).trans hi, k⟩
theorem LdS_of {x : ByteArray} {K : ByteArray → Pr} (hi : cs[i]? = some (.string x)) (k : K x w) : LdS ⟨b, i, none⟩ K w := ⟨x, (cell_of h).trans hi, k⟩
theorem LdP_of {x : Option Addr} {K : Option Addr → Pr} (hi : cs[i]? = some (.pointer x)) (k : K x w) : LdP ⟨b, i, none⟩ K w := ⟨x, (cell_of h).trans hi, k⟩
theorem LdL_of {x : Sl} {K : Sl → Pr} (hi : cs[i]? = some (.slice x.p x.len x.cap)) (k : K x w) : LdL ⟨b, i, none⟩ K w := ⟨x, (cell_of h).trans hi, k⟩
theorem LdM_of {x : Option Nat} {K : Option Nat → Pr} (hi : cs[i]? = some (.map x)) (k : K x w) : LdM ⟨b, i, none⟩ K w := ⟨x, (cell_of h).trans hi, k⟩
theorem LdV_of {x : Value} {K : Value → Pr} (hi : cs[i]? = some x) (k : K x w) : LdV ⟨b, i, none⟩ K w := ⟨x, (cell_of h).trans hi, k⟩
theorem St_of {v : Value} {K : Pr} (h1 : v.oneCell' = true) (hi : i < cs.size) (hf : (decide (fr.1 ≤ i) && decide (i < fr.2)) = false) (k : K (setObjW w b (.cells (cs.setIfInBounds i v) t fr))) : St ⟨b, i, none⟩ v K w := by
  refine ⟨h1, ⟨cs[i], (cell_of h).trans (by simp [hi])⟩, (frozen_of h).trans hf, ?_⟩
  rw [setCell_eq h]
  exact k
end

/-! ### slices -/
/-- The block of a slice; none, where nothing can be written by it. -/
def rblk (s : Sl) : List Nat := match s.p with | some a => [a.block] | none => []
def blk (s : Sl) : List Nat := match s.cap with | 0 => [] | _ + 1 => rblk s
theorem blk_zero {s : Sl} (h : s.cap = 0) : blk s = [] := by unfold blk; rw [h]
theorem blk_pos {s : Sl} {b o : Nat} (h : s.cap ≠ 0) (hp : s.p = some ⟨b, o, none⟩) : blk s = [b] := by
  unfold blk rblk
  rw [hp]
  cases hc : s.cap with
  | zero => exact absurd hc h
  | succ n => rfl
theorem blk_sub {s : Sl} {b o : Nat} (hp : s.p = some ⟨b, o, none⟩) : ∀ x ∈ blk s, x = b := by
  intro x hx
  by_cases h : s.cap = 0
  · rw [blk_zero h] at hx; cases hx
  · rw [blk_pos h hp] at hx; simpa using hx
theorem blk_rblk (s : Sl) : ∀ x ∈ blk s, x ∈ rblk s := by
  intro x hx
  unfold blk at hx
  split at hx
  · cases hx
  · exact hx

/-- A slice that shows cells, in a row that may be written. -/
structure SlC (w : World) (s : Sl) (size : Nat) (cs : List Value) : Prop where
  len : cs.length = s.len * size
  cap : s.len ≤ s.cap
  row : s.cap = 0 ∨ ∃ (b o : Nat) (all : Array Value) (t : TypeId) (fr : Nat × Nat), s.p = some ⟨b, o, none⟩ ∧ w.heap[b]? = some (.cells all t fr) ∧ o + s.cap * size ≤ all.size ∧
    (∀ j, j < cs.length → all[o + j]? = cs[j]?) ∧ (∀ j, j < s.cap * size → (decide (fr.1 ≤ o + j) && decide (o + j < fr.2)) = false)

theorem SlC.keeps {w w' : World} {s : Sl} {size : Nat} {cs : List Value} {m : List Nat} (h : SlC w s size cs) (hk : Keeps m w w') (hd : ∀ x ∈ blk s, x ∉ m) : SlC w' s size cs := by
  refine ⟨h.len, h.cap, ?_⟩
  rcases h.row with h1 | ⟨b, o, all, t, fr, hp, hb, h1, h2, h3⟩
  · exact .inl h1
  · by_cases hc : s.cap = 0
    · exact .inl hc
    · exact .inr ⟨b, o, all, t, fr, hp, hk.at hb (hd b (by simp [blk_pos hc hp])), h1, h2, h3⟩

theorem SlC.lt {w : World} {s : Sl} {size : Nat} {cs : List Value} (h : SlC w s size cs) : ∀ x ∈ blk s, x < w.heap.size := by
  intro x hx
  rcases h.row with h1 | ⟨b, o, all, t, fr, hp, hb, _⟩
  · rw [blk_zero h1] at hx; cases hx
  · rw [blk_sub hp x hx]
    exact hp_lt hb

theorem SlC.nil (w : World) (size : Nat) : SlC w ⟨none, 0, 0⟩ size [] := ⟨by simp, Nat.le_refl _, .inl rfl⟩

/-- The cells, read. -/
theorem SlC.rdc {w : World} {s : Sl} {size : Nat} {cs : List Value} (h : SlC w s size cs) : RdC s.p (s.len * size) cs w := by
  refine ⟨h.len, fun j v hj => ?_⟩
  have hlt := (List.getElem?_eq_some_iff.1 hj).1
  rcases h.row with h2 | ⟨b, o, all, t, fr, hp, hb, h1, h2, h3⟩
  · have hl := h.len
    have hc := h.cap
    have h0 : s.len = 0 := by omega
    rw [h0, Nat.zero_mul] at hl
    omega
  · refine ⟨_, hp, ?_⟩
    rw [add_of, cell_of hb, h2 j hlt, hj]

/-- An element's address, and what lies there. -/
theorem SlC.ix {w : World} {s : Sl} {size : Nat} {cs : List Value} (h : SlC w s size cs) {i : Int} (h0 : 0 ≤ i) (h1 : i < s.len) {K : Addr → Pr}
    (k : ∀ (b o : Nat) (all : Array Value) (t : TypeId) (fr : Nat × Nat), s.p.map (·.block) = some b → w.heap[b]? = some (.cells all t fr) → (∀ j, j < size → all[o + j]? = cs[i.toNat * size + j]?) → K ⟨b, o, none⟩ w) : Ix s i size K w := by
  rcases h.row with hc | ⟨b, o, all, t, fr, hp, hb, h2, h3, h4⟩
  · have := h.cap
    omega
  · unfold Ix
    rw [hp]
    refine ⟨h0, h1, ?_⟩
    rw [add_of]
    refine k b _ all t fr (by simp [hp]) hb fun j hj => ?_
    rw [Nat.add_assoc, h3]
    have hl := h.len
    have : (i.toNat + 1) * size ≤ s.len * size := Nat.mul_le_mul_right _ (by omega)
    rw [Nat.succ_mul] at this
    omega

/-! ### stores of many cells -/
def setA (all : Array Value) (o : Nat) : List Value → Array Value
  | [] => all
  | v :: vs => setA (all.setIfInBounds o v) (o + 1) vs

theorem setA_size (vs : List Value) : ∀ (all : Array Value) (o : Nat), (setA all o vs).size = all.size := by
  induction vs with
  | nil => intro all o; rfl
  | cons v vs ih => intro all o; rw [setA, ih]; simp

theorem setA_get (vs : List Value) : ∀ (all : Array Value) (o j : Nat), o + vs.length ≤ all.size → (setA all o vs)[j]? = if o ≤ j ∧ j < o + vs.length then vs[j - o]? else all[j]? := by
  induction vs with
  | nil => intro all o j h; rw [setA, if_neg (by simp)]
  | cons v vs ih =>
    intro all o j h
    simp only [List.length_cons] at h
    rw [setA, ih _ _ _ (by simp; omega)]
    by_cases h1 : o = j
    · subst h1
      rw [if_neg (by omega), if_pos (by simp), Array.getElem?_setIfInBounds_self, if_pos (by omega)]
      simp
    · rw [Array.getElem?_setIfInBounds_ne h1]
      by_cases h2 : o + 1 ≤ j ∧ j < o + 1 + vs.length
      · rw [if_pos h2, if_pos (by simp; omega), show j - o = (j - (o + 1)) + 1 from by omega]
        simp
      · rw [if_neg h2, if_neg (by simp; omega)]

theorem StR_of {b o : Nat} {t : TypeId} {fr : Nat × Nat} {K : Pr} : ∀ {vs : List Value} {i : Nat} {all : Array Value} {w : World}, w.heap[b]? = some (.cells all t fr) → o + i + vs.length ≤ all.size → (∀ v ∈ vs, v.oneCell' = true) →
    (∀ j, i ≤ j → j < i + vs.length → (decide (fr.1 ≤ o + j) && decide (o + j < fr.2)) = false) → K (setObjW w b (.cells (setA all (o + i) vs) t fr)) → StR vs ⟨b, o, none⟩ i K w
  | [], i, all, w, h, hr, h1, hf, k => by
    rw [setA, setObjW_self h] at k
    exact k
  | v :: vs, i, all, w, h, hr, h1, hf, k => by
    simp only [List.length_cons] at hr hf
    simp only [StR]
    rw [add_of]
    refine St_of h (h1 v List.mem_cons_self) (by omega) (hf i (Nat.le_refl _) (by omega)) ?_
    refine StR_of (all := all.setIfInBounds (o + i) v) (hp_setObjW_same (hp_lt h)) (by simp; omega) (fun u hu => h1 u (List.mem_cons_of_mem _ hu)) (fun j hj hj' => hf j (by omega) (by omega)) ?_
    rw [setObjW_setObjW]
    rw [setA] at k
    exact k

theorem zeroCells_eq (z : Array Value) (n : Nat) : Builtin.zeroCells z n = (zerosL z.toList n).toArray := zeros_eq z n

/-- 'append' to a slice whose row may be written. -/
theorem App_of {e size bytes : Nat} {z : Array Value} {s : Sl} {m : Nat} {src : List Value → World → Prop} {K : Sl → Pr} {w : World} {cs new : List Value} (hs : SlC w s size cs) (hn : src new w) (hl : new.length = m * size)
    (h1 : ∀ v ∈ new, v.oneCell' = true) (hz : z.size = size) (h47 : (s.len + m) * bytes ≤ 140737488355328) (h63 : s.len + m ≤ 9223372036854775807)
    (k : ∀ (r : Sl) (w' : World), SlC w' r size (cs ++ new) → r.len = s.len + m → Keeps (blk s) w w' → (∀ x ∈ blk r, x ∈ blk s ∨ w.heap.size ≤ x) → K r w') : App e size bytes z s m src K w := by
  refine ⟨new, hn, ?_⟩
  have hlen := hs.len
  split
  · rename_i hc
    by_cases hc0 : s.cap = 0
    · have hm : m = 0 := by have := hs.cap; omega
      have hnn : new = [] := by
        subst hm
        simpa using hl
      subst hnn
      have hb0 : ∀ p : Option Addr, blk ⟨p, s.len + m, s.cap⟩ = [] := fun p => blk_zero hc0
      have hS : ∀ p : Option Addr, SlC w ⟨p, s.len + m, s.cap⟩ size (cs ++ []) := fun p => ⟨by simp [hlen, hm], by simpa using hc, .inl hc0⟩
      cases hp : s.p with
      | none => exact k _ w (hS _) rfl (Keeps.refl _ _) (by rw [hb0]; simp)
      | some a => exact k _ w (hS _) rfl (Keeps.refl _ _) (by rw [hb0]; simp)
    rcases hs.row with h0 | ⟨b, o, all, t, fr, hp, hb, h2, h3, h4⟩
    · exact absurd h0 hc0
    · rw [hp]
      simp only
      rw [add_of]
      have hcap : (s.len + m) * size ≤ s.cap * size := Nat.mul_le_mul_right _ hc
      rw [Nat.add_mul] at hcap
      refine StR_of hb (by omega) h1 (fun j _ hj => by rw [Nat.add_assoc]; exact h4 _ (by omega)) ?_
      have hbl : b < w.heap.size := hp_lt hb
      refine k _ _ ⟨by simp [hlen, hl, Nat.add_mul], by simpa using hc, .inr ⟨b, o, setA all (o + s.len * size) new, t, fr, rfl, ?_, by rw [setA_size]; exact h2, ?_, h4⟩⟩ rfl ((Keeps.refl _ _).setObjW (.inl (by simp [blk_pos hc0 hp])) _) ?_
      · rw [Nat.add_zero]; exact hp_setObjW_same hbl
      · intro j hj
        rw [List.length_append] at hj
        rw [setA_get _ _ _ _ (by omega)]
        by_cases hj2 : j < cs.length
        · rw [if_neg (by omega), h3 j hj2, List.getElem?_append_left hj2]
        · rw [if_pos (by omega), List.getElem?_append_right (by omega), hlen]
          congr 1
          omega
      · intro x hx
        left
        rw [blk_pos hc0 hp, blk_sub rfl x hx]
        exact List.mem_singleton.2 rfl
  · rename_i hc
    refine ⟨h47, by omega, cs, hs.rdc, fun c hcc => ?_⟩
    have hsz : ((cs ++ new).toArray ++ Builtin.zeroCells z (c - (s.len + m))).size = c * size := by
      rw [zeroCells_eq, Array.size_append, List.size_toArray, List.size_toArray, List.length_append, zerosL_length, hlen, hl]
      simp only [Array.length_toList, hz]
      rw [← Nat.add_mul, ← Nat.add_mul]
      congr 1
      omega
    refine k _ _ ⟨by simp [hlen, hl, Nat.add_mul], by simpa using hcc, .inr ⟨w.heap.size, 0, _, e, (0, 0), rfl, hp_alloc_new w.drew _, by rw [hsz]; simp, ?_, ?_⟩⟩ rfl ((Keeps.refl _ _).drew.alloc _) ?_
    · intro j hj
      rw [Nat.zero_add, Array.getElem?_append_left (by simpa using hj)]
      simp
    · intro j _
      simp
    · intro x hx
      right
      rw [blk_sub rfl x hx]
      exact Nat.le_refl _

end Go.Sx
