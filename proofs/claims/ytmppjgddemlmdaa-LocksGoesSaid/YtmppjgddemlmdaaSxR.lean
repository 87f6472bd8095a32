/-
  More on slices: the three-index form, bytes that may be written, rows of things in a named block.
-/
import Derived.Test.YtmppjgddemlmdaaSxQ
set_option linter.unusedSimpArgs false
set_option linter.unusedVariables false
namespace Go.Sx
open Go

theorem slOff_zero (p : Option Addr) (c size : Nat) : slOff p c 0 size = p := by
  unfold slOff
  split
  · rfl
  · cases p with
    | none => rfl
    | some a => simp [Addr.add]

/-- 's[:len:c]'. -/
theorem SlC.cut {w : World} {s : Sl} {size : Nat} {cs : List Value} (h : SlC w s size cs) {c : Nat} (h1 : s.len ≤ c) (h2 : c ≤ s.cap) : SlC w ⟨s.p, s.len, c⟩ size cs := by
  refine ⟨h.len, h1, ?_⟩
  have hm : c * size ≤ s.cap * size := Nat.mul_le_mul_right _ h2
  rcases h.row with h0 | ⟨b, o, all, t, fr, hp, hb, h3, h4, h5⟩
  · exact .inl (by simp only; omega)
  · exact .inr ⟨b, o, all, t, fr, hp, hb, by simp only; omega, h4, fun j hj => h5 j (by simp only at hj; omega)⟩

/-- '[]byte(s)': it may be written. -/
theorem StoB_own {e : TypeId} {s : ByteArray} {K : Sl → Pr} {w : World}
    (k : ∀ (r : Sl) (w' : World), SlC w' r 1 (cB s.data.toList) → Keeps [] w w' → (∀ x ∈ blk r, w.heap.size ≤ x) → r.len = s.size → K r w') : StoB e s K w := by
  intro c hc
  have hs : s.data.toList.length = s.size := by rw [Array.length_toList]; rfl
  refine k _ _ ⟨by rw [cB_length, hs, Nat.mul_one], hc, .inr ⟨_, 0, _, _, _, rfl, hp_alloc_new w.drew _, ?_, ?_, ?_⟩⟩ ((Keeps.refl [] w).drew.alloc _) (fun x hx => Nat.le_of_eq (blk_sub rfl x hx).symm) rfl
  · simp only [cellsB_eq, List.size_toArray, List.length_append, List.length_replicate, cB_length, hs]
    omega
  · intro j hj
    rw [Nat.zero_add, List.getElem?_toArray, cellsB_eq, List.getElem?_append_left hj]
  · intro j hj
    simp only [Nat.mul_one] at hj
    simp only [Nat.zero_add, Bool.and_eq_false_iff, decide_eq_false_iff_not]
    omega

theorem SlC.slen {α : Type} {enc : α → List Value} {size : Nat} (he : ∀ x, (enc x).length = size) (h0 : 0 < size) {w : World} {s : Sl} {l : List α} (h : SlC w s size (l.flatMap enc)) : s.len = l.length := by
  have := h.len
  rw [flat_length he] at this
  exact (Nat.eq_of_mul_eq_mul_right h0 this).symm

/-- The cells of one thing. -/
theorem SlC.item {α : Type} {enc : α → List Value} {size : Nat} (he : ∀ x, (enc x).length = size) {w : World} {s : Sl} {l : List α} (h : SlC w s size (l.flatMap enc)) {b o : Nat} (hp : s.p = some ⟨b, o, none⟩) {k : Nat} {x : α} (hx : l[k]? = some x) (j : Nat) (hj : j < size) :
    cellO w.heap[b]? (o + k * size + j) = (enc x)[j]? := by
  have hk := (List.getElem?_eq_some_iff.1 hx).1
  have hm : (k + 1) * size ≤ l.length * size := Nat.mul_le_mul_right _ hk
  rw [Nat.succ_mul] at hm
  rw [Nat.add_assoc, h.read hp (by rw [flat_length he]; omega), flat_get he l k j hj, hx]
  rfl

/-- The words, run, but for the stores. -/
theorem sxr :
    (∀ (cs : Array Value) (t : TypeId) (K : Addr → Pr) (w : World), New cs t K w = K ⟨w.heap.size, 0, none⟩ (w.alloc (.cells cs t))) ∧
    (∀ (o : Obj) (K : Nat → Pr) (w : World), NewObj o K w = K w.heap.size (w.alloc o)) ∧
    (∀ (K : Pr) (w : World), Dr K w = K w.drew) ∧
    (∀ (A B : Pr) (w : World), Both A B w = (A w ∧ B w)) ∧
    (∀ (p : Prop) (K : Pr) (w : World), Req p K w = (p ∧ K w)) ∧
    (∀ (a : Addr) (K : Addr → Pr), Nn (some a) K = K a) ∧
    (∀ (T E : Pr) (w : World), Br true T E w = T w) ∧
    (∀ (T E : Pr) (w : World), Br false T E w = E w) ∧
    (∀ (b i n : Nat), Addr.add ⟨b, i, none⟩ n = ⟨b, i + n, none⟩) ∧
    (∀ (k : IntKind) (b i : Nat) (K : Int → Pr) (w : World), LdI k ⟨b, i, none⟩ K w = asI k K (cellO w.heap[b]? i) w) ∧
    (∀ (b i : Nat) (K : Bool → Pr) (w : World), LdB ⟨b, i, none⟩ K w = asB K (cellO w.heap[b]? i) w) ∧
    (∀ (b i : Nat) (K : ByteArray → Pr) (w : World), LdS ⟨b, i, none⟩ K w = asS K (cellO w.heap[b]? i) w) ∧
    (∀ (b i : Nat) (K : Option Addr → Pr) (w : World), LdP ⟨b, i, none⟩ K w = asP K (cellO w.heap[b]? i) w) ∧
    (∀ (b i : Nat) (K : Option Nat → Pr) (w : World), LdM ⟨b, i, none⟩ K w = asM K (cellO w.heap[b]? i) w) ∧
    (∀ (b i : Nat) (K : Value → Pr) (w : World), LdV ⟨b, i, none⟩ K w = asV K (cellO w.heap[b]? i) w) ∧
    (∀ (b i : Nat) (K : Sl → Pr) (w : World), LdL ⟨b, i, none⟩ K w = asL K (cellO w.heap[b]? i) w) ∧
    (∀ (k : IntKind) (K : Int → Pr) (x : Int) (w : World), asI k K (some (.int k x)) w = K x w) ∧
    (∀ (K : Bool → Pr) (x : Bool) (w : World), asB K (some (.bool x)) w = K x w) ∧
    (∀ (K : ByteArray → Pr) (x : ByteArray) (w : World), asS K (some (.string x)) w = K x w) ∧
    (∀ (K : Option Addr → Pr) (x : Option Addr) (w : World), asP K (some (.pointer x)) w = K x w) ∧
    (∀ (K : Option Nat → Pr) (x : Option Nat) (w : World), asM K (some (.map x)) w = K x w) ∧
    (∀ (K : Value → Pr) (x : Value) (w : World), asV K (some x) w = K x w) ∧
    (∀ (K : Sl → Pr) (p : Option Addr) (l c : Nat) (w : World), asL K (some (.slice p l c)) w = K ⟨p, l, c⟩ w) ∧
    (∀ (cs : Array Value) (t : TypeId) (fr : Nat × Nat) (i : Nat), cellO (some (.cells cs t fr)) i = cs[i]?) ∧
    (∀ (i : Nat) (v : Value) (K : Obj → Prop) (cs : Array Value) (t : TypeId) (fr : Nat × Nat), stO i v K (some (.cells cs t fr)) =
      (v.oneCell' = true ∧ i < cs.size ∧ frz fr i = false ∧ K (.cells (cs.setIfInBounds i v) t fr))) ∧
    (∀ (w : World) (o : Obj), (w.alloc o).heap[w.heap.size]? = some o) ∧
    (∀ (w : World), w.drew.heap = w.heap) ∧
    (∀ (w : World) (o : Obj), (w.alloc o).heap.size = w.heap.size + 1) ∧
    (∀ (w : World) (r : Nat) (o : Obj), (setObjW w r o).heap.size = w.heap.size) ∧
    (∀ (w : World) (r : Nat) (o o' : Obj), setObjW (setObjW w r o) r o' = setObjW w r o') ∧
    (∀ (s : Sl), (⟨s.p, s.len, s.cap⟩ : Sl) = s) :=
  ⟨fun _ _ _ _ => rfl, fun _ _ _ => rfl, fun _ _ => rfl, fun _ _ _ => rfl, fun _ _ _ => rfl, fun _ _ => rfl, fun _ _ _ => rfl, fun _ _ _ => rfl, add_of, LdI_c, LdB_c, LdS_c, LdP_c, LdM_c, LdV_c, LdL_c,
    fun k K x w => by simp [asI], fun _ _ _ => rfl, fun _ _ _ => rfl, fun _ _ _ => rfl, fun _ _ _ => rfl, fun _ _ _ => rfl, fun _ _ _ _ _ => rfl, fun _ _ _ _ => rfl, fun _ _ _ _ _ _ => rfl, hp_alloc_new, fun _ => rfl, World.size_alloc, size_setObjW, setObjW_setObjW, fun _ => rfl⟩


end Go.Sx
