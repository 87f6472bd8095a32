/-
  Rules that run straight-line words by simp: 'simp (disch := ..) only [sx]'.
-/
import Derived.Test.YtmppjgddemlmdaaSxN
set_option linter.unusedSimpArgs false
set_option linter.unusedVariables false
namespace Go.Sx
open Go

def asI (k : IntKind) (K : Int → Pr) (v : Option Value) (w : World) : Prop := match v with | some (.int k' x) => k' = k ∧ K x w | _ => False
def asB (K : Bool → Pr) (v : Option Value) (w : World) : Prop := match v with | some (.bool x) => K x w | _ => False
def asS (K : ByteArray → Pr) (v : Option Value) (w : World) : Prop := match v with | some (.string x) => K x w | _ => False
def asP (K : Option Addr → Pr) (v : Option Value) (w : World) : Prop := match v with | some (.pointer x) => K x w | _ => False
def asL (K : Sl → Pr) (v : Option Value) (w : World) : Prop := match v with | some (.slice p l c) => K ⟨p, l, c⟩ w | _ => False
def asM (K : Option Nat → Pr) (v : Option Value) (w : World) : Prop := match v with | some (.map x) => K x w | _ => False
def asV (K : Value → Pr) (v : Option Value) (w : World) : Prop := match v with | some x => K x w | _ => False

/-- A cell of what a block holds. -/
def cellO (o : Option Obj) (i : Nat) : Option Value := match o with | some (.cells cs _ _) => cs[i]? | _ => none

theorem cell_cellO (w : World) (b i : Nat) : w.cell? ⟨b, i, none⟩ = cellO w.heap[b]? i := by
  unfold World.cell? cellO
  cases w.heap[b]? with
  | none => rfl
  | some o => cases o <;> rfl

theorem LdI_c (k : IntKind) (b i : Nat) (K : Int → Pr) (w : World) : LdI k ⟨b, i, none⟩ K w = asI k K (cellO w.heap[b]? i) w := by
  simp only [LdI, cell_cellO, asI]
  apply propext
  cases cellO w.heap[b]? i with
  | none => simp
  | some v => cases v <;> simp; exact ⟨fun ⟨x, ⟨h1, h2⟩, h⟩ => ⟨h1, h2 ▸ h⟩, fun ⟨h1, h⟩ => ⟨_, ⟨h1, rfl⟩, h⟩⟩
theorem LdB_c (b i : Nat) (K : Bool → Pr) (w : World) : LdB ⟨b, i, none⟩ K w = asB K (cellO w.heap[b]? i) w := by
  simp only [LdB, cell_cellO, asB]
  apply propext
  cases cellO w.heap[b]? i with
  | none => simp
  | some v => cases v <;> simp
theorem LdS_c (b i : Nat) (K : ByteArray → Pr) (w : World) : LdS ⟨b, i, none⟩ K w = asS K (cellO w.heap[b]? i) w := by
  simp only [LdS, cell_cellO, asS]
  apply propext
  cases cellO w.heap[b]? i with
  | none => simp
  | some v => cases v <;> simp
theorem LdP_c (b i : Nat) (K : Option Addr → Pr) (w : World) : LdP ⟨b, i, none⟩ K w = asP K (cellO w.heap[b]? i) w := by
  simp only [LdP, cell_cellO, asP]
  apply propext
  cases cellO w.heap[b]? i with
  | none => simp
  | some v => cases v <;> simp
theorem LdM_c (b i : Nat) (K : Option Nat → Pr) (w : World) : LdM ⟨b, i, none⟩ K w = asM K (cellO w.heap[b]? i) w := by
  simp only [LdM, cell_cellO, asM]
  apply propext
  cases cellO w.heap[b]? i with
  | none => simp
  | some v => cases v <;> simp
theorem LdV_c (b i : Nat) (K : Value → Pr) (w : World) : LdV ⟨b, i, none⟩ K w = asV K (cellO w.heap[b]? i) w := by
  simp only [LdV, cell_cellO, asV]
  apply propext
  cases cellO w.heap[b]? i with
  | none => simp
  | some v => simp
theorem LdL_c (b i : Nat) (K : Sl → Pr) (w : World) : LdL ⟨b, i, none⟩ K w = asL K (cellO w.heap[b]? i) w := by
  simp only [LdL, cell_cellO, asL]
  apply propext
  cases cellO w.heap[b]? i with
  | none => simp
  | some v =>
    cases v <;> simp
    exact ⟨fun ⟨x, ⟨h1, h2, h3⟩, h⟩ => by subst h1 h2 h3; exact h, fun h => ⟨_, ⟨rfl, rfl, rfl⟩, h⟩⟩

def frz (fr : Nat × Nat) (i : Nat) : Bool := decide (fr.1 ≤ i) && decide (i < fr.2)

def stO (i : Nat) (v : Value) (K : Obj → Prop) (o : Option Obj) : Prop := match o with
  | some (.cells cs t fr) => v.oneCell' = true ∧ i < cs.size ∧ frz fr i = false ∧ K (.cells (cs.setIfInBounds i v) t fr)
  | _ => False

theorem St_c (b i : Nat) (v : Value) (K : Pr) (w : World) : St ⟨b, i, none⟩ v K w = stO i v (fun o => K (setObjW w b o)) w.heap[b]? := by
  apply propext
  unfold St stO
  cases hb : w.heap[b]? with
  | none => simp [World.cell?, hb]
  | some o =>
    cases o with
    | cells cs t fr =>
      rw [frozen_of hb, cell_of hb, setCell_eq hb]
      simp only
      constructor
      · rintro ⟨h1, ⟨x, hx⟩, h2, h3⟩
        exact ⟨h1, (Array.getElem?_eq_some_iff.1 hx).1, h2, h3⟩
      · rintro ⟨h1, h2, h3, h4⟩
        exact ⟨h1, ⟨_, by simp [h2]; rfl⟩, h3, h4⟩
    | _ => simp [World.cell?, hb]

/-- The words, run. -/
theorem sx :
    (∀ (cs : Array Value) (t : TypeId) (K : Addr → Pr) (w : World), New cs t K w = K ⟨w.heap.size, 0, none⟩ (w.alloc (.cells cs t))) ∧
    (∀ (o : Obj) (K : Nat → Pr) (w : World), NewObj o K w = K w.heap.size (w.alloc o)) ∧
    (∀ (K : Pr) (w : World), Dr K w = K w.drew) ∧
    (∀ (A B : Pr) (w : World), Both A B w = (A w ∧ B w)) ∧
    (∀ (p : Prop) (K : Pr) (w : World), Req p K w = (p ∧ K w)) ∧
    (∀ (a : Addr) (K : Addr → Pr), Nn (some a) K = K a) ∧
    (∀ (T E : Pr) (w : World), Br true T E w = T w) ∧
    (∀ (T E : Pr) (w : World), Br false T E w = E w) ∧
    (∀ (b i n : Nat), Addr.add ⟨b, i, none⟩ n = ⟨b, i + n, none⟩) ∧
    (∀ (k : IntKind) (b i : Nat) (K : Int → Pr) (w : World), LdI k ⟨b, i, none⟩ K w = asI k K (cellO w.heap[b]? i) w) ∧
    (∀ (b i : Nat) (K : Bool → Pr) (w : World), LdB ⟨b, i, none⟩ K w = asB K (cellO w.heap[b]? i) w) ∧
    (∀ (b i : Nat) (K : ByteArray → Pr) (w : World), LdS ⟨b, i, none⟩ K w = asS K (cellO w.heap[b]? i) w) ∧
    (∀ (b i : Nat) (K : Option Addr → Pr) (w : World), LdP ⟨b, i, none⟩ K w = asP K (cellO w.heap[b]? i) w) ∧
    (∀ (b i : Nat) (K : Option Nat → Pr) (w : World), LdM ⟨b, i, none⟩ K w = asM K (cellO w.heap[b]? i) w) ∧
    (∀ (b i : Nat) (K : Value → Pr) (w : World), LdV ⟨b, i, none⟩ K w = asV K (cellO w.heap[b]? i) w) ∧
    (∀ (b i : Nat) (K : Sl → Pr) (w : World), LdL ⟨b, i, none⟩ K w = asL K (cellO w.heap[b]? i) w) ∧
    (∀ (b i : Nat) (v : Value) (K : Pr) (w : World), St ⟨b, i, none⟩ v K w = stO i v (fun o => K (setObjW w b o)) w.heap[b]?) ∧
    (∀ (k : IntKind) (K : Int → Pr) (x : Int) (w : World), asI k K (some (.int k x)) w = K x w) ∧
    (∀ (K : Bool → Pr) (x : Bool) (w : World), asB K (some (.bool x)) w = K x w) ∧
    (∀ (K : ByteArray → Pr) (x : ByteArray) (w : World), asS K (some (.string x)) w = K x w) ∧
    (∀ (K : Option Addr → Pr) (x : Option Addr) (w : World), asP K (some (.pointer x)) w = K x w) ∧
    (∀ (K : Option Nat → Pr) (x : Option Nat) (w : World), asM K (some (.map x)) w = K x w) ∧
    (∀ (K : Value → Pr) (x : Value) (w : World), asV K (some x) w = K x w) ∧
    (∀ (K : Sl → Pr) (p : Option Addr) (l c : Nat) (w : World), asL K (some (.slice p l c)) w = K ⟨p, l, c⟩ w) ∧
    (∀ (cs : Array Value) (t : TypeId) (fr : Nat × Nat) (i : Nat), cellO (some (.cells cs t fr)) i = cs[i]?) ∧
    (∀ (i : Nat) (v : Value) (K : Obj → Prop) (cs : Array Value) (t : TypeId) (fr : Nat × Nat), stO i v K (some (.cells cs t fr)) =
      (v.oneCell' = true ∧ i < cs.size ∧ frz fr i = false ∧ K (.cells (cs.setIfInBounds i v) t fr))) ∧
    (∀ (w : World) (o : Obj), (w.alloc o).heap[w.heap.size]? = some o) ∧
    (∀ (w : World), w.drew.heap = w.heap) ∧
    (∀ (w : World) (o : Obj), (w.alloc o).heap.size = w.heap.size + 1) ∧
    (∀ (w : World) (r : Nat) (o : Obj), (setObjW w r o).heap.size = w.heap.size) ∧
    (∀ (w : World) (r : Nat) (o o' : Obj), setObjW (setObjW w r o) r o' = setObjW w r o') ∧
    (∀ (s : Sl), (⟨s.p, s.len, s.cap⟩ : Sl) = s) :=
  ⟨fun _ _ _ _ => rfl, fun _ _ _ => rfl, fun _ _ => rfl, fun _ _ _ => rfl, fun _ _ _ => rfl, fun _ _ => rfl, fun _ _ _ => rfl, fun _ _ _ => rfl, add_of, LdI_c, LdB_c, LdS_c, LdP_c, LdM_c, LdV_c, LdL_c, St_c,
    fun k K x w => by simp [asI], fun _ _ _ => rfl, fun _ _ _ => rfl, fun _ _ _ => rfl, fun _ _ _ => rfl, fun _ _ _ => rfl, fun _ _ _ _ _ => rfl, fun _ _ _ _ => rfl, fun _ _ _ _ _ _ => rfl, hp_alloc_new, fun _ => rfl, World.size_alloc, size_setObjW, setObjW_setObjW, fun _ => rfl⟩

/-- Where a block is another one; literal rows. -/
theorem sxc :
    (∀ (w : World) (o : Obj) (b : Nat), b < w.heap.size → (w.alloc o).heap[b]? = w.heap[b]?) ∧
    (∀ (w : World) (o : Obj) (b : Nat), b = w.heap.size → (w.alloc o).heap[b]? = some o) ∧
    (∀ (w : World) (r b : Nat) (o : Obj), b ≠ r → (setObjW w r o).heap[b]? = w.heap[b]?) ∧
    (∀ (w : World) (r : Nat) (o : Obj), r < w.heap.size → (setObjW w r o).heap[r]? = some o) :=
  ⟨fun w o b h => hp_alloc_old w o h, fun w o b h => by subst h; exact hp_alloc_new w o, fun w r b o h => hp_setObjW_ne h, fun w r o h => hp_setObjW_same h⟩

theorem sxl :
    (∀ (l : List Value) (i : Nat), l.toArray[i]? = l[i]?) ∧
    (∀ (l : List Value), l.toArray.size = l.length) ∧
    (∀ (l : List Value) (i : Nat) (v : Value), l.toArray.setIfInBounds i v = (l.set i v).toArray) ∧
    (∀ (v : Value) (l : List Value), (v :: l)[0]? = some v) ∧
    (∀ (v : Value) (l : List Value) (i : Nat), (v :: l)[i + 1]? = l[i]?) ∧
    (∀ (v u : Value) (l : List Value), (v :: l).set 0 u = u :: l) ∧
    (∀ (v u : Value) (l : List Value) (i : Nat), (v :: l).set (i + 1) u = v :: l.set i u) ∧
    (∀ (v : Value) (l : List Value), (v :: l).length = l.length + 1) ∧
    (([] : List Value).length = 0) ∧
    (∀ (b : Bool), (Value.bool b).oneCell' = true) ∧ (∀ (k : IntKind) (n : Int), (Value.int k n).oneCell' = true) ∧ (∀ (s : ByteArray), (Value.string s).oneCell' = true) ∧
    (∀ (p : Option Addr), (Value.pointer p).oneCell' = true) ∧ (∀ (p : Option Addr) (l c : Nat), (Value.slice p l c).oneCell' = true) ∧ (∀ (m : Option Nat), (Value.map m).oneCell' = true) ∧
    (∀ (f : Fn) (a c : Array Value), (Value.func f a c).oneCell' = true) ∧ (∀ (t : TypeId) (v : Value), (Value.iface t v).oneCell' = true) ∧ (Value.nilIface.oneCell' = true) ∧ (Value.nilFunc.oneCell' = true) ∧
    (∀ i : Nat, (frz (0, 0) i = false) = True) :=
  ⟨fun _ _ => by simp, fun _ => by simp, fun _ _ _ => by simp, fun _ _ => rfl, fun _ _ _ => by simp, fun _ _ _ => rfl, fun _ _ _ _ => rfl, fun _ _ => rfl, rfl, fun _ => rfl, fun _ _ => rfl, fun _ => rfl, fun _ => rfl, fun _ _ _ => rfl, fun _ => rfl,
    fun _ _ _ => rfl, fun _ _ => rfl, rfl, rfl, fun i => by simp [frz]⟩

theorem Jp_of {σ : Type} {J : σ → Pr} {A : (σ → Pr) → Pr} {w : World} (Φ : σ → World → Prop) (hA : ∀ J' : σ → Pr, (∀ s w', Φ s w' → J' s w') → A J' w) (hJ : ∀ s w', Φ s w' → J s w') : Jp J A w := hA J hJ

theorem Br_of {c : Bool} {T E : Pr} {w : World} (h1 : c = true → T w) (h2 : c = false → E w) : Br c T E w := by
  cases c
  · exact h2 rfl
  · exact h1 rfl

end Go.Sx
