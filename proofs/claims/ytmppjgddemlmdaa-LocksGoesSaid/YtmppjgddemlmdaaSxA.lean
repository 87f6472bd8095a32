/-
  The language of the walks of this work: a Go function's body, as the model has it, is turned ('den') into a proposition over a world, made of few words ('LdI', 'St', 'New', 'Call', ..), in which
  what is known of the frame's slots is carried as Lean values. This file: kinds, what is known of a frame, the words.
-/
import Derived.WalkKit
namespace Go.Sx
open Go

structure Sl where
  p : Option Addr
  len : Nat
  cap : Nat

inductive Kd where
  | b | i (k : IntKind) | s | p | sl | m | v

@[reducible] def Kd.T : Kd → Type
  | .b => Bool
  | .i _ => Int
  | .s => ByteArray
  | .p => Option Addr
  | .sl => Sl
  | .m => Option Nat
  | .v => Value

def Kd.enc : (k : Kd) → k.T → Value
  | .b, x => .bool x
  | .i k, x => .int k x
  | .s, x => .string x
  | .p, x => .pointer x
  | .sl, x => .slice x.p x.len x.cap
  | .m, x => .map x
  | .v, x => x

def Kd.dec : (k : Kd) → Value → Option k.T
  | .b, x => match x with | .bool x => some x | _ => none
  | .i k, x => match x with | .int k' x => (if k' = k then some x else none) | _ => none
  | .s, x => match x with | .string x => some x | _ => none
  | .p, x => match x with | .pointer x => some x | _ => none
  | .sl, x => match x with | .slice xp xl xc => some ⟨xp, xl, xc⟩ | _ => none
  | .m, x => match x with | .map x => some x | _ => none
  | .v, x => some x

theorem Kd.dec_eq {k : Kd} {x : Value} {y : k.T} (h : k.dec x = some y) : x = k.enc y := by
  cases k <;> simp only [Kd.dec, Kd.enc] at * <;> (try split at h) <;> (try split at h) <;> simp_all <;> (subst h; exact ⟨rfl, rfl, rfl⟩)

@[simp] theorem Kd.dec_enc (k : Kd) (y : k.T) : k.dec (k.enc y) = some y := by
  cases k <;> simp [Kd.dec, Kd.enc]

/-- One thing in a slot: a scalar, or the cells of a struct or an array. -/
inductive RK where
  | sc (k : Kd) | ag (ks : List Kd)

@[reducible] def Tup : List Kd → Type
  | [] => Unit
  | k :: ks => k.T × Tup ks

def encs : (ks : List Kd) → Tup ks → List Value
  | [], _ => []
  | k :: ks, x => k.enc x.1 :: encs ks x.2

def decs : (ks : List Kd) → List Value → Option (Tup ks)
  | [], l => match l with | [] => some () | _ => none
  | k :: ks, l => match l with
    | v :: vs => match k.dec v with
      | some x => match decs ks vs with
        | some y => some (x, y)
        | none => none
      | none => none
    | [] => none

theorem decs_eq : ∀ {ks : List Kd} {l : List Value} {y : Tup ks}, decs ks l = some y → l = encs ks y
  | [], l, y, h => by
    cases l <;> simp_all [decs, encs]
  | k :: ks, l, y, h => by
    cases l with
    | nil => simp [decs] at h
    | cons v vs =>
      simp only [decs] at h
      split at h
      · rename_i x hx
        split at h
        · rename_i z hz
          simp only [Option.some.injEq] at h
          subst h
          simp [encs, Kd.dec_eq hx, decs_eq hz]
        · cases h
      · cases h

@[reducible] def RK.T : RK → Type
  | .sc k => k.T
  | .ag ks => Tup ks

def RK.enc : (r : RK) → r.T → Value
  | .sc k, x => k.enc x
  | .ag ks, x => .agg (encs ks x).toArray

def RK.dec : (r : RK) → Value → Option r.T
  | .sc k, v => k.dec v
  | .ag ks, v => match v with | .agg cs => decs ks cs.toList | _ => none

theorem RK.dec_eq {r : RK} {v : Value} {y : r.T} (h : r.dec v = some y) : v = r.enc y := by
  cases r with
  | sc k => exact Kd.dec_eq h
  | ag ks =>
    simp only [RK.dec] at h
    split at h
    · rename_i cs
      simp only [RK.enc, ← decs_eq h]
    · cases h

@[reducible] def TR : List RK → Type
  | [] => Unit
  | k :: ks => k.T × TR ks

def encR : (ks : List RK) → TR ks → List Value
  | [], _ => []
  | k :: ks, x => k.enc x.1 :: encR ks x.2

def decR : (ks : List RK) → List Value → Option (TR ks)
  | [], l => match l with | [] => some () | _ => none
  | k :: ks, l => match l with
    | v :: vs => match k.dec v with
      | some x => match decR ks vs with
        | some y => some (x, y)
        | none => none
      | none => none
    | [] => none

theorem decR_eq : ∀ {ks : List RK} {l : List Value} {y : TR ks}, decR ks l = some y → l = encR ks y
  | [], l, y, h => by
    cases l <;> simp_all [decR, encR]
  | k :: ks, l, y, h => by
    cases l with
    | nil => simp [decR] at h
    | cons v vs =>
      simp only [decR] at h
      split at h
      · rename_i x hx
        split at h
        · rename_i z hz
          simp only [Option.some.injEq] at h
          subst h
          simp [encR, RK.dec_eq hx, decR_eq hz]
        · cases h
      · cases h

/-! ### what is known of a frame -/
abbrev Env := List (Option Value)

def Env.get (e : Env) (t : Nat) : Option Value :=
  match e with
  | [] => none
  | x :: r => match t with
    | 0 => x
    | t + 1 => Env.get r t

def Env.set (e : Env) (t : Nat) (v : Option Value) : Env :=
  match e with
  | [] => []
  | x :: r => match t with
    | 0 => v :: r
    | t + 1 => x :: Env.set r t v

def Env.put (e : Env) (d : Option Tmp) (v : Value) : Env :=
  match d with
  | some d => e.set d (some v)
  | none => e

def Env.forget (e : Env) : List Tmp → Env
  | [] => e
  | t :: ts => Env.forget (e.set t none) ts

theorem Env.get_eq (e : Env) (t : Nat) : e.get t = (e[t]?).join := by
  induction e generalizing t with
  | nil => simp [Env.get]
  | cons x r ih => cases t <;> simp [Env.get, ih]

theorem Env.length_set (e : Env) (t : Nat) (v : Option Value) : (e.set t v).length = e.length := by
  induction e generalizing t with
  | nil => rfl
  | cons x r ih => cases t <;> simp [Env.set, ih]

theorem Env.get_set_ne (e : Env) {t u : Nat} (v : Option Value) (h : t ≠ u) : (e.set t v).get u = e.get u := by
  induction e generalizing t u with
  | nil => rfl
  | cons x r ih =>
    cases t with
    | zero => cases u with
      | zero => exact absurd rfl h
      | succ u => rfl
    | succ t => cases u with
      | zero => rfl
      | succ u => exact ih (fun he => h (by rw [he]))

theorem Env.get_set_same (e : Env) (t : Nat) (v : Option Value) (h : t < e.length) : (e.set t v).get t = v := by
  induction e generalizing t with
  | nil => simp at h
  | cons x r ih =>
    cases t with
    | zero => rfl
    | succ t => exact ih t (by simpa using h)

theorem Env.get_lt {e : Env} {t : Nat} {v : Value} (h : e.get t = some v) : t < e.length := by
  induction e generalizing t with
  | nil => simp [Env.get] at h
  | cons x r ih =>
    cases t with
    | zero => simp
    | succ t => have := ih h; simp; omega

theorem Env.get_set_some {e : Env} {t u : Nat} {x : Option Value} {v : Value} (h : (e.set t x).get u = some v) : (t = u ∧ x = some v) ∨ (t ≠ u ∧ e.get u = some v) := by
  by_cases ht : t = u
  · subst ht
    have hl := Env.get_lt h
    rw [Env.length_set] at hl
    rw [Env.get_set_same _ _ _ hl] at h
    exact .inl ⟨rfl, h⟩
  · rw [Env.get_set_ne _ _ ht] at h
    exact .inr ⟨ht, h⟩

/-- What is known holds of the frame. -/
structure Knows (ds : List Deferred) (e : Env) (a : Act) : Prop where
  size : e.length ≤ a.tmps.size
  defers : a.defers = ds
  val : ∀ t v, e.get t = some v → a.tmps[t]? = some v

theorem Knows.put {ds : List Deferred} {e : Env} {a : Act} (h : Knows ds e a) (d : Option Tmp) (v : Value) : Knows ds (e.put d v) (a.put d v) := by
  cases d with
  | none => exact h
  | some d =>
    refine ⟨?_, h.defers, fun t u hu => ?_⟩
    · simpa [Env.put, Env.length_set, Act.put] using h.size
    · simp only [Env.put] at hu
      rcases Env.get_set_some hu with ⟨rfl, hv⟩ | ⟨hne, hv⟩
      · have hl := Env.get_lt hu
        rw [Env.length_set] at hl
        have hs := h.size
        simp only [Act.put]
        rw [Array.getElem?_setIfInBounds_self, if_pos (by omega)]
        exact hv
      · simp only [Act.put]
        rw [Array.getElem?_setIfInBounds_ne hne]
        exact h.val t u hv

theorem Knows.set_none {ds : List Deferred} {e : Env} {a : Act} (h : Knows ds e a) (t : Nat) : Knows ds (e.set t none) a :=
  ⟨by rw [Env.length_set]; exact h.size, h.defers, fun u v hv => by
    rcases Env.get_set_some hv with ⟨_, hh⟩ | ⟨_, hh⟩
    · cases hh
    · exact h.val u v hh⟩

theorem Knows.forget {ds : List Deferred} {e : Env} {a : Act} (h : Knows ds e a) (ts : List Tmp) : Knows ds (e.forget ts) a := by
  induction ts generalizing e with
  | nil => exact h
  | cons t ts ih => exact ih (h.set_none t)

/-- A slot of which the value is known is known so. -/
theorem Knows.set_some {ds : List Deferred} {e : Env} {a : Act} (h : Knows ds e a) {t : Nat} {v : Value} (hv : a.tmps[t]? = some v) : Knows ds (e.set t (some v)) a :=
  ⟨by rw [Env.length_set]; exact h.size, h.defers, fun u w hw => by
    rcases Env.get_set_some hw with ⟨rfl, hh⟩ | ⟨_, hh⟩
    · rw [hv, hh]
    · exact h.val u w hh⟩

def rho (e : Env) : Operand → Value
  | .tmp t => match e.get t with
    | some v => v
    | none => undef
  | .const v => v
  | .global g => .pointer (some ⟨g, 0, none⟩)
  | .func f => .func (.func f) #[] #[]

def known1 (e : Env) : Operand → Bool
  | .tmp t => match e.get t with
    | some _ => true
    | none => false
  | _ => true

theorem Knows.rho {ds : List Deferred} {e : Env} {a : Act} (h : Knows ds e a) {x : Operand} (hx : known1 e x = true) : rho e x = a.eval x := by
  cases x with
  | tmp t =>
    simp only [known1] at hx
    simp only [Sx.rho, Act.eval]
    split at hx
    · rename_i v hv
      have := h.val t v hv
      simp [this]
    · cases hx
  | _ => rfl

/-! ### the words -/
abbrev Pr := World → Prop

def F : Pr := fun _ => False
def Req (p : Prop) (K : Pr) : Pr := fun w => p ∧ K w
def Br (c : Bool) (T E : Pr) : Pr := fun w => match c with | true => T w | false => E w
def Jp {σ : Type} (J : σ → Pr) (A : (σ → Pr) → Pr) : Pr := A J
/-- A loop: an invariant with a number that falls each round. -/
def Lp {σ : Type} (body : (σ → Pr) → σ → Pr) (s : σ) : Pr := fun w =>
  ∃ I : Nat → σ → World → Prop, (∃ n, I n s w) ∧ ∀ n s w, I n s w → body (fun s' w' => ∃ m, m < n ∧ I m s' w') s w

def LdB (a : Addr) (K : Bool → Pr) : Pr := fun w => ∃ x, w.cell? a = some (.bool x) ∧ K x w
def LdI (k : IntKind) (a : Addr) (K : Int → Pr) : Pr := fun w => ∃ x, w.cell? a = some (.int k x) ∧ K x w
def LdS (a : Addr) (K : ByteArray → Pr) : Pr := fun w => ∃ x, w.cell? a = some (.string x) ∧ K x w
def LdP (a : Addr) (K : Option Addr → Pr) : Pr := fun w => ∃ x, w.cell? a = some (.pointer x) ∧ K x w
def LdL (a : Addr) (K : Sl → Pr) : Pr := fun w => ∃ x : Sl, w.cell? a = some (.slice x.p x.len x.cap) ∧ K x w
def LdM (a : Addr) (K : Option Nat → Pr) : Pr := fun w => ∃ x, w.cell? a = some (.map x) ∧ K x w
def LdV (a : Addr) (K : Value → Pr) : Pr := fun w => ∃ x, w.cell? a = some x ∧ K x w

def Ld : (k : Kd) → Addr → (k.T → Pr) → Pr
  | .b, a, K => LdB a K
  | .i k, a, K => LdI k a K
  | .s, a, K => LdS a K
  | .p, a, K => LdP a K
  | .sl, a, K => LdL a K
  | .m, a, K => LdM a K
  | .v, a, K => LdV a K

theorem Ld_elim {k : Kd} {a : Addr} {K : k.T → Pr} {w : World} (h : Ld k a K w) : ∃ x, w.cell? a = some (k.enc x) ∧ K x w := by
  cases k <;> exact h

/-- The cells of a struct or an array, each of its kind. -/
def LdR : (ks : List Kd) → Addr → Nat → (List Value → Pr) → Pr
  | [], _, _, K => K []
  | k :: ks, a, i, K => Ld k (a.add i) fun x => LdR ks a (i + 1) fun vs => K (k.enc x :: vs)
/-- Many cells, of whatever kinds. -/
def LdN (n : Nat) (a : Addr) (K : List Value → Pr) : Pr := fun w =>
  ∃ vs : List Value, vs.length = n ∧ (∀ j v, vs[j]? = some v → w.cell? (a.add j) = some v) ∧ K vs w

def St (a : Addr) (v : Value) (K : Pr) : Pr := fun w =>
  v.oneCell' = true ∧ (∃ x, w.cell? a = some x) ∧ w.frozen? a = false ∧ K (w.setCell a v)
def StR : List Value → Addr → Nat → Pr → Pr
  | [], _, _, K => K
  | v :: vs, a, i, K => St (a.add i) v (StR vs a (i + 1) K)
/-- The same, for many cells. -/
def StN (n : Nat) (a : Addr) (vs : List Value) (K : Pr) : Pr := fun w => vs.length = n ∧ StR vs a 0 K w

def New (cs : Array Value) (t : TypeId) (K : Addr → Pr) : Pr := fun w => K ⟨w.heap.size, 0, none⟩ (w.alloc (.cells cs t))
def NewObj (o : Obj) (K : Nat → Pr) : Pr := fun w => K w.heap.size (w.alloc o)
def Nn (p : Option Addr) (K : Addr → Pr) : Pr := match p with | some a => K a | none => F
/-- The address of an element. -/
def Ix (s : Sl) (i : Int) (size : Nat) (K : Addr → Pr) : Pr := fun w =>
  match s.p with
  | some a => 0 ≤ i ∧ i < s.len ∧ K (a.add (i.toNat * size)) w
  | none => False
def IxR (a : Addr) (n : Nat) (i : Int) (size : Nat) (K : Addr → Pr) : Pr := fun w => 0 ≤ i ∧ i < n ∧ K (a.add (i.toNat * size)) w
def IxS (s : ByteArray) (i : Int) (K : Int → Pr) : Pr := fun w => 0 ≤ i ∧ ∃ b, s[i.toNat]? = some b ∧ K (b.toNat : Int) w
/-- One of an array's values. -/
def IxG (cs : List Value) (n : Nat) (i : Int) (size : Nat) (K : Value → Pr) : Pr := fun w => 0 ≤ i ∧ i < n ∧ ∃ v, cs[i.toNat * size]? = some v ∧ K v w

end Go.Sx
