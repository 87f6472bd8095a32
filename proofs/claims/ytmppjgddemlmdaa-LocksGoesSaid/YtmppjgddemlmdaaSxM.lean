/-
  A body of code as words ('den'), and that it does so; a function ('call_of').
-/
import Derived.Test.YtmppjgddemlmdaaSxL
import Derived.Scope
import Derived.RangeFuncIn
import Derived.RangeFuncRecord
import Derived.RangeFuncLeaves
set_option linter.unusedSimpArgs false
set_option linter.unusedVariables false
namespace Go.Sx
open Go

/-! ### what is written -/
def dsts : List Oper → List Tmp
  | [] => []
  | o :: r => match o.dst with
    | some t => t :: dsts r
    | none => dsts r

def writes : Code → List Tmp
  | .region _ ops _ => dsts ops.toList
  | .seq a b => writes a ++ writes b
  | .cond _ a b => writes a ++ writes b
  | .block _ a => writes a
  | .loop a => writes a
  | .scope a => writes a
  | _ => []

/-- Two frames are alike outside some slots. -/
def Agree (W : List Tmp) (a a' : Act) : Prop := a'.tmps.size = a.tmps.size ∧ ∀ t, t ∉ W → a'.tmps[t]? = a.tmps[t]?

theorem Agree.refl (W : List Tmp) (a : Act) : Agree W a a := ⟨rfl, fun _ _ => rfl⟩
theorem Agree.trans {W : List Tmp} {a b c : Act} (h : Agree W a b) (k : Agree W b c) : Agree W a c := ⟨k.1.trans h.1, fun t ht => (k.2 t ht).trans (h.2 t ht)⟩
theorem Agree.mono {W W' : List Tmp} {a b : Act} (h : Agree W a b) (hs : ∀ t ∈ W, t ∈ W') : Agree W' a b := ⟨h.1, fun t ht => h.2 t (fun hh => ht (hs t hh))⟩
theorem Agree.put {W : List Tmp} {a b : Act} (h : Agree W a b) {d : Option Tmp} (hd : ∀ t, d = some t → t ∈ W) (v : Value) : Agree W a (b.put d v) := ⟨by rw [put_size]; exact h.1, fun t ht => by
    rw [put_ne b v (fun he => ht (hd t he))]
    exact h.2 t ht⟩
theorem Agree.congr {W : List Tmp} {a b c : Act} (h : Agree W a b) (hc : c.tmps = b.tmps) : Agree W a c := ⟨by rw [hc]; exact h.1, fun t ht => by rw [hc]; exact h.2 t ht⟩

theorem mem_dsts {l : List Oper} {o : Oper} (h : o ∈ l) {t : Tmp} (ht : o.dst = some t) : t ∈ dsts l := by
  induction l with
  | nil => simp at h
  | cons x r ih =>
    simp only [dsts]
    rcases List.mem_cons.1 h with rfl | h
    · rw [ht]; exact List.mem_cons_self
    · split
      · exact List.mem_cons_of_mem _ (ih h)
      · exact ih h

def NQ (R : Act → World → Prop) : Exit → Act → World → Prop := fun ex a w => ex = .normal ∧ R a w

theorem upon_agree {P : Program} {r : Option Nat} {o : Oper} {a : Act} {w : World} {K K' : Act → World → Prop} {R R' : Act → World → Prop} (hK : ∀ (b : Act) (w : World), b.tmps = a.tmps → ∀ (v : Value) (w' : World), K (b.put o.dst v) w' → K' (b.put o.dst v) w')
    (h : o.wpIn (WF r) 0 P a w K (NQ R)) : o.wpIn (WF r) 0 P a w K' (NQ R') := by
  unfold Oper.wpIn at *
  refine ⟨h.1, ?_⟩
  replace h := h.2
  generalize (o.semAt (WF r).round a.eval).run P w = rr at *
  cases rr with
  | ok n w' =>
    cases n <;> simp only [Oper.uponIn] at h ⊢
    case value v => exact hK a w rfl v w' h
    case skip => exact hK a w rfl _ w' h
    case defer d => exact hK { a with defers := d :: a.defers } w rfl _ w' h
    case enter f args =>
      refine ⟨h.1, h.2.mono fun e w'' he => ?_⟩
      cases e with
      | returned v => exact hK a w rfl v w'' he
      | panicked c => exact absurd he.1 (by simp)
      | outgrown => obtain ⟨_, _, he⟩ := he; exact absurd he.1 (by simp)
    case row row args => exact ⟨h.1, h.2.mono fun v w'' he => hK a w rfl v w'' he⟩
    case round l f tmps as bd =>
      refine ⟨h.1, h.2.mono fun e w'' he => ?_⟩
      cases e with
      | returned v => exact hK a w rfl v w'' he
      | panicked c => exact absurd he.1 (by simp)
      | outgrown => obtain ⟨_, _, he⟩ := he; exact absurd he.1 (by simp)
  | halt x w' => cases x <;> simp only [Oper.uponIn] at h ⊢ <;> exact absurd h.1 (by simp)

theorem wpOps_agree {P : Program} {r : Option Nat} {ops : Array Oper} {W : List Tmp} (hW : ∀ (i : Nat) (o : Oper) (t : Tmp), ops[i]? = some o → o.dst = some t → t ∈ W) {R : Act → World → Prop} {a0 : Act} : ∀ {l : List Nat} {a : Act} {w : World}, Agree W a0 a →
    wpOpsIn (WF r) 0 P ops (NQ R) l a w → wpOpsIn (WF r) 0 P ops (NQ fun a' w' => R a' w' ∧ Agree W a0 a') l a w
  | [], a, w, ha, h => ⟨h.1, h.2, ha⟩
  | i :: l, a, w, ha, h => by
    simp only [wpOpsIn] at h ⊢
    split at h
    · exact wpOps_agree hW ha h
    · rename_i o ho
      have hd : ∀ t, o.dst = some t → t ∈ W := fun t ht => hW i o t ho ht
      split at h
      · rename_i hw
        rw [if_pos hw]
        refine upon_agree (fun b w hb v w' hk => wpOps_agree hW ?_ hk) h
        exact (ha.congr hb).put hd v
      · rename_i hw
        rw [if_neg hw]
        exact ⟨h.1, wpOps_agree hW (ha.put hd _) h.2⟩

theorem wpAny_agree {P : Program} {r : Option Nat} {ops : Array Oper} {W : List Tmp} (hW : ∀ (i : Nat) (o : Oper) (t : Tmp), ops[i]? = some o → o.dst = some t → t ∈ W) {R : Act → World → Prop} {a0 : Act} : ∀ (fuel : Nat) {listed : Array Bool} {a : Act} {w : World}, Agree W a0 a →
    wpAnyIn (WF r) 0 P .any ops (NQ R) fuel listed a w → wpAnyIn (WF r) 0 P .any ops (NQ fun a' w' => R a' w' ∧ Agree W a0 a') fuel listed a w := by
  intro fuel
  induction fuel with
  | zero => intro listed a w ha h; exact ⟨h.1, h.2.1, h.2.2, ha⟩
  | succ fuel ih =>
    intro listed a w ha h
    refine ⟨fun hr => ⟨(h.1 hr).1, (h.1 hr).2, ha⟩, fun i hi => ?_⟩
    have h := h.2 i hi
    unfold wpOpIn at h ⊢
    split at h
    · exact ih ha h
    · rename_i o ho
      have hd : ∀ t, o.dst = some t → t ∈ W := fun t ht => hW i o t ho ht
      split at h
      · rename_i hw
        rw [if_pos hw]
        refine upon_agree (fun b w hb v w' hk => ih ?_ hk) h
        exact (ha.congr hb).put hd v
      · rename_i hw
        rw [if_neg hw]
        exact ⟨h.1, ih (ha.put hd _) h.2⟩

/-- A region: what holds behind it, of a frame that is as it was but for what the region writes. -/
theorem region_sound {ds : List Deferred} {r : Option Nat} {P : Program} {id : Nat} {ops : Array Oper} {K : Env → Pr} {e : Env} {a : Act} {w : World} (h : opsD P ops.toList ops.toList e K w) (ha : Knows ds e a) :
    (Code.region id ops false).wpIn (WF r) 0 P (NQ fun a' w' => (∃ e', K e' w' ∧ Knows ds e' a') ∧ Agree (dsts ops.toList) a a') a w := by
  refine wpIn_region (wpOps_agree (fun i o t ho ht => mem_dsts (l := ops.toList) (by rw [Array.mem_toList_iff]; exact Array.mem_of_getElem? ho) ht) (Agree.refl _ _) ?_)
  have hops : ops.toList.toArray = ops := by simp
  have := opsD_sound (r := r) (l := List.range ops.size) (Q := NQ fun a' w' => ∃ e', K e' w' ∧ Knows ds e' a') (by
    apply List.ext_getElem?
    intro i
    by_cases hi : i < ops.size <;> simp [hi]) h ha (fun e' a' w' hk hk' => ⟨rfl, e', hk, hk'⟩)
  rwa [hops] at this

def Dr (K : Pr) : Pr := fun w => K w.drew

theorem region_draw_sound {ds : List Deferred} {r : Option Nat} {P : Program} {id : Nat} {ops : Array Oper} {K : Env → Pr} {e : Env} {a : Act} {w : World} {n : Nat} (hm : P.follows .mixedOrders = true) (hok : drawOk ops.toList = true)
    (h : drawD P ops.toList (masks ops.toList) K n 0 [] e w.drew) (ha : Knows ds e a) :
    (Code.region id ops true).wpIn (WF r) 0 P (NQ fun a' w' => (∃ e', K e' w' ∧ Knows ds e' a') ∧ Agree (dsts ops.toList) a a') a w := by
  refine wpIn_region_any hm (wpAny_agree (fun i o t ho ht => mem_dsts (l := ops.toList) (by rw [Array.mem_toList_iff]; exact Array.mem_of_getElem? ho) ht) _ (Agree.refl _ _) ?_)
  have hops : ops.toList.toArray = ops := by simp
  rw [← hops]
  refine wpAny_of hok (fun e' a' w' hk hk' => ⟨rfl, e', hk, hk'⟩) _ (tr := []) h ?_ (by simp) (by simp)
  constructor
  · exact ha.defers
  · exact ha.size
  · intro x hx; cases hx
  · intro i; simp
  · intro x hx; cases hx
  · intro i hi
    unfold Li at hi
    simp [Array.getElem?_replicate] at hi
    split at hi <;> simp at hi
  · intro j o hj
    unfold Li at hj
    simp [Array.getElem?_replicate] at hj
    split at hj <;> simp at hj
  · intro x hx; cases hx
  · intro x hx; cases hx
  · intro x hx; cases hx
  · intro x hx; cases hx
  · intro t u hu
    exact .inl (ha.val t u hu)
  · intro x hx; cases hx
  · intro y hy; cases hy
  · intro x hx; cases hx

/-! ### code -/
inductive Ann where
  | leaf
  | seq (a b : Ann)
  | cond (a b : Ann)
  | block (a : Ann)
  | join (lv : List (Tmp × RK)) (a : Ann)
  | loop (lv : List (Tmp × RK)) (a : Ann)
  /-- a range over a function: the parameters, the exits that leave it, the assignment and the body -/
  | range (lv : List (Tmp × RK)) (xs : List Nat) (a b : Ann)

def hasRange : Code → Bool
  | .seq a b => hasRange a || hasRange b
  | .cond _ a b => hasRange a || hasRange b
  | .block _ a => hasRange a
  | .loop a => hasRange a
  | .scope a => hasRange a
  | .rangeFunc _ _ _ _ => true
  | _ => false

def mark1 (D : Nat) : Deferred := { target := .collected D, args := #[] }
def marks : List Nat → List Deferred
  | [] => []
  | D :: ds => mark1 D :: marks ds

def kinds : List (Tmp × RK) → List RK
  | [] => []
  | (_, k) :: r => k :: kinds r

def ins : (lv : List (Tmp × RK)) → TR (kinds lv) → Env → Env
  | [], _, e => e
  | (t, k) :: r, s, e => ins r s.2 (e.set t (some (k.enc s.1)))

def getL : (lv : List (Tmp × RK)) → Env → Option (TR (kinds lv))
  | [], _ => some ()
  | (t, k) :: r, e => match e.get t with
    | some v => match k.dec v with
      | some x => match getL r e with
        | some y => some (x, y)
        | none => none
      | none => none
    | none => none

def useJ (lv : List (Tmp × RK)) (J : TR (kinds lv) → Pr) (_ : List Nat) (e : Env) (w : World) : Prop :=
  match getL lv e with
  | some s => J s w
  | none => F w

def thenD (K : List Nat → Env → Pr) (Q : Exit → List Nat → Env → Pr) (ex : Exit) (ds : List Nat) (e : Env) : Pr :=
  match ex with
  | .normal => K ds e
  | .exit id => Q (.exit id) ds e
  | .goto l => Q (.goto l) ds e
  | .ret => Q .ret ds e
  | .panic c => Q (.panic c) ds e
  | .outgrown => Q .outgrown ds e

def blockD (id : Nat) (Q : Exit → List Nat → Env → Pr) (ex : Exit) (ds : List Nat) (e : Env) : Pr :=
  match ex with
  | .normal => Q .normal ds e
  | .exit id' => match Nat.beq id' id with
    | true => Q .normal ds e
    | false => Q (.exit id') ds e
  | .goto l => Q (.goto l) ds e
  | .ret => Q .ret ds e
  | .panic c => Q (.panic c) ds e
  | .outgrown => Q .outgrown ds e

/-- A scope is gone through without a jump. -/
def scopeD (Q : Exit → List Nat → Env → Pr) (ex : Exit) (ds : List Nat) (e : Env) : Pr :=
  match ex with
  | .normal => Q .normal ds e
  | .exit id => Q (.exit id) ds e
  | .goto _ => F
  | .ret => Q .ret ds e
  | .panic c => Q (.panic c) ds e
  | .outgrown => Q .outgrown ds e

/-! #### a range over a function -/
/-- The round begins: the loop's record is ready, and is busy now. -/
def bgL (l : Nat) (rec : Loop) (k : Pr) : Pr := fun w => w.heap[l]? = some (.loop rec) ∧ k (w.putObj l (.loop { rec with state := .busy }))
/-- The round ends: by itself, or by a jump. -/
def enL (l : Nat) (rec : Loop) (J : Bool → Pr) (j : Option Code) : Pr := fun w =>
  w.heap[l]? = some (.loop { rec with state := .busy }) ∧ J j.isNone (w.putObj l (.loop { rec with state := if j.isNone then .ready else .done, pending := j }))

/-- A range over the function f, with one body for all rounds. -/
def Rg (P : Program) (f : FuncId) (pre post : List Value) (rs : List RK) (rd : TR rs → (Pr → Pr) → (Option Code → Pr) → Pr) (K : Nat → Option Code → Pr) : Pr := fun w =>
  ∀ rec : Loop, rec.state = .ready → rec.pending = none → rec.defers = w.heap.size →
    (∀ (s : TR rs) (J : Bool → Pr) (w' : World), w'.heap[w.heap.size + 1]? = some (.loop rec) →
      rd s (bgL (w.heap.size + 1) rec) (enL (w.heap.size + 1) rec J) w' → Yd P (w.heap.size + 1) (encR rs s) false [.sc .b] (fun b => J b.1) w') →
    Cl P f (pre ++ .func (.yield (w.heap.size + 1)) #[] #[] :: post) true [] (fun _ w3 => ∃ rec' : Loop, w3.heap[w.heap.size + 1]? = some (.loop rec') ∧ rec'.state ≠ .busy ∧
      K w.heap.size rec'.pending (w3.putObj (w.heap.size + 1) (.loop { rec' with state := .exhausted }))) ((w.alloc (.deferred (some []))).alloc (.loop rec))

def RgV (P : Program) (v : Value) (rs : List RK) (rd : TR rs → (Pr → Pr) → (Option Code → Pr) → Pr) (K : Nat → Option Code → Pr) : Pr := fun w =>
  match v with
  | .func fn first cap => match fn with
    | .func f => Rg P f first.toList cap.toList rs rd K w
    | _ => F w
  | _ => F w

def Xj (x : Nat) (A : Pr) (B : Nat → Pr) (id : Nat) : Pr := fun w =>
  match Nat.beq id x with
  | true => A w
  | false => B id w
def exJ : List Nat → (Nat → Pr) → Nat → Pr
  | [], _, _ => F
  | x :: r, X, id => Xj x (X x) (exJ r X) id
/-- What follows a range: behind its end, or its return, or an exit. -/
def Jm (N R : Pr) (X : Nat → Pr) (j : Option Code) : Pr := fun w =>
  match j with
  | none => N w
  | some c => match c with
    | .ret => R w
    | .exit id => X id w
    | _ => F w

def rdA (bg : Pr → Pr) (K : Env → Pr) (ex : Exit) (_ : List Nat) (e : Env) : Pr :=
  match ex with
  | .normal => bg (K e)
  | _ => F
def rdB (en : Option Code → Pr) (ex : Exit) (_ : List Nat) (_ : Env) : Pr :=
  match ex with
  | .normal => en none
  | .ret => en (some .ret)
  | .exit id => en (some (.exit id))
  | _ => F

def sameT : List (Tmp × RK) → List Tmp → Bool
  | [], l => match l with | [] => true | _ => false
  | (t, _) :: r, l => match l with
    | u :: us => match Nat.beq t u with
      | true => sameT r us
      | false => false
    | [] => false

def den (P : Program) : Ann → Code → (Exit → List Nat → Env → Pr) → List Nat → Env → World → Prop
  | .leaf, c, Q, ds, e, w => match c with
    | .skip => Q .normal ds e w
    | .label _ => Q .normal ds e w
    | .ret => Q .ret ds e w
    | .exit id => Q (.exit id) ds e w
    | .region _ ops draw => match draw with
      | false => opsD P ops.toList ops.toList e (Q .normal ds) w
      | true => match drawOk ops.toList with
        | true => Dr (drawD P ops.toList (masks ops.toList) (Q .normal ds) (ops.toList.length + 1) 0 [] e) w
        | false => F w
    | _ => F w
  | .seq a b, c, Q, ds, e, w => match c with
    | .seq x y => den P a x (thenD (den P b y Q) Q) ds e w
    | _ => F w
  | .cond a b, c, Q, ds, e, w => match c with
    | .cond o x y => match known1 e o with
      | true => match rho e o with
        | .bool t => Br t (den P a x Q ds e) (den P b y Q ds e) w
        | _ => F w
      | false => F w
    | _ => F w
  | .block a, c, Q, ds, e, w => match c with
    | .block id x => den P a x (blockD id Q) ds e w
    | .scope x => den P a x (scopeD Q) ds e w
    | _ => F w
  | .join lv a, c, Q, ds, e, w => match hasRange c with
    | false => Jp (fun s => Q .normal ds (ins lv s (e.forget (writes c)))) (fun J => den P a c (thenD (useJ lv J) Q) ds e) w
    | true => F w
  | .loop lv a, c, Q, ds, e, w => match c with
    | .loop x => match hasRange x with
      | false => match getL lv e with
        | some s => Lp (fun rec s => den P a x (thenD (useJ lv rec) Q) ds (ins lv s (e.forget (writes x)))) s w
        | none => F w
      | true => F w
    | _ => F w
  | .range lv xs a b, c, Q, ds, e, w => match c with
    | .rangeFunc g ps as bd => match sameT lv ps.toList && !(hasRange as || hasRange bd) && known1 e g with
      | true => RgV P (rho e g) (kinds lv) (fun s bg en => den P a as (rdA bg (den P b bd (rdB en) [])) [] (ins lv s e))
          (fun D => Jm (Q .normal (D :: ds) e) (Q .ret (D :: ds) e) (exJ xs (fun id => Q (.exit id) (D :: ds) e))) w
      | false => F w
    | _ => F w

theorem forget_get {e : Env} : ∀ {ts : List Tmp} {t : Nat} {v : Value}, (e.forget ts).get t = some v → t ∉ ts ∧ e.get t = some v := by
  intro ts
  induction ts generalizing e with
  | nil => intro t v h; exact ⟨by simp, h⟩
  | cons u ts ih =>
    intro t v h
    obtain ⟨h1, h2⟩ := ih (e := e.set u none) h
    rcases Env.get_set_some h2 with ⟨_, hh⟩ | ⟨hne, hh⟩
    · cases hh
    · exact ⟨by simp [h1]; exact fun he => hne he.symm, hh⟩

theorem forget_length {e : Env} : ∀ {ts : List Tmp}, (e.forget ts).length = e.length := by
  intro ts
  induction ts generalizing e with
  | nil => rfl
  | cons u ts ih => simp only [Env.forget]; rw [ih, Env.length_set]

theorem Knows.agree {ds ds' : List Deferred} {e : Env} {a a' : Act} {W : List Tmp} (h : Knows ds e a) (hg : Agree W a a') (hd : a'.defers = ds') : Knows ds' (e.forget W) a' :=
  ⟨by rw [forget_length, hg.1]; exact h.size, hd, fun t v hv => by
    obtain ⟨h1, h2⟩ := forget_get hv
    rw [hg.2 t h1]
    exact h.val t v h2⟩

theorem getL_ins {ds : List Deferred} {lv : List (Tmp × RK)} : ∀ {e e' : Env} {s : TR (kinds lv)} {a : Act}, getL lv e' = some s → Knows ds e' a → Knows ds e a → Knows ds (ins lv s e) a := by
  induction lv with
  | nil => intro e e' s a _ _ h; exact h
  | cons p r ih =>
    obtain ⟨t, k⟩ := p
    intro e e' s a hg h' h
    simp only [getL] at hg
    split at hg
    · rename_i v hv
      split at hg
      · rename_i x hx
        split at hg
        · rename_i y hy
          have hg := Option.some.inj hg
          subst hg
          refine ih hy h' ?_
          have := h'.val t v hv
          rw [RK.dec_eq hx] at this
          exact h.set_some this
        · cases hg
      · cases hg
    · cases hg

/-- A loop with a number that falls. -/
theorem wp_loop_n {Fn : Fence} {P : Program} {c : Code} {Q : Exit → Act → World → Prop} {a : Act} {w : World} (I : Nat → Act → World → Prop) {n : Nat} (h₀ : I n a w)
    (round : ∀ n a w, I n a w → c.wpIn Fn 0 P (Exit.then (fun a' w' => ∃ m, m < n ∧ I m a' w') Q) a w) : (Code.loop c).wpIn Fn 0 P Q a w := by
  intro b k cs hro hb hr
  have key : ∀ n a w, I n a w → ∃ e a' w', Q e a' w' ∧ ArrivesIn (Machine.fenced P Fn) P (lone (b.atR a (.code c :: .inLoop c :: k)) cs w) b k cs e a' w' := by
    intro n
    induction n using Nat.strongRecOn with
    | _ n ih =>
      intro a w hI
      obtain ⟨e, a₁, w₁, hq, harr⟩ := round n a w hI b (.inLoop c :: k) cs hro hb hr
      cases e with
      | normal =>
        obtain ⟨m, hlt, hI₁⟩ := hq
        obtain ⟨e₂, a₂, w₂, hq₂, harr₂⟩ := ih m hlt a₁ w₁ hI₁
        exact ⟨e₂, a₂, w₂, hq₂, .of_steps (StepsIn.trans harr (.one (fenced_calm hb hr rfl) stepR_inLoop)) harr₂⟩
      | exit id => exact ⟨_, a₁, w₁, hq, .pass (x := .inLoop c) rfl (fun _ _ => .inl (by simp)) harr⟩
      | goto l => exact ⟨_, a₁, w₁, hq, .pass (x := .inLoop c) rfl (fun _ _ => .inl (by simp)) harr⟩
      | ret => exact ⟨_, a₁, w₁, hq, .pass (x := .inLoop c) rfl (fun _ _ => .inl (by simp)) harr⟩
      | panic ch => exact ⟨_, a₁, w₁, hq, .pass (x := .inLoop c) rfl (fun _ _ => .inl (by simp)) harr⟩
      | outgrown => exact ⟨_, a₁, w₁, hq, .pass (x := .inLoop c) rfl (fun _ _ => .inl (by simp)) harr⟩
  obtain ⟨e, a', w', hq, harr⟩ := key n a w h₀
  exact ⟨e, a', w', hq, .of_steps (.one (fenced_calm hb hr rfl) stepR_loop) harr⟩

theorem wpIn_scope {Fn : Fence} {n : Nat} {P : Program} {Q : Exit → Act → World → Prop} {a : Act} {w : World} {c : Code} (h : c.wpIn Fn n P (Exit.noGoto Q) a w) : (Code.scope c).wpIn Fn n P Q a w := by
  intro b k cs hro hb hr
  have h0 : (lone (b.atR a (.code (.scope c) :: k)) cs w).fenced P Fn := fenced_calm hb hr rfl
  have s0 : step P (lone (b.atR a (.code (.scope c) :: k)) cs w) = .next (lone (b.atR a (.code c :: .inScope c :: k)) cs w) := step_lone_go (by simp [stepG, stepG.exec, Frame.atR])
  obtain ⟨e, a₁, w₁, hq, harr⟩ := h b (.inScope c :: k) cs hro hb hr
  cases e with
  | normal => exact ⟨.normal, a₁, w₁, hq, .head h0 s0 (StepsIn.trans harr (.one (fenced_calm hb hr rfl) (step_lone_go (by simp [stepG, stepG.exec, Frame.atR]))))⟩
  | exit id =>
    have hx : exitTo id (.inScope c :: k) = exitTo id k := by simp [exitTo]
    exact ⟨.exit id, a₁, w₁, hq, fun k' hk => .head h0 s0 (harr.1 k' (by rw [hx]; exact hk)), fun hr' hk => let ⟨k₁, h1, h2⟩ := harr.2 hr' (by rw [hx]; exact hk); ⟨k₁, h1, .head h0 s0 h2⟩⟩
  | goto l => exact hq.elim
  | ret => exact ⟨_, a₁, w₁, hq, .of_steps (.one h0 s0) harr⟩
  | panic ch => exact ⟨_, a₁, w₁, hq, .of_steps (.one h0 s0) harr⟩
  | outgrown => exact ⟨_, a₁, w₁, hq, .of_steps (.one h0 s0) harr⟩

theorem ins_knows {lv : List (Tmp × RK)} {ds : List Deferred} : ∀ {ps : List Tmp} {e : Env} {tmps : Array Value} {s : TR (kinds lv)}, sameT lv ps = true → Knows ds e { tmps, defers := ds } →
    Knows ds (ins lv s e) { tmps := (ps.zip (encR (kinds lv) s)).foldl (fun tmps (t, a) => tmps.setIfInBounds t a) tmps, defers := ds } := by
  induction lv with
  | nil =>
    intro ps e tmps s h hk
    cases ps with
    | nil => exact hk
    | cons _ _ => simp [sameT] at h
  | cons p r ih =>
    obtain ⟨t, k⟩ := p
    intro ps e tmps s h hk
    cases ps with
    | nil => simp [sameT] at h
    | cons u us =>
      simp only [sameT] at h
      split at h
      · rename_i hb
        have := Nat.eq_of_beq_eq_true hb
        subst this
        exact ih (s := s.2) h (hk.put (some t) (k.enc s.1))
      · cases h

theorem sameT_len {lv : List (Tmp × RK)} : ∀ {ps : List Tmp}, sameT lv ps = true → (kinds lv).length = ps.length := by
  induction lv with
  | nil => intro ps h; cases ps with | nil => rfl | cons _ _ => simp [sameT] at h
  | cons p r ih =>
    obtain ⟨t, k⟩ := p
    intro ps h
    cases ps with
    | nil => simp [sameT] at h
    | cons u us =>
      simp only [sameT] at h
      split at h
      · simp [kinds, ih h]
      · cases h

theorem encR_len : ∀ {ks : List RK} {s : TR ks}, (encR ks s).length = ks.length
  | [], _ => rfl
  | k :: ks, s => by simp [encR, encR_len]

theorem exJ_elim {xs : List Nat} {X : Nat → Pr} {id : Nat} {w : World} (h : exJ xs X id w) : X id w := by
  induction xs with
  | nil => exact h.elim
  | cons x r ih =>
    simp only [exJ, Xj] at h
    split at h
    · rename_i hb
      have := Nat.eq_of_beq_eq_true hb
      subst this
      exact h
    · exact ih h

theorem den_sound {P : Program} (hm : P.follows .mixedOrders = true) : ∀ (ann : Ann) {r : Option Nat} {c : Code} {Q : Exit → List Nat → Env → Pr} {Q' : Exit → Act → World → Prop} {ds : List Nat} {e : Env} {a : Act} {w : World}, den P ann c Q ds e w → Knows (marks ds) e a →
    (hasRange c = true → r = none) → (∀ ex ds' e' a' w', Q ex ds' e' w' → Knows (marks ds') e' a' → Agree (writes c) a a' → (hasRange c = false → ds' = ds) → Q' ex a' w') → c.wpIn (WF r) 0 P Q' a w := by
  intro ann
  induction ann with
  | leaf =>
    intro r c Q Q' ds e a w h ha hr hq
    cases c with
    | skip => exact wpIn_skip (hq _ _ _ _ _ h ha (Agree.refl _ _) (fun _ => rfl))
    | label l => exact wpIn_label (hq _ _ _ _ _ h ha (Agree.refl _ _) (fun _ => rfl))
    | ret => exact wpIn_ret (hq _ _ _ _ _ h ha (Agree.refl _ _) (fun _ => rfl))
    | exit id => exact wpIn_exit (hq _ _ _ _ _ h ha (Agree.refl _ _) (fun _ => rfl))
    | region id ops draw =>
      cases draw with
      | false =>
        refine wpIn_mono (region_sound h ha) fun ex a' w' hr => ?_
        obtain ⟨rfl, ⟨e', hk, hk'⟩, hg⟩ := hr
        exact hq _ _ _ _ _ hk hk' hg (fun _ => rfl)
      | true =>
        simp only [den] at h
        split at h
        · rename_i hok
          refine wpIn_mono (region_draw_sound hm hok h ha) fun ex a' w' hr => ?_
          obtain ⟨rfl, ⟨e', hk, hk'⟩, hg⟩ := hr
          exact hq _ _ _ _ _ hk hk' hg (fun _ => rfl)
        · exact h.elim
    | _ => exact h.elim
  | seq x y ihx ihy =>
    intro r c Q Q' ds e a w h ha hr hq
    cases c with
    | seq cx cy =>
      refine wpIn_seq (ihx h ha (fun hh => hr (by simp [hasRange, hh])) fun ex ds' e' a' w' hk hk' hg hd => ?_)
      have hgx : Agree (writes (.seq cx cy)) a a' := hg.mono fun t ht => by simp [writes, ht]
      have hdx : hasRange (.seq cx cy) = false → ds' = ds := fun hh => hd (by simp [hasRange] at hh; exact hh.1)
      cases ex with
      | normal =>
        refine ihy hk hk' (fun hh => hr (by simp [hasRange, hh])) fun ex ds'' e'' a'' w'' hl hl' hg' hd' => ?_
        exact hq _ _ _ _ _ hl hl' (hgx.trans (hg'.mono fun t ht => by simp [writes, ht])) (fun hh => (hd' (by simp [hasRange] at hh; exact hh.2)).trans (hdx hh))
      | exit id => exact hq _ _ _ _ _ hk hk' hgx hdx
      | goto l => exact hq _ _ _ _ _ hk hk' hgx hdx
      | ret => exact hq _ _ _ _ _ hk hk' hgx hdx
      | panic ch => exact hq _ _ _ _ _ hk hk' hgx hdx
      | outgrown => exact hq _ _ _ _ _ hk hk' hgx hdx
    | _ => exact h.elim
  | cond x y ihx ihy =>
    intro r c Q Q' ds e a w h ha hr hq
    cases c with
    | cond o cx cy =>
      simp only [den] at h
      split at h
      · rename_i hk
        split at h
        · rename_i t ht
          have hev : a.eval o = .bool t := by rw [← ha.rho hk, ht]
          refine wpIn_cond_split hev (fun hh => ?_) (fun hh => ?_)
          · subst hh
            exact ihx h ha (fun hh => hr (by simp [hasRange, hh])) fun ex ds' e' a' w' hk hk' hg hd => hq _ _ _ _ _ hk hk' (hg.mono fun t ht => by simp [writes, ht]) (fun hh => hd (by simp [hasRange] at hh; exact hh.1))
          · subst hh
            exact ihy h ha (fun hh => hr (by simp [hasRange, hh])) fun ex ds' e' a' w' hk hk' hg hd => hq _ _ _ _ _ hk hk' (hg.mono fun t ht => by simp [writes, ht]) (fun hh => hd (by simp [hasRange] at hh; exact hh.2))
        · exact h.elim
      · exact h.elim
    | _ => exact h.elim
  | block x ih =>
    intro r c Q Q' ds e a w h ha hr hq
    cases c with
    | block id cx =>
      refine wpIn_block (ih h ha (fun hh => hr hh) fun ex ds' e' a' w' hk hk' hg hd => ?_)
      have hgx : Agree (writes (.block id cx)) a a' := hg
      have hdx : hasRange (.block id cx) = false → ds' = ds := hd
      cases ex with
      | normal => exact hq _ _ _ _ _ hk hk' hgx hdx
      | exit id' =>
        simp only [blockD] at hk
        simp only [Exit.inBlock]
        cases hb : Nat.beq id' id with
        | true =>
          rw [hb] at hk
          rw [if_pos (Nat.eq_of_beq_eq_true hb)]
          exact hq _ _ _ _ _ hk hk' hgx hdx
        | false =>
          rw [hb] at hk
          rw [if_neg (Nat.ne_of_beq_eq_false hb)]
          exact hq _ _ _ _ _ hk hk' hgx hdx
      | goto l => exact hq _ _ _ _ _ hk hk' hgx hdx
      | ret => exact hq _ _ _ _ _ hk hk' hgx hdx
      | panic ch => exact hq _ _ _ _ _ hk hk' hgx hdx
      | outgrown => exact hq _ _ _ _ _ hk hk' hgx hdx
    | scope cx =>
      refine wpIn_scope (ih h ha (fun hh => hr hh) fun ex ds' e' a' w' hk hk' hg hd => ?_)
      cases ex with
      | normal => exact hq _ _ _ _ _ hk hk' hg hd
      | exit id' => exact hq _ _ _ _ _ hk hk' hg hd
      | goto l => exact hk.elim
      | ret => exact hq _ _ _ _ _ hk hk' hg hd
      | panic ch => exact hq _ _ _ _ _ hk hk' hg hd
      | outgrown => exact hq _ _ _ _ _ hk hk' hg hd
    | _ => exact h.elim
  | join lv x ih =>
    intro r c Q Q' ds e a w h ha hr hq
    simp only [den] at h
    split at h
    · rename_i hnr
      refine ih (c := c) h ha hr fun ex ds' e' a' w' hk hk' hg hd => ?_
      have hds := hd hnr
      subst hds
      cases ex with
      | normal =>
        simp only [thenD, useJ] at hk
        split at hk
        · rename_i s hs
          exact hq _ _ _ _ _ hk (getL_ins hs hk' (ha.agree hg hk'.defers)) hg (fun _ => rfl)
        · exact hk.elim
      | exit id => exact hq _ _ _ _ _ hk hk' hg (fun _ => rfl)
      | goto l => exact hq _ _ _ _ _ hk hk' hg (fun _ => rfl)
      | ret => exact hq _ _ _ _ _ hk hk' hg (fun _ => rfl)
      | panic ch => exact hq _ _ _ _ _ hk hk' hg (fun _ => rfl)
      | outgrown => exact hq _ _ _ _ _ hk hk' hg (fun _ => rfl)
    · exact h.elim
  | loop lv x ih =>
    intro r c Q Q' ds e a w h ha hr hq
    cases c with
    | loop cx =>
      simp only [den] at h
      split at h
      · rename_i hnr
        split at h
        · rename_i s hs
          obtain ⟨I, ⟨n, hI⟩, hround⟩ := h
          refine wp_loop_n (fun n a' w' => ∃ s, Knows (marks ds) (ins lv s (e.forget (writes cx))) a' ∧ Agree (writes cx) a a' ∧ I n s w') ⟨s, getL_ins hs ha (ha.forget _), Agree.refl _ _, hI⟩ ?_
          rintro n a' w' ⟨s, hks, hg, hI⟩
          refine ih (hround n s w' hI) hks (fun hh => hr hh) fun ex ds'' e'' a'' w'' hk hk' hg' hd => ?_
          have hg'' : Agree (writes cx) a a'' := hg.trans hg'
          have hds := hd hnr
          subst hds
          cases ex with
          | normal =>
            simp only [thenD, useJ] at hk
            split at hk
            · rename_i s' hs'
              obtain ⟨m, hmn, hIm⟩ := hk
              refine ⟨m, hmn, s', getL_ins hs' hk' (ha.agree hg'' hk'.defers), hg'', hIm⟩
            · exact hk.elim
          | exit id => exact hq _ _ _ _ _ hk hk' hg'' (fun _ => rfl)
          | goto l => exact hq _ _ _ _ _ hk hk' hg'' (fun _ => rfl)
          | ret => exact hq _ _ _ _ _ hk hk' hg'' (fun _ => rfl)
          | panic ch => exact hq _ _ _ _ _ hk hk' hg'' (fun _ => rfl)
          | outgrown => exact hq _ _ _ _ _ hk hk' hg'' (fun _ => rfl)
        · exact h.elim
      · exact h.elim
    | _ => exact h.elim
  | range lv xs x y ihx ihy =>
    intro r c Q Q' ds e a w h ha hr hq
    cases c with
    | rangeFunc g ps as bd =>
      have hrn : r = none := hr rfl
      subst hrn
      simp only [den] at h
      split at h
      · rename_i hok
        simp only [Bool.and_eq_true, Bool.not_eq_true', Bool.or_eq_false_iff] at hok
        obtain ⟨⟨hsame, hna, hnb⟩, hkg⟩ := hok
        have hev : rho e g = a.eval g := ha.rho hkg
        rw [hev] at h
        unfold RgV at h
        split at h
        · rename_i fn first cap hv
          split at h
          · rename_i f
            refine wpIn_rangeFunc fun fn hfn => ?_
            have h0 := h { state := .ready, pending := none, fn, tmps := a.tmps, params := ps, assign := as, body := bd, defers := w.heap.size } rfl rfl rfl ?_
            · refine ⟨w.heap.size + 1, [mark1 w.heap.size], ((w.alloc (.deferred (some []))).alloc (.loop { state := .ready, pending := none, fn, tmps := a.tmps, params := ps, assign := as, body := bd, defers := w.heap.size })), { target := .fn (.func f) cap, args := first ++ #[.func (.yield (w.heap.size + 1)) #[] #[]] }, ((w.alloc (.deferred (some []))).alloc (.loop { state := .ready, pending := none, fn, tmps := a.tmps, params := ps, assign := as, body := bd, defers := w.heap.size })), f, first ++ #[.func (.yield (w.heap.size + 1)) #[] #[]] ++ cap, ((w.alloc (.deferred (some []))).alloc (.loop { state := .ready, pending := none, fn, tmps := a.tmps, params := ps, assign := as, body := bd, defers := w.heap.size })), run_enterLoop_outer _ _ _ _ _, ?_, fun _ _ => trivial, ?_, fun hh => by simp [WF, Fence.wide] at hh, ?_⟩
              · simp only [resolve, hv, Deferred.ofValue, Sem.run_pure]
                congr 2
                simp [Act.eval]
              · simp only [invoke]
                rw [run_callFunc h0.1]
              · have hargs : (first ++ #[Value.func (.yield (w.heap.size + 1)) #[] #[]] ++ cap) = (first.toList ++ .func (.yield (w.heap.size + 1)) #[] #[] :: cap.toList).toArray := Array.toList_inj.1 (by simp)
                rw [hargs]
                refine callsIn_WF (h0.2.mono fun ed w3 he => ?_)
                cases ed with
                | returned v =>
                  obtain ⟨_, _, rec', h1, h2, h3⟩ := he
                  refine ⟨_, _, run_endLoop h1 h2, ?_⟩
                  have hk' : Knows (marks (w.heap.size :: ds)) e { a with defers := [mark1 w.heap.size] ++ a.defers } := ⟨ha.size, by simp [marks, ha.defers], ha.val⟩
                  have fin : ∀ ex w4, Q ex (w.heap.size :: ds) e w4 → Q' ex { a with defers := [mark1 w.heap.size] ++ a.defers } w4 := fun ex w4 hq4 => hq _ _ _ _ _ hq4 hk' ⟨rfl, fun _ _ => rfl⟩ (fun hh => by simp [hasRange] at hh)
                  unfold Jm at h3
                  cases hp : rec'.pending with
                  | none => rw [hp] at h3; exact fin _ _ h3
                  | some c =>
                    rw [hp] at h3
                    cases c with
                    | ret => exact wpIn_ret (fin _ _ h3)
                    | exit id => exact wpIn_exit (fin _ _ (exJ_elim h3))
                    | _ => exact h3.elim
                | panicked c => exact he.elim
                | outgrown => exact he.elim
            · intro s J w' hl hrd
              refine ⟨_, hl, by rw [encR_len]; exact sameT_len hsame, ?_⟩
              refine roundIn_of_wpIn (F := WF none) hfn ?_
              have hz : (ps.zip (encR (kinds lv) s).toArray) = (ps.toList.zip (encR (kinds lv) s)).toArray := Array.toList_inj.1 (by simp)
              have hK : Knows (marks []) (ins lv s e) { tmps := (ps.zip (encR (kinds lv) s).toArray).foldl (fun tmps (t, a) => tmps.setIfInBounds t a) a.tmps, defers := [] } := by
                rw [hz]
                simp only [List.foldl_toArray']
                exact ins_knows hsame ⟨ha.size, rfl, ha.val⟩
              refine ihx (r := some (w.heap.size + 1)) hrd hK (fun hh => by rw [hna] at hh; cases hh) fun ex ds' e' a' w1 hk hk' hg hd => ?_
              cases ex with
              | normal =>
                obtain ⟨hl1, hk⟩ := hk
                have hds := hd hna
                subst hds
                refine ⟨_, run_beginRound hl1 rfl, ?_⟩
                refine ihy (r := some (w.heap.size + 1)) hk hk' (fun hh => by rw [hnb] at hh; cases hh) fun ex ds'' e'' a'' w2 hl2 hl2' hg' hd' => ?_
                cases ex with
                | normal => exact ⟨_, _, run_endRound none hl2.1, (true, ()), rfl, hl2.2⟩
                | ret => exact ⟨_, _, run_endRound (some .ret) hl2.1, (false, ()), rfl, hl2.2⟩
                | exit id => exact ⟨_, _, run_endRound (some (.exit id)) hl2.1, (false, ()), rfl, hl2.2⟩
                | goto l => exact hl2.elim
                | panic ch => exact hl2.elim
                | outgrown => exact hl2.elim
              | exit id => exact hk.elim
              | goto l => exact hk.elim
              | ret => exact hk.elim
              | panic ch => exact hk.elim
              | outgrown => exact hk.elim
          · exact h.elim
        · exact h.elim
      · exact h.elim
    | _ => exact h.elim

/-! ### a function -/
def resV (P : Program) : List ResultVar → Env → (List Value → Pr) → World → Prop
  | [], _, K, w => K [] w
  | r :: rs, e, K, w => match r with
    | .tmp t => match e.get t with
      | some v => resV P rs e (fun vs => K (v :: vs)) w
      | none => F w
    | .cell a ty => match e.get a with
      | some v => match v with
        | .pointer (some ad) => LdD P ty ad (fun v => resV P rs e (fun vs => K (v :: vs))) w
        | _ => F w
      | none => F w

def retK (tup : Bool) (rs : List RK) (R : TR rs → Pr) (vs : List Value) (w : World) : Prop :=
  match tup with
  | true => match decR rs vs with
    | some s => R s w
    | none => F w
  | false => match vs with
    | [v] => match decR rs [v] with
      | some s => R s w
      | none => F w
    | _ => F w

/-- The marks that the ranges over functions left: their blocks are shut. -/
def Md : List Nat → Pr → Pr
  | [], K => K
  | D :: ds, K => fun w => w.heap[D]? = some (.deferred (some [])) ∧ Md ds K (w.putObj D (.deferred none))

def retQ (P : Program) (res : List ResultVar) (tup : Bool) (rs : List RK) (R : TR rs → Pr) (ex : Exit) (ds : List Nat) (e : Env) : Pr :=
  match ex with
  | .normal => Md ds (resV P res e (retK tup rs R))
  | .ret => Md ds (resV P res e (retK tup rs R))
  | _ => F

def nones : Nat → Env
  | 0 => []
  | n + 1 => none :: nones n

def somes : List Value → Env
  | [] => []
  | v :: r => some v :: somes r

def env0 (n : Nat) (args : List Value) : Env := somes args ++ nones (n - args.length)

def resOne (tmps : Array Value) (r : ResultVar) : Sem Value :=
  match r with
  | .tmp t => pure (tmps.getD t undef)
  | .cell a t => do loadVar t (← asAddr (tmps.getD a undef))

theorem results_eq (fn : Func) (tmps : Array Value) : results fn tmps = (do
    let vs ← fn.results.mapM (resOne tmps)
    pure (if h : vs.size = 1 then vs[0] else .tuple vs)) := by
  unfold results
  congr 1

theorem resV_sound {ds : List Deferred} {P : Program} : ∀ {l : List ResultVar} {e : Env} {a : Act} {K : List Value → Pr} {w : World}, resV P l e K w → Knows ds e a →
    ∃ vs : List Value, vs.length = l.length ∧ (l.mapM (resOne a.tmps)).run P w = .ok vs w ∧ K vs w
  | [], e, a, K, w, h, ha => ⟨[], rfl, by simp, h⟩
  | r :: rs, e, a, K, w, h, ha => by
    simp only [resV] at h
    split at h
    · rename_i t
      split at h
      · rename_i v hv
        obtain ⟨vs, hl, h1, h2⟩ := resV_sound h ha
        have hval := ha.val t v hv
        refine ⟨v :: vs, by simp [hl], ?_, h2⟩
        have h0 : (resOne a.tmps (.tmp t)).run P w = .ok v w := by simp [resOne, hval]
        simp only [List.mapM_cons, Sem.run_bind, h0, Result.andThen_ok, h1, Sem.run_pure]
      · exact h.elim
    · rename_i x ty
      split at h
      · rename_i v hv
        split at h
        · rename_i ad
          obtain ⟨v, hv1, h⟩ := LdD_sound h
          obtain ⟨vs, hl, h1, h2⟩ := resV_sound h ha
          have hval := ha.val x _ hv
          have hgd : a.tmps.getD x undef = .pointer (some ad) := by simp [hval]
          refine ⟨v :: vs, by simp [hl], ?_, h2⟩
          have h0 : (resOne a.tmps (.cell x ty)).run P w = .ok v w := by
            simp only [resOne, hgd, asAddr, Sem.run_bind, Sem.run_pure, Result.andThen_ok, hv1]
          simp only [List.mapM_cons, Sem.run_bind, h0, Result.andThen_ok, h1, Sem.run_pure]
        · exact h.elim
      · exact h.elim

theorem somes_length (l : List Value) : (somes l).length = l.length := by
  induction l with
  | nil => rfl
  | cons v r ih => simp [somes, ih]
theorem nones_length (n : Nat) : (nones n).length = n := by
  induction n with
  | zero => rfl
  | succ n ih => simp [nones, ih]
theorem nones_get (n t : Nat) : (nones n).get t = none := by
  induction n generalizing t with
  | zero => rfl
  | succ n ih => cases t <;> simp [nones, Env.get, ih]
theorem env_get_append (l : List Value) (n : Nat) : ∀ (t : Nat) (v : Value), Env.get (somes l ++ nones n) t = some v → l[t]? = some v := by
  induction l with
  | nil => intro t v h; rw [show (somes [] ++ nones n : Env) = nones n from rfl, nones_get] at h; cases h
  | cons u r ih =>
    intro t v h
    cases t with
    | zero => simpa [somes, Env.get] using h
    | succ t => exact ih t v h

theorem knows_env0 (n : Nat) (args : List Value) : Knows (marks []) (env0 n args) { tmps := args.toArray ++ Array.replicate (n - args.toArray.size) undef, defers := [] } := by
  refine ⟨?_, rfl, fun t v h => ?_⟩
  · simp [env0, somes_length, nones_length]
  · have h1 := env_get_append args _ t v h
    have hl := (List.getElem?_eq_some_iff.1 h1).1
    rw [Array.getElem?_append_left (by simpa using hl)]
    simpa using h1

/-- A function, by its body. -/
theorem call_of {P : Program} {f : FuncId} {fn : Func} {c : Code} {n : Nat} {args : List Value} {tup : Bool} {rs : List RK} {R : TR rs → Pr} {w : World} (hm : P.follows .mixedOrders = true) (ann : Ann) (hok : okFn P f = true) (hf : P.funcs[f]? = some fn) (hb : fn.body = some c) (hn : fn.ntmps = n)
    (hr : (match tup with | true => Nat.beq fn.results.size 1 = false | false => fn.results.size = 1))
    (h : den P ann c (retQ P fn.results.toList tup rs R) [] (env0 n args) w) : Cl P f args tup rs R w := by
  refine ⟨hok, callsIn_of_WF (r := none) (callsIn_of_wp_marks (F := WF none) (n := 0) hf hb trivial ?_)⟩
  subst hn
  refine den_sound hm ann h (knows_env0 _ _) (fun _ => rfl) fun ex ds' e' a' w' hq hk _ hdd => ?_
  have go : ∀ {w' : World}, resV P fn.results.toList e' (retK tup rs R) w' → ∃ v, (results fn a'.tmps).run P w' = .ok v w' ∧ ∃ s, v = encRes tup rs s ∧ R s w' := by
    intro w' h
    obtain ⟨vs, hl, h1, h2⟩ := resV_sound h hk
    have hres : ∀ v, (if hh : vs.length = 1 then vs[0] else Value.tuple vs.toArray) = v → (results fn a'.tmps).run P w' = .ok v w' := by
      intro v hv
      rw [results_eq, Array.mapM_eq_mapM_toList]
      simp only [Sem.run_bind, Sem.run_map, h1, Result.andThen_ok, Sem.run_pure]
      rw [← hv]
      by_cases hh : vs.length = 1 <;> simp [hh]
    cases tup with
    | true =>
      simp only [retK] at h2
      split at h2
      · rename_i s hs
        refine ⟨_, hres (.tuple vs.toArray) ?_, s, ?_, h2⟩
        · rw [dif_neg]
          intro hh
          have := Nat.ne_of_beq_eq_false hr
          rw [hl] at hh
          exact this (by simpa using hh)
        · simp only [encRes, ← decR_eq hs]
      · exact h2.elim
    | false =>
      simp only [retK] at h2
      split at h2
      · rename_i v
        split at h2
        · rename_i s hs
          refine ⟨_, hres v (by simp), s, ?_, h2⟩
          simp only [encRes, ← decR_eq hs, List.headD_cons]
        · exact h2.elim
      · exact h2.elim
  have out : Md ds' (resV P fn.results.toList e' (retK tup rs R)) w' → LeavesInM (WF none) 0 P fn a'.tmps (fun | .returned v, w' => ∃ s, v = encRes tup rs s ∧ R s w' | _, _ => False) a'.defers .returning w' := by
    rw [hk.defers]
    clear hq hk hdd
    induction ds' generalizing w' with
    | nil => intro h; exact go h
    | cons D ds ih =>
      rintro ⟨h1, h2⟩
      exact ⟨by simp, .inl ⟨D, _, rfl, run_takeDeferred h1, ih _ h2⟩⟩
  cases ex with
  | normal => exact out hq
  | ret => exact out hq
  | exit id => exact hq.elim
  | goto l => exact hq.elim
  | panic ch => exact hq.elim
  | outgrown => exact hq.elim

/-! ### words of the printed texts -/
def Both (A B : Pr) : Pr := fun w => A w ∧ B w
def zc (P : Program) (t : TypeId) : Array Value := match zeroOf P t with | some z => z.cells | none => #[]
abbrev w64 (x : Int) : Int := IntKind.i64.wrap x
def BA (l : List UInt8) : ByteArray := ⟨l.toArray⟩
def iand (k : IntKind) (a b : Int) : Int := k.wrap ((BitVec.ofInt k.bits a) &&& (BitVec.ofInt k.bits b)).toNat
def ior (k : IntKind) (a b : Int) : Int := k.wrap ((BitVec.ofInt k.bits a) ||| (BitVec.ofInt k.bits b)).toNat
def ixor (k : IntKind) (a b : Int) : Int := k.wrap ((BitVec.ofInt k.bits a) ^^^ (BitVec.ofInt k.bits b)).toNat
def iandn (k : IntKind) (a b : Int) : Int := k.wrap ((BitVec.ofInt k.bits a) &&& ~~~(BitVec.ofInt k.bits b)).toNat
def ishl (k : IntKind) (a b : Int) : Int := k.wrap (a * 2 ^ (min b.toNat k.bits))
def ishr (k : IntKind) (a b : Int) : Int := a.fdiv (2 ^ (min b.toNat k.bits))

end Go.Sx
