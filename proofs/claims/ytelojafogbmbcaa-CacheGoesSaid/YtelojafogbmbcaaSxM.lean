/-
  A body of code as words ('den'), and that it does so; a function ('call_of').
-/
import Derived.Test.YtelojafogbmbcaaSxL
import Derived.Scope
set_option linter.unusedSimpArgs false
set_option linter.unusedVariables false
namespace Go.Sx
open Go

/-! ### what is written -/
def dsts : List Oper → List Tmp
  | [] => []
  | o :: r => match o.dst with
    | some t => t :: dsts r
    | none => dsts r

def writes : Code → List Tmp
  | .region _ ops _ => dsts ops.toList
  | .seq a b => writes a ++ writes b
  | .cond _ a b => writes a ++ writes b
  | .block _ a => writes a
  | .loop a => writes a
  | .scope a => writes a
  | _ => []

/-- Two frames are alike outside some slots. -/
def Agree (W : List Tmp) (a a' : Act) : Prop := a'.tmps.size = a.tmps.size ∧ ∀ t, t ∉ W → a'.tmps[t]? = a.tmps[t]?

theorem Agree.refl (W : List Tmp) (a : Act) : Agree W a a := ⟨rfl, fun _ _ => rfl⟩
theorem Agree.trans {W : List Tmp} {a b c : Act} (h : Agree W a b) (k : Agree W b c) : Agree W a c := ⟨k.1.trans h.1, fun t ht => (k.2 t ht).trans (h.2 t ht)⟩
theorem Agree.mono {W W' : List Tmp} {a b : Act} (h : Agree W a b) (hs : ∀ t ∈ W, t ∈ W') : Agree W' a b := ⟨h.1, fun t ht => h.2 t (fun hh => ht (hs t hh))⟩
theorem Agree.put {W : List Tmp} {a b : Act} (h : Agree W a b) {d : Option Tmp} (hd : ∀ t, d = some t → t ∈ W) (v : Value) : Agree W a (b.put d v) := ⟨by rw [put_size]; exact h.1, fun t ht => by
    rw [put_ne b v (fun he => ht (hd t he))]
    exact h.2 t ht⟩
theorem Agree.congr {W : List Tmp} {a b c : Act} (h : Agree W a b) (hc : c.tmps = b.tmps) : Agree W a c := ⟨by rw [hc]; exact h.1, fun t ht => by rw [hc]; exact h.2 t ht⟩

theorem mem_dsts {l : List Oper} {o : Oper} (h : o ∈ l) {t : Tmp} (ht : o.dst = some t) : t ∈ dsts l := by
  induction l with
  | nil => simp at h
  | cons x r ih =>
    simp only [dsts]
    rcases List.mem_cons.1 h with rfl | h
    · rw [ht]; exact List.mem_cons_self
    · split
      · exact List.mem_cons_of_mem _ (ih h)
      · exact ih h

def NQ (R : Act → World → Prop) : Exit → Act → World → Prop := fun ex a w => ex = .normal ∧ R a w

theorem upon_agree {P : Program} {o : Oper} {a : Act} {w : World} {K K' : Act → World → Prop} {R R' : Act → World → Prop} (hK : ∀ (b : Act) (w : World), b.tmps = a.tmps → ∀ (v : Value) (w' : World), K (b.put o.dst v) w' → K' (b.put o.dst v) w')
    (h : o.wp P a w K (NQ R)) : o.wp P a w K' (NQ R') := by
  unfold Oper.wp at *
  generalize (execOp a.eval o).run P w = r at *
  cases r with
  | ok n w' =>
    cases n <;> simp only [Oper.upon] at h ⊢
    case value v => exact hK a w rfl v w' h
    case skip => exact hK a w rfl _ w' h
    case defer d => exact hK { a with defers := d :: a.defers } w rfl _ w' h
    case enter f args =>
      refine h.mono fun e w'' he => ?_
      cases e with
      | returned v => exact hK a w rfl v w'' he
      | panicked c => exact absurd he.1 (by simp)
      | outgrown => obtain ⟨_, _, he⟩ := he; exact absurd he.1 (by simp)
    case row row args => exact h.mono fun v w'' he => hK a w rfl v w'' he
  | halt x w' => cases x <;> simp only [Oper.upon] at h ⊢ <;> exact absurd h.1 (by simp)

theorem wpOps_agree {P : Program} {ops : Array Oper} {W : List Tmp} (hW : ∀ (i : Nat) (o : Oper) (t : Tmp), ops[i]? = some o → o.dst = some t → t ∈ W) {R : Act → World → Prop} {a0 : Act} : ∀ {l : List Nat} {a : Act} {w : World}, Agree W a0 a →
    wpOps P ops (NQ R) l a w → wpOps P ops (NQ fun a' w' => R a' w' ∧ Agree W a0 a') l a w
  | [], a, w, ha, h => ⟨h.1, h.2, ha⟩
  | i :: l, a, w, ha, h => by
    simp only [wpOps] at h ⊢
    split at h
    · exact wpOps_agree hW ha h
    · rename_i o ho
      have hd : ∀ t, o.dst = some t → t ∈ W := fun t ht => hW i o t ho ht
      split at h
      · rename_i hw
        rw [if_pos hw]
        rcases h with h | ⟨_, hl⟩
        · left
          refine upon_agree (fun b w hb v w' hk => wpOps_agree hW ?_ hk) h
          exact (ha.congr hb).put hd v
        · obtain ⟨_, _, hl⟩ := hl
          exact absurd hl.1 (by simp)
      · rename_i hw
        rw [if_neg hw]
        exact wpOps_agree hW (ha.put hd _) h

theorem wpAny_agree {P : Program} {ops : Array Oper} {W : List Tmp} (hW : ∀ (i : Nat) (o : Oper) (t : Tmp), ops[i]? = some o → o.dst = some t → t ∈ W) {R : Act → World → Prop} {a0 : Act} : ∀ (fuel : Nat) {listed : Array Bool} {a : Act} {w : World}, Agree W a0 a →
    wpAny P .any ops (NQ R) fuel listed a w → wpAny P .any ops (NQ fun a' w' => R a' w' ∧ Agree W a0 a') fuel listed a w := by
  intro fuel
  induction fuel with
  | zero => intro listed a w ha h; exact ⟨h.1, h.2.1, h.2.2, ha⟩
  | succ fuel ih =>
    intro listed a w ha h
    refine ⟨fun hr => ⟨(h.1 hr).1, (h.1 hr).2, ha⟩, fun i hi => ?_⟩
    have h := h.2 i hi
    unfold wpOp at h ⊢
    split at h
    · exact ih ha h
    · rename_i o ho
      have hd : ∀ t, o.dst = some t → t ∈ W := fun t ht => hW i o t ho ht
      split at h
      · rename_i hw
        rw [if_pos hw]
        rcases h with h | ⟨_, hl⟩
        · left
          refine upon_agree (fun b w hb v w' hk => ih ?_ hk) h
          exact (ha.congr hb).put hd v
        · obtain ⟨_, _, hl⟩ := hl
          exact absurd hl.1 (by simp)
      · rename_i hw
        rw [if_neg hw]
        exact ih (ha.put hd _) h

/-- A region: what holds behind it, of a frame that is as it was but for what the region writes. -/
theorem region_sound {P : Program} {id : Nat} {ops : Array Oper} {K : Env → Pr} {e : Env} {a : Act} {w : World} (h : opsD P ops.toList ops.toList e K w) (ha : Knows e a) :
    (Code.region id ops false).wp P (NQ fun a' w' => (∃ e', K e' w' ∧ Knows e' a') ∧ Agree (dsts ops.toList) a a') a w := by
  refine wp_region (wpOps_agree (fun i o t ho ht => mem_dsts (l := ops.toList) (by rw [Array.mem_toList_iff]; exact Array.mem_of_getElem? ho) ht) (Agree.refl _ _) ?_)
  have hops : ops.toList.toArray = ops := by simp
  have := opsD_sound (l := List.range ops.size) (Q := NQ fun a' w' => ∃ e', K e' w' ∧ Knows e' a') (by
    apply List.ext_getElem?
    intro i
    by_cases hi : i < ops.size <;> simp [hi]) h ha (fun e' a' w' hk hk' => ⟨rfl, e', hk, hk'⟩)
  rwa [hops] at this

def Dr (K : Pr) : Pr := fun w => K w.drew

theorem region_draw_sound {P : Program} {id : Nat} {ops : Array Oper} {K : Env → Pr} {e : Env} {a : Act} {w : World} {n : Nat} (hm : P.follows .mixedOrders = true) (hok : drawOk ops.toList = true)
    (h : drawD P ops.toList (masks ops.toList) K n 0 [] e w.drew) (ha : Knows e a) :
    (Code.region id ops true).wp P (NQ fun a' w' => (∃ e', K e' w' ∧ Knows e' a') ∧ Agree (dsts ops.toList) a a') a w := by
  refine wp_region_any hm (wpAny_agree (fun i o t ho ht => mem_dsts (l := ops.toList) (by rw [Array.mem_toList_iff]; exact Array.mem_of_getElem? ho) ht) _ (Agree.refl _ _) ?_)
  have hops : ops.toList.toArray = ops := by simp
  rw [← hops]
  refine wpAny_of hok (fun e' a' w' hk hk' => ⟨rfl, e', hk, hk'⟩) _ (tr := []) h ?_ (by simp) (by simp)
  constructor
  · exact ha.defers
  · exact ha.size
  · intro x hx; cases hx
  · intro i; simp
  · intro x hx; cases hx
  · intro i hi
    unfold Li at hi
    simp [Array.getElem?_replicate] at hi
    split at hi <;> simp at hi
  · intro j o hj
    unfold Li at hj
    simp [Array.getElem?_replicate] at hj
    split at hj <;> simp at hj
  · intro x hx; cases hx
  · intro x hx; cases hx
  · intro x hx; cases hx
  · intro x hx; cases hx
  · intro t u hu
    exact .inl (ha.val t u hu)
  · intro x hx; cases hx
  · intro y hy; cases hy
  · intro x hx; cases hx

/-! ### code -/
inductive Ann where
  | leaf
  | seq (a b : Ann)
  | cond (a b : Ann)
  | block (a : Ann)
  | join (lv : List (Tmp × RK)) (a : Ann)
  | loop (lv : List (Tmp × RK)) (a : Ann)

def kinds : List (Tmp × RK) → List RK
  | [] => []
  | (_, k) :: r => k :: kinds r

def ins : (lv : List (Tmp × RK)) → TR (kinds lv) → Env → Env
  | [], _, e => e
  | (t, k) :: r, s, e => ins r s.2 (e.set t (some (k.enc s.1)))

def getL : (lv : List (Tmp × RK)) → Env → Option (TR (kinds lv))
  | [], _ => some ()
  | (t, k) :: r, e => match e.get t with
    | some v => match k.dec v with
      | some x => match getL r e with
        | some y => some (x, y)
        | none => none
      | none => none
    | none => none

def useJ (lv : List (Tmp × RK)) (J : TR (kinds lv) → Pr) (e : Env) (w : World) : Prop :=
  match getL lv e with
  | some s => J s w
  | none => F w

def thenD (K : Env → Pr) (Q : Exit → Env → Pr) (ex : Exit) (e : Env) : Pr :=
  match ex with
  | .normal => K e
  | .exit id => Q (.exit id) e
  | .goto l => Q (.goto l) e
  | .ret => Q .ret e
  | .panic c => Q (.panic c) e
  | .outgrown => Q .outgrown e

def blockD (id : Nat) (Q : Exit → Env → Pr) (ex : Exit) (e : Env) : Pr :=
  match ex with
  | .normal => Q .normal e
  | .exit id' => match Nat.beq id' id with
    | true => Q .normal e
    | false => Q (.exit id') e
  | .goto l => Q (.goto l) e
  | .ret => Q .ret e
  | .panic c => Q (.panic c) e
  | .outgrown => Q .outgrown e

/-- A scope is gone through without a jump. -/
def scopeD (Q : Exit → Env → Pr) (ex : Exit) (e : Env) : Pr :=
  match ex with
  | .normal => Q .normal e
  | .exit id => Q (.exit id) e
  | .goto _ => F
  | .ret => Q .ret e
  | .panic c => Q (.panic c) e
  | .outgrown => Q .outgrown e

def den (P : Program) : Ann → Code → (Exit → Env → Pr) → Env → World → Prop
  | .leaf, c, Q, e, w => match c with
    | .skip => Q .normal e w
    | .label _ => Q .normal e w
    | .ret => Q .ret e w
    | .exit id => Q (.exit id) e w
    | .region _ ops draw => match draw with
      | false => opsD P ops.toList ops.toList e (Q .normal) w
      | true => match drawOk ops.toList with
        | true => Dr (drawD P ops.toList (masks ops.toList) (Q .normal) (ops.toList.length + 1) 0 [] e) w
        | false => F w
    | _ => F w
  | .seq a b, c, Q, e, w => match c with
    | .seq x y => den P a x (thenD (den P b y Q) Q) e w
    | _ => F w
  | .cond a b, c, Q, e, w => match c with
    | .cond o x y => match known1 e o with
      | true => match rho e o with
        | .bool t => Br t (den P a x Q e) (den P b y Q e) w
        | _ => F w
      | false => F w
    | _ => F w
  | .block a, c, Q, e, w => match c with
    | .block id x => den P a x (blockD id Q) e w
    | .scope x => den P a x (scopeD Q) e w
    | _ => F w
  | .join lv a, c, Q, e, w => Jp (fun s => Q .normal (ins lv s (e.forget (writes c)))) (fun J => den P a c (thenD (useJ lv J) Q) e) w
  | .loop lv a, c, Q, e, w => match c with
    | .loop x => match getL lv e with
      | some s => Lp (fun rec s => den P a x (thenD (useJ lv rec) Q) (ins lv s (e.forget (writes x)))) s w
      | none => F w
    | _ => F w

theorem forget_get {e : Env} : ∀ {ts : List Tmp} {t : Nat} {v : Value}, (e.forget ts).get t = some v → t ∉ ts ∧ e.get t = some v := by
  intro ts
  induction ts generalizing e with
  | nil => intro t v h; exact ⟨by simp, h⟩
  | cons u ts ih =>
    intro t v h
    obtain ⟨h1, h2⟩ := ih (e := e.set u none) h
    rcases Env.get_set_some h2 with ⟨_, hh⟩ | ⟨hne, hh⟩
    · cases hh
    · exact ⟨by simp [h1]; exact fun he => hne he.symm, hh⟩

theorem forget_length {e : Env} : ∀ {ts : List Tmp}, (e.forget ts).length = e.length := by
  intro ts
  induction ts generalizing e with
  | nil => rfl
  | cons u ts ih => simp only [Env.forget]; rw [ih, Env.length_set]

theorem Knows.agree {e : Env} {a a' : Act} {W : List Tmp} (h : Knows e a) (hg : Agree W a a') (hd : a'.defers = []) : Knows (e.forget W) a' :=
  ⟨by rw [forget_length, hg.1]; exact h.size, hd, fun t v hv => by
    obtain ⟨h1, h2⟩ := forget_get hv
    rw [hg.2 t h1]
    exact h.val t v h2⟩

theorem getL_ins {lv : List (Tmp × RK)} : ∀ {e e' : Env} {s : TR (kinds lv)} {a : Act}, getL lv e' = some s → Knows e' a → Knows e a → Knows (ins lv s e) a := by
  induction lv with
  | nil => intro e e' s a _ _ h; exact h
  | cons p r ih =>
    obtain ⟨t, k⟩ := p
    intro e e' s a hg h' h
    simp only [getL] at hg
    split at hg
    · rename_i v hv
      split at hg
      · rename_i x hx
        split at hg
        · rename_i y hy
          have hg := Option.some.inj hg
          subst hg
          refine ih hy h' ?_
          have := h'.val t v hv
          rw [RK.dec_eq hx] at this
          exact h.set_some this
        · cases hg
      · cases hg
    · cases hg

/-- A loop with a number that falls. -/
theorem wp_loop_n {P : Program} {c : Code} {Q : Exit → Act → World → Prop} {a : Act} {w : World} (I : Nat → Act → World → Prop) {n : Nat} (h₀ : I n a w)
    (round : ∀ n a w, I n a w → c.wp P (Exit.then (fun a' w' => ∃ m, m < n ∧ I m a' w') Q) a w) : (Code.loop c).wp P Q a w := by
  intro b k cs
  have key : ∀ n a w, I n a w → ∃ e a' w', Q e a' w' ∧ Arrives P (lone (b.at a (.code c :: .inLoop c :: k)) cs w) b k cs e a' w' := by
    intro n
    induction n using Nat.strongRecOn with
    | _ n ih =>
      intro a w hI
      obtain ⟨e, a₁, w₁, hq, harr⟩ := round n a w hI b (.inLoop c :: k) cs
      cases e with
      | normal =>
        obtain ⟨m, hlt, hI₁⟩ := hq
        obtain ⟨e₂, a₂, w₂, hq₂, harr₂⟩ := ih m hlt a₁ w₁ hI₁
        exact ⟨e₂, a₂, w₂, hq₂, .of_steps (Steps.trans harr (.one step_inLoop)) harr₂⟩
      | exit id => exact ⟨_, a₁, w₁, hq, .pass (x := .inLoop c) rfl (fun _ _ => .inl (by simp)) harr⟩
      | goto l => exact ⟨_, a₁, w₁, hq, .pass (x := .inLoop c) rfl (fun _ _ => .inl (by simp)) harr⟩
      | ret => exact ⟨_, a₁, w₁, hq, .pass (x := .inLoop c) rfl (fun _ _ => .inl (by simp)) harr⟩
      | panic ch => exact ⟨_, a₁, w₁, hq, .pass (x := .inLoop c) rfl (fun _ _ => .inl (by simp)) harr⟩
      | outgrown => exact ⟨_, a₁, w₁, hq, .pass (x := .inLoop c) rfl (fun _ _ => .inl (by simp)) harr⟩
  obtain ⟨e, a', w', hq, harr⟩ := key n a w h₀
  exact ⟨e, a', w', hq, .of_steps (.one step_loop) harr⟩

theorem den_sound {P : Program} (hm : P.follows .mixedOrders = true) : ∀ (ann : Ann) {c : Code} {Q : Exit → Env → Pr} {Q' : Exit → Act → World → Prop} {e : Env} {a : Act} {w : World}, den P ann c Q e w → Knows e a →
    (∀ ex e' a' w', Q ex e' w' → Knows e' a' → Agree (writes c) a a' → Q' ex a' w') → c.wp P Q' a w := by
  intro ann
  induction ann with
  | leaf =>
    intro c Q Q' e a w h ha hq
    cases c with
    | skip => exact wp_skip (hq _ _ _ _ h ha (Agree.refl _ _))
    | label l => exact wp_label (hq _ _ _ _ h ha (Agree.refl _ _))
    | ret => exact wp_ret (hq _ _ _ _ h ha (Agree.refl _ _))
    | exit id => exact wp_exit (hq _ _ _ _ h ha (Agree.refl _ _))
    | region id ops draw =>
      cases draw with
      | false =>
        refine wp_mono (region_sound h ha) fun ex a' w' hr => ?_
        obtain ⟨rfl, ⟨e', hk, hk'⟩, hg⟩ := hr
        exact hq _ _ _ _ hk hk' hg
      | true =>
        simp only [den] at h
        split at h
        · rename_i hok
          refine wp_mono (region_draw_sound hm hok h ha) fun ex a' w' hr => ?_
          obtain ⟨rfl, ⟨e', hk, hk'⟩, hg⟩ := hr
          exact hq _ _ _ _ hk hk' hg
        · exact h.elim
    | _ => exact h.elim
  | seq x y ihx ihy =>
    intro c Q Q' e a w h ha hq
    cases c with
    | seq cx cy =>
      refine wp_seq (ihx h ha fun ex e' a' w' hk hk' hg => ?_)
      have hgx : Agree (writes (.seq cx cy)) a a' := hg.mono fun t ht => by simp [writes, ht]
      cases ex with
      | normal =>
        refine ihy hk hk' fun ex e'' a'' w'' hl hl' hg' => ?_
        exact hq _ _ _ _ hl hl' (hgx.trans (hg'.mono fun t ht => by simp [writes, ht]))
      | exit id => exact hq _ _ _ _ hk hk' hgx
      | goto l => exact hq _ _ _ _ hk hk' hgx
      | ret => exact hq _ _ _ _ hk hk' hgx
      | panic ch => exact hq _ _ _ _ hk hk' hgx
      | outgrown => exact hq _ _ _ _ hk hk' hgx
    | _ => exact h.elim
  | cond x y ihx ihy =>
    intro c Q Q' e a w h ha hq
    cases c with
    | cond o cx cy =>
      simp only [den] at h
      split at h
      · rename_i hk
        split at h
        · rename_i t ht
          have hev : a.eval o = .bool t := by rw [← ha.rho hk, ht]
          refine wp_cond_split hev (fun hh => ?_) (fun hh => ?_)
          · subst hh
            exact ihx h ha fun ex e' a' w' hk hk' hg => hq _ _ _ _ hk hk' (hg.mono fun t ht => by simp [writes, ht])
          · subst hh
            exact ihy h ha fun ex e' a' w' hk hk' hg => hq _ _ _ _ hk hk' (hg.mono fun t ht => by simp [writes, ht])
        · exact h.elim
      · exact h.elim
    | _ => exact h.elim
  | block x ih =>
    intro c Q Q' e a w h ha hq
    cases c with
    | block id cx =>
      refine wp_block (ih h ha fun ex e' a' w' hk hk' hg => ?_)
      have hgx : Agree (writes (.block id cx)) a a' := hg
      cases ex with
      | normal => exact hq _ _ _ _ hk hk' hgx
      | exit id' =>
        simp only [blockD] at hk
        simp only [Exit.inBlock]
        cases hb : Nat.beq id' id with
        | true =>
          rw [hb] at hk
          rw [if_pos (Nat.eq_of_beq_eq_true hb)]
          exact hq _ _ _ _ hk hk' hgx
        | false =>
          rw [hb] at hk
          rw [if_neg (Nat.ne_of_beq_eq_false hb)]
          exact hq _ _ _ _ hk hk' hgx
      | goto l => exact hq _ _ _ _ hk hk' hgx
      | ret => exact hq _ _ _ _ hk hk' hgx
      | panic ch => exact hq _ _ _ _ hk hk' hgx
      | outgrown => exact hq _ _ _ _ hk hk' hgx
    | scope cx =>
      refine wp_scope_straight (ih h ha fun ex e' a' w' hk hk' hg => ?_)
      cases ex with
      | normal => exact hq _ _ _ _ hk hk' hg
      | exit id' => exact hq _ _ _ _ hk hk' hg
      | goto l => exact hk.elim
      | ret => exact hq _ _ _ _ hk hk' hg
      | panic ch => exact hq _ _ _ _ hk hk' hg
      | outgrown => exact hq _ _ _ _ hk hk' hg
    | _ => exact h.elim
  | join lv x ih =>
    intro c Q Q' e a w h ha hq
    refine ih (c := c) h ha fun ex e' a' w' hk hk' hg => ?_
    cases ex with
    | normal =>
      simp only [thenD, useJ] at hk
      split at hk
      · rename_i s hs
        refine hq _ _ _ _ hk (getL_ins hs hk' (ha.agree hg hk'.defers)) hg
      · exact hk.elim
    | exit id => exact hq _ _ _ _ hk hk' hg
    | goto l => exact hq _ _ _ _ hk hk' hg
    | ret => exact hq _ _ _ _ hk hk' hg
    | panic ch => exact hq _ _ _ _ hk hk' hg
    | outgrown => exact hq _ _ _ _ hk hk' hg
  | loop lv x ih =>
    intro c Q Q' e a w h ha hq
    cases c with
    | loop cx =>
      simp only [den] at h
      split at h
      · rename_i s hs
        obtain ⟨I, ⟨n, hI⟩, hround⟩ := h
        refine wp_loop_n (fun n a' w' => ∃ s, Knows (ins lv s (e.forget (writes cx))) a' ∧ Agree (writes cx) a a' ∧ I n s w') ⟨s, getL_ins hs ha (ha.forget _), Agree.refl _ _, hI⟩ ?_
        rintro n a' w' ⟨s, hks, hg, hI⟩
        refine ih (hround n s w' hI) hks fun ex e'' a'' w'' hk hk' hg' => ?_
        have hg'' : Agree (writes cx) a a'' := hg.trans hg'
        cases ex with
        | normal =>
          simp only [thenD, useJ] at hk
          split at hk
          · rename_i s' hs'
            obtain ⟨m, hmn, hIm⟩ := hk
            refine ⟨m, hmn, s', getL_ins hs' hk' (ha.agree hg'' hk'.defers), hg'', hIm⟩
          · exact hk.elim
        | exit id => exact hq _ _ _ _ hk hk' hg''
        | goto l => exact hq _ _ _ _ hk hk' hg''
        | ret => exact hq _ _ _ _ hk hk' hg''
        | panic ch => exact hq _ _ _ _ hk hk' hg''
        | outgrown => exact hq _ _ _ _ hk hk' hg''
      · exact h.elim
    | _ => exact h.elim

/-! ### a function -/
def resV (P : Program) : List ResultVar → Env → (List Value → Pr) → World → Prop
  | [], _, K, w => K [] w
  | r :: rs, e, K, w => match r with
    | .tmp t => match e.get t with
      | some v => resV P rs e (fun vs => K (v :: vs)) w
      | none => F w
    | .cell a ty => match e.get a with
      | some v => match v with
        | .pointer (some ad) => LdD P ty ad (fun v => resV P rs e (fun vs => K (v :: vs))) w
        | _ => F w
      | none => F w

def retK (tup : Bool) (rs : List RK) (R : TR rs → Pr) (vs : List Value) (w : World) : Prop :=
  match tup with
  | true => match decR rs vs with
    | some s => R s w
    | none => F w
  | false => match vs with
    | [v] => match decR rs [v] with
      | some s => R s w
      | none => F w
    | _ => F w

def retQ (P : Program) (res : List ResultVar) (tup : Bool) (rs : List RK) (R : TR rs → Pr) (ex : Exit) (e : Env) : Pr :=
  match ex with
  | .normal => resV P res e (retK tup rs R)
  | .ret => resV P res e (retK tup rs R)
  | _ => F

def nones : Nat → Env
  | 0 => []
  | n + 1 => none :: nones n

def somes : List Value → Env
  | [] => []
  | v :: r => some v :: somes r

def env0 (n : Nat) (args : List Value) : Env := somes args ++ nones (n - args.length)

def resOne (tmps : Array Value) (r : ResultVar) : Sem Value :=
  match r with
  | .tmp t => pure (tmps.getD t undef)
  | .cell a t => do loadVar t (← asAddr (tmps.getD a undef))

theorem results_eq (fn : Func) (tmps : Array Value) : results fn tmps = (do
    let vs ← fn.results.mapM (resOne tmps)
    pure (if h : vs.size = 1 then vs[0] else .tuple vs)) := by
  unfold results
  congr 1

theorem resV_sound {P : Program} : ∀ {l : List ResultVar} {e : Env} {a : Act} {K : List Value → Pr} {w : World}, resV P l e K w → Knows e a →
    ∃ vs : List Value, vs.length = l.length ∧ (l.mapM (resOne a.tmps)).run P w = .ok vs w ∧ K vs w
  | [], e, a, K, w, h, ha => ⟨[], rfl, by simp, h⟩
  | r :: rs, e, a, K, w, h, ha => by
    simp only [resV] at h
    split at h
    · rename_i t
      split at h
      · rename_i v hv
        obtain ⟨vs, hl, h1, h2⟩ := resV_sound h ha
        have hval := ha.val t v hv
        refine ⟨v :: vs, by simp [hl], ?_, h2⟩
        have h0 : (resOne a.tmps (.tmp t)).run P w = .ok v w := by simp [resOne, hval]
        simp only [List.mapM_cons, Sem.run_bind, h0, Result.andThen_ok, h1, Sem.run_pure]
      · exact h.elim
    · rename_i x ty
      split at h
      · rename_i v hv
        split at h
        · rename_i ad
          obtain ⟨v, hv1, h⟩ := LdD_sound h
          obtain ⟨vs, hl, h1, h2⟩ := resV_sound h ha
          have hval := ha.val x _ hv
          have hgd : a.tmps.getD x undef = .pointer (some ad) := by simp [hval]
          refine ⟨v :: vs, by simp [hl], ?_, h2⟩
          have h0 : (resOne a.tmps (.cell x ty)).run P w = .ok v w := by
            simp only [resOne, hgd, asAddr, Sem.run_bind, Sem.run_pure, Result.andThen_ok, hv1]
          simp only [List.mapM_cons, Sem.run_bind, h0, Result.andThen_ok, h1, Sem.run_pure]
        · exact h.elim
      · exact h.elim

theorem somes_length (l : List Value) : (somes l).length = l.length := by
  induction l with
  | nil => rfl
  | cons v r ih => simp [somes, ih]
theorem nones_length (n : Nat) : (nones n).length = n := by
  induction n with
  | zero => rfl
  | succ n ih => simp [nones, ih]
theorem nones_get (n t : Nat) : (nones n).get t = none := by
  induction n generalizing t with
  | zero => rfl
  | succ n ih => cases t <;> simp [nones, Env.get, ih]
theorem env_get_append (l : List Value) (n : Nat) : ∀ (t : Nat) (v : Value), Env.get (somes l ++ nones n) t = some v → l[t]? = some v := by
  induction l with
  | nil => intro t v h; rw [show (somes [] ++ nones n : Env) = nones n from rfl, nones_get] at h; cases h
  | cons u r ih =>
    intro t v h
    cases t with
    | zero => simpa [somes, Env.get] using h
    | succ t => exact ih t v h

theorem knows_env0 (n : Nat) (args : List Value) : Knows (env0 n args) { tmps := args.toArray ++ Array.replicate (n - args.toArray.size) undef, defers := [] } := by
  refine ⟨?_, rfl, fun t v h => ?_⟩
  · simp [env0, somes_length, nones_length]
  · have h1 := env_get_append args _ t v h
    have hl := (List.getElem?_eq_some_iff.1 h1).1
    rw [Array.getElem?_append_left (by simpa using hl)]
    simpa using h1

/-- A function, by its body. -/
theorem call_of {P : Program} {f : FuncId} {fn : Func} {c : Code} {n : Nat} {args : List Value} {tup : Bool} {rs : List RK} {R : TR rs → Pr} {w : World} (hm : P.follows .mixedOrders = true) (ann : Ann) (hok : okFn P f = true) (hf : P.funcs[f]? = some fn) (hb : fn.body = some c) (hn : fn.ntmps = n)
    (hr : (match tup with | true => Nat.beq fn.results.size 1 = false | false => fn.results.size = 1))
    (h : den P ann c (retQ P fn.results.toList tup rs R) (env0 n args) w) : Cl P f args tup rs R w := by
  refine ⟨hok, calls_of_wp hf hb ?_⟩
  subst hn
  refine den_sound hm ann h (knows_env0 _ _) fun ex e' a' w' hq hk _ => ?_
  have go : resV P fn.results.toList e' (retK tup rs R) w' → ∃ v, (results fn a'.tmps).run P w' = .ok v w' ∧ ∃ s, v = encRes tup rs s ∧ R s w' := by
    intro h
    obtain ⟨vs, hl, h1, h2⟩ := resV_sound h hk
    have hres : ∀ v, (if hh : vs.length = 1 then vs[0] else Value.tuple vs.toArray) = v → (results fn a'.tmps).run P w' = .ok v w' := by
      intro v hv
      rw [results_eq, Array.mapM_eq_mapM_toList]
      simp only [Sem.run_bind, Sem.run_map, h1, Result.andThen_ok, Sem.run_pure]
      rw [← hv]
      by_cases hh : vs.length = 1 <;> simp [hh]
    cases tup with
    | true =>
      simp only [retK] at h2
      split at h2
      · rename_i s hs
        refine ⟨_, hres (.tuple vs.toArray) ?_, s, ?_, h2⟩
        · rw [dif_neg]
          intro hh
          have := Nat.ne_of_beq_eq_false hr
          rw [hl] at hh
          exact this (by simpa using hh)
        · simp only [encRes, ← decR_eq hs]
      · exact h2.elim
    | false =>
      simp only [retK] at h2
      split at h2
      · rename_i v
        split at h2
        · rename_i s hs
          refine ⟨_, hres v (by simp), s, ?_, h2⟩
          simp only [encRes, ← decR_eq hs, List.headD_cons]
        · exact h2.elim
      · exact h2.elim
  cases ex with
  | normal => exact ⟨hk.defers, go hq⟩
  | ret => exact ⟨hk.defers, go hq⟩
  | exit id => exact hq.elim
  | goto l => exact hq.elim
  | panic ch => exact hq.elim
  | outgrown => exact hq.elim

/-! ### words of the printed texts -/
def Both (A B : Pr) : Pr := fun w => A w ∧ B w
def zc (P : Program) (t : TypeId) : Array Value := match zeroOf P t with | some z => z.cells | none => #[]
abbrev w64 (x : Int) : Int := IntKind.i64.wrap x
def BA (l : List UInt8) : ByteArray := ⟨l.toArray⟩
def iand (k : IntKind) (a b : Int) : Int := k.wrap ((BitVec.ofInt k.bits a) &&& (BitVec.ofInt k.bits b)).toNat
def ior (k : IntKind) (a b : Int) : Int := k.wrap ((BitVec.ofInt k.bits a) ||| (BitVec.ofInt k.bits b)).toNat
def ixor (k : IntKind) (a b : Int) : Int := k.wrap ((BitVec.ofInt k.bits a) ^^^ (BitVec.ofInt k.bits b)).toNat
def iandn (k : IntKind) (a b : Int) : Int := k.wrap ((BitVec.ofInt k.bits a) &&& ~~~(BitVec.ofInt k.bits b)).toNat
def ishl (k : IntKind) (a b : Int) : Int := k.wrap (a * 2 ^ (min b.toNat k.bits))
def ishr (k : IntKind) (a b : Int) : Int := a.fdiv (2 ^ (min b.toNat k.bits))

end Go.Sx
