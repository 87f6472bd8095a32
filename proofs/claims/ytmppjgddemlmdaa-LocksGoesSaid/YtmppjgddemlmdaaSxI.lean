/-
  Regions in the order of the text, as words ('opsD'), and that they do so.
-/
import Derived.Test.YtmppjgddemlmdaaSxH
set_option linter.unusedSimpArgs false
set_option linter.unusedVariables false
namespace Go.Sx
open Go

/-! ### what an operation looks at -/
def opnds : Op → List Operand
  | .move x | .assign x | .box _ x | .load _ x | .nilCheck x | .unOp _ _ x | .convert _ _ x | .sliceToArrayPointer _ x | .makeInterface _ x
  | .makeChan _ x | .fieldAddr _ x _ | .field _ x _ | .range _ x | .next x _ | .entry x | .typeAssert x _ _ _ | .extract x _ | .panic x | .recv _ x _ => [x]
  | .pick c a b => [c, a, b]
  | .build _ ps => ps.toList.map (·.2)
  | .buildSlice _ _ ps => ps.toList.map (·.2)
  | .store _ a v | .binOp _ _ a v _ | .makeSlice _ a v | .indexAddr _ a v | .index _ a v | .lookup _ a v _ | .mapEntry _ a v | .send a v => [a, v]
  | .makeFunc _ first captured => first.toList ++ captured.toList
  | .makeMap _ r => match r with | some x => [x] | none => []
  | .slice _ x l h m => x :: ((match l with | some y => [y] | none => []) ++ ((match h with | some y => [y] | none => []) ++ (match m with | some y => [y] | none => [])))
  | .mapUpdate _ m k v | .entryStore _ m k v | .insert _ m k v => [m, k, v]
  | .call c | .go c | .defer c => (match c.callee with | .value f => [f] | .invoke r _ => [r] | .builtin _ => []) ++ c.args.toList
  | _ => []

theorem opnds_mem {op : Op} (hs : ∀ cs b, op ≠ .select cs b) {x : Operand} (h : x ∈ op.operands) : x ∈ opnds op := by
  cases op <;> simp only [Op.operands, opnds, Go.Call.operands] at * <;> first
    | (simp_all; done)
    | skip
  case slice t x lo hi mx => cases lo <;> cases hi <;> cases mx <;> simp_all
  case call c => cases hc : c.callee <;> simp_all
  case go c => cases hc : c.callee <;> simp_all
  case defer c => cases hc : c.callee <;> simp_all

def tmpsOf : List Operand → List Tmp
  | [] => []
  | x :: r => match x with
    | .tmp t => t :: tmpsOf r
    | _ => tmpsOf r

theorem mem_tmpsOf {l : List Operand} {t : Tmp} : t ∈ tmpsOf l ↔ Operand.tmp t ∈ l := by
  induction l with
  | nil => simp [tmpsOf]
  | cons x r ih => cases x <;> simp [tmpsOf, ih]

def guardTmp (ops : List Oper) (o : Oper) : Option Tmp :=
  match o.guard with
  | some (g, _) => match ops[g]? with
    | some og => og.dst
    | none => none
  | none => none

/-- The slots that an operation looks at. -/
def looks (ops : List Oper) (o : Oper) : List Tmp :=
  match guardTmp ops o with
  | some t => t :: tmpsOf (opnds o.op)
  | none => tmpsOf (opnds o.op)

def notSel : Op → Bool
  | .select _ _ => false
  | _ => true

def knownL (e : Env) : List Tmp → Bool
  | [] => true
  | t :: r => match e.get t with
    | some _ => knownL e r
    | none => false

theorem knownL_mem {e : Env} : ∀ {l : List Tmp}, knownL e l = true → ∀ t ∈ l, ∃ v, e.get t = some v
  | [], _, t, h => by simp at h
  | u :: r, hk, t, h => by
    simp only [knownL] at hk
    split at hk
    · rename_i v hv
      rcases List.mem_cons.1 h with rfl | h
      · exact ⟨v, hv⟩
      · exact knownL_mem hk t h
    · cases hk

theorem execOp_known {o : Oper} {e : Env} {a : Act} (hs : notSel o.op = true) (h : ∀ t ∈ tmpsOf (opnds o.op), ∃ v, e.get t = some v ∧ a.tmps[t]? = some v) : execOp (rho e) o = execOp a.eval o := by
  have hs' : ∀ cs b, o.op ≠ .select cs b := by
    intro cs b hc
    rw [hc] at hs
    cases hs
  refine execOp_congr o hs' fun x hx => ?_
  have hm := opnds_mem hs' hx
  cases x with
  | tmp t =>
    obtain ⟨v, h1, h2⟩ := h t (mem_tmpsOf.2 hm)
    simp [rho, Act.eval, h1, h2]
  | _ => rfl

/-- Whether a guarded operation is wanted: what the guard's slot holds is told apart. -/
def grdD (ops : List Oper) (o : Oper) (e : Env) (T E : Env → Pr) (w : World) : Prop :=
  match o.guard with
  | none => T e w
  | some (g, want) => match ops[g]? with
    | some og => match og.dst with
      | some t => match e.get t with
        | some v => match v with
          | .bool b => Br b (match want with | true => T (e.set t (some (.bool true))) | false => E (e.set t (some (.bool true)))) (match want with | true => E (e.set t (some (.bool false))) | false => T (e.set t (some (.bool false)))) w
          | .tuple _ => E e w
          | _ => F w
        | none => F w
      | none => F w
    | none => F w

theorem set_same {e : Env} {t : Nat} {v : Value} (h : e.get t = some v) : e.set t (some v) = e := by
  induction e generalizing t with
  | nil => rfl
  | cons x r ih =>
    cases t with
    | zero => simp only [Env.get] at h; simp [Env.set, h]
    | succ t => simp only [Env.get] at h; simp [Env.set, ih h]

theorem grdD_elim {ops : List Oper} {o : Oper} {e : Env} {T E : Env → Pr} {w : World} (h : grdD ops o e T E w) :
    ∃ b : Bool, (if b then T e w else E e w) ∧ ∀ a : Act, (∀ t, guardTmp ops o = some t → ∀ v, e.get t = some v → a.tmps[t]? = some v) → Region.wanted o (yielded ops.toArray a.tmps) = b := by
  simp only [grdD] at h
  split at h
  · rename_i hg
    exact ⟨true, h, fun a _ => by simp [Region.wanted, hg]⟩
  · rename_i g want hg
    split at h
    · rename_i og hog
      split at h
      · rename_i t ht
        have hgt : guardTmp ops o = some t := by simp [guardTmp, hg, hog, ht]
        have hy : ∀ a : Act, yielded ops.toArray a.tmps g = (match a.tmps[t]? with | some (.bool b) => some b | _ => none) := by
          intro a
          simp only [yielded, List.getElem?_toArray, hog, Option.bind_some, ht]
          rfl
        split at h
        · rename_i v hv
          split at h
          · rename_i b
            have hw : ∀ a : Act, (∀ u, guardTmp ops o = some u → ∀ v, e.get u = some v → a.tmps[u]? = some v) → Region.wanted o (yielded ops.toArray a.tmps) = (b == want) := by
              intro a ha
              have := ha t hgt _ hv
              simp [Region.wanted, hg, hy, this]
            have hs := set_same hv
            cases b
            · simp only [Br, hs] at h
              cases want
              · exact ⟨true, h, fun a ha => hw a ha⟩
              · exact ⟨false, h, fun a ha => hw a ha⟩
            · simp only [Br, hs] at h
              cases want
              · exact ⟨false, h, fun a ha => hw a ha⟩
              · exact ⟨true, h, fun a ha => hw a ha⟩
          · rename_i vs
            exact ⟨false, h, fun a ha => by
              have := ha t hgt _ hv
              simp [Region.wanted, hg, hy, this]⟩
          · exact h.elim
        · exact h.elim
      · exact h.elim
    · exact h.elim

/-- One operation of a region. -/
def stepD (P : Program) (ops : List Oper) (o : Oper) (e : Env) (K : Env → Pr) : Pr :=
  grdD ops o e
    (fun e w => match notSel o.op && knownL e (tmpsOf (opnds o.op)) with
      | true => opD P o (rho e) (fun v => K (e.put o.dst v)) w
      | false => F w)
    (fun e => K (e.put o.dst undef))

/-- A region in the order of a list. -/
def opsD (P : Program) (ops : List Oper) : List Oper → Env → (Env → Pr) → Pr
  | [], e, K => K e
  | o :: r, e, K => stepD P ops o e (fun e => opsD P ops r e K)

theorem wpIn_of_does {r : Option Nat} {P : Program} {o : Oper} {a : Act} {w : World} {next : Act → World → Prop} {Q : Exit → Act → World → Prop} (hd : ∀ c, o.op ≠ .defer c) (h : o.uponIn (WF r) 0 P a next Q ((execOp a.eval o).run P w)) : o.wpIn (WF r) 0 P a w next Q :=
  ⟨fun _ _ => trivial, by rw [Oper.semAt_eq _ _ _ hd]; exact h⟩

theorem stepD_sound {ds : List Deferred} {r : Option Nat} {P : Program} {ops : List Oper} {o : Oper} {e : Env} {K : Env → Pr} {w : World} {a : Act} (h : stepD P ops o e K w) (ha : Knows ds e a) {next : Act → World → Prop} {Q : Exit → Act → World → Prop}
    (hn : ∀ e' a' w', K e' w' → Knows ds e' a' → next a' w') :
    if Region.wanted o (yielded ops.toArray a.tmps) then o.wpIn (WF r) 0 P a w next Q else next (a.put o.dst undef) w := by
  obtain ⟨b, hb, hw⟩ := grdD_elim h
  rw [hw a (fun t _ v hv => ha.val t v hv)]
  cases b
  · simp only [Bool.false_eq_true, if_false] at hb ⊢
    exact hn _ _ _ hb (ha.put _ _)
  · simp only [if_true] at hb ⊢
    split at hb
    · rename_i hk
      simp only [Bool.and_eq_true] at hk
      have he : execOp (rho e) o = execOp a.eval o := execOp_known hk.1 fun t ht => by
        obtain ⟨v, hv⟩ := knownL_mem hk.2 t ht
        exact ⟨v, hv, ha.val t v hv⟩
      have := opD_sound hb r a next Q (fun v w' hkv => hn _ _ _ hkv (ha.put _ _))
      rw [he] at this
      exact wpIn_of_does (opD_nodefer hb) this
    · exact hb.elim

theorem opsD_sound {ds : List Deferred} {r : Option Nat} {P : Program} {ops : List Oper} {Q : Exit → Act → World → Prop} : ∀ {l : List Nat} {os : List Oper} {e : Env} {K : Env → Pr} {w : World} {a : Act}, l.map (ops[·]?) = os.map some → opsD P ops os e K w → Knows ds e a →
    (∀ e' a' w', K e' w' → Knows ds e' a' → Q .normal a' w') → wpOpsIn (WF r) 0 P ops.toArray Q l a w
  | [], os, e, K, w, a, hl, h, ha, hq => by
    cases os with
    | nil => exact hq _ _ _ h ha
    | cons o os => simp at hl
  | i :: l, os, e, K, w, a, hl, h, ha, hq => by
    cases os with
    | nil => simp at hl
    | cons o os =>
      simp only [List.map_cons, List.cons.injEq] at hl
      simp only [wpOpsIn, List.getElem?_toArray, hl.1]
      have := stepD_sound (r := r) (next := wpOpsIn (WF r) 0 P ops.toArray Q l) (Q := Q) h ha (fun e' a' w' hk hk' => opsD_sound hl.2 hk hk' hq)
      split
      · rename_i hw
        rw [hw] at this
        simpa using this
      · rename_i hw
        rw [if_neg hw] at this
        exact ⟨fun _ _ => trivial, this⟩

end Go.Sx
