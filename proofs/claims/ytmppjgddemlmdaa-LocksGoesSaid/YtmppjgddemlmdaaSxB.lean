/-
  What one operation does, as words: those that compute only ('pureD'), and that they do so.
-/
import Derived.Test.YtmppjgddemlmdaaSxA
import Derived.RangeFuncLeaves
import Derived.RangeFuncRecord
import Derived.RangeFuncIn
import Derived.OrdersIn
import Derived.ChangeKeysEq
set_option linter.unusedSimpArgs false
namespace Go.Sx
open Go

/-- The fence that lets all in; in a round, or in none. -/
def WF (r : Option Nat) : Fence := { Fence.wide with round := r }
theorem room_WF (r : Option Nat) (n : Nat) : (WF r).room n := fun _ h => by simp [WF, Fence.wide] at h
theorem fenced_WF (P : Program) (r : Option Nat) : Machine.fenced P (WF r) = Machine.fenced P Fence.wide := rfl
theorem callsIn_WF {P : Program} {r : Option Nat} {n : Nat} {f : FuncId} {args : Array Value} {w : World} {R : Ending → World → Prop} (h : Calls P f args w R) : CallsIn (WF r) n P f args w R :=
  ⟨trivial, fun cs _ => (callsIn_wide (n := n).2 h).2 cs (room_wide _)⟩
theorem callsIn_of_WF {P : Program} {r : Option Nat} {n : Nat} {f : FuncId} {args : Array Value} {w : World} {R : Ending → World → Prop} (h : CallsIn (WF r) n P f args w R) : Calls P f args w R :=
  callsIn_wide (n := n).1 ⟨trivial, fun cs _ => h.2 cs (room_WF _ _)⟩
theorem roundIn_WF {P : Program} {r r' : Option Nat} {n n' : Nat} {l : Nat} {f : FuncId} {tmps : Array Value} {assign body : Code} {w : World} {R : Ending → World → Prop} (h : RoundIn (WF r) n P l f tmps assign body w R) : RoundIn (WF r') n' P l f tmps assign body w R :=
  ⟨trivial, fun c cs _ => h.2 c cs (room_WF _ _)⟩

/-- The operation gives a value, in whatever world, and leaves the world alone. -/
def DoesP (P : Program) (o : Oper) (ρ : Operand → Value) (K : Value → Pr) (w : World) : Prop :=
  ∃ v, (∀ w', (execOp ρ o).run P w' = .ok (.value v) w') ∧ K v w
/-- It gives a value and leaves the world alone. -/
def DoesQ (P : Program) (o : Oper) (ρ : Operand → Value) (K : Value → Pr) (w : World) : Prop :=
  ∃ v, (execOp ρ o).run P w = .ok (.value v) w ∧ K v w
def Does (P : Program) (o : Oper) (ρ : Operand → Value) (K : Value → Pr) (w : World) : Prop :=
  ∀ (r : Option Nat) (a : Act) (next : Act → World → Prop) (Q : Exit → Act → World → Prop), (∀ v w', K v w' → next (a.put o.dst v) w') → o.uponIn (WF r) 0 P a next Q ((execOp ρ o).run P w)

theorem DoesP.q {P : Program} {o : Oper} {ρ : Operand → Value} {K : Value → Pr} {w : World} (h : DoesP P o ρ K w) : DoesQ P o ρ K w :=
  let ⟨v, hv, hk⟩ := h; ⟨v, hv w, hk⟩
theorem DoesQ.does {P : Program} {o : Oper} {ρ : Operand → Value} {K : Value → Pr} {w : World} (h : DoesQ P o ρ K w) : Does P o ρ K w := by
  obtain ⟨v, hv, hk⟩ := h
  intro r a next Q hn
  rw [hv]
  exact hn _ _ hk
theorem does_value {P : Program} {o : Oper} {ρ : Operand → Value} {K : Value → Pr} {w w' : World} {v : Value} (h : (execOp ρ o).run P w = .ok (.value v) w') (hk : K v w') : Does P o ρ K w := by
  intro r a next Q hn
  rw [h]
  exact hn _ _ hk
theorem does_skip {P : Program} {o : Oper} {ρ : Operand → Value} {K : Value → Pr} {w w' : World} (h : (execOp ρ o).run P w = .ok .skip w') (hk : K undef w') : Does P o ρ K w := by
  intro r a next Q hn
  rw [h]
  exact hn _ _ hk
theorem does_enter {P : Program} {o : Oper} {ρ : Operand → Value} {K : Value → Pr} {w w' : World} {f : FuncId} {args : Array Value} (h : (execOp ρ o).run P w = .ok (.enter f args) w')
    (hk : Calls P f args w' fun | .returned v, w'' => K v w'' | _, _ => False) : Does P o ρ K w := by
  intro r a next Q hn
  rw [h]
  refine ⟨fun h => by simp [WF, Fence.wide] at h, (callsIn_WF (hk.mono fun e w'' he => ?_))⟩
  cases e with
  | returned v => exact hn _ _ he
  | panicked c => exact he.elim
  | outgrown => exact he.elim

theorem does_round {P : Program} {o : Oper} {ρ : Operand → Value} {K : Value → Pr} {w w' : World} {l : Nat} {f : FuncId} {tmps : Array Value} {as bd : Code} (h : (execOp ρ o).run P w = .ok (.round l f tmps as bd) w')
    (hk : RoundIn (WF none) 0 P l f tmps as bd w' fun | .returned v, w'' => K v w'' | _, _ => False) : Does P o ρ K w := by
  intro r a next Q hn
  rw [h]
  refine ⟨fun h => by simp [WF, Fence.wide] at h, (roundIn_WF hk).mono fun e w'' he => ?_⟩
  cases e with
  | returned v => exact hn _ _ he
  | panicked c => exact he.elim
  | outgrown => exact he.elim

/-! ### kinds of types -/
def kd (P : Program) (t : TypeId) : Option Kd :=
  match P.underlying t with
  | some .bool => some .b
  | some (.int k) => some (.i k)
  | some .string => some .s
  | some (.pointer _) => some .p
  | some (.slice _) => some .sl
  | some (.map _ _) => some .m
  | some (.interface _) => some .v
  | some (.func _ _ _) => some .v
  | _ => none

def kds (P : Program) : Nat → TypeId → Option (List Kd)
  | 0, _ => none
  | d + 1, t => match P.underlying t with
    | some (.struct fs) => fs.toList.foldr (fun f acc => match kds P d f.type, acc with | some a, some b => some (a ++ b) | _, _ => none) (some [])
    | some (.array n e) => match kds P d e with
      | some a => some (List.replicate n a).flatten
      | none => none
    | _ => match kd P t with
      | some k => some [k]
      | none => none

def isAggB (P : Program) (t : TypeId) : Bool :=
  match P.underlying t with
  | some (.struct _) => true
  | some (.array _ _) => true
  | _ => false

/-! ### operations that compute only -/
def intD (op : BinOp) (k : IntKind) (a b : Int) (K : Value → Pr) : Pr :=
  match op with
  | .add => K (.int k (k.wrap (a + b)))
  | .sub => K (.int k (k.wrap (a - b)))
  | .mul => K (.int k (k.wrap (a * b)))
  | .quo => Req (b ≠ 0) (K (.int k (k.wrap (a.tdiv b))))
  | .rem => Req (b ≠ 0) (K (.int k (a.tmod b)))
  | .and => K (.int k (k.wrap ((BitVec.ofInt k.bits a) &&& (BitVec.ofInt k.bits b)).toNat))
  | .or => K (.int k (k.wrap ((BitVec.ofInt k.bits a) ||| (BitVec.ofInt k.bits b)).toNat))
  | .xor => K (.int k (k.wrap ((BitVec.ofInt k.bits a) ^^^ (BitVec.ofInt k.bits b)).toNat))
  | .andNot => K (.int k (k.wrap ((BitVec.ofInt k.bits a) &&& ~~~(BitVec.ofInt k.bits b)).toNat))
  | .eql => K (.bool (a == b))
  | .neq => K (.bool (a != b))
  | .lss => K (.bool (a < b))
  | .leq => K (.bool (a ≤ b))
  | .gtr => K (.bool (a > b))
  | .geq => K (.bool (a ≥ b))
  | .shl => Req (0 ≤ b) (K (.int k (k.wrap (a * 2 ^ (min b.toNat k.bits)))))
  | .shr => Req (0 ≤ b) (K (.int k (a.fdiv (2 ^ (min b.toNat k.bits)))))

def seq (a b : ByteArray) : Bool := a.toList == b.toList
def slt (a b : ByteArray) : Bool := Op.bytesLess a.toList b.toList
def strD (op : BinOp) (a b : ByteArray) (K : Value → Pr) : Pr :=
  match op with
  | .add => Req (((a.size + b.size : Nat) : Int) ≤ 9223372036854775807) (K (.string (a ++ b)))
  | .eql => K (.bool (seq a b))
  | .neq => K (.bool (!(seq a b)))
  | .lss => K (.bool (slt a b))
  | .leq => K (.bool (slt a b || seq a b))
  | .gtr => K (.bool (!(slt a b || seq a b)))
  | .geq => K (.bool (!(slt a b)))
  | _ => F

def eqD (op : BinOp) (b : Bool) (K : Value → Pr) : Pr :=
  match op with
  | .eql => K (.bool b)
  | .neq => K (.bool (!b))
  | _ => F

def eq1 (P : Program) (t : TypeId) (x y : Value) : Option Bool :=
  match P.underlying t with
  | some .bool => match x with
    | .bool a => match y with | .bool b => some (a == b) | _ => none
    | _ => none
  | some (.int _) => match x with
    | .int k a => match y with | .int k' b => if k = k' then some (a == b) else none | _ => none
    | _ => none
  | some .string => match x with
    | .string a => match y with | .string b => some (seq a b) | _ => none
    | _ => none
  | _ => none

/-- The fields of two structs held against each other; those that are structs by 'rec'. -/
def eqG (P : Program) (rec : TypeId → List Value → List Value → Option Bool) (xs ys : List Value) : List Field → Option Bool
  | [] => some true
  | f :: fs => match decide (f.name ≠ "_") with
    | true => match (match isAggB P f.type with
      | false => match xs[f.offset]? with
        | some x => match ys[f.offset]? with
          | some y => eq1 P f.type x y
          | none => none
        | none => none
      | true => match P.info? f.type with
        | some i => rec f.type ((xs.drop f.offset).take i.size) ((ys.drop f.offset).take i.size)
        | none => none) with
      | some b => match eqG P rec xs ys fs with
        | some r => some (b && r)
        | none => none
      | none => none
    | false => none
def eqT (P : Program) : Nat → TypeId → List Value → List Value → Option Bool
  | 0, _, _, _ => none
  | n + 1, t, xs, ys => match P.underlying t with
    | some (.struct fs) => match P.stoodInHeld t with
      | false => eqG P (eqT P n) xs ys fs.toList
      | true => none
    | _ => none

def isNilI : Value → Option Bool
  | .nilIface => some true
  | .iface _ _ => some false
  | _ => none
def isNilF : Value → Option Bool
  | .nilFunc => some true
  | .func _ _ _ => some false
  | _ => none

/-- Two arrays' cells held against each other, each a scalar. -/
def eqL (P : Program) (t : TypeId) : List Value → List Value → Option Bool
  | [], l => match l with
    | [] => some true
    | _ :: _ => none
  | x :: xs, l => match l with
    | y :: ys => match eq1 P t x y with
      | some b => match eqL P t xs ys with
        | some r => some (b && r)
        | none => none
      | none => none
    | [] => none
def EqA (P : Program) (t : TypeId) (n : Nat) (xs ys : List Value) (K : Bool → Pr) : Pr := fun w => xs.length = n ∧ ∃ b, eqL P t xs ys = some b ∧ K b w

/-- What an interface value (a function value) held against nil tells. -/
def NilI (x : Value) (K : Bool → Pr) : Pr := fun w => ∃ b, isNilI x = some b ∧ K b w
def NilF (x : Value) (K : Bool → Pr) : Pr := fun w => ∃ b, isNilF x = some b ∧ K b w

/-- Two pointers, one of them nil, held against each other. -/
def PtrE (a b : Option Addr) (K : Bool → Pr) : Pr :=
  match b with
  | none => K a.isNone
  | some _ => match a with
    | none => K false
    | some _ => F

def isConst : Operand → Bool
  | .const _ => true
  | _ => false

def binD (P : Program) (op : BinOp) (t : TypeId) (yc : Bool) (x y : Value) (K : Value → Pr) (w : World) : Prop :=
  match y with
  | .int k' b => match x with
    | .int k a => match op with
      | .shl => intD .shl k a b K w
      | .shr => intD .shr k a b K w
      | op => match decide (k = k') with
        | true => intD op k a b K w
        | false => F w
    | _ => F w
  | .string b => match x with
    | .string a => strD op a b K w
    | _ => F w
  | .bool b => match P.underlying t with
    | some .bool => match x with
      | .bool a => eqD op (a == b) K w
      | _ => F w
    | _ => F w
  | .pointer b => match P.underlying t with
    | some (.pointer _) => match x with
      | .pointer a => PtrE a b (fun r => eqD op r K) w
      | _ => F w
    | _ => F w
  | .slice b _ _ => match P.underlying t with
    | some (.slice _) => match b with
      | none => match x with
        | .slice a _ _ => eqD op a.isNone K w
        | _ => F w
      | some _ => F w
    | _ => F w
  | .map b => match P.underlying t with
    | some (.map _ _) => match b with
      | none => match x with
        | .map a => eqD op a.isNone K w
        | _ => F w
      | some _ => F w
    | _ => F w
  | .nilIface => match yc with
    | true => match P.underlying t with
      | some (.interface _) => NilI x (fun b => eqD op b K) w
      | _ => F w
    | false => F w
  | .nilFunc => match P.underlying t with
    | some (.func _ _ _) => NilF x (fun b => eqD op b K) w
    | _ => F w
  | .agg ys => match x with
    | .agg xs => match !(P.eqGuardType P.depth t) && !(P.stoodInHeld t) with
      | true => match P.underlying t with
        | some (.struct fs) => match eqG P (eqT P 4) xs.toList ys.toList fs.toList with
          | some b => eqD op b K w
          | none => F w
        | some (.array n e) => match P.info? e with
          | some inf => match decide (inf.size = 1) && !(isAggB P e) with
            | true => EqA P e n xs.toList ys.toList (fun b => eqD op b K) w
            | false => F w
          | none => F w
        | _ => F w
      | false => F w
    | _ => F w
  | _ => F w

theorem run_eqGuard_nagg {P : Program} {w : World} (op : BinOp) (t : TypeId) (x y : Operand) (a b : Value) (h1 : ∀ z, b ≠ .agg z) (h2 : b = .nilIface → isConst y = true) : (eqGuard op t x y a b).run P w = .ok () w := by
  cases op <;> simp only [eqGuard] <;> cases b <;> first
    | rfl
    | (exact absurd rfl (h1 _))
    | (cases a <;> first
        | rfl
        | (have hc := h2 rfl
           cases y <;> simp [isConst] at hc
           simp))

theorem int_D {P : Program} {op : BinOp} {k : IntKind} {a b : Int} {K : Value → Pr} {w : World} (h : intD op k a b K w) (t : TypeId) : ∃ v, (∀ w', (binOp op t (.int k a) (.int k b)).run P w' = .ok v w') ∧ K v w := by
  cases op <;> simp only [intD, Req] at h
  case shl => exact ⟨_, fun w' => by simp only [binOp, Op.shift]; rw [if_neg (by omega)]; rfl, h.2⟩
  case shr => exact ⟨_, fun w' => by simp only [binOp, Op.shift]; rw [if_neg (by omega)]; rfl, h.2⟩
  case quo => exact ⟨_, fun w' => by simp [binOp, Op.intDiv, h.1], h.2⟩
  case rem => exact ⟨_, fun w' => by simp [binOp, Op.intDiv, h.1], h.2⟩
  all_goals exact ⟨_, fun w' => by simp [binOp, Op.intArith, Op.intBits, Op.intCmp], h⟩

theorem str_D {P : Program} {op : BinOp} {a b : ByteArray} {K : Value → Pr} {w : World} (h : strD op a b K w) (t : TypeId) : ∃ v, (∀ w', (binOp op t (.string a) (.string b)).run P w' = .ok v w') ∧ K v w := by
  cases op <;> simp only [strD, Req, F] at h <;> first
    | exact h.elim
    | exact ⟨_, fun w' => by simp only [binOp, Op.stringOp]; rw [if_neg (by simp only [IntKind.max, IntKind.signed, IntKind.bits]; omega)]; rfl, h.2⟩
    | exact ⟨_, fun w' => rfl, h⟩

theorem eq_D {P : Program} {op : BinOp} {b : Bool} {K : Value → Pr} {w : World} (h : eqD op b K w) (t : TypeId) (x y : Value) (hb : ∀ w', (Op.equal t x y).run P w' = .ok b w')
    (he : binOp .eql t x y = (do pure (.bool (← Op.equal t x y)))) (hn : binOp .neq t x y = (do pure (.bool (!(← Op.equal t x y))))) :
    ∃ v, (∀ w', (binOp op t x y).run P w' = .ok v w') ∧ K v w := by
  cases op <;> simp only [eqD, F] at h <;> first
    | exact h.elim
    | exact ⟨_, fun w' => by rw [he]; simp [hb], h⟩
    | exact ⟨_, fun w' => by rw [hn]; simp [hb], h⟩

theorem eq1_run {P : Program} {t : TypeId} {x y : Value} {b : Bool} (h : eq1 P t x y = some b) (d : Nat) (w : World) : (Op.equalIn (d + 1) t x y).run P w = .ok b w := by
  unfold eq1 at h
  split at h
  · rename_i hu
    split at h <;> (try split at h) <;> simp_all [run_equalIn_bool]
  · rename_i hu
    split at h <;> (try split at h) <;> (try split at h) <;> simp_all [run_equalIn_int _ _ _ _ _ _ _ hu]
  · rename_i hu
    split at h <;> (try split at h) <;> simp_all [run_equalIn_string, seq]
  · cases h

theorem run_part_one {P : Program} {t : TypeId} {cs : Array Value} {off : Nat} {v : Value} (hg : isAggB P t = false) (hu : ∃ d, P.underlying t = some d) (h : cs[off]? = some v) (w : World) : (part t cs off).run P w = .ok v w := by
  obtain ⟨d, hu⟩ := hu
  have hi : (isAgg t).run P w = .ok false w := by
    simp only [isAgg, Sem.run_bind, run_underlying hu, Result.andThen_ok]
    simp only [isAggB, hu] at hg
    split at hg <;> simp_all
  simp only [part, Sem.run_bind, hi, Result.andThen_ok, Bool.false_eq_true, if_false, h]
  rfl

theorem eq1_under {P : Program} {t : TypeId} {x y : Value} {b : Bool} (h : eq1 P t x y = some b) : ∃ d, P.underlying t = some d := by
  unfold eq1 at h
  split at h <;> first | exact ⟨_, ‹_›⟩ | cases h

theorem isAggB_desc {P : Program} {t : TypeId} (h : isAggB P t = true) : ∃ d, P.underlying t = some d ∧ ((∃ fs, d = .struct fs) ∨ ∃ n e, d = .array n e) := by
  unfold isAggB at h
  split at h
  · exact ⟨_, ‹_›, .inl ⟨_, rfl⟩⟩
  · exact ⟨_, ‹_›, .inr ⟨_, _, rfl⟩⟩
  · cases h
theorem run_part_agg {P : Program} {t : TypeId} {cs : Array Value} {off : Nat} {i : TypeInfo} (hg : isAggB P t = true) (hi : P.info? t = some i) (w : World) : (part t cs off).run P w = .ok (.agg ((cs.toList.drop off).take i.size).toArray) w := by
  obtain ⟨d, hd, hd'⟩ := isAggB_desc hg
  have hia : (isAgg t).run P w = .ok true w := by
    simp only [isAgg, Sem.run_bind, run_underlying hd, Result.andThen_ok]
    rcases hd' with ⟨fs, rfl⟩ | ⟨n, e, rfl⟩ <;> rfl
  have hsz : (Go.sizeOf t).run P w = .ok i.size w := by simp [Go.sizeOf, typeInfo, hi]
  simp only [part, Sem.run_bind, hia, if_true, hsz, Result.andThen_ok, Sem.run_pure]
  congr 2
  apply Array.toList_inj.1
  simp [Array.toList_extract, List.extract, List.take_drop]

theorem eqG_run {P : Program} {rec : TypeId → List Value → List Value → Option Bool} (d : Nat) (hrec : ∀ t xs ys b, rec t xs ys = some b → ∀ w, (Op.equalIn (d + 1) t (.agg xs.toArray) (.agg ys.toArray)).run P w = .ok b w) {xs ys : Array Value} :
    ∀ {fs : List Field} {b : Bool}, eqG P rec xs.toList ys.toList fs = some b → ∀ w, (Op.eqFields (d + 1) xs ys fs).run P w = .ok b w
  | [], b, h, w => by
    simp only [eqG, Option.some.injEq] at h
    subst h
    rfl
  | f :: fs, b, h, w => by
    simp only [eqG] at h
    split at h
    · rename_i hc
      simp only [decide_eq_true_eq] at hc
      split at h
      · rename_i b1 hb1
        split at h
        · rename_i r hr
          simp only [Option.some.injEq] at h
          subst h
          have ih := eqG_run d hrec hr
          split at hb1
          · rename_i hg
            split at hb1
            · rename_i x hx
              split at hb1
              · rename_i y hy
                have hu := eq1_under hb1
                simp only [Op.eqFields, if_pos hc, Sem.run_bind, run_part_one hg hu (by simpa using hx) w, run_part_one hg hu (by simpa using hy) w, Result.andThen_ok, eq1_run hb1, Sem.run_ite, ih]
                cases b1 <;> simp
              · cases hb1
            · cases hb1
          · rename_i hg
            split at hb1
            · rename_i i hi
              simp only [Op.eqFields, if_pos hc, Sem.run_bind, run_part_agg hg hi w, Result.andThen_ok, hrec _ _ _ _ hb1, Sem.run_ite, ih]
              cases b1 <;> simp
            · cases hb1
        · cases h
      · cases h
    · cases h
theorem eqT_run {P : Program} : ∀ {n d : Nat}, n ≤ d → ∀ {t : TypeId} {xs ys : List Value} {b : Bool}, eqT P n t xs ys = some b → ∀ w, (Op.equalIn (d + 1) t (.agg xs.toArray) (.agg ys.toArray)).run P w = .ok b w
  | 0, d, _, t, xs, ys, b, h, w => by simp [eqT] at h
  | n + 1, d, hd, t, xs, ys, b, h, w => by
    simp only [eqT] at h
    split at h
    · rename_i fs hu
      split at h
      · rename_i hs
        have hf : P.fieldsOf t = fs := by simp [Program.fieldsOf, hu]
        have hu' : P.underlying t = some (.struct (P.fieldsOf t)) := by rw [hf]; exact hu
        rw [run_equalIn_struct w d t _ _ hu' hs, hf]
        cases d with
        | zero => omega
        | succ d => exact eqG_run d (fun t' xs' ys' b' h' w' => eqT_run (n := n) (d := d) (by omega) h' w') (xs := xs.toArray) (ys := ys.toArray) (by simpa using h) w
      · cases h
    · cases h

theorem eqL_length {P : Program} {t : TypeId} : ∀ {xs ys : List Value} {b : Bool}, eqL P t xs ys = some b → xs.length = ys.length
  | [], l, b, h => by
    cases l <;> simp_all [eqL]
  | x :: xs, l, b, h => by
    cases l with
    | nil => simp [eqL] at h
    | cons y ys =>
      simp only [eqL] at h
      split at h
      · split at h
        · rename_i r hr
          simp [eqL_length hr]
        · cases h
      · cases h

theorem eqItems_run {P : Program} {t : TypeId} (d : Nat) (hg : isAggB P t = false) : ∀ {xs ys : List Value} {b : Bool}, eqL P t xs ys = some b → ∀ (X Y : Array Value) (k : Nat), (∀ j v, xs[j]? = some v → X[k + j]? = some v) → (∀ j v, ys[j]? = some v → Y[k + j]? = some v) →
    ∀ w, (Op.eqItems (d + 1) t 1 X Y (List.range' k xs.length)).run P w = .ok b w
  | [], l, b, h, X, Y, k, hx, hy, w => by
    cases l <;> simp_all [eqL, Op.eqItems]
  | x :: xs, l, b, h, X, Y, k, hx, hy, w => by
    cases l with
    | nil => simp [eqL] at h
    | cons y ys =>
      simp only [eqL] at h
      split at h
      · rename_i b1 hb1
        split at h
        · rename_i r hr
          simp only [Option.some.injEq] at h
          subst h
          have hu := eq1_under hb1
          have ih := eqItems_run d hg hr X Y (k + 1) (fun j v hj => by rw [show k + 1 + j = k + (j + 1) from by omega]; exact hx (j + 1) v (by simpa using hj)) (fun j v hj => by rw [show k + 1 + j = k + (j + 1) from by omega]; exact hy (j + 1) v (by simpa using hj))
          have h0 : X[k * 1]? = some x := by have := hx 0 x rfl; simpa using this
          have h1 : Y[k * 1]? = some y := by have := hy 0 y rfl; simpa using this
          simp only [List.length_cons, List.range'_succ, Op.eqItems, Sem.run_bind, run_part_one hg hu h0 w, run_part_one hg hu h1 w, Result.andThen_ok, eq1_run hb1, Sem.run_ite, ih]
          cases b1 <;> simp
        · cases h
      · cases h

end Go.Sx
