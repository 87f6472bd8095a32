/-
  All operations that compute only, under one name: 'pureD'; 'pureD_sound': they do so.
-/
import Derived.Test.YtmppjgddemlmdaaSxC
import Derived.Laws.Tables
set_option linter.unusedSimpArgs false
set_option linter.unusedVariables false
namespace Go.Sx
open Go

def okNil : Value → Bool
  | .pointer none => false
  | .nilIface => false
  | .nilFunc => false
  | .func (.method _) _ _ => false
  | _ => true

def NnV (v : Value) (K : Value → Pr) : Pr := fun w => okNil v = true ∧ K v w

def placeS (P : Program) (t : TypeId) (i : Nat) : Option (Nat × TypeId) :=
  match P.underlying t with
  | some (.struct fs) => match fs[i]? with
    | some f => some (f.offset, f.type)
    | none => none
  | some (.array _ e) => match P.info? e with
    | some inf => some (i * inf.size, e)
    | none => none
  | _ => none

def zeroOf (P : Program) (t : TypeId) : Option Value :=
  match P.info? t with
  | some i => i.zero
  | none => none

theorem run_zeroOf {P : Program} {t : TypeId} {z : Value} (h : zeroOf P t = some z) (w : World) : (zeroValue t).run P w = .ok z w := by
  unfold zeroOf at h
  split at h
  · rename_i i hi
    simp [zeroValue, typeInfo, hi, h]
  · cases h

theorem run_sizeOf' {P : Program} {t : TypeId} {i : TypeInfo} (h : P.info? t = some i) (w : World) : (sizeOf t).run P w = .ok i.size w := by
  simp [sizeOf, typeInfo, h]

def evs (ρ : Operand → Value) : List (Nat × Operand) → List (Nat × Value)
  | [] => []
  | (i, x) :: r => (i, ρ x) :: evs ρ r

theorem evs_eq (ρ : Operand → Value) (l : Array (Nat × Operand)) : (l.map fun (i, x) => (i, ρ x)).toList = evs ρ l.toList := by
  simp only [Array.toList_map]
  generalize l.toList = l
  induction l with
  | nil => rfl
  | cons p l ih => obtain ⟨i, x⟩ := p; simp only [List.map_cons, evs, ih]

def placesOf (P : Program) : List Field → Option (List (Nat × Nat))
  | [] => some []
  | f :: fs => match P.info? f.type with
    | some i => match placesOf P fs with
      | some r => some ((f.offset, i.size) :: r)
      | none => none
    | none => none

theorem placesOf_mapM {P : Program} : ∀ (fs : List Field), fs.mapM (fun f => (P.info? f.type).map fun i => (f.offset, i.size)) = placesOf P fs
  | [] => rfl
  | f :: fs => by
    simp only [List.mapM_cons, placesOf, placesOf_mapM fs, Option.bind_eq_bind, Option.pure_def]
    cases P.info? f.type with
    | none => rfl
    | some i => cases placesOf P fs <;> rfl

theorem placesOf_get {P : Program} : ∀ {fs : List Field} {r : List (Nat × Nat)}, placesOf P fs = some r → ∀ {i : Nat} {f : Field} {inf : TypeInfo}, fs[i]? = some f → P.info? f.type = some inf → r[i]? = some (f.offset, inf.size)
  | [], r, h, i, f, inf, hf, hi => by simp at hf
  | g :: fs, r, h, i, f, inf, hf, hi => by
    simp only [placesOf] at h
    split at h
    · rename_i j hj
      split at h
      · rename_i q hq
        simp only [Option.some.injEq] at h
        subst h
        cases i with
        | zero => simp only [List.getElem?_cons_zero, Option.some.injEq] at hf; subst hf; rw [hj] at hi; simp only [Option.some.injEq] at hi; subst hi; rfl
        | succ i => simp only [List.getElem?_cons_succ] at hf ⊢; exact placesOf_get hq hf hi
      · cases h
    · cases h

def buildD (P : Program) (t : TypeId) (parts : List (Nat × Value)) (K : Value → Pr) (w : World) : Prop :=
  match zeroOf P t with
  | some z => match P.underlying t with
    | some (.struct fs) => match placesOf P fs.toList with
      | some _ => fillD P (placeS P t) parts z.cells.toList (fun r => K (.agg r.toArray)) w
      | none => F w
    | some (.array _ e) => match P.info? e with
      | some _ => fillD P (placeS P t) parts z.cells.toList (fun r => K (.agg r.toArray)) w
      | none => F w
    | _ => F w
  | none => F w

theorem buildD_sound {P : Program} {t : TypeId} {parts : Array (Nat × Value)} {K : Value → Pr} {w : World} (h : buildD P t parts.toList K w) :
    ∃ v, (∀ w', (Instr.build t parts).run P w' = .ok v w') ∧ K v w := by
  simp only [buildD] at h
  split at h
  · rename_i z hz
    split at h
    · rename_i fs hu
      split at h
      · rename_i pl hpl
        obtain ⟨r, hr, hk⟩ := fillD_sound (place' := fun i => pl[i]?) (fun i off u inf hp hi => by
          simp only [placeS, hu] at hp
          split at hp
          · rename_i f hf
            simp only [Option.some.injEq, Prod.mk.injEq] at hp
            obtain ⟨rfl, rfl⟩ := hp
            exact placesOf_get hpl (by simpa using hf) hi
          · cases hp) h
        refine ⟨_, fun w' => ?_, hk⟩
        have hm := run_places w' _ _ ((placesOf_mapM _).trans hpl)
        simp only [Array.toArray_toList] at hr
        simp [Instr.build, run_underlying hu, run_zeroOf hz, Array.mapM_eq_mapM_toList, hm, hr]
      · exact h.elim
    · rename_i n e hu
      split at h
      · rename_i inf hinf
        obtain ⟨r, hr, hk⟩ := fillD_sound (place' := fun i => some (i * inf.size, inf.size)) (fun i off u inf' hp hi => by
          simp only [placeS, hu, hinf, Option.some.injEq, Prod.mk.injEq] at hp
          obtain ⟨rfl, rfl⟩ := hp
          rw [hinf] at hi
          simp only [Option.some.injEq] at hi
          subst hi
          rfl) h
        refine ⟨_, fun w' => ?_, hk⟩
        simp only [Instr.build, Sem.run_bind, run_zeroOf hz, Result.andThen_ok, run_underlying hu, run_sizeOf' hinf]
        simp only [Array.toArray_toList] at hr
        rw [hr]
        rfl
      · exact h.elim
    · exact h.elim
  · exact h.elim

def fieldD (P : Program) (t : TypeId) (x : Value) (i : Nat) (K : Value → Pr) (w : World) : Prop :=
  match P.underlying t with
  | some (.struct fs) => match fs[i]? with
    | some f => match x with
      | .agg cs => match P.info? f.type with
        | some inf => match P.underlying f.type with
          | some _ => match isAggB P f.type with
            | true => K (.agg ((cs.toList.drop f.offset).take inf.size).toArray) w
            | false => match cs.toList[f.offset]? with
              | some v => K v w
              | none => F w
          | none => F w
        | none => F w
      | _ => F w
    | none => F w
  | _ => F w

def fieldAddrD (P : Program) (t : TypeId) (x : Value) (i : Nat) (K : Value → Pr) (w : World) : Prop :=
  match P.underlying t with
  | some (.struct fs) => match fs[i]? with
    | some f => match x with
      | .pointer p => match P.info? f.type with
        | some inf => match decide (inf.size = 0) with
          | true => F w
          | false => Nn p (fun a => K (.pointer (some (a.add f.offset)))) w
        | none => F w
      | _ => F w
    | none => F w
  | _ => F w

def indexAddrD (P : Program) (t : TypeId) (x i : Value) (K : Value → Pr) (w : World) : Prop :=
  match i with
  | .int _ n => match P.underlying t with
    | some (.slice e) => match x with
      | .slice p l c => match P.info? e with
        | some inf => Ix ⟨p, l, c⟩ n inf.size (fun a => K (.pointer (some a))) w
        | none => F w
      | _ => F w
    | some (.array len e) => match x with
      | .pointer p => match P.info? e with
        | some inf => Nn p (fun a => IxR a len n inf.size (fun a => K (.pointer (some a)))) w
        | none => F w
      | _ => F w
    | _ => F w
  | _ => F w

/-- A value that came untyped, read as its type says. -/
def Ty (k : Kd) (v : Value) (K : k.T → Pr) : Pr := fun w => match k.dec v with
  | some x => K x w
  | none => F w
def TyN (v : Value) (K : List Value → Pr) : Pr := fun w => match v with
  | .agg cs => K cs.toList w
  | _ => F w
/-- Whether a type's values are read as its kind says (where they came untyped). -/
def tyD (P : Program) (t : TypeId) (v : Value) (K : Value → Pr) (w : World) : Prop :=
  match isAggB P t with
  | true => TyN v (fun l => K (.agg l.toArray)) w
  | false => match kd P t with
    | some k => match k with
      | .v => K v w
      | k => Ty k v (fun x => K (k.enc x)) w
    | none => K v w

theorem tyD_elim {P : Program} {t : TypeId} {v : Value} {K : Value → Pr} {w : World} (h : tyD P t v K w) : K v w := by
  simp only [tyD] at h
  split at h
  · simp only [TyN] at h
    split at h
    · simpa using h
    · exact h.elim
  · split at h
    · split at h
      · exact h
      · rename_i k _ hk _
        simp only [Ty] at h
        split at h
        · rename_i x hx
          rw [Kd.dec_eq hx]
          exact h
        · exact h.elim
    · exact h

def indexD (P : Program) (t : TypeId) (x i : Value) (K : Value → Pr) (w : World) : Prop :=
  match i with
  | .int _ n => match P.underlying t with
    | some .string => match x with
      | .string s => IxS s n (fun c => K (.int .u8 c)) w
      | _ => F w
    | some (.array len e) => match x with
      | .agg cs => match P.info? e with
        | some inf => match P.underlying e with
          | some _ => match isAggB P e with
            | false => IxG cs.toList len n inf.size (fun v => tyD P e v K) w
            | true => F w
          | none => F w
        | none => F w
      | _ => F w
    | _ => F w
  | _ => F w

def minmaxD (mx : Bool) (x y : Value) (K : Value → Pr) (w : World) : Prop :=
  match x with
  | .int k a => match y with
    | .int _ b => match mx with
      | true => K (.int k (if b > a then b else a)) w
      | false => K (.int k (if b < a then b else a)) w
    | _ => F w
  | .string a => match y with
    | .string b => match mx with
      | true => K (.string (if !(slt a b) then a else b)) w
      | false => K (.string (if slt a b || seq a b then a else b)) w
    | _ => F w
  | _ => F w

def lenD (P : Program) (t : TypeId) (x : Value) (K : Value → Pr) (w : World) : Prop :=
  match P.underlying t with
  | some .string => match x with
    | .string s => K (.int .i64 s.size) w
    | _ => F w
  | some (.slice _) => match x with
    | .slice _ n _ => K (.int .i64 n) w
    | _ => F w
  | some (.array n _) => K (.int .i64 n) w
  | _ => F w

def capD (P : Program) (t : TypeId) (x : Value) (K : Value → Pr) (w : World) : Prop :=
  match P.underlying t with
  | some (.slice _) => match x with
    | .slice _ _ n => K (.int .i64 n) w
    | _ => F w
  | some (.array n _) => K (.int .i64 n) w
  | _ => F w

def nilCheckD (x : Value) (K : Value → Pr) (w : World) : Prop :=
  match x with
  | .pointer p => Nn p (fun a => K (.pointer (some a))) w
  | v => NnV v K w

def pureD (P : Program) (o : Oper) (ρ : Operand → Value) (K : Value → Pr) (w : World) : Prop :=
  match o.op with
  | .move x => K (ρ x) w
  | .assign x => K (ρ x) w
  | .pick c a b => match ρ c with
    | .bool t => Br t (K (ρ a)) (K (ρ b)) w
    | _ => F w
  | .nilCheck x => nilCheckD (ρ x) K w
  | .binOp op t x y _ => binD P op t (isConst y) (ρ x) (ρ y) K w
  | .unOp op _ x => unD op (ρ x) K w
  | .convert src dst x => convD P src dst (ρ x) K w
  | .makeInterface t x => match P.concrete t with
    | true => K (.iface t (ρ x)) w
    | false => F w
  | .makeFunc fn first cap => K (.func fn (first.toList.map ρ).toArray (cap.toList.map ρ).toArray) w
  | .build t parts => buildD P t (evs ρ parts.toList) K w
  | .slice t x lo hi mx => match mx with
    | none => sliceD P t (ρ x) (match lo with | some l => some (ρ l) | none => none) (match hi with | some l => some (ρ l) | none => none) K w
    | some m => slice3D P t (ρ x) (match lo with | some l => some (ρ l) | none => none) (match hi with | some l => some (ρ l) | none => none) (ρ m) K w
  | .field t x i => fieldD P t (ρ x) i K w
  | .fieldAddr t x i => fieldAddrD P t (ρ x) i K w
  | .indexAddr t x i => indexAddrD P t (ρ x) (ρ i) K w
  | .index t x i => indexD P t (ρ x) (ρ i) K w
  | .extract x i => match ρ x with
    | .tuple vs => match vs.toList[i]? with
      | some v => tyD P o.type v K w
      | none => F w
    | _ => F w
  | .sliceToArrayPointer t x => match P.underlying t with
    | some (.array n _) => match ρ x with
      | .slice a l _ => Req (n ≤ l) (Nn a (fun a => K (.pointer (some a)))) w
      | _ => F w
    | _ => F w
  | .call c => match c.callee with
    | .builtin b => match b with
      | .len => match c.argTypes.toList with
        | [t] => match c.args.toList with
          | [x] => lenD P t (ρ x) K w
          | _ => F w
        | _ => F w
      | .cap => match c.argTypes.toList with
        | [t] => match c.args.toList with
          | [x] => capD P t (ρ x) K w
          | _ => F w
        | _ => F w
      | .max => match c.args.toList with
        | [x, y] => minmaxD true (ρ x) (ρ y) K w
        | _ => F w
      | .min => match c.args.toList with
        | [x, y] => minmaxD false (ρ x) (ρ y) K w
        | _ => F w
      | _ => F w
    | _ => F w
  | _ => F w

theorem run_isAgg' {P : Program} {t : TypeId} {d : TypeDesc} (hu : P.underlying t = some d) (w : World) : (isAgg t).run P w = .ok (isAggB P t) w := by
  simp only [isAgg, Sem.run_bind, run_underlying hu, Result.andThen_ok, isAggB, hu]
  cases d <;> rfl

theorem fieldD_sound {P : Program} {t : TypeId} {x : Value} {i : Nat} {K : Value → Pr} {w : World} (h : fieldD P t x i K w) :
    ∃ v, (∀ w', (Instr.field t x i).run P w' = .ok v w') ∧ K v w := by
  simp only [fieldD] at h
  split at h
  · rename_i fs hu
    split at h
    · rename_i f hf
      cases x <;> simp only [F] at h <;> first | exact h.elim | skip
      rename_i cs
      split at h
      · rename_i inf hinf
        split at h
        · rename_i d hd
          split at h
          · rename_i hg
            refine ⟨_, fun w' => ?_, h⟩
            simp only [Instr.field, Sem.run_bind, run_underlying hu, Result.andThen_ok, hf, asAgg, Sem.run_pure, part, run_isAgg' hd, hg, if_true, run_sizeOf' hinf]
            congr 2
            apply Array.toList_inj.1
            simp [Array.toList_extract, List.extract, List.take_drop]
          · rename_i hg
            split at h
            · rename_i v hv
              refine ⟨_, fun w' => ?_, h⟩
              have hv' : cs[f.offset]? = some v := by simpa using hv
              simp only [Instr.field, Sem.run_bind, run_underlying hu, Result.andThen_ok, hf, asAgg, Sem.run_pure, part, run_isAgg' hd, hg, Bool.false_eq_true, if_false, hv']
            · exact h.elim
        · exact h.elim
      · exact h.elim
    · exact h.elim
  · exact h.elim

theorem fieldAddrD_sound {P : Program} {t : TypeId} {x : Value} {i : Nat} {K : Value → Pr} {w : World} (h : fieldAddrD P t x i K w) :
    ∃ v, (∀ w', (Instr.fieldAt t x i).run P w' = .ok v w') ∧ K v w := by
  simp only [fieldAddrD] at h
  split at h
  · rename_i fs hu
    split at h
    · rename_i f hf
      split at h
      · rename_i p
        split at h
        · rename_i inf hinf
          split at h
          · exact h.elim
          · rename_i hz
            cases p with
            | none => exact h.elim
            | some a =>
            refine ⟨_, fun w' => ?_, h⟩
            have hz' : inf.size ≠ 0 := by simpa using hz
            simp [Instr.fieldAt, run_underlying hu, hf, Instr.sureAddr, fieldPlace, run_sizeOf' hinf, hz']
        · exact h.elim
      · exact h.elim
    · exact h.elim
  · exact h.elim

theorem indexAddrD_sound {P : Program} {t : TypeId} {x i : Value} {K : Value → Pr} {w : World} (h : indexAddrD P t x i K w) :
    ∃ v, (∀ w', (Instr.indexAt t x i).run P w' = .ok v w') ∧ K v w := by
  simp only [indexAddrD] at h
  split at h
  · rename_i k n
    split at h
    · rename_i e hu
      split at h
      · rename_i p l c
        split at h
        · rename_i inf hinf
          simp only [Ix] at h
          split at h
          · rename_i a
            obtain ⟨h1, h2, h⟩ := h
            refine ⟨_, fun w' => ?_, h⟩
            simp only [Instr.indexAt, asIntOf, Sem.run_bind, Sem.run_pure, Result.andThen_ok, run_underlying hu, run_sizeOf' hinf]
            rw [if_pos ⟨h1, h2⟩]
            simp [run_sizeOf' hinf]
          · exact h.elim
        · exact h.elim
      · exact h.elim
    · rename_i len e hu
      split at h
      · rename_i p
        split at h
        · rename_i inf hinf
          cases p with
          | none => exact h.elim
          | some a =>
          obtain ⟨h1, h2, h⟩ := h
          refine ⟨_, fun w' => ?_, h⟩
          simp only [Instr.indexAt, asIntOf, Sem.run_bind, Sem.run_pure, Result.andThen_ok, run_underlying hu, run_sizeOf' hinf, Instr.sureAddr]
          rw [if_pos ⟨h1, h2⟩]
          simp [run_sizeOf' hinf]
        · exact h.elim
      · exact h.elim
    · exact h.elim
  · exact h.elim

theorem indexD_sound {P : Program} {t : TypeId} {x i : Value} {K : Value → Pr} {w : World} (h : indexD P t x i K w) :
    ∃ v, (∀ w', (Instr.index t x i).run P w' = .ok v w') ∧ K v w := by
  simp only [indexD] at h
  split at h
  · rename_i k n
    split at h
    · rename_i hu
      split at h
      · rename_i s
        obtain ⟨h1, b, hb, h⟩ := h
        refine ⟨_, fun w' => ?_, h⟩
        simp [Instr.index, asIntOf, run_underlying hu, h1, hb]
      · exact h.elim
    · rename_i len e hu
      split at h
      · rename_i cs
        split at h
        · rename_i inf hinf
          split at h
          · rename_i d hd
            split at h
            · rename_i hg
              obtain ⟨h0, h1, v, hv, h⟩ := h
              refine ⟨v, fun w' => ?_, tyD_elim h⟩
              have hv' : cs[n.toNat * inf.size]? = some v := by simpa using hv
              simp only [Instr.index, asIntOf, Sem.run_bind, Sem.run_pure, Result.andThen_ok, run_underlying hu, h0, h1, and_self, if_true, run_sizeOf' hinf, run_part_one hg ⟨d, hd⟩ hv' w']
            · exact h.elim
          · exact h.elim
        · exact h.elim
      · exact h.elim
    · exact h.elim
  · exact h.elim

theorem minmaxD_sound {P : Program} {mx : Bool} {x y : Value} {K : Value → Pr} {w : World} (h : minmaxD mx x y K w) (ts : Array TypeId) (t : TypeId) :
    ∃ v, (∀ w', (match mx with | true => Builtin.max_ ts t #[x, y] | false => Builtin.min_ ts t #[x, y]).run P w' = .ok v w') ∧ K v w := by
  simp only [minmaxD] at h
  split at h
  · split at h
    · split at h
      · exact ⟨_, fun w' => by simp [Builtin.max_, Builtin.max2], h⟩
      · exact ⟨_, fun w' => by simp [Builtin.min_, Builtin.min2], h⟩
    · exact h.elim
  · split at h
    · split at h
      · exact ⟨_, fun w' => by simp [Builtin.max_, Builtin.max2, Op.stringOp, asBool, slt], h⟩
      · exact ⟨_, fun w' => by simp [Builtin.min_, Builtin.min2, Op.stringOp, asBool, slt, seq], h⟩
    · exact h.elim
  · exact h.elim

theorem lenD_sound {P : Program} {t : TypeId} {x : Value} {K : Value → Pr} {w : World} (h : lenD P t x K w) (ty : TypeId) :
    ∃ v, (∀ w', (Builtin.len_ #[t] ty #[x]).run P w' = .ok v w') ∧ K v w := by
  simp only [lenD] at h
  split at h
  · rename_i hu
    split at h
    · exact ⟨_, fun w' => by simp [Builtin.len_, run_underlying hu, goInt], h⟩
    · exact h.elim
  · rename_i hu
    split at h
    · exact ⟨_, fun w' => by simp [Builtin.len_, run_underlying hu, goInt], h⟩
    · exact h.elim
  · rename_i hu
    exact ⟨_, fun w' => by simp [Builtin.len_, run_underlying hu, goInt], h⟩
  · exact h.elim

theorem capD_sound {P : Program} {t : TypeId} {x : Value} {K : Value → Pr} {w : World} (h : capD P t x K w) (ty : TypeId) :
    ∃ v, (∀ w', (Builtin.cap_ #[t] ty #[x]).run P w' = .ok v w') ∧ K v w := by
  simp only [capD] at h
  split at h
  · rename_i hu
    split at h
    · exact ⟨_, fun w' => by simp [Builtin.cap_, run_underlying hu, goInt], h⟩
    · exact h.elim
  · rename_i hu
    exact ⟨_, fun w' => by simp [Builtin.cap_, run_underlying hu, goInt], h⟩
  · exact h.elim

theorem convD_sound {P : Program} {src dst : TypeId} {x : Value} {K : Value → Pr} {w : World} (h : convD P src dst x K w) :
    ∃ v, (∀ w', (convert src dst x).run P w' = .ok v w') ∧ K v w := by
  simp only [convD] at h
  split at h
  · split at h
    · rename_i hd
      split at h
      · rename_i hs
        exact ⟨_, fun w' => by simp [convert, run_underlying hs, run_underlying hd, Conv.intToInt], h⟩
      · exact h.elim
    · exact h.elim
  · split at h
    · rename_i hd
      split at h
      · rename_i hs
        exact ⟨_, fun w' => by simp [convert, run_underlying hs, run_underlying hd], h⟩
      · exact h.elim
    · exact h.elim
  · exact h.elim

theorem unD_sound {P : Program} {op : UnOp} {x : Value} {K : Value → Pr} {w : World} (h : unD op x K w) :
    ∃ v, (∀ w', (Op.unary op x).run P w' = .ok v w') ∧ K v w := by
  simp only [unD] at h
  split at h
  · cases op <;> simp only [F] at h <;> first | exact h.elim | skip
    · exact ⟨_, fun w' => by simp [Op.unary, Op.intArith], h⟩
    · simp only [intD] at h
      exact ⟨_, fun w' => by simp only [Op.unary, Op.intBits]; rfl, h⟩
  · cases op <;> simp only [F] at h <;> first | exact h.elim | skip
    exact ⟨_, fun w' => by simp [Op.unary], h⟩
  · exact h.elim

end Go.Sx
