/-
  What one operation does, as words: the operations that compute only ('pureD'), and that they do so.
-/
import Derived.Test.YtmppjgddemlmdaaSxB
set_option linter.unusedSimpArgs false
set_option linter.unusedVariables false
namespace Go.Sx
open Go

theorem equal_at (t : TypeId) (x y : Value) : Op.equal t x y = Op.equalIn (9999 + 1) t x y := rfl
section
variable {P : Program} (w : World) (d : Nat)
theorem eqIn_pnil {t e : TypeId} (hu : P.underlying t = some (.pointer e)) (a : Option Addr) : (Op.equalIn (d + 1) t (.pointer a) (.pointer none)).run P w = .ok a.isNone w := by
  simp only [Op.equalIn, Sem.run_bind, run_underlying hu, Result.andThen_ok]
  cases a <;> rfl
theorem eqIn_nilp {t e : TypeId} (hu : P.underlying t = some (.pointer e)) (b : Addr) : (Op.equalIn (d + 1) t (.pointer none) (.pointer (some b))).run P w = .ok false w := by
  simp only [Op.equalIn, Sem.run_bind, run_underlying hu, Result.andThen_ok]
  rfl
theorem eqIn_snil {t e : TypeId} (hu : P.underlying t = some (.slice e)) (a : Option Addr) (l c l' c' : Nat) : (Op.equalIn (d + 1) t (.slice a l c) (.slice none l' c')).run P w = .ok a.isNone w := by
  simp only [Op.equalIn, Sem.run_bind, run_underlying hu, Result.andThen_ok]
  cases a <;> rfl
theorem eqIn_mnil {t k e : TypeId} (hu : P.underlying t = some (.map k e)) (a : Option Nat) : (Op.equalIn (d + 1) t (.map a) (.map none)).run P w = .ok a.isNone w := by
  simp only [Op.equalIn, Sem.run_bind, run_underlying hu, Result.andThen_ok]
  cases a <;> rfl
theorem eqIn_inil {t : TypeId} {ms : Array (String × TypeId)} (hu : P.underlying t = some (.interface ms)) {x : Value} {b : Bool} (hb : isNilI x = some b) : (Op.equalIn (d + 1) t x .nilIface).run P w = .ok b w := by
  simp only [Op.equalIn, Sem.run_bind, run_underlying hu, Result.andThen_ok]
  cases x <;> simp [isNilI] at hb <;> subst hb <;> rfl
theorem eqIn_fnil {t : TypeId} {ps rs : Array TypeId} {va : Bool} (hu : P.underlying t = some (.func ps rs va)) {x : Value} {b : Bool} (hb : isNilF x = some b) : (Op.equalIn (d + 1) t x .nilFunc).run P w = .ok b w := by
  simp only [Op.equalIn, Sem.run_bind, run_underlying hu, Result.andThen_ok]
  cases x <;> simp [isNilF] at hb <;> subst hb <;> rfl
end

theorem binD_sound {P : Program} {op : BinOp} {t : TypeId} {xo yo : Operand} {x y : Value} {K : Value → Pr} {w : World} (h : binD P op t (isConst yo) x y K w) :
    ∃ v, (∀ w', (do eqGuard op t xo yo x y; binOp op t x y : Sem Value).run P w' = .ok v w') ∧ K v w := by
  have key : ∀ (hg : ∀ w', (eqGuard op t xo yo x y).run P w' = .ok () w'), (∃ v, (∀ w', (binOp op t x y).run P w' = .ok v w') ∧ K v w) →
      ∃ v, (∀ w', (do eqGuard op t xo yo x y; binOp op t x y : Sem Value).run P w' = .ok v w') ∧ K v w := by
    intro hg ⟨v, hv, hk⟩
    exact ⟨v, fun w' => by simp only [Sem.run_bind, hg, Result.andThen_ok, hv], hk⟩
  cases y with
  | int k' b =>
    simp only [binD] at h
    cases x <;> simp only [F] at h <;> first | exact h.elim | skip
    rename_i k a
    refine key (fun w' => run_eqGuard_nagg _ _ _ _ _ _ (by simp) (by simp)) ?_
    cases op <;> simp only at h
    case shl => obtain ⟨v, hv, hk⟩ := int_D (P := P) h t; exact ⟨v, fun w' => hv w', hk⟩
    case shr => obtain ⟨v, hv, hk⟩ := int_D (P := P) h t; exact ⟨v, fun w' => hv w', hk⟩
    all_goals
      split at h
      · rename_i hk
        have hk : k = k' := by simpa using hk
        subst hk
        exact int_D (P := P) h t
      · exact h.elim
  | string b =>
    simp only [binD] at h
    cases x <;> simp only [F] at h <;> first | exact h.elim | skip
    exact key (fun w' => run_eqGuard_nagg _ _ _ _ _ _ (by simp) (by simp)) (str_D h t)
  | bool b =>
    simp only [binD] at h
    split at h
    · rename_i hu
      cases x <;> simp only [F] at h <;> first | exact h.elim | skip
      exact key (fun w' => run_eqGuard_nagg _ _ _ _ _ _ (by simp) (by simp)) (eq_D h t _ _ (fun w' => run_equal_bool w' t _ _ hu) rfl rfl)
    · exact h.elim
  | pointer b =>
    simp only [binD] at h
    split at h
    · rename_i e hu
      cases x <;> simp only [F] at h <;> first | exact h.elim | skip
      rename_i a
      cases b with
      | some b =>
        cases a with
        | some a => exact h.elim
        | none =>
          refine key (fun w' => run_eqGuard_nagg _ _ _ _ _ _ (by simp) (by simp)) (eq_D h t _ _ (fun w' => ?_) rfl rfl)
          rw [equal_at]; exact eqIn_nilp w' 9999 hu _
      | none =>
        refine key (fun w' => run_eqGuard_nagg _ _ _ _ _ _ (by simp) (by simp)) (eq_D h t _ _ (fun w' => ?_) rfl rfl)
        rw [equal_at]; exact eqIn_pnil w' 9999 hu _
    · exact h.elim
  | slice b l c =>
    simp only [binD] at h
    split at h
    · rename_i e hu
      cases b with
      | some b => exact h.elim
      | none =>
        cases x <;> simp only [F] at h <;> first | exact h.elim | skip
        rename_i a _ _
        refine key (fun w' => run_eqGuard_nagg _ _ _ _ _ _ (by simp) (by simp)) (eq_D h t _ _ (fun w' => ?_) rfl rfl)
        rw [equal_at]; exact eqIn_snil w' 9999 hu _ _ _ _ _
    · exact h.elim
  | map b =>
    simp only [binD] at h
    split at h
    · rename_i e hu
      cases b with
      | some b => exact h.elim
      | none =>
        cases x <;> simp only [F] at h <;> first | exact h.elim | skip
        rename_i a
        refine key (fun w' => run_eqGuard_nagg _ _ _ _ _ _ (by simp) (by simp)) (eq_D h t _ _ (fun w' => ?_) rfl rfl)
        rw [equal_at]; exact eqIn_mnil w' 9999 hu _
    · exact h.elim
  | nilIface =>
    simp only [binD] at h
    split at h
    · rename_i hc
      split at h
      · rename_i ms hu
        obtain ⟨b, hb, h⟩ := h
        have hx : binOp .eql t x .nilIface = (do pure (.bool (← Op.equal t x .nilIface))) ∧ binOp .neq t x .nilIface = (do pure (.bool (!(← Op.equal t x .nilIface)))) := by
          cases x <;> simp [isNilI] at hb <;> exact ⟨rfl, rfl⟩
        refine key (fun w' => run_eqGuard_nagg _ _ _ _ _ _ (by simp) (fun _ => hc)) (eq_D h t _ _ (fun w' => ?_) hx.1 hx.2)
        rw [equal_at]; exact eqIn_inil w' 9999 hu hb
      · exact h.elim
    · exact h.elim
  | nilFunc =>
    simp only [binD] at h
    split at h
    · rename_i ps rs va hu
      obtain ⟨b, hb, h⟩ := h
      have hx : binOp .eql t x .nilFunc = (do pure (.bool (← Op.equal t x .nilFunc))) ∧ binOp .neq t x .nilFunc = (do pure (.bool (!(← Op.equal t x .nilFunc)))) := by
        cases x <;> simp [isNilF] at hb <;> exact ⟨rfl, rfl⟩
      refine key (fun w' => run_eqGuard_nagg _ _ _ _ _ _ (by simp) (by simp)) (eq_D h t _ _ (fun w' => ?_) hx.1 hx.2)
      rw [equal_at]; exact eqIn_fnil w' 9999 hu hb
    · exact h.elim
  | agg ys =>
    simp only [binD] at h
    cases x <;> simp only [F] at h <;> first | exact h.elim | skip
    rename_i xs
    split at h
    · rename_i hc
      simp only [Bool.and_eq_true, Bool.not_eq_true'] at hc
      split at h
      · rename_i fs hu
        split at h
        · rename_i b hb
          have hf : P.fieldsOf t = fs := by simp [Program.fieldsOf, hu]
          have hu' : P.underlying t = some (.struct (P.fieldsOf t)) := by rw [hf]; exact hu
          refine key (fun w' => run_eqGuard_agg w' op t xo yo xs ys hc.1) (eq_D h t _ _ (fun w' => ?_) rfl rfl)
          rw [equal_at, run_equalIn_struct w' 9999 t xs ys hu' hc.2, hf]
          exact eqG_run 9998 (fun t' xs' ys' b' h' w'' => eqT_run (n := 4) (d := 9998) (by omega) h' w'') hb w'
        · exact h.elim
      · rename_i n e hu
        split at h
        · rename_i inf hinf
          split at h
          · rename_i hq
            simp only [Bool.and_eq_true, decide_eq_true_eq, Bool.not_eq_true'] at hq
            obtain ⟨hl, b, hb, h⟩ := h
            refine key (fun w' => run_eqGuard_agg w' op t xo yo xs ys hc.1) (eq_D h t _ _ (fun w' => ?_) rfl rfl)
            rw [equal_at, run_equalIn_array w' 9999 xs ys hu hinf]
            have hcs : P.cellsOf e = 1 := by simp [Program.cellsOf, hinf, hq.1]
            have := eqItems_run 9998 hq.2 hb xs ys 0 (fun j v hj => by simpa using hj) (fun j v hj => by simpa using hj) w'
            rw [hcs, List.range_eq_range', ← hl]
            exact this
          · exact h.elim
        · exact h.elim
      · exact h.elim
    · exact h.elim
  | _ => exact h.elim

/-! ### the other operations that compute only -/
def unD (op : UnOp) (x : Value) (K : Value → Pr) (w : World) : Prop :=
  match x with
  | .int k n => match op with
    | .neg => K (.int k (k.wrap (0 - n))) w
    | .xor => intD .xor k (if k.signed then -1 else k.max) n K w
    | _ => F w
  | .bool b => match op with
    | .not => K (.bool (!b)) w
    | _ => F w
  | _ => F w

def convD (P : Program) (src dst : TypeId) (x : Value) (K : Value → Pr) (w : World) : Prop :=
  match x with
  | .int _ n => match P.underlying dst with
    | some (.int k) => match P.underlying src with
      | some (.int _) => K (.int k (k.wrap n)) w
      | _ => F w
    | _ => F w
  | .string s => match P.underlying dst with
    | some .string => match P.underlying src with
      | some .string => K (.string s) w
      | _ => F w
    | _ => F w
  | _ => F w

def bnd (x : Option Value) (d y : Nat) (K : Nat → Pr) (w : World) : Prop :=
  match x with
  | none => K d w
  | some v => match v with
    | .int _ i => Req (0 ≤ i ∧ i ≤ y) (K i.toNat) w
    | _ => F w

def slOff (a : Option Addr) (cap l size : Nat) : Option Addr := if cap = l then a else a.map (·.add (l * size))

def sliceD (P : Program) (t : TypeId) (x : Value) (lo hi : Option Value) (K : Value → Pr) (w : World) : Prop :=
  match P.underlying t with
  | some .string => match x with
    | .string s => bnd hi s.size s.size (fun h => bnd lo 0 h fun l => K (.string (s.extract l h))) w
    | _ => F w
  | some (.slice e) => match x with
    | .slice a len cap => match P.info? e with
      | some i => bnd hi len cap (fun h => bnd lo 0 h fun l => K (.slice (slOff a cap l i.size) (h - l) (cap - l))) w
      | none => F w
    | _ => F w
  | some (.array n e) => match x with
    | .pointer (some a) => match P.info? e with
      | some i => bnd hi n n (fun h => bnd lo 0 h fun l => K (.slice (slOff (some a) n l i.size) (h - l) (n - l))) w
      | none => F w
    | _ => F w
  | _ => F w

def slice3D (P : Program) (t : TypeId) (x : Value) (lo hi : Option Value) (mx : Value) (K : Value → Pr) (w : World) : Prop :=
  match P.underlying t with
  | some (.slice e) => match x with
    | .slice a _ cap => match P.info? e with
      | some i => match hi with
        | some hv => bnd (some mx) 0 cap (fun m => bnd (some hv) 0 m fun h => bnd lo 0 h fun l => K (.slice (slOff a m l i.size) (h - l) (m - l))) w
        | none => F w
      | none => F w
    | _ => F w
  | _ => F w

theorem bnd_sound {P : Program} {x : Option Value} {d y : Nat} {K : Nat → Pr} {w : World} (h : bnd x d y K w) (code : BoundsCode) :
    ∃ n, (∀ w', (match x with | some v => Instr.sliceBound v y code | none => (pure d : Sem Nat)).run P w' = .ok n w') ∧ K n w := by
  cases x with
  | none => exact ⟨d, fun w' => rfl, h⟩
  | some v =>
    simp only [bnd] at h
    cases v <;> simp only [F] at h <;> first | exact h.elim | skip
    rename_i k i
    exact ⟨_, fun w' => by simp [Instr.sliceBound, asIntOf, h.1], h.2⟩

def setRow : List Value → Nat → List Value → List Value
  | l, _, [] => l
  | l, o, v :: vs => setRow (l.set o v) (o + 1) vs

theorem setRow_length (vs : List Value) : ∀ (l : List Value) (o : Nat), (setRow l o vs).length = l.length := by
  induction vs with
  | nil => intro l o; rfl
  | cons v vs ih => intro l o; rw [setRow, ih]; simp

theorem foldl_set (cs : List Value) : ∀ (j off : Nat) (cells : Array Value),
    ((cs.zipIdx j).foldl (fun (a : Array Value) (p : Value × Nat) => a.setIfInBounds (off + p.2) p.1) cells).toList = setRow cells.toList (off + j) cs := by
  induction cs with
  | nil => intro j off cells; rfl
  | cons c cs ih =>
    intro j off cells
    simp only [List.zipIdx_cons, List.foldl_cons, setRow]
    rw [ih]
    simp [Nat.add_assoc]

/-- The cells of a literal: a part laid behind another. -/
def fillD (P : Program) (place : Nat → Option (Nat × TypeId)) : List (Nat × Value) → List Value → (List Value → Pr) → World → Prop
  | [], cells, K, w => K cells w
  | (i, v) :: rest, cells, K, w => match place i with
    | some (off, t) => match P.info? t with
      | some inf => match isAggB P t with
        | true => match v with
          | .agg cs => match decide (cs.size = inf.size) && decide (off + cs.size ≤ cells.length) with
            | true => fillD P place rest (setRow cells off cs.toList) K w
            | false => F w
          | _ => F w
        | false => match decide (inf.size = 1) && decide (off + 1 ≤ cells.length) with
          | true => match kd P t with
            | some .v => Req (v.oneCell' = true) (fillD P place rest (cells.set off v) K) w
            | _ => match v.oneCell' with
              | true => fillD P place rest (cells.set off v) K w
              | false => F w
          | false => F w
      | none => F w
    | none => F w

theorem cells_one {v : Value} (h : v.oneCell' = true) : v.cells = #[v] := by
  cases v <;> simp_all [Value.oneCell', Value.cells]

theorem fillD_sound {P : Program} {place : Nat → Option (Nat × TypeId)} {place' : Nat → Option (Nat × Nat)} (hp : ∀ i off t inf, place i = some (off, t) → P.info? t = some inf → place' i = some (off, inf.size)) :
    ∀ {parts : List (Nat × Value)} {cells : List Value} {K : List Value → Pr} {w : World}, fillD P place parts cells K w →
      ∃ r : List Value, Instr.fill place' cells.toArray parts = some r.toArray ∧ K r w
  | [], cells, K, w, h => ⟨cells, rfl, h⟩
  | (i, v) :: rest, cells, K, w, h => by
    simp only [fillD] at h
    split at h
    · rename_i off t hpl
      split at h
      · rename_i inf hinf
        have hpl' := hp i off t inf hpl hinf
        split at h
        · cases v <;> simp only [F] at h <;> first | exact h.elim | skip
          rename_i cs
          split at h
          · rename_i hc
            simp only [Bool.and_eq_true, decide_eq_true_eq] at hc
            obtain ⟨r, hr, hk⟩ := fillD_sound hp h
            refine ⟨r, ?_, hk⟩
            simp only [Instr.fill, hpl', Value.cells, List.size_toArray]
            rw [if_neg (by
                have h1 := hc.1
                have h2 := hc.2
                simp [h1]
                omega)]
            rw [← hr]
            congr 1
            have := foldl_set cs.toList 0 off cells.toArray
            apply Array.toList_inj.1
            rw [← Array.foldl_toList]
            simpa using this
          · exact h.elim
        · split at h
          · rename_i hc
            simp only [Bool.and_eq_true, decide_eq_true_eq] at hc
            have go : v.oneCell' = true → fillD P place rest (cells.set off v) K w → ∃ r : List Value, Instr.fill place' cells.toArray ((i, v) :: rest) = some r.toArray ∧ K r w := by
              intro hv h
              obtain ⟨r, hr, hk⟩ := fillD_sound hp h
              refine ⟨r, ?_, hk⟩
              simp only [Instr.fill, hpl', cells_one hv, List.size_toArray]
              rw [if_neg (by simp; omega)]
              rw [← hr]
              congr 1
              apply Array.toList_inj.1
              simp
            split at h
            · exact go h.1 h.2
            · split at h
              · exact go ‹_› h
              · exact h.elim
          · exact h.elim
      · exact h.elim
    · exact h.elim

end Go.Sx
