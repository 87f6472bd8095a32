/-
  The operations that read, and those that write or make memory, as words; and that they do so.
-/
import Derived.Test.YtmppjgddemlmdaaSxE
set_option linter.unusedSimpArgs false
set_option linter.unusedVariables false
namespace Go.Sx
open Go

theorem Addr.add_zero (a : Addr) : a.add 0 = a := by simp [Go.Addr.add]

/-! ### loads -/
/-- The kind of what a variable of a type holds: a scalar; a few cells; many ('none'). -/
def rk (P : Program) (t : TypeId) : Option (Option RK) :=
  match isAggB P t with
  | true => match kds P 8 t with
    | some ks => match P.info? t with
      | some i => match decide (ks.length = i.size) with
        | true => match decide (ks.length ≤ 24) with
          | true => some (some (.ag ks))
          | false => some none
        | false => none
      | none => none
    | none => none
  | false => match kd P t with
    | some k => some (some (.sc k))
    | none => none

def LdD (P : Program) (t : TypeId) (a : Addr) (K : Value → Pr) (w : World) : Prop :=
  match rk P t with
  | some (some r) => match r with
    | .sc k => Ld k a (fun x => K (k.enc x)) w
    | .ag ks => LdR ks a 0 (fun vs => K (.agg vs.toArray)) w
  | some none => match P.info? t with
    | some i => LdN i.size a (fun vs => K (.agg vs.toArray)) w
    | none => F w
  | none => F w

theorem LdR_elim {P : Program} : ∀ {ks : List Kd} {a : Addr} {i : Nat} {K : List Value → Pr} {w : World}, LdR ks a i K w →
    ∃ vs : List Value, vs.length = ks.length ∧ (∀ j v, vs[j]? = some v → w.cell? (a.add (i + j)) = some v) ∧ K vs w
  | [], a, i, K, w, h => ⟨[], rfl, fun j v h => by simp at h, h⟩
  | k :: ks, a, i, K, w, h => by
    simp only [LdR] at h
    obtain ⟨x, hx, h⟩ := Ld_elim h
    obtain ⟨vs, h1, h2, h3⟩ := LdR_elim (P := P) h
    refine ⟨k.enc x :: vs, by simp [h1], fun j v hj => ?_, h3⟩
    cases j with
    | zero => simp only [List.getElem?_cons_zero, Option.some.injEq] at hj; subst hj; exact hx
    | succ j => simp only [List.getElem?_cons_succ] at hj; have := h2 j v hj; rw [show i + (j + 1) = i + 1 + j from by omega]; exact this

theorem kd_under {P : Program} {t : TypeId} {k : Kd} (h : kd P t = some k) : ∃ d, P.underlying t = some d := by
  unfold kd at h
  split at h <;> first | exact ⟨_, ‹_›⟩ | cases h

theorem isAggB_under {P : Program} {t : TypeId} (h : isAggB P t = true) : ∃ d, P.underlying t = some d := by
  unfold isAggB at h
  split at h <;> first | exact ⟨_, ‹_›⟩ | cases h

theorem under_info {P : Program} {t : TypeId} {d : TypeDesc} (h : P.underlying t = some d) : ∃ i, P.info? t = some i := by
  unfold Program.underlying at h
  split at h <;> first | exact ⟨_, ‹_›⟩ | cases h

theorem LdD_sound {P : Program} {t : TypeId} {a : Addr} {K : Value → Pr} {w : World} (h : LdD P t a K w) :
    ∃ v, (loadVar t a).run P w = .ok v w ∧ K v w := by
  have agg : ∀ {n : Nat} {i : TypeInfo} (vs : List Value), isAggB P t = true → P.info? t = some i → i.size = n → vs.length = n → (∀ j v, vs[j]? = some v → w.cell? (a.add j) = some v) → (loadVar t a).run P w = .ok (.agg vs.toArray) w := by
    intro n i vs hg hi hn hl hc
    obtain ⟨d, hd⟩ := isAggB_under hg
    have hr := run_loadCells_list (P := P) w a vs hc
    simp only [loadVar, Sem.run_bind, run_isAgg' hd, hg, Result.andThen_ok, if_true, run_sizeOf' hi, hn, ← hl, hr]
    rfl
  simp only [LdD] at h
  split at h
  · rename_i r hr
    simp only [rk] at hr
    split at hr
    · rename_i hg
      split at hr
      · rename_i ks hks
        split at hr
        · rename_i i hi
          split at hr
          · rename_i hsz
            split at hr
            · simp only [Option.some.injEq] at hr
              subst hr
              obtain ⟨vs, h1, h2, h3⟩ := LdR_elim (P := P) h
              exact ⟨_, agg vs hg hi (by simpa using (of_decide_eq_true hsz).symm) h1 (fun j v hj => by simpa using h2 j v hj), h3⟩
            · simp at hr
          · cases hr
        · cases hr
      · cases hr
    · rename_i hg
      split at hr
      · rename_i k hk
        simp only [Option.some.injEq] at hr
        subst hr
        obtain ⟨x, hx, h⟩ := Ld_elim h
        obtain ⟨d, hd⟩ := kd_under hk
        refine ⟨_, ?_, h⟩
        simp only [loadVar, Sem.run_bind, run_isAgg' hd, hg, Result.andThen_ok, Bool.false_eq_true, if_false, run_load, hx]
      · cases hr
  · rename_i hr
    simp only [rk] at hr
    split at hr
    · rename_i hg
      split at hr
      · rename_i ks hks
        split at hr
        · rename_i i hi
          split at hr
          · split at hr
            · simp at hr
            · rw [hi] at h
              simp only at h
              obtain ⟨vs, h1, h2, h3⟩ := h
              exact ⟨_, agg vs hg hi rfl h1 h2, h3⟩
          · cases hr
        · cases hr
      · cases hr
    · rename_i hg
      split at hr
      · simp at hr
      · cases hr
  · exact h.elim

/-! ### stores -/
theorem St_elim {P : Program} {a : Addr} {v : Value} {K : Pr} {w : World} (h : St a v K w) : (store a v).run P w = .ok () (w.setCell a v) ∧ K (w.setCell a v) := by
  obtain ⟨h1, ⟨x, h2⟩, h3, h4⟩ := h
  refine ⟨?_, h4⟩
  rw [run_store P w a v _ h1]
  simp [h2, h3]

theorem StR_elim {P : Program} {a : Addr} : ∀ {vs : List Value} {i : Nat} {K : Pr} {w : World}, StR vs a i K w → ∃ w', (storeCells a vs i).run P w = .ok () w' ∧ K w'
  | [], i, K, w, h => ⟨w, rfl, h⟩
  | v :: vs, i, K, w, h => by
    simp only [StR] at h
    obtain ⟨h1, h2⟩ := St_elim (P := P) h
    obtain ⟨w', h3, h4⟩ := StR_elim (P := P) h2
    refine ⟨w', ?_, h4⟩
    simp only [storeCells, Sem.run_bind, h1, Result.andThen_ok, h3]

def StD (P : Program) (t : TypeId) (a : Addr) (v : Value) (K : Pr) (w : World) : Prop :=
  match rk P t with
  | some (some r) => match r with
    | .sc _ => match P.info? t with
      | some i => match decide (i.size = 1) with
        | true => St a v K w
        | false => F w
      | none => F w
    | .ag _ => match v with
      | .agg cs => match P.info? t with
        | some i => match decide (cs.toList.length = i.size) with
          | true => StR cs.toList a 0 K w
          | false => F w
        | none => F w
      | _ => F w
  | some none => match v with
    | .agg cs => match P.info? t with
      | some i => StN i.size a cs.toList K w
      | none => F w
    | _ => F w
  | none => F w

theorem StD_sound {P : Program} {t : TypeId} {a : Addr} {v : Value} {K : Pr} {w : World} (h : StD P t a v K w) :
    ∃ w', (storeVar t a v).run P w = .ok () w' ∧ K w' := by
  have key : ∀ {i : TypeInfo} {vs : List Value}, P.info? t = some i → v.cells.toList = vs → vs.length = i.size → StR vs a 0 K w → ∃ w', (storeVar t a v).run P w = .ok () w' ∧ K w' := by
    intro i vs hi hv hl hs
    obtain ⟨w', h1, h2⟩ := StR_elim (P := P) hs
    refine ⟨w', ?_, h2⟩
    have hs' : v.cells.size = i.size := by rw [← hl, ← hv]; simp
    simp only [storeVar, Sem.run_bind, run_sizeOf' hi, Result.andThen_ok, hs', ne_eq, not_true_eq_false, if_false, Sem.run_ite, Sem.run_pure, hv, h1]
  simp only [StD] at h
  split at h
  · rename_i r hr
    split at h
    · split at h
      · rename_i i hi
        split at h
        · rename_i hsz
          have h1 := h.1
          exact key hi (by rw [cells_one h1]) (by simpa using (of_decide_eq_true hsz).symm) (by
            show St (a.add 0) v K w
            rw [Addr.add_zero]
            exact h)
        · exact h.elim
      · exact h.elim
    · split at h
      · split at h
        · rename_i i hi
          split at h
          · rename_i hsz
            exact key (vs := _root_.Array.toList _) hi rfl (of_decide_eq_true hsz) h
          · exact h.elim
        · exact h.elim
      · exact h.elim
  · split at h
    · split at h
      · rename_i i hi
        exact key hi rfl h.1 h.2
      · exact h.elim
    · exact h.elim
  · exact h.elim

/-! ### bytes as a string -/
/-- The bytes that a slice shows. -/
def RdB (s : Sl) (bs : List UInt8) (w : World) : Prop :=
  bs.length = s.len ∧ ∀ j b, bs[j]? = some b → ∃ a, s.p = some a ∧ w.cell? (a.add j) = some (.int .u8 (b.toNat : Int))
def BtoS (s : Sl) (K : ByteArray → Pr) : Pr := fun w => ∃ bs, RdB s bs w ∧ K ⟨bs.toArray⟩ w

theorem run_bytesToString' {P : Program} {p : Option Addr} {l c : Nat} {bs : List UInt8} {w : World} (h : RdB ⟨p, l, c⟩ bs w) : (Conv.bytesToString (.slice p l c)).run P w = .ok (.string ⟨bs.toArray⟩) w := by
  obtain ⟨h1, h2⟩ := h
  simp only at h1 h2
  cases p with
  | none =>
    cases bs with
    | nil => rfl
    | cons b bs => obtain ⟨a, ha, _⟩ := h2 0 b rfl; cases ha
  | some a =>
    have hl : (loadCells a l).run P w = .ok ((bs.map fun b => (b.toNat : Int)).map (Value.int .u8)).toArray w := by
      have := run_loadCells_list (P := P) w a ((bs.map fun b => (b.toNat : Int)).map (Value.int .u8)) (fun j v hj => by
        simp only [List.getElem?_map, Option.map_map, Option.map_eq_some_iff] at hj
        obtain ⟨b, hb, rfl⟩ := hj
        obtain ⟨a', ha', hc⟩ := h2 j b hb
        simp only [Option.some.injEq] at ha'
        subst ha'
        exact hc)
      simpa [h1] using this
    rw [run_bytesToString w a l c _ hl]
    congr 2
    have : ∀ (bs : List UInt8) (r : ByteArray), (bs.map fun b => (b.toNat : Int)).foldl (fun r n => r.push (UInt8.ofNat n.toNat)) r = ⟨r.data ++ bs.toArray⟩ := by
      intro bs
      induction bs with
      | nil => intro r; simp
      | cons b bs ih =>
        intro r
        simp only [List.map_cons, List.foldl_cons]
        rw [ih]
        have : UInt8.ofNat ((b.toNat : Int).toNat) = b := by simp
        rw [this]
        congr 1
        apply Array.toList_inj.1
        simp [ByteArray.push]
    rw [this]
    have he : ByteArray.empty.data = #[] := rfl
    rw [he]
    simp

/-! ### maps: reading -/
def plainKey (P : Program) (t : TypeId) : Option TypeDesc :=
  match P.underlying t with
  | some d => match d with
    | .int _ => some d
    | .string => some d
    | .bool => some d
    | _ => none
  | none => none

theorem plainKey_under {P : Program} {t : TypeId} {d : TypeDesc} (h : plainKey P t = some d) : P.underlying t = some d ∧ ((∃ k, d = .int k) ∨ d = .string ∨ d = .bool) := by
  unfold plainKey at h
  split at h
  · rename_i d' hd
    split at h
    · simp only [Option.some.injEq] at h; subst h; exact ⟨hd, .inl ⟨_, rfl⟩⟩
    · simp only [Option.some.injEq] at h; subst h; exact ⟨hd, .inr (.inl rfl)⟩
    · simp only [Option.some.injEq] at h; subst h; exact ⟨hd, .inr (.inr rfl)⟩
    · cases h
  · cases h

theorem run_checkKey {P : Program} {t : TypeId} {d : TypeDesc} (h : plainKey P t = some d) (b : Bool) (v : Value) (w : World) : (Instr.checkKey b 10000 t v).run P w = .ok () w := by
  obtain ⟨hu, hd⟩ := plainKey_under h
  show (Instr.checkKey b (9999 + 1) t v).run P w = .ok () w
  generalize 9999 = n
  rcases hd with ⟨k, rfl⟩ | rfl | rfl <;> simp only [Instr.checkKey, Sem.run_bind, run_underlying hu, Result.andThen_ok, Sem.run_pure]

/-- The entries of a map (none, of nil). -/
def Ents (m : Option Nat) (es : List MapEntry) (w : World) : Prop :=
  match m with
  | none => es = []
  | some r => ∃ c, w.heap[r]? = some (.map es.toArray c)

/-- A look into a map. -/
def Lk (d : TypeDesc) (m : Option Nat) (key : Value) (K : Option Value → Pr) : Pr := fun w =>
  ∃ es f, Ents m es w ∧ Instr.findNow d key es 0 = some f ∧ K (match f with | some (_, v) => some v | none => none) w

/-- The value that was found, of its kind, else the zero. -/
def LkK (k : Kd) (z : k.T) (d : TypeDesc) (m : Option Nat) (key : Value) (K : k.T → Bool → Pr) : Pr :=
  Lk d m key fun f w => match f with
    | some v => ∃ x, v = k.enc x ∧ K x true w
    | none => K z false w
def LkN (z : Value) (d : TypeDesc) (m : Option Nat) (key : Value) (K : List Value → Bool → Pr) : Pr :=
  Lk d m key fun f w => match f with
    | some v => ∃ x : List Value, v = .agg x.toArray ∧ K x true w
    | none => ∃ x : List Value, z = .agg x.toArray ∧ K x false w

def lkOut (ok : Bool) (v : Value) (b : Bool) : Value := match ok with
  | true => .tuple #[v, .bool b]
  | false => v

def lookupD (P : Program) (t : TypeId) (m key : Value) (ok : Bool) (K : Value → Pr) (w : World) : Prop :=
  match P.underlying t with
  | some (.map kt et) => match plainKey P kt with
    | some d => match m with
      | .map r => match zeroOf P et with
        | some z => match rk P et with
          | some (some s) => match s with
            | .sc k => match k.dec z with
              | some zk => LkK k zk d r key (fun x b => K (lkOut ok (k.enc x) b)) w
              | none => F w
            | .ag _ => F w
          | some none => LkN z d r key (fun x b => K (lkOut ok (.agg x.toArray) b)) w
          | none => F w
        | none => F w
      | _ => F w
    | none => F w
  | _ => F w

theorem Lk_sound {P : Program} {t kt et : TypeId} {d : TypeDesc} {r : Option Nat} {key z : Value} {ok : Bool} {K : Option Value → Pr} {w : World} (hu : P.underlying t = some (.map kt et)) (hk : plainKey P kt = some d) (hz : zeroOf P et = some z)
    (h : Lk d r key K w) : ∃ f, (Instr.lookup t (.map r) key ok).run P w = .ok (lkOut ok (f.getD z) f.isSome) w ∧ K f w := by
  obtain ⟨es, f, he, hf, h⟩ := h
  have hud := (plainKey_under hk).1
  have hgo : (Instr.findKey kt key es).run P w = .ok f w := by
    simp only [Instr.findKey, Sem.run_bind, run_underlying hud, Result.andThen_ok, hf, Sem.run_pure]
  refine ⟨_, ?_, h⟩
  cases r with
  | none =>
    simp only [Ents] at he
    subst he
    simp only [Instr.lookup, Sem.run_bind, run_underlying hu, Result.andThen_ok, Sem.run_pure, run_checkKey hk]
    rw [hgo]
    cases f with
    | none => cases ok <;> simp [run_zeroOf hz, lkOut]
    | some p => cases ok <;> simp [lkOut]
  | some r =>
    obtain ⟨c, hc⟩ := he
    have hg : (getObj r).run P w = .ok (.map es.toArray c) w := by simp [getObj, Sem.run, hc]
    simp only [Instr.lookup, Sem.run_bind, run_underlying hu, Result.andThen_ok, hg, Sem.run_pure, run_checkKey hk]
    rw [hgo]
    cases f with
    | none => cases ok <;> simp [run_zeroOf hz, lkOut]
    | some p => cases ok <;> simp [lkOut]

theorem lookupD_sound {P : Program} {t : TypeId} {m key : Value} {ok : Bool} {K : Value → Pr} {w : World} (h : lookupD P t m key ok K w) :
    ∃ v, (Instr.lookup t m key ok).run P w = .ok v w ∧ K v w := by
  simp only [lookupD] at h
  split at h
  · rename_i kt et hu
    split at h
    · rename_i d hd
      split at h
      · rename_i r
        split at h
        · rename_i z hz
          split at h
          · split at h
            · rename_i k
              split at h
              · rename_i zk hzk
                obtain ⟨f, h1, h2⟩ := Lk_sound (ok := ok) hu hd hz h
                cases f with
                | none => refine ⟨_, h1, ?_⟩; rw [Kd.dec_eq hzk]; exact h2
                | some v => obtain ⟨x, rfl, h2⟩ := h2; exact ⟨_, h1, h2⟩
              · exact h.elim
            · exact h.elim
          · obtain ⟨f, h1, h2⟩ := Lk_sound (ok := ok) hu hd hz h
            cases f with
            | none => obtain ⟨x, rfl, h2⟩ := h2; exact ⟨_, h1, h2⟩
            | some v => obtain ⟨x, rfl, h2⟩ := h2; exact ⟨_, h1, h2⟩
          · exact h.elim
        · exact h.elim
      · exact h.elim
    · exact h.elim
  · exact h.elim

/-- How many entries a map has. -/
def LenM (m : Option Nat) (K : Int → Pr) : Pr := fun w => ∃ es, Ents m es w ∧ K (es.length : Int) w

/-- What an iterator's last step has found. -/
def EnM (a : Addr) (K : Value → Value → Pr) : Pr := fun w =>
  a.off = 0 ∧ ∃ (m since : Nat) (seen : Array Nat) (es : List MapEntry) (clock stamp : Nat) (e : MapEntry), w.heap[a.block]? = some (.mapIter (some m) since seen clock) ∧ w.heap[m]? = some (.map es.toArray clock) ∧
    seen.back? = some stamp ∧ es.find? (·.born == stamp) = some e ∧ K e.key e.val w

def readD (P : Program) (o : Oper) (ρ : Operand → Value) (K : Value → Pr) (w : World) : Prop :=
  match o.op with
  | .load t x => match ρ x with
    | .pointer p => Nn p (fun a => LdD P t a K) w
    | _ => F w
  | .lookup t m k ok => lookupD P t (ρ m) (ρ k) ok K w
  | .entry x => match ρ x with
    | .pointer (some a) => EnM a (fun k v => K (.tuple #[k, v])) w
    | _ => F w
  | .convert src dst x => match P.underlying dst with
    | some .string => match P.underlying src with
      | some (.slice e) => match P.underlying e with
        | some (.int .u8) => match ρ x with
          | .slice p l c => BtoS ⟨p, l, c⟩ (fun s => K (.string s)) w
          | _ => F w
        | _ => F w
      | _ => F w
    | _ => F w
  | .call c => match c.callee with
    | .builtin b => match b with
      | .len => match c.argTypes.toList with
        | [t] => match c.args.toList with
          | [x] => match P.underlying t with
            | some (.map _ _) => match ρ x with
              | .map m => LenM m (fun n => K (.int .i64 n)) w
              | _ => F w
            | _ => F w
          | _ => F w
        | _ => F w
      | _ => F w
    | _ => F w
  | _ => F w

theorem execOp_builtin {o : Oper} {ρ : Operand → Value} {c : Call} {b : Builtin} (ho : o.op = .call c) (hb : c.callee = .builtin b) {s : Sem Value}
    (hs : builtin b c.argTypes o.type (c.args.map fun | .const _ => true | _ => false) (c.args.map ρ) = (do pure (.value (← s)))) : execOp ρ o = (do pure (.value (← s))) := by
  unfold execOp
  rw [ho]
  simp only [resolve, hb, pure_bind, invoke]
  rw [← hs]
  rfl

theorem readD_sound {P : Program} {o : Oper} {ρ : Operand → Value} {K : Value → Pr} {w : World} (h : readD P o ρ K w) : DoesQ P o ρ K w := by
  have lift : ∀ {s : Sem Value} (he : execOp ρ o = (do pure (.value (← s)))), (∃ v, s.run P w = .ok v w ∧ K v w) → DoesQ P o ρ K w := by
    intro s he ⟨v, hv, hk⟩
    exact ⟨v, by rw [he]; simp [hv], hk⟩
  unfold readD at h
  split at h
  · rename_i t x ho
    split at h
    · rename_i p ha
      cases p with
      | none => exact h.elim
      | some a =>
      obtain ⟨v, hv, hk⟩ := LdD_sound h
      exact lift (by unfold execOp; rw [ho]) ⟨v, by simp [ha, Instr.loadAt, Instr.sureAddr, hv], hk⟩
    · exact h.elim
  · rename_i t m k ok ho
    exact lift (by unfold execOp; rw [ho]) (lookupD_sound h)
  · rename_i x ho
    split at h
    · rename_i a ha
      obtain ⟨h0, m, since, seen, es, clock, stamp, e, h1, h2, h3, h4, h⟩ := h
      obtain ⟨ab, ao, av⟩ := a
      simp only at h0 h1
      subst h0
      have g1 : (getObj ab).run P w = .ok (.mapIter (some m) since seen clock) w := by simp [getObj, Sem.run, h1]
      have g2 : (getObj m).run P w = .ok (.map es.toArray clock) w := by simp [getObj, Sem.run, h2]
      have h4' : es.toArray.find? (·.born == stamp) = some e := by rw [← Array.find?_toList]; exact h4
      refine lift (by unfold execOp; rw [ho]) ⟨_, ?_, h⟩
      simp only [Instr.entry, ha, Sem.run_bind, g1, Result.andThen_ok, h3, g2, bne_self_eq_false, Bool.false_eq_true, if_false, h4']
      rfl
    · exact h.elim
  · rename_i src dst x ho
    split at h
    · rename_i hd
      split at h
      · rename_i e hs
        split at h
        · rename_i he
          split at h
          · rename_i p l c hx
            obtain ⟨bs, hb, hk⟩ := h
            refine lift (by unfold execOp; rw [ho]) ⟨_, ?_, hk⟩
            simp only [convert, hx, Sem.run_bind, run_underlying hs, run_underlying hd, run_underlying he, Result.andThen_ok]
            cases p <;> exact run_bytesToString' hb
          · exact h.elim
        · exact h.elim
      · exact h.elim
    · exact h.elim
  · rename_i c ho
    split at h
    · rename_i b hb
      split at h
      · split at h
        · rename_i t ht
          split at h
          · rename_i x hx
            split at h
            · rename_i k e hu
              split at h
              · rename_i m hm
                obtain ⟨es, he, hk⟩ := h
                have e1 : c.argTypes = #[t] := Array.toList_inj.1 (by simpa using ht)
                have e2 : c.args = #[x] := Array.toList_inj.1 (by simpa using hx)
                refine lift (execOp_builtin ho hb (s := Builtin.len_ #[t] o.type #[.map m]) (by rw [e1, e2]; simp [builtin, hm])) ⟨_, ?_, hk⟩
                cases m with
                | none =>
                  simp only [Ents] at he
                  subst he
                  simp [Builtin.len_, run_underlying hu, goInt]
                | some r =>
                  obtain ⟨cl, hc⟩ := he
                  have hg : (getObj r).run P w = .ok (.map es.toArray cl) w := by simp [getObj, Sem.run, hc]
                  simp [Builtin.len_, run_underlying hu, goInt, hg]
              · exact h.elim
            · exact h.elim
          · exact h.elim
        · exact h.elim
      · exact h.elim
    · exact h.elim
  · exact h.elim

end Go.Sx
