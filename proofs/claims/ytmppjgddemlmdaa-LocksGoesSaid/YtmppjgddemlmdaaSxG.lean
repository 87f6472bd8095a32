/-
  The operations that write or make memory, and calls, as words; and that they do so.
-/
import Derived.Test.YtmppjgddemlmdaaSxF
import Derived.Lib.ConvBytes
set_option linter.unusedSimpArgs false
set_option linter.unusedVariables false
namespace Go.Sx
open Go

/-! ### calls -/
def okFn (P : Program) (f : FuncId) : Bool :=
  match P.funcs[f]? with
  | some fn => fn.body.isSome && !(fn.name == "runtime.NumGoroutine")
  | none => false

def encRes (tup : Bool) (rs : List RK) (s : TR rs) : Value :=
  match tup with
  | true => .tuple (encR rs s).toArray
  | false => (encR rs s).headD undef

def decRes (tup : Bool) (rs : List RK) (v : Value) : Option (TR rs) :=
  match tup with
  | true => match v with
    | .tuple vs => decR rs vs.toList
    | _ => none
  | false => decR rs [v]

theorem decRes_eq {tup : Bool} {rs : List RK} {v : Value} {s : TR rs} (h : decRes tup rs v = some s) : v = encRes tup rs s := by
  cases tup
  · simp only [decRes] at h
    simp only [encRes, ← decR_eq h, List.headD_cons]
  · simp only [decRes] at h
    split at h
    · simp only [encRes, ← decR_eq h]
    · cases h

/-- A call of a function: it returns, and what it returns is of its kinds. -/
def Cl (P : Program) (f : FuncId) (args : List Value) (tup : Bool) (rs : List RK) (K : TR rs → Pr) : Pr := fun w =>
  okFn P f = true ∧ Calls P f args.toArray w fun | .returned v, w' => ∃ s, v = encRes tup rs s ∧ K s w' | _, _ => False

theorem Cl.mono {P : Program} {f : FuncId} {args : List Value} {tup : Bool} {rs : List RK} {K K' : TR rs → Pr} {w : World} (h : Cl P f args tup rs K w) (hk : ∀ s w', K s w' → K' s w') : Cl P f args tup rs K' w :=
  ⟨h.1, h.2.mono fun e w' he => by
    cases e with
    | returned v => obtain ⟨s, hs, h⟩ := he; exact ⟨s, hs, hk _ _ h⟩
    | panicked c => exact he
    | outgrown => exact he⟩

/-- A call of a loop's 'yield': one round of it. -/
def Yd (P : Program) (l : Nat) (args : List Value) (tup : Bool) (rs : List RK) (K : TR rs → Pr) : Pr := fun w =>
  ∃ r : Loop, w.heap[l]? = some (.loop r) ∧ args.length = r.params.size ∧
    RoundIn (WF none) 0 P l r.fn ((r.params.zip args.toArray).foldl (fun tmps (t, a) => tmps.setIfInBounds t a) r.tmps) r.assign r.body w fun | .returned v, w' => ∃ s, v = encRes tup rs s ∧ K s w' | _, _ => False

theorem Yd.mono {P : Program} {l : Nat} {args : List Value} {tup : Bool} {rs : List RK} {K K' : TR rs → Pr} {w : World} (h : Yd P l args tup rs K w) (hk : ∀ s w', K s w' → K' s w') : Yd P l args tup rs K' w := by
  obtain ⟨r, h1, h2, h3⟩ := h
  refine ⟨r, h1, h2, h3.mono fun e w' he => ?_⟩
  cases e with
  | returned v => obtain ⟨s, hs, h⟩ := he; exact ⟨s, hs, hk _ _ h⟩
  | panicked c => exact he
  | outgrown => exact he

/-- A call of a function that the model stands in for. -/
def Ex (P : Program) (f : FuncId) (args : List Value) (tup : Bool) (rs : List RK) (K : TR rs → Pr) : Pr := fun w =>
  ∃ s w', (callFunc f args.toArray).run P w = .ok (.value (encRes tup rs s)) w' ∧ K s w'

/-- A call of a function value. -/
def CallV (P : Program) (v : Value) (args : List Value) (tup : Bool) (rs : List RK) (K : TR rs → Pr) (w : World) : Prop :=
  match v with
  | .func fn first cap => match fn with
    | .func g => match okFn P g with
      | true => Cl P g (first.toList ++ args ++ cap.toList) tup rs K w
      | false => Ex P g (first.toList ++ args ++ cap.toList) tup rs K w
    | .yield l => Yd P l (first.toList ++ args) tup rs K w
    | _ => F w
  | _ => F w

def rkL (P : Program) : List TypeId → Option (List RK)
  | [] => some []
  | t :: ts => match rk P t with
    | some (some r) => match rkL P ts with
      | some rs => some (r :: rs)
      | none => none
    | _ => none

/-- The kinds of what a call gives, by its type. -/
def resK (P : Program) (t : TypeId) : Option (Bool × List RK) :=
  match P.underlying t with
  | some d => match d with
    | .tuple ts => match rkL P ts.toList with
      | some rs => some (true, rs)
      | none => none
    | _ => match rk P t with
      | some (some r) => some (false, [r])
      | _ => none
  | none => none

theorem run_callFunc {P : Program} {f : FuncId} (h : okFn P f = true) (args : Array Value) (w : World) : (callFunc f args).run P w = .ok (.enter f args) w := by
  unfold okFn at h
  split at h
  · rename_i fn hf
    simp only [Bool.and_eq_true, Bool.not_eq_true'] at h
    have h1 : fn.name ≠ "runtime.NumGoroutine" := by
      have := h.2
      simpa using this
    have h2 : fn.body.isNone = false := by
      cases hb : fn.body with
      | none => rw [hb] at h; simp at h
      | some b => rfl
    simp [callFunc, hf, h1, h2]
    intro hb
    simp [hb] at h2
  · cases h

/-- The method of a value in an interface, where no load is wanted. -/
def methD (P : Program) (t : TypeId) (name : String) : Option FuncId :=
  match P.info? t with
  | some i => match i.methods.toList.find? (fun m => m.name == name) with
    | some m => match m.path.toList with
      | [] => match m.func with
        | some (f, p) => match P.underlying t with
          | some d => match d with
            | .pointer _ => match p with
              | true => some f
              | false => none
            | _ => match p with
              | true => none
              | false => some f
          | none => none
        | none => none
      | _ => none
    | none => none
  | none => none

def Inv (P : Program) (v : Value) (name : String) (args : List Value) (tup : Bool) (rs : List RK) (K : TR rs → Pr) (w : World) : Prop :=
  match v with
  | .iface t x => match methD P t name with
    | some f => Cl P f (x :: args) tup rs K w
    | none => F w
  | _ => F w

theorem run_method {P : Program} {t : TypeId} {x : Value} {name : String} {f : FuncId} (h : methD P t name = some f) (n : Nat) (w : World) : (method (n + 1) t x name).run P w = .ok (f, x) w := by
  unfold methD at h
  split at h
  · rename_i i hi
    split at h
    · rename_i m hm
      split at h
      · rename_i hp
        split at h
        · rename_i g p hf
          split at h
          · rename_i d hd
            have hm' : i.methods.find? (fun m => m.name == name) = some m := by rw [← Array.find?_toList]; exact hm
            split at h
            · split at h
              · simp only [Option.some.injEq] at h
                subst h
                simp only [method, Sem.run_bind, typeInfo, run_program, Result.andThen_ok, hi, Sem.run_pure, hm', hp, follow, hf, receiverAt, run_underlying hd, Place.get]
              · cases h
            · split at h
              · cases h
              · simp only [Option.some.injEq] at h
                subst h
                simp only [method, Sem.run_bind, typeInfo, run_program, Result.andThen_ok, hi, Sem.run_pure, hm', hp, follow, hf, receiverAt, run_underlying hd, Place.get]
          · cases h
        · cases h
      · cases h
    · cases h
  · cases h

/-! ### memory that is made -/
def cellsB (s : ByteArray) : List Value := s.data.toList.map fun b => .int .u8 (b.toNat : Int)

/-- '[]byte(s)': a new block, of whatever capacity. -/
def StoB (e : TypeId) (s : ByteArray) (K : Sl → Pr) : Pr := fun w =>
  ∀ c, s.size ≤ c → K ⟨some ⟨w.heap.size, 0, none⟩, s.size, c⟩ (w.drew.alloc (.cells (cellsB s ++ List.replicate (c - s.size) (Value.int .u8 0)).toArray e (c, c + 1)))

theorem freeze_alloc (w : World) (cs : Array Value) (e : TypeId) (n : Nat) : (w.alloc (.cells cs e)).freeze ⟨w.heap.size, n, none⟩ 1 = w.alloc (.cells cs e (n, n + 1)) := by
  simp only [World.freeze, World.alloc]
  rw [if_neg (by decide)]
  congr 1
  apply Array.ext_getElem?
  intro j
  rw [Array.getElem?_modify]
  by_cases h : w.heap.size = j
  · subst h
    simp
  · rw [if_neg h, Array.getElem?_push, Array.getElem?_push, if_neg (Ne.symm h), if_neg (Ne.symm h)]

theorem run_stringToBytes {P : Program} {src dst e : TypeId} {u : TypeDesc} {s : ByteArray} {K : Sl → Pr} {w : World} (hs : P.underlying src = some u) (hd : P.underlying dst = some (.slice e)) (he : P.underlying e = some (.int .u8)) (h : StoB e s K w) :
    ∃ (x : Sl) (w' : World), (convert src dst (.string s)).run P w = .ok (.slice x.p x.len x.cap) w' ∧ K x w' := by
  have hc : s.size ≤ grownCap w s.size 0 e := by simp only [grownCap, Question.cut]; omega
  have hss : s.data.size = s.size := rfl
  refine ⟨⟨some ⟨w.heap.size, 0, none⟩, s.size, grownCap w s.size 0 e⟩, _, Lib.run_convert_string_bytes w src dst e s hs hd he, ?_⟩
  have hk := h _ hc
  have hcells : Lib.bytesCells w e s = (cellsB s ++ List.replicate (grownCap w s.size 0 e - s.size) (Value.int .u8 0)).toArray := by
    apply Array.toList_inj.1
    simp [cellsB, Lib.bytesCells]
  have hsz : (Lib.bytesCells w e s).size = grownCap w s.size 0 e := by
    simp [Lib.bytesCells, hss]; omega
  have hw : Lib.bytesWorld w e s = w.drew.alloc (.cells (cellsB s ++ List.replicate (grownCap w s.size 0 e - s.size) (Value.int .u8 0)).toArray e (grownCap w s.size 0 e, grownCap w s.size 0 e + 1)) := by
    rw [Lib.bytesWorld, hsz, ← World.size_drew, freeze_alloc, hcells]
  rw [hw]
  exact hk

/-! ### append, copy -/
/-- Cells that are read one behind the other. -/
def RdC (p : Option Addr) (n : Nat) (cs : List Value) (w : World) : Prop :=
  cs.length = n ∧ ∀ j v, cs[j]? = some v → ∃ a, p = some a ∧ w.cell? (a.add j) = some v

theorem RdC.loads {P : Program} {p : Option Addr} {a : Addr} {n : Nat} {cs : List Value} {w : World} (h : RdC p n cs w) (hp : p = some a) : (loadCells a n).run P w = .ok cs.toArray w := by
  obtain ⟨h1, h2⟩ := h
  rw [← h1]
  refine run_loadCells_list w a cs fun j v hj => ?_
  obtain ⟨a', ha, hc⟩ := h2 j v hj
  rw [hp, Option.some.injEq] at ha
  subst ha
  exact hc

theorem RdC.first {P : Program} {p : Option Addr} {size n l c : Nat} {cs : List Value} {w : World} (h : RdC p (n * size) cs w) : (Builtin.firstCells size n (.slice p l c)).run P w = .ok cs.toArray w := by
  cases p with
  | none =>
    cases cs with
    | nil => rfl
    | cons v vs => obtain ⟨a, ha, _⟩ := h.2 0 v rfl; cases ha
  | some a => exact h.loads rfl

theorem RdC.drew {p : Option Addr} {n : Nat} {cs : List Value} {w : World} (h : RdC p n cs w) : RdC p n cs w.drew := h

/-- 'append': what is appended, the cells it is; in place, or in a new block. -/
def App (e : TypeId) (size bytes : Nat) (z : Array Value) (s : Sl) (m : Nat) (src : List Value → World → Prop) (K : Sl → Pr) : Pr := fun w =>
  ∃ new : List Value, src new w ∧
    if s.len + m ≤ s.cap then
      (match s.p with
        | some a => StR new (a.add (s.len * size)) 0 (K ⟨some a, s.len + m, s.cap⟩) w
        | none => K ⟨none, s.len + m, s.cap⟩ w)
    else (s.len + m) * bytes ≤ 140737488355328 ∧ ((s.len + m : Nat) : Int) ≤ 9223372036854775807 ∧
      ∃ old : List Value, RdC s.p (s.len * size) old w ∧
        ∀ c, s.len + m ≤ c → K ⟨some ⟨w.heap.size, 0, none⟩, s.len + m, c⟩ (w.drew.alloc (.cells ((old ++ new).toArray ++ Builtin.zeroCells z (c - (s.len + m))) e))

theorem App_sound {P : Program} {st xt e : TypeId} {i : TypeInfo} {z : Value} {s : Sl} {x : Value} {m : Nat} {src : List Value → World → Prop} {K : Sl → Pr} {w : World} (hst : P.underlying st = some (.slice e)) (hi : P.info? e = some i) (hz : i.zero = some z)
    (hxt : ∃ d, P.underlying xt = some d ∧ ∀ k, d ≠ .int k)
    (hm : ∀ w', (Builtin.lenOf x).run P w' = .ok m w') (hsrc : ∀ new, src new w → (Builtin.firstCells i.size m x).run P w = .ok new.toArray w ∧ (Builtin.firstCells i.size m x).run P w.drew = .ok new.toArray w.drew) (ty : TypeId)
    (h : App e i.size i.bytes z.cells s m src K w) :
    ∃ (r : Sl) (w' : World), (Builtin.append_ #[st, xt] ty #[.slice s.p s.len s.cap, x]).run P w = .ok (.slice r.p r.len r.cap) w' ∧ K r w' := by
  obtain ⟨new, hn, h⟩ := h
  obtain ⟨hf1, hf2⟩ := hsrc new hn
  obtain ⟨d, hd, hdi⟩ := hxt
  have hzeros : (match d with | .int _ => true | _ => false) = false := by
    cases d <;> first | rfl | exact absurd rfl (hdi _)
  by_cases hc : s.len + m ≤ s.cap
  · rw [if_pos hc] at h
    cases hp : s.p with
    | none =>
      rw [hp] at h
      refine ⟨⟨none, s.len + m, s.cap⟩, w, ?_, h⟩
      simp [Builtin.append_, run_underlying hst, run_underlying hd, run_sizeOf' hi, hzeros, hm, hc, hf1]
    | some a =>
      rw [hp] at h
      obtain ⟨w', h1, h2⟩ := StR_elim (P := P) h
      refine ⟨⟨some a, s.len + m, s.cap⟩, w', ?_, h2⟩
      simp [Builtin.append_, run_underlying hst, run_underlying hd, run_sizeOf' hi, hzeros, hm, hc, hf1, h1]
  · rw [if_neg hc] at h
    obtain ⟨h47, h63, old, hold, h⟩ := h
    have hcap : s.len + m ≤ grownCap w (s.len + m) s.cap e := by simp only [grownCap, Question.cut]; omega
    refine ⟨_, _, ?_, h _ hcap⟩
    have hfo := (hold.drew).first (P := P) (l := s.len) (c := s.cap)
    have h48 := growslice_fits (need := s.len + m) (old := s.cap) (by omega) h47
    have h48' : ¬ (281474976710656 < Builtin.nextslicecap (s.len + m) s.cap * i.bytes) := by omega
    have h63' : ¬ (9223372036854775807 < ((s.len : Int) + (m : Int))) := by omega
    simp [Builtin.append_, run_underlying hst, run_underlying hd, run_sizeOf' hi, typeInfo, zeroValue, hi, hz, hzeros, hm, hc, h48', h63', Question.forced, hfo, hf2, newRow, grownCap]
    congr 2
    apply Array.toList_inj.1
    simp

/-- What a slice, or a string, hands to append or copy. -/
def srcS (p : Option Addr) (n size : Nat) (new : List Value) (w : World) : Prop := RdC p (n * size) new w
def srcB (s : ByteArray) (n : Nat) (new : List Value) (_w : World) : Prop := new = (cellsB s).take n

theorem firstCells_string {P : Program} (s : ByteArray) (size n : Nat) (w : World) : (Builtin.firstCells size n (.string s)).run P w = .ok ((cellsB s).take n).toArray w := by
  simp only [Builtin.firstCells, Sem.run_pure]
  congr 1
  apply Array.toList_inj.1
  simp [cellsB, ByteArray.data_extract, Array.toList_extract, List.extract, List.map_take]

/-- 'append(s, make([]T, n)...)'. -/
def srcZ (z : Array Value) (size n : Nat) (new : List Value) (_w : World) : Prop := new = (if n * size = 0 then #[] else Builtin.zeroCells z n).toList
def AppZ (e : TypeId) (size bytes : Nat) (z : Array Value) (s : Sl) (n : Int) (K : Sl → Pr) : Pr := fun w =>
  0 ≤ n ∧ n ≤ 9223372036854775807 ∧ n * (bytes : Int) ≤ 281474976710656 ∧ App e size bytes z s n.toNat (srcZ z size n.toNat) K w

theorem AppZ_sound {P : Program} {st xt e : TypeId} {i : TypeInfo} {z : Value} {s : Sl} {k : IntKind} {n : Int} {K : Sl → Pr} {w : World} (hst : P.underlying st = some (.slice e)) (hi : P.info? e = some i) (hz : i.zero = some z)
    (hxt : ∃ k, P.underlying xt = some (.int k)) (ty : TypeId) (h : AppZ e i.size i.bytes z.cells s n K w) :
    ∃ (r : Sl) (w' : World), (Builtin.append_ #[st, xt] ty #[.slice s.p s.len s.cap, .int k n]).run P w = .ok (.slice r.p r.len r.cap) w' ∧ K r w' := by
  obtain ⟨h0, hmax, h48, new, hn, h⟩ := h
  obtain ⟨k', hd⟩ := hxt
  obtain ⟨m, rfl⟩ : ∃ m : Nat, n = m := ⟨n.toNat, by omega⟩
  simp only [Int.toNat_natCast] at hn h
  have hw : IntKind.i64.wrap (m : Int) = m := by
    simp [IntKind.wrap, IntKind.signed, IntKind.bits]
    omega
  have hneg : ¬ ((m : Int) < 0) := by omega
  have hbig : ¬ ((m : Int) * (i.bytes : Int) > 2 ^ 48) := by
    have : (2 : Int) ^ 48 = 281474976710656 := by decide
    rw [this]; omega
  have hbig' : ¬ ((281474976710656 : Int) < (m : Int) * (i.bytes : Int)) := by omega
  have happ : ∀ w', ((if m * i.size = 0 then pure #[] else do pure (Builtin.zeroCells z.cells m) : Sem (Array Value))).run P w' = .ok new.toArray w' := by
    intro w'
    have hn' : new = (if m * i.size = 0 then #[] else Builtin.zeroCells z.cells m).toList := hn
    subst hn'
    split <;> simp
  by_cases hc : s.len + m ≤ s.cap
  · rw [if_pos hc] at h
    cases hp : s.p with
    | none =>
      rw [hp] at h
      refine ⟨⟨none, s.len + m, s.cap⟩, w, ?_, h⟩
      have := happ w
      by_cases hz0 : m * i.size = 0
      · simp [Builtin.append_, run_underlying hst, run_underlying hd, run_sizeOf' hi, typeInfo, hi, hw, hc, asInt, asIntOf, hneg, hbig', hz0]
      · simp [Builtin.append_, run_underlying hst, run_underlying hd, run_sizeOf' hi, typeInfo, zeroValue, hi, hz, hw, hc, asInt, asIntOf, hneg, hbig', hz0]
    | some a =>
      rw [hp] at h
      obtain ⟨w', h1, h2⟩ := StR_elim (P := P) h
      refine ⟨⟨some a, s.len + m, s.cap⟩, w', ?_, h2⟩
      have hn' : new = (if m * i.size = 0 then #[] else Builtin.zeroCells z.cells m).toList := hn
      by_cases hz0 : m * i.size = 0
      · have : new = [] := by rw [hn', if_pos hz0]
        subst this
        simp [Builtin.append_, run_underlying hst, run_underlying hd, run_sizeOf' hi, typeInfo, hi, hw, hc, asInt, asIntOf, hneg, hbig', hz0]
        rw [h1]
        rfl
      · rw [if_neg hz0] at hn'
        subst hn'
        simp [Builtin.append_, run_underlying hst, run_underlying hd, run_sizeOf' hi, typeInfo, zeroValue, hi, hz, hw, hc, asInt, asIntOf, hneg, hbig', hz0, h1]
  · rw [if_neg hc] at h
    obtain ⟨h47, h63, old, hold, h⟩ := h
    have hcap : s.len + m ≤ grownCap w (s.len + m) s.cap e := by simp only [grownCap, Question.cut]; omega
    refine ⟨_, _, ?_, h _ hcap⟩
    have hfo := (hold.drew).first (P := P) (l := s.len) (c := s.cap)
    have h48 := growslice_fits (need := s.len + m) (old := s.cap) (by omega) h47
    have h48' : ¬ (281474976710656 < Builtin.nextslicecap (s.len + m) s.cap * i.bytes) := by omega
    have h63' : ¬ (9223372036854775807 < ((s.len : Int) + (m : Int))) := by omega
    have hn' : new = (if m * i.size = 0 then #[] else Builtin.zeroCells z.cells m).toList := hn
    by_cases hz0 : m * i.size = 0
    · have : new = [] := by rw [hn', if_pos hz0]
      subst this
      simp [Builtin.append_, run_underlying hst, run_underlying hd, run_sizeOf' hi, typeInfo, zeroValue, hi, hz, hw, hc, asInt, asIntOf, hneg, hbig', hz0, h48', h63', Question.forced, hfo, newRow, grownCap]
    · rw [if_neg hz0] at hn'
      subst hn'
      simp [Builtin.append_, run_underlying hst, run_underlying hd, run_sizeOf' hi, typeInfo, zeroValue, hi, hz, hw, hc, asInt, asIntOf, hneg, hbig', hz0, h48', h63', Question.forced, hfo, newRow, grownCap]
      congr 2
      apply Array.toList_inj.1
      simp

def appD (P : Program) (st xt : TypeId) (s x : Value) (K : Value → Pr) (w : World) : Prop :=
  match P.underlying st with
  | some (.slice e) => match P.info? e with
    | some i => match i.zero with
      | some z => match s with
        | .slice p l c => match P.underlying xt with
          | some d => match d with
            | .slice _ => match x with
              | .slice q m _ => App e i.size i.bytes z.cells ⟨p, l, c⟩ m (srcS q m i.size) (fun r => K (.slice r.p r.len r.cap)) w
              | _ => F w
            | .string => match x with
              | .string b => App e i.size i.bytes z.cells ⟨p, l, c⟩ b.size (srcB b b.size) (fun r => K (.slice r.p r.len r.cap)) w
              | _ => F w
            | .int _ => match x with
              | .int _ n => AppZ e i.size i.bytes z.cells ⟨p, l, c⟩ n (fun r => K (.slice r.p r.len r.cap)) w
              | _ => F w
            | _ => F w
          | none => F w
        | _ => F w
      | none => F w
    | none => F w
  | _ => F w

theorem appD_sound {P : Program} {st xt : TypeId} {s x : Value} {K : Value → Pr} {w : World} (ty : TypeId) (h : appD P st xt s x K w) :
    ∃ v w', (Builtin.append_ #[st, xt] ty #[s, x]).run P w = .ok v w' ∧ K v w' := by
  simp only [appD] at h
  split at h
  · rename_i e hst
    split at h
    · rename_i i hi
      split at h
      · rename_i z hz
        split at h
        · rename_i p l c
          split at h
          · rename_i d hd
            split at h
            · rename_i te
              split at h
              · rename_i q m c'
                obtain ⟨r, w', h1, h2⟩ := App_sound (P := P) (x := .slice q m c') hst hi hz ⟨_, hd, by simp⟩ (fun w' => rfl) (fun new hn => ⟨RdC.first hn, RdC.first (RdC.drew hn)⟩) ty h
                exact ⟨_, w', h1, h2⟩
              · exact h.elim
            · split at h
              · rename_i b
                obtain ⟨r, w', h1, h2⟩ := App_sound (P := P) (x := .string b) hst hi hz ⟨_, hd, by simp⟩ (fun w' => rfl) (fun new hn => by
                  have hn' : new = (cellsB b).take b.size := hn
                  subst hn'
                  exact ⟨firstCells_string _ _ _ _, firstCells_string _ _ _ _⟩) ty h
                exact ⟨_, w', h1, h2⟩
              · exact h.elim
            · rename_i kx
              split at h
              · rename_i k n
                obtain ⟨r, w', h1, h2⟩ := AppZ_sound (P := P) (k := k) hst hi hz ⟨_, hd⟩ ty h
                exact ⟨_, w', h1, h2⟩
              · exact h.elim
            · exact h.elim
          · exact h.elim
        · exact h.elim
      · exact h.elim
    · exact h.elim
  · exact h.elim

/-- 'copy'. -/
def Cpy (size : Nat) (p : Option Addr) (n : Nat) (src : List Value → World → Prop) (K : Pr) : Pr := fun w =>
  ∃ new : List Value, src new w ∧ match p with
    | some a => StR new a 0 K w
    | none => K w

def copyD (P : Program) (dt st : TypeId) (d x : Value) (K : Value → Pr) (w : World) : Prop :=
  match P.underlying dt with
  | some (.slice e) => match P.info? e with
    | some i => match d with
      | .slice p l _ => match x with
        | .slice q m _ => Cpy i.size p (Nat.min m l) (srcS q (Nat.min m l) i.size) (K (.int .i64 (Nat.min m l))) w
        | .string b => Cpy i.size p (Nat.min b.size l) (srcB b (Nat.min b.size l)) (K (.int .i64 (Nat.min b.size l))) w
        | _ => F w
      | _ => F w
    | none => F w
  | _ => F w

theorem copyD_sound {P : Program} {dt st : TypeId} {d x : Value} {K : Value → Pr} {w : World} (ty : TypeId) (h : copyD P dt st d x K w) :
    ∃ v w', (Builtin.copy_ #[dt, st] ty #[d, x]).run P w = .ok v w' ∧ K v w' := by
  simp only [copyD] at h
  split at h
  · rename_i e hd
    split at h
    · rename_i i hi
      split at h
      · rename_i p l c
        split at h
        · rename_i q m c'
          obtain ⟨new, hn, h⟩ := h
          have hf := RdC.first (P := P) (l := m) (c := c') hn
          cases p with
          | none => exact ⟨_, w, by simp [Builtin.copy_, run_underlying hd, Builtin.lenOf, run_sizeOf' hi, hf, goInt], h⟩
          | some a =>
            obtain ⟨w', h1, h2⟩ := StR_elim (P := P) h
            exact ⟨_, w', by simp [Builtin.copy_, run_underlying hd, Builtin.lenOf, run_sizeOf' hi, hf, goInt, h1], h2⟩
        · rename_i b
          obtain ⟨new, hn, h⟩ := h
          have hn' : new = (cellsB b).take (Nat.min b.size l) := hn
          subst hn'
          have hf := firstCells_string (P := P) b i.size (Nat.min b.size l) w
          cases p with
          | none => exact ⟨_, w, by simp [Builtin.copy_, run_underlying hd, Builtin.lenOf, run_sizeOf' hi, hf, goInt], h⟩
          | some a =>
            obtain ⟨w', h1, h2⟩ := StR_elim (P := P) h
            exact ⟨_, w', by simp [Builtin.copy_, run_underlying hd, Builtin.lenOf, run_sizeOf' hi, hf, goInt, h1], h2⟩
        · exact h.elim
      · exact h.elim
    · exact h.elim
  · exact h.elim

end Go.Sx
