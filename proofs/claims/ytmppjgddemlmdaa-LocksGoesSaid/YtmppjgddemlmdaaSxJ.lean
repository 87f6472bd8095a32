/-
  Regions that draw their order: what stands for every order ('drawD'), and that it does so.
-/
import Derived.Test.YtmppjgddemlmdaaSxI
set_option linter.unusedSimpArgs false
set_option linter.unusedVariables false
namespace Go.Sx
open Go

/-! ### which operations stand before which -/
def bitAt (m i : Nat) : Bool := m.testBit i

def maskOf (acc : List Nat) : List Edge → Nat
  | [] => 0
  | e :: r => match Region.binds .any e with
    | true => (2 ^ e.on ||| (match acc[e.on]? with | some m => m | none => 0)) ||| maskOf acc r
    | false => maskOf acc r

def masksGo : List Oper → List Nat → List Nat
  | [], acc => acc
  | o :: r, acc => masksGo r (acc ++ [maskOf acc o.after.toList])

def masks (ops : List Oper) : List Nat := masksGo ops []

def mkAt (M : List Nat) (i : Nat) : Nat := match M[i]? with | some m => m | none => 0

theorem maskOf_bit {acc : List Nat} : ∀ {l : List Edge} {k : Nat}, (maskOf acc l).testBit k = true → ∃ e ∈ l, Region.binds .any e = true ∧ (k = e.on ∨ ∃ m, acc[e.on]? = some m ∧ m.testBit k = true)
  | [], k, h => by simp [maskOf] at h
  | e :: r, k, h => by
    simp only [maskOf] at h
    split at h
    · rename_i hb
      rw [Nat.testBit_or, Nat.testBit_or, Bool.or_eq_true, Bool.or_eq_true] at h
      rcases h with (h | h) | h
      · exact ⟨e, List.mem_cons_self, hb, .inl (by rw [Nat.testBit_two_pow] at h; exact (of_decide_eq_true h).symm)⟩
      · refine ⟨e, List.mem_cons_self, hb, .inr ?_⟩
        split at h
        · exact ⟨_, ‹_›, h⟩
        · simp at h
      · obtain ⟨e', h1, h2⟩ := maskOf_bit h
        exact ⟨e', List.mem_cons_of_mem _ h1, h2⟩
    · obtain ⟨e', h1, h2⟩ := maskOf_bit h
      exact ⟨e', List.mem_cons_of_mem _ h1, h2⟩

/-- What a table of masks says is so. -/
def MaskOk (ops : List Oper) (acc : List Nat) : Prop :=
  ∀ (j m k : Nat), acc[j]? = some m → m.testBit k = true → ∃ (o : Oper) (e : Edge), ops[j]? = some o ∧ e ∈ o.after.toList ∧ Region.binds .any e = true ∧ (k = e.on ∨ ∃ m', acc[e.on]? = some m' ∧ m'.testBit k = true)

theorem masksGo_ok {ops : List Oper} : ∀ {r : List Oper} {acc : List Nat}, ops.drop acc.length = r → MaskOk ops acc → MaskOk ops (masksGo r acc)
  | [], acc, _, h => h
  | o :: r, acc, hd, h => by
    simp only [masksGo]
    have ho : ops[acc.length]? = some o := by
      have := congrArg (·[0]?) hd
      simpa using this
    refine masksGo_ok (by simp; rw [← List.drop_drop, hd]; rfl) ?_
    intro j m k hj hk
    by_cases hlt : j < acc.length
    · rw [List.getElem?_append_left hlt] at hj
      obtain ⟨o', e, h1, h2, h3, h4⟩ := h j m k hj hk
      refine ⟨o', e, h1, h2, h3, h4.imp id fun ⟨m', h5, h6⟩ => ⟨m', ?_, h6⟩⟩
      have hl := (List.getElem?_eq_some_iff.1 h5).1
      rw [List.getElem?_append_left hl, h5]
    · have hje : j = acc.length := by
        have := (List.getElem?_eq_some_iff.1 hj).1
        simp at this
        omega
      subst hje
      simp at hj
      subst hj
      obtain ⟨e, h1, h2, h3⟩ := maskOf_bit hk
      refine ⟨o, e, ho, h1, h2, h3.imp id fun ⟨m', h5, h6⟩ => ⟨m', ?_, h6⟩⟩
      have hl := (List.getElem?_eq_some_iff.1 h5).1
      rw [List.getElem?_append_left hl, h5]

theorem masks_ok (ops : List Oper) : MaskOk ops (masks ops) := masksGo_ok rfl (fun j m k h => by simp at h)

/-- Operations that are listed have those before them listed. -/
def Closed (ops : List Oper) (L : Nat → Prop) : Prop := ∀ j o, L j → ops[j]? = some o → ∀ e ∈ o.after.toList, Region.binds .any e = true → L e.on

def edgesBack (ops : List Oper) : Nat → List Oper → Bool
  | _, [] => true
  | j, o :: r => (o.after.toList.all fun e => !(Region.binds .any e) || decide (e.on < j)) && edgesBack ops (j + 1) r

theorem edgesBack_at {ops : List Oper} : ∀ {r : List Oper} {j i : Nat} {o : Oper}, edgesBack ops j r = true → r[i]? = some o → ∀ e ∈ o.after.toList, Region.binds .any e = true → e.on < j + i
  | [], j, i, o, h, hi, e, he, hb => by simp at hi
  | o' :: r, j, i, o, h, hi, e, he, hb => by
    simp only [edgesBack, Bool.and_eq_true] at h
    cases i with
    | zero =>
      simp only [List.getElem?_cons_zero, Option.some.injEq] at hi
      subst hi
      have := List.all_eq_true.1 h.1 e he
      simp [hb] at this
      omega
    | succ i =>
      simp only [List.getElem?_cons_succ] at hi
      have := edgesBack_at h.2 hi e he hb
      omega

theorem closed_mask {ops : List Oper} {L : Nat → Prop} (hc : Closed ops L) (he : edgesBack ops 0 ops = true) : ∀ (j : Nat) (o : Oper), ops[j]? = some o → (∀ e ∈ o.after.toList, Region.binds .any e = true → L e.on) → ∀ k, (mkAt (masks ops) j).testBit k = true → L k := by
  intro j
  induction j using Nat.strongRecOn with
  | _ j ih =>
    intro o ho hl k hk
    unfold mkAt at hk
    split at hk
    · rename_i m hm
      obtain ⟨o', e, h1, h2, h3, h4⟩ := masks_ok ops j m k hm hk
      rw [ho, Option.some.injEq] at h1
      subst h1
      have hlt := edgesBack_at he ho e h2 h3
      simp only [Nat.zero_add] at hlt
      rcases h4 with rfl | ⟨m', h5, h6⟩
      · exact hl e h2 h3
      · have hLe := hl e h2 h3
        cases hoe : ops[e.on]? with
        | none =>
          have := (List.getElem?_eq_some_iff.1 ho).1
          have := List.getElem?_eq_none_iff.1 hoe
          omega
        | some oe => exact ih e.on hlt oe hoe (hc e.on oe hLe hoe) k (by simp only [mkAt, h5]; exact h6)
    · simp at hk

/-! ### what stands for every order -/
structure Ent where
  i : Nat
  o : Oper
  e : Env
  v : Value
  ex : Bool

def subMask (m d : Nat) : Bool := Nat.beq (m &&& d) m

theorem subMask_bit {m d k : Nat} (h : subMask m d = true) (hk : m.testBit k = true) : d.testBit k = true := by
  have h' := Nat.eq_of_beq_eq_true h
  rw [← h', Nat.testBit_and, Bool.and_eq_true] at hk
  exact hk.2

def isHeavy (P : Program) (o : Oper) : Bool := match cls P o with | .heavy => true | _ => false
def isRead (P : Program) (o : Oper) : Bool := match cls P o with | .read => true | _ => false

/-- The first operation, of those that compute or read, that may be done. -/
def nextQuiet (P : Program) (M : List Nat) (done : Nat) : List Oper → Nat → Option (Nat × Oper)
  | [], _ => none
  | o :: r, i => match !(done.testBit i) && (!(isHeavy P o) && subMask (mkAt M i) done) with
    | true => some (i, o)
    | false => nextQuiet P M done r (i + 1)

/-- All others that may be done. -/
def heavies (P : Program) (M : List Nat) (done : Nat) : List Oper → Nat → List (Nat × Oper)
  | [], _ => []
  | o :: r, i => match !(done.testBit i) && (isHeavy P o && subMask (mkAt M i) done) with
    | true => (i, o) :: heavies P M done r (i + 1)
    | false => heavies P M done r (i + 1)

/-- A value that was read reads so still. -/
def again (P : Program) (m : Nat) : List Ent → Pr → Pr
  | [], K => K
  | q :: r, K => match m.testBit q.i with
    | true => again P m r K
    | false => fun w => readD P q.o (rho q.e) (fun v _ => v = q.v) w ∧ again P m r K w

def allP : List Pr → Pr
  | [] => F
  | p :: ps => match ps with
    | [] => p
    | _ => fun w => p w ∧ allP ps w

theorem allP_mem : ∀ {ps : List Pr} {w : World}, allP ps w → ∀ p ∈ ps, p w
  | [], w, h, p, hp => by simp at hp
  | q :: ps, w, h, p, hp => by
    cases ps with
    | nil => simp at hp; subst hp; exact h
    | cons r ps =>
      have h' : q w ∧ allP (r :: ps) w := h
      rcases List.mem_cons.1 hp with rfl | hp
      · exact h'.1
      · exact allP_mem h'.2 p hp

def full (n : Nat) : Nat := 2 ^ n - 1

/-- One operation that computes or reads. -/
def quietD (P : Program) (ops : List Oper) (i : Nat) (o : Oper) (e : Env) (qs : List Ent) (K : List Ent → Env → Pr) : Pr :=
  grdD ops o e
    (fun e w => match notSel o.op && knownL e (tmpsOf (opnds o.op)) with
      | true => opD P o (rho e) (fun v => K (match isRead P o with | true => ⟨i, o, e, v, true⟩ :: qs | false => qs) (e.put o.dst v)) w
      | false => F w)
    (fun e => K qs (e.put o.dst undef))

def heavyStep (P : Program) (ops : List Oper) (M : List Nat) (i : Nat) (o : Oper) (e : Env) (qs : List Ent) (K : Env → Pr) : Pr :=
  grdD ops o e
    (fun e w => match notSel o.op && knownL e (tmpsOf (opnds o.op)) with
      | true => opD P o (rho e) (fun v => again P (mkAt M i) qs (K (e.put o.dst v))) w
      | false => F w)
    (fun e => K (e.put o.dst undef))

def drawD (P : Program) (ops : List Oper) (M : List Nat) (K : Env → Pr) : Nat → Nat → List Ent → Env → Pr
  | 0, _, _, _ => F
  | n + 1, done, qs, e => match nextQuiet P M done ops 0 with
    | some (i, o) => quietD P ops i o e qs (fun qs e => drawD P ops M K n (done ||| 2 ^ i) qs e)
    | none => match Nat.beq done (full ops.length) with
      | true => K e
      | false => allP ((heavies P M done ops 0).map fun (i, o) => heavyStep P ops M i o e qs (fun e => drawD P ops M K n (done ||| 2 ^ i) qs e))

/-! ### the static look -/
def hasT (l : List Tmp) (t : Tmp) : Bool := match l with
  | [] => false
  | u :: r => Nat.beq u t || hasT r t

theorem hasT_mem {l : List Tmp} {t : Tmp} (h : t ∈ l) : hasT l t = true := by
  induction l with
  | nil => simp at h
  | cons u r ih =>
    simp only [hasT, Bool.or_eq_true]
    rcases List.mem_cons.1 h with rfl | h
    · exact .inl (Nat.beq_refl _)
    · exact .inr (ih h)

def pairOk (M : List Nat) (i j : Nat) (di dj : Option Tmp) (li lj : List Tmp) : Bool :=
  (match di with
    | some t => (match dj with | some u => !(Nat.beq t u) | none => true) && (!(hasT lj t) || ((mkAt M j).testBit i || (mkAt M i).testBit j))
    | none => true) &&
  (match dj with
    | some t => !(hasT li t) || ((mkAt M j).testBit i || (mkAt M i).testBit j)
    | none => true)

def pairsOk1 (ops : List Oper) (M : List Nat) (i : Nat) (di : Option Tmp) (li : List Tmp) : List Oper → Nat → Bool
  | [], _ => true
  | o :: r, j => pairOk M i j di o.dst li (looks ops o) && pairsOk1 ops M i di li r (j + 1)

def pairsOk (ops : List Oper) (M : List Nat) : List Oper → Nat → Bool
  | [], _ => true
  | o :: r, i => pairsOk1 ops M i o.dst (looks ops o) r (i + 1) && pairsOk ops M r (i + 1)

theorem pairsOk1_at {ops : List Oper} {M : List Nat} {i : Nat} {di : Option Tmp} {li : List Tmp} : ∀ {r : List Oper} {j k : Nat} {o : Oper}, pairsOk1 ops M i di li r j = true → r[k]? = some o → pairOk M i (j + k) di o.dst li (looks ops o) = true
  | [], j, k, o, h, hk => by simp at hk
  | o' :: r, j, k, o, h, hk => by
    simp only [pairsOk1, Bool.and_eq_true] at h
    cases k with
    | zero => simp only [List.getElem?_cons_zero, Option.some.injEq] at hk; subst hk; exact h.1
    | succ k =>
      simp only [List.getElem?_cons_succ] at hk
      have := pairsOk1_at h.2 hk
      rwa [show j + 1 + k = j + (k + 1) from by omega] at this

theorem pairsOk_at {ops : List Oper} {M : List Nat} : ∀ {r : List Oper} {n i j : Nat} {oi oj : Oper}, pairsOk ops M r n = true → r[i]? = some oi → r[j]? = some oj → i < j → pairOk M (n + i) (n + j) oi.dst oj.dst (looks ops oi) (looks ops oj) = true
  | [], n, i, j, oi, oj, h, hi, hj, hlt => by simp at hi
  | o :: r, n, i, j, oi, oj, h, hi, hj, hlt => by
    simp only [pairsOk, Bool.and_eq_true] at h
    cases j with
    | zero => omega
    | succ j =>
      simp only [List.getElem?_cons_succ] at hj
      cases i with
      | zero =>
        simp only [List.getElem?_cons_zero, Option.some.injEq] at hi
        subst hi
        have := pairsOk1_at h.1 hj
        rwa [show n + 1 + j = n + (j + 1) from by omega] at this
      | succ i =>
        simp only [List.getElem?_cons_succ] at hi
        have := pairsOk_at h.2 hi hj (by omega)
        rwa [show n + 1 + i = n + (i + 1) from by omega, show n + 1 + j = n + (j + 1) from by omega] at this

/-- What two operations have in common is ordered; no slot is written twice. -/
theorem ordered {ops : List Oper} {M : List Nat} (h : pairsOk ops M ops 0 = true) {i j : Nat} {oi oj : Oper} (hi : ops[i]? = some oi) (hj : ops[j]? = some oj) (hne : i ≠ j) {t : Tmp} (ht : oi.dst = some t) :
    oj.dst ≠ some t ∧ (t ∈ looks ops oj → (mkAt M j).testBit i = true ∨ (mkAt M i).testBit j = true) := by
  rcases Nat.lt_or_gt_of_ne hne with hlt | hlt
  · have := pairsOk_at h hi hj hlt
    simp only [Nat.zero_add, pairOk, ht, Bool.and_eq_true] at this
    obtain ⟨⟨h1, h2⟩, _⟩ := this
    refine ⟨fun hd => ?_, fun hm => ?_⟩
    · simp [hd] at h1
    · simp only [hasT_mem hm, Bool.not_true, Bool.false_or, Bool.or_eq_true] at h2
      exact h2
  · have := pairsOk_at h hj hi hlt
    simp only [Nat.zero_add, pairOk, ht, Bool.and_eq_true] at this
    obtain ⟨h1, h2⟩ := this
    refine ⟨fun hd => ?_, fun hm => ?_⟩
    · simp [hd] at h1
    · simp only [hasT_mem hm, Bool.not_true, Bool.false_or, Bool.or_eq_true] at h2
      exact h2.symm

def drawOk (ops : List Oper) : Bool := edgesBack ops 0 ops && pairsOk ops (masks ops) ops 0

end Go.Sx
