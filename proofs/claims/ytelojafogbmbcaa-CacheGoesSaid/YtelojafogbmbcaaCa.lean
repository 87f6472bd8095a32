/- Contracts of package cache's functions, over whatever Back. -/
import Derived.Test.YtelojafogbmbcaaBk
set_option linter.unusedVariables false
set_option linter.unusedSimpArgs false
namespace Go.Proofs.Ytelojafogbmbcaa
open Go Go.Sx

/-! ### what a cache does, as functions -/
structure Pg where
  id : Int
  pins : Int
  bytes : List UInt8
  touched : Bool
  dirty : Bool
  lsn : Int

def hasId (id : Int) : Option Pg → Bool
  | some p => p.id == id
  | none => false
def pidx (ps : List (Option Pg)) (id : Int) : Option Nat := ps.findIdx? (hasId id)

variable (B : BkI Try.prog)

structure CSt where
  ps : List (Option Pg)
  hand : Nat
  b : B.S

def mClean (b : B.S) (p : Pg) : B.S × Int :=
  if p.dirty = false then (b, 0) else
  let f := if B.safe b < p.lsn then B.force b p.lsn else (b, 0)
  if f.2 = 0 then B.save f.1 p.id p.bytes else f

/-- The hand goes round. -/
def sweep : Nat → CSt B → CSt B × Int × Int
  | 0, s => (s, 0, -1)
  | n + 1, s => match s.ps[s.hand]? with
    | some (some p) =>
      let h := (s.hand + 1) % s.ps.length
      if p.pins > 0 then sweep n { s with hand := h }
      else if p.touched then sweep n { s with ps := s.ps.set s.hand (some { p with touched := false }), hand := h }
      else
        let c := mClean B s.b p
        if c.2 = 0 then ({ ps := s.ps.set s.hand none, hand := h, b := c.1 }, s.hand, 0) else ({ s with hand := h, b := c.1 }, 0, c.2)
    | _ => (s, 0, -1)

/-- The sweep comes to an end. -/
def Ends : Nat → CSt B → Prop
  | 0, _ => False
  | n + 1, s => match s.ps[s.hand]? with
    | some (some p) =>
      let h := (s.hand + 1) % s.ps.length
      if p.pins > 0 then Ends n { s with hand := h }
      else if p.touched then Ends n { s with ps := s.ps.set s.hand (some { p with touched := false }), hand := h }
      else True
    | _ => False

def isNo (o : Option Pg) : Bool := o.isNone
def isFree : Option Pg → Bool
  | some p => p.pins == 0
  | none => false

def mRoom (s : CSt B) : CSt B × Int × Int :=
  match s.ps.findIdx? isNo with
  | some i => (s, i, 0)
  | none => if s.ps.any isFree then sweep B (2 * s.ps.length + 1) s else (s, 0, 100)

def mPin (s : CSt B) (id : Int) : CSt B × List UInt8 × Int :=
  match pidx s.ps id with
  | some i => match s.ps[i]? with
    | some (some p) => ({ s with ps := s.ps.set i (some { p with pins := p.pins + 1, touched := true }) }, p.bytes, 0)
    | _ => (s, [], 0)
  | none =>
    let r := mRoom B s
    if r.2.2 = 0 then
      let l := B.load r.1.b id
      if l.2.1 = 0 then ({ r.1 with ps := r.1.ps.set r.2.1.toNat (some ⟨id, 1, l.2.2, true, false, 0⟩), b := l.1 }, l.2.2, 0) else ({ r.1 with b := l.1 }, [], l.2.1)
    else (r.1, [], r.2.2)

def mUnpin (s : CSt B) (id : Int) : CSt B × Int :=
  match pidx s.ps id with
  | some i => match s.ps[i]? with
    | some (some p) => if p.pins = 0 then (s, 5) else ({ s with ps := s.ps.set i (some { p with pins := p.pins - 1 }) }, 0)
    | _ => (s, 5)
  | none => (s, 5)

def mPut (s : CSt B) (id : Int) (bs : List UInt8) (l : Int) : CSt B × Int :=
  match pidx s.ps id with
  | some i => match s.ps[i]? with
    | some (some p) => if p.pins = 0 then (s, 5) else
      let l0 := if p.dirty then p.lsn else 0
      ({ s with ps := s.ps.set i (some { p with bytes := bs, dirty := true, touched := true, lsn := if l > l0 then l else l0 }) }, 0)
    | _ => (s, 5)
  | none => (s, 5)

def mFlush : Nat → Nat → CSt B → CSt B × Int
  | 0, _, s => (s, 0)
  | n + 1, i, s => match s.ps[i]? with
    | some (some p) =>
      let c := mClean B s.b p
      if c.2 = 0 then mFlush n (i + 1) { s with ps := s.ps.set i (some { p with dirty := false }), b := c.1 } else ({ s with b := c.1 }, c.2)
    | _ => mFlush n (i + 1) s

/-! ### how it lies -/
structure Slot where
  b : Nat
  s : Sl
  pg : Pg
def pgCells (x : Slot) : List Value := [.int .i64 x.pg.id, .int .i64 x.pg.pins, .slice x.s.p x.s.len x.s.cap, .bool x.pg.touched, .bool x.pg.dirty, .int .u64 x.pg.lsn]
def ptr (o : Option Slot) : Value := .pointer (o.map fun x => ⟨x.b, 0, none⟩)
def pgs (pl : List (Option Slot)) : List (Option Pg) := pl.map (Option.map Slot.pg)

structure PgOk (N : Nat) (p : Pg) : Prop where
  pins0 : 0 ≤ p.pins
  pinsN : p.pins ≤ N
  len : p.bytes.length ≤ 140737488355328

/-- Whose a block is: 0 the cache's own, 1 the row of its places, 2 its map, 3 + 2 i a place, 4 + 2 i its bytes. -/
abbrev Tau := Nat → Option Nat

structure CaL (v : Value) (N : Nat) (w : World) (c : Nat) (τ : Tau) (sl : Sl) (m : Nat) (pl : List (Option Slot)) (hand : Nat) : Prop where
  box : ∃ t, w.heap[c]? = some (.cells #[.slice sl.p sl.len sl.cap, .map (some m), .int .i64 hand, v] t (0, 0))
  row : SlC w sl 1 (pl.map ptr)
  sb : ∀ (i : Nat) (x : Slot), pl[i]? = some (some x) → ∃ t, w.heap[x.b]? = some (.cells (pgCells x).toArray t (0, 0))
  sy : ∀ (i : Nat) (x : Slot), pl[i]? = some (some x) → SlC w x.s 1 (cB x.pg.bytes)
  ok : ∀ (i : Nat) (x : Slot), pl[i]? = some (some x) → PgOk N x.pg
  tc : τ c = some 0
  tr : ∀ x ∈ blk sl, τ x = some 1
  tm : τ m = some 2
  ts : ∀ (i : Nat) (x : Slot), pl[i]? = some (some x) → τ x.b = some (3 + 2 * i)
  ty : ∀ (i : Nat) (x : Slot), pl[i]? = some (some x) → ∀ y ∈ blk x.s, τ y = some (4 + 2 * i)
  tl : ∀ x, τ x ≠ none → x < w.heap.size
  hd : hand < pl.length
  ln : pl.length ≤ 64

structure CaM (w : World) (m : Nat) (ps : List (Option Pg)) : Prop where
  mp : ∃ kv, MpR w m (Value.int .i64) kv ∧ ∀ id, aget id kv = (pidx ps id).map fun (i : Nat) => Value.int .i64 i
  uq : ∀ (i j : Nat) (p q : Pg), ps[i]? = some (some p) → ps[j]? = some (some q) → p.id = q.id → i = j

def CaAt (N : Nat) (w : World) (c : Nat) (F : Nat → Prop) (ps : List (Option Pg)) (hand : Nat) : Prop :=
  ∃ τ sl m pl, CaL B.v N w c τ sl m pl hand ∧ CaM w m (pgs pl) ∧ pgs pl = ps ∧ ∀ x, F x ↔ τ x ≠ none

variable {B}

theorem CaL.slen {v : Value} {N : Nat} {w : World} {c : Nat} {τ : Tau} {sl : Sl} {m : Nat} {pl : List (Option Slot)} {hand : Nat} (h : CaL v N w c τ sl m pl hand) : sl.len = pl.length := by
  have := h.row.len
  simpa using this.symm

theorem CaL.mono {v : Value} {N M : Nat} {w : World} {c : Nat} {τ : Tau} {sl : Sl} {m : Nat} {pl : List (Option Slot)} {hand : Nat} (h : CaL v N w c τ sl m pl hand) (hN : N ≤ M) : CaL v M w c τ sl m pl hand :=
  ⟨h.box, h.row, h.sb, h.sy, fun i x hx => ⟨(h.ok i x hx).pins0, by have := (h.ok i x hx).pinsN; omega, (h.ok i x hx).len⟩, h.tc, h.tr, h.tm, h.ts, h.ty, h.tl, h.hd, h.ln⟩

/-- Nothing of it is turned. -/
theorem CaL.keeps {v : Value} {N : Nat} {w w' : World} {c : Nat} {τ : Tau} {sl : Sl} {m : Nat} {pl : List (Option Slot)} {hand : Nat} (h : CaL v N w c τ sl m pl hand) {G : Nat → Prop} (hk : KeepsP G w w') (hG : ∀ x, G x → τ x = none) : CaL v N w' c τ sl m pl hand := by
  have no : ∀ {x k}, τ x = some k → ¬ G x := fun hx hg => by rw [hG _ hg] at hx; cases hx
  obtain ⟨t, hb⟩ := h.box
  exact ⟨⟨t, hk.at hb (no h.tc)⟩, h.row.keepsP hk (fun x hx => no (h.tr x hx)), fun i x hx => (h.sb i x hx).imp fun t hb => hk.at hb (no (h.ts i x hx)),
    fun i x hx => (h.sy i x hx).keepsP hk (fun y hy => no (h.ty i x hx y hy)), h.ok, h.tc, h.tr, h.tm, h.ts, h.ty, fun x hx => hk.lt (h.tl x hx), h.hd, h.ln⟩
theorem CaM.keeps {w w' : World} {m : Nat} {ps : List (Option Pg)} (h : CaM w m ps) {G : Nat → Prop} (hk : KeepsP G w w') (hG : ¬ G m) : CaM w' m ps := by
  obtain ⟨kv, h1, h2⟩ := h.mp
  exact ⟨⟨kv, h1.keepsP hk hG, h2⟩, h.uq⟩

theorem CaAt.bl {N : Nat} {w : World} {c : Nat} {F : Nat → Prop} {ps : List (Option Pg)} {hand : Nat} (h : CaAt B N w c F ps hand) : Bl F w := by
  obtain ⟨τ, sl, m, pl, h1, h2, rfl, hF⟩ := h
  exact fun x hx => h1.tl x ((hF x).1 hx)
theorem CaAt.keeps {N : Nat} {w w' : World} {c : Nat} {F G : Nat → Prop} {ps : List (Option Pg)} {hand : Nat} (h : CaAt B N w c F ps hand) (hk : KeepsP G w w') (hd : Dj F G) : CaAt B N w' c F ps hand := by
  obtain ⟨τ, sl, m, pl, h1, h2, h3, hF⟩ := h
  have hG : ∀ x, G x → τ x = none := fun x hx => by
    cases ht : τ x with
    | none => rfl
    | some k => exact absurd hx (hd x ((hF x).2 (by rw [ht]; simp)))
  exact ⟨τ, sl, m, pl, h1.keeps hk hG, h2.keeps hk (fun hx => by have := hG m hx; rw [h1.tm] at this; cases this), h3, hF⟩

theorem pgs_get {pl : List (Option Slot)} {i : Nat} {x : Slot} (h : pl[i]? = some (some x)) : (pgs pl)[i]? = some (some x.pg) := by simp [pgs, h]
theorem pgs_get' {pl : List (Option Slot)} {i : Nat} {p : Pg} (h : (pgs pl)[i]? = some (some p)) : ∃ x, pl[i]? = some (some x) ∧ x.pg = p := by
  simp only [pgs, List.getElem?_map, Option.map_eq_some_iff] at h
  obtain ⟨o, ho, h⟩ := h
  cases o with
  | none => simp at h
  | some x => exact ⟨x, ho, by simpa using h⟩
theorem pgs_length (pl : List (Option Slot)) : (pgs pl).length = pl.length := by simp [pgs]
theorem pgs_set (pl : List (Option Slot)) (i : Nat) (o : Option Slot) : pgs (pl.set i o) = (pgs pl).set i (o.map Slot.pg) := by simp [pgs, List.map_set]

theorem pidx_some {ps : List (Option Pg)} {id : Int} {i : Nat} (h : pidx ps id = some i) : ∃ p, ps[i]? = some (some p) ∧ p.id = id := by
  unfold pidx at h
  rw [List.findIdx?_eq_some_iff_getElem] at h
  obtain ⟨hi, h, _⟩ := h
  cases hp : ps[i] with
  | none => rw [hp] at h; simp [hasId] at h
  | some p => rw [hp] at h; simp [hasId] at h; exact ⟨p, by rw [List.getElem?_eq_getElem hi, hp], h⟩
theorem pidx_none {ps : List (Option Pg)} {id : Int} (h : pidx ps id = none) {i : Nat} {p : Pg} (hp : ps[i]? = some (some p)) : p.id ≠ id := by
  unfold pidx at h
  rw [List.findIdx?_eq_none_iff] at h
  have := h (some p) (List.mem_of_getElem? hp)
  simpa [hasId] using this
theorem pidx_of {ps : List (Option Pg)} (uq : ∀ (i j : Nat) (p q : Pg), ps[i]? = some (some p) → ps[j]? = some (some q) → p.id = q.id → i = j) {i : Nat} {p : Pg} (hp : ps[i]? = some (some p)) : pidx ps p.id = some i := by
  cases h : pidx ps p.id with
  | none => exact absurd rfl (pidx_none h hp)
  | some j =>
    obtain ⟨q, hq, he⟩ := pidx_some h
    rw [uq i j p q hp hq he.symm]

/-- One place is turned. -/
theorem CaL.upd {v : Value} {N : Nat} {w w' : World} {c : Nat} {τ τ' : Tau} {sl : Sl} {m : Nat} {pl : List (Option Slot)} {hand : Nat} (h : CaL v N w c τ sl m pl hand) {i : Nat} (hi : i < pl.length) (o : Option Slot)
    (hk : KeepsP (fun x => τ x = some 1 ∨ τ x = some 2 ∨ τ x = some (3 + 2 * i) ∨ τ x = some (4 + 2 * i)) w w') (hτ : ∀ x, x < w.heap.size → τ' x = τ x) (hl : ∀ x, τ' x ≠ none → x < w'.heap.size)
    (hr : SlC w' sl 1 ((pl.set i o).map ptr))
    (ho : ∀ x : Slot, o = some x → (∃ t, w'.heap[x.b]? = some (.cells (pgCells x).toArray t (0, 0))) ∧ SlC w' x.s 1 (cB x.pg.bytes) ∧ PgOk N x.pg ∧ τ' x.b = some (3 + 2 * i) ∧ ∀ y ∈ blk x.s, τ' y = some (4 + 2 * i)) : CaL v N w' c τ' sl m (pl.set i o) hand := by
  obtain ⟨t, hb⟩ := h.box
  have lt : ∀ {x k}, τ x = some k → x < w.heap.size := fun hx => h.tl _ (by rw [hx]; simp)
  have hg : ∀ {j : Nat} {x : Slot}, (pl.set i o)[j]? = some (some x) → (j = i ∧ o = some x) ∨ (j ≠ i ∧ pl[j]? = some (some x)) := by
    intro j x hx
    by_cases hj : j = i
    · subst hj
      rw [List.getElem?_set_self hi] at hx
      exact .inl ⟨rfl, by simpa using hx⟩
    · rw [List.getElem?_set_ne (Ne.symm hj)] at hx
      exact .inr ⟨hj, hx⟩
  refine ⟨⟨t, hk.at hb (by rw [h.tc]; simp; omega)⟩, hr, ?_, ?_, ?_, by rw [hτ _ (lt h.tc)]; exact h.tc, fun x hx => by rw [hτ _ (lt (h.tr x hx))]; exact h.tr x hx, by rw [hτ _ (lt h.tm)]; exact h.tm, ?_, ?_, hl, by simpa using h.hd, by simpa using h.ln⟩
  · intro j x hx
    rcases hg hx with ⟨rfl, hz⟩ | ⟨hj, hx⟩
    · exact (ho x hz).1
    · exact (h.sb j x hx).imp fun t hb => hk.at hb (by rw [h.ts j x hx]; simp; omega)
  · intro j x hx
    rcases hg hx with ⟨rfl, hz⟩ | ⟨hj, hx⟩
    · exact (ho x hz).2.1
    · exact (h.sy j x hx).keepsP hk (fun y hy => by rw [h.ty j x hx y hy]; simp; omega)
  · intro j x hx
    rcases hg hx with ⟨rfl, hz⟩ | ⟨hj, hx⟩
    · exact (ho x hz).2.2.1
    · exact h.ok j x hx
  · intro j x hx
    rcases hg hx with ⟨rfl, hz⟩ | ⟨hj, hx⟩
    · exact (ho x hz).2.2.2.1
    · rw [hτ _ (lt (h.ts j x hx))]; exact h.ts j x hx
  · intro j x hx y hy
    rcases hg hx with ⟨rfl, hz⟩ | ⟨hj, hx⟩
    · exact (ho x hz).2.2.2.2 y hy
    · rw [hτ _ (lt (h.ty j x hx y hy))]; exact h.ty j x hx y hy

/-- A place's fields are turned, not its bytes nor its number. -/
theorem CaL.put {v : Value} {N : Nat} {w w' : World} {c : Nat} {τ : Tau} {sl : Sl} {m : Nat} {pl : List (Option Slot)} {hand : Nat} (h : CaL v N w c τ sl m pl hand) {i : Nat} {x : Slot} (hi : pl[i]? = some (some x)) (p : Pg)
    (hk : Keeps [x.b] w w') (hb : ∃ t, w'.heap[x.b]? = some (.cells (pgCells { x with pg := p }).toArray t (0, 0))) (hp : p.bytes = x.pg.bytes) (hok : PgOk N p) : CaL v N w' c τ sl m (pl.set i (some { x with pg := p })) hand := by
  have hlt := (List.getElem?_eq_some_iff.1 hi).1
  have hts := h.ts i x hi
  have ne : ∀ {y k}, τ y = some k → k ≠ 3 + 2 * i → y ∉ [x.b] := fun hy hk' hm => by
    simp at hm; subst hm; rw [hts] at hy; cases hy; exact hk' rfl
  refine h.upd hlt _ (hk.toP fun y hy => .inl (by simp at hy; subst hy; exact .inr (.inr (.inl hts)))) (fun _ _ => rfl) (fun y hy => Nat.lt_of_lt_of_le (h.tl y hy) hk.size) ?_ ?_
  · have e : (pl.set i (some { x with pg := p })).map ptr = pl.map ptr := by
      rw [List.map_set]
      apply List.ext_getElem?
      intro j
      by_cases hj : i = j
      · subst hj
        rw [List.getElem?_set_self (by simpa using hlt), List.getElem?_map, hi]
        rfl
      · rw [List.getElem?_set_ne hj]
    rw [e]
    exact h.row.keeps hk fun y hy => ne (h.tr y hy) (by omega)
  · intro y hy
    cases hy
    refine ⟨hb, ?_, hok, hts, h.ty i x hi⟩
    simp only [hp]
    exact (h.sy i x hi).keeps hk fun y hy => ne (h.ty i x hi y hy) (by omega)

theorem set_uq {ps : List (Option Pg)} (uq : ∀ (i j : Nat) (p q : Pg), ps[i]? = some (some p) → ps[j]? = some (some q) → p.id = q.id → i = j) {i : Nat} {p p' : Pg} (hp : ps[i]? = some (some p)) (he : p'.id = p.id) :
    (∀ (a b : Nat) (x y : Pg), (ps.set i (some p'))[a]? = some (some x) → (ps.set i (some p'))[b]? = some (some y) → x.id = y.id → a = b) ∧ ∀ id, pidx (ps.set i (some p')) id = pidx ps id := by
  have hi := (List.getElem?_eq_some_iff.1 hp).1
  have key : ∀ (a : Nat) (x : Pg), (ps.set i (some p'))[a]? = some (some x) → ∃ y, ps[a]? = some (some y) ∧ x.id = y.id := by
    intro a x hx
    by_cases ha : i = a
    · subst ha
      rw [List.getElem?_set_self hi] at hx
      cases hx
      exact ⟨p, hp, he⟩
    · rw [List.getElem?_set_ne ha] at hx
      exact ⟨x, hx, rfl⟩
  refine ⟨fun a b x y hx hy hxy => ?_, fun id => ?_⟩
  · obtain ⟨x', hx', ex⟩ := key a x hx
    obtain ⟨y', hy', ey⟩ := key b y hy
    exact uq a b x' y' hx' hy' (by rw [← ex, ← ey, hxy])
  · unfold pidx
    have e : ∀ l : List (Option Pg), l.findIdx? (hasId id) = (l.map (hasId id)).findIdx? (fun b => b) := by
      intro l
      rw [List.findIdx?_map]
      rfl
    rw [e, e]
    congr 1
    apply List.ext_getElem?
    intro j
    rw [List.getElem?_map, List.getElem?_map]
    by_cases hj : i = j
    · subst hj
      rw [List.getElem?_set_self hi, hp]
      simp [hasId, he]
    · rw [List.getElem?_set_ne hj]

theorem CaM.set {w : World} {m : Nat} {ps : List (Option Pg)} (h : CaM w m ps) {i : Nat} {p p' : Pg} (hp : ps[i]? = some (some p)) (he : p'.id = p.id) : CaM w m (ps.set i (some p')) := by
  obtain ⟨h1, h2⟩ := set_uq h.uq hp he
  obtain ⟨kv, h3, h4⟩ := h.mp
  exact ⟨⟨kv, h3, fun id => by rw [h2, h4]⟩, h1⟩

end Go.Proofs.Ytelojafogbmbcaa
