/- Contracts of the reference's cache. -/
import Derived.Test.YtelojafogbmbcaaDi
set_option linter.unusedVariables false
set_option linter.unusedSimpArgs false
namespace Go.Proofs.Ytelojafogbmbcaa
open Go Go.Sx
variable {β : Nat}

def encP : Option Pg → List Value
  | some p => [.bool true, .int .i64 p.id, .int .i64 p.pins, .string (BA p.bytes), .bool p.touched, .bool p.dirty, .int .u64 p.lsn]
  | none => [.bool false, .int .i64 0, .int .i64 0, .string (BA []), .bool false, .bool false, .int .u64 0]
theorem encP_len (o : Option Pg) : (encP o).length = 7 := by cases o <;> rfl
theorem encP_one (o : Option Pg) : ∀ v ∈ encP o, v.oneCell' = true := by
  cases o <;> simp [encP, Value.oneCell']

/-- The reference's cache, without its Back. -/
structure RcX (w : World) (c : Nat) (sl : Sl) (ps : List (Option Pg)) (hand b N : Nat) : Prop where
  box : ∃ t, w.heap[c]? = some (.cells #[.slice sl.p sl.len sl.cap, .int .i64 hand, .pointer (some ⟨b, 0, none⟩)] t (0, 0))
  row : SlC w sl 7 (ps.flatMap encP)
  cs : c ∉ blk sl
  ok : ∀ (i : Nat) (p : Pg), ps[i]? = some (some p) → PgOk N p
  hd : hand < ps.length
  ln : ps.length ≤ 64

theorem RcX.slen {w : World} {c : Nat} {sl : Sl} {ps : List (Option Pg)} {hand b N : Nat} (h : RcX w c sl ps hand b N) : sl.len = ps.length := h.row.slen encP_len (by omega)
theorem RcX.keepsP {w w' : World} {c : Nat} {sl : Sl} {ps : List (Option Pg)} {hand b N : Nat} (h : RcX w c sl ps hand b N) {F : Nat → Prop} (hk : KeepsP F w w') (hc : ¬ F c) (hs : ∀ x ∈ blk sl, ¬ F x) : RcX w' c sl ps hand b N := by
  obtain ⟨t, hb⟩ := h.box
  exact ⟨⟨t, hk.at hb hc⟩, h.row.keepsP hk hs, h.cs, h.ok, h.hd, h.ln⟩
theorem RcX.grow {w w' : World} {c : Nat} {sl : Sl} {ps : List (Option Pg)} {hand b N : Nat} (h : RcX w c sl ps hand b N) (hk : Keeps [] w w') : RcX w' c sl ps hand b N := h.keepsP (F := fun _ => False) (hk.toP (by simp)) (fun h => h) (fun _ _ h => h)
theorem RcX.mono {w : World} {c : Nat} {sl : Sl} {ps : List (Option Pg)} {hand b N M : Nat} (h : RcX w c sl ps hand b N) (hN : N ≤ M) : RcX w c sl ps hand b M :=
  ⟨h.box, h.row, h.cs, fun i p hp => ⟨(h.ok i p hp).pins0, by have := (h.ok i p hp).pinsN; omega, (h.ok i p hp).len⟩, h.hd, h.ln⟩

/-- A place is turned. -/
theorem RcX.set {w w' : World} {c : Nat} {sl : Sl} {ps : List (Option Pg)} {hand b N : Nat} (h : RcX w c sl ps hand b N) {i : Nat} {o : Option Pg} (ho : ∀ p, o = some p → PgOk N p) (hr : SlC w' sl 7 ((ps.set i o).flatMap encP)) (hk : Keeps (blk sl) w w') : RcX w' c sl (ps.set i o) hand b N := by
  obtain ⟨t, hb⟩ := h.box
  refine ⟨⟨t, hk.at hb h.cs⟩, hr, h.cs, fun j p hp => ?_, by simpa using h.hd, by simpa using h.ln⟩
  by_cases hj : i = j
  · subst hj
    by_cases hl : i < ps.length
    · rw [List.getElem?_set_self hl] at hp; cases hp; exact ho p rfl
    · rw [List.getElem?_eq_none (by simp; omega)] at hp; cases hp
  · rw [List.getElem?_set_ne hj] at hp; exact h.ok j p hp

/-- What lies at a place. -/
theorem RcX.at {w : World} {c : Nat} {sl : Sl} {ps : List (Option Pg)} {hand b N : Nat} (h : RcX w c sl ps hand b N) {i : Nat} {o : Option Pg} (hi : ps[i]? = some o) {K : Addr → Pr}
    (k : ∀ (pb po : Nat), sl.p = some ⟨pb, po, none⟩ → blk sl = [pb] → (∀ j, j < 7 → cellO w.heap[pb]? (po + i * 7 + j) = (encP o)[j]?) → K ⟨pb, po + i * 7, none⟩ w) : Ix sl (i : Int) 7 K w := by
  have hlt := (List.getElem?_eq_some_iff.1 hi).1
  have hl := h.slen
  obtain ⟨pb, po, hp, hbl⟩ := h.row.base (by omega)
  rw [Ix_base hp (by omega) (by omega), Int.toNat_natCast]
  exact k pb po hp hbl fun j hj => h.row.item encP_len hp hi j hj

theorem rfind_ok {w : World} {c : Nat} {sl : Sl} {ps : List (Option Pg)} {hand b N : Nat} (h : RcX w c sl ps hand b N) (id : Int) :
    Cl Try.prog i_sumpterref10_Cache_find [.pointer (some ⟨c, 0, none⟩), .int .i64 id] false [.sc (.i .i64)] (fun r w' => r.1 = oidx (pidx ps id) ∧ Keeps [] w w') w := by
  apply sumpterref10_Cache_find_call
  unfold sumpterref10_Cache_find
  obtain ⟨t, hbox⟩ := h.box
  simp only [sx, sxl, hbox, Nat.zero_add]
  have hl := h.slen
  have hln := h.ln
  refine ⟨fun k st w' => ∃ i : Nat, st = (0, (i : Int), ()) ∧ i ≤ ps.length ∧ k = ps.length - i ∧ Keeps [] w w' ∧ ∀ j o, j < i → ps[j]? = some o → hasId id o = false, ⟨ps.length, 0, rfl, by omega, by omega, Keeps.refl _ _, fun j o hj => by omega⟩, ?_⟩
  rintro _ _ w1 ⟨i, rfl, hi, rfl, hk1, hno⟩
  dsimp only
  rw [hl]
  by_cases hil : i < ps.length
  · rw [decide_eq_true (by omega)]
    simp only [sx]
    obtain ⟨o, ho⟩ : ∃ o, ps[i]? = some o := ⟨_, List.getElem?_eq_getElem hil⟩
    have hw : w64 ((i : Int) + 1) = ((i + 1 : Nat) : Int) := w64_nat (n := i + 1) (by omega)
    refine (h.grow hk1).at ho fun pb po hp hbl hat => ?_
    have fin : ∀ w2, Keeps [] w1 w2 → hasId id o = false → (∃ m, m < ps.length - i ∧ ∃ i_1 : Nat, ((0 : Int), w64 ((i : Int) + 1), ()) = (0, (i_1 : Int), ()) ∧ i_1 ≤ ps.length ∧ m = ps.length - i_1 ∧ Keeps [] w w2 ∧ ∀ j o, j < i_1 → ps[j]? = some o → hasId id o = false) := by
      intro w2 hk2 hh
      refine ⟨ps.length - (i + 1), by omega, i + 1, by rw [hw], by omega, rfl, hk1.trans hk2 (by simp), fun j o' hj ho' => ?_⟩
      rcases Nat.lt_or_ge j i with h' | h'
      · exact hno j o' h' ho'
      · have : j = i := by omega
        subst this
        rw [ho] at ho'
        cases ho'
        exact hh
    cases o with
    | none =>
      have e0 := hat 0 (by omega)
      have e1 := hat 1 (by omega)
      have e2 := hat 2 (by omega)
      have e3 := hat 3 (by omega)
      have e4 := hat 4 (by omega)
      have e5 := hat 5 (by omega)
      have e6 := hat 6 (by omega)
      simp only [encP, sxl] at e0 e1 e2 e3 e4 e5 e6
      rw [Nat.add_zero] at e0
      simp (disch := ((try simp only [sx]); first | done | omega)) only [sx, sxc, sxl, e0, e1, e2, e3, e4, e5, e6, Jp, Nat.zero_add, Nat.add_zero, Nat.reduceAdd, Nat.reduceLT, true_and]
      exact fin _ (((Keeps.refl [] w1).alloc _).setObjW (.inr (by omega)) _) rfl
    | some p =>
      have e0 := hat 0 (by omega)
      have e1 := hat 1 (by omega)
      have e2 := hat 2 (by omega)
      have e3 := hat 3 (by omega)
      have e4 := hat 4 (by omega)
      have e5 := hat 5 (by omega)
      have e6 := hat 6 (by omega)
      simp only [encP, sxl] at e0 e1 e2 e3 e4 e5 e6
      rw [Nat.add_zero] at e0
      simp (disch := ((try simp only [sx]); first | done | omega)) only [sx, sxc, sxl, e0, e1, e2, e3, e4, e5, e6, Jp, Nat.zero_add, Nat.add_zero, Nat.reduceAdd, Nat.reduceLT, true_and]
      have hkn : Keeps [] w1 (setObjW (w1.alloc (.cells #[.bool false, .int .i64 0, .int .i64 0, .string (BA []), .bool false, .bool false, .int .u64 0] 79)) w1.heap.size (.cells #[.bool true, .int .i64 p.id, .int .i64 p.pins, .string (BA p.bytes), .bool p.touched, .bool p.dirty, .int .u64 p.lsn] 79)) := ((Keeps.refl [] w1).alloc _).setObjW (.inr (by omega)) _
      refine Br_of (fun hc => ?_) (fun hc => fin _ hkn hc)
      refine ⟨?_, hk1.trans hkn (by simp)⟩
      show (i : Int) = _
      rw [show pidx ps id = some i from findIdx_go ho hc hno]
      rfl
  · rw [decide_eq_false (by omega)]
    simp only [sx]
    refine ⟨?_, hk1⟩
    show (-1 : Int) = _
    have : pidx ps id = none := by
      unfold pidx
      rw [List.findIdx?_eq_none_iff]
      intro o ho
      obtain ⟨j, hj⟩ := List.mem_iff_getElem?.1 ho
      exact hno j o (by have := (List.getElem?_eq_some_iff.1 hj).1; omega) hj
    rw [this]
    rfl

end Go.Proofs.Ytelojafogbmbcaa
