/- CachePinned's plain law: pins are counted, a page that is pinned stays. -/
import Derived.Test.YtelojafogbmbcaaCf
set_option linter.unusedVariables false
set_option linter.unusedSimpArgs false
namespace Go.Proofs.Ytelojafogbmbcaa
open Go Go.Sx

def pin1 (k : Int) : Option Pg → Int
  | some p => if p.id = k then p.pins else 0
  | none => 0
def pinsOf (ps : List (Option Pg)) (k : Int) : Int := (ps.map (pin1 k)).sum

theorem sum_set (f : Option Pg → Int) : ∀ (ps : List (Option Pg)) (i : Nat) (o o' : Option Pg), ps[i]? = some o → ((ps.set i o').map f).sum = (ps.map f).sum - f o + f o'
  | [], i, o, o', h => by simp at h
  | x :: ps, 0, o, o', h => by
    simp only [List.getElem?_cons_zero, Option.some.injEq] at h
    subst h
    simp only [List.set_cons_zero, List.map_cons, List.sum_cons]
    omega
  | x :: ps, i + 1, o, o', h => by
    simp only [List.getElem?_cons_succ] at h
    simp only [List.set_cons_succ, List.map_cons, List.sum_cons, sum_set f ps i o o' h]
    omega
theorem pinsOf_set {ps : List (Option Pg)} {i : Nat} {o : Option Pg} (h : ps[i]? = some o) (o' : Option Pg) (k : Int) : pinsOf (ps.set i o') k = pinsOf ps k - pin1 k o + pin1 k o' := sum_set (pin1 k) ps i o o' h

theorem sum_zero {f : Option Pg → Int} : ∀ {ps : List (Option Pg)}, (∀ o ∈ ps, f o = 0) → (ps.map f).sum = 0
  | [], _ => rfl
  | x :: ps, h => by rw [List.map_cons, List.sum_cons, h x List.mem_cons_self, sum_zero fun o ho => h o (List.mem_cons_of_mem _ ho)]; rfl
theorem pinsOf_none {ps : List (Option Pg)} {k : Int} (h : pidx ps k = none) : pinsOf ps k = 0 := by
  refine sum_zero fun o ho => ?_
  obtain ⟨j, hj⟩ := List.mem_iff_getElem?.1 ho
  cases o with
  | none => rfl
  | some p => simp only [pin1]; rw [if_neg (pidx_no.1 h j p hj)]
theorem pinsOf_some {ps : List (Option Pg)} (uq : ∀ (i j : Nat) (p q : Pg), ps[i]? = some (some p) → ps[j]? = some (some q) → p.id = q.id → i = j) {i : Nat} {p : Pg} (hp : ps[i]? = some (some p)) : pinsOf ps p.id = p.pins := by
  have h1 := pinsOf_set hp none p.id
  have h0 : pinsOf (ps.set i none) p.id = 0 := by
    refine pinsOf_none (pidx_no.2 fun j q hq => ?_)
    by_cases hj : i = j
    · subst hj
      rw [List.getElem?_set_self (List.getElem?_eq_some_iff.1 hp).1] at hq
      cases hq
    · rw [List.getElem?_set_ne hj] at hq
      exact fun he => hj (uq i j p q hp hq he.symm)
  rw [h0] at h1
  simp only [pin1, if_true] at h1
  omega

/-- The Back answers no error for the pages 1 to 6. -/
structure Good (σ : BSt) : Prop where
  left : σ.left = -1
  pages : ∀ k, 1 ≤ k → k ≤ 6 → σ.pages k ≠ none

theorem Good.next {σ : BSt} (h : Good σ) (c : BCall) : Good (σ.next c) := ⟨by simp [BSt.next, h.left], h.pages⟩

variable {b : Nat}
theorem Good.force {s : BS} (h : Good s.σ) (l : Int) : Good ((refB b).force s l).1.σ ∧ ((refB b).force s l).2 = 0 := by
  show Good (s.σ.force l).1 ∧ (s.σ.force l).2 = 0
  unfold BSt.force
  rw [if_neg (by rw [h.left]; decide)]
  exact ⟨⟨(h.next ⟨3, 0, l, []⟩).left, h.pages⟩, rfl⟩
theorem Good.save {s : BS} (h : Good s.σ) (id : Int) (bs : List UInt8) : Good ((refB b).save s id bs).1.σ ∧ ((refB b).save s id bs).2 = 0 := by
  show Good (s.σ.save id _).1 ∧ (s.σ.save id _).2 = 0
  unfold BSt.save
  rw [if_neg (by rw [h.left]; decide)]
  refine ⟨⟨(h.next ⟨2, id, 0, bs.take 140737488355328⟩).left, fun k h1 h2 => ?_⟩, rfl⟩
  simp only
  split
  · simp
  · exact h.pages k h1 h2
theorem Good.load {s : BS} (h : Good s.σ) (id : Int) (h1 : 1 ≤ id) (h2 : id ≤ 6) : Good ((refB b).load s id).1.σ ∧ ((refB b).load s id).2.1 = 0 := by
  show Good (s.σ.load id).1 ∧ (s.σ.load id).2.1 = 0
  unfold BSt.load
  rw [if_neg (by rw [h.left]; decide)]
  have := h.pages id h1 h2
  cases hp : s.σ.pages id with
  | none => exact absurd hp this
  | some x => exact ⟨h.next _, rfl⟩
theorem Good.clean {s : BS} (h : Good s.σ) (p : Pg) : Good (mClean (refB b) s p).1.σ ∧ (mClean (refB b) s p).2 = 0 := by
  unfold mClean
  split
  · exact ⟨h, rfl⟩
  · simp only
    split
    · obtain ⟨h1, h2⟩ := h.force (b := b) p.lsn
      rw [if_pos h2]
      exact h1.save p.id p.bytes
    · rw [if_pos rfl]
      exact h.save p.id p.bytes

structure Fine (s : CSt (refB b)) : Prop where
  pins : ∀ (i : Nat) (p : Pg), s.ps[i]? = some (some p) → 0 ≤ p.pins
  ids : ∀ (i : Nat) (p : Pg), s.ps[i]? = some (some p) → 1 ≤ p.id ∧ p.id ≤ 6
  good : Good s.b.σ

theorem Fine.set {s : CSt (refB b)} (h : Fine s) {i : Nat} {o : Option Pg} (ho : ∀ p, o = some p → 0 ≤ p.pins ∧ 1 ≤ p.id ∧ p.id ≤ 6) {hand : Nat} {t : BS} (ht : Good t.σ) : Fine (b := b) (CSt.mk (B := refB b) (s.ps.set i o) hand t) := by
  have key : ∀ (j : Nat) (q : Pg), (s.ps.set i o)[j]? = some (some q) → o = some q ∨ s.ps[j]? = some (some q) := by
    intro j q hq
    by_cases hj : i = j
    · subst hj
      by_cases hl : i < s.ps.length
      · rw [List.getElem?_set_self hl] at hq; cases hq; exact .inl rfl
      · rw [List.getElem?_eq_none (by simp; omega)] at hq; cases hq
    · rw [List.getElem?_set_ne hj] at hq; exact .inr hq
  refine ⟨fun j q hq => ?_, fun j q hq => ?_, ht⟩
  · rcases key j q hq with h' | h'
    · exact (ho q h').1
    · exact h.pins j q h'
  · rcases key j q hq with h' | h'
    · exact (ho q h').2
    · exact h.ids j q h'

theorem sweep_law (n : Nat) : ∀ (s : CSt (refB b)), Ends (refB b) n s → Fine s → (sweep (refB b) n s).2.2 = 0 ∧ Fine (sweep (refB b) n s).1 ∧ (sweep (refB b) n s).1.ps.length = s.ps.length ∧ (∀ k, pinsOf (sweep (refB b) n s).1.ps k = pinsOf s.ps k) ∧
    ∃ i : Nat, (sweep (refB b) n s).2.1 = i ∧ (sweep (refB b) n s).1.ps[i]? = some none := by
  induction n with
  | zero => intro s h; exact h.elim
  | succ n ih =>
    intro s he hf
    unfold Ends at he
    unfold sweep
    split at he
    · rename_i p hp
      dsimp only at he ⊢
      have hlt := (List.getElem?_eq_some_iff.1 hp).1
      split at he
      · rename_i hc
        rw [if_pos hc]
        exact ih _ he ⟨hf.pins, hf.ids, hf.good⟩
      · rename_i hc
        rw [if_neg hc]
        split at he
        · rename_i ht
          rw [if_pos ht]
          obtain ⟨h1, h2, h3, h4, h5⟩ := ih _ he (hf.set (fun q hq => by cases hq; exact ⟨hf.pins _ p hp, hf.ids _ p hp⟩) hf.good)
          refine ⟨h1, h2, by rw [h3]; simp, fun k => ?_, h5⟩
          rw [h4]
          simp only
          rw [pinsOf_set hp]
          simp only [pin1]
          omega
        · rename_i ht
          rw [if_neg ht]
          obtain ⟨hg, hz⟩ := hf.good.clean (b := b) p
          rw [if_pos hz]
          refine ⟨rfl, hf.set (fun q hq => by cases hq) hg, by simp, fun k => ?_, s.hand, rfl, by simp only; rw [List.getElem?_set_self hlt]⟩
          simp only
          rw [pinsOf_set hp]
          simp only [pin1]
          have := hf.pins _ p hp
          split <;> omega
    · exact he.elim

theorem room_law {s : CSt (refB b)} (hh : s.hand < s.ps.length) (hf : Fine s) : ((mRoom (refB b) s).2.2 = 0 ∨ (mRoom (refB b) s).2.2 = 100) ∧ Fine (mRoom (refB b) s).1 ∧ (mRoom (refB b) s).1.ps.length = s.ps.length ∧ (∀ k, pinsOf (mRoom (refB b) s).1.ps k = pinsOf s.ps k) ∧
    ((mRoom (refB b) s).2.2 = 0 → ∃ i : Nat, (mRoom (refB b) s).2.1 = i ∧ (mRoom (refB b) s).1.ps[i]? = some none) := by
  unfold mRoom
  split
  · rename_i i hi
    refine ⟨.inl rfl, hf, rfl, fun k => rfl, fun _ => ⟨i, rfl, ?_⟩⟩
    rw [List.findIdx?_eq_some_iff_getElem] at hi
    obtain ⟨hi, h1, _⟩ := hi
    simp only
    rw [List.getElem?_eq_getElem hi]
    cases hx : s.ps[i] with
    | none => rfl
    | some p => rw [hx] at h1; simp [isNo] at h1
  · rename_i hn
    split
    · rename_i ha
      have hall : ∀ o ∈ s.ps, o ≠ none := by
        intro o ho he
        subst he
        rw [List.findIdx?_eq_none_iff] at hn
        have := hn none ho
        simp [isNo] at this
      obtain ⟨h1, h2, h3, h4, h5⟩ := sweep_law _ s (ends_any hh hall ha) hf
      exact ⟨.inl h1, h2, h3, h4, fun _ => h5⟩
    · exact ⟨.inr rfl, hf, rfl, fun k => rfl, fun h => absurd (show (100 : Int) = 0 from h) (by decide)⟩

theorem pin_law {s : CSt (refB b)} (hh : s.hand < s.ps.length) (hf : Fine s) {id : Int} (h1 : 1 ≤ id) (h2 : id ≤ 6) :
    ((mPin (refB b) s id).2.2 = 0 ∨ (mPin (refB b) s id).2.2 = 100) ∧ Fine (mPin (refB b) s id).1 ∧ (mPin (refB b) s id).1.ps.length = s.ps.length ∧
    ∀ k, pinsOf (mPin (refB b) s id).1.ps k = pinsOf s.ps k + (if (mPin (refB b) s id).2.2 = 0 ∧ k = id then 1 else 0) := by
  unfold mPin
  split
  · rename_i i hi
    obtain ⟨p, hp, he⟩ := pidx_some hi
    simp only [hp]
    refine ⟨.inl (by trivial), hf.set (fun q hq => by cases hq; exact ⟨by have := hf.pins i p hp; simp only; omega, hf.ids i p hp⟩) hf.good, by simp, fun k => ?_⟩
    rw [pinsOf_set hp]
    simp only [pin1, he, true_and, eq_comm (a := k)]
    split <;> omega
  · rename_i hn
    obtain ⟨g1, g2, g3, g4, g5⟩ := room_law hh hf
    simp only
    by_cases h0 : (mRoom (refB b) s).2.2 = 0
    · rw [if_pos h0]
      obtain ⟨i, hi1, hi2⟩ := g5 h0
      obtain ⟨l1, l2⟩ := g2.good.load (b := b) id h1 h2
      rw [if_pos l2]
      refine ⟨.inl rfl, g2.set (fun q hq => by cases hq; exact ⟨by show (0 : Int) ≤ 1; decide, h1, h2⟩) l1, by simp [g3], fun k => ?_⟩
      have hit : (mRoom (refB b) s).2.1.toNat = i := by rw [hi1]; rfl
      simp only [hit]
      rw [pinsOf_set hi2, g4]
      simp only [pin1, true_and, eq_comm (a := k)]
      omega
    · rw [if_neg h0]
      refine ⟨g1, g2, g3, fun k => ?_⟩
      rw [g4, if_neg (fun hh => h0 hh.1)]
      omega

theorem unpin_law {s : CSt (refB b)} (uq : ∀ (i j : Nat) (p q : Pg), s.ps[i]? = some (some p) → s.ps[j]? = some (some q) → p.id = q.id → i = j) (hf : Fine s) (id : Int) :
    ((mUnpin (refB b) s id).2 = 0 ↔ pinsOf s.ps id > 0) ∧ Fine (mUnpin (refB b) s id).1 ∧ (mUnpin (refB b) s id).1.ps.length = s.ps.length ∧
    ∀ k, pinsOf (mUnpin (refB b) s id).1.ps k = pinsOf s.ps k - (if pinsOf s.ps id > 0 ∧ k = id then 1 else 0) := by
  unfold mUnpin
  split
  · rename_i i hi
    obtain ⟨p, hp, he⟩ := pidx_some hi
    subst he
    have hpo := pinsOf_some uq hp
    have hp0 := hf.pins i p hp
    simp only [hp]
    by_cases h0 : p.pins = 0
    · rw [if_pos h0]
      refine ⟨⟨fun h => absurd (show (5 : Int) = 0 from h) (by decide), fun h => by omega⟩, hf, rfl, fun k => ?_⟩
      rw [if_neg (by omega)]
      simp
    · rw [if_neg h0]
      refine ⟨⟨fun _ => by omega, fun _ => rfl⟩, hf.set (fun q hq => by cases hq; exact ⟨by simp only; omega, hf.ids i p hp⟩) hf.good, by simp, fun k => ?_⟩
      rw [pinsOf_set hp, hpo]
      simp only [pin1, eq_comm (a := k)]
      split
      · rw [if_pos (by omega)]; omega
      · rw [if_neg (by omega)]; omega
  · rename_i hn
    have hpo := pinsOf_none hn
    refine ⟨⟨fun h => absurd (show (5 : Int) = 0 from h) (by decide), fun h => by omega⟩, hf, rfl, fun k => ?_⟩
    rw [if_neg (by omega)]
    simp

/-- How many of 1 .. n hold. -/
def cntI (f : Int → Bool) : Nat → Nat
  | 0 => 0
  | n + 1 => cntI f n + (f ((n + 1 : Nat) : Int)).toNat
theorem cntI_or (f g : Int → Bool) : ∀ n, cntI (fun k => f k || g k) n ≤ cntI f n + cntI g n
  | 0 => by simp [cntI]
  | n + 1 => by
    have := cntI_or f g n
    simp only [cntI]
    cases f ((n + 1 : Nat) : Int) <;> cases g ((n + 1 : Nat) : Int) <;> simp <;> omega
theorem cntI_one (a : Int) : ∀ n, cntI (fun k => a == k) n ≤ 1 ∧ (((n : Nat) : Int) < a → cntI (fun k => a == k) n = 0)
  | 0 => by simp [cntI]
  | n + 1 => by
    obtain ⟨h1, h2⟩ := cntI_one a n
    simp only [cntI]
    constructor
    · by_cases h : a = ((n + 1 : Nat) : Int)
      · have := h2 (by omega)
        rw [this, show (a == ((n + 1 : Nat) : Int)) = true from by simp [h]]
        decide
      · rw [show (a == ((n + 1 : Nat) : Int)) = false from beq_eq_false_iff_ne.2 h]
        simp; omega
    · intro h
      have := h2 (by omega)
      rw [this, show (a == ((n + 1 : Nat) : Int)) = false from by simp; omega]
      rfl
theorem cntI_false : ∀ n, cntI (fun _ => false) n = 0
  | 0 => rfl
  | n + 1 => by simp [cntI, cntI_false n]

theorem cnt_places : ∀ (ps : List (Option Pg)) (n : Nat), cntI (fun k => (pidx ps k).isSome) n ≤ ps.length
  | [], n => by
    have : (fun k => (pidx [] k).isSome) = fun _ => false := by funext k; rfl
    rw [this, cntI_false]
    simp
  | o :: ps, n => by
    have ih := cnt_places ps n
    have e : (fun k => (pidx (o :: ps) k).isSome) = fun k => (hasId k o || (pidx ps k).isSome) := by
      funext k
      unfold pidx
      rw [List.findIdx?_cons]
      cases hasId k o with
      | true => rfl
      | false => simp
    rw [e]
    have h1 := cntI_or (fun k => hasId k o) (fun k => (pidx ps k).isSome) n
    have h2 : cntI (fun k => hasId k o) n ≤ 1 := by
      cases o with
      | none => simp only [hasId]; rw [cntI_false]; omega
      | some p => exact (cntI_one p.id n).1
    simp only [List.length_cons]
    omega

end Go.Proofs.Ytelojafogbmbcaa
