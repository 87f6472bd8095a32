/- CacheRule's plain law: what is saved is what was put, and its LSN was safe. -/
import Derived.Test.YtelojafogbmbcaaCg
set_option linter.unusedVariables false
set_option linter.unusedSimpArgs false
namespace Go.Proofs.Ytelojafogbmbcaa
open Go Go.Sx

def stepF (m : Int) (c : BCall) : Int := if c.kind = 3 then (if c.lsn > m then c.lsn else m) else m
def maxF (cs : List BCall) : Int := cs.foldl stepF 0
def okC (now : Int → List UInt8) (lsn : Int → Int) (m : Int) (c : BCall) : Prop := c.kind = 2 → 1 ≤ c.id ∧ c.id ≤ 6 ∧ lsn c.id ≤ m ∧ c.bytes = now c.id
def OkC (now : Int → List UInt8) (lsn : Int → Int) : Int → List BCall → Prop
  | _, [] => True
  | m, c :: r => okC now lsn (stepF m c) c ∧ OkC now lsn (stepF m c) r

theorem OkC_append {now : Int → List UInt8} {lsn : Int → Int} : ∀ {m : Int} {a b : List BCall}, OkC now lsn m a → OkC now lsn (a.foldl stepF m) b → OkC now lsn m (a ++ b)
  | m, [], b, _, h => h
  | m, c :: a, b, h1, h2 => ⟨h1.1, OkC_append h1.2 h2⟩
theorem OkC_get {now : Int → List UInt8} {lsn : Int → Int} : ∀ {m : Int} {a : List BCall} {i : Nat} {c : BCall}, OkC now lsn m a → a[i]? = some c → okC now lsn ((a.take (i + 1)).foldl stepF m) c
  | m, [], i, c, _, h => by simp at h
  | m, d :: a, 0, c, h, hi => by
    simp at hi
    subst hi
    exact h.1
  | m, d :: a, i + 1, c, h, hi => by
    simp only [List.getElem?_cons_succ] at hi
    exact OkC_get (m := stepF m d) (a := a) h.2 hi
theorem OkC_congr {now now' : Int → List UInt8} {lsn lsn' : Int → Int} : ∀ {m : Int} {a : List BCall}, OkC now lsn m a → (∀ c ∈ a, c.kind = 2 → now' c.id = now c.id ∧ lsn' c.id = lsn c.id) → OkC now' lsn' m a
  | m, [], _, _ => trivial
  | m, c :: a, h, hc => ⟨fun hk => by
      obtain ⟨h1, h2, h3, h4⟩ := h.1 hk
      obtain ⟨e1, e2⟩ := hc c List.mem_cons_self hk
      rw [e1, e2]
      exact ⟨h1, h2, h3, h4⟩, OkC_congr h.2 fun c hm => hc c (List.mem_cons_of_mem _ hm)⟩

variable {b : Nat}
/-- There is a page that is not saved. -/
def Dty (ps : List (Option Pg)) (k : Int) (P : Pg → Prop) : Prop := ∃ (i : Nat) (p : Pg), ps[i]? = some (some p) ∧ p.id = k ∧ p.dirty = true ∧ P p

structure RInv (s : CSt (refB b)) (now : Int → List UInt8) (lsn : Int → Int) : Prop where
  uq : ∀ (i j : Nat) (p q : Pg), s.ps[i]? = some (some p) → s.ps[j]? = some (some q) → p.id = q.id → i = j
  fine : Fine s
  now_ : ∀ (i : Nat) (p : Pg), s.ps[i]? = some (some p) → p.bytes = now p.id
  pages : ∀ k, 1 ≤ k → k ≤ 6 → Dty s.ps k (fun _ => True) ∨ s.b.σ.pages k = some (now k)
  lsn_ : ∀ k, 1 ≤ k → k ≤ 6 → Dty s.ps k (fun p => lsn k ≤ p.lsn) ∨ lsn k ≤ s.b.σ.log
  log : s.b.σ.log = maxF s.b.σ.calls
  len : ∀ k, 1 ≤ k → k ≤ 6 → (now k).length ≤ 140737488355328

theorem Dty.set {ps : List (Option Pg)} {k : Int} {P Q : Pg → Prop} (h : Dty ps k P) {i : Nat} {o : Option Pg} (hn : ∀ p, ps[i]? = some (some p) → p.id = k → p.dirty = true → P p → ∃ q, o = some q ∧ q.id = k ∧ q.dirty = true ∧ Q q) (hPQ : ∀ p, P p → Q p) : Dty (ps.set i o) k Q := by
  obtain ⟨j, p, h1, h2, h3, h4⟩ := h
  by_cases hj : i = j
  · subst hj
    obtain ⟨q, rfl, g1, g2, g3⟩ := hn p h1 h2 h3 h4
    exact ⟨i, q, by rw [List.getElem?_set_self (List.getElem?_eq_some_iff.1 h1).1], g1, g2, g3⟩
  · exact ⟨j, p, by rw [List.getElem?_set_ne hj]; exact h1, h2, h3, hPQ p h4⟩

theorem get_set_cases {ps : List (Option Pg)} {i j : Nat} {o : Option Pg} {q : Pg} (h : (ps.set i o)[j]? = some (some q)) : (j = i ∧ o = some q) ∨ (j ≠ i ∧ ps[j]? = some (some q)) := by
  by_cases hj : i = j
  · subst hj
    by_cases hl : i < ps.length
    · rw [List.getElem?_set_self hl] at h; cases h; exact .inl ⟨rfl, rfl⟩
    · rw [List.getElem?_eq_none (by simp; omega)] at h; cases h
  · rw [List.getElem?_set_ne hj] at h; exact .inr ⟨Ne.symm hj, h⟩

theorem set_none_uq {ps : List (Option Pg)} (uq : ∀ (i j : Nat) (p q : Pg), ps[i]? = some (some p) → ps[j]? = some (some q) → p.id = q.id → i = j) (i : Nat) : ∀ (a c : Nat) (x y : Pg), (ps.set i none)[a]? = some (some x) → (ps.set i none)[c]? = some (some y) → x.id = y.id → a = c := by
  intro a c x y hx hy he
  rcases get_set_cases hx with ⟨_, h⟩ | ⟨_, h⟩
  · cases h
  · rcases get_set_cases hy with ⟨_, h'⟩ | ⟨_, h'⟩
    · cases h'
    · exact uq a c x y h h' he

/-- A page's fields that tell nothing of what is saved. -/
theorem RInv.same {s : CSt (refB b)} {now : Int → List UInt8} {lsn : Int → Int} (h : RInv s now lsn) {i : Nat} {p p' : Pg} (hp : s.ps[i]? = some (some p)) (h1 : p'.id = p.id) (h2 : p'.bytes = p.bytes) (h3 : p'.dirty = p.dirty) (h4 : p'.lsn = p.lsn) (h5 : 0 ≤ p'.pins) (hand : Nat) : RInv (b := b) (CSt.mk (B := refB b) (s.ps.set i (some p')) hand s.b) now lsn := by
  refine ⟨(set_uq h.uq hp h1).1, h.fine.set (fun q hq => by cases hq; exact ⟨h5, by rw [h1]; exact h.fine.ids i p hp⟩) h.fine.good, fun j q hq => ?_, fun k hk1 hk6 => ?_, fun k hk1 hk6 => ?_, h.log, h.len⟩
  · rcases get_set_cases hq with ⟨_, e⟩ | ⟨_, e⟩
    · cases e; rw [h1, h2]; exact h.now_ i p hp
    · exact h.now_ j q e
  · rcases h.pages k hk1 hk6 with h' | h'
    · exact .inl (h'.set (fun q hq g1 g2 _ => ⟨p', rfl, by rw [hp] at hq; cases hq; rw [h1, g1], by rw [hp] at hq; cases hq; rw [h3, g2], trivial⟩) (fun _ _ => trivial))
    · exact .inr h'
  · rcases h.lsn_ k hk1 hk6 with h' | h'
    · exact .inl (h'.set (fun q hq g1 g2 g3 => ⟨p', rfl, by rw [hp] at hq; cases hq; rw [h1, g1], by rw [hp] at hq; cases hq; rw [h3, g2], by rw [hp] at hq; cases hq; rw [h4]; exact g3⟩) (fun _ h => h))
    · exact .inr h'

/-- A page is cleaned: what was called is right, and it is saved. -/
theorem clean_rel {s : CSt (refB b)} {now : Int → List UInt8} {lsn : Int → Int} (h : RInv s now lsn) {i : Nat} {p : Pg} (hp : s.ps[i]? = some (some p)) : ∃ new, (mClean (refB b) s.b p).1.σ.calls = s.b.σ.calls ++ new ∧ OkC now lsn s.b.σ.log new ∧ (∀ c ∈ new, c.kind = 2 → c.id = p.id) ∧
    (mClean (refB b) s.b p).2 = 0 ∧ ∀ hand o, (o = none ∨ o = some { p with dirty := false }) → RInv (b := b) (CSt.mk (B := refB b) (s.ps.set i o) hand (mClean (refB b) s.b p).1) now lsn := by
  have hid := h.fine.ids i p hp
  obtain ⟨hg, hz⟩ := h.fine.good.clean (b := b) p
  have hnow := h.now_ i p hp
  have uqo : ∀ o, (o = none ∨ o = some { p with dirty := false }) → ∀ (a c : Nat) (x y : Pg), (s.ps.set i o)[a]? = some (some x) → (s.ps.set i o)[c]? = some (some y) → x.id = y.id → a = c := by
    rintro o (rfl | rfl)
    · exact set_none_uq h.uq i
    · exact (set_uq h.uq hp (p' := { p with dirty := false }) rfl).1
  -- what is known behind it, of the Back's new state
  have fin : ∀ (t : BS), Good t.σ → (∀ k, k ≠ p.id → t.σ.pages k = s.b.σ.pages k) → t.σ.pages p.id = some (now p.id) → s.b.σ.log ≤ t.σ.log → lsn p.id ≤ t.σ.log → t.σ.log = maxF t.σ.calls →
      ∀ hand o, (o = none ∨ o = some { p with dirty := false }) → RInv (b := b) (CSt.mk (B := refB b) (s.ps.set i o) hand t) now lsn := by
    intro t g1 g2 g3 g4 g5 g6 hand o ho
    have hne : ∀ k (q : Pg), q.id = k → k ≠ p.id → ¬ s.ps[i]? = some (some q) := fun k q hq hk hh => by rw [hp] at hh; cases hh; exact hk hq.symm
    refine ⟨uqo o ho, h.fine.set (fun q hq => ?_) g1, fun j q hq => ?_, fun k hk1 hk6 => ?_, fun k hk1 hk6 => ?_, g6, h.len⟩
    · rcases ho with rfl | rfl
      · cases hq
      · cases hq; exact ⟨h.fine.pins i p hp, hid⟩
    · rcases get_set_cases hq with ⟨_, e⟩ | ⟨_, e⟩
      · rcases ho with rfl | rfl
        · cases e
        · cases e; exact hnow
      · exact h.now_ j q e
    · by_cases hk : k = p.id
      · subst hk; exact .inr g3
      · rcases h.pages k hk1 hk6 with h' | h'
        · exact .inl (h'.set (fun q hq e _ _ => absurd hq (hne k q e hk)) (fun _ _ => trivial))
        · exact .inr ((g2 k hk).trans h')
    · by_cases hk : k = p.id
      · subst hk; exact .inr g5
      · rcases h.lsn_ k hk1 hk6 with h' | h'
        · exact .inl (h'.set (fun q hq e _ _ => absurd hq (hne k q e hk)) (fun _ h => h))
        · exact .inr (Int.le_trans h' g4)
  have notD : p.dirty = false → ∀ P, ¬ Dty s.ps p.id P := by
    rintro hd P ⟨j, q, g1, g2, g3, _⟩
    have := h.uq i j p q hp g1 g2.symm
    subst this
    rw [hp] at g1
    cases g1
    rw [hd] at g3
    cases g3
  by_cases hd : p.dirty = false
  · have e : mClean (refB b) s.b p = (s.b, 0) := by simp [mClean, hd]
    rw [e]
    refine ⟨[], by simp, trivial, by simp, rfl, fin s.b h.fine.good (fun _ _ => rfl) ?_ (Int.le_refl _) ?_ h.log⟩
    · rcases h.pages p.id hid.1 hid.2 with h' | h'
      · exact absurd h' (notD hd _)
      · exact h'
    · rcases h.lsn_ p.id hid.1 hid.2 with h' | h'
      · exact absurd h' (notD hd _)
      · exact h'
  · have hdt : p.dirty = true := by simpa using hd
    have htk : p.bytes.take 140737488355328 = p.bytes := List.take_of_length_le (by rw [hnow]; exact h.len _ hid.1 hid.2)
    have hls : lsn p.id ≤ p.lsn ∨ lsn p.id ≤ s.b.σ.log := by
      rcases h.lsn_ p.id hid.1 hid.2 with ⟨j, q, g1, g2, g3, g4⟩ | h'
      · have := h.uq i j p q hp g1 g2.symm
        subst this
        rw [hp] at g1
        cases g1
        exact .inl g4
      · exact .inr h'
    have hleft := h.fine.good.left
    -- a Save that follows a state
    have sv : ∀ (t : BS), Good t.σ → (∀ k, t.σ.pages k = s.b.σ.pages k) → s.b.σ.log ≤ t.σ.log → p.lsn ≤ t.σ.log → t.σ.log = maxF t.σ.calls → ∀ new0, t.σ.calls = s.b.σ.calls ++ new0 → (∀ c ∈ new0, c.kind = 3) →
        ∃ new, ((refB b).save t p.id p.bytes).1.σ.calls = s.b.σ.calls ++ new ∧ OkC now lsn s.b.σ.log new ∧ (∀ c ∈ new, c.kind = 2 → c.id = p.id) ∧ ((refB b).save t p.id p.bytes).2 = 0 ∧
          ∀ hand o, (o = none ∨ o = some { p with dirty := false }) → RInv (b := b) (CSt.mk (B := refB b) (s.ps.set i o) hand ((refB b).save t p.id p.bytes).1) now lsn := by
      intro t g1 g2 g3 g4 g5 new0 g6 g7
      have e : (t.σ.save p.id p.bytes) = ({ t.σ.next ⟨2, p.id, 0, p.bytes⟩ with pages := fun k => if k = p.id then some p.bytes else t.σ.pages k }, 0) := by
        unfold BSt.save
        rw [if_neg (by rw [g1.left]; decide)]
      have e1 : ((refB b).save t p.id p.bytes).1.σ = { t.σ.next ⟨2, p.id, 0, p.bytes⟩ with pages := fun k => if k = p.id then some p.bytes else t.σ.pages k } := by
        show (t.σ.save p.id (p.bytes.take 140737488355328)).1 = _
        rw [htk, e]
      have e2 : ((refB b).save t p.id p.bytes).2 = 0 := (g1.save p.id p.bytes).2
      have hmid : new0.foldl stepF s.b.σ.log = t.σ.log := by
        rw [g5, g6, maxF, List.foldl_append, ← maxF, ← h.log]
      refine ⟨new0 ++ [⟨2, p.id, 0, p.bytes⟩], by rw [e1]; simp [BSt.next, g6], OkC_append ?_ ⟨fun _ => ?_, trivial⟩, ?_, e2, fin _ (g1.save p.id p.bytes).1 ?_ ?_ ?_ ?_ ?_⟩
      · have key : ∀ (l : List BCall) (m : Int), (∀ c ∈ l, c.kind = 3) → OkC now lsn m l := by
          intro l
          induction l with
          | nil => intro m _; trivial
          | cons c l ih => intro m hl; exact ⟨fun hk => by have := hl c List.mem_cons_self; rw [this] at hk; exact absurd hk (by decide), ih _ fun d hd => hl d (List.mem_cons_of_mem _ hd)⟩
        exact key _ _ g7
      · rw [hmid]
        refine ⟨hid.1, hid.2, ?_, hnow⟩
        show lsn p.id ≤ stepF t.σ.log ⟨2, p.id, 0, p.bytes⟩
        rw [show stepF t.σ.log ⟨2, p.id, 0, p.bytes⟩ = t.σ.log from rfl]
        rcases hls with h' | h' <;> omega
      · intro c hc hk
        rcases List.mem_append.1 hc with hc | hc
        · have := g7 c hc; rw [this] at hk; exact absurd hk (by decide)
        · simp at hc; subst hc; rfl
      · intro k hk
        rw [e1]
        simp only
        rw [if_neg hk]
        exact g2 k
      · rw [e1]
        simp only [if_true]
        rw [hnow]
      · rw [e1]; exact g3
      · rw [e1]; show lsn p.id ≤ t.σ.log; rcases hls with h' | h' <;> omega
      · rw [e1]
        show t.σ.log = maxF (t.σ.calls ++ [⟨2, p.id, 0, p.bytes⟩])
        rw [g5, maxF, maxF, List.foldl_append]
        rfl
    by_cases hc : s.b.σ.log < p.lsn
    · have e : mClean (refB b) s.b p = (refB b).save ((refB b).force s.b p.lsn).1 p.id p.bytes := by
        have h0 := (h.fine.good.force (b := b) p.lsn).2
        unfold mClean
        rw [if_neg (by simp [hdt])]
        show (if (if s.b.σ.log < p.lsn then (refB b).force s.b p.lsn else (s.b, 0)).2 = 0 then _ else _) = _
        simp only [if_pos hc, h0, if_true]
        show (refB b).save (if s.b.σ.log < p.lsn then (refB b).force s.b p.lsn else (s.b, 0)).1 p.id p.bytes = _
        simp only [if_pos hc]
      rw [e]
      have ef : ((refB b).force s.b p.lsn).1.σ = { s.b.σ.next ⟨3, 0, p.lsn, []⟩ with log := if p.lsn > s.b.σ.log then p.lsn else s.b.σ.log } := by
        show (s.b.σ.force p.lsn).1 = _
        unfold BSt.force
        rw [if_neg (by rw [hleft]; decide)]
      refine sv _ (h.fine.good.force p.lsn).1 (fun k => by rw [ef]; rfl) ?_ ?_ ?_ [⟨3, 0, p.lsn, []⟩] (by rw [ef]; rfl) (by simp)
      · rw [ef]; simp only; rw [if_pos hc]; omega
      · rw [ef]; simp only; rw [if_pos hc]; exact Int.le_refl _
      · rw [ef]
        show (if p.lsn > s.b.σ.log then p.lsn else s.b.σ.log) = maxF (s.b.σ.calls ++ [⟨3, 0, p.lsn, []⟩])
        rw [maxF, List.foldl_append, ← maxF, ← h.log]
        rfl
    · have e : mClean (refB b) s.b p = (refB b).save s.b p.id p.bytes := by
        unfold mClean
        rw [if_neg (by simp [hdt])]
        show (if (if s.b.σ.log < p.lsn then (refB b).force s.b p.lsn else (s.b, 0)).2 = 0 then _ else _) = _
        simp only [if_neg hc, if_true]
        show (refB b).save (if s.b.σ.log < p.lsn then (refB b).force s.b p.lsn else (s.b, 0)).1 p.id p.bytes = _
        simp only [if_neg hc]
      rw [e]
      exact sv s.b h.fine.good (fun k => rfl) (Int.le_refl _) (by omega) h.log [] (by simp) (by simp)

theorem sweep_rel {now : Int → List UInt8} {lsn : Int → Int} (n : Nat) : ∀ (s : CSt (refB b)), Ends (refB b) n s → RInv s now lsn → ∃ new, (sweep (refB b) n s).1.b.σ.calls = s.b.σ.calls ++ new ∧ OkC now lsn s.b.σ.log new ∧
    (∀ c ∈ new, c.kind = 2 → ∃ (i : Nat) (p : Pg), s.ps[i]? = some (some p) ∧ p.id = c.id) ∧ RInv (sweep (refB b) n s).1 now lsn := by
  induction n with
  | zero => intro s h; exact h.elim
  | succ n ih =>
    intro s he hf
    unfold Ends at he
    unfold sweep
    split at he
    · rename_i p hp
      dsimp only at he ⊢
      split at he
      · rename_i hc
        rw [if_pos hc]
        exact ih _ he ⟨hf.uq, ⟨hf.fine.pins, hf.fine.ids, hf.fine.good⟩, hf.now_, hf.pages, hf.lsn_, hf.log, hf.len⟩
      · rename_i hc
        rw [if_neg hc]
        split at he
        · rename_i ht
          rw [if_pos ht]
          obtain ⟨new, h1, h2, h3, h4⟩ := ih _ he (hf.same hp (p' := { p with touched := false }) rfl rfl rfl rfl (hf.fine.pins _ p hp) _)
          refine ⟨new, h1, h2, fun c hc' hk => ?_, h4⟩
          obtain ⟨i, q, g1, g2⟩ := h3 c hc' hk
          rcases get_set_cases g1 with ⟨_, e⟩ | ⟨_, e⟩
          · cases e; exact ⟨_, p, hp, g2⟩
          · exact ⟨i, q, e, g2⟩
        · rename_i ht
          rw [if_neg ht]
          obtain ⟨new, h1, h2, h3, h4, h5⟩ := clean_rel hf hp
          rw [if_pos h4]
          exact ⟨new, h1, h2, fun c hc' hk => ⟨_, p, hp, (h3 c hc' hk).symm⟩, h5 _ none (.inl rfl)⟩
    · exact he.elim

theorem room_rel {now : Int → List UInt8} {lsn : Int → Int} {s : CSt (refB b)} (hh : s.hand < s.ps.length) (hf : RInv s now lsn) : ∃ new, (mRoom (refB b) s).1.b.σ.calls = s.b.σ.calls ++ new ∧ OkC now lsn s.b.σ.log new ∧
    (∀ c ∈ new, c.kind = 2 → ∃ (i : Nat) (p : Pg), s.ps[i]? = some (some p) ∧ p.id = c.id) ∧ RInv (mRoom (refB b) s).1 now lsn := by
  unfold mRoom
  split
  · exact ⟨[], by simp, trivial, by simp, hf⟩
  · rename_i hn
    split
    · rename_i ha
      have hall : ∀ o ∈ s.ps, o ≠ none := by
        intro o ho he
        subst he
        rw [List.findIdx?_eq_none_iff] at hn
        have := hn none ho
        simp [isNo] at this
      exact sweep_rel _ s (ends_any hh hall ha) hf
    · exact ⟨[], by simp, trivial, by simp, hf⟩

/-- A page is there, and held. -/
def Held (s : CSt (refB b)) (id : Int) : Prop := ∃ (i : Nat) (p : Pg), s.ps[i]? = some (some p) ∧ p.id = id ∧ 0 < p.pins

theorem pin_rel {now : Int → List UInt8} {lsn : Int → Int} {s : CSt (refB b)} (hh : s.hand < s.ps.length) (hf : RInv s now lsn) {id : Int} (h1 : 1 ≤ id) (h2 : id ≤ 6) : ∃ new, (mPin (refB b) s id).1.b.σ.calls = s.b.σ.calls ++ new ∧ OkC now lsn s.b.σ.log new ∧
    (∀ c ∈ new, c.kind = 2 → c.id ≠ id) ∧ RInv (mPin (refB b) s id).1 now lsn ∧ ((mPin (refB b) s id).2.2 = 0 → (mPin (refB b) s id).2.1 = now id ∧ Held (mPin (refB b) s id).1 id) := by
  unfold mPin
  split
  · rename_i i hi
    obtain ⟨p, hp, he⟩ := pidx_some hi
    have hp0 := hf.fine.pins i p hp
    simp only [hp]
    refine ⟨[], by simp, trivial, by simp, hf.same hp (p' := { p with pins := p.pins + 1, touched := true }) rfl rfl rfl rfl (by simp only; omega) _, fun _ => ⟨by rw [hf.now_ i p hp, he], i, { p with pins := p.pins + 1, touched := true }, by simp only; rw [List.getElem?_set_self (List.getElem?_eq_some_iff.1 hp).1], he, by simp only; omega⟩⟩
  · rename_i hn
    obtain ⟨g1, g2, g3, g4, g5⟩ := room_law hh hf.fine
    obtain ⟨new, r1, r2, r3, r4⟩ := room_rel hh hf
    have r3' : ∀ c ∈ new, c.kind = 2 → c.id ≠ id := fun c hc hk he => by
      obtain ⟨i, p, e1, e2⟩ := r3 c hc hk
      exact pidx_no.1 hn i p e1 (e2.trans he)
    simp only
    by_cases h0 : (mRoom (refB b) s).2.2 = 0
    · rw [if_pos h0]
      obtain ⟨i, hi1, hi2⟩ := g5 h0
      obtain ⟨l1, l2⟩ := g2.good.load (b := b) id h1 h2
      rw [if_pos l2]
      have hit : (mRoom (refB b) s).2.1.toNat = i := by rw [hi1]; rfl
      have hil := (List.getElem?_eq_some_iff.1 hi2).1
      have hno := room_ids (B := refB b) hn
      have hpg : (mRoom (refB b) s).1.b.σ.pages id = some (now id) := by
        rcases r4.pages id h1 h2 with ⟨j, p, e1, e2, _⟩ | h'
        · exact absurd e2 (pidx_no.1 hno j p e1)
        · exact h'
      have hleft := r4.fine.good.left
      have eL : (mRoom (refB b) s).1.b.σ.load id = ((mRoom (refB b) s).1.b.σ.next ⟨1, id, 0, []⟩, 0, now id) := by
        unfold BSt.load
        rw [if_neg (by rw [hleft]; decide), hpg]
      have e1 : ((refB b).load (mRoom (refB b) s).1.b id).1.σ = (mRoom (refB b) s).1.b.σ.next ⟨1, id, 0, []⟩ := by
        show ((mRoom (refB b) s).1.b.σ.load id).1 = _
        rw [eL]
      have e2 : ((refB b).load (mRoom (refB b) s).1.b id).2.2 = now id := by
        show ((mRoom (refB b) s).1.b.σ.load id).2.2 = _
        rw [eL]
      simp only [hit]
      refine ⟨new ++ [⟨1, id, 0, []⟩], by rw [e1]; simp [BSt.next, r1], OkC_append r2 ⟨fun hk => absurd (show (1 : Int) = 2 from hk) (by decide), trivial⟩, fun c hc hk => ?_, ?_, fun _ => ⟨e2, i, _, by rw [List.getElem?_set_self hil], rfl, by show (0 : Int) < 1; decide⟩⟩
      · rcases List.mem_append.1 hc with hc | hc
        · exact r3' c hc hk
        · simp at hc; subst hc; exact absurd (show (1 : Int) = 2 from hk) (by decide)
      · refine ⟨?_, g2.set (fun q hq => by cases hq; exact ⟨by show (0 : Int) ≤ 1; decide, h1, h2⟩) l1, fun j q hq => ?_, fun k hk1 hk6 => ?_, fun k hk1 hk6 => ?_, ?_, r4.len⟩
        · intro a c x y hx hy he
          rcases get_set_cases hx with ⟨rfl, e⟩ | ⟨ha, e⟩
          · rcases get_set_cases hy with ⟨rfl, _⟩ | ⟨_, e'⟩
            · rfl
            · cases e; exact absurd he.symm (pidx_no.1 hno c y e')
          · rcases get_set_cases hy with ⟨rfl, e'⟩ | ⟨_, e'⟩
            · cases e'; exact absurd he (pidx_no.1 hno a x e)
            · exact r4.uq a c x y e e' he
        · rcases get_set_cases hq with ⟨_, e⟩ | ⟨_, e⟩
          · cases e; exact e2
          · exact r4.now_ j q e
        · rcases r4.pages k hk1 hk6 with h' | h'
          · exact .inl (h'.set (fun q hq => by rw [hi2] at hq; cases hq) (fun _ _ => trivial))
          · right; simp only; rw [e1]; exact h'
        · rcases r4.lsn_ k hk1 hk6 with h' | h'
          · exact .inl (h'.set (fun q hq => by rw [hi2] at hq; cases hq) (fun _ h => h))
          · right; simp only; rw [e1]; exact h'
        · simp only
          rw [e1]
          show (mRoom (refB b) s).1.b.σ.log = maxF ((mRoom (refB b) s).1.b.σ.calls ++ [⟨1, id, 0, []⟩])
          rw [r4.log, maxF, maxF, List.foldl_append]
          rfl
    · rw [if_neg h0]
      exact ⟨new, r1, r2, r3', r4, fun h => absurd h h0⟩

theorem unpin_rel {now : Int → List UInt8} {lsn : Int → Int} {s : CSt (refB b)} (hf : RInv s now lsn) {id : Int} (hh : Held s id) : (mUnpin (refB b) s id).2 = 0 ∧ RInv (mUnpin (refB b) s id).1 now lsn ∧ (mUnpin (refB b) s id).1.b = s.b := by
  obtain ⟨i, p, h1, h2, h3⟩ := hh
  subst h2
  have hi := pidx_of hf.uq h1
  unfold mUnpin
  simp only [hi, h1]
  rw [if_neg (by omega)]
  exact ⟨rfl, hf.same h1 (p' := { p with pins := p.pins - 1 }) rfl rfl rfl rfl (by simp only; omega) _, rfl⟩

theorem put_rel {now : Int → List UInt8} {lsn : Int → Int} {s : CSt (refB b)} (hf : RInv s now lsn) {id : Int} (hh : Held s id) (bs : List UInt8) (l : Int) (hbs : bs.length ≤ 140737488355328) :
    (mPut (refB b) s id bs l).2 = 0 ∧ RInv (mPut (refB b) s id bs l).1 (fun k => if k = id then bs else now k) (fun k => if k = id then (if l > lsn k then l else lsn k) else lsn k) ∧ (mPut (refB b) s id bs l).1.b = s.b ∧ Held (mPut (refB b) s id bs l).1 id := by
  obtain ⟨i, p, h1, h2, h3⟩ := hh
  subst h2
  have hi := pidx_of hf.uq h1
  unfold mPut
  simp only [hi, h1]
  rw [if_neg (by omega)]
  have hil := (List.getElem?_eq_some_iff.1 h1).1
  generalize hp' : ({ p with bytes := bs, dirty := true, touched := true, lsn := if l > (if p.dirty then p.lsn else 0) then l else (if p.dirty then p.lsn else 0) } : Pg) = p'
  have e1 : p'.id = p.id := by rw [← hp']
  have e2 : p'.bytes = bs := by rw [← hp']
  have e3 : p'.dirty = true := by rw [← hp']
  have e4 : p'.lsn = if l > (if p.dirty then p.lsn else 0) then l else (if p.dirty then p.lsn else 0) := by rw [← hp']
  have e5 : p'.pins = p.pins := by rw [← hp']
  have hne : ∀ (q : Pg), q.id ≠ p.id → ¬ s.ps[i]? = some (some q) := fun q hk hq => by rw [h1] at hq; cases hq; exact hk rfl
  refine ⟨rfl, ⟨(set_uq hf.uq h1 e1).1, hf.fine.set (fun q hq => by cases hq; exact ⟨by rw [e5]; omega, by rw [e1]; exact hf.fine.ids i p h1⟩) hf.fine.good, fun j q hq => ?_, fun k hk1 hk6 => ?_, fun k hk1 hk6 => ?_, hf.log, fun k hk1 hk6 => ?_⟩, rfl, i, p', by rw [List.getElem?_set_self hil], e1, by rw [e5]; exact h3⟩
  · rcases get_set_cases hq with ⟨_, e⟩ | ⟨hj, e⟩
    · cases e; rw [if_pos e1, e2]
    · rw [if_neg (fun he => hj (hf.uq j i q p e h1 he))]
      exact hf.now_ j q e
  · by_cases hk : k = p.id
    · exact .inl ⟨i, p', by rw [List.getElem?_set_self hil], by rw [e1, hk], e3, trivial⟩
    · rw [if_neg hk]
      rcases hf.pages k hk1 hk6 with h' | h'
      · exact .inl (h'.set (fun q hq e _ _ => absurd hq (hne q (by rw [e]; exact hk))) (fun _ _ => trivial))
      · exact .inr h'
  · by_cases hk : k = p.id
    · subst hk
      rw [if_pos rfl]
      have hl1 : l ≤ p'.lsn := by rw [e4]; split <;> omega
      by_cases hlt : l > lsn p.id
      · rw [if_pos hlt]
        exact .inl ⟨i, p', by rw [List.getElem?_set_self hil], e1, e3, hl1⟩
      · rw [if_neg hlt]
        rcases hf.lsn_ p.id hk1 hk6 with ⟨j, q, g1, g2, g3, g4⟩ | h'
        · have := hf.uq i j p q h1 g1 g2.symm
          subst this
          rw [h1] at g1
          cases g1
          refine .inl ⟨i, p', by rw [List.getElem?_set_self hil], e1, e3, ?_⟩
          show lsn p.id ≤ p'.lsn
          rw [e4, if_pos g3]
          split <;> omega
        · exact .inr h'
    · rw [if_neg hk]
      rcases hf.lsn_ k hk1 hk6 with h' | h'
      · exact .inl (h'.set (fun q hq e _ _ => absurd hq (hne q (by rw [e]; exact hk))) (fun _ h => h))
      · exact .inr h'
  · split
    · exact hbs
    · exact hf.len k hk1 hk6

theorem flush_rel {now : Int → List UInt8} {lsn : Int → Int} : ∀ (n i : Nat) (s : CSt (refB b)), RInv s now lsn → i + n = s.ps.length → (∀ (j : Nat) (p : Pg), j < i → s.ps[j]? = some (some p) → p.dirty = false) →
    (mFlush (refB b) n i s).2 = 0 ∧ RInv (mFlush (refB b) n i s).1 now lsn ∧ (mFlush (refB b) n i s).1.ps.length = s.ps.length ∧ ∀ (j : Nat) (p : Pg), (mFlush (refB b) n i s).1.ps[j]? = some (some p) → p.dirty = false
  | 0, i, s, hf, hi, hc => ⟨rfl, hf, rfl, fun j p hp => hc j p (by have := (List.getElem?_eq_some_iff.1 hp).1; simp only [mFlush] at this; omega) hp⟩
  | n + 1, i, s, hf, hi, hc => by
    unfold mFlush
    split
    · rename_i p hp
      obtain ⟨new, h1, h2, h3, h4, h5⟩ := clean_rel hf hp
      simp only
      rw [if_pos h4]
      have := flush_rel n (i + 1) _ (h5 s.hand _ (.inr rfl)) (by simp; omega) (fun j q hj hq => by
        rcases get_set_cases hq with ⟨_, e⟩ | ⟨hne, e⟩
        · cases e; rfl
        · exact hc j q (by omega) e)
      simp only [List.length_set] at this
      exact this
    · rename_i hp
      refine flush_rel n (i + 1) s hf (by omega) fun j q hj hq => ?_
      rcases Nat.lt_or_ge j i with h' | h'
      · exact hc j q h' hq
      · have : j = i := by omega
        subst this
        exact absurd hq (hp q)

end Go.Proofs.Ytelojafogbmbcaa
