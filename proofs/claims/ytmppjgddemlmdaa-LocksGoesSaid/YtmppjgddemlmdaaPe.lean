/- The eldest one never dies, in plain Lean. Conditions: none. -/
import Derived.Test.YtmppjgddemlmdaaLe
set_option linter.unusedVariables false
set_option linter.unusedSimpArgs false
namespace Go.Proofs.Ytmppjgddemlmdaa
open Go Go.Sx

def zcA (s : TS) : Nat := (s.held.filter (fun y => y.n == 0)).length + (s.wait.filter (fun y => y.n == 0)).length
theorem filter_zero {l : List Ak} {m : Int} (hm : m ≠ 0) : (l.filter (fun y => !(y.n == m))).filter (fun y => y.n == 0) = l.filter (fun y => y.n == 0) := by
  rw [List.filter_filter]
  refine List.filter_congr fun y _ => ?_
  by_cases h : y.n = 0
  · have : ¬ (0 : Int) = m := fun e => hm e.symm
    simp [h, this]
  · simp [h]
theorem dropA_zero {s : TS} {m : Int} (hm : m ≠ 0) : zcA (dropA m s) = zcA s := by
  unfold zcA dropA
  dsimp only
  rw [filter_zero hm, filter_zero hm]
theorem dropAll_zero {d : List Int} : ∀ {s : TS}, (0 : Int) ∉ d → zcA (dropAll d s) = zcA s := by
  unfold dropAll
  induction d with
  | nil => intro s _; rfl
  | cons n d ih =>
    intro s h
    rw [List.mem_cons, not_or] at h
    rw [List.foldl_cons, ih h.2, dropA_zero (fun e => h.1 e.symm)]
theorem killed_pos {x : Ak} {l : List Ak} (hx : 0 ≤ x.n) : (0 : Int) ∉ killed x l := fun h => by
  obtain ⟨y, _, _, h2, _⟩ := killed_mem.1 h
  omega
theorem grant_zero {x : Ak} {s : TS} (hx : 0 ≤ x.n) : zcA (grantA x s).2 = zcA s + (if x.n = 0 then 1 else 0) := by
  unfold grantA
  dsimp only
  rw [dropAll_zero (killed_pos hx)]
  unfold zcA
  dsimp only
  rw [List.filter_append, List.length_append]
  by_cases h : x.n = 0
  · simp [h]; omega
  · simp [h]
theorem zero_once {l : List Ak} (hs : l.Pairwise (fun a b => a.n < b.n)) {x : Ak} (hx : x ∈ l) (h0 : x.n = 0) : (l.filter (fun y => y.n == 0)).length = 1 := by
  have h1 := hs.filter (fun y : Ak => y.n == 0)
  have h2 : x ∈ l.filter (fun y => y.n == 0) := List.mem_filter.2 ⟨hx, by simp [h0]⟩
  have h3 : ∀ y ∈ l.filter (fun y => y.n == 0), y.n = 0 := fun y hy => by simpa using (List.mem_filter.1 hy).2
  generalize l.filter (fun y => y.n == 0) = q at h1 h2 h3
  match q, h1, h2, h3 with
  | [], _, h2, _ => cases h2
  | [a], _, _, _ => rfl
  | a :: b :: t, h1, _, h3 =>
    have h4 := (List.pairwise_cons.1 h1).1 b (by simp)
    have h5 := h3 a (by simp)
    have h6 := h3 b (by simp)
    omega
theorem pick_zero {x : Ak} {s : TS} (ho : TOk s) (hm : x ∈ s.wait) (hx : 0 ≤ x.n) : zcA (pickA x s).2 = zcA s := by
  unfold pickA
  rw [grant_zero hx]
  unfold zcA
  dsimp only
  by_cases h : x.n = 0
  · rw [if_pos h, zero_once ho.wt hm h, h]
    have : (s.wait.filter (fun y => !(y.n == 0))).filter (fun y => y.n == 0) = [] := by
      rw [List.filter_filter]
      refine List.filter_eq_nil_iff.2 fun y _ => ?_
      by_cases h : y.n = 0 <;> simp [h]
    rw [this]
    rfl
  · rw [if_neg h, filter_zero h]
    rfl

theorem pick_all {x y : Ak} {s : TS} (hx : x ∈ s.wait) (h : y ∈ allA (pickA x s).2) : y ∈ allA s := by
  rcases mem_all.1 h with h | h
  · rcases (pick_held.1 h).1 with h | rfl
    · exact mem_all.2 (.inl h)
    · exact mem_all.2 (.inr hx)
  · exact mem_all.2 (.inr (pick_waits.1 h).1.1)
theorem settle_all {k : Nat} {s : TS} {g d : List Int} (hk : s.wait.length ≤ k) {y : Ak} (h : y ∈ allA (settleA k s g d).1) : y ∈ allA s :=
  (settle_ind (Q := fun s' _ _ => ∀ y ∈ allA s', y ∈ allA s) (fun s' g d x hq hx _ y hy => hq y (pick_all hx hy)) (k := k) (g := g) (d := d) (fun y hy => hy) hk).1 y h
theorem drop_all {n : Int} {s : TS} {y : Ak} (h : y ∈ allA (dropA n s)) : y ∈ allA s := (mem_all.1 h).elim (fun h => mem_all.2 (.inl (List.mem_filter.1 h).1)) (fun h => mem_all.2 (.inr (List.mem_filter.1 h).1))
theorem rel_all {n : Int} {s : TS} {y : Ak} (h : y ∈ allA (relA n s).2) : y ∈ allA s ∧ y.n ≠ n :=
  ⟨drop_all (settle_all (Nat.le_refl _) h), (rel_told (D := []) (n := n) (s := s) (fun d hd => by cases hd)).1 n (by simp) y h⟩
theorem grant_all {x y : Ak} {s : TS} (h : y ∈ allA (grantA x s).2) : y ∈ allA s ∨ y = x := by
  rcases mem_all.1 h with h | h
  · exact (grant_held.1 h).1.elim (fun h => .inl (mem_all.2 (.inl h))) .inr
  · exact .inl (mem_all.2 (.inr (grant_wait.1 h).1))
theorem ask_all {x : Ak} {s : TS} {y : Ak} (h : y ∈ allA (askA x s).2) : y ∈ allA s ∨ y = x := by
  unfold askA at h
  split at h
  · exact .inl h
  split at h
  · exact .inl h
  split at h
  · exact .inl h
  split at h
  · exact .inl h
  split at h
  · exact grant_all (settle_all (Nat.le_refl _) h)
  split at h
  · rcases mem_all.1 h with h | h
    · exact .inl (mem_all.2 (.inl h))
    · rcases insA_mem.1 h with rfl | h
      · exact .inr rfl
      · exact .inl (mem_all.2 (.inr h))
  · exact .inl h

/-- The settling, where no number is below 0: the eldest one is kept, and not told dead. -/
theorem settle_zero {k : Nat} {s : TS} {d0 : List Int} (hk : s.wait.length ≤ k) (ho : TOk s) (hp : ∀ y ∈ allA s, 0 ≤ y.n) (h0 : (0 : Int) ∉ d0) : zcA (settleA k s [] d0).1 = zcA s ∧ (0 : Int) ∉ (settleA k s [] d0).2.2 := by
  have := (settle_ind (Q := fun s' _ d => TOk s' ∧ (∀ y ∈ allA s', 0 ≤ y.n) ∧ zcA s' = zcA s ∧ (0 : Int) ∉ d) ?_ (k := k) (g := []) (d := d0) ⟨ho, hp, rfl, h0⟩ hk).1
  · exact this.2.2
  · rintro s' g d x ⟨h1, h2, h3, h4⟩ hx hf
    have hx0 := h2 x (mem_all.2 (.inr hx))
    refine ⟨h1.pick hx, fun y hy => h2 y (pick_all hx hy), by rw [pick_zero h1 hx hx0, h3], fun hm => ?_⟩
    rcases List.mem_append.1 hm with hm | hm
    · exact h4 hm
    · have := (pick_dead hm).1
      omega
theorem zc_none {s : TS} (hp : ∀ y ∈ allA s, 0 < y.n) : zcA s = 0 := by
  unfold zcA
  rw [List.filter_eq_nil_iff.2 (fun y hy => by have := hp y (mem_all.2 (.inl hy)); simp; omega), List.filter_eq_nil_iff.2 (fun y hy => by have := hp y (mem_all.2 (.inr hy)); simp; omega)]
  rfl

structure EI (s : TS) : Prop where
  si : SI s
  pos : ∀ y ∈ allA s, 0 ≤ y.n
  one : zcA s = 1
theorem EI.rel {s : TS} (h : EI s) {n : Int} (hn : n ≠ 0) : EI (relA n s).2 ∧ (0 : Int) ∉ (relA n s).1.2 := by
  obtain ⟨h1, h2⟩ := settle_zero (k := (dropA n s).wait.length) (d0 := []) (Nat.le_refl _) (h.si.ok.drop n) (fun y hy => h.pos y (drop_all hy)) (by simp)
  exact ⟨⟨h.si.rel n, fun y hy => h.pos y (rel_all hy).1, h1.trans ((dropA_zero hn).trans h.one)⟩, fun hm => h2 (setA_mem.1 hm)⟩
/-- What the eldest one asks for, it is granted or it waits. -/
theorem elder_ask {s : TS} (h : SI s) (hp : ∀ y ∈ allA s, 0 < y.n) (hs : sizeA s ≤ 150) {x : Ak} (hx : x.n = 0) (hok : okR x.lo x.hi = true) :
    ((askA x s).1.1 = 1 ∨ (askA x s).1.1 = 2) ∧ (askA x s).1.2.2.2 = 0 ∧ (0 : Int) ∉ (askA x s).1.2.2.1 ∧ EI (askA x s).2 := by
  have hsi := h.ask x
  have hpos : ∀ y ∈ allA (askA x s).2, 0 ≤ y.n := fun y hy => (ask_all hy).elim (fun h => by have := hp y h; omega) (fun h => by rw [h, hx]; omega)
  have key : ((askA x s).1.1 = 1 ∨ (askA x s).1.1 = 2) ∧ (askA x s).1.2.2.2 = 0 ∧ (0 : Int) ∉ (askA x s).1.2.2.1 ∧ zcA (askA x s).2 = 1 := by
    have hw : ¬ s.wait.any (fun y => y.n == x.n) = true := by
      simp only [List.any_eq_true, not_exists, not_and]
      intro y hy
      have := hp y (mem_all.2 (.inr hy))
      simp
      omega
    have hc : ¬ s.held.any (covA x) = true := by
      simp only [List.any_eq_true, not_exists, not_and]
      intro y hy
      have := hp y (mem_all.2 (.inl hy))
      unfold covA
      have hne : ¬ y.n = x.n := by omega
      simp [hne]
    have hn : ¬ 192 ≤ s.held.length + s.wait.length := by unfold sizeA at hs; omega
    unfold askA
    rw [if_neg (by rw [hok]; simp), if_neg hw, if_neg hc, if_neg hn]
    split
    · rename_i hv
      have ho : TOk ⟨s.held ++ [x], s.wait⟩ := ⟨h.ok.wt, by show (s.held ++ [x]).length + s.wait.length ≤ 192; rw [List.length_append, List.length_singleton]; omega⟩
      have hgz : zcA (grantA x s).2 = 1 := by rw [grant_zero (by omega), zc_none hp, if_pos hx]
      obtain ⟨h1, h2⟩ := settle_zero (k := (grantA x s).2.wait.length) (d0 := (grantA x s).1) (Nat.le_refl _) (TOk.dropAll ho) (fun y hy => (grant_all hy).elim (fun h => by have := hp y h; omega) (fun h => by rw [h, hx]; omega)) (killed_pos (by omega))
      exact ⟨.inl rfl, rfl, fun hm => h2 (setA_mem.1 hm), by rw [← hgz]; exact h1⟩
    · split
      · refine ⟨.inr rfl, rfl, by simp, ?_⟩
        have hz := zc_none hp
        unfold zcA at hz ⊢
        dsimp only
        unfold insA
        rw [List.filter_append, List.filter_cons, List.length_append, if_pos (by simp [hx]), List.length_cons]
        have h1 : (s.wait.filter (fun y => decide (y.n < x.n))).filter (fun y => y.n == 0) = [] := List.filter_eq_nil_iff.2 (fun y hy => by have := hp y (mem_all.2 (.inr (List.mem_filter.1 hy).1)); simp; omega)
        have h2 : (s.wait.filter (fun y => !decide (y.n < x.n))).filter (fun y => y.n == 0) = [] := List.filter_eq_nil_iff.2 (fun y hy => by have := hp y (mem_all.2 (.inr (List.mem_filter.1 hy).1)); simp; omega)
        rw [h1, h2]
        simp only [List.length_nil]
        omega
      · rename_i hf
        exfalso
        apply hf
        unfold firstA
        rw [List.all_eq_true]
        intro y hy
        have := hp y (mem_all.2 (.inl hy))
        rw [decide_eq_true (by omega)]
        simp
  exact ⟨key.1, key.2.1, key.2.2.1, hsi, hpos, key.2.2.2⟩
theorem EI.end_ {s : TS} (h : EI s) (hz : ∀ y ∈ allA s, y.n = 0) : (holdsA 0 s).length = 1 := by
  have hw : s.wait = [] := by
    refine List.eq_nil_iff_forall_not_mem.2 fun y hy => ?_
    obtain ⟨z, hz1, hz2⟩ := h.si.some_ y hy
    have := wayA_ne hz2
    have h1 := hz y (mem_all.2 (.inr hy))
    have h2 := hz z (mem_all.2 (.inl hz1))
    omega
  have := h.one
  unfold zcA at this
  rw [hw] at this
  simpa [holdsA] using this
end Go.Proofs.Ytmppjgddemlmdaa
