/- The lock table's laws, in plain Lean: apart, elder, gone, counted. Conditions: none. -/
import Derived.Test.YtmppjgddemlmdaaLr
set_option linter.unusedVariables false
set_option linter.unusedSimpArgs false
namespace Go.Proofs.Ytmppjgddemlmdaa
open Go Go.Sx

/-- All entries. -/
def allA (s : TS) : List Ak := s.held ++ s.wait
theorem mem_all {s : TS} {y : Ak} : y ∈ allA s ↔ y ∈ s.held ∨ y ∈ s.wait := List.mem_append
theorem wayA_self (x y : Ak) (h : x.n = y.n) : wayA x y = false := by
  unfold wayA
  rw [show (x.n != y.n) = false from by simp [h]]
  simp

/-! ### a property of settle, by its steps -/
theorem settle_ind {Q : TS → List Int → List Int → Prop} (hstep : ∀ s g d x, Q s g d → x ∈ s.wait → freeA s x = true → Q (pickA x s).2 (g ++ [x.n]) (d ++ (pickA x s).1)) :
    ∀ {k : Nat} {s : TS} {g d : List Int}, Q s g d → s.wait.length ≤ k → Q (settleA k s g d).1 (settleA k s g d).2.1 (settleA k s g d).2.2 ∧ ∀ y ∈ (settleA k s g d).1.wait, freeA (settleA k s g d).1 y = false
  | 0, s, g, d, h, hk => by
    have : s.wait = [] := List.eq_nil_of_length_eq_zero (by omega)
    exact ⟨h, by intro y hy; rw [show (settleA 0 s g d).1 = s from rfl, this] at hy; cases hy⟩
  | k + 1, s, g, d, h, hk => by
    unfold settleA
    split
    · rename_i hn
      refine ⟨h, fun y hy => ?_⟩
      have := List.find?_eq_none.1 hn y hy
      simpa using this
    · rename_i x hx
      have hm := List.mem_of_find?_eq_some hx
      have hp := List.find?_some hx
      exact settle_ind hstep (hstep s g d x h hm hp) (by have := pick_wait hm; omega)

theorem dropAll_mem (d : List Int) : ∀ (s : TS) (y : Ak), (y ∈ (dropAll d s).held ↔ y ∈ s.held ∧ y.n ∉ d) ∧ (y ∈ (dropAll d s).wait ↔ y ∈ s.wait ∧ y.n ∉ d) := by
  unfold dropAll
  induction d with
  | nil => intro s y; simp
  | cons n d ih =>
    intro s y
    rw [List.foldl_cons]
    obtain ⟨h1, h2⟩ := ih (dropA n s) y
    rw [h1, h2]
    unfold dropA
    simp only [List.mem_filter, List.mem_cons, not_or, Bool.not_eq_true', beq_eq_false_iff_ne]
    exact ⟨⟨fun h => ⟨h.1.1, h.1.2, h.2⟩, fun h => ⟨⟨h.1, h.2.1⟩, h.2.2⟩⟩, ⟨fun h => ⟨h.1.1, h.1.2, h.2⟩, fun h => ⟨⟨h.1, h.2.1⟩, h.2.2⟩⟩⟩
theorem killed_mem {x : Ak} {l : List Ak} {n : Int} : n ∈ killed x l ↔ ∃ y ∈ l, y.n = n ∧ x.n < n ∧ wayA x y = true := by
  unfold killed
  simp only [List.mem_map, List.mem_filter, Bool.and_eq_true, decide_eq_true_iff]
  constructor
  · rintro ⟨y, ⟨h1, h2, h3⟩, rfl⟩
    exact ⟨y, h1, rfl, h2, h3⟩
  · rintro ⟨y, h1, rfl, h2, h3⟩
    exact ⟨y, ⟨h1, h2, h3⟩, rfl⟩
theorem grant_held {x y : Ak} {s : TS} : y ∈ (grantA x s).2.held ↔ (y ∈ s.held ∨ y = x) ∧ y.n ∉ killed x s.wait := by
  unfold grantA
  rw [(dropAll_mem _ _ _).1]
  simp
theorem grant_wait {x y : Ak} {s : TS} : y ∈ (grantA x s).2.wait ↔ y ∈ s.wait ∧ y.n ∉ killed x s.wait := by
  unfold grantA
  rw [(dropAll_mem _ _ _).2]
theorem pick_held {x y : Ak} {s : TS} : y ∈ (pickA x s).2.held ↔ (y ∈ s.held ∨ y = x) ∧ y.n ∉ (pickA x s).1 := grant_held
theorem pick_waits {x y : Ak} {s : TS} : y ∈ (pickA x s).2.wait ↔ (y ∈ s.wait ∧ y.n ≠ x.n) ∧ y.n ∉ (pickA x s).1 := by
  show y ∈ (grantA x _).2.wait ↔ _
  rw [grant_wait]
  simp [pickA, grantA]
theorem pick_dead {x : Ak} {s : TS} {n : Int} (h : n ∈ (pickA x s).1) : x.n < n ∧ ∃ y ∈ s.wait, y.n = n := by
  have h : n ∈ killed x (s.wait.filter (fun y => !(y.n == x.n))) := h
  obtain ⟨y, h1, h2, h3, _⟩ := killed_mem.1 h
  exact ⟨h3, y, (List.mem_filter.1 h1).1, h2⟩

/-! ### apart, and elder -/
structure PI (s : TS) : Prop where
  ok : TOk s
  apart : ∀ a ∈ s.held, ∀ b ∈ s.held, wayA a b = false
  first : ∀ w ∈ s.wait, ∀ h ∈ s.held, wayA w h = true → w.n < h.n
structure SI (s : TS) : Prop extends PI s where
  some_ : ∀ w ∈ s.wait, ∃ h ∈ s.held, wayA w h = true
theorem PI.drop {s : TS} (h : PI s) (n : Int) : PI (dropA n s) :=
  ⟨h.ok.drop n, fun a ha b hb => h.apart a (List.mem_filter.1 ha).1 b (List.mem_filter.1 hb).1, fun w hw y hy => h.first w (List.mem_filter.1 hw).1 y (List.mem_filter.1 hy).1⟩
theorem PI.grant {s : TS} {x : Ak} (h : PI s) (hf : freeA s x = true) (ho : TOk ⟨s.held ++ [x], s.wait⟩) : PI (grantA x s).2 := by
  have hfr : ∀ y ∈ s.held, wayA x y = false := by
    unfold freeA at hf
    simpa using hf
  refine ⟨TOk.dropAll ho, fun a ha b hb => ?_, fun w hw y hy hwy => ?_⟩
  · rcases (grant_held.1 ha).1 with ha1 | ha1 <;> rcases (grant_held.1 hb).1 with hb1 | hb1
    · exact h.apart a ha1 b hb1
    · rw [wayA_comm, hb1]; exact hfr a ha1
    · rw [ha1]; exact hfr b hb1
    · exact wayA_self _ _ (by rw [ha1, hb1])
  · obtain ⟨hw1, hw2⟩ := grant_wait.1 hw
    rcases (grant_held.1 hy).1 with hy | rfl
    · exact h.first w hw1 y hy hwy
    · have hne := wayA_ne hwy
      by_cases hlt : w.n < y.n
      · exact hlt
      · exact absurd (killed_mem.2 ⟨w, hw1, rfl, by omega, by rw [wayA_comm]; exact hwy⟩) hw2
theorem PI.pick {s : TS} {x : Ak} (h : PI s) (hx : x ∈ s.wait) (hf : freeA s x = true) : PI (pickA x s).2 :=
  PI.grant ⟨⟨h.ok.wt.filter _, by have := h.ok.few; have := List.length_filter_le (fun y : Ak => !(y.n == x.n)) s.wait; show s.held.length + (s.wait.filter _).length ≤ 192; omega⟩, h.apart, fun w hw => h.first w (List.mem_filter.1 hw).1⟩ hf (pick_ok h.ok hx)
theorem PI.settle {s : TS} (h : PI s) (g d : List Int) : SI (settleA s.wait.length s g d).1 := by
  obtain ⟨h1, h2⟩ := settle_ind (Q := fun s _ _ => PI s) (fun s g d x h hx hf => h.pick hx hf) (k := s.wait.length) (g := g) (d := d) h (Nat.le_refl _)
  refine ⟨h1, fun w hw => ?_⟩
  have := h2 w hw
  unfold freeA at this
  simpa using this
theorem SI.rel {s : TS} (h : SI s) (n : Int) : SI (relA n s).2 := (h.toPI.drop n).settle [] []
theorem SI.ask {s : TS} (h : SI s) (x : Ak) : SI (askA x s).2 := by
  unfold askA
  split
  · exact h
  split
  · exact h
  rename_i hw
  split
  · exact h
  split
  · exact h
  rename_i hf
  split
  · rename_i hv
    have ho : TOk ⟨s.held ++ [x], s.wait⟩ := ⟨h.ok.wt, by show (s.held ++ [x]).length + s.wait.length ≤ 192; rw [List.length_append, List.length_singleton]; omega⟩
    exact (h.toPI.grant (by unfold freeA; rw [hv]; rfl) ho).settle [] _
  rename_i hv
  split
  · rename_i hfst
    refine ⟨⟨insA_ok h.ok (by simpa using hw) (by omega), h.apart, fun w hw y hy hwy => ?_⟩, fun w hw => ?_⟩
    · rcases insA_mem.1 hw with rfl | hw
      · unfold firstA at hfst
        rw [List.all_eq_true] at hfst
        have := hfst y hy
        rw [hwy] at this
        simpa using this
      · exact h.first w hw y hy hwy
    · rcases insA_mem.1 hw with rfl | hw
      · simpa using hv
      · exact h.some_ w hw
  · exact h

/-! ### who is gone -/
/-- No entry is of these. -/
def Gone (D : List Int) (s : TS) : Prop := ∀ d ∈ D, ∀ y ∈ allA s, y.n ≠ d
theorem Gone.drop {D : List Int} {s : TS} (h : Gone D s) (n : Int) : Gone (n :: D) (dropA n s) := by
  intro d hd y hy
  have hy' : y ∈ allA s ∧ y.n ≠ n := by
    rcases mem_all.1 hy with hy | hy
    · obtain ⟨h1, h2⟩ := List.mem_filter.1 hy
      exact ⟨mem_all.2 (.inl h1), by simpa using h2⟩
    · obtain ⟨h1, h2⟩ := List.mem_filter.1 hy
      exact ⟨mem_all.2 (.inr h1), by simpa using h2⟩
  rcases List.mem_cons.1 hd with rfl | hd
  · exact hy'.2
  · exact h d hd y hy'.1
theorem Gone.grant {D : List Int} {s : TS} {x : Ak} (h : Gone D s) (hx : x.n ∉ D) : Gone (D ++ (grantA x s).1) (grantA x s).2 := by
  intro d hd y hy
  have hy' : (y ∈ allA s ∨ y = x) ∧ y.n ∉ (grantA x s).1 := by
    rcases mem_all.1 hy with hy | hy
    · obtain ⟨h1, h2⟩ := grant_held.1 hy
      exact ⟨h1.elim (fun h => .inl (mem_all.2 (.inl h))) .inr, h2⟩
    · obtain ⟨h1, h2⟩ := grant_wait.1 hy
      exact ⟨.inl (mem_all.2 (.inr h1)), h2⟩
  rcases List.mem_append.1 hd with hd1 | hd1
  · rcases hy'.1 with h1 | h1
    · exact h d hd1 y h1
    · exact fun e => hx (by rw [← h1, e]; exact hd1)
  · exact fun e => hy'.2 (by rw [e]; exact hd1)
theorem Gone.sub {D : List Int} {s s' : TS} (h : Gone D s) (hs : ∀ y ∈ allA s', y ∈ allA s) : Gone D s' := fun d hd y hy => h d hd y (hs y hy)
theorem Gone.app {D E : List Int} {s : TS} (h1 : Gone D s) (h2 : Gone E s) : Gone (D ++ E) s := fun d hd => (List.mem_append.1 hd).elim (h1 d) (h2 d)
theorem Gone.left {D E : List Int} {s : TS} (h : Gone (D ++ E) s) : Gone D s := fun d hd => h d (List.mem_append.2 (.inl hd))
theorem Gone.right {D E : List Int} {s : TS} (h : Gone (D ++ E) s) : Gone E s := fun d hd => h d (List.mem_append.2 (.inr hd))
/-- Who was gone, and who is dead, is gone; who was granted something waits no more. -/
theorem settle_gone {D : List Int} {k : Nat} {s : TS} {d0 : List Int} (h : Gone (D ++ d0) s) (hk : s.wait.length ≤ k) :
    Gone (D ++ (settleA k s [] d0).2.2) (settleA k s [] d0).1 ∧ ∀ n ∈ (settleA k s [] d0).2.1, ∀ y ∈ (settleA k s [] d0).1.wait, y.n ≠ n := by
  refine (settle_ind (Q := fun s g d => Gone (D ++ d) s ∧ ∀ n ∈ g, ∀ y ∈ s.wait, y.n ≠ n) ?_ (k := k) (g := []) (d := d0) ⟨h, by simp⟩ hk).1
  rintro s g d x ⟨h1, h2⟩ hx hf
  have hxn : x.n ∉ D ++ d := fun hm => h1 x.n hm x (mem_all.2 (.inr hx)) rfl
  have h3 : Gone (D ++ d) ⟨s.held, s.wait.filter (fun y => !(y.n == x.n))⟩ := h1.sub (fun y hy => (mem_all.1 hy).elim (fun h => mem_all.2 (.inl h)) (fun h => mem_all.2 (.inr (List.mem_filter.1 h).1)))
  refine ⟨?_, fun n hn y hy => ?_⟩
  · rw [← List.append_assoc]
    exact h3.grant hxn
  · obtain ⟨⟨h4, h5⟩, _⟩ := pick_waits.1 hy
    rcases List.mem_append.1 hn with hn | hn
    · exact h2 n hn y h4
    · rw [List.mem_singleton.1 hn]; exact h5
/-- What Release tells. -/
theorem rel_told {s : TS} {n : Int} {D : List Int} (h : Gone D s) : Gone (n :: D) (relA n s).2 ∧ Gone (relA n s).1.2 (relA n s).2 ∧ ∀ g ∈ (relA n s).1.1, ∀ y ∈ (relA n s).2.wait, y.n ≠ g := by
  have h0 : Gone ((n :: D) ++ []) (dropA n s) := by rw [List.append_nil]; exact h.drop n
  obtain ⟨h1, h2⟩ := settle_gone (k := (dropA n s).wait.length) h0 (Nat.le_refl _)
  refine ⟨h1.left, fun d hd => h1.right d (setA_mem.1 hd), fun g hg => h2 g (setA_mem.1 hg)⟩
theorem ask_told {s : TS} {x : Ak} : Gone (askA x s).1.2.2.1 (askA x s).2 ∧ ∀ g ∈ (askA x s).1.2.1, ∀ y ∈ (askA x s).2.wait, y.n ≠ g := by
  have hnil : ∀ s : TS, Gone [] s := fun s d hd => by cases hd
  unfold askA
  split
  · exact ⟨hnil _, by simp⟩
  split
  · exact ⟨hnil _, by simp⟩
  split
  · exact ⟨hnil _, by simp⟩
  split
  · exact ⟨hnil _, by simp⟩
  split
  · have h0 : Gone ([] ++ (grantA x s).1) (grantA x s).2 := (hnil s).grant (by simp)
    obtain ⟨h1, h2⟩ := settle_gone (k := (grantA x s).2.wait.length) h0 (Nat.le_refl _)
    exact ⟨fun d hd => h1.right d (setA_mem.1 hd), fun g hg => h2 g (setA_mem.1 hg)⟩
  split
  · exact ⟨hnil _, by simp⟩
  · exact ⟨hnil _, by simp⟩

/-! ### the number of entries -/
def sizeA (s : TS) : Nat := s.held.length + s.wait.length
theorem dropA_size (n : Int) (s : TS) : sizeA (dropA n s) ≤ sizeA s := by
  have h1 := List.length_filter_le (fun x : Ak => !(x.n == n)) s.held
  have h2 := List.length_filter_le (fun x : Ak => !(x.n == n)) s.wait
  unfold sizeA dropA
  dsimp only
  omega
theorem dropAll_size (d : List Int) : ∀ s, sizeA (dropAll d s) ≤ sizeA s := by
  unfold dropAll
  induction d with
  | nil => intro s; exact Nat.le_refl _
  | cons n d ih => intro s; exact Nat.le_trans (ih _) (dropA_size n s)
theorem grant_size (x : Ak) (s : TS) : sizeA (grantA x s).2 ≤ sizeA s + 1 := by
  refine Nat.le_trans (dropAll_size _ _) ?_
  unfold sizeA
  dsimp only
  rw [List.length_append, List.length_singleton]
  omega
theorem pick_size {x : Ak} {s : TS} (hx : x ∈ s.wait) : sizeA (pickA x s).2 ≤ sizeA s := by
  refine Nat.le_trans (grant_size _ _) ?_
  have := filter_short hx
  unfold sizeA
  dsimp only
  omega
theorem settle_size {k : Nat} {s : TS} {g d : List Int} (hk : s.wait.length ≤ k) : sizeA (settleA k s g d).1 ≤ sizeA s :=
  (settle_ind (Q := fun s' _ _ => sizeA s' ≤ sizeA s) (fun s' g d x h hx _ => Nat.le_trans (pick_size hx) h) (k := k) (g := g) (d := d) (Nat.le_refl _) hk).1
theorem rel_size (n : Int) (s : TS) : sizeA (relA n s).2 ≤ sizeA s := Nat.le_trans (settle_size (Nat.le_refl _)) (dropA_size n s)
theorem rel_less {n : Int} {s : TS} {y : Ak} (hy : y ∈ s.held) (hn : y.n = n) : sizeA (relA n s).2 < sizeA s := by
  refine Nat.lt_of_le_of_lt (settle_size (Nat.le_refl _)) ?_
  have h1 := filter_short hy
  rw [hn] at h1
  have h2 := List.length_filter_le (fun x : Ak => !(x.n == n)) s.wait
  unfold sizeA dropA
  dsimp only
  omega
theorem ask_size (x : Ak) (s : TS) : sizeA (askA x s).2 ≤ sizeA s + 1 := by
  unfold askA
  split
  · exact Nat.le_succ _
  split
  · exact Nat.le_succ _
  split
  · exact Nat.le_succ _
  split
  · exact Nat.le_succ _
  split
  · exact Nat.le_trans (settle_size (Nat.le_refl _)) (grant_size x s)
  split
  · show s.held.length + (insA x s.wait).length ≤ s.held.length + s.wait.length + 1
    rw [insA_len]
    omega
  · exact Nat.le_succ _
end Go.Proofs.Ytmppjgddemlmdaa
