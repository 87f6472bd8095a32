/- The lock table: Ask, Release, New. Conditions: none. -/
import Derived.Test.YtmppjgddemlmdaaTbs
set_option linter.unusedVariables false
set_option linter.unusedSimpArgs false
namespace Go.Proofs.Ytmppjgddemlmdaa
open Go Go.Sx

def covA (x y : Ak) : Bool := y.n == x.n && (coversR y.lo y.hi x.lo x.hi && (y.wr || !x.wr))
def insA (x : Ak) (l : List Ak) : List Ak := l.filter (fun y => decide (y.n < x.n)) ++ x :: l.filter (fun y => !decide (y.n < x.n))
def firstA (x : Ak) (l : List Ak) : Bool := l.all (fun y => !wayA x y || decide (x.n < y.n))
/-- What an ask answers: the state, who is granted, who is dead, the number of the error; the table behind it. -/
def askA (x : Ak) (s : TS) : (Int × List Int × List Int × Int) × TS :=
  if okR x.lo x.hi = false then ((0, [], [], 21), s)
  else if s.wait.any (fun y => y.n == x.n) then ((0, [], [], 4), s)
  else if s.held.any (covA x) then ((1, [], [], 0), s)
  else if 192 ≤ s.held.length + s.wait.length then ((3, [], [], 0), s)
  else if s.held.any (wayA x) = false then
    let q := settleA (grantA x s).2.wait.length (grantA x s).2 [] (grantA x s).1
    ((1, setA q.2.1, setA q.2.2, 0), q.1)
  else if firstA x s.held then ((2, [], [], 0), ⟨s.held, insA x s.wait⟩)
  else ((3, [], [], 0), s)
def relA (n : Int) (s : TS) : (List Int × List Int) × TS :=
  let q := settleA (dropA n s).wait.length (dropA n s) [] []
  ((setA q.2.1, setA q.2.2), q.1)

theorem insA_at {x : Ak} {l : List Ak} {i : Nat} (h1 : ∀ y ∈ l.take i, y.n < x.n) (h2 : ∀ y ∈ l.drop i, x.n ≤ y.n) : insA x l = l.take i ++ x :: l.drop i := by
  unfold insA
  have e : l.filter (fun y => decide (y.n < x.n)) = l.take i := by
    conv => lhs; rw [← List.take_append_drop i l]
    rw [List.filter_append, List.filter_eq_self.2 (fun y hy => by simpa using h1 y hy), List.filter_eq_nil_iff.2 (fun y hy => by simpa using h2 y hy), List.append_nil]
  have e2 : l.filter (fun y => !decide (y.n < x.n)) = l.drop i := by
    conv => lhs; rw [← List.take_append_drop i l]
    rw [List.filter_append, List.filter_eq_nil_iff.2 (fun y hy => by simpa using h1 y hy), List.filter_eq_self.2 (fun y hy => by simpa using h2 y hy), List.nil_append]
  rw [e, e2]
theorem insA_mem {x y : Ak} {l : List Ak} : y ∈ insA x l ↔ y = x ∨ y ∈ l := by
  unfold insA
  rw [List.mem_append, List.mem_cons, List.mem_filter, List.mem_filter]
  by_cases h : y.n < x.n <;> simp [h, or_comm]
theorem filter_len2 (p : Ak → Bool) (l : List Ak) : (l.filter p).length + (l.filter (fun y => !p y)).length = l.length := by
  induction l with
  | nil => rfl
  | cons y t ih =>
    cases h : p y <;> simp [h] <;> omega
theorem insA_len (x : Ak) (l : List Ak) : (insA x l).length = l.length + 1 := by
  unfold insA
  rw [List.length_append, List.length_cons]
  have := filter_len2 (fun y : Ak => decide (y.n < x.n)) l
  omega
theorem insA_ok {x : Ak} {s : TS} (ho : TOk s) (hn : s.wait.any (fun y => y.n == x.n) = false) (hf : s.held.length + s.wait.length < 192) : TOk ⟨s.held, insA x s.wait⟩ := by
  refine ⟨?_, by show s.held.length + (insA x s.wait).length ≤ 192; rw [insA_len]; omega⟩
  show (insA x s.wait).Pairwise _
  unfold insA
  rw [List.pairwise_append, List.pairwise_cons]
  refine ⟨ho.wt.filter _, ⟨fun y hy => ?_, ho.wt.filter _⟩, fun a ha b hb => ?_⟩
  · rw [List.mem_filter] at hy
    have h1 : ¬ y.n = x.n := by simpa using List.any_eq_false.1 hn y hy.1
    have h2 : ¬ y.n < x.n := by simpa using hy.2
    omega
  · have h1 : a.n < x.n := by simpa using (List.mem_filter.1 ha).2
    rcases List.mem_cons.1 hb with rfl | hb
    · exact h1
    · have h2 : ¬ b.n < x.n := by simpa using (List.mem_filter.1 hb).2
      omega
theorem askA_ok {x : Ak} {s : TS} (ho : TOk s) : TOk (askA x s).2 := by
  unfold askA
  split
  · exact ho
  split
  · exact ho
  rename_i hw
  split
  · exact ho
  split
  · exact ho
  rename_i hf
  split
  · refine TOk.settle (TOk.dropAll ⟨ho.wt, ?_⟩)
    show (s.held ++ [x]).length + s.wait.length ≤ 192
    rw [List.length_append, List.length_singleton]
    omega
  split
  · exact insA_ok ho (by simpa using hw) (by omega)
  · exact ho
theorem relA_ok {n : Int} {s : TS} (ho : TOk s) : TOk (relA n s).2 := TOk.settle (ho.drop n)

/-- What a call leaves: the table, two fresh lists of numbers. -/
def Left (w w' : World) (t : Nat) (H : Nat → Prop) (s' : TS) (a b : Sl) (g d : List Int) : Prop := ∃ H', TAt w' t H' s' ∧ Fr H H' w ∧ KeepsP H w w' ∧ SlC w' a 1 (cU g) ∧ SlC w' b 1 (cU d) ∧
  (∀ y ∈ blk a, w.heap.size ≤ y ∧ ¬ H' y) ∧ (∀ y ∈ blk b, w.heap.size ≤ y ∧ ¬ H' y) ∧ (∀ y ∈ blk a, y ∉ blk b)
theorem Left.none {w w' : World} {t : Nat} {H : Nat → Prop} {s : TS} (h : TAt w t H s) (k : Keeps [] w w') : Left w w' t H s ⟨none, 0, 0⟩ ⟨none, 0, 0⟩ [] [] :=
  ⟨H, h.keeps0 k, Fr.refl _ _, k.toP (by simp), SlC.nil _ 1, SlC.nil _ 1, by simp [blk], by simp [blk], by simp [blk]⟩
theorem Left.pre {w0 w w' : World} {t : Nat} {H : Nat → Prop} {s : TS} {a b : Sl} {g d : List Int} (k : Keeps [] w0 w) (h : Left w w' t H s a b g d) : Left w0 w' t H s a b g d := by
  obtain ⟨H', h1, h2, h3, h4, h5, h6, h7, h8⟩ := h
  have := k.size
  exact ⟨H', h1, fun x hx => (h2 x hx).elim .inl (fun h => .inr (by omega)), (k.toP (F := H) (by simp)).same h3, h4, h5, fun y hy => ⟨by have := (h6 y hy).1; omega, (h6 y hy).2⟩, fun y hy => ⟨by have := (h7 y hy).1; omega, (h7 y hy).2⟩, h8⟩

theorem New_ok (w : World) : Cl Try.prog i_locks_New [] false [.sc .p] (fun r w' => ∃ (t : Nat) (H : Nat → Prop), r.1 = some ⟨t, 0, none⟩ ∧ TAt w' t H ⟨[], []⟩ ∧ (∀ x, H x → w.heap.size ≤ x) ∧ Keeps [] w w') w := by
  refine Cl_gen fun R hR => ?_
  apply locks_New_call
  unfold locks_New
  refine New_bx fun t w1 h1 n1 k1 => ?_
  refine hR _ _ ⟨t, fun x => x = t, rfl, ⟨⟨none, 0, 0⟩, ⟨none, 0, 0⟩, h1, SlC.nil _ 4, SlC.nil _ 4, by simp [blk], by simp [blk], by simp [blk], fun x => by simp [blk]⟩, fun x hx => by rw [hx]; exact n1, k1⟩

theorem Release_ok {w : World} {t : Nat} {H : Nat → Prop} {s : TS} (h : TAt w t H s) (ho : TOk s) (n : Int) :
    Cl Try.prog i_locks_Table_Release [.pointer (some ⟨t, 0, none⟩), .int .u64 n] true [.sc .sl, .sc .sl] (fun r w' => Left w w' t H (relA n s).2 r.1 r.2.1 (relA n s).1.1 (relA n s).1.2) w := by
  unfold relA
  dsimp only
  obtain ⟨Q, hQ⟩ : ∃ Q, Q = settleA (dropA n s).wait.length (dropA n s) [] [] := ⟨_, rfl⟩
  rw [← hQ]
  refine Cl_gen fun R hR => ?_
  apply locks_Table_Release_call
  unfold locks_Table_Release
  refine Cl.mono (drop_ok h ho n) ?_
  rintro _ w1 ⟨H1, h1, f1, k1⟩
  have hfew := (ho.drop n).few
  have hb0 : ([] : List Int).length + (dropA n s).wait.length * 200 ≤ 40000 := by rw [List.length_nil]; omega
  have hnil : SlC w1 ⟨none, 0, 0⟩ 1 (cU []) := SlC.nil _ 1
  have hset := settle_ok h1 (ho.drop n) hnil (fun y hy => by cases hy) hb0
  rw [← hQ] at hset
  have hnb : ∀ y ∈ blk ⟨none, 0, 0⟩, ¬ H1 y := fun y hy => by cases hy
  refine Cl.mono hset ?_
  rintro ⟨a, b, _⟩ w2 ⟨H2, h2, f2, k2, ha, hb, na, nb, hab⟩
  dsimp only at ha hb na nb hab ⊢
  have s1 := k1.size
  have k2' : KeepsP H1 w1 w2 := k2.mono (fun x hx => hx.elim .inl (fun h => by simp [blk] at h))
  refine hR (a, b, ()) _ ⟨H2, h2, f1.trans f2 s1, k1.trans k2' (fun x hx => f1 x hx), ha, hb, fun y hy => ⟨by have := (na y hy).1; omega, (na y hy).2⟩, fun y hy => ⟨?_, (nb y hy).2⟩, hab⟩
  rcases (nb y hy).1 with h' | h'
  · simp [blk] at h'
  · omega
end Go.Proofs.Ytmppjgddemlmdaa
