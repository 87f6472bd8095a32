/- Layer 2's Check, Meet, Covers and its reference's: one abstract rule of ranges. Conditions: none. -/
import Derived.Test.YtmppjgddemlmdaaSrv
import Derived.Sort.Walk0
set_option linter.unusedVariables false
set_option linter.unusedSimpArgs false
namespace Go.Proofs.Ytmppjgddemlmdaa
open Go Go.Sx

def okR (lo hi : ByteArray) : Bool := !(decide (lo.size > 12) || decide (hi.size > 12) || (!(seq hi (BA [])) && !(slt lo hi)))
def leastR (a b : ByteArray) : ByteArray := if seq a (BA []) || (!(seq b (BA [])) && slt b a) then b else a
def maxR (a b : ByteArray) : ByteArray := if !(slt a b) then a else b
def belowR (a b : ByteArray) : Bool := !(seq a (BA [])) && (seq b (BA []) || slt a b)
def meetsR (alo ahi blo bhi : ByteArray) : Bool := okR alo ahi && okR blo bhi && okR (maxR alo blo) (leastR ahi bhi)
def coversR (alo ahi blo bhi : ByteArray) : Bool := okR alo ahi && okR blo bhi && (slt alo blo || seq alo blo) && seq (leastR ahi bhi) bhi

theorem seq_eq (a b : ByteArray) : seq a b = decide (a = b) := by
  unfold seq
  by_cases h : a = b
  · subst h; simp
  · rw [decide_eq_false h, beq_eq_false_iff_ne]
    intro e
    rw [ByteArray.toList_eq, ByteArray.toList_eq] at e
    exact h (ByteArray.ext (Array.toList_inj.1 e))
theorem slt_lt (a b : ByteArray) : slt a b = decide (a.toList < b.toList) := Go.Proofs.bytesLess_eq _ _
theorem slt_irrefl (a : ByteArray) : slt a a = false := by rw [slt_lt]; simp [List.lt_irrefl]
theorem slt_asymm {a b : ByteArray} (h : slt a b = true) : slt b a = false := by
  rw [slt_lt, decide_eq_true_iff] at h
  rw [slt_lt, decide_eq_false_iff_not]
  exact List.lt_asymm h
theorem slt_total {a b : ByteArray} (h : slt a b = false) (h2 : slt b a = false) : a = b := by
  rw [slt_lt, decide_eq_false_iff_not] at h h2
  have := List.le_antisymm (List.not_lt.1 h2) (List.not_lt.1 h)
  rw [ByteArray.toList_eq, ByteArray.toList_eq] at this
  exact ByteArray.ext (Array.toList_inj.1 this)
theorem maxR_comm (a b : ByteArray) : maxR a b = maxR b a := by
  unfold maxR
  cases h : slt a b <;> cases h2 : slt b a
  · simpa using slt_total h h2
  · rfl
  · rfl
  · rw [slt_asymm h] at h2; cases h2
theorem leastR_comm (a b : ByteArray) : leastR a b = leastR b a := by
  unfold leastR
  rw [seq_eq, seq_eq]
  by_cases ha : a = BA [] <;> by_cases hb : b = BA []
  · rw [ha, hb]
  · simp [ha, hb]
  · simp [ha, hb]
  · simp only [ha, hb, decide_false, Bool.false_or, Bool.not_false, Bool.true_and]
    cases h : slt a b <;> cases h2 : slt b a
    · simpa using slt_total h h2
    · rfl
    · rfl
    · rw [slt_asymm h] at h2; cases h2
theorem meetsR_comm (a b c d : ByteArray) : meetsR a b c d = meetsR c d a b := by
  unfold meetsR
  rw [maxR_comm a c, leastR_comm b d, Bool.and_comm (okR a b)]
/-- The reference's way to say it. -/
theorem leastR_below (a b : ByteArray) : leastR a b = if belowR b a then b else a := by
  unfold leastR belowR
  rw [seq_eq, seq_eq]
  by_cases ha : a = BA [] <;> by_cases hb : b = BA []
  · rw [ha, hb]; simp
  · simp [ha, hb]
  · simp [ha, hb]
  · simp [ha, hb]
theorem least_below2 (a b : ByteArray) : seq (leastR a b) b = !(belowR a b) := by
  unfold leastR belowR
  rw [seq_eq, seq_eq, seq_eq]
  by_cases ha : a = BA [] <;> by_cases hb : b = BA []
  · rw [ha, hb]; simp
  · simp [ha]
  · simp [ha, hb]
  · simp only [ha, hb, decide_false, Bool.false_or, Bool.not_false, Bool.true_and]
    cases h : slt a b <;> cases h2 : slt b a
    · simpa using slt_total h h2
    · simp
    · have : a ≠ b := fun e => by rw [e, slt_irrefl] at h; cases h
      simpa using this
    · rw [slt_asymm h] at h2; cases h2
theorem maxR_or (a b : ByteArray) : maxR a b = a ∨ maxR a b = b := by unfold maxR; split <;> simp
theorem leastR_or (a b : ByteArray) : leastR a b = a ∨ leastR a b = b := by unfold leastR; split <;> simp
theorem okR_sizes {a b : ByteArray} (h : okR a b = true) : a.size ≤ 12 ∧ b.size ≤ 12 := by
  unfold okR at h
  simp at h
  omega
theorem meets_ref (a b c d : ByteArray) : meetsR a b c d = (okR a b && okR c d && !(!(seq (leastR b d) (BA [])) && !(slt (maxR a c) (leastR b d)))) := by
  unfold meetsR
  cases h : okR a b <;> cases h2 : okR c d
  · rfl
  · rfl
  · rfl
  · simp only [Bool.true_and]
    obtain ⟨h3, h4⟩ := okR_sizes h
    obtain ⟨h5, h6⟩ := okR_sizes h2
    unfold okR
    rw [decide_eq_false (p := (maxR a c).size > 12), decide_eq_false (p := (leastR b d).size > 12)]
    · simp
    · rcases leastR_or b d with e | e <;> rw [e] <;> omega
    · rcases maxR_or a c with e | e <;> rw [e] <;> omega
theorem sxn :
    (∀ (o : Obj) (K : Nat → Pr) (w : World), NewObj o K w = K w.heap.size (w.alloc o)) ∧
    (∀ (K : Pr) (w : World), Dr K w = K w.drew) ∧
    (∀ (A B : Pr) (w : World), Both A B w = (A w ∧ B w)) ∧
    (∀ (p : Prop) (K : Pr) (w : World), Req p K w = (p ∧ K w)) ∧
    (∀ (a : Addr) (K : Addr → Pr), Nn (some a) K = K a) ∧
    (∀ (T E : Pr) (w : World), Br true T E w = T w) ∧
    (∀ (T E : Pr) (w : World), Br false T E w = E w) ∧
    (∀ (b i n : Nat), Addr.add ⟨b, i, none⟩ n = ⟨b, i + n, none⟩) ∧
    (∀ (k : IntKind) (b i : Nat) (K : Int → Pr) (w : World), LdI k ⟨b, i, none⟩ K w = asI k K (cellO w.heap[b]? i) w) ∧
    (∀ (b i : Nat) (K : Bool → Pr) (w : World), LdB ⟨b, i, none⟩ K w = asB K (cellO w.heap[b]? i) w) ∧
    (∀ (b i : Nat) (K : ByteArray → Pr) (w : World), LdS ⟨b, i, none⟩ K w = asS K (cellO w.heap[b]? i) w) ∧
    (∀ (b i : Nat) (K : Option Addr → Pr) (w : World), LdP ⟨b, i, none⟩ K w = asP K (cellO w.heap[b]? i) w) ∧
    (∀ (b i : Nat) (K : Option Nat → Pr) (w : World), LdM ⟨b, i, none⟩ K w = asM K (cellO w.heap[b]? i) w) ∧
    (∀ (b i : Nat) (K : Value → Pr) (w : World), LdV ⟨b, i, none⟩ K w = asV K (cellO w.heap[b]? i) w) ∧
    (∀ (b i : Nat) (K : Sl → Pr) (w : World), LdL ⟨b, i, none⟩ K w = asL K (cellO w.heap[b]? i) w) ∧
    (∀ (k : IntKind) (K : Int → Pr) (x : Int) (w : World), asI k K (some (.int k x)) w = K x w) ∧
    (∀ (K : Bool → Pr) (x : Bool) (w : World), asB K (some (.bool x)) w = K x w) ∧
    (∀ (K : ByteArray → Pr) (x : ByteArray) (w : World), asS K (some (.string x)) w = K x w) ∧
    (∀ (K : Option Addr → Pr) (x : Option Addr) (w : World), asP K (some (.pointer x)) w = K x w) ∧
    (∀ (K : Option Nat → Pr) (x : Option Nat) (w : World), asM K (some (.map x)) w = K x w) ∧
    (∀ (K : Value → Pr) (x : Value) (w : World), asV K (some x) w = K x w) ∧
    (∀ (K : Sl → Pr) (p : Option Addr) (l c : Nat) (w : World), asL K (some (.slice p l c)) w = K ⟨p, l, c⟩ w) ∧
    (∀ (cs : Array Value) (t : TypeId) (fr : Nat × Nat) (i : Nat), cellO (some (.cells cs t fr)) i = cs[i]?) ∧
    (∀ (i : Nat) (v : Value) (K : Obj → Prop) (cs : Array Value) (t : TypeId) (fr : Nat × Nat), stO i v K (some (.cells cs t fr)) =
      (v.oneCell' = true ∧ i < cs.size ∧ frz fr i = false ∧ K (.cells (cs.setIfInBounds i v) t fr))) ∧
    (∀ (w : World) (o : Obj), (w.alloc o).heap[w.heap.size]? = some o) ∧
    (∀ (w : World), w.drew.heap = w.heap) ∧
    (∀ (w : World) (o : Obj), (w.alloc o).heap.size = w.heap.size + 1) ∧
    (∀ (w : World) (r : Nat) (o : Obj), (setObjW w r o).heap.size = w.heap.size) ∧
    (∀ (w : World) (r : Nat) (o o' : Obj), setObjW (setObjW w r o) r o' = setObjW w r o') ∧
    (∀ (s : Sl), (⟨s.p, s.len, s.cap⟩ : Sl) = s) :=
  ⟨fun _ _ _ => rfl, fun _ _ => rfl, fun _ _ _ => rfl, fun _ _ _ => rfl, fun _ _ => rfl, fun _ _ _ => rfl, fun _ _ _ => rfl, add_of, LdI_c, LdB_c, LdS_c, LdP_c, LdM_c, LdV_c, LdL_c,
    fun k K x w => by simp [asI], fun _ _ _ => rfl, fun _ _ _ => rfl, fun _ _ _ => rfl, fun _ _ _ => rfl, fun _ _ _ => rfl, fun _ _ _ _ _ => rfl, fun _ _ _ _ => rfl, fun _ _ _ _ _ _ => rfl, hp_alloc_new, fun _ => rfl, World.size_alloc, size_setObjW, setObjW_setObjW, fun _ => rfl⟩



theorem New_bx {cs : Array Value} {t : TypeId} {K : Addr → Pr} {w : World} (h : ∀ b w1, w1.heap[b]? = some (.cells cs t (0, 0)) → w.heap.size ≤ b → Keeps [] w w1 → K ⟨b, 0, none⟩ w1) : New cs t K w :=
  h w.heap.size (w.alloc (.cells cs t)) (hp_alloc_new w _) (Nat.le_refl _) ((Keeps.refl [] w).alloc _)
theorem kp0 {a b c : World} (h : Keeps [] a b) (k : Keeps [] b c) : Keeps [] a c := h.trans k (by simp)
theorem kpx {m : List Nat} {a b c : World} (h : Keeps [] a b) (k : Keeps m b c) (hm : ∀ x ∈ m, a.heap.size ≤ x) : Keeps [] a c := h.trans k (fun x hx => .inr (hm x hx))

theorem least_ok (a b : ByteArray) (w : World) : Cl Try.prog i_span_least [.string a, .string b] false [.sc .s] (fun r w' => r.1 = leastR a b ∧ w = w') w := by
  refine Cl_gen fun R hR => ?_
  apply span_least_call
  have hR' : R (leastR a b, ()) w := hR _ _ ⟨rfl, rfl⟩
  unfold span_least
  unfold leastR at hR'
  simp only [Jp]
  cases h1 : seq a (BA []) <;> cases h2 : seq b (BA []) <;> cases h3 : slt b a <;> simp only [Br, Bool.not_true, Bool.not_false] <;> simpa [h1, h2, h3] using hR'
theorem below_ok (a b : ByteArray) (w : World) : Cl Try.prog i_sumpterref02_below [.string a, .string b] false [.sc .b] (fun r w' => r.1 = belowR a b ∧ w = w') w := by
  refine Cl_gen fun R hR => ?_
  apply sumpterref02_below_call
  have hR' : R (belowR a b, ()) w := hR _ _ ⟨rfl, rfl⟩
  unfold sumpterref02_below
  unfold belowR at hR'
  cases h1 : seq a (BA []) <;> cases h2 : seq b (BA []) <;> cases h3 : slt a b <;> simp only [Br, Bool.not_true, Bool.not_false] <;> simpa [h1, h2, h3] using hR'
theorem all_ok (w : World) : Cl Try.prog i_span_all [] false [.ag [.s, .s]] (fun r w' => r.1.1 = BA [] ∧ r.1.2.1 = BA [] ∧ Keeps [] w w') w := by
  refine Cl_gen fun R hR => ?_
  apply span_all_call
  unfold span_all
  refine New_bx fun b w1 hb hn k1 => ?_
  simp only [add_of]
  refine set_box hb 0 _ rfl (by simp) fun w2 hb2 k2 => ?_
  refine set_box hb2 1 _ rfl (by simp) fun w3 hb3 k3 => ?_
  have hb4 : w3.heap[b]? = some (.cells #[.string (BA []), .string (BA [])] 28 (0, 0)) := hb3
  simp only [sxn, hb4, sxl, Nat.reduceAdd]
  exact hR ((BA [], BA [], ()), ()) _ ⟨rfl, rfl, kpx (kpx k1 k2 (by simpa using hn)) k3 (by simpa using hn)⟩
theorem nat12 (n : Nat) : decide (((n : Nat) : Int) > 12) = decide (n > 12) := decide_eq_decide.2 (by omega)
theorem RCheck_ok (lo hi : ByteArray) (w : World) : Cl Try.prog i_sumpterref02_Check [.agg #[.string lo, .string hi]] false [.sc (.i .i64)] (fun r w' => r.1 = (if okR lo hi then 0 else 21) ∧ Keeps [] w w') w := by
  refine Cl_gen fun R hR => ?_
  apply sumpterref02_Check_call
  unfold sumpterref02_Check
  refine New_bx fun b w1 hb hn k1 => ?_
  have hR' : R (if okR lo hi then 0 else 21, ()) w1 := hR _ _ ⟨rfl, k1⟩
  unfold okR at hR'
  simp only [Jp, sxn, hb, sxl, Nat.reduceAdd, nat12]
  cases h1 : decide (lo.size > 12) <;> cases h2 : decide (hi.size > 12) <;> cases h3 : seq hi (BA []) <;> cases h4 : slt lo hi <;> rw [h1, h2, h3, h4] at hR' <;> simp only [sxn, hb, sxl, Nat.reduceAdd, nat12, h1, h2, h3, h4, Bool.not_true, Bool.not_false] <;> exact hR'
theorem Check_ok (lo hi : ByteArray) (w : World) : Cl Try.prog i_span_Check [.agg #[.string lo, .string hi]] false [.sc (.i .i64)] (fun r w' => r.1 = (if okR lo hi then 0 else 21) ∧ Keeps [] w w') w := by
  refine Cl_gen fun R hR => ?_
  apply span_Check_call
  unfold span_Check
  refine New_bx fun b w1 hb hn k1 => ?_
  simp only [sxn, hb, sxl, Nat.reduceAdd]
  refine Cl.mono (all_ok _) ?_
  rintro ⟨⟨ra, rb, _⟩, _⟩ w2 ⟨e1, e2, k2⟩
  dsimp only at e1 e2
  subst e1 e2
  have hb2 : w2.heap[b]? = _ := k2.at (show w1.drew.heap[b]? = _ from hb) (by simp)
  have k02 : Keeps [] w w2 := kp0 k1.drew k2
  simp only [sxn, hb2, sxl, Nat.reduceAdd]
  refine ⟨by trivial, ?_⟩
  have hR' : R (if okR lo hi then 0 else 21, ()) w2 := hR _ _ ⟨rfl, k02⟩
  rw [Bool.and_true]
  cases h0 : seq lo (BA []) && seq hi (BA []) with
  | true =>
    rw [Bool.and_eq_true, seq_eq, seq_eq, decide_eq_true_iff, decide_eq_true_iff] at h0
    obtain ⟨rfl, rfl⟩ := h0
    simp only [Br]
    simpa [okR, BA, ByteArray.size, seq_eq] using hR'
  | false =>
    unfold okR at hR'
    simp only [Jp, sxn, hb2, sxl, Nat.reduceAdd, nat12]
    cases h1 : decide (lo.size > 12) <;> cases h2 : decide (hi.size > 12) <;> cases h3 : seq hi (BA []) <;> cases h4 : slt lo hi <;> rw [h1, h2, h3, h4] at hR' <;> simp only [sxn, hb2, sxl, Nat.reduceAdd, nat12, h1, h2, h3, h4, Bool.not_true, Bool.not_false] <;> exact hR'
theorem Br_true {T E : Pr} {w : World} : Br true T E w = T w := rfl
theorem ok0 (c : Bool) : ((if c then (0 : Int) else 21) == 0) = c := by cases c <;> rfl
theorem ok1 (c : Bool) : ((if c then (0 : Int) else 21) != 0) = !c := by cases c <;> rfl
theorem Meet_ok (a b c d : ByteArray) (w : World) : Cl Try.prog i_span_Meet [.agg #[.string a, .string b], .agg #[.string c, .string d]] true [.ag [.s, .s], .sc .b] (fun r w' => r.2.1 = meetsR a b c d ∧ Keeps [] w w') w := by
  refine Cl_gen fun R hR => ?_
  apply span_Meet_call
  unfold span_Meet
  refine New_bx fun a1 w1 h1 n1 k1 => ?_
  refine New_bx fun a2 w2 h2 n2 k2 => ?_
  have h1 := k2.at h1 (by simp)
  refine New_bx fun a3 w3 h3 n3 k3 => ?_
  have h1 := k3.at h1 (by simp)
  have h2 := k3.at h2 (by simp)
  have k03 := kp0 (kp0 k1 k2) k3
  have n3' : w.heap.size ≤ a3 := by have := k1.size; have := k2.size; omega
  clear k1 k2 k3
  refine Jp_of (fun s w' => ∃ x, s = (some ⟨x, 0, none⟩, ()) ∧ w'.heap[x]? = some (.cells #[.string (maxR a c), .string (leastR b d)] 28 (0, 0)) ∧ Keeps [] w3 w') (fun J hJ => ?_) ?_
  · simp only [sxn, h1, h2, sxl, Nat.reduceAdd]
    refine ⟨?_, ?_⟩
    · refine Cl.mono (least_ok _ _ _) ?_
      rintro ⟨r, _⟩ _ ⟨e, rfl⟩
      dsimp only at e
      subst e
      simp only [sxn, h1, h2, sxl, Nat.reduceAdd]
      refine ⟨by trivial, by trivial, ?_⟩
      refine New_bx fun x w4 h4 n4 k4 => ?_
      have h1 := k4.at (w := w3.drew) h1 (by simp)
      have h2 := k4.at (w := w3.drew) h2 (by simp)
      simp only [sxn, h1, h2, sxl, Nat.reduceAdd]
      refine ⟨by trivial, by trivial, by trivial, by trivial, ?_⟩
      refine set_box h4 0 _ rfl (by simp) fun w5 h5 k5 => ?_
      refine set_box h5 1 _ rfl (by simp) fun w6 h6 k6 => ?_
      exact hJ _ _ ⟨x, rfl, h6, kpx (kpx (kp0 (Keeps.refl [] w3).drew k4) k5 (by simpa using n4)) k6 (by simpa using n4)⟩
    · refine New_bx fun x w4 h4 n4 k4 => ?_
      have h1 := k4.at (w := w3.drew) h1 (by simp)
      have h2 := k4.at (w := w3.drew) h2 (by simp)
      simp only [sxn, h1, h2, sxl, Nat.reduceAdd]
      refine ⟨by trivial, by trivial, by trivial, by trivial, ?_⟩
      refine Cl.mono (least_ok _ _ _) ?_
      rintro ⟨r, _⟩ _ ⟨e, rfl⟩
      dsimp only at e
      subst e
      simp only [sxn, h1, h2, sxl, Nat.reduceAdd]
      refine ⟨by trivial, by trivial, ?_⟩
      refine set_box h4 0 _ rfl (by simp) fun w5 h5 k5 => ?_
      refine set_box h5 1 _ rfl (by simp) fun w6 h6 k6 => ?_
      exact hJ _ _ ⟨x, rfl, h6, kpx (kpx (kp0 (Keeps.refl [] w3).drew k4) k5 (by simpa using n4)) k6 (by simpa using n4)⟩
  · rintro _ w4 ⟨x, rfl, h4, k4⟩
    have h1 := k4.at h1 (by simp)
    have h2 := k4.at h2 (by simp)
    have h3 := k4.at h3 (by simp)
    have k04 := kp0 k03 k4
    refine Jp_of (fun s w' => s = (!(meetsR a b c d), ()) ∧ Keeps [] w4 w') (fun J hJ => ?_) ?_
    · simp only [sxn, h1, sxl, Nat.reduceAdd]
      refine Cl.mono (Check_ok _ _ _) ?_
      rintro ⟨r, _⟩ w5 ⟨e, k5⟩
      dsimp only at e
      subst e
      simp only [ok1]
      unfold meetsR at hJ
      cases c1 : okR a b with
      | false => exact hJ _ _ ⟨by rw [c1]; rfl, k5⟩
      | true =>
      have h2 := k5.at h2 (by simp)
      have h4 := k5.at h4 (by simp)
      simp only [sxn, h2, sxl, Nat.reduceAdd, Bool.not_true]
      refine Cl.mono (Check_ok _ _ _) ?_
      rintro ⟨r, _⟩ w6 ⟨e, k6⟩
      dsimp only at e
      subst e
      simp only [ok1]
      cases c2 : okR c d with
      | false => exact hJ _ _ ⟨by rw [c1, c2]; rfl, kp0 k5 k6⟩
      | true =>
      have h4 := k6.at h4 (by simp)
      simp only [sxn, h4, sxl, Nat.reduceAdd, Bool.not_true]
      refine Cl.mono (Check_ok _ _ _) ?_
      rintro ⟨r, _⟩ w7 ⟨e, k7⟩
      dsimp only at e
      subst e
      simp only [ok1]
      exact hJ _ _ ⟨by rw [c1, c2]; rfl, kp0 (kp0 k5 k6) k7⟩
    · rintro _ w5 ⟨rfl, k5⟩
      have h3 := k5.at h3 (by simp)
      have h4 := k5.at h4 (by simp)
      have k05 := kp0 k04 k5
      cases cm : meetsR a b c d with
      | false =>
        simp only [sxn, Bool.not_false, Nat.reduceAdd]
        refine set_box h3 0 _ rfl (by simp) fun w6 h6 k6 => ?_
        refine set_box h6 1 _ rfl (by simp) fun w7 h7 k7 => ?_
        have h7' : w7.heap[a3]? = some (.cells #[.string (BA []), .string (BA [])] 28 (0, 0)) := h7
        simp only [sxn, h7', sxl, Nat.reduceAdd]
        exact hR _ _ ⟨cm.symm, kpx (kpx k05 k6 (by simpa using n3')) k7 (by simpa using n3')⟩
      | true =>
        simp only [sxn, Bool.not_true, Nat.reduceAdd, h4, sxl]
        refine set_box h3 0 _ rfl (by simp) fun w6 h6 k6 => ?_
        refine set_box h6 1 _ rfl (by simp) fun w7 h7 k7 => ?_
        have h7' : w7.heap[a3]? = some (.cells #[.string (maxR a c), .string (leastR b d)] 28 (0, 0)) := h7
        simp only [sxn, h7', sxl, Nat.reduceAdd]
        exact hR _ _ ⟨cm.symm, kpx (kpx k05 k6 (by simpa using n3')) k7 (by simpa using n3')⟩
theorem Covers_ok (a b c d : ByteArray) (w : World) : Cl Try.prog i_span_Covers [.agg #[.string a, .string b], .agg #[.string c, .string d]] false [.sc .b] (fun r w' => r.1 = coversR a b c d ∧ Keeps [] w w') w := by
  refine Cl_gen fun R hR => ?_
  apply span_Covers_call
  unfold span_Covers
  refine New_bx fun a1 w1 h1 n1 k1 => ?_
  refine New_bx fun a2 w2 h2 n2 k2 => ?_
  have h1 := k2.at h1 (by simp)
  have k02 := (kp0 k1 k2).drew
  unfold coversR at hR
  simp only [sxn, h1, sxl, Nat.reduceAdd]
  refine Cl.mono (Check_ok _ _ _) ?_
  rintro ⟨r, _⟩ w5 ⟨e, k5⟩
  dsimp only at e
  subst e
  simp only [ok0]
  cases c1 : okR a b with
  | false => exact hR _ _ ⟨by rw [c1]; rfl, kp0 k02 k5⟩
  | true =>
  have h1 := k5.at (w := w2.drew) h1 (by simp)
  have h2 := k5.at (w := w2.drew) h2 (by simp)
  simp only [sxn, h2, sxl, Nat.reduceAdd]
  refine Cl.mono (Check_ok _ _ _) ?_
  rintro ⟨r, _⟩ w6 ⟨e, k6⟩
  dsimp only at e
  subst e
  simp only [ok0]
  have k06 := kp0 (kp0 k02 k5) k6
  cases c2 : okR c d with
  | false => exact hR _ _ ⟨by rw [c1, c2]; rfl, k06⟩
  | true =>
  have h1 := k6.at h1 (by simp)
  have h2 := k6.at h2 (by simp)
  simp only [sxn, h1, h2, sxl, Nat.reduceAdd]
  cases c3 : slt a c || seq a c with
  | false => exact hR _ _ ⟨by rw [c1, c2, c3]; rfl, k06⟩
  | true =>
  simp only [sxn, h1, h2, sxl, Nat.reduceAdd]
  refine Cl.mono (least_ok _ _ _) ?_
  rintro ⟨r, _⟩ _ ⟨e, rfl⟩
  dsimp only at e
  subst e
  simp only [sxn, h1, h2, sxl, Nat.reduceAdd]
  refine ⟨by trivial, ?_⟩
  exact hR _ _ ⟨by rw [c1, c2, c3]; rfl, k06⟩
theorem RCovers_ok (a b c d : ByteArray) (w : World) : Cl Try.prog i_sumpterref02_Covers [.agg #[.string a, .string b], .agg #[.string c, .string d]] false [.sc .b] (fun r w' => r.1 = coversR a b c d ∧ Keeps [] w w') w := by
  refine Cl_gen fun R hR => ?_
  apply sumpterref02_Covers_call
  unfold sumpterref02_Covers
  refine New_bx fun a1 w1 h1 n1 k1 => ?_
  refine New_bx fun a2 w2 h2 n2 k2 => ?_
  have h1 := k2.at h1 (by simp)
  have k02 := (kp0 k1 k2)
  unfold coversR at hR
  simp only [sxn, h1, sxl, Nat.reduceAdd]
  refine Cl.mono (RCheck_ok _ _ _) ?_
  rintro ⟨r, _⟩ w5 ⟨e, k5⟩
  dsimp only at e
  subst e
  simp only [ok0]
  cases c1 : okR a b with
  | false => exact hR _ _ ⟨by rw [c1]; rfl, kp0 k02 k5⟩
  | true =>
  have h1 := k5.at h1 (by simp)
  have h2 := k5.at h2 (by simp)
  simp only [sxn, h2, sxl, Nat.reduceAdd]
  refine Cl.mono (RCheck_ok _ _ _) ?_
  rintro ⟨r, _⟩ w6 ⟨e, k6⟩
  dsimp only at e
  subst e
  simp only [ok0]
  have k06 := kp0 (kp0 k02 k5) k6
  cases c2 : okR c d with
  | false => exact hR _ _ ⟨by rw [c1, c2]; rfl, k06⟩
  | true =>
  have h1 := k6.at h1 (by simp)
  have h2 := k6.at h2 (by simp)
  simp only [sxn, h1, h2, sxl, Nat.reduceAdd]
  cases c3 : slt a c || seq a c with
  | false => exact hR _ _ ⟨by rw [c1, c2, c3]; rfl, k06⟩
  | true =>
  simp only [sxn, h1, h2, sxl, Nat.reduceAdd]
  refine Cl.mono (below_ok _ _ _) ?_
  rintro ⟨r, _⟩ _ ⟨e, rfl⟩
  dsimp only at e
  subst e
  exact hR _ _ ⟨by rw [c1, c2, c3, least_below2]; rfl, k06⟩
theorem RMeet_ok (a b c d : ByteArray) (w : World) : Cl Try.prog i_sumpterref02_Meet [.agg #[.string a, .string b], .agg #[.string c, .string d]] true [.ag [.s, .s], .sc .b] (fun r w' => r.2.1 = meetsR a b c d ∧ Keeps [] w w') w := by
  refine Cl_gen fun R hR => ?_
  apply sumpterref02_Meet_call
  unfold sumpterref02_Meet
  refine New_bx fun a1 w1 h1 n1 k1 => ?_
  refine New_bx fun a2 w2 h2 n2 k2 => ?_
  have h1 := k2.at h1 (by simp)
  refine New_bx fun a3 w3 h3 n3 k3 => ?_
  have h1 := k3.at h1 (by simp)
  have h2 := k3.at h2 (by simp)
  have k03 := kp0 (kp0 k1 k2) k3
  have n3 : w.heap.size ≤ a3 := by have := k1.size; have := k2.size; omega
  clear k1 k2 k3
  rw [meets_ref] at hR
  refine Jp_of (fun s w' => s = (!(okR a b && okR c d), ()) ∧ Keeps [] w3 w') (fun J hJ => ?_) ?_
  · simp only [sxn, h1, sxl, Nat.reduceAdd]
    refine Cl.mono (RCheck_ok _ _ _) ?_
    rintro ⟨r, _⟩ w5 ⟨e, k5⟩
    dsimp only at e
    subst e
    simp only [ok1]
    cases c1 : okR a b with
    | false => exact hJ _ _ ⟨by rw [c1]; rfl, k5⟩
    | true =>
    have h2 := k5.at h2 (by simp)
    simp only [sxn, h2, sxl, Nat.reduceAdd, Bool.not_true]
    refine Cl.mono (RCheck_ok _ _ _) ?_
    rintro ⟨r, _⟩ w6 ⟨e, k6⟩
    dsimp only at e
    subst e
    simp only [ok1]
    exact hJ _ _ ⟨by rw [c1]; rfl, kp0 k5 k6⟩
  rintro _ w4 ⟨rfl, k4⟩
  have h1 := k4.at h1 (by simp)
  have h2 := k4.at h2 (by simp)
  have h3 := k4.at h3 (by simp)
  have k04 := kp0 k03 k4
  cases c0 : okR a b && okR c d with
  | false =>
    simp only [sxn, Bool.not_false, Nat.reduceAdd]
    refine set_box h3 0 _ rfl (by simp) fun w6 h6 k6 => ?_
    refine set_box h6 1 _ rfl (by simp) fun w7 h7 k7 => ?_
    have h7' : w7.heap[a3]? = some (.cells #[.string (BA []), .string (BA [])] 28 (0, 0)) := h7
    simp only [sxn, h7', sxl, Nat.reduceAdd]
    exact hR _ _ ⟨by rw [c0]; rfl, kpx (kpx k04 k6 (by simpa using n3)) k7 (by simpa using n3)⟩
  | true =>
    simp only [sxn, Bool.not_true, Nat.reduceAdd, h1, h2, sxl]
    have l1 := hp_lt h1
    have l2 := hp_lt h2
    have l3 := hp_lt h3
    refine New_bx fun x w5 h5 n5 k5 => ?_
    have k05 := kp0 k04 k5
    have h1 := k5.at h1 (by simp)
    have h2 := k5.at h2 (by simp)
    have h3 := k5.at h3 (by simp)
    have n5' : w.heap.size ≤ x := by have := k04.size; omega
    have x1 : a1 ∉ [x] := by simp; omega
    have x2 : a2 ∉ [x] := by simp; omega
    have x3 : a3 ∉ [x] := by simp; omega
    have x4 : x ∉ [a3] := by simp; omega
    simp only [add_of, Nat.reduceAdd]
    refine set_box h5 0 _ rfl (by simp) fun w6 h6 k6 => ?_
    refine set_box h6 1 _ rfl (by simp) fun w7 h7 k7 => ?_
    have h7 : w7.heap[x]? = some (.cells #[.string (maxR a c), .string b] 28 (0, 0)) := h7
    have k07 := kpx (kpx k05 k6 (by simpa using n5')) k7 (by simpa using n5')
    have h1 := k7.at (k6.at h1 x1) x1
    have h2 := k7.at (k6.at h2 x2) x2
    have h3 := k7.at (k6.at h3 x3) x3
    refine Jp_of (fun s w' => w'.heap[x]? = some (.cells #[.string (maxR a c), .string (leastR b d)] 28 (0, 0)) ∧ Keeps [x] w7 w') (fun J hJ => ?_) ?_
    · simp only [sxn, h1, h2, sxl, Nat.reduceAdd]
      refine Cl.mono (below_ok _ _ _) ?_
      rintro ⟨r, _⟩ _ ⟨e, rfl⟩
      dsimp only at e
      subst e
      rw [leastR_below] at hJ
      cases cb : belowR d b with
      | false =>
        rw [cb] at hJ
        exact hJ _ _ ⟨h7, Keeps.refl _ _⟩
      | true =>
        rw [cb] at hJ
        simp only [sxn, h2, sxl, Nat.reduceAdd]
        refine set_box h7 1 _ rfl (by simp) fun w8 h8 k8 => ?_
        exact hJ _ _ ⟨h8, k8⟩
    rintro _ w8 ⟨h8, k8⟩
    have h3 := k8.at h3 x3
    have k08 := kpx k07 k8 (by simpa using n5')
    refine Jp_of (fun s w' => s = (!(seq (leastR b d) (BA [])) && !(slt (maxR a c) (leastR b d)), ()) ∧ w8 = w') (fun J hJ => ?_) ?_
    · simp only [sxn, h8, sxl, Nat.reduceAdd]
      cases cs : seq (leastR b d) (BA []) with
      | true => exact hJ _ _ ⟨by rw [cs]; rfl, rfl⟩
      | false =>
        simp only [sxn, h8, sxl, Nat.reduceAdd, Bool.not_false]
        exact hJ _ _ ⟨by rw [cs]; rfl, rfl⟩
    rintro _ _ ⟨rfl, rfl⟩
    cases cm : !(seq (leastR b d) (BA [])) && !(slt (maxR a c) (leastR b d)) with
    | true =>
      simp only [sxn, Nat.reduceAdd]
      refine set_box h3 0 _ rfl (by simp) fun w9 h9 k9 => ?_
      refine set_box h9 1 _ rfl (by simp) fun w10 h10 k10 => ?_
      have h10' : w10.heap[a3]? = some (.cells #[.string (BA []), .string (BA [])] 28 (0, 0)) := h10
      simp only [sxn, h10', sxl, Nat.reduceAdd]
      exact hR _ _ ⟨by rw [c0, cm]; rfl, kpx (kpx k08 k9 (by simpa using n3)) k10 (by simpa using n3)⟩
    | false =>
      simp only [sxn, Nat.reduceAdd, h8, sxl]
      refine set_box h3 0 _ rfl (by simp) fun w9 h9 k9 => ?_
      refine set_box h9 1 _ rfl (by simp) fun w10 h10 k10 => ?_
      have h10' : w10.heap[a3]? = some (.cells #[.string (maxR a c), .string (leastR b d)] 28 (0, 0)) := h10
      simp only [sxn, h10', sxl, Nat.reduceAdd]
      exact hR _ _ ⟨by rw [c0, cm]; rfl, kpx (kpx k08 k9 (by simpa using n3)) k10 (by simpa using n3)⟩
end Go.Proofs.Ytmppjgddemlmdaa
