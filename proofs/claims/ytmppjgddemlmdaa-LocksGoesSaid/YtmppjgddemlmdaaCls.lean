/- The closures of the lock table, and the library's functions that call one. Conditions: none. -/
import Derived.Test.YtmppjgddemlmdaaSls
set_option linter.unusedVariables false
set_option linter.unusedSimpArgs false
namespace Go.Proofs.Ytmppjgddemlmdaa
open Go Go.Sx

def wayA (x y : Ak) : Bool := meetsR x.lo x.hi y.lo y.hi && (x.n != y.n && (x.wr || y.wr))
theorem wayA_comm (x y : Ak) : wayA x y = wayA y x := by
  unfold wayA
  rw [meetsR_comm, Bool.or_comm x.wr y.wr]
  have : (x.n != y.n) = (y.n != x.n) := bne_comm
  rw [this]
theorem wayA_ne {x y : Ak} (h : wayA x y = true) : x.n ≠ y.n := by
  unfold wayA at h
  simp at h
  exact h.2.1

/-- A function value that computes p, as long as only blocks of m are written. -/
def IsP (f : Value) (p : Ak → Bool) (m : List Nat) (w : World) : Prop := ∀ w', Keeps m w w' → ∀ x, CallV Try.prog f [vA x] false [.sc .b] (fun r w'' => r.1 = p x ∧ Keeps [] w' w'') w'
theorem IsP.to {f : Value} {p : Ak → Bool} {m : List Nat} {w w1 : World} (h : IsP f p m w) (hk : Keeps m w w1) : IsP f p m w1 := fun w' k x => h w' (hk.trans k (fun _ hx => .inl hx)) x
theorem IsP.mono {f : Value} {p : Ak → Bool} {m m' : List Nat} {w : World} (h : IsP f p m w) (hm : ∀ x ∈ m', x ∈ m) : IsP f p m' w := fun w' k x => h w' (k.mono (fun y hy => .inl (hm y hy))) x
theorem CallV_fn {g : FuncId} (hg : okFn Try.prog g = true) {c : Value} {args : List Value} {tup : Bool} {rs : List RK} {K : TR rs → Pr} {w : World} (h : Cl Try.prog g (args ++ [c]) tup rs K w) : CallV Try.prog (.func (.func g) #[] #[c]) args tup rs K w := by
  unfold CallV
  simp only [hg]
  exact h
theorem CallV_fn0 {g : FuncId} (hg : okFn Try.prog g = true) {args : List Value} {tup : Bool} {rs : List RK} {K : TR rs → Pr} {w : World} (h : Cl Try.prog g args tup rs K w) : CallV Try.prog (.func (.func g) #[] #[]) args tup rs K w := by
  unfold CallV
  simp only [hg]
  simpa using h

/-- 'of'. -/
theorem of_ok (n : Int) (w : World) : Cl Try.prog i_locks_of [.int .u64 n] false [.sc .v] (fun r w' => ∃ e, w.heap.size ≤ e ∧ (∀ m, e ∉ m → IsP r.1 (fun x => x.n == n) m w') ∧ Keeps [] w w') w := by
  refine Cl_gen fun R hR => ?_
  apply locks_of_call
  unfold locks_of
  refine New_bx fun e w1 h1 n1 k1 => ?_
  refine hR _ _ ⟨e, n1, fun m hm w2 k2 x => ?_, k1⟩
  have h1 := k2.at h1 hm
  refine CallV_fn (by kernel_rfl) ?_
  refine Cl_gen fun R' hR' => ?_
  apply locks_of_1_call
  unfold locks_of_1
  refine New_bx fun b w3 h3 n3 k3 => ?_
  have h1 := k3.at h1 (by simp)
  simp only [sxn, h3, h1, sxl, Nat.reduceAdd]
  exact hR' _ _ ⟨rfl, k3⟩
/-- 'against'. -/
theorem against_ok (x : Ak) (w : World) : Cl Try.prog i_locks_against [vA x] false [.sc .v] (fun r w' => ∃ e, w.heap.size ≤ e ∧ (∀ m, e ∉ m → IsP r.1 (fun y => wayA x y) m w') ∧ Keeps [] w w') w := by
  refine Cl_gen fun R hR => ?_
  apply locks_against_call
  unfold locks_against
  refine New_bx fun e w1 h1 n1 k1 => ?_
  refine hR _ _ ⟨e, n1, fun m hm w2 k2 y => ?_, k1⟩
  have h1 := k2.at h1 hm
  refine CallV_fn (by kernel_rfl) ?_
  refine Cl_gen fun R' hR' => ?_
  apply locks_against_1_call
  unfold locks_against_1
  refine New_bx fun b w3 h3 n3 k3 => ?_
  have h1 := k3.at h1 (by simp)
  simp only [sxn, h3, h1, sxl, Nat.reduceAdd]
  refine Cl.mono (Meet_ok _ _ _ _ _) ?_
  rintro ⟨s, r, _⟩ w4 ⟨e4, k4⟩
  dsimp only at e4
  subst e4
  have h1 := k4.at h1 (by simp)
  have h3 := k4.at h3 (by simp)
  have l1 := hp_lt h1
  have l3 := hp_lt h3
  refine New_bx fun c w5 h5 n5 k5 => ?_
  have h1 := k5.at h1 (by simp)
  have h3 := k5.at h3 (by simp)
  have n5' : w2.heap.size ≤ c := by have := k3.size; have := k4.size; omega
  simp only [add_of, Nat.reduceAdd]
  refine set_box h5 0 _ rfl (by simp) fun w6 h6 k6 => ?_
  refine set_box h6 1 _ rfl (by simp) fun w7 h7 k7 => ?_
  have x1 : e ∉ [c] := by simp; omega
  have x3 : b ∉ [c] := by simp; omega
  have h1 := k7.at (k6.at h1 x1) x1
  have h3 := k7.at (k6.at h3 x3) x3
  have k27 := kpx (kpx (kp0 (kp0 k3 k4) k5) k6 (by simpa using n5')) k7 (by simpa using n5')
  cases c1 : meetsR x.lo x.hi y.lo y.hi with
  | false => exact hR' _ _ ⟨by show _ = wayA x y; unfold wayA; rw [c1]; rfl, k27⟩
  | true =>
  simp only [sxn, h3, h1, sxl, Nat.reduceAdd]
  cases c2 : x.n != y.n with
  | false => exact hR' _ _ ⟨by show _ = wayA x y; unfold wayA; rw [c1, c2]; rfl, k27⟩
  | true =>
  simp only [sxn, h3, h1, sxl, Nat.reduceAdd]
  cases c3 : x.wr with
  | true => exact hR' _ _ ⟨by show _ = wayA x y; unfold wayA; rw [c1, c2, c3]; rfl, k27⟩
  | false =>
  simp only [sxn, h3, h1, sxl, Nat.reduceAdd]
  exact hR' _ _ ⟨by show _ = wayA x y; unfold wayA; rw [c1, c2, c3]; rfl, k27⟩

/-- 'slices.IndexFunc'. -/
theorem IndexFunc_ok {w : World} {s : Sl} {l : List Ak} {f : Value} {p : Ak → Bool} (h : As w s l) (hp : IsP f p [] w) (hN : l.length ≤ 1000) :
    Cl Try.prog i_slices_IndexFunc [.slice s.p s.len s.cap, f] false [.sc (.i .i64)] (fun r w' => ((∃ (i : Nat) (x : Ak), r.1 = (i : Int) ∧ l[i]? = some x ∧ p x = true ∧ ∀ y ∈ l.take i, p y = false) ∨ (r.1 = -1 ∧ ∀ y ∈ l, p y = false)) ∧ Keeps [] w w') w := by
  refine Cl_gen fun R hR => ?_
  have hl := as_len h
  apply slices_IndexFunc_call
  unfold slices_IndexFunc
  refine ⟨fun n st w' => ∃ (q : Int) (i : Nat), st = (q, (i : Int), ()) ∧ n = l.length - i ∧ i ≤ l.length ∧ (∀ y ∈ l.take i, p y = false) ∧ Keeps [] w w', ⟨_, 0, 0, rfl, rfl, by omega, by simp, Keeps.refl _ _⟩, ?_⟩
  rintro n _ w1 ⟨q, i, rfl, rfl, hi, hpre, k1⟩
  dsimp only
  by_cases hlt : i < l.length
  · rw [decide_eq_true (by omega)]
    simp only [Br]
    obtain ⟨x, hx⟩ : ∃ x, l[i]? = some x := ⟨_, List.getElem?_eq_getElem hlt⟩
    refine as_ld (h.keeps k1 (by simp)) hx ?_
    refine CallV.mono (hp w1 k1 x) ?_
    rintro ⟨r, _⟩ w2 ⟨e, k2⟩
    dsimp only at e
    subst e
    have k02 := kp0 k1 k2
    cases hpx : p x with
    | true => exact hR _ _ ⟨.inl ⟨i, x, rfl, hx, hpx, hpre⟩, k02⟩
    | false =>
      simp only [Br]
      refine ⟨l.length - (i + 1), by omega, q, i + 1, by rw [w64p (by omega)], rfl, by omega, ?_, k02⟩
      intro y hy
      rw [List.take_add_one, hx] at hy
      simp at hy
      rcases hy with hy | rfl
      · exact hpre y hy
      · exact hpx
  · rw [decide_eq_false (by omega)]
    simp only [Br]
    refine hR _ _ ⟨.inr ⟨rfl, ?_⟩, k1⟩
    rw [List.take_of_length_le (by omega)] at hpre
    exact hpre
theorem ContainsFunc_ok {w : World} {s : Sl} {l : List Ak} {f : Value} {p : Ak → Bool} (h : As w s l) (hp : IsP f p [] w) (hN : l.length ≤ 1000) :
    Cl Try.prog i_slices_ContainsFunc [.slice s.p s.len s.cap, f] false [.sc .b] (fun r w' => r.1 = l.any p ∧ Keeps [] w w') w := by
  refine Cl_gen fun R hR => ?_
  apply slices_ContainsFunc_call
  unfold slices_ContainsFunc
  refine Cl.mono (IndexFunc_ok h hp hN) ?_
  rintro ⟨r, _⟩ w1 ⟨hr, k1⟩
  dsimp only at hr
  refine hR _ _ ⟨?_, k1⟩
  dsimp only
  rcases hr with ⟨i, x, rfl, hx, hpx, _⟩ | ⟨rfl, hn⟩
  · show decide ((i : Int) ≥ 0) = _
    rw [decide_eq_true (by omega)]
    exact (List.any_eq_true.2 ⟨x, List.mem_of_getElem? hx, hpx⟩).symm
  · show decide ((-1 : Int) ≥ 0) = _
    rw [decide_eq_false (by omega)]
    refine (List.any_eq_false.2 ?_).symm
    intro y hy
    rw [hn y hy]
    simp
theorem zc48e : zc Try.prog 48 = #[.int .u64 0, .string (BA []), .string (BA []), .bool false] := by kernel_rfl
theorem zc48 : ∀ v ∈ (zc Try.prog 48).toList, v.oneCell' = true := by rw [zc48e]; simp [Value.oneCell']
theorem zc26e : zc Try.prog 26 = #[.int .u64 0] := by kernel_rfl
theorem zc26 : ∀ v ∈ (zc Try.prog 26).toList, v.oneCell' = true := by rw [zc26e]; simp [Value.oneCell']
/-- 'slices.DeleteFunc'. -/
theorem DeleteFunc_ok {w : World} {s : Sl} {l : List Ak} {f : Value} {p : Ak → Bool} (h : As w s l) (hp : IsP f p (blk s) w) (hN : l.length ≤ 1000) :
    Cl Try.prog i_slices_DeleteFunc [.slice s.p s.len s.cap, f] false [.sc .sl] (fun r w' => As w' r.1 (l.filter (fun x => !p x)) ∧ (∀ x ∈ blk r.1, x ∈ blk s) ∧ Keeps (blk s) w w') w := by
  refine Cl_gen fun R hR => ?_
  have hl := as_len h
  apply slices_DeleteFunc_call
  unfold slices_DeleteFunc
  refine Cl.mono (IndexFunc_ok h (hp.mono (by simp)) hN) ?_
  rintro ⟨r, _⟩ w1 ⟨hr, k1⟩
  dsimp only at hr ⊢
  have h1 := h.keeps k1 (by simp)
  rcases hr.symm with ⟨rfl, hn⟩ | ⟨i0, x0, rfl, hx0, hpx0, hpre⟩
  · refine hR (s, ()) _ ⟨?_, fun _ hx => hx, k1.mono (by simp)⟩
    rw [List.filter_eq_self.2 (fun y hy => by rw [hn y hy]; rfl)]
    exact h1
  have hi0 := (List.getElem?_eq_some_iff.1 hx0).1
  rw [show ((i0 : Int) == -1) = false from by simp]
  simp only [Br]
  have hfil : ∀ j, (l.take (j + 1)).filter (fun x => !p x) = (l.take j).filter (fun x => !p x) ++ (match l[j]? with | some x => if p x then [] else [x] | none => []) := by
    intro j
    rw [List.take_add_one, List.filter_append]
    cases l[j]? with
    | none => rfl
    | some x => cases hpx : p x <;> simp [hpx]
  refine ⟨fun n st w' => ∃ (i j : Nat) (cur : List Ak), st = ((i : Int), (j : Int), ()) ∧ n = l.length - j ∧ j ≤ l.length ∧ i < j ∧ cur.length = l.length ∧ cur.take i = (l.take j).filter (fun x => !p x) ∧ cur.drop j = l.drop j ∧ i ≤ j ∧ As w' s cur ∧ Keeps (blk s) w w',
    ⟨_, i0, i0 + 1, l, by rw [w64p (by omega)], rfl, by omega, by omega, rfl, ?_, rfl, by omega, h1, k1.mono (by simp)⟩, ?_⟩
  · rw [hfil, hx0]
    simp only [hpx0, if_true, List.append_nil]
    rw [List.filter_eq_self.2 (fun y hy => by rw [hpre y hy]; rfl)]
  rintro n _ w2 ⟨i, j, cur, rfl, rfl, hj, hij, hcl, hc1, hc2, _, h2, k2⟩
  dsimp only
  have hl2 := as_len h2
  by_cases hlt : j < l.length
  · rw [decide_eq_true (by omega)]
    simp only [Br]
    obtain ⟨x, hx⟩ : ∃ x, l[j]? = some x := ⟨_, List.getElem?_eq_getElem hlt⟩
    have hcx : cur[j]? = some x := by
      have e := congrArg (fun q => q[0]?) hc2
      simp only [List.getElem?_drop, Nat.add_zero] at e
      rw [e, hx]
    refine Jp_of (fun st w' => ∃ (i' : Nat) (cur' : List Ak), st = ((i' : Int), ()) ∧ i' ≤ j ∧ cur'.length = l.length ∧ cur'.take i' = (l.take (j + 1)).filter (fun x => !p x) ∧ cur'.drop (j + 1) = l.drop (j + 1) ∧ As w' s cur' ∧ Keeps (blk s) w w') (fun J hJ => ?_) ?_
    rotate_left
    · rintro _ w3 ⟨i', cur', rfl, g1, g2, g3, g4, g5, g6⟩
      exact ⟨l.length - (j + 1), by omega, i', j + 1, cur', by rw [w64p (by omega)], rfl, by omega, by omega, g2, g3, g4, by omega, g5, g6⟩
    refine as_ld h2 hcx ?_
    refine bx4 fun b w3 h3 n3 k3 => ?_
    simp only [sxn, h3, sxl, Nat.reduceAdd]
    have k03 : Keeps (blk s) w w3 := k2.trans k3 (by simp)
    refine CallV.mono (hp w3 k03 x) ?_
    rintro ⟨r, _⟩ w4 ⟨e, k4⟩
    dsimp only at e
    subst e
    have h4 := k4.at h3 (by simp)
    have k04 : Keeps (blk s) w w4 := k03.trans k4 (by simp)
    have g2 : As w4 s cur := (h2.keeps k3 (by simp)).keeps k4 (by simp)
    have hc3 : cur.drop (j + 1) = l.drop (j + 1) := by rw [← List.drop_drop, hc2, List.drop_drop]
    cases hpx : p x with
    | true =>
      refine hJ _ _ ⟨i, cur, rfl, by omega, hcl, ?_, hc3, g2, k04⟩
      rw [hfil, hx, hc1]
      simp [hpx]
    | false =>
      simp only [sxn, h4, sxl, Nat.reduceAdd, Bool.not_false]
      refine as_st g2 (by omega) x ?_
      intro w5 g5 k5
      refine hJ _ _ ⟨i + 1, cur.set i x, by rw [w64p (by omega)], by omega, by simp [hcl], ?_, ?_, g5, k04.trans k5 (fun _ hx => .inl hx)⟩
      · rw [hfil, hx, List.take_add_one, List.take_set_of_le (by omega), hc1, List.getElem?_set_self (by omega)]
        simp [hpx]
      · rw [List.drop_set_of_lt (by omega), hc3]
  · rw [decide_eq_false (by omega)]
    simp only [Br]
    have hjl : j = l.length := by omega
    refine ⟨⟨by omega, by omega⟩, ?_⟩
    rw [Int.toNat_natCast]
    refine ClrS_front h2 (by kernel_rfl) zc48 (by omega) ?_
    intro w3 g3 k3 _
    have hcap := h2.cap
    refine ⟨⟨by omega, by omega⟩, ?_⟩
    rw [slOff_zero]
    refine hR (⟨s.p, i - 0, s.cap - 0⟩, ()) _ ⟨?_, fun x hx => hx, k2.trans k3 (fun _ hx => .inl hx)⟩
    rw [flatA_take, hc1, List.take_of_length_le (by omega)] at g3
    exact g3
end Go.Proofs.Ytmppjgddemlmdaa
