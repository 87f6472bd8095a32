/- LocksReads. Conditions: none. -/
import Derived.Test.YtmppjgddemlmdaaLo
set_option linter.unusedVariables false
set_option linter.unusedSimpArgs false
namespace Go.Proofs.Ytmppjgddemlmdaa
open Go Go.Sx

theorem ops_len {w : World} {l : Sl} {os : List Op} (h : RdC l.p (l.len * 6) (os.flatMap encO) w) : l.len = os.length := by
  have := h.1
  rw [flat_length encO_length] at this
  omega
theorem rdc_keep {w w' : World} {l : Sl} {os : List Op} (h : RdC l.p (l.len * 6) (os.flatMap encO) w) (k : Keeps [] w w') : RdC l.p (l.len * 6) (os.flatMap encO) w' := rdc_keeps h k (by simp)
/-- The beginning of each law. -/
theorem start_ok {w : World} : Cl Try.prog i_sumpterlaw16_live [] false [.sc .b] (fun r w1 => r.1 = true ∧ Cl Try.prog i_locks_New [] false [.sc .p] (fun r w' => ∃ (t : Nat) (H : Nat → Prop), r.1 = some ⟨t, 0, none⟩ ∧ Own w w' t H ⟨[], []⟩) w1) w := by
  refine Cl.mono (live_ok w) ?_
  rintro ⟨r, _⟩ w1 ⟨e, k1⟩
  refine ⟨e, ?_⟩
  refine Cl.mono (New_ok w1) ?_
  rintro ⟨p, _⟩ w2 ⟨t, H, e2, h2, y2, k2⟩
  have := k1.size
  exact ⟨t, H, e2, h2, ⟨List.Pairwise.nil, by simp⟩, fun y hy => by have := y2 y hy; omega, kp0 k1 k2⟩

/-- Readers alone. -/
structure RI (s : TS) (k : Nat) : Prop where
  rd : ∀ y ∈ s.held, y.wr = false
  wt : s.wait = []
  few : s.held.length ≤ k
theorem settleA_nil (k : Nat) (s : TS) (g d : List Int) (h : s.wait = []) : settleA k s g d = (s, g, d) := by
  cases k with
  | zero => rfl
  | succ k => unfold settleA; rw [h]; rfl
theorem RI.ask {s : TS} {k : Nat} (h : RI s k) (hk : k < 150) (x : Ak) (hx : x.wr = false) : (okR x.lo x.hi = false ∧ askA x s = ((0, [], [], 21), s)) ∨ (okR x.lo x.hi = true ∧ (askA x s).1 = (1, [], [], 0) ∧ RI (askA x s).2 (k + 1)) := by
  unfold askA
  cases hok : okR x.lo x.hi with
  | false => exact .inl ⟨rfl, by simp⟩
  | true =>
    refine .inr ⟨rfl, ?_⟩
    rw [if_neg (by simp), if_neg (by rw [h.wt]; simp)]
    have hf := h.few
    by_cases hc : s.held.any (covA x) = true
    · rw [if_pos hc]
      exact ⟨rfl, h.rd, h.wt, by show s.held.length ≤ k + 1; omega⟩
    · rw [if_neg hc, if_neg (by rw [h.wt]; simp; omega)]
      have hw : s.held.any (wayA x) = false := List.any_eq_false.2 (fun y hy => by unfold wayA; rw [hx, h.rd y hy]; simp)
      rw [if_pos hw]
      have hk0 : killed x s.wait = [] := by rw [h.wt]; rfl
      have hg : grantA x s = ([], ⟨s.held ++ [x], s.wait⟩) := by unfold grantA; rw [hk0]; rfl
      rw [hg]
      dsimp only
      rw [settleA_nil _ ⟨s.held ++ [x], s.wait⟩ _ _ h.wt]
      refine ⟨rfl, fun y hy => ?_, h.wt, ?_⟩
      · rcases List.mem_append.1 hy with hy | hy
        · exact h.rd y hy
        · rw [List.mem_singleton.1 hy]; exact hx
      · show (s.held ++ [x]).length ≤ k + 1
        rw [List.length_append, List.length_singleton]
        omega
theorem RI.rel {s : TS} {k : Nat} (h : RI s k) (n : Int) : RI (relA n s).2 (k + 1) := by
  unfold relA
  dsimp only
  have hw : (dropA n s).wait = [] := by unfold dropA; rw [h.wt]; rfl
  rw [settleA_nil _ _ _ _ hw]
  have hf := h.few
  have hl := List.length_filter_le (fun x : Ak => !(x.n == n)) s.held
  exact ⟨fun y hy => h.rd y (List.mem_filter.1 hy).1, hw, by show (s.held.filter (fun x => !(x.n == n))).length ≤ k + 1; omega⟩

theorem LocksReads_ok {w : World} {l : Sl} {os : List Op} (h : RdC l.p (l.len * 6) (os.flatMap encO) w) :
    Cl Try.prog i_sumpterlaw16_LocksReads [.slice l.p l.len l.cap] false [.sc .b] (fun r w' => r.1 = true ∧ Keeps [] w w') w := by
  refine Cl_gen fun R hR => ?_
  have hol := ops_len h
  apply sumpterlaw16_LocksReads_call
  unfold sumpterlaw16_LocksReads
  refine Cl.mono start_ok ?_
  rintro ⟨r1, _⟩ w1 ⟨e1, hs⟩
  dsimp only at e1
  subst e1
  refine Cl.mono hs ?_
  rintro ⟨_, _⟩ w2 ⟨t, H, rfl, O⟩
  dsimp only
  rw [show Option.isNone (some (⟨t, 0, none⟩ : Addr)) = false from rfl]
  refine Jp_of (fun st w' => st = (decide (60 < l.len), ()) ∧ w2 = w') (fun J hJ => ?_) ?_
  · simp only [Br_false]
    exact hJ _ _ ⟨by rw [show decide ((l.len : Int) > 60) = decide (60 < l.len) from decide_eq_decide.2 (by omega)], rfl⟩
  rintro _ _ ⟨rfl, rfl⟩
  dsimp only
  by_cases hbig : 60 < l.len
  · rw [decide_eq_true hbig]
    simp only [Br_true]
    exact hR (true, ()) _ ⟨rfl, O.kept⟩
  rw [decide_eq_false hbig]
  simp only [Br_false]
  have hri : RI ⟨[], []⟩ 0 := ⟨by simp, rfl, by simp⟩
  refine ⟨fun n st w' => ∃ (i : Nat) (q : Bool) (s : TS) (H : Nat → Prop), st = (q, (i : Int), ()) ∧ n = os.length - i ∧ i ≤ os.length ∧ RI s i ∧ Own w w' t H s, ⟨_, 0, false, _, H, rfl, rfl, by omega, hri, O⟩, ?_⟩
  rintro n _ w3 ⟨i, q, s, H, rfl, rfl, hi, hr, O⟩
  dsimp only
  by_cases hlt : i < os.length
  · rw [decide_eq_true (by omega)]
    simp only [Br_true]
    obtain ⟨o, ho⟩ : ∃ o, os[i]? = some o := ⟨_, List.getElem?_eq_getElem hlt⟩
    refine Jp_of (fun st w' => st = (q, ()) ∧ ∃ (s : TS) (H : Nat → Prop), RI s (i + 1) ∧ Own w w' t H s) (fun J hJ => ?_) ?_
    rotate_left
    · rintro _ w4 ⟨rfl, s', H', hr', O'⟩
      exact ⟨os.length - (i + 1), by omega, i + 1, q, s', H', by rw [w64p (by omega)], rfl, by omega, hr', O'⟩
    refine op_ok (rdc_keep h O.kept) ho ?_
    intro b w4 hb nb k4
    have hbO := O.not nb
    have O := O.keeps0 k4
    simp only [add_of, Nat.reduceAdd]
    refine set_box hb 4 _ rfl (by simp) fun w5 hb5 k5 => ?_
    have O := O.keeps k5 (by simpa using hbO)
    have hb5 : w5.heap[b]? = some (.cells #[.int .i64 o.do_, .int .u64 o.n, .string o.lo, .string o.hi, .bool false, .bool o.cl] 32 (0, 0)) := hb5
    simp only [sxn, hb5, sxl, Nat.reduceAdd]
    cases hdo : o.do_ != 0 with
    | true =>
      simp only [sxn, hb5, sxl, Nat.reduceAdd]
      refine Cl.mono (Release_ok O.at_ O.ok o.n) ?_
      rintro ⟨r6, r6b, _⟩ w6 hl6
      obtain ⟨H6, O6, _⟩ := O.left (relA_ok O.ok) hl6
      exact hJ (q, ()) _ ⟨rfl, _, H6, hr.rel o.n, O6⟩
    | false =>
      simp only [sxn, hb5, sxl, Nat.reduceAdd]
      refine Cl.mono (Ask_ok O.at_ O.ok ⟨o.n, o.lo, o.hi, false⟩) ?_
      rintro ⟨r6, g6, d6, e6, _⟩ w6 ⟨q1, q2, hl6⟩
      dsimp only at q1 q2
      obtain ⟨H6, O6, f6, k6, hg6, hd6, _⟩ := O.left (askA_ok O.ok) hl6
      dsimp only at hg6 hd6 ⊢
      have hb6 := k6.at hb5 hbO.2
      refine Jp_of (fun st w' => st = (false, ()) ∧ Keeps [] w6 w') (fun J2 hJ2 => ?_) ?_
      rotate_left
      · rintro _ w7 ⟨rfl, k7⟩
        refine hJ (q, ()) _ ⟨rfl, _, H6, ?_, O6.keeps0 k7⟩
        rcases hr.ask (by omega) ⟨o.n, o.lo, o.hi, false⟩ rfl with ⟨_, e⟩ | ⟨_, _, e⟩
        · rw [e]
          exact ⟨hr.rd, hr.wt, by have := hr.few; show s.held.length ≤ i + 1; omega⟩
        · exact e
      rcases hr.ask (by omega) ⟨o.n, o.lo, o.hi, false⟩ rfl with ⟨hok, e⟩ | ⟨hok, e, _⟩
      · rw [e] at q1 q2 hg6 hd6
        dsimp only at q1 q2 hg6 hd6 hok
        subst q1 q2
        rw [show ((21 : Int) == 0) = false from rfl, show ((21 : Int) != 0) = true from rfl]
        simp only [sxn, hb6, sxl, Nat.reduceAdd]
        refine Cl.mono (Check_ok _ _ _) ?_
        rintro ⟨r7, _⟩ w7 ⟨e7, k7⟩
        dsimp only at e7
        subst e7
        rw [hok]
        exact hJ2 _ _ ⟨rfl, k7⟩
      · rw [e] at q1 q2 hg6 hd6
        dsimp only at q1 q2 hg6 hd6
        subst q1 q2
        have l1 := cU_slen hg6
        have l2 := cU_slen hd6
        rw [l1, l2, show ((0 : Int) == 0) = true from rfl, show ((1 : Int) != 1) = false from rfl, show ((0 : Int) != 0) = false from rfl]
        simp only [Br_true, Br_false]
        rw [show decide (w64 ((([] : List Int).length : Int) + (([] : List Int).length : Int)) > 0) = false from by decide]
        simp only [Br_false]
        exact hJ2 _ _ ⟨rfl, Keeps.refl _ _⟩
  · rw [decide_eq_false (by omega)]
    simp only [Br_false, Br_true]
    refine Cl.mono (Waiting_ok O.at_ O.ok) ?_
    rintro ⟨r4, _⟩ w4 ⟨h4, _, k4⟩
    dsimp only at h4 ⊢
    have l4 := as_len h4
    rw [hr.wt] at l4
    rw [l4]
    exact hR _ _ ⟨rfl, kp0 O.kept k4⟩
end Go.Proofs.Ytmppjgddemlmdaa
