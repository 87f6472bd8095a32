/- Join of the reference, and the range under a key. Conditions: none. -/
import Derived.Test.YthgiocimimdbcaaDoorTj
set_option linter.unusedVariables false
set_option linter.unusedSimpArgs false
namespace Go.Proofs.YthgiocimimdbcaaDoor
open Go Go.Sx Go.RowKit

theorem esc_app (a b : Bs) : esc (a ++ b) = esc a ++ esc b := by
  induction a with
  | nil => rfl
  | cons x a ih => by_cases hx : x = 0 <;> simp [esc, hx, ih]
theorem esc_one (c : UInt8) : esc [c] = if c = 0 then [0, 255] else [c] := by by_cases h : c = 0 <;> simp [esc, h]
theorem esc_take_succ {p : Bs} {j : Nat} {c : UInt8} (h : p[j]? = some c) : esc (p.take (j + 1)) = esc (p.take j) ++ if c = 0 then [0, 255] else [c] := by
  rw [List.take_add_one, h, esc_app, ← esc_one]
  rfl
theorem esc_take_le (p : Bs) (j : Nat) : (esc (p.take j)).length ≤ (esc p).length := by
  have : esc p = esc (p.take j) ++ esc (p.drop j) := by rw [← esc_app, List.take_append_drop]
  rw [this, List.length_append]
  omega
theorem cB_app (a b : Bs) : cB (a ++ b) = cB a ++ cB b := by simp [cB]
theorem cB_lit (c : UInt8) : cB [c] = [.int .u8 (c.toNat : Int)] := rfl
theorem IxS_BA {p : Bs} {j : Nat} {c : UInt8} (h : p[j]? = some c) {K : Int → Pr} {w : World} (k : K (c.toNat : Int) w) : IxS (BA p) (j : Int) K w := by
  refine ⟨by omega, c, ?_, k⟩
  rw [Int.toNat_natCast, BA_get, h]
theorem u8_zero (c : UInt8) : (((c.toNat : Nat) : Int) == 0) = decide (c = 0) := by
  by_cases h : c = 0
  · subst h; rfl
  · have : c.toNat ≠ 0 := fun e => h (UInt8.toNat_inj.1 (by simpa using e))
    rw [decide_eq_false h]
    simpa using this

theorem rJoin_ok {w : World} {s : Sl} {l : List Bs} (h : Tx w s l) (hz : Sz l) :
    Cl Tryd.prog 14 [.slice s.p s.len s.cap] true [.sc .s, .sc (.i .i64)] (fun r w' => r.1 = BA (jn l).1 ∧ r.2.1 = (jn l).2 ∧ Keeps [] w w') w := by
  refine Cl_gen fun R hR => ?_
  apply sumpterref03_Join_call
  unfold sumpterref03_Join
  have hsl := h.len
  refine Jp_of (fun st w' => st.1 = decide (l.length < 1 ∨ 4 < l.length) ∧ w = w') (fun J' hJ => ?_) ?_
  · refine Br_of (fun hb => ?_) (fun hb => ?_)
    · have hb := of_decide_eq_true hb
      exact hJ _ _ ⟨(decide_eq_true (by omega)).symm, rfl⟩
    · have hb := of_decide_eq_false hb
      refine hJ _ _ ⟨?_, rfl⟩
      show decide _ = decide _
      by_cases h4 : 4 < l.length
      · rw [decide_eq_true (by omega), decide_eq_true (by omega)]
      · rw [decide_eq_false (by omega), decide_eq_false (by omega)]
  rintro ⟨_, _⟩ _ ⟨rfl, rfl⟩
  dsimp only
  refine Br_of (fun hb => ?_) (fun hb => ?_)
  · have hb := of_decide_eq_true hb
    exact hR _ _ ⟨by rw [jn_err hb], by rw [jn_err hb], Keeps.refl _ _⟩
  have hb := of_decide_eq_false hb
  refine ⟨fun n st w' => ∃ i : Nat, st.2.2.2.1 = (i : Int) ∧ n = l.length - i ∧ i ≤ l.length ∧ SlC w' st.2.2.1 1 (cB (ecs (l.take i))) ∧ (ecs (l.take i)).length ≤ 14 + 2 * i ∧ (∀ x ∈ blk st.2.2.1, w.heap.size ≤ x) ∧ Keeps [] w w',
    ⟨_, 0, rfl, rfl, by omega, SlC.nil _ _, by simp [ecs], by simp [blk_zero], Keeps.refl _ _⟩, ?_⟩
  rintro _ ⟨s1, s2, b0, _, _⟩ w1 ⟨i, rfl, rfl, hi, hs1, hle, hf1, hk1⟩
  dsimp only at hs1 hf1 ⊢
  by_cases hil : i < l.length
  · rw [decide_eq_true (by omega)]
    simp only [sx]
    obtain ⟨p, hp⟩ : ∃ p, l[i]? = some p := ⟨_, List.getElem?_eq_getElem hil⟩
    refine (h.keep hk1).ix hp ?_
    have hps := hz p (List.mem_of_getElem? hp)
    rw [BA_size]
    refine ⟨fun n st w' => ∃ j : Nat, st.2.2.2.1 = (j : Int) ∧ n = p.length - j ∧ j ≤ p.length ∧ SlC w' st.2.2.1 1 (cB (ecs (l.take i) ++ esc (p.take j))) ∧ (ecs (l.take i) ++ esc (p.take j)).length ≤ 14 + 2 * i ∧ (∀ x ∈ blk st.2.2.1, w.heap.size ≤ x) ∧ Keeps [] w w',
      ⟨_, 0, rfl, rfl, by omega, by simpa [esc] using hs1, by simpa [esc] using hle, hf1, hk1⟩, ?_⟩
    rintro _ ⟨t1, t2, b1, _, _⟩ w2 ⟨j, rfl, rfl, hj, hs2, hle2, hf2, hk2⟩
    dsimp only at hs2 hf2 ⊢
    have hz2 := hk2.size
    have hl2 : b1.len = (ecs (l.take i) ++ esc (p.take j)).length := by have := hs2.len; rw [cB_length] at this; omega
    by_cases hjl : j < p.length
    · rw [decide_eq_true (by omega)]
      simp only [sx]
      obtain ⟨c, hc⟩ : ∃ c, p[j]? = some c := ⟨_, List.getElem?_eq_getElem hjl⟩
      have hlong : ∀ (bs : Bs), bs = ecs (l.take i) ++ esc (p.take (j + 1)) → 12 < bs.length → jn l = ([], 2) := fun bs hbs hlt => by
        refine jn_long hb ?_
        have h1 := ecs_take_le l (i + 1)
        have h2 := esc_take_le p (j + 1)
        rw [ecs_take_succ hp, List.length_append, ec, List.length_append] at h1
        rw [hbs, List.length_append] at hlt
        omega
      refine IxS_BA hc ?_
      refine NewApp_of (new := [.int .u8 (c.toNat : Int)]) hs2 rfl (by simp [Value.oneCell']) (by kernel_rfl) (by omega) (by omega) ?_
      intro r3 w3 hs3 hl3 hk3 hb3
      have hf3 : ∀ x ∈ blk r3, w.heap.size ≤ x := fun x hx => (hb3 x hx).elim (hf2 x) (fun h => by omega)
      have hk03 : Keeps [] w w3 := hk2.trans hk3 (fun x hx => .inr (hf2 x hx))
      have hz3 := hk03.size
      refine Jp_of (fun st w' => SlC w' st.1 1 (cB (ecs (l.take i) ++ esc (p.take (j + 1)))) ∧ (∀ x ∈ blk st.1, w.heap.size ≤ x) ∧ Keeps [] w w') (fun J' hJ => ?_) ?_
      · refine IxS_BA hc ?_
        rw [u8_zero]
        refine Br_of (fun h0 => ?_) (fun h0 => ?_)
        · have h0 := of_decide_eq_true h0
          refine NewApp_of (new := [.int .u8 255]) hs3 rfl (by simp [Value.oneCell']) (by kernel_rfl) (by omega) (by omega) ?_
          intro r4 w4 hs4 hl4 hk4 hb4
          refine hJ _ _ ⟨?_, fun x hx => (hb4 x hx).elim (hf3 x) (fun h => by omega), hk03.trans hk4 (fun x hx => .inr (hf3 x hx))⟩
          rw [esc_take_succ hc, if_pos h0]
          subst h0
          simpa [cB] using hs4
        · have h0 := of_decide_eq_false h0
          refine hJ _ _ ⟨?_, hf3, hk03⟩
          rw [esc_take_succ hc, if_neg h0]
          simpa [cB] using hs3
      rintro ⟨b4, _⟩ w4 ⟨hs4, hf4, hk4⟩
      dsimp only at hs4 hf4 ⊢
      have hl4 : b4.len = (ecs (l.take i) ++ esc (p.take (j + 1))).length := by have := hs4.len; rw [cB_length] at this; omega
      refine Br_of (fun h1 => ?_) (fun h1 => ?_)
      · have h1 := of_decide_eq_true h1
        have hjn := hlong _ rfl (by omega)
        exact hR _ _ ⟨by rw [hjn], by rw [hjn], hk4⟩
      · have h1 := of_decide_eq_false h1
        exact ⟨p.length - (j + 1), by omega, j + 1, w64_nat (n := j + 1) (by omega), rfl, by omega, hs4, by omega, hf4, hk4⟩
    · rw [decide_eq_false (by omega)]
      simp only [Br]
      rw [List.take_of_length_le (l := p) (by omega)] at hs2 hle2 hl2
      refine NewApp_of (size := 1) (bytes := 1) (m := 2) (new := [.int .u8 0, .int .u8 1]) hs2 rfl (by simp [Value.oneCell']) (by kernel_rfl) (by omega) (by omega) ?_
      intro r3 w3 hs3 hl3 hk3 hb3
      refine ⟨l.length - (i + 1), by omega, i + 1, w64_nat (n := i + 1) (by omega), rfl, by omega, ?_, ?_, fun x hx => (hb3 x hx).elim (hf2 x) (fun h => by omega), hk2.trans hk3 (fun x hx => .inr (hf2 x hx))⟩
      · rw [ecs_take_succ hp, ec]
        simpa [cB] using hs3
      · rw [ecs_take_succ hp, ec, ← List.append_assoc, List.length_append]
        simp only [List.length_cons, List.length_nil]
        omega
  · rw [decide_eq_false (by omega)]
    have hie : i = l.length := by omega
    subst hie
    rw [List.take_length] at hs1 hle
    have hl1 : b0.len = (ecs l).length := by have := hs1.len; rw [cB_length] at this; omega
    simp only [sx]
    refine Br_of (fun h1 => ?_) (fun h1 => ?_)
    · have h1 := of_decide_eq_true h1
      have hjn := jn_long hb (by omega)
      exact hR _ _ ⟨by rw [hjn], by rw [hjn], hk1⟩
    · have h1 := of_decide_eq_false h1
      have hjn := jn_ok hb (by omega)
      refine BtoS_of hs1.rdb ?_
      exact hR _ _ ⟨by rw [hjn]; rfl, by rw [hjn], hk1⟩

end Go.Proofs.YthgiocimimdbcaaDoor
