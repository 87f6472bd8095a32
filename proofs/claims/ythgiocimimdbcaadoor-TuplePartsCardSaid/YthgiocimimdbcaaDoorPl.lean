/- The law TupleParts: what its code does. Conditions: none. -/
import Derived.Test.YthgiocimimdbcaaDoorMore
set_option linter.unusedVariables false
set_option linter.unusedSimpArgs false
namespace Go.Proofs.YthgiocimimdbcaaDoor
open Go Go.Sx Go.RowKit

theorem TupleParts_ok {w : World} {m : Int} (k : Bs) (g : GM m w) : Cl Tryd.prog 3 [.string (BA k)] false [.sc .b] (fun r w' => r.1 = true ∧ Keeps [] w w') w := by
  refine Cl_gen fun R hR => ?_
  apply sumpterlaw03_TupleParts_call
  unfold sumpterlaw03_TupleParts
  refine Cl.mono (live_ok g) ?_
  rintro r1 w1 ⟨e1, k1⟩
  refine ⟨fun n st w' => ∃ i : Nat, st.2.1 = (i : Int) ∧ n = 2 - i ∧ i ≤ 2 ∧ Keeps [] w w', ⟨_, 0, rfl, rfl, by omega, k1⟩, ?_⟩
  rintro _ ⟨s1, _, _⟩ w2 ⟨i, rfl, rfl, hi, k2⟩
  dsimp only
  by_cases hi2 : i < 2
  · rw [decide_eq_true (by omega)]
    simp only [Br]
    refine Cl.mono (Parts_ok k (g.keep k2)) ?_
    rintro r4 w4 ⟨s4, e4, f4, k4⟩
    have k04 := k2.trans k4 (by simp)
    have hz2 := k2.size
    refine Cl.mono (rParts_ok k) ?_
    rintro r5 w5 ⟨s5, e5, f5, k5⟩
    have k05 := k04.trans k5 (by simp)
    have s45 := s4.keeps k5 (by simp)
    have hlen : r4.1.len = (pt k).1.length := by have := s4.len; rw [cT_length] at this; omega
    have hlp : (pt k).1.length ≤ 4 := by
      unfold pt
      split
      · simp
      · split
        · simp
        · split
          · assumption
          · simp
    refine Jp_of (fun st w' => st.1 = false ∧ Keeps [] w5 w') (fun J6 hJ6 => ?_) ?_
    · rw [e4, e5]
      simp only [bne_self_eq_false]
      have hle : r4.1.len ≤ 9223372036854775807 := by omega
      have hs := same_ok (Tx.of s45) (Tx.of s5) hle
      refine Cl.mono hs ?_
      rintro r11 w6 ⟨e11, k6⟩
      exact hJ6 _ _ ⟨by show (!r11.1) = false; rw [e11]; simp, k6⟩
    rintro ⟨_, _⟩ w6 ⟨rfl, k6⟩
    simp only
    have k06 := k05.trans k6 (by simp)
    have f40 : ∀ x ∈ blk r4.1, w.heap.size ≤ x := fun x hx => by have := f4 x hx; omega
    refine ⟨fun n st w' => ∃ (j : Nat) (cs : List Value), st.1 = (j : Int) ∧ n = r4.1.len - j ∧ j ≤ r4.1.len ∧ SlC w' r4.1 1 cs ∧ Keeps [] w w', ⟨_, 0, _, rfl, rfl, by omega, s45.keeps k6 (by simp), k06⟩, ?_⟩
    rintro _ ⟨_, _⟩ w7 ⟨j, cs, rfl, rfl, hj, s7, k7⟩
    dsimp only
    have hcl := s7.len
    by_cases hjl : j < r4.1.len
    · rw [decide_eq_true (by omega)]
      simp only [Br]
      obtain ⟨b, o, hp, hb⟩ := s7.base (by omega)
      rw [Ix_base hp (by omega) (by omega), Int.toNat_natCast, Nat.mul_one]
      refine s7.write hp (by omega) rfl ?_
      intro w8 s8 k8
      exact ⟨r4.1.len - (j + 1), by omega, j + 1, _, w64_nat (n := j + 1) (by omega), rfl, by omega, s8, k7.trans k8 (fun x hx => .inr (by simp at hx; subst hx; exact f40 _ (by rw [hb]; simp)))⟩
    · rw [decide_eq_false (by omega)]
      exact ⟨2 - (i + 1), by omega, i + 1, w64_nat (n := i + 1) (by omega), rfl, by omega, k7⟩
  · rw [decide_eq_false (by omega)]
    simp only [Br]
    exact hR _ _ ⟨e1, k2⟩

theorem parts_law {w : World} {m : Int} {p : ByteArray} (g : GM m w) : Cl Tryd.prog 3 [.string p] false [.sc .b] (fun r w' => r.1 = true ∧ Keeps [] w w') w := by
  have h1 := TupleParts_ok p.data.toList g
  rwa [BA_of] at h1

end Go.Proofs.YthgiocimimdbcaaDoor
