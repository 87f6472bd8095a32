/- Join, of layer 3 and of its reference. Conditions: none. -/
import Derived.Test.YthgiocimimdbcaaDoorTw
set_option linter.unusedVariables false
set_option linter.unusedSimpArgs false
namespace Go.Proofs.YthgiocimimdbcaaDoor
open Go Go.Sx Go.RowKit

/-- The library's own number (bytealg.MaxLen) is there. -/
def GM (m : Int) (w : World) : Prop := w.cell? ⟨0, 0, none⟩ = some (.int .i64 m)
theorem GM.keeps {m : Int} {w w' : World} {l : List Nat} (h : GM m w) (hk : Keeps l w w') (hl : 0 ∉ l) : GM m w' := by
  unfold GM at *
  rw [cell_cellO] at *
  cases ho : w.heap[0]? with
  | none => rw [ho] at h; cases h
  | some o => rw [hk.at ho hl, ← ho]; exact h
theorem GM.keep {m : Int} {w w' : World} (h : GM m w) (hk : Keeps [] w w') : GM m w' := h.keeps hk (by simp)

theorem ownsRow_keep {w w' : World} {B : Nat} {e : TypeId} {size n : Nat} {v : Value} {xs : List Value} (h : w.ownsRow B e size v n xs) (hk : Keeps [] w w') : w'.ownsRow B e size v n xs := by
  refine ⟨h.1, ?_⟩
  rcases h.2 with h2 | ⟨g, cap, cur, h1, h2, h3, h4⟩
  · exact .inl h2
  · exact .inr ⟨g, cap, cur, h1, h2, hk.at h3 (by simp), h4⟩
theorem Bld.keep {B b : Nat} {l : Bs} {w w' : World} (h : Bld B b l w) (hk : Keeps [] w w') : Bld B b l w' := by
  rcases h with ⟨h1, v, h2, h3, h4⟩ | ⟨h1, v, h2, h3, h4⟩
  · exact .inl ⟨h1, v, hk.at h2 (by simp), ownsRow_keep h3 hk, h4⟩
  · exact .inr ⟨h1, v, hk.at h2 (by simp), ownsRow_keep h3 hk, h4⟩

theorem jn_err {l : List Bs} (h : l.length < 1 ∨ 4 < l.length) : jn l = ([], 3) := by unfold jn; rw [if_pos h]
theorem jn_long {l : List Bs} (h : ¬ (l.length < 1 ∨ 4 < l.length)) (h2 : 12 < (ecs l).length) : jn l = ([], 2) := by unfold jn; rw [if_neg h, if_pos h2]
theorem jn_ok {l : List Bs} (h : ¬ (l.length < 1 ∨ 4 < l.length)) (h2 : ¬ 12 < (ecs l).length) : jn l = (ecs l, 0) := by unfold jn; rw [if_neg h, if_neg h2]
theorem ecs_take_le (l : List Bs) (i : Nat) : (ecs (l.take i)).length ≤ (ecs l).length := by
  have : ecs l = ecs (l.take i) ++ ecs (l.drop i) := by rw [← ecs_app, List.take_append_drop]
  rw [this, List.length_append]
  omega
theorem ecs_take_succ {l : List Bs} {i : Nat} {p : Bs} (h : l[i]? = some p) : ecs (l.take (i + 1)) = ecs (l.take i) ++ ec p := by
  rw [List.take_add_one, h, ecs_app]
  simp [ecs]

/-- No part is longer than any text may be. -/
def Sz (l : List Bs) : Prop := ∀ b ∈ l, b.length ≤ 140737488355328

theorem ReplaceEsc_ok {w : World} {m : Int} (p : Bs) (g : GM m w) (hp : p.length ≤ 1000) :
    Cl Tryd.prog 23 [.string (BA p), .string (BA [0]), .string (BA [0, 255])] false [.sc .s] (fun r w' => r.1 = BA (esc p) ∧ Keeps [] w w') w := by
  refine (ReplaceAll_ok (BA p) (BA [0]) (BA [0, 255]) m w (by rw [BA_size]; omega) g (by rw [BA_size]; simp) (by rw [BA_size]; simp)).mono fun r w' h => ?_
  rw [BA_data, BA_data, BA_data, esc_ra] at h
  exact h

theorem Join_ok {w : World} {s : Sl} {l : List Bs} {m : Int} (h : Tx w s l) (hz : Sz l) (g : GM m w) :
    Cl Tryd.prog 12 [.slice s.p s.len s.cap] true [.sc .s, .sc (.i .i64)] (fun r w' => r.1 = BA (jn l).1 ∧ r.2.1 = (jn l).2 ∧ Keeps [] w w') w := by
  refine Cl_gen fun R hR => ?_
  apply tuple_Join_call
  unfold tuple_Join
  have hsl := h.len
  refine Jp_of (fun st w' => st.1 = decide (l.length < 1 ∨ 4 < l.length) ∧ w = w') (fun J' hJ => ?_) ?_
  · refine Br_of (fun hb => ?_) (fun hb => ?_)
    · have hb := eq_of_beq hb
      exact hJ _ _ ⟨(decide_eq_true (by omega)).symm, rfl⟩
    · have hb := ne_of_beq_false hb
      refine hJ _ _ ⟨?_, rfl⟩
      show decide _ = decide _
      by_cases h4 : 4 < l.length
      · rw [decide_eq_true (by omega), decide_eq_true (by omega)]
      · rw [decide_eq_false (by omega), decide_eq_false (by omega)]
  rintro ⟨_, _⟩ _ ⟨rfl, rfl⟩
  dsimp only
  refine Br_of (fun hb => ?_) (fun hb => ?_)
  · have hb := of_decide_eq_true hb
    exact hR _ _ ⟨by rw [jn_err hb], by rw [jn_err hb], Keeps.refl _ _⟩
  have hb := of_decide_eq_false hb
  refine ⟨fun n st w' => ∃ i : Nat, st.2.2.2.1 = (i : Int) ∧ n = l.length - i ∧ i ≤ l.length ∧ st.2.2.1 = ((ecs (l.take i)).length : Int) ∧ (ecs (l.take i)).length ≤ 12 ∧ w = w', ⟨_, 0, rfl, rfl, by omega, rfl, by simp [ecs], rfl⟩, ?_⟩
  rintro _ ⟨s1, s2, _, _, _⟩ _ ⟨i, rfl, rfl, hi, rfl, hle, rfl⟩
  dsimp only
  by_cases hil : i < l.length
  · rw [decide_eq_true (by omega)]
    simp only [sx]
    obtain ⟨p, hp⟩ : ∃ p, l[i]? = some p := ⟨_, List.getElem?_eq_getElem hil⟩
    refine h.ix hp ?_
    refine Cl.mono (Count_ok _ _ _) ?_
    rintro r w2 ⟨hr, rfl⟩
    rw [BA_data] at hr
    have hps := hz p (List.mem_of_getElem? hp)
    have hcl : p.count 0 ≤ p.length := List.count_le_length
    have e : w64 (((ecs (l.take i)).length : Int) + w64 (w64 (((BA p).size : Int) + r.1) + 2)) = ((ecs (l.take (i + 1))).length : Int) := by
      rw [hr, BA_size, ecs_take_succ hp, List.length_append, ec_len]
      rw [show (((p.length : Nat) : Int) + ((p.count 0 : Nat) : Int)) = ((p.length + p.count 0 : Nat) : Int) by omega, w64_nat (by omega)]
      rw [show (((p.length + p.count 0 : Nat) : Int) + 2) = ((p.length + p.count 0 + 2 : Nat) : Int) by omega, w64_nat (by omega)]
      rw [show (((ecs (l.take i)).length : Int) + ((p.length + p.count 0 + 2 : Nat) : Int)) = (((ecs (l.take i)).length + (p.length + p.count 0 + 2) : Nat) : Int) by omega, w64_nat (by omega)]
    rw [e]
    refine Br_of (fun hb1 => ?_) (fun hb1 => ?_)
    · have hb1 := of_decide_eq_true hb1
      have := ecs_take_le l (i + 1)
      have hj := jn_long hb (by omega)
      exact hR _ _ ⟨by rw [hj], by rw [hj], Keeps.refl _ _⟩
    · have hb1 := of_decide_eq_false hb1
      exact ⟨l.length - (i + 1), by omega, i + 1, w64_nat (n := i + 1) (by omega), rfl, by omega, rfl, by omega, rfl⟩
  · rw [decide_eq_false (by omega)]
    have hie : i = l.length := by omega
    subst hie
    rw [List.take_length] at hle
    have hj := jn_ok hb (by omega)
    simp only [sx]
    generalize hwn : w.alloc (.cells #[.pointer none, .slice none 0 0] 46) = w1
    have hk1 : Keeps [] w w1 := by subst hwn; exact (Keeps.refl [] w).alloc _
    have hB : Bld w.heap.size w.heap.size [] w1 := Bld_new (by subst hwn; exact hp_alloc_new w _)
    refine ⟨fun n st w' => ∃ i : Nat, st.1 = (i : Int) ∧ n = l.length - i ∧ i ≤ l.length ∧ Bld w.heap.size w.heap.size (ecs (l.take i)) w' ∧ Keeps [] w w', ⟨_, 0, rfl, rfl, by omega, hB, hk1⟩, ?_⟩
    rintro _ ⟨_, _⟩ w2 ⟨i, rfl, rfl, hi, hB2, hk2⟩
    dsimp only
    have hz2 := hk2.size
    by_cases hil : i < l.length
    · rw [decide_eq_true (by omega)]
      simp only [sx]
      obtain ⟨p, hp⟩ : ∃ p, l[i]? = some p := ⟨_, List.getElem?_eq_getElem hil⟩
      refine (h.keep hk2).ix hp ?_
      have hps : (ecs (l.take (i + 1))).length ≤ 12 := Nat.le_trans (ecs_take_le l (i + 1)) hle
      rw [ecs_take_succ hp, List.length_append, ec_len] at hps
      have hel := esc_len p
      refine Cl.mono (ReplaceEsc_ok p (g.keep hk2) (by omega)) ?_
      rintro r3 w3 ⟨hr3, hk3⟩
      rw [hr3, BA_app]
      refine ⟨by rw [BA_size, BA_size]; simp; omega, ?_⟩
      have hz3 := hk3.size
      refine Cl.mono (Write_ok (BA (esc p ++ [0, 1])) (hB2.keep hk3) (by rw [BA_size]; simp; omega) (by omega)) ?_
      rintro r4 w4 ⟨hB4, hb4⟩
      rw [BA_data] at hB4
      have hk4 : Keeps [] w w4 := ⟨hb4.os.trans (hk3.os.trans hk2.os), hb4.tape.trans (hk3.tape.trans hk2.tape), hb4.output.trans (hk3.output.trans hk2.output), by have := hb4.size; omega, fun k hk _ => (hb4.block k hk).trans ((hk3.get k (by omega) (by simp)).trans (hk2.get k hk (by simp)))⟩
      refine ⟨l.length - (i + 1), by omega, i + 1, w64_nat (n := i + 1) (by omega), rfl, by omega, ?_, hk4⟩
      rw [ecs_take_succ hp]
      exact hB4
    · rw [decide_eq_false (by omega)]
      have hie : i = l.length := by omega
      subst hie
      rw [List.take_length] at hB2
      simp only [sx]
      refine Cl.mono (String_ok hB2 hz2) ?_
      rintro r5 w5 ⟨hr5, hb5⟩
      have hk5 : Keeps [] w w5 := ⟨hb5.os.trans hk2.os, hb5.tape.trans hk2.tape, hb5.output.trans hk2.output, by have := hb5.size; omega, fun k hk _ => (hb5.block k hk).trans (hk2.get k hk (by simp))⟩
      exact hR _ _ ⟨by rw [hr5, hj], by rw [hj], hk5⟩

end Go.Proofs.YthgiocimimdbcaaDoor
