/- The pieces of a key, one after the other. Conditions: none. -/
import Derived.Test.YthgiocimimdbcaaDoorTu
set_option linter.unusedVariables false
set_option linter.unusedSimpArgs false
namespace Go.Proofs.YthgiocimimdbcaaDoor
open Go Go.Sx Go.RowKit

theorem ecs_split : ∀ {pre l : List Bs} {x : Bs}, ecs l = ecs pre ++ x → ∃ l', l = pre ++ l' ∧ x = ecs l'
  | [], l, x, h => ⟨l, rfl, h.symm⟩
  | p :: pre, [], x, h => by
    rw [ecs_cons, List.append_assoc] at h
    exact absurd h.symm (ec_ne p _)
  | p :: pre, q :: l, x, h => by
    rw [ecs_cons, ecs_cons, List.append_assoc] at h
    have h1 := tok_ec q (ecs l)
    rw [h, tok_ec] at h1
    simp at h1
    obtain ⟨rfl, h1⟩ := h1
    obtain ⟨l', rfl, h2⟩ := ecs_split h1.symm
    exact ⟨l', rfl, h2⟩

/-- Up to a place no piece ends, and none is broken. -/
def Gone (r : Bs) (i : Nat) : Prop := ∀ j, j < i → j + 1 < r.length ∧ (r[j]? = some 0 → r[j + 1]? = some 255)

def unesc (s : Bs) : Bs := Lib.replaceAll s [0, 255] [0]
theorem unesc_nil : unesc [] = [] := ra_nil (by simp) (by simp)
theorem unesc_pair (s : Bs) : unesc (0 :: 255 :: s) = 0 :: unesc s := by
  unfold unesc
  rw [ra_hit (by simp) (by simp) (by simp [Lib.index, List.isPrefixOf])]
  simp
theorem unesc_cons {b : UInt8} (hb : b ≠ 0) (s : Bs) : unesc (b :: s) = b :: unesc s := by
  unfold unesc
  exact ra_miss (by simp) (by simp) (by simp [List.isPrefixOf]; exact fun h => absurd h.symm hb)

theorem tok_at : ∀ (n : Nat) {r : Bs} {i : Nat}, r.length ≤ n → Gone r i →
    (r[i]? = some 0 → r[i + 1]? = some 1 → tok r = some (unesc (r.take i), r.drop (i + 2))) ∧
    ((r.length ≤ i + 1 ∨ (r[i]? = some 0 ∧ r[i + 1]? ≠ some 255 ∧ r[i + 1]? ≠ some 1)) → tok r = none) := by
  intro n
  induction n with
  | zero =>
    intro r i hn hg
    have : r = [] := List.eq_nil_of_length_eq_zero (by omega)
    subst this
    exact ⟨fun h => by simp at h, fun _ => rfl⟩
  | succ n ih =>
    intro r i hn hg
    cases r with
    | nil => exact ⟨fun h => by simp at h, fun _ => rfl⟩
    | cons b r =>
      by_cases hb : b = 0
      · subst hb
        cases i with
        | zero =>
          refine ⟨fun h1 h2 => ?_, fun h => ?_⟩
          · cases r with
            | nil => simp at h2
            | cons c q =>
              simp at h2
              subst h2
              rw [tok.eq_def]
              simp [unesc_nil]
          · cases r with
            | nil => rw [tok.eq_def]; simp
            | cons c q =>
              rcases h with h | ⟨_, h1, h2⟩
              · simp at h
              · simp at h1 h2
                rw [tok.eq_def]
                simp [h1, h2]
        | succ i =>
          have h0 := (hg 0 (by omega)).2 rfl
          cases r with
          | nil => simp at h0
          | cons c q =>
            simp at h0
            subst h0
            have ht : tok (0 :: 255 :: q) = (tok q).map fun x => (0 :: x.1, x.2) := by rw [tok.eq_def]; simp
            cases i with
            | zero =>
              refine ⟨fun h1 _ => by simp at h1, fun h => ?_⟩
              rcases h with h | ⟨h, _⟩
              · have : q = [] := by simpa using h
                subst this
                rw [ht]
                rfl
              · simp at h
            | succ i =>
              have hg' : Gone q i := fun j hj => by
                have := hg (j + 2) (by omega)
                simp only [List.length_cons, List.getElem?_cons_succ] at this
                exact ⟨by omega, this.2⟩
              obtain ⟨a, b⟩ := ih (r := q) (i := i) (by simp at hn; omega) hg'
              refine ⟨fun h1 h2 => ?_, fun h => ?_⟩
              · rw [ht, a (by simpa using h1) (by simpa using h2)]
                simp [unesc_pair]
              · rw [ht, b (by simpa using h)]
                rfl
      · have ht : tok (b :: r) = (tok r).map fun x => (b :: x.1, x.2) := by rw [tok.eq_def]; simp [hb]
        cases i with
        | zero =>
          refine ⟨fun h1 _ => by simp at h1; exact absurd h1 hb, fun h => ?_⟩
          rcases h with h | ⟨h, _⟩
          · have : r = [] := by simpa using h
            subst this
            rw [ht]
            rfl
          · simp at h
            exact absurd h hb
        | succ i =>
          have hg' : Gone r i := fun j hj => by
            have := hg (j + 1) (by omega)
            simpa using this
          obtain ⟨a, c⟩ := ih (r := r) (i := i) (by simp at hn; omega) hg'
          refine ⟨fun h1 h2 => ?_, fun h => ?_⟩
          · rw [ht, a (by simpa using h1) (by simpa using h2)]
            simp [unesc_cons hb]
          · rw [ht, c (by simpa using h)]
            rfl

theorem ReplaceUn_ok {w : World} {m : Int} (p : Bs) (g : GM m w) (hp : p.length ≤ 1000) :
    Cl Tryd.prog 23 [.string (BA p), .string (BA [0, 255]), .string (BA [0])] false [.sc .s] (fun r w' => r.1 = BA (unesc p) ∧ Keeps [] w w') w := by
  refine (ReplaceAll_ok (BA p) (BA [0, 255]) (BA [0]) m w (by rw [BA_size]; omega) g (by rw [BA_size]; simp) (by rw [BA_size]; simp)).mono fun r w' h => ?_
  rw [BA_data, BA_data, BA_data] at h
  exact h

theorem u8_eq (c d : UInt8) : (((c.toNat : Nat) : Int) == ((d.toNat : Nat) : Int)) = decide (c = d) := by
  by_cases h : c = d
  · subst h; simp
  · have : c.toNat ≠ d.toNat := fun e => h (UInt8.toNat_inj.1 e)
    rw [decide_eq_false h]
    simp
    omega
theorem u8_ne (c d : UInt8) : (((c.toNat : Nat) : Int) != ((d.toNat : Nat) : Int)) = !decide (c = d) := by unfold bne; rw [u8_eq]

/-- The pieces of a key, handed to whoever takes them. -/
theorem pieces1_ok {w : World} {q : Nat} {k : Bs} {m : Int} {y : Value} {I : List Bs → World → Prop} {E : List Bs → Option Bs → World → Prop}
    (hk : k.length ≤ 12) (hq : w.heap[q]? = some (.cells #[.string (BA k)] 9)) (h0 : I [] w)
    (hI : ∀ pre w w', I pre w → Keeps [q] w w' → I pre w') (hg : ∀ pre w, I pre w → GM m w)
    (hy1 : ∀ pre p w o, I pre w → w.heap[q]? = some o → CallV Tryd.prog y [.string (BA p), .bool true] false [.sc .b] (fun r w' => w'.heap[q]? = some o ∧ if r.1 = true then I (pre ++ [p]) w' else E pre (some p) w') w)
    (hy0 : ∀ pre w o, I pre w → w.heap[q]? = some o → CallV Tryd.prog y [.string (BA []), .bool false] false [.sc .b] (fun r w' => E pre none w') w) :
    Cl Tryd.prog 28 [y, .pointer (some ⟨q, 0, none⟩)] true [] (fun _ w' => (∃ l, k = ecs l ∧ I l w') ∨ (∃ pre r, k = ecs pre ++ r ∧ r ≠ [] ∧ tok r = none ∧ E pre none w') ∨ ∃ pre p r, k = ecs pre ++ (ec p ++ r) ∧ E pre (some p) w') w := by
  refine Cl_gen fun R hR => ?_
  apply tuple_pieces_1_call
  unfold tuple_pieces_1
  refine ⟨fun n st w' => ∃ pre r, k = ecs pre ++ r ∧ n = r.length ∧ w'.heap[q]? = some (.cells #[.string (BA r)] 9) ∧ I pre w', ⟨_, [], k, rfl, rfl, hq, h0⟩, ?_⟩
  rintro _ _ w1 ⟨pre, r, hkr, rfl, hq1, hI1⟩
  dsimp only
  have hrl : r.length ≤ 12 := by rw [hkr, List.length_append] at hk; omega
  simp only [sx, sxl, hq1, List.getElem?_toArray]
  rw [show BA [] = BA ([] : Bs) from rfl, seq_BA]
  by_cases hr : r = []
  · subst hr
    simp only [decide_true, Bool.not_true, sx]
    exact hR _ _ (.inl ⟨pre, by rw [hkr, List.append_nil], hI1⟩)
  rw [decide_eq_false hr]
  simp only [Bool.not_false, sx]
  have hrp : 0 < r.length := by
    cases r with
    | nil => exact absurd rfl hr
    | cons _ _ => simp
  refine Jp_of (fun st w' => ∃ i : Nat, st.1 = (i : Int) ∧ w1 = w' ∧ Gone r i ∧ i < r.length ∧ (r.length ≤ i + 1 ∨ (r[i]? = some 0 ∧ r[i + 1]? ≠ some 255))) (fun J4 hJ4 => ?_) ?_
  · -- the end is looked for
    refine ⟨fun n st w' => ∃ i : Nat, st.1 = (i : Int) ∧ n = r.length - i ∧ w1 = w' ∧ Gone r i ∧ i < r.length, ⟨_, 0, rfl, rfl, rfl, fun j hj => by omega, hrp⟩, ?_⟩
    rintro _ ⟨_, _⟩ _ ⟨i, rfl, rfl, rfl, hgn, hil⟩
    dsimp only
    obtain ⟨c, hc⟩ : ∃ c, r[i]? = some c := ⟨_, List.getElem?_eq_getElem hil⟩
    have e1 : w64 ((i : Int) + 1) = ((i + 1 : Nat) : Int) := w64_nat (n := i + 1) (by omega)
    refine Jp_of (fun st w' => w1 = w' ∧ st.1 = decide (i + 1 < r.length ∧ ¬ (r[i]? = some 0 ∧ r[i + 1]? = some 1))) (fun J20 hJ20 => ?_) ?_
    · simp only [sx, sxl, hq1, List.getElem?_toArray, BA_size, e1]
      by_cases h1 : i + 1 < r.length
      · obtain ⟨d, hd⟩ : ∃ d, r[i + 1]? = some d := ⟨_, List.getElem?_eq_getElem h1⟩
        rw [decide_eq_true (by omega)]
        simp only [sx, sxl, hq1, List.getElem?_toArray]
        refine IxS_BA hc ?_
        rw [show (0 : Int) = (((0 : UInt8).toNat : Nat) : Int) from rfl, u8_ne]
        by_cases h2 : c = 0
        · subst h2
          simp only [decide_true, Bool.not_true, sx, sxl, hq1, List.getElem?_toArray]
          refine IxS_BA hd ?_
          rw [show (1 : Int) = (((1 : UInt8).toNat : Nat) : Int) from rfl, u8_ne]
          refine hJ20 _ _ ⟨rfl, ?_⟩
          show (!decide (d = 1)) = _
          rw [hc, hd]
          by_cases h3 : d = 1 <;> simp [h3, h1]
        · rw [decide_eq_false h2]
          simp only [Bool.not_false, sx]
          refine hJ20 _ _ ⟨rfl, ?_⟩
          show true = _
          rw [hc]
          simp [h1, h2]
      · rw [decide_eq_false (by omega)]
        simp only [sx]
        refine hJ20 _ _ ⟨rfl, ?_⟩
        show false = _
        simp [h1]
    rintro ⟨_, _⟩ _ ⟨rfl, rfl⟩
    dsimp only
    refine Br_of (fun hb => ?_) (fun hb => ?_)
    · have hb := of_decide_eq_true hb
      obtain ⟨h1, h2⟩ := hb
      obtain ⟨d, hd⟩ : ∃ d, r[i + 1]? = some d := ⟨_, List.getElem?_eq_getElem h1⟩
      refine Jp_of (fun st w' => w1 = w' ∧ st.1 = decide (r[i]? = some 0 ∧ r[i + 1]? ≠ some 255)) (fun J22 hJ22 => ?_) ?_
      · simp only [sx, sxl, hq1, List.getElem?_toArray, e1]
        refine IxS_BA hc ?_
        rw [u8_zero]
        by_cases h3 : c = 0
        · subst h3
          simp only [decide_true, sx, sxl, hq1, List.getElem?_toArray]
          refine IxS_BA hd ?_
          rw [show (255 : Int) = (((255 : UInt8).toNat : Nat) : Int) from rfl, u8_ne]
          refine hJ22 _ _ ⟨rfl, ?_⟩
          show (!decide (d = 255)) = _
          rw [hc, hd]
          by_cases h4 : d = 255 <;> simp [h4]
        · rw [decide_eq_false h3]
          simp only [sx]
          refine hJ22 _ _ ⟨rfl, ?_⟩
          show false = _
          rw [hc]
          simp [h3]
      rintro ⟨_, _⟩ _ ⟨rfl, rfl⟩
      dsimp only
      refine Br_of (fun hb => ?_) (fun hb => ?_)
      · have hb := of_decide_eq_true hb
        exact hJ4 _ _ ⟨i, rfl, rfl, hgn, hil, .inr hb⟩
      · have hb := of_decide_eq_false hb
        refine ⟨r.length - (i + 1), by omega, i + 1, e1, rfl, rfl, ?_, h1⟩
        intro j hj
        rcases Nat.lt_succ_iff_lt_or_eq.1 hj with h | h
        · exact hgn j h
        · subst h
          refine ⟨h1, fun h0 => ?_⟩
          by_cases h5 : r[j + 1]? = some 255
          · exact h5
          · exact absurd ⟨h0, h5⟩ hb
    · have hb := of_decide_eq_false hb
      refine hJ4 _ _ ⟨i, rfl, rfl, hgn, hil, ?_⟩
      by_cases h1 : i + 1 < r.length
      · right
        have h2 : r[i]? = some 0 ∧ r[i + 1]? = some 1 := by
          by_cases h3 : r[i]? = some 0 ∧ r[i + 1]? = some 1
          · exact h3
          · exact absurd ⟨h1, h3⟩ hb
        exact ⟨h2.1, by rw [h2.2]; simp⟩
      · left; omega
  rintro ⟨_, _⟩ _ ⟨i, rfl, rfl, hgn, hil, hst⟩
  dsimp only
  have e1 : w64 ((i : Int) + 1) = ((i + 1 : Nat) : Int) := w64_nat (n := i + 1) (by omega)
  have e2 : w64 ((i : Int) + 2) = ((i + 2 : Nat) : Int) := w64_nat (n := i + 2) (by omega)
  obtain ⟨c, hc⟩ : ∃ c, r[i]? = some c := ⟨_, List.getElem?_eq_getElem hil⟩
  obtain ⟨hta, htn⟩ := tok_at _ (Nat.le_refl _) hgn
  refine Jp_of (fun st w' => w1 = w' ∧ st.1 = decide (¬ (r[i]? = some 0 ∧ r[i + 1]? = some 1))) (fun J6 hJ6 => ?_) ?_
  · simp only [sx, sxl, hq1, List.getElem?_toArray, BA_size, e1]
    by_cases h1 : i + 1 < r.length
    · obtain ⟨d, hd⟩ : ∃ d, r[i + 1]? = some d := ⟨_, List.getElem?_eq_getElem h1⟩
      rw [decide_eq_false (by omega)]
      simp only [sx, sxl, hq1, List.getElem?_toArray]
      refine IxS_BA hc ?_
      rw [show (0 : Int) = (((0 : UInt8).toNat : Nat) : Int) from rfl, u8_ne]
      by_cases h2 : c = 0
      · subst h2
        simp only [decide_true, Bool.not_true, sx, sxl, hq1, List.getElem?_toArray]
        refine IxS_BA hd ?_
        rw [show (1 : Int) = (((1 : UInt8).toNat : Nat) : Int) from rfl, u8_ne]
        refine hJ6 _ _ ⟨rfl, ?_⟩
        show (!decide (d = 1)) = _
        rw [hc, hd]
        by_cases h3 : d = 1 <;> simp [h3]
      · rw [decide_eq_false h2]
        simp only [Bool.not_false, sx]
        refine hJ6 _ _ ⟨rfl, ?_⟩
        show true = _
        rw [hc]
        simp [h2]
    · rw [decide_eq_true (by omega)]
      simp only [sx]
      refine hJ6 _ _ ⟨rfl, ?_⟩
      show true = _
      have : r[i + 1]? = none := List.getElem?_eq_none (by omega)
      simp [this]
  rintro ⟨_, _⟩ _ ⟨rfl, rfl⟩
  dsimp only
  refine Br_of (fun hb => ?_) (fun hb => ?_)
  · have hb := of_decide_eq_true hb
    refine CallV.mono (hy0 pre w1 _ hI1 hq1) ?_
    rintro r8 w2 hE
    refine hR _ _ (.inr (.inl ⟨pre, r, hkr, hr, htn ?_, hE⟩))
    rcases hst with h | ⟨h1, h2⟩
    · exact .inl h
    · exact .inr ⟨h1, h2, fun h3 => hb ⟨h1, h3⟩⟩
  · have hb : r[i]? = some 0 ∧ r[i + 1]? = some 1 := by
      have := of_decide_eq_false hb
      exact Classical.not_not.1 this
    have htok := hta hb.1 hb.2
    have hreq := tok_eq _ (Nat.le_refl _) htok
    have hi2 : i + 1 < r.length := (List.getElem?_eq_some_iff.1 hb.2).1
    simp only [sx, sxl, hq1, List.getElem?_toArray, BA_size]
    refine ⟨⟨by omega, by omega⟩, ?_⟩
    rw [Int.toNat_natCast, BA_extract, Nat.sub_zero, List.drop_zero]
    refine Cl.mono (ReplaceUn_ok (r.take i) (hg _ _ hI1) (by rw [List.length_take]; omega)) ?_
    rintro r10 w2 ⟨hr10, hk2⟩
    rw [hr10]
    have hq2 := hk2.at hq1 (by simp)
    refine CallV.mono (hy1 pre (unesc (r.take i)) w2 _ (hI _ _ _ hI1 (hk2.mono (by simp))) hq2) ?_
    rintro r11 w3 ⟨hq3, hif⟩
    refine Br_of (fun h11 => ?_) (fun h11 => ?_)
    · have h11 : r11.1 = false := by simpa using h11
      rw [if_neg (by rw [h11]; simp)] at hif
      refine hR _ _ (.inr (.inr ⟨pre, unesc (r.take i), r.drop (i + 2), ?_, hif⟩))
      rw [← hreq]
      exact hkr
    · have h11 : r11.1 = true := by simpa using h11
      rw [if_pos h11] at hif
      simp only [sx, sxl, hq3, List.getElem?_toArray, BA_size, e2]
      refine ⟨⟨by omega, by omega⟩, ?_⟩
      rw [Int.toNat_natCast, BA_extract]
      have hte : (r.drop (i + 2)).take (r.length - (i + 2)) = r.drop (i + 2) := List.take_of_length_le (by rw [List.length_drop]; omega)
      rw [hte]
      refine ⟨trivial, by omega, trivial, (r.drop (i + 2)).length, by rw [List.length_drop]; omega, pre ++ [unesc (r.take i)], r.drop (i + 2), ?_, rfl, hp_setObjW_same (hp_lt hq3), hI _ _ _ hif ((Keeps.refl [q] w3).setObjW (.inl (by simp)) _)⟩
      rw [ecs_app, ecs_cons, ecs_nil, List.append_nil, List.append_assoc, ← hreq]
      exact hkr

end Go.Proofs.YthgiocimimdbcaaDoor
