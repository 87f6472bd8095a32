/- The parts of a key, of the reference. Conditions: none. -/
import Derived.Test.YthgiocimimdbcaaDoorTq
set_option linter.unusedVariables false
set_option linter.unusedSimpArgs false
namespace Go.Proofs.YthgiocimimdbcaaDoor
open Go Go.Sx Go.RowKit

theorem tok_esc (c x : Bs) : tok (esc c ++ x) = (tok x).map fun y => (c ++ y.1, y.2) := by
  induction c with
  | nil => cases h : tok x <;> simp [esc, h]
  | cons b c ih =>
    by_cases hb : b = 0
    · subst hb
      have : esc (0 :: c) ++ x = 0 :: 255 :: (esc c ++ x) := by simp [esc]
      rw [this, tok.eq_def]
      simp [ih]
      rfl
    · have : esc (b :: c) ++ x = b :: (esc c ++ x) := by simp [esc, hb]
      rw [this, tok.eq_def]
      simp [hb, ih]
      rfl
theorem pt_left {k cur x : Bs} {l : List Bs} (hc : ck k = 0) (hk : k = ecs l ++ (esc cur ++ x)) (ht : tok x = none) (hx : x ≠ []) : pt k = ([], 11) := by
  refine pt_broken hc hk ?_ (by rw [tok_esc, ht]; rfl)
  intro h
  simp at h
  exact hx h.2
theorem ecs_mem {l : List Bs} {b : Bs} (h : b ∈ l) : b.length ≤ (ecs l).length := by
  induction l with
  | nil => cases h
  | cons p l ih =>
    rw [ecs_cons, List.length_append, ec_len]
    rcases List.mem_cons.1 h with rfl | h
    · omega
    · have := ih h; omega
theorem esc_nil {c : Bs} (h : esc c = []) : c = [] := by
  cases c with
  | nil => rfl
  | cons b c => by_cases hb : b = 0 <;> simp [esc, hb] at h

/-- Where all was gone through: what the joined parts say. -/
theorem pt_joined {k cur : Bs} {l : List Bs} (hc : ck k = 0) (hk : k = ecs l ++ esc cur) : pt k = if (jn l).2 = 0 ∧ (jn l).1 = k then (l, 0) else ([], 11) := by
  split
  · rename_i h
    rw [← h.2]
    exact pt_jn h.1
  · rename_i h
    refine pt_none hc fun l' hl' => ?_
    obtain ⟨l'', h1, h2⟩ := ecs_split (hl'.symm.trans hk)
    cases l'' with
    | cons p l'' =>
      have h3 := tok_esc cur []
      rw [List.append_nil, h2, ecs_cons, tok_ec] at h3
      simp [tok] at h3
    | nil =>
      rw [List.append_nil] at h1
      subst h1
      have hkl := ck_len hc
      by_cases h4 : 4 < l'.length
      · exact h4
      · exfalso
        refine h ?_
        have h5 : ¬ (l'.length < 1 ∨ 4 < l'.length) := by
          intro h6
          have : l'.length = 0 := by omega
          have := List.eq_nil_of_length_eq_zero this
          subst this
          rw [hl'] at hkl
          simp [ecs] at hkl
        have h6 : ¬ 12 < (ecs l').length := by rw [← hl']; omega
        rw [jn_ok h5 h6]
        exact ⟨rfl, hl'.symm⟩

theorem rParts_ok {w : World} (k : Bs) :
    Cl Tryd.prog 10 [.string (BA k)] true [.sc .sl, .sc (.i .i64)] (fun r w' => SlC w' r.1 1 (cT (pt k).1) ∧ r.2.1 = (pt k).2 ∧ (∀ x ∈ blk r.1, w.heap.size ≤ x) ∧ Keeps [] w w') w := by
  refine Cl_gen fun R hR => ?_
  apply sumpterref03_Parts_call
  unfold sumpterref03_Parts
  refine Cl.mono (rCheckKey_ok k) ?_
  rintro r1 _ ⟨hr1, rfl⟩
  rw [hr1]
  have fail : ∀ (e : Int) w', pt k = ([], e) → Keeps [] w w' → R (⟨none, 0, 0⟩, e, ()) w' := fun e w' he hk => hR _ _ ⟨by rw [he]; exact SlC.nil _ _, by rw [he], by simp [blk_zero], hk⟩
  refine Br_of (fun hb => ?_) (fun hb => ?_)
  · have hb : ck k ≠ 0 := by simpa using hb
    obtain ⟨e1, e2⟩ := pt_ck hb
    rw [e2]
    exact fail _ _ e1 (Keeps.refl _ _)
  have hb : ck k = 0 := by simpa using hb
  have hkl := ck_len hb
  rw [BA_size]
  obtain ⟨I, hI⟩ : ∃ I : Sl → Sl → Nat → World → Prop, I = fun o p i w' => ∃ (l : List Bs) (cur : Bs), i ≤ k.length ∧ k.take i = ecs l ++ esc cur ∧ SlC w' o 1 (cT l) ∧ SlC w' p 1 (cB cur) ∧ (∀ x ∈ blk o, w.heap.size ≤ x) ∧ (∀ x ∈ blk p, w.heap.size ≤ x) ∧
      (∀ x ∈ blk p, x ∉ blk o) ∧ Keeps [] w w' := ⟨_, rfl⟩
  refine ⟨fun n st w' => ∃ i : Nat, st.2.2.2.2.1 = (i : Int) ∧ n = k.length - i ∧ I st.2.2.1 st.2.2.2.1 i w', ⟨_, 0, rfl, rfl, by rw [hI]; exact ⟨[], [], by omega, rfl, SlC.nil _ _, SlC.nil _ _, by simp [blk_zero], by simp [blk_zero], by simp [blk_zero], Keeps.refl _ _⟩⟩, ?_⟩
  rintro _ ⟨s1, s2, o, p, _, _⟩ w1 ⟨i, rfl, rfl, hi⟩
  dsimp only at hi ⊢
  rw [hI] at hi
  obtain ⟨l, cur, hil, htk, hso, hsp, hfo, hfp, hdj, hk1⟩ := hi
  have hlens : (ecs l).length + (esc cur).length = i := by rw [← List.length_append, ← htk, List.length_take]; omega
  have hll := ecs_len_ge l
  have hcl := esc_len cur
  have holen : o.len = l.length := by have := hso.len; rw [cT_length] at this; omega
  have hplen : p.len = cur.length := by have := hsp.len; rw [cB_length] at this; omega
  have hz1 := hk1.size
  have hkt : k = ecs l ++ (esc cur ++ k.drop i) := by rw [← List.append_assoc, ← htk, List.take_append_drop]
  have e1 : w64 ((i : Int) + 1) = ((i + 1 : Nat) : Int) := w64_nat (n := i + 1) (by omega)
  by_cases hik : i < k.length
  · rw [decide_eq_true (by omega)]
    simp only [sx, Br]
    obtain ⟨c, hc⟩ : ∃ c, k[i]? = some c := ⟨_, List.getElem?_eq_getElem hik⟩
    have hdr : k.drop i = c :: k.drop (i + 1) := by
      obtain ⟨h1, h2⟩ := List.getElem?_eq_some_iff.1 hc
      rw [List.drop_eq_getElem_cons h1, h2]
    refine Jp_of (fun st w' => ∃ j : Nat, st.2.2.2.2.1 = (j : Int) ∧ i ≤ j ∧ j < k.length ∧ I st.2.2.1 st.2.2.2.1 (j + 1) w') (fun J4 hJ4 => ?_) ?_
    case refine_2 =>
      rintro ⟨t1, t2, o', p', _, _⟩ w2 ⟨j, rfl, hij, hjk, hi2⟩
      dsimp only at hi2 ⊢
      exact ⟨k.length - (j + 1), by omega, j + 1, w64_nat (n := j + 1) (by omega), rfl, hi2⟩
    refine IxS_BA hc ?_
    rw [show (0 : Int) = (((0 : UInt8).toNat : Nat) : Int) from rfl, u8_ne]
    refine Br_of (fun h0 => ?_) (fun h0 => ?_)
    · have h0 : c ≠ 0 := by simpa using h0
      refine IxS_BA hc ?_
      refine NewApp_of (size := 1) (bytes := 1) (m := 1) (cs := cB cur) (new := [.int .u8 (c.toNat : Int)]) hsp rfl (by simp [Value.oneCell']) (by kernel_rfl) (by omega) (by omega) ?_
      intro r9 w2 hs2 hl2 hk2 hb2
      refine hJ4 _ _ ⟨i, rfl, Nat.le_refl _, hik, ?_⟩
      rw [hI]
      refine ⟨l, cur ++ [c], by omega, ?_, hso.keeps hk2 (fun x hx hp => hdj x hp hx), ?_, hfo, fun x hx => (hb2 x hx).elim (hfp x) (fun h => by omega), fun x hx ho => ?_, hk1.trans hk2 (fun x hx => .inr (hfp x hx))⟩
      · rw [List.take_add_one, hc, htk, esc_app, esc_one, if_neg h0]
        simp
      · simpa [cB] using hs2
      · rcases hb2 x hx with h | h
        · exact hdj x h ho
        · have := hso.lt x ho; omega
    · have h0 : c = 0 := by simpa using h0
      subst h0
      refine Jp_of (fun st w' => w1 = w' ∧ st.1 = decide (k[i + 1]? = some 255)) (fun J10 hJ10 => ?_) ?_
      · rw [e1]
        by_cases h2 : i + 1 < k.length
        · obtain ⟨d, hd⟩ : ∃ d, k[i + 1]? = some d := ⟨_, List.getElem?_eq_getElem h2⟩
          rw [decide_eq_true (by omega)]
          simp only [Br]
          refine IxS_BA hd ?_
          rw [show (255 : Int) = (((255 : UInt8).toNat : Nat) : Int) from rfl, u8_eq]
          refine hJ10 _ _ ⟨rfl, ?_⟩
          rw [hd]
          show decide (d = 255) = _
          by_cases h3 : d = 255 <;> simp [h3]
        · rw [decide_eq_false (by omega)]
          show J10 _ w1
          refine hJ10 _ _ ⟨rfl, ?_⟩
          have : k[i + 1]? = none := List.getElem?_eq_none (by omega)
          rw [this]
          simp
      rintro ⟨_, _⟩ _ ⟨rfl, rfl⟩
      dsimp only
      refine Br_of (fun h2 => ?_) (fun h2 => ?_)
      · have h2 := of_decide_eq_true h2
        have h2l := (List.getElem?_eq_some_iff.1 h2).1
        refine NewApp_of (size := 1) (bytes := 1) (m := 1) (cs := cB cur) (new := [.int .u8 0]) hsp rfl (by simp [Value.oneCell']) (by kernel_rfl) (by omega) (by omega) ?_
        intro r9 w2 hs2 hl2 hk2 hb2
        refine hJ4 _ _ ⟨i + 1, e1, by omega, h2l, ?_⟩
        rw [hI]
        refine ⟨l, cur ++ [0], by omega, ?_, hso.keeps hk2 (fun x hx hp => hdj x hp hx), ?_, hfo, fun x hx => (hb2 x hx).elim (hfp x) (fun h => by omega), fun x hx ho => ?_, hk1.trans hk2 (fun x hx => .inr (hfp x hx))⟩
        · rw [List.take_add_one, h2, List.take_add_one, hc, htk, esc_app, esc_one, if_pos rfl]
          simp
        · simpa [cB] using hs2
        · rcases hb2 x hx with h | h
          · exact hdj x h ho
          · have := hso.lt x ho; omega
      have h2 := of_decide_eq_false h2
      refine Jp_of (fun st w' => w1 = w' ∧ st.1 = decide (k[i + 1]? = some 1)) (fun J14 hJ14 => ?_) ?_
      · rw [e1]
        by_cases h3 : i + 1 < k.length
        · obtain ⟨d, hd⟩ : ∃ d, k[i + 1]? = some d := ⟨_, List.getElem?_eq_getElem h3⟩
          rw [decide_eq_true (by omega)]
          simp only [Br]
          refine IxS_BA hd ?_
          rw [show (1 : Int) = (((1 : UInt8).toNat : Nat) : Int) from rfl, u8_eq]
          refine hJ14 _ _ ⟨rfl, ?_⟩
          rw [hd]
          show decide (d = 1) = _
          by_cases h3 : d = 1 <;> simp [h3]
        · rw [decide_eq_false (by omega)]
          show J14 _ w1
          refine hJ14 _ _ ⟨rfl, ?_⟩
          have : k[i + 1]? = none := List.getElem?_eq_none (by omega)
          rw [this]
          simp
      rintro ⟨_, _⟩ _ ⟨rfl, rfl⟩
      dsimp only
      refine Br_of (fun h3 => ?_) (fun h3 => ?_)
      · have h3 := of_decide_eq_true h3
        have h3l := (List.getElem?_eq_some_iff.1 h3).1
        refine BtoS_of hsp.rdb ?_
        refine NewApp_of (size := 1) (bytes := 16) (m := 1) (cs := cT l) (new := [.string (BA cur)]) hso rfl (by simp [Value.oneCell']) (by kernel_rfl) (by omega) (by omega) ?_
        intro r9 w2 hs2 hl2 hk2 hb2
        refine hJ4 _ _ ⟨i + 1, e1, by omega, h3l, ?_⟩
        rw [hI]
        refine ⟨l ++ [cur], [], by omega, ?_, ?_, SlC.nil _ _, fun x hx => (hb2 x hx).elim (hfo x) (fun h => by omega), by simp [blk_zero], by simp [blk_zero], hk1.trans hk2 (fun x hx => .inr (hfo x hx))⟩
        · rw [List.take_add_one, h3, List.take_add_one, hc, htk, ecs_app, ecs_cons, ecs_nil, ec]
          simp [esc]
        · rw [cT_app]; exact hs2
      · have h3 := of_decide_eq_false h3
        refine fail _ _ (pt_left hb hkt ?_ (by rw [hdr]; simp)) hk1
        rw [hdr, tok.eq_def]
        simp only [if_true]
        cases hq : k.drop (i + 1) with
        | nil => rfl
        | cons d q =>
          have hd : k[i + 1]? = some d := by
            have := List.getElem?_drop (xs := k) (i := i + 1) (j := 0)
            rw [hq] at this
            simpa using this.symm
          rw [hd] at h2 h3
          simp at h2 h3
          simp [h2, h3]
  · rw [decide_eq_false (by omega)]
    simp only [sx, Br]
    have hie : i = k.length := by omega
    rw [List.drop_of_length_le (by omega), List.append_nil] at hkt
    refine Cl.mono (rJoin_ok (Tx.of hso) (fun b hbm => by have := ecs_mem hbm; omega)) ?_
    rintro r21 w2 ⟨hr1, hr2, hk2⟩
    have hpt := pt_joined hb hkt
    refine Jp_of (fun st w' => w2 = w' ∧ st.1 = !decide ((jn l).2 = 0 ∧ (jn l).1 = k)) (fun J22 hJ22 => ?_) ?_
    · rw [hr1, hr2, seq_BA]
      refine Br_of (fun h => ?_) (fun h => ?_)
      · have h : (jn l).2 ≠ 0 := by simpa using h
        refine hJ22 _ _ ⟨rfl, ?_⟩
        simp [h]
      · have h : (jn l).2 = 0 := by simpa using h
        refine hJ22 _ _ ⟨rfl, ?_⟩
        simp [h]
    rintro ⟨_, _⟩ _ ⟨rfl, rfl⟩
    dsimp only
    have hk02 := hk1.trans hk2 (by simp)
    refine Br_of (fun h => ?_) (fun h => ?_)
    · have h : ¬ ((jn l).2 = 0 ∧ (jn l).1 = k) := of_decide_eq_false (by simpa only [Bool.not_eq_true'] using h)
      rw [if_neg h] at hpt
      exact fail _ _ hpt hk02
    · have h : (jn l).2 = 0 ∧ (jn l).1 = k := by simpa using h
      rw [if_pos h] at hpt
      exact hR _ _ ⟨by rw [hpt]; exact hso.keeps hk2 (by simp), by rw [hpt], hfo, hk02⟩

end Go.Proofs.YthgiocimimdbcaaDoor
