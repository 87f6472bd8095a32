/- The law's own comparison. -/
import Derived.Test.YtdpbgcplcjhjmaaRefb
set_option linter.unusedVariables false
set_option linter.unusedSimpArgs false
namespace Go.Proofs.Ytdpbgcplcjhjmaa
open Go Go.Sx

theorem same_ok {w : World} {p q n : Nat} {T : Nat → Bool} {fq : List Nat} (h : AlAt w p n T) (hr : RfAt w q n T fq) :
    Cl Try.prog 24 [.pointer (some ⟨p, 0, none⟩), .pointer (some ⟨q, 0, none⟩)] false [.sc .b] (fun r w' => r.1 = true ∧ Keeps [] w w') w := by
  have n2 := h.n2
  apply sumpterlaw08_same_call
  unfold sumpterlaw08_same
  refine Cl.mono (Used_ok h) ?_
  rintro r1 w1 ⟨hs1, hk1, hf1⟩
  refine Cl.mono (rUsed_ok (hr.keeps hk1 (by simp))) ?_
  rintro r2 w2 ⟨hs2, hk2, hf2⟩
  have hk02 := hk1.trans hk2 (by simp)
  refine Cl.mono (Bits_ok (h.keeps hk02 (by simp))) ?_
  rintro r3 w3 ⟨bs, ht, hs3, hk3, hf3⟩
  have hk03 := hk02.trans hk3 (by simp)
  have hl1 : r1.1.len = cnt T n := by
    have := hs1.len
    rw [cI_length, used_length] at this; omega
  have hl2 : r2.1.len = cnt T n := by
    have := hs2.len
    rw [cI_length, used_length] at this; omega
  have hl3 : r3.1.len = (n + 7) / 8 := by
    have := hs3.len
    rw [cB_length, ht.1] at this; omega
  have hcl := cnt_le T n
  have z1 := hk1.size
  have z2 := hk2.size
  have z3 := hk3.size
  have d12 : ∀ x ∈ blk r1.1, x ∉ blk r2.1 := fun x hx hx' => by have := hs1.lt x hx; have := hf2 x hx'; omega
  have d13 : ∀ x ∈ blk r1.1, x ∉ blk r3.1 := fun x hx hx' => by have := hs1.lt x hx; have := hf3 x hx'; omega
  have hrw : ∀ x ∈ fq, x < w.heap.size := hr.lt
  refine Jp_of (fun st w' => st = (false, ()) ∧ Keeps [] w3 w') ?_ ?_
  · intro J hJ
    have hr3 := hr.keeps hk03 (by simp)
    have hA3 := h.keeps hk03 (by simp)
    have hkd : Keeps [] w3 w3.drew := (Keeps.refl [] w3).drew
    have hrd := hr3.keeps hkd (by simp)
    have hrd' := hrd
    obtain ⟨s0, hR, he⟩ := hrd
    have hsl := hR.slen
    have hb3 := hR.box
    rw [hp_drew] at hb3
    simp only [sx, sxl, hl1, hl2, bne_self_eq_false, hb3, Nat.zero_add]
    refine Cl.mono (Left_ok (hA3.keeps hkd (by simp))) ?_
    rintro r26 _ ⟨g26, rfl⟩
    have e1 : w64 (((s0.len : Nat) : Int) - ((cnt T n : Nat) : Int)) = ((n - cnt T n : Nat) : Int) := by
      rw [hsl, w64_in (by omega) (by omega)]; omega
    simp only [sx, sxl, hb3, Nat.zero_add, g26, e1, bne_self_eq_false, true_and]
    refine BtoS_of (hs3.keeps hkd (by simp)).rdb ?_
    refine Cl.mono (rBits_ok hrd') ?_
    rintro r29 w4 ⟨bs', ht', hs4, hk4, _⟩
    have : bs = bs' := tells_unique ht ht'
    subst this
    refine ⟨BtoS_of ((hs3.keeps hkd (by simp)).keeps hk4 (by simp)).rdb rfl, ?_⟩
    refine BtoS_of hs4.rdb ?_
    rw [seq_refl]
    exact hJ _ _ ⟨rfl, hkd.trans hk4 (by simp)⟩
  rintro _ w4 ⟨rfl, hk34⟩
  simp only [sx]
  have hk24 := hk3.trans hk34 (by simp)
  have hs1' := hs1.keeps (hk2.trans hk24 (by simp)) (by simp)
  have hs2' := hs2.keeps hk24 (by simp)
  have hs3' := hs3.keeps hk34 (by simp)
  have hk04 := hk03.trans hk34 (by simp)
  -- the places are alike, and are spoiled
  refine ⟨fun m st w' => ∃ (i : Nat) (cs : List Value), st = (false, (i : Int), ()) ∧ m = cnt T n - i ∧ i ≤ cnt T n ∧ SlC w' r1.1 1 cs ∧ (∀ j, i ≤ j → cs[j]? = (cI (used T n))[j]?) ∧ Keeps (blk r1.1) w4 w', ⟨cnt T n, 0, _, rfl, by omega, by omega, hs1', fun j _ => rfl, Keeps.refl _ _⟩, ?_⟩
  rintro _ _ w5 ⟨i, cs, rfl, rfl, hi, hsc, hcs, hk5⟩
  dsimp only
  by_cases hil : i < cnt T n
  · rw [decide_eq_true (by omega)]
    have hkd : Keeps [] w5 w5.drew := (Keeps.refl [] w5).drew
    obtain ⟨x, hx⟩ : ∃ x, (used T n)[i]? = some x := ⟨_, List.getElem?_eq_getElem (by rw [used_length]; omega)⟩
    have hcx : (cI (used T n))[i]? = some (.int .i64 (x : Int)) := by rw [cI, List.getElem?_map, hx]; rfl
    have hcl5 := hsc.len
    obtain ⟨b1, o1, hp1, hb1⟩ := hsc.base (by omega)
    have hs25 := hs2'.keeps hk5 (fun x hx hx' => d12 x hx' hx)
    obtain ⟨b2, o2, hp2, hb2⟩ := hs25.base (by omega)
    have m1 := hsc.read hp1 (j := i) (by omega)
    rw [hcs i (Nat.le_refl _), hcx] at m1
    have m2 := hs25.read hp2 (j := i) (by rw [cI_length, used_length]; omega)
    rw [hcx] at m2
    simp (disch := ((try simp only [sx]); first | done | omega)) only [sxr, Ix_base hp1, Ix_base hp2, m1, m2, Int.toNat_natCast, Nat.mul_one, bne_self_eq_false]
    refine (hsc.keeps hkd (by simp)).write' (off := o1 + i) hp1 i rfl (by omega) rfl fun w6 hs6 hk6 => ?_
    have e2 : w64 ((i : Int) + 1) = ((i + 1 : Nat) : Int) := w64_nat (n := i + 1) (by omega)
    refine ⟨cnt T n - (i + 1), by omega, i + 1, _, by rw [e2], rfl, by omega, hs6, fun j hj => ?_, (hk5.trans hkd (by simp)).trans hk6 (by simp [hb1])⟩
    rw [List.getElem?_set_ne (by omega)]
    exact hcs j (by omega)
  rw [decide_eq_false (by omega)]
  simp only [sx]
  have hk05 := hk04.trans hk5 (fun x hx => .inr (hf1 x hx))
  have hs35 := hs3'.keeps hk5 (fun x hx hx' => d13 x hx' hx)
  have hf3w : ∀ x ∈ blk r3.1, w.heap.size ≤ x := fun x hx => by have := hf3 x hx; omega
  refine ⟨fun m st w' => ∃ (i : Nat) (cs : List Value), st = ((i : Int), ()) ∧ m = (n + 7) / 8 - i ∧ i ≤ (n + 7) / 8 ∧ SlC w' r3.1 1 cs ∧ Keeps (blk r3.1) w5 w', ⟨(n + 7) / 8, 0, _, rfl, by omega, by omega, hs35, Keeps.refl _ _⟩, ?_⟩
  rintro _ _ w6 ⟨k, cs', rfl, rfl, hk, hsk, hk6⟩
  dsimp only
  by_cases hkl : k < (n + 7) / 8
  · rw [decide_eq_true (by omega)]
    simp only [sx]
    obtain ⟨b3, o3, hp3, hb3⟩ := hsk.base (by omega)
    have hcl6 := hsk.len
    rw [Ix_base hp3 (by omega) (by omega), Int.toNat_natCast]
    refine hsk.write' (off := o3 + k * 1) hp3 k (by omega) (by omega) rfl fun w7 hs7 hk7 => ?_
    have e2 : w64 ((k : Int) + 1) = ((k + 1 : Nat) : Int) := w64_nat (n := k + 1) (by omega)
    exact ⟨(n + 7) / 8 - (k + 1), by omega, k + 1, _, by rw [e2], rfl, by omega, hs7, hk6.trans hk7 (by simp [hb3])⟩
  rw [decide_eq_false (by omega)]
  simp only [sx]
  have hk06 := hk05.trans hk6 (fun x hx => .inr (hf3w x hx))
  have hA6 := h.keeps hk06 (by simp)
  have hr6 := hr.keeps hk06 (by simp)
  refine ⟨fun m st w' => w6 = w' ∧ ∃ i : Nat, st = (false, (i : Int) - 1, ()) ∧ m = 80 - i ∧ i ≤ 71, ⟨80, rfl, 0, rfl, by omega, by omega⟩, ?_⟩
  rintro _ _ _ ⟨rfl, i', rfl, rfl, hi'⟩
  dsimp only
  refine Jp_of (fun st w' => w6 = w' ∧ (st = (false, ()) ∨ (st = (true, ()) ∧ (i' : Int) - 1 < 70))) ?_ ?_
  · intro J hJ
    have hr6' := hr6
    obtain ⟨s0, hR, he⟩ := hr6'
    simp only [sx, sxl, hR.box, Nat.zero_add]
    refine Br_of (fun _ => hJ _ _ ⟨rfl, ?_⟩) (fun _ => hJ _ _ ⟨rfl, .inl rfl⟩)
    by_cases h70 : (i' : Int) - 1 < 70
    · exact .inr ⟨by rw [decide_eq_true h70], h70⟩
    · exact .inl (by rw [decide_eq_false h70])
  rintro _ _ ⟨rfl, rfl | ⟨rfl, h70⟩⟩
  · exact ⟨by trivial, hk06⟩
  · simp only [sx]
    refine Cl.mono (Has_ok hA6 _) ?_
    rintro r20 _ ⟨g20, rfl⟩
    refine Cl.mono (rHas_ok hr6 _) ?_
    rintro r21 _ ⟨g21, rfl⟩
    rw [g20, has_def, g21, beq_self_eq_true]
    have e2 : w64 ((i' : Int) - 1 + 1) = ((i' + 1 : Nat) : Int) - 1 := by rw [w64_in (by omega) (by omega)]; omega
    exact ⟨80 - (i' + 1), by omega, rfl, i' + 1, by rw [e2], rfl, by omega⟩

end Go.Proofs.Ytdpbgcplcjhjmaa
