/- DiskClone: its walk. Conditions: none. -/
import Derived.Test.YthfgdoiaebfcdaaLg
set_option linter.unusedVariables false
set_option linter.unusedSimpArgs false
namespace Go.Proofs.Ythfgdoiaebfcdaa
open Go Go.Sx

def mPlay1 (s : DS) (o : Op) : DS :=
  if o.do_ = 2 then (mSync s).1 else if o.do_ = 4 then mCrash s o.mask else if o.do_ = 5 then mStart s else (mWrite s o.n (fullB o.v.toNat)).1
def mPlay (s : DS) (os : List Op) : DS := os.foldl mPlay1 s

theorem play_ok {w : World} {d : Nat} {H : Nat → Prop} {s0 : DS} (hD : DAt w d H s0) {l : Sl} {os : List Op} (h : RdC l.p (l.len * 6) (os.flatMap encO) w) (hd : ∀ a, l.p = some a → ¬ H a.block) (hq : ∀ o ∈ os, OpQ o) (hm : l.len ≤ 140737488355328) :
    Cl Try.prog 20 [.pointer (some ⟨d, 0, none⟩), .slice l.p l.len l.cap] true [] (fun _ w' => DAt w' d H (mPlay s0 os) ∧ KeepsP H w w') w := by
  refine Cl_gen fun R hR => ?_
  have hol := ops_len h
  apply sumpterlaw06_DiskClone_1_call
  unfold sumpterlaw06_DiskClone_1
  refine ⟨fun m st w' => ∃ (i : Nat), st = ((i : Int), ()) ∧ m = os.length - i ∧ i ≤ os.length ∧ DAt w' d H (mPlay s0 (os.take i)) ∧ KeepsP H w w', ⟨_, 0, rfl, rfl, by omega, by simpa [mPlay] using hD, KeepsP.refl _ _⟩, ?_⟩
  rintro _ _ w4 ⟨i, rfl, rfl, hi, hD4, hk4⟩
  dsimp only
  rw [hol]
  by_cases hil : i < os.length
  · rw [decide_eq_true (by omega)]
    simp only [Br]
    obtain ⟨o, ho⟩ := get_of_lt hil
    obtain ⟨q1, q2, q3⟩ := hq o (List.mem_of_getElem? ho)
    have hst : mPlay s0 (os.take (i + 1)) = mPlay1 (mPlay s0 (os.take i)) o := by
      rw [List.take_add_one, ho]
      simp [mPlay]
    generalize hs : mPlay s0 (os.take i) = s at hD4 hst
    refine Jp_of (fun st w5 => DAt w5 d H (mPlay1 s o) ∧ KeepsP H w w5) ?_ ?_
    · intro J3 hJ3
      refine op_ok (rdc_keepsP h hk4 hd) ho ?_
      intro a w5 hO hk5 ha
      have hD5 := hD4.keeps0 hk5
      have haH : ¬ H a := fun hh => by have := hD4.bl a hh; omega
      have hk05 : KeepsP H w w5 := hk4.step hk5 (by simp)
      unfold mPlay1 at hJ3
      simp only [add_of]
      refine hO.do_ ?_
      by_cases h2 : o.do_ = 2
      · rw [show (o.do_ == 2) = true from by simp [h2]]
        simp only [h2, if_true] at hJ3
        refine Cl.mono (Sync_ok hD5) ?_
        rintro ⟨r, _⟩ w6 ⟨_, hD6, hk6⟩
        exact hJ3 _ _ ⟨hD6, hk05.same hk6⟩
      · rw [show (o.do_ == 2) = false from by simp [h2]]
        simp only [if_neg h2] at hJ3
        simp only [Br]
        by_cases h4 : o.do_ = 4
        · rw [show (o.do_ == 4) = true from by simp [h4]]
          simp only [h4, if_true] at hJ3
          simp only [Br]
          refine hO.mask ?_
          refine Cl.mono (Crash_ok hD5 o.mask) ?_
          rintro _ w6 ⟨hD6, hk6⟩
          exact hJ3 _ _ ⟨hD6, hk05.same hk6⟩
        · rw [show (o.do_ == 4) = false from by simp [h4]]
          simp only [if_neg h4] at hJ3
          simp only [Br]
          by_cases h5 : o.do_ = 5
          · rw [show (o.do_ == 5) = true from by simp [h5]]
            simp only [h5, if_true] at hJ3
            refine Cl.mono (Start_ok hD5) ?_
            rintro _ w6 ⟨hD6, hk6⟩
            exact hJ3 _ _ ⟨hD6, hk05.same hk6⟩
          · rw [show (o.do_ == 5) = false from by simp [h5]]
            simp only [if_neg h5] at hJ3
            simp only [Br, Dr]
            have hOd : OpAt w5.drew a o := hO
            refine hOd.n ?_
            refine hOd.v ?_
            refine Cl.mono (full_int (w := w5.drew) q1) ?_
            rintro ⟨r20, _⟩ w6 ⟨hs6, hk6, hb6⟩
            simp only at hs6 hb6
            have hkd : Keeps [] w5 w5.drew := (Keeps.refl _ _).drew
            refine ⟨(hOd.keeps hk6 (by simp)).n rfl, ?_⟩
            have hD6 := (hD5.keeps0 hkd).keeps0 hk6
            refine Cl.mono (WriteF_ok hD6 o.n _ hs6 (fresh_not (w := w5) hb6 hD5.bl)) ?_
            rintro ⟨r22, _⟩ w7 ⟨_, hD7, hk7⟩
            exact hJ3 _ _ ⟨hD7, ((hk05.step hkd (by simp)).step hk6 (by simp)).same hk7⟩
    · rintro _ w5 ⟨hD5, hk5⟩
      refine ⟨os.length - (i + 1), by omega, i + 1, by rw [w64_in (by omega) (by omega)]; rfl, rfl, by omega, ?_, hk5⟩
      rw [hst]
      exact hD5
  · rw [decide_eq_false (by omega)]
    obtain rfl : i = os.length := by omega
    rw [List.take_length] at hD4
    exact hR _ _ ⟨hD4, hk4⟩

theorem rdc_block {p : Option Addr} {n : Nat} {cs : List Value} {w : World} (h : RdC p n cs w) (h0 : cs ≠ []) : ∀ a, p = some a → a.block < w.heap.size := by
  intro a ha
  cases cs with
  | nil => exact absurd rfl h0
  | cons v vs =>
    obtain ⟨a', ha', hc⟩ := h.2 0 v rfl
    rw [ha] at ha'
    cases ha'
    have hb : (a.add 0).block = a.block := by unfold Addr.add; split <;> rfl
    rcases Nat.lt_or_ge a.block w.heap.size with h' | h'
    · exact h'
    · simp [World.cell?, hb, Array.getElem?_eq_none h'] at hc

/-- The same, of a list that was there before. -/
theorem playW_ok {w0 w : World} {d : Nat} {H : Nat → Prop} {s0 : DS} (hD : DAt w d H s0) (hH : ∀ y, H y → w0.heap.size ≤ y) (hk : Keeps [] w0 w) {l : Sl} {os : List Op} (h : RdC l.p (l.len * 6) (os.flatMap encO) w0) (hq : ∀ o ∈ os, OpQ o) (hm : l.len ≤ 140737488355328) :
    Cl Try.prog 20 [.pointer (some ⟨d, 0, none⟩), .slice l.p l.len l.cap] true [] (fun _ w' => DAt w' d H (mPlay s0 os) ∧ KeepsP H w w') w := by
  by_cases he : os = []
  · subst he
    have hol := ops_len h
    refine Cl_gen fun R hR => ?_
    apply sumpterlaw06_DiskClone_1_call
    unfold sumpterlaw06_DiskClone_1
    refine ⟨fun m st w' => m = 0 ∧ st = (0, ()) ∧ w = w', ⟨0, rfl, rfl, rfl⟩, ?_⟩
    rintro _ _ _ ⟨rfl, rfl, rfl⟩
    dsimp only
    rw [hol]
    exact hR _ _ ⟨hD, KeepsP.refl _ _⟩
  · have hne : os.flatMap encO ≠ [] := by
      cases os with
      | nil => exact absurd rfl he
      | cons o r => simp [encO]
    exact play_ok hD (rdc_keeps h hk (by simp)) (fun a ha hh => by have := rdc_block h hne a ha; have := hH _ hh; omega) hq hm

theorem DiskClone_ok {w : World} {l1 l2 l3 : Sl} {o1 o2 o3 : List Op} (h1 : RdC l1.p (l1.len * 6) (o1.flatMap encO) w) (h2 : RdC l2.p (l2.len * 6) (o2.flatMap encO) w) (h3 : RdC l3.p (l3.len * 6) (o3.flatMap encO) w)
    (q1 : ∀ o ∈ o1, OpQ o) (q2 : ∀ o ∈ o2, OpQ o) (q3 : ∀ o ∈ o3, OpQ o) (m1 : l1.len ≤ 140737488355328) (m2 : l2.len ≤ 140737488355328) (m3 : l3.len ≤ 140737488355328) :
    Cl Try.prog i_sumpterlaw06_DiskClone [.slice l1.p l1.len l1.cap, .slice l2.p l2.len l2.cap, .slice l3.p l3.len l3.cap] false [.sc .b] (fun r w' => r.1 = true ∧ Keeps [] w w') w := by
  refine Cl_gen fun R hR => ?_
  apply sumpterlaw06_DiskClone_call
  unfold sumpterlaw06_DiskClone
  refine Cl.mono (live_ok w) ?_
  rintro ⟨r1, _⟩ w1 ⟨hr1, hk1⟩
  simp only at hr1
  subst hr1
  refine Cl.mono (New_ok w1 12) ?_
  rintro ⟨pd, ed, u⟩ w2 ⟨hn, hk2⟩
  rw [if_neg (by omega)] at hn
  obtain ⟨d, H, hr, hD, hf⟩ := hn
  cases hr
  have hk02 : Keeps [] w w2 := hk1.trans hk2 (by simp)
  have z1 := hk1.size
  refine Jp_of (fun st w' => (st = (true, ()) ∨ st = (false, ())) ∧ w2 = w') ?_ ?_
  · intro J hJ
    simp only [Option.isNone_some, Br]
    refine hJ _ _ ⟨?_, rfl⟩
    by_cases hc : w64 (w64 ((l1.len : Int) + (l2.len : Int)) + (l3.len : Int)) > 150
    · left; rw [decide_eq_true hc]
    · right; rw [decide_eq_false hc]
  rintro _ _ ⟨rfl | rfl, rfl⟩
  · exact hR _ _ ⟨rfl, hk02⟩
  simp only [Br]
  have hHw : ∀ y, H y → w.heap.size ≤ y := fun y hy => by have := hf y hy; omega
  refine Cl.mono (playW_ok hD hHw hk02 h1 q1 m1) ?_
  rintro _ w3 ⟨hD3, hk3⟩
  generalize hs : mPlay _ o1 = s at hD3
  have hk03 : Keeps [] w w3 := toL_of hk02 hk3 hHw
  refine Cl.mono (Clone_ok hD3) ?_
  rintro ⟨pb, _⟩ w4 ⟨b, HB, hr, hB4, hfb, hk4⟩
  cases hr
  have hD4 := hD3.keeps0 hk4
  refine Cl.mono (Clone_ok hD4) ?_
  rintro ⟨pc, _⟩ w5 ⟨c, HC, hr, hC5, hfc, hk5⟩
  cases hr
  have hD5 := hD4.keeps0 hk5
  have hB5 := hB4.keeps0 hk5
  have hk05 : Keeps [] w w5 := (hk03.trans hk4 (by simp)).trans hk5 (by simp)
  have z3 := hk03.size
  have z4 := hk4.size
  have hHBw : ∀ y, HB y → w.heap.size ≤ y := fun y hy => by have := hfb y hy; omega
  have hHCw : ∀ y, HC y → w.heap.size ≤ y := fun y hy => by have := hfc y hy; omega
  have dHB : Dj H HB := fun y hy hy' => by have := hD3.bl y hy; have := hfb y hy'; omega
  have dHC : Dj H HC := fun y hy hy' => by have := hD4.bl y hy; have := hfc y hy'; omega
  have dBC : Dj HB HC := fun y hy hy' => by have := hB4.bl y hy; have := hfc y hy'; omega
  refine Jp_of (fun st w' => st = (false, ()) ∧ w5 = w') (fun J hJ => hJ _ _ ⟨rfl, rfl⟩) ?_
  rintro _ _ ⟨rfl, rfl⟩
  simp only [Br]
  refine Cl.mono (playW_ok hD5 hHw hk05 h2 q2 m2) ?_
  rintro _ w6 ⟨hD6, hk6⟩
  have hB6 := hB5.keeps hk6 dHB.symm
  have hC6 := hC5.keeps hk6 dHC.symm
  have hk06 : Keeps [] w w6 := toL_of hk05 hk6 hHw
  refine Cl.mono (playW_ok hB6 hHBw hk06 h3 q3 m3) ?_
  rintro _ w7 ⟨hB7, hk7⟩
  have hD7 := hD6.keeps hk7 dHB
  have hC7 := hC6.keeps hk7 dBC.symm
  have hk07 : Keeps [] w w7 := toL_of hk06 hk7 hHBw
  refine Cl.mono (playW_ok hC7 hHCw hk07 h2 q2 m2) ?_
  rintro _ w8 ⟨hC8, hk8⟩
  have hD8 := hD7.keeps hk8 dHC
  have hk08 : Keeps [] w w8 := toL_of hk07 hk8 hHCw
  generalize mPlay s o2 = t at hD8 hC8
  refine Cl.mono (Start_ok hD8) ?_
  rintro _ w9 ⟨hD9, hk9⟩
  have hC9 := hC8.keeps hk9 dHC.symm
  have hk09 : Keeps [] w w9 := toL_of hk08 hk9 hHw
  refine Cl.mono (Start_ok hC9) ?_
  rintro _ w10 ⟨hC10, hk10⟩
  have hD10 := hD9.keeps hk10 dHC
  have hk010 : Keeps [] w w10 := toL_of hk09 hk10 hHCw
  generalize mStart t = t' at hD10 hC10
  refine ⟨fun m st w' => ∃ (i : Nat), st = (false, (i : Int), ()) ∧ m = 12 - i ∧ i ≤ 12 ∧ Keeps [] w10 w', ⟨_, 0, rfl, rfl, by omega, Keeps.refl _ _⟩, ?_⟩
  rintro _ _ w11 ⟨i, rfl, rfl, hi, hk11⟩
  dsimp only
  have hD11 := hD10.keeps0 hk11
  by_cases hil : i < 12
  · rw [decide_eq_true (by omega)]
    simp only [Br]
    refine Cl.mono (Read_ok hD11 (i : Int)) ?_
    rintro ⟨ra, ea, _⟩ w12 ⟨hea, hsa, hka, hba⟩
    simp only at hea hsa hba
    refine Cl.mono (Read_ok ((hC10.keeps0 hk11).keeps0 hka) (i : Int)) ?_
    rintro ⟨rb, eb, _⟩ w13 ⟨heb, hsb, hkb, hbb⟩
    simp only at heb hsb hbb
    have hsa13 := hsa.keeps hkb (by simp)
    refine Jp_of (fun st w' => st = (false, ()) ∧ w13 = w') ?_ ?_
    · intro J hJ
      rw [hea, heb, show ((mRead t' (i : Int)).2 != (mRead t' (i : Int)).2) = false from by simp]
      simp only [Br]
      refine BtoS_of hsa13.rdb ?_
      refine BtoS_of hsb.rdb ?_
      rw [seq_refl]
      exact hJ _ _ ⟨rfl, rfl⟩
    · rintro _ _ ⟨rfl, rfl⟩
      exact ⟨12 - (i + 1), by omega, i + 1, by rw [w64_in (by omega) (by omega)]; rfl, rfl, by omega, (hk11.trans hka (by simp)).trans hkb (by simp)⟩
  · rw [decide_eq_false (by omega)]
    exact hR _ _ ⟨rfl, hk010.trans hk11 (by simp)⟩

end Go.Proofs.Ythfgdoiaebfcdaa
