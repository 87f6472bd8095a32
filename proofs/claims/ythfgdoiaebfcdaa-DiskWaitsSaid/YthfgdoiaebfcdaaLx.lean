/- DiskWaits: its walk. Conditions: none. -/
import Derived.Test.YthfgdoiaebfcdaaLw
set_option linter.unusedVariables false
set_option linter.unusedSimpArgs false
namespace Go.Proofs.Ythfgdoiaebfcdaa
open Go Go.Sx

def boolB (s : DS) : List Value := (List.range 12).map fun i => Value.bool (waiting s i)
theorem boolB_len (s : DS) : (boolB s).length = 12 := by simp [boolB]
theorem boolB_get (s : DS) {i : Nat} (h : i < 12) : (boolB s)[i]? = some (.bool (waiting s i)) := by simp [boolB, h]
theorem boolB_write (s : DS) {j : Nat} (hj : j < 12) (x : Sec) : (boolB s).set j (.bool true) = boolB { s with wait := setW s.wait j x } := by
  apply List.ext_getElem?
  intro k
  by_cases hk : k < 12
  · rw [boolB_get _ hk]
    by_cases hi : j = k
    · subst hi
      rw [List.getElem?_set_self (by rw [boolB_len]; exact hk)]
      simp [waiting, setW]
    · rw [List.getElem?_set_ne hi, boolB_get _ hk]
      simp [waiting, setW, Ne.symm hi]
  · rw [List.getElem?_eq_none (by rw [List.length_set, boolB_len]; omega), List.getElem?_eq_none (by rw [boolB_len]; omega)]

theorem wJ_twelve {s : DS} (h : Up12 s) : wJ s 12 = wI s := by
  unfold wJ wI mWaits
  rw [h.ln]

set_option maxRecDepth 100000 in
/-- All twelve are struck out. -/
theorem clear_ok {w : World} {b : Nat} {s s' : DS} (hs' : ∀ i, s'.wait i = none) (hb : w.heap[b]? = some (.cells (boolB s).toArray 44 (0, 0))) {K : Pr} (k : ∀ w', w'.heap[b]? = some (.cells (boolB s').toArray 44 (0, 0)) → Keeps [b] w w' → K w') :
    (St ⟨b, 0, none⟩ (.bool false) <|
    St ⟨b, 1, none⟩ (.bool false) <|
    St ⟨b, 2, none⟩ (.bool false) <|
    St ⟨b, 3, none⟩ (.bool false) <|
    St ⟨b, 4, none⟩ (.bool false) <|
    St ⟨b, 5, none⟩ (.bool false) <|
    St ⟨b, 6, none⟩ (.bool false) <|
    St ⟨b, 7, none⟩ (.bool false) <|
    St ⟨b, 8, none⟩ (.bool false) <|
    St ⟨b, 9, none⟩ (.bool false) <|
    St ⟨b, 10, none⟩ (.bool false) <|
    St ⟨b, 11, none⟩ (.bool false) <| K) w := by
  have hb' : (boolB s') = List.replicate 12 (.bool false) := by
    apply List.ext_getElem?
    intro j
    by_cases hj : j < 12
    · rw [boolB_get _ hj, show waiting s' j = false from by simp [waiting, hs'], List.getElem?_replicate, if_pos hj]
    · rw [List.getElem?_eq_none (by rw [boolB_len]; omega), List.getElem?_eq_none (by simp; omega)]
  have := (StN_row (n := 12) (vs := List.replicate 12 (.bool false)) hb (by simp [boolB_len]) (by simp) (by simp [Value.oneCell']) (K := K) (fun w' h1 h2 _ => k w' (by rw [hb']; exact h1) h2)).2
  simpa only [List.replicate, StR, add_of, Nat.zero_add, Nat.reduceAdd] using this

theorem DiskWaits_ok {w : World} {l : Sl} {os : List Op} (h : RdC l.p (l.len * 6) (os.flatMap encO) w) (hq : ∀ o ∈ os, OpQ o) :
    Cl Try.prog i_sumpterlaw06_DiskWaits [.slice l.p l.len l.cap] false [.sc .b] (fun r w' => r.1 = true ∧ Keeps [] w w') w := by
  refine Cl_gen fun R hR => ?_
  have hol := ops_len h
  apply sumpterlaw06_DiskWaits_call
  unfold sumpterlaw06_DiskWaits
  refine Cl.mono (live_ok w) ?_
  rintro ⟨r1, _⟩ w1 ⟨hr1, hk1⟩
  simp only at hr1
  subst hr1
  refine Cl.mono (New_ok w1 12) ?_
  rintro ⟨pd, ed, u⟩ w2 ⟨hn, hk2⟩
  rw [if_neg (by omega)] at hn
  obtain ⟨d, H, hr, hD, hf⟩ := hn
  cases hr
  have hk02 : Keeps [] w w2 := hk1.trans hk2 (by simp)
  have z1 := hk1.size
  have z02 := hk02.size
  have hbl := hD.bl
  have hHw : ∀ y, H y → w.heap.size ≤ y := fun y hy => by have := hf y hy; omega
  refine Jp_of (fun st w' => (st = (true, ()) ∨ (st = (false, ()) ∧ l.len ≤ 100)) ∧ w2 = w') ?_ ?_
  · intro J hJ
    simp only [Option.isNone_some, Br]
    refine hJ _ _ ⟨?_, rfl⟩
    by_cases hc : l.len ≤ 100
    · right; exact ⟨by rw [decide_eq_false (by omega)], hc⟩
    · left; rw [decide_eq_true (by omega)]
  rintro _ _ ⟨rfl | ⟨rfl, hl100⟩, rfl⟩
  · exact hR _ _ ⟨rfl, hk02⟩
  simp only [Br, New]
  generalize hw3 : w2.alloc _ = w3
  have hk3 : Keeps [] w2 w3 := by rw [← hw3]; exact (Keeps.refl _ _).alloc _
  have z3 : w3.heap.size = w2.heap.size + 1 := by rw [← hw3, World.size_alloc]
  have ha3 : w3.heap[w2.heap.size]? = some (.cells (cT (List.replicate 12 (BA []))).toArray 28 (0, 0)) := by rw [← hw3]; exact hp_alloc_new w2 _
  generalize hw4 : w3.alloc _ = w4
  have hk4 : Keeps [] w3 w4 := by rw [← hw4]; exact (Keeps.refl _ _).alloc _
  have hb4 : w4.heap[w3.heap.size]? = some (.cells (boolB (dNew (12 : Int).toNat)).toArray 44 (0, 0)) := by rw [← hw4]; exact hp_alloc_new w3 _
  have ha4 := hk4.at ha3 (by simp)
  have hk24 : Keeps [] w2 w4 := hk3.trans hk4 (by simp)
  refine zeros_ok (by simp) ha4 ?_
  intro w5 ha5 hk5
  have hk25 : Keeps [w2.heap.size] w2 w5 := (hk24.mono (m' := [w2.heap.size]) (by simp)).trans hk5 (by simp)
  have hb5 := hk5.at hb4 (by simp; omega)
  generalize hga : w2.heap.size = a at *
  generalize hgb : w3.heap.size = b at *
  have haH : ¬ H a := fun hh => by have := hbl _ hh; omega
  have hbH : ¬ H b := fun hh => by have := hbl _ hh; omega
  have hA5 : AI w w5 d H (dNew (12 : Int).toNat) a (nowB (dNew (12 : Int).toNat)) := ⟨hD.keeps (F := fun x => x = a) (hk25.toP (by simp)) (fun y hy hy' => haH (hy' ▸ hy)), Up12.new, by rw [nowB_new]; exact ha5, haH, by omega, hHw, hk02.trans hk25 (by simp; omega)⟩
  refine ⟨fun m st w' => ∃ (i : Nat) (s : DS), st = (false, (i : Int), ()) ∧ m = os.length - i ∧ i ≤ os.length ∧ AI w w' d H s a (nowB s) ∧ w'.heap[b]? = some (.cells (boolB s).toArray 44 (0, 0)), ⟨_, 0, _, rfl, rfl, by omega, hA5, hb5⟩, ?_⟩
  rintro _ _ w6 ⟨i, s, rfl, rfl, hi, hI, hb6⟩
  dsimp only
  rw [hol]
  by_cases hil : i < os.length
  · rw [decide_eq_true (by omega)]
    simp only [Br]
    obtain ⟨o, ho⟩ := get_of_lt hil
    obtain ⟨q1, q2, q3⟩ := hq o (List.mem_of_getElem? ho)
    refine Jp_of (fun st w7 => ∃ s', st = (false, ()) ∧ AI w w7 d H s' a (nowB s') ∧ w7.heap[b]? = some (.cells (boolB s').toArray 44 (0, 0))) ?_ ?_
    · intro J hJ
      refine op_ok (rdc_keeps h hI.kp (by simp)) ho ?_
      intro c w7 hO hk7 hc
      have hcH : ¬ H c := fun hh => by have := hI.dk.bl c hh; omega
      have hD7 := hI.dk.keeps0 hk7
      have ha7 := hk7.at hI.ar (by simp)
      have hb7 := hk7.at hb6 (by simp)
      have hk07 : Keeps [] w w7 := hI.kp.trans hk7 (by simp)
      simp only [add_of]
      refine hO.do_ ?_
      by_cases h2 : o.do_ = 2
      · rw [show (o.do_ == 2) = true from by simp [h2]]
        simp only [Br]
        refine Cl.mono (Sync_ok hD7) ?_
        rintro ⟨r, _⟩ w8 ⟨hr, hD8, hk8⟩
        simp only at hr
        rw [hI.up.sync] at hr hD8
        subst hr
        rw [show ((0 : Int) != 0) = false from rfl]
        simp only [Br, Nat.zero_add]
        have hu8 := hI.up.sy
        have hsy := nowB_sync hI.up
        generalize hs2 : ({ s with safe := mMerge s, wait := fun _ => none } : DS) = s2 at hD8 hu8 hsy
        have hw2 : ∀ i, s2.wait i = none := fun i => by rw [← hs2]
        have ha8 := hk8.at ha7 haH
        rw [← hsy] at ha8
        refine clear_ok hw2 (hk8.at hb7 hbH) ?_
        intro w9 hb9 hk9
        exact hJ _ _ ⟨s2, rfl, ⟨hD8.keeps (F := fun x => x = b) (hk9.toP (by simp)) (fun y hy hy' => hbH (hy' ▸ hy)), hu8, hk9.at ha8 (by simp; omega), haH, by omega, hHw, (toL_of hk07 hk8 hHw).trans hk9 (by simp; omega)⟩, hb9⟩
      · rw [show (o.do_ == 2) = false from by simp [h2]]
        simp only [Br]
        refine hO.n ?_
        refine ⟨by decide, by decide, ?_⟩
        refine hO.v ?_
        obtain ⟨j, hj, hje⟩ := twelve o.n
        rw [hje]
        refine Cl.mono (full_int (w := w7) q1) ?_
        rintro ⟨r28, _⟩ w8 ⟨hs8, hk8, hb8⟩
        simp only at hs8 hb8
        refine Cl.mono (WriteF_ok (hD7.keeps0 hk8) (j : Int) _ hs8 (fresh_not hb8 hD7.bl)) ?_
        rintro ⟨r29, _⟩ w9 ⟨hr, hD9, hk9⟩
        simp only at hr
        rw [hI.up.write hj] at hr hD9
        subst hr
        rw [show ((0 : Int) != 0) = false from rfl]
        simp only [Br]
        have hO9 := (hO.keeps hk8 (by simp)).keepsP hk9 hcH
        refine hO9.v ?_
        refine Cl.mono (full_int (w := w9) q1) ?_
        rintro ⟨r31, _⟩ w10 ⟨hs10, hk10, _⟩
        simp only at hs10
        refine BtoS_of hs10.rdb ?_
        have ha10 := hk10.at (hk9.at (hk8.at ha7 (by simp)) haH) (by simp)
        have hb10 := hk10.at (hk9.at (hk8.at hb7 (by simp)) hbH) (by simp)
        have hk010 : Keeps [] w w10 := (toL_of (hk07.trans hk8 (by simp)) hk9 hHw).trans hk10 (by simp)
        refine IxR_st ha10 hj (nowB_len s) (bS (fullS o.v.toNat)) ?_
        intro w11 ha11 hk11
        rw [nowB_write] at ha11
        have hb11 := hk11.at hb10 (by simp; omega)
        refine ⟨by omega, by omega, ?_⟩
        rw [add_of, Int.toNat_natCast, Nat.zero_add, Nat.mul_one]
        refine set_box hb11 j _ rfl (by simp [boolB_len]; omega) ?_
        intro w12 hb12 hk12
        have hk1012 : Keeps [a, b] w10 w12 := (hk11.mono (m' := [a, b]) (by simp)).trans hk12 (by simp)
        refine hJ _ _ ⟨_, rfl, ⟨(hD9.keeps0 hk10).keeps (F := fun x => x = a ∨ x = b) (hk1012.toP (by simp)) (fun y hy hy' => by rcases hy' with e | e; exact haH (e ▸ hy); exact hbH (e ▸ hy)), hI.up.wr _, hk12.at ha11 (by simp; omega), haH, by omega, hHw, hk010.trans hk1012 (by simp; omega)⟩, ?_⟩
        rw [hb12, ← boolB_write s hj (fullS o.v.toNat)]
        simp
    · rintro _ w7 ⟨s', rfl, hI', hb'⟩
      exact ⟨os.length - (i + 1), by omega, i + 1, s', by rw [w64_in (by omega) (by omega)]; rfl, rfl, by omega, hI', hb'⟩
  · rw [decide_eq_false (by omega)]
    simp only [Br, add_of, Nat.zero_add]
    refine LdB_of (i := 0) (x := waiting s 0) hb6 rfl ?_
    refine LdB_of (i := 1) (x := waiting s 1) hb6 rfl ?_
    refine LdB_of (i := 2) (x := waiting s 2) hb6 rfl ?_
    refine LdB_of (i := 3) (x := waiting s 3) hb6 rfl ?_
    refine LdB_of (i := 4) (x := waiting s 4) hb6 rfl ?_
    refine LdB_of (i := 5) (x := waiting s 5) hb6 rfl ?_
    refine LdB_of (i := 6) (x := waiting s 6) hb6 rfl ?_
    refine LdB_of (i := 7) (x := waiting s 7) hb6 rfl ?_
    refine LdB_of (i := 8) (x := waiting s 8) hb6 rfl ?_
    refine LdB_of (i := 9) (x := waiting s 9) hb6 rfl ?_
    refine LdB_of (i := 10) (x := waiting s 10) hb6 rfl ?_
    refine LdB_of (i := 11) (x := waiting s 11) hb6 rfl ?_
    refine ⟨fun m st w' => ∃ (j : Nat) (r : Sl), st = (false, r, (j : Int), ()) ∧ m = 12 - j ∧ j ≤ 12 ∧ SlC w' r 1 (cI (wJ s j)) ∧ (∀ y ∈ blk r, w6.heap.size ≤ y) ∧ Keeps [] w6 w', ⟨_, 0, ⟨none, 0, 0⟩, rfl, rfl, by omega, SlC.nil _ _, by simp [blk], Keeps.refl _ _⟩, ?_⟩
    rintro _ _ w7 ⟨j, r, rfl, rfl, hj, hs7, hb7, hk7⟩
    dsimp only
    have hrl := cI_slen hs7
    have hwl := wJ_len s j
    by_cases hjl : j < 12
    · rw [decide_eq_true (by omega)]
      simp only [Br]
      refine ⟨by omega, by omega, .bool (waiting s j), by rw [Int.toNat_natCast, Nat.mul_one]; exact boolB_get s hjl, ?_⟩
      refine Ty_of (k := .b) (waiting s j) rfl ?_
      refine Jp_of (fun st w8 => ∃ r', st = (r', ()) ∧ SlC w8 r' 1 (cI (wJ s (j + 1))) ∧ (∀ y ∈ blk r', w6.heap.size ≤ y) ∧ Keeps [] w6 w8) ?_ ?_
      · intro J hJ
        rw [wJ_succ] at hJ
        cases hw : waiting s j with
        | false =>
          rw [hw] at hJ
          exact hJ _ _ ⟨r, rfl, by simpa using hs7, hb7, hk7⟩
        | true =>
          rw [hw] at hJ
          simp only [Br]
          refine NewApp_of (bytes := 8) (new := cI [(j : Int)]) hs7 rfl (cI_one _) (by kernel_rfl) (by omega) (by omega) ?_
          intro r' w8 g1 g2 g3 g4
          have := hk7.size
          refine hJ _ _ ⟨r', rfl, by simpa [cI] using g1, fun y hy => ?_, hk7.trans g3 (fun y hy => .inr (hb7 y hy))⟩
          rcases g4 y hy with hh | hh
          · exact hb7 y hh
          · omega
      · rintro _ w8 ⟨r', rfl, hs8, hb8, hk8⟩
        have hD8 := hI.dk.keeps0 hk8
        refine Cl.mono (Read_ok hD8 (j : Int)) ?_
        rintro ⟨r53, e53, _⟩ w9 ⟨he, hs9, hk9, hb9⟩
        simp only at he hs9
        have hrd : mRead s (j : Int) = ((mSec s j).1, 0) := by
          unfold mRead
          rw [if_pos (by rw [hI.up.at, if_neg (by omega)]), Int.toNat_natCast]
        rw [hrd] at he hs9
        subst he
        have hk69 : Keeps [] w6 w9 := hk8.trans hk9 (by simp)
        refine Jp_of (fun st w' => st = (false, ()) ∧ Keeps [] w9 w') ?_ ?_
        · intro J hJ
          have hkd : Keeps [] w9 w9.drew := (Keeps.refl _ _).drew
          simp only [Dr]
          rw [show ((0 : Int) != 0) = false from rfl]
          simp only [Br]
          refine BtoS_of (w := w9.drew) (hs9.keeps hkd (by simp)).rdb ?_
          refine IxR_ld (w := w9.drew) ((hk69.trans hkd (by simp)).at hI.ar (by simp)) hjl (nowB_get s hjl) ?_
          rw [show seq ⟨(mSec s j).1.toArray⟩ (bS (mSec s j)) = true from seq_refl _]
          exact hJ _ _ ⟨rfl, hkd⟩
        · rintro _ w10 ⟨rfl, hk10⟩
          have hk810 : Keeps [] w8 w10 := hk9.trans hk10 (by simp)
          exact ⟨12 - (j + 1), by omega, j + 1, r', by rw [w64_in (by omega) (by omega)]; rfl, rfl, by omega, hs8.keeps hk810 (by simp), hb8, hk8.trans hk810 (by simp)⟩
    · rw [decide_eq_false (by omega)]
      obtain rfl : j = 12 := by omega
      simp only [Br]
      rw [wJ_twelve hI.up] at hs7 hrl
      refine Cl.mono (Waits_ok (hI.dk.keeps0 hk7)) ?_
      rintro ⟨r61, _⟩ w8 ⟨hs8, hk8, hb8⟩
      simp only at hs8
      have hl8 := cI_slen hs8
      have hwI : (wI s).length ≤ 12 := by rw [← wJ_twelve hI.up]; exact hwl
      rw [hl8, hrl, show (((wI s).length : Int) != ((wI s).length : Int)) = false from by simp]
      simp only [Br]
      have hs78 := hs7.keeps hk8 (by simp)
      refine ⟨fun m st w' => ∃ (k : Nat), st = (false, (k : Int), ()) ∧ m = (wI s).length - k ∧ k ≤ (wI s).length ∧ Keeps [] w8 w', ⟨_, 0, rfl, rfl, by omega, Keeps.refl _ _⟩, ?_⟩
      rintro _ _ w9 ⟨k, rfl, rfl, hk, hk9⟩
      dsimp only
      by_cases hkl : k < (wI s).length
      · rw [decide_eq_true (by omega)]
        obtain ⟨z, hz⟩ := get_of_lt hkl
        have hkd : Keeps [] w8 w9.drew := hk9.trans ((Keeps.refl [] w9).drew) (by simp)
        simp only [Br, Dr]
        refine Ix_ci (w := w9.drew) (x := z) (hs8.keeps hkd (by simp)) hz ?_
        refine Ix_ci (w := w9.drew) (x := z) (hs78.keeps hkd (by simp)) hz ?_
        rw [show (z != z) = false from by simp]
        exact ⟨(wI s).length - (k + 1), by omega, k + 1, by rw [w64_in (by omega) (by omega)]; rfl, rfl, by omega, hkd⟩
      · rw [decide_eq_false (by omega)]
        exact hR _ _ ⟨rfl, (((hI.kp.trans hk7 (by simp)).trans hk8 (by simp)).trans hk9 (by simp))⟩

end Go.Proofs.Ythfgdoiaebfcdaa
