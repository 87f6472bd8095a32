/- The law TupleCompare: the row. Its conditions: none. -/
import Derived.Test.YthgiocimimdbcaaDoorRows
import Derived.Test.YthgiocimimdbcaaDoorMore
import Derived.Test.YthgiocimimdbcaaDoorSxX
import Derived.Lay
import Derived.LaidLaws
import Derived.MakeChecks
import Derived.ChangeMaps5
import Derived.SevenTiedAt
import Derived.Test.YthgiocimimdbcaaDoorCards
import Derived.Test.YthgiocimimdbcaaDoorTie
set_option linter.unusedVariables false
set_option linter.unusedSimpArgs false
namespace Go.Proofs.YthgiocimimdbcaaDoor.tupleCompare
open Go Go.Sx Go.ChangeShapes Go.WideShapes Go.ChangeAt Go.RowKit Go.ChangeMaps

theorem own : ownKnob Tryd.prog.godebug = none := by kernel_rfl
theorem laidOut : laidOutB Tryd.prog = true := by kernel_rfl

set_option maxRecDepth 100000 in
theorem lifted (os : Os) (started : os.Started) (H : Type) (enc : TypeId × Value → H) :
    ReturnsInHanded {} Tryd.checked os 5 .any (fun w args => (Rows.tupleCompareSpec.pre enc Tryd.prog Tryd.f5 [] false w args ∧ laidMetH Tryd.prog Rows.tupleCompareRow.laid w) ∧ sizedMet enc Tryd.prog Tryd.f5 (OpenSpec.ofChange Rows.tupleCompareSpec) false w args) (Rows.tupleCompareSpec.post enc Tryd.prog Tryd.f5 false true false false) := by
  refine returns_laid (C := Tryd.checked) (X := fun w _ => laidMetH Tryd.prog Rows.tupleCompareRow.laid w) own started (by kernel_rfl) Tryd.func5
    (ChangeSpec.witness_shaped (enc := enc) (C := Tryd.checked) (os := os) (X := fun w _ => laidMetH Tryd.prog Rows.tupleCompareRow.laid w) false (World.laidAll Tryd.prog os Rows.tupleCompareRow.laid) #[.slice none 0 0, .slice none 0 0, .slice none 0 0] 8 (World.laidAll_os _ _ _)
      (World.shaped_of_ZipB (by kernel_rfl) (by kernel_rfl)) (by kernel_rfl) (by kernel_rfl) (by kernel_rfl)
      (by rw [MakeChecks.laidMetH_plain _ _ _ (by kernel_rfl)]; exact laidMet_laidAll _ (by kernel_rfl) (by kernel_rfl))) ?_
  intro W base args ds gs before hval0 hW hsz0 hsh
  have hsz : (DataW.weightsEach Tryd.prog (Tryd.f5.params.toList ++ Rows.tupleCompareSpec.plain.varTypes Tryd.prog) (ds ++ gs)).all (· ≤ reachBytes) = true := hsz0
  have hval : ∀ (j : Nat) t v, Tryd.f5.params[j]? = some t → args[j]? = some v → Value.okWide Tryd.prog W .any base t v := hval0
  have hW0 : DataW.Whole enc Tryd.prog Tryd.f5.params.toList Rows.tupleCompareSpec.vars false W args.toList ds gs before := hW
  have hW' := hW0
  obtain ⟨p, q, hA0, hV, rfl, hfz, hnd⟩ := hW0
  have hA : DataW.TrodAll enc Tryd.prog W 0 (fun _ => true) true Tryd.f5.params.toList args.toList ds p := hA0
  rw [Tryd.params5] at hA hval
  obtain ⟨v0, vs0, d0, ds0, p0, q0, hargs0, rfl, rfl, h0, r0⟩ := trodAll_cons hA
  obtain ⟨v1, vs1, d1, ds1, p1, q1, hargs1, rfl, rfl, h1, r1⟩ := trodAll_cons r0
  obtain ⟨v2, vs2, d2, ds2, p2, q2, hargs2, rfl, rfl, h2, r2⟩ := trodAll_cons r1
  obtain ⟨rfl, rfl, rfl⟩ := trodAll_nil r2
  obtain rfl : args = #[v0, v1, v2] := by cases args; simp_all
  obtain ⟨rfl, rfl⟩ := trodVars_none hV
  have hz0 : ∀ m ∈ d0.weights Tryd.prog 23, m ≤ reachBytes := fun m hm => by
    have := List.all_eq_true.1 hsz m (DataW.weights_mem_each (j := 0) (t := 23) (d := d0) (by rw [Tryd.params5]; rfl) rfl m hm)
    simpa using this
  obtain ⟨a0, ss0, rfl, hs0, hx0, hm0, hb0⟩ := open_textsZ (e := 9) Tryd.underlying23 Tryd.underlying9 (by kernel_rfl) (hval 0 23 v0 rfl rfl) h0 hz0
  have hz1 : ∀ m ∈ d1.weights Tryd.prog 23, m ≤ reachBytes := fun m hm => by
    have := List.all_eq_true.1 hsz m (DataW.weights_mem_each (j := 1) (t := 23) (d := d1) (by rw [Tryd.params5]; rfl) rfl m hm)
    simpa using this
  obtain ⟨a1, ss1, rfl, hs1, hx1, hm1, hb1⟩ := open_textsZ (e := 9) Tryd.underlying23 Tryd.underlying9 (by kernel_rfl) (hval 1 23 v1 rfl rfl) h1 hz1
  have hz2 : ∀ m ∈ d2.weights Tryd.prog 23, m ≤ reachBytes := fun m hm => by
    have := List.all_eq_true.1 hsz m (DataW.weights_mem_each (j := 2) (t := 23) (d := d2) (by rw [Tryd.params5]; rfl) rfl m hm)
    simpa using this
  obtain ⟨a2, ss2, rfl, hs2, hx2, hm2, hb2⟩ := open_textsZ (e := 9) Tryd.underlying23 Tryd.underlying9 (by kernel_rfl) (hval 2 23 v2 rfl rfl) h2 hz2
  obtain ⟨mm, hgm⟩ := GM.shaped hsh
  exact law_calls (tb := 4) (args := [.slice a0.p a0.len a0.cap, .slice a1.p a1.len a1.cap, .slice a2.p a2.len a2.cap]) hW' rfl rfl (by kernel_rfl) Tryd.underlying4 laidOut (by kernel_rfl) (TupleCompare_ok hgm (Tx.arg hs0) (Tx.arg hs1) (Tx.arg hs2) hm0 hm1 hm2)

theorem proved : Rows.TupleCompareSaid :=
  OpenClaim.holds_of_wide 5 Tryd.f5 rfl rfl rfl rfl rfl rfl rfl ⟨rfl, rfl, rfl, rfl, rfl⟩ rfl rfl rfl rfl rfl (by kernel_rfl) Tryd.func5 (by kernel_rfl)
    (of_decide_eq_true (by kernel_rfl)) (by unfold Func.isWrapper; first | (rw [if_pos (by decide +kernel)]; kernel_rfl) | (rw [if_neg (by decide +kernel)]; exact ⟨rfl, rfl⟩))
    (fun os started H enc _ => lifted os started H enc)

theorem carded : Rows.TupleCompareCardSaid :=
  Claim7.holds_tied_plain_at .later [] [.data, .pinned] true (true, "8a29c5cdac7af26ef33d531925f061a3a98a514264c2eae64709d758e19b0513") false
    proved (fun _ h => by cases h) (by kernel_rfl) (fun _ h => by cases h) tupleCompare_row_tie rfl ⟨rfl, rfl⟩ (by kernel_rfl) rfl
    (fun f fn hf hfn => by
      obtain rfl : f = 5 := Option.some.inj ((show Tryd.prog.funcNamed Rows.tupleCompareRow.func = some 5 by kernel_rfl).symm.trans hf) |>.symm
      obtain rfl : fn = Tryd.f5 := (Option.some.inj (Tryd.func5.symm.trans hfn)).symm
      refine ⟨by kernel_rfl, fun j t ht => ?_⟩
      rw [Tryd.params5] at ht
      rcases j with _ | _ | _ | j
      · obtain rfl : 23 = t := by simpa using ht
        exact (show Tryd.prog.wantsStandIn 23 = false by kernel_rfl)
      · obtain rfl : 23 = t := by simpa using ht
        exact (show Tryd.prog.wantsStandIn 23 = false by kernel_rfl)
      · obtain rfl : 23 = t := by simpa using ht
        exact (show Tryd.prog.wantsStandIn 23 = false by kernel_rfl)
      · simp at ht)
    (by kernel_rfl)

end Go.Proofs.YthgiocimimdbcaaDoor.tupleCompare
