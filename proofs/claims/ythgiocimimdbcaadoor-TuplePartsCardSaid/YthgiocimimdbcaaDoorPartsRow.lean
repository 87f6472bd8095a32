/- The law TupleParts: the row. Its conditions: none. -/
import Derived.Test.YthgiocimimdbcaaDoorRows
import Derived.Test.YthgiocimimdbcaaDoorPl
import Derived.Test.YthgiocimimdbcaaDoorSxX
import Derived.Lay
import Derived.LaidLaws
import Derived.MakeChecks
import Derived.ChangeMaps5
import Derived.SevenTiedAt
import Derived.Test.YthgiocimimdbcaaDoorCards
import Derived.Test.YthgiocimimdbcaaDoorTie
set_option linter.unusedVariables false
set_option linter.unusedSimpArgs false
namespace Go.Proofs.YthgiocimimdbcaaDoor.tupleParts
open Go Go.Sx Go.ChangeShapes Go.WideShapes Go.ChangeAt Go.RowKit Go.ChangeMaps

theorem own : ownKnob Tryd.prog.godebug = none := by kernel_rfl
theorem laidOut : laidOutB Tryd.prog = true := by kernel_rfl

set_option maxRecDepth 100000 in
theorem lifted (os : Os) (started : os.Started) (H : Type) (enc : TypeId × Value → H) :
    ReturnsInHanded {} Tryd.checked os 3 .any (fun w args => (Rows.tuplePartsSpec.pre enc Tryd.prog Tryd.f3 [] false w args ∧ laidMetH Tryd.prog Rows.tuplePartsRow.laid w) ∧ sizedMet enc Tryd.prog Tryd.f3 (OpenSpec.ofChange Rows.tuplePartsSpec) false w args) (Rows.tuplePartsSpec.post enc Tryd.prog Tryd.f3 false true false false) := by
  refine returns_laid (C := Tryd.checked) (X := fun w _ => laidMetH Tryd.prog Rows.tuplePartsRow.laid w) own started (by kernel_rfl) Tryd.func3
    (ChangeSpec.witness_shaped (enc := enc) (C := Tryd.checked) (os := os) (X := fun w _ => laidMetH Tryd.prog Rows.tuplePartsRow.laid w) false (World.laidAll Tryd.prog os Rows.tuplePartsRow.laid) #[.string ⟨#[]⟩] 8 (World.laidAll_os _ _ _)
      (World.shaped_of_ZipB (by kernel_rfl) (by kernel_rfl)) (by kernel_rfl) (by kernel_rfl) (by kernel_rfl)
      (by rw [MakeChecks.laidMetH_plain _ _ _ (by kernel_rfl)]; exact laidMet_laidAll _ (by kernel_rfl) (by kernel_rfl))) ?_
  intro W base args ds gs before hval0 hW hsz0 hsh
  have hsz : (DataW.weightsEach Tryd.prog (Tryd.f3.params.toList ++ Rows.tuplePartsSpec.plain.varTypes Tryd.prog) (ds ++ gs)).all (· ≤ reachBytes) = true := hsz0
  have hval : ∀ (j : Nat) t v, Tryd.f3.params[j]? = some t → args[j]? = some v → Value.okWide Tryd.prog W .any base t v := hval0
  have hW0 : DataW.Whole enc Tryd.prog Tryd.f3.params.toList Rows.tuplePartsSpec.vars false W args.toList ds gs before := hW
  have hW' := hW0
  obtain ⟨p, q, hA0, hV, rfl, hfz, hnd⟩ := hW0
  have hA : DataW.TrodAll enc Tryd.prog W 0 (fun _ => true) true Tryd.f3.params.toList args.toList ds p := hA0
  rw [Tryd.params3] at hA hval
  obtain ⟨v0, vs0, d0, ds0, p0, q0, hargs0, rfl, rfl, h0, r0⟩ := trodAll_cons hA
  obtain ⟨rfl, rfl, rfl⟩ := trodAll_nil r0
  obtain rfl : args = #[v0] := by cases args; simp_all
  obtain ⟨rfl, rfl⟩ := trodVars_none hV
  have hz0 : ∀ m ∈ d0.weights Tryd.prog 9, m ≤ reachBytes := fun m hm => by
    have := List.all_eq_true.1 hsz m (DataW.weights_mem_each (j := 0) (t := 9) (d := d0) (by rw [Tryd.params3]; rfl) rfl m hm)
    simpa using this
  obtain ⟨a0, rfl, e0, _, wf0⟩ := open_string Tryd.underlying9 (hval 0 9 v0 rfl rfl) h0
  have b0 : a0.size ≤ 140737488355328 := by rw [e0] at hz0; exact sizedStr hz0
  obtain ⟨mm, hgm⟩ := GM.shaped hsh
  exact law_calls (tb := 4) (args := [.string a0]) hW' rfl rfl (by kernel_rfl) Tryd.underlying4 laidOut (by kernel_rfl) (parts_law hgm)

theorem proved : Rows.TuplePartsSaid :=
  OpenClaim.holds_of_wide 3 Tryd.f3 rfl rfl rfl rfl rfl rfl rfl ⟨rfl, rfl, rfl, rfl, rfl⟩ rfl rfl rfl rfl rfl (by kernel_rfl) Tryd.func3 (by kernel_rfl)
    (of_decide_eq_true (by kernel_rfl)) (by unfold Func.isWrapper; first | (rw [if_pos (by decide +kernel)]; kernel_rfl) | (rw [if_neg (by decide +kernel)]; exact ⟨rfl, rfl⟩))
    (fun os started H enc _ => lifted os started H enc)

theorem carded : Rows.TuplePartsCardSaid :=
  Claim7.holds_tied_plain_at .later [] [.data, .pinned] true (true, "8a29c5cdac7af26ef33d531925f061a3a98a514264c2eae64709d758e19b0513") false
    proved (fun _ h => by cases h) (by kernel_rfl) (fun _ h => by cases h) tupleParts_row_tie rfl ⟨rfl, rfl⟩ (by kernel_rfl) rfl
    (fun f fn hf hfn => by
      obtain rfl : f = 3 := Option.some.inj ((show Tryd.prog.funcNamed Rows.tuplePartsRow.func = some 3 by kernel_rfl).symm.trans hf) |>.symm
      obtain rfl : fn = Tryd.f3 := (Option.some.inj (Tryd.func3.symm.trans hfn)).symm
      refine ⟨by kernel_rfl, fun j t ht => ?_⟩
      rw [Tryd.params3] at ht
      rcases j with _ | j
      · obtain rfl : 9 = t := by simpa using ht
        exact (show Tryd.prog.wantsStandIn 9 = false by kernel_rfl)
      · simp at ht)
    (by kernel_rfl)

end Go.Proofs.YthgiocimimdbcaaDoor.tupleParts
