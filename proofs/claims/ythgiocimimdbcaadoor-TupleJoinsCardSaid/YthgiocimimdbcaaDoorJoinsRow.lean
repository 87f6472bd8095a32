/- The law TupleJoins: the row. Its conditions: none. -/
import Derived.Test.YthgiocimimdbcaaDoorRows
import Derived.Test.YthgiocimimdbcaaDoorMore
import Derived.Test.YthgiocimimdbcaaDoorSxX
import Derived.Lay
import Derived.LaidLaws
import Derived.MakeChecks
import Derived.ChangeMaps5
import Derived.SevenTiedAt
import Derived.Test.YthgiocimimdbcaaDoorCards
import Derived.Test.YthgiocimimdbcaaDoorTie
set_option linter.unusedVariables false
set_option linter.unusedSimpArgs false
namespace Go.Proofs.YthgiocimimdbcaaDoor.tupleJoins
open Go Go.Sx Go.ChangeShapes Go.WideShapes Go.ChangeAt Go.RowKit Go.ChangeMaps

theorem own : ownKnob Tryd.prog.godebug = none := by kernel_rfl
theorem laidOut : laidOutB Tryd.prog = true := by kernel_rfl

set_option maxRecDepth 100000 in
theorem lifted (os : Os) (started : os.Started) (H : Type) (enc : TypeId × Value → H) :
    ReturnsInHanded {} Tryd.checked os 7 .any (fun w args => (Rows.tupleJoinsSpec.pre enc Tryd.prog Tryd.f7 [] false w args ∧ laidMetH Tryd.prog Rows.tupleJoinsRow.laid w) ∧ sizedMet enc Tryd.prog Tryd.f7 (OpenSpec.ofChange Rows.tupleJoinsSpec) false w args) (Rows.tupleJoinsSpec.post enc Tryd.prog Tryd.f7 false true false false) := by
  refine returns_laid (C := Tryd.checked) (X := fun w _ => laidMetH Tryd.prog Rows.tupleJoinsRow.laid w) own started (by kernel_rfl) Tryd.func7
    (ChangeSpec.witness_shaped (enc := enc) (C := Tryd.checked) (os := os) (X := fun w _ => laidMetH Tryd.prog Rows.tupleJoinsRow.laid w) false (World.laidAll Tryd.prog os Rows.tupleJoinsRow.laid) #[.slice none 0 0, .slice none 0 0] 8 (World.laidAll_os _ _ _)
      (World.shaped_of_ZipB (by kernel_rfl) (by kernel_rfl)) (by kernel_rfl) (by kernel_rfl) (by kernel_rfl)
      (by rw [MakeChecks.laidMetH_plain _ _ _ (by kernel_rfl)]; exact laidMet_laidAll _ (by kernel_rfl) (by kernel_rfl))) ?_
  intro W base args ds gs before hval0 hW hsz0 hsh
  have hsz : (DataW.weightsEach Tryd.prog (Tryd.f7.params.toList ++ Rows.tupleJoinsSpec.plain.varTypes Tryd.prog) (ds ++ gs)).all (· ≤ reachBytes) = true := hsz0
  have hval : ∀ (j : Nat) t v, Tryd.f7.params[j]? = some t → args[j]? = some v → Value.okWide Tryd.prog W .any base t v := hval0
  have hW0 : DataW.Whole enc Tryd.prog Tryd.f7.params.toList Rows.tupleJoinsSpec.vars false W args.toList ds gs before := hW
  have hW' := hW0
  obtain ⟨p, q, hA0, hV, rfl, hfz, hnd⟩ := hW0
  have hA : DataW.TrodAll enc Tryd.prog W 0 (fun _ => true) true Tryd.f7.params.toList args.toList ds p := hA0
  rw [Tryd.params7] at hA hval
  obtain ⟨v0, vs0, d0, ds0, p0, q0, hargs0, rfl, rfl, h0, r0⟩ := trodAll_cons hA
  obtain ⟨v1, vs1, d1, ds1, p1, q1, hargs1, rfl, rfl, h1, r1⟩ := trodAll_cons r0
  obtain ⟨rfl, rfl, rfl⟩ := trodAll_nil r1
  obtain rfl : args = #[v0, v1] := by cases args; simp_all
  obtain ⟨rfl, rfl⟩ := trodVars_none hV
  have hz0 : ∀ m ∈ d0.weights Tryd.prog 23, m ≤ reachBytes := fun m hm => by
    have := List.all_eq_true.1 hsz m (DataW.weights_mem_each (j := 0) (t := 23) (d := d0) (by rw [Tryd.params7]; rfl) rfl m hm)
    simpa using this
  obtain ⟨a0, ss0, rfl, hs0, hx0, hm0, hb0⟩ := open_textsZ (e := 9) Tryd.underlying23 Tryd.underlying9 (by kernel_rfl) (hval 0 23 v0 rfl rfl) h0 hz0
  have hz1 : ∀ m ∈ d1.weights Tryd.prog 23, m ≤ reachBytes := fun m hm => by
    have := List.all_eq_true.1 hsz m (DataW.weights_mem_each (j := 1) (t := 23) (d := d1) (by rw [Tryd.params7]; rfl) rfl m hm)
    simpa using this
  obtain ⟨a1, ss1, rfl, hs1, hx1, hm1, hb1⟩ := open_textsZ (e := 9) Tryd.underlying23 Tryd.underlying9 (by kernel_rfl) (hval 1 23 v1 rfl rfl) h1 hz1
  obtain ⟨mm, hgm⟩ := GM.shaped hsh
  exact law_calls (tb := 4) (args := [.slice a0.p a0.len a0.cap, .slice a1.p a1.len a1.cap]) hW' rfl rfl (by kernel_rfl) Tryd.underlying4 laidOut (by kernel_rfl) (TupleJoins_ok hgm (Tx.arg hs0) (Tx.arg hs1) hm0 hm1 (Sz.arg hx0))

theorem proved : Rows.TupleJoinsSaid :=
  OpenClaim.holds_of_wide 7 Tryd.f7 rfl rfl rfl rfl rfl rfl rfl ⟨rfl, rfl, rfl, rfl, rfl⟩ rfl rfl rfl rfl rfl (by kernel_rfl) Tryd.func7 (by kernel_rfl)
    (of_decide_eq_true (by kernel_rfl)) (by unfold Func.isWrapper; first | (rw [if_pos (by decide +kernel)]; kernel_rfl) | (rw [if_neg (by decide +kernel)]; exact ⟨rfl, rfl⟩))
    (fun os started H enc _ => lifted os started H enc)

theorem carded : Rows.TupleJoinsCardSaid :=
  Claim7.holds_tied_plain_at .later [] [.data, .pinned] true (true, "8a29c5cdac7af26ef33d531925f061a3a98a514264c2eae64709d758e19b0513") false
    proved (fun _ h => by cases h) (by kernel_rfl) (fun _ h => by cases h) tupleJoins_row_tie rfl ⟨rfl, rfl⟩ (by kernel_rfl) rfl
    (fun f fn hf hfn => by
      obtain rfl : f = 7 := Option.some.inj ((show Tryd.prog.funcNamed Rows.tupleJoinsRow.func = some 7 by kernel_rfl).symm.trans hf) |>.symm
      obtain rfl : fn = Tryd.f7 := (Option.some.inj (Tryd.func7.symm.trans hfn)).symm
      refine ⟨by kernel_rfl, fun j t ht => ?_⟩
      rw [Tryd.params7] at ht
      rcases j with _ | _ | j
      · obtain rfl : 23 = t := by simpa using ht
        exact (show Tryd.prog.wantsStandIn 23 = false by kernel_rfl)
      · obtain rfl : 23 = t := by simpa using ht
        exact (show Tryd.prog.wantsStandIn 23 = false by kernel_rfl)
      · simp at ht)
    (by kernel_rfl)

end Go.Proofs.YthgiocimimdbcaaDoor.tupleJoins
