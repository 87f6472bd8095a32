/- The law: the row. Its conditions: none. -/
import Derived.Test.YthkdehgfdllpoaaGreatPk8
import Derived.Test.YthkdehgfdllpoaaGreatRows
set_option linter.unusedVariables false
set_option linter.unusedSimpArgs false
namespace Go.Proofs.YthkdehgfdllpoaaGreat.partShips
open Go Go.Sx Go.ChangeShapes Go.WideShapes Go.ChangeAt Go.RowKit
theorem own : ownKnob Tryz.prog.godebug = none := by kernel_rfl
theorem laidOut : laidOutB Tryz.prog = true := by kernel_rfl
set_option maxRecDepth 100000 in
theorem lifted (os : Os) (started : os.Started) (H : Type) (enc : TypeId × Value → H) :
    ReturnsInHanded {} Tryz.checked os 7 .any (Rows.partShipsSpec.pre6 enc Tryz.prog Tryz.f7 Rows.partShipsRow.domain false) (Rows.partShipsSpec.post enc Tryz.prog Tryz.f7 false true false false) := by
  refine returnsInHanded_of_change_sized (C := Tryz.checked) own started (by kernel_rfl) Tryz.func7
    (ChangeSpec.witness6 (enc := enc) (C := Tryz.checked) false ⟨#[], #[.slice none 0 0, .slice none 0 0, .slice none 0 0], []⟩ 8 (by kernel_rfl) (by kernel_rfl) (by kernel_rfl) (by kernel_rfl)) ?_
  intro W base args ds gs before hval0 hW hcnd hsz0 _
  have hsz : (DataW.weightsEach Tryz.prog (Tryz.f7.params.toList ++ Rows.partShipsSpec.plain.varTypes Tryz.prog) (ds ++ gs)).all (· ≤ reachBytes) = true := hsz0
  have hval : ∀ (j : Nat) t v, Tryz.f7.params[j]? = some t → args[j]? = some v → Value.okWide Tryz.prog W .any base t v := hval0
  have hW0 : DataW.Whole enc Tryz.prog Tryz.f7.params.toList Rows.partShipsSpec.vars false W args.toList ds gs before := hW
  have hW' := hW0
  obtain ⟨p, q, hA0, hV, rfl, hfz, hnd⟩ := hW0
  have hA : DataW.TrodAll enc Tryz.prog W 0 (fun _ => true) true Tryz.f7.params.toList args.toList ds p := hA0
  rw [Tryz.params7] at hA hval
  obtain ⟨v0, vs0, d0, ds0, p0, q0, hargs0, rfl, rfl, h0, t0⟩ := trodAll_cons hA
  obtain ⟨v1, vs1, d1, ds1, p1, q1, hargs1, rfl, rfl, h1, t1⟩ := trodAll_cons t0
  obtain ⟨v2, vs2, d2, ds2, p2, q2, hargs2, rfl, rfl, h2, t2⟩ := trodAll_cons t1
  obtain ⟨rfl, rfl, rfl⟩ := trodAll_nil t2
  obtain rfl : args = #[v0, v1, v2] := by cases args; simp_all
  obtain ⟨rfl, rfl⟩ := trodVars_none hV
  have hz0 : ∀ m ∈ d0.weights Tryz.prog 25, m ≤ reachBytes := fun m hm => by
    have := List.all_eq_true.1 hsz m (DataW.weights_mem_each (j := 0) (t := 25) (d := d0) (by rw [Tryz.params7]; rfl) rfl m hm)
    simpa using this
  obtain ⟨a0, l0, rfl, r0, z0, q0⟩ := Zh (Tz.of_slice Tryz.underlying25 (hval 0 25 v0 rfl rfl) h0 hz0)
  have hz1 : ∀ m ∈ d1.weights Tryz.prog 68, m ≤ reachBytes := fun m hm => by
    have := List.all_eq_true.1 hsz m (DataW.weights_mem_each (j := 1) (t := 68) (d := d1) (by rw [Tryz.params7]; rfl) rfl m hm)
    simpa using this
  obtain ⟨a1, l1, rfl, r1, z1, q1⟩ := AkB (Tz.of_slice Tryz.underlying68 (hval 1 68 v1 rfl rfl) h1 hz1)
  have hz2 : ∀ m ∈ d2.weights Tryz.prog 63, m ≤ reachBytes := fun m hm => by
    have := List.all_eq_true.1 hsz m (DataW.weights_mem_each (j := 2) (t := 63) (d := d2) (by rw [Tryz.params7]; rfl) rfl m hm)
    simpa using this
  obtain ⟨a2, l2, rfl, r2, z2, q2⟩ := Akl (Tz.of_slice Tryz.underlying63 (hval 2 63 v2 rfl rfl) h2 hz2)
  exact Ac7 (tb := 4) (args := [.slice a0.p a0.len a0.cap, .slice a1.p a1.len a1.cap, .slice a2.p a2.len a2.cap]) hW' rfl rfl (by kernel_rfl) Tryz.underlying4 laidOut (by kernel_rfl) (AgI r0 r1 q1 r2 (by have h1 := r0.len; rw [show Pg.bytesOf 111 = 32 from by kernel_rfl] at z0; omega) (fun _ k => ⟨rfl, k⟩))
theorem fact0 : (Rows.partShipsRow.wf (OpenSpec.ofChange Rows.partShipsSpec)) = true := by kernel_rfl
theorem fact1 : (laidOutB Tryz.prog) = true := by kernel_rfl
theorem fact2 : (mapsRowed Tryz.prog) = true := by kernel_rfl
theorem fact3 : (Tryz.f7.params.all (Tryz.prog.readableRec ·)) = true := by kernel_rfl
theorem fact4 : (namedTie Tryz.prog Rows.partShipsRow.named Rows.partShipsSpec.vars) = true := by kernel_rfl
theorem fact5 : ((Rows.partShipsRow.stops == [])) = true := by kernel_rfl
theorem fact6 : ((Tryz.prog.stops == [])) = true := by kernel_rfl
theorem fact7 : ((Rows.partShipsRow.knobs == [])) = true := by kernel_rfl
theorem fact8 : ((Tryz.prog.stopKnobs == [])) = true := by kernel_rfl
theorem fact9 : ((Rows.partShipsRow.inPlace == Tryz.prog.inPlace 7)) = true := by kernel_rfl
theorem fact10 : ((Rows.partShipsRow.unfollowed == Tryz.prog.unfollowed 7)) = true := by kernel_rfl
theorem fact11 : ((Rows.partShipsRow.recurses == Tryz.prog.recurses 7)) = true := by kernel_rfl
theorem fact12 : ((Rows.partShipsRow.named == Tryz.prog.varsNamed 7)) = true := by kernel_rfl
theorem fact13 : ((Rows.partShipsRow.maps == (Tryz.f7.params.toList ++ Rows.partShipsSpec.plain.varTypes Tryz.prog).any (Tryz.prog.mapsRec ·))) = true := by kernel_rfl
theorem fact14 : ((Rows.partShipsRow.ifaces == (Tryz.f7.params.toList ++ Rows.partShipsSpec.plain.varTypes Tryz.prog).any (Tryz.prog.ifacesRec ·))) = true := by kernel_rfl
theorem fact15 : ((Rows.partShipsRow.mapsOut == Tryz.prog.mapsAmong Tryz.f7.resultTypes.toList)) = true := by kernel_rfl
theorem fact16 : ((Rows.partShipsRow.loops == (Tryz.f7.params.toList ++ Rows.partShipsSpec.plain.varTypes Tryz.prog).any (Tryz.prog.loopsFrom ·))) = true := by kernel_rfl
theorem fact17 : ((Rows.partShipsRow.wideKeys == (Tryz.f7.params.toList ++ Rows.partShipsSpec.plain.varTypes Tryz.prog ++ Tryz.f7.resultTypes.toList).any (Tryz.prog.wideKeysFrom ·))) = true := by kernel_rfl
theorem fact18 : (Rows.partShipsSpec.vars.all (Tryz.prog.varReadable ·)) = true := by kernel_rfl
theorem fact19 : (Tryz.f7.resultTypes.all (fun t => Tryz.prog.readableRec t && decide (t < Tryz.prog.types.size))) = true := by kernel_rfl
theorem fact20 : ((Rows.partShipsRow.ifacesOut == Tryz.f7.resultTypes.toList.any (Tryz.prog.ifacesRec ·))) = true := by kernel_rfl
theorem fact21 : ((Rows.partShipsRow.loopsOut == Tryz.f7.resultTypes.toList.any (Tryz.prog.loopsFrom ·))) = true := by kernel_rfl
theorem fact22 : ((Rows.partShipsRow.plainKeys == Tryz.prog.plainKeys)) = true := by kernel_rfl
theorem fact23 : (Rows.partShipsRow.shortTexts.isNone) = true := by kernel_rfl
theorem fact24 : (Tryz.prog.stopsHeard) = true := by kernel_rfl
theorem fact25 : (Tryz.prog.mayEnter) = true := by kernel_rfl
theorem fact26 : ((Rows.partShipsRow.lifted == Tryz.prog.liftsFinal)) = true := by kernel_rfl
theorem fact27 : ((Tryz.prog.make == some Rows.partShipsRow.make)) = true := by kernel_rfl
theorem fact29 : ((Rows.partShipsRow.pinned == Rows.partShipsRow.pinnedBy)) = true := by kernel_rfl
theorem fact30 : ((Rows.partShipsRow.veiled == (Tryz.f7.params.toList ++ Rows.partShipsSpec.plain.varTypes Tryz.prog ++ Tryz.f7.resultTypes.toList).any (Tryz.prog.veiledRec ·))) = true := by kernel_rfl
theorem fact31 : (Rows.partShipsRow.veiledFits Tryz.prog Tryz.f7.params.toList (Tryz.f7.params.toList ++ Rows.partShipsSpec.plain.varTypes Tryz.prog ++ Tryz.f7.resultTypes.toList)) = true := by kernel_rfl
theorem both {a b : Bool} (h : a = true) (k : b = true) : (a && b) = true := by rw [h, k]; rfl
theorem closed : joinedFacts Tryz.prog 7 Tryz.f7 Rows.partShipsSpec Rows.partShipsRow = true := by
  unfold joinedFacts
  refine (both (both (both (both (both (both (both (both (both (both (both (both (both (both (both (both (both (both (both (both (both (both (both (both (both (both (both (both (both (both (both fact0 fact1) fact2) fact3) fact4) fact5) fact6) fact7) fact8) fact9) fact10) fact11) fact12) fact13) fact14) fact15) fact16) fact17) fact18) fact19) fact20) fact21) fact22) fact23) fact24) fact25) fact26) fact27) ?_) fact29) fact30) fact31)
  kernel_rfl
theorem named : Tryz.prog.funcNamed Rows.partShipsRow.func = some 7 := by kernel_rfl
theorem inst : Tryz.f7.isInstance Tryz.prog Rows.partShipsRow.origin Rows.partShipsRow.targs := of_decide_eq_true (by kernel_rfl)
theorem wrap : Tryz.f7.isWrapper Tryz.prog Rows.partShipsRow.wrapper Rows.partShipsRow.mainSum := by unfold Func.isWrapper; first | (rw [if_pos (by decide +kernel)]; kernel_rfl) | (rw [if_neg (by decide +kernel)]; exact ⟨rfl, rfl⟩)
theorem proved : Rows.PartShipsSaid :=
  OpenClaim.holds_of_wide 7 Tryz.f7 rfl rfl rfl rfl rfl rfl rfl ⟨rfl, rfl, rfl, rfl, rfl⟩ rfl rfl rfl rfl rfl named Tryz.func7 closed inst wrap
    (fun os started H enc _ => lifted os started H enc)
end Go.Proofs.YthkdehgfdllpoaaGreat.partShips
