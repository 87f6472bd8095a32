/- The law LocksGoes: the row. Its conditions: none. -/
import Derived.Test.YtmppjgddemlmdaaRows
import Derived.Test.YtmppjgddemlmdaaGo
import Derived.Test.YtmppjgddemlmdaaSxX
import Derived.Test.YtmppjgddemlmdaaSxZ
set_option linter.unusedVariables false
set_option linter.unusedSimpArgs false
namespace Go.Proofs.Ytmppjgddemlmdaa.locksGoes
open Go Go.Sx Go.ChangeShapes Go.WideShapes Go.ChangeAt Go.RowKit

theorem own : ownKnob Try.prog.godebug = none := by kernel_rfl
theorem laidOut : laidOutB Try.prog = true := by kernel_rfl

set_option maxRecDepth 100000 in
theorem lifted (os : Os) (started : os.Started) (H : Type) (enc : TypeId × Value → H) :
    ReturnsInHanded {} Try.checked os 7 .any (Rows.locksGoesSpec.pre6 enc Try.prog Try.f7 Rows.locksGoesRow.domain false) (Rows.locksGoesSpec.post enc Try.prog Try.f7 false true false false) := by
  refine returnsInHanded_of_change_sized (C := Try.checked) own started (by kernel_rfl) Try.func7
    (ChangeSpec.witness6 (enc := enc) (C := Try.checked) false ⟨#[], #[.slice none 0 0], []⟩ 8 (by kernel_rfl) (by kernel_rfl) (by kernel_rfl) (by kernel_rfl)) ?_
  intro W base args ds gs before hval0 hW hcnd hsz0 _
  have hsz : (DataW.weightsEach Try.prog (Try.f7.params.toList ++ Rows.locksGoesSpec.plain.varTypes Try.prog) (ds ++ gs)).all (· ≤ reachBytes) = true := hsz0
  have hval : ∀ (j : Nat) t v, Try.f7.params[j]? = some t → args[j]? = some v → Value.okWide Try.prog W .any base t v := hval0
  have hW0 : DataW.Whole enc Try.prog Try.f7.params.toList Rows.locksGoesSpec.vars false W args.toList ds gs before := hW
  have hW' := hW0
  obtain ⟨p, q, hA0, hV, rfl, hfz, hnd⟩ := hW0
  have hA : DataW.TrodAll enc Try.prog W 0 (fun _ => true) true Try.f7.params.toList args.toList ds p := hA0
  rw [Try.params7] at hA hval
  obtain ⟨v0, vs0, d0, ds0, p0, q0, hargs0, rfl, rfl, h0, r0⟩ := trodAll_cons hA
  obtain ⟨rfl, rfl, rfl⟩ := trodAll_nil r0
  obtain rfl : args = #[v0] := by cases args; simp_all
  obtain ⟨rfl, rfl⟩ := trodVars_none hV
  have hz0 : ∀ m ∈ d0.weights Try.prog 22, m ≤ reachBytes := fun m hm => by
    have := List.all_eq_true.1 hsz m (DataW.weights_mem_each (j := 0) (t := 22) (d := d0) (by rw [Try.params7]; rfl) rfl m hm)
    simpa using this
  obtain ⟨a0, rows0, rfl, hlen0, hm0, hb0, hrows0, hs0⟩ := open_rowsN (e := 32) (L := [3,26,9,9,4,4]) (k := 6) Try.underlying22 (by kernel_rfl) (by kernel_rfl) (hval 0 22 v0 rfl rfl) h0 hz0
  obtain ⟨os0, g0, g0', gq0⟩ := rows_of' (enc := encO) (Q := OpQ) (rows := rows0) fun row hr => by
    obtain ⟨hl, hf⟩ := hrows0 row hr
    obtain ⟨c0, e0, k0⟩ := hf 0 _ rfl
    obtain ⟨c1, e1, k1⟩ := hf 1 _ rfl
    obtain ⟨c2, e2, k2⟩ := hf 2 _ rfl
    obtain ⟨c3, e3, k3⟩ := hf 3 _ rfl
    obtain ⟨c4, e4, k4⟩ := hf 4 _ rfl
    obtain ⟨c5, e5, k5⟩ := hf 5 _ rfl
    obtain ⟨n0, rfl, w0⟩ := k0.int (k := .i64) (by kernel_rfl)
    simp [Lit.wf, IntKind.min, IntKind.max, IntKind.signed, IntKind.bits] at w0
    obtain ⟨n1, rfl, w1⟩ := k1.int (k := .u64) (by kernel_rfl)
    simp [Lit.wf, IntKind.min, IntKind.max, IntKind.signed, IntKind.bits] at w1
    obtain ⟨n2, rfl, w2⟩ := k2.string (by kernel_rfl)
    obtain ⟨n3, rfl, w3⟩ := k3.string (by kernel_rfl)
    obtain ⟨n4, rfl⟩ := k4.bool (by kernel_rfl)
    obtain ⟨n5, rfl⟩ := k5.bool (by kernel_rfl)
    refine ⟨⟨n0, n1, n2, n3, n4, n5⟩, ?_, (by show 0 ≤ n1; omega)⟩
    have hl6 : row.length = 6 := hl
    match row, hl6 with
    | [x0, x1, x2, x3, x4, x5], _ =>
      simp at e0 e1 e2 e3 e4 e5
      subst e0 e1 e2 e3 e4 e5
      rfl
  rw [g0] at hs0
  exact law_calls (tb := 4) (args := [.slice a0.p a0.len a0.cap]) hW' rfl rfl (by kernel_rfl) Try.underlying4 laidOut (by kernel_rfl) (LocksGoes_ok hs0)

theorem proved : Rows.LocksGoesSaid :=
  OpenClaim.holds_of_wide 7 Try.f7 rfl rfl rfl rfl rfl rfl rfl ⟨rfl, rfl, rfl, rfl, rfl⟩ rfl rfl rfl rfl rfl (by kernel_rfl) Try.func7 (by kernel_rfl)
    (of_decide_eq_true (by kernel_rfl)) (by unfold Func.isWrapper; first | (rw [if_pos (by decide +kernel)]; kernel_rfl) | (rw [if_neg (by decide +kernel)]; exact ⟨rfl, rfl⟩))
    (fun os started H enc _ => lifted os started H enc)

end Go.Proofs.Ytmppjgddemlmdaa.locksGoes
