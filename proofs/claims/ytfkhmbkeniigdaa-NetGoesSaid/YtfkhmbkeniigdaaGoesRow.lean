/- The law NetGoes: the row. -/
import Derived.Test.YtfkhmbkeniigdaaRows
import Derived.Test.YtfkhmbkeniigdaaGoes
import Derived.Test.YtfkhmbkeniigdaaSxS
set_option linter.unusedVariables false
namespace Go.Proofs.Ytfkhmbkeniigdaa.goes
open Go Go.Sx Go.ChangeShapes Go.WideShapes Go.ChangeAt Go.RowKit

theorem own : ownKnob Try.prog.godebug = none := by kernel_rfl
theorem laidOut : laidOutB Try.prog = true := by kernel_rfl

set_option maxRecDepth 100000 in
theorem lifted (os : Os) (started : os.Started) (H : Type) (enc : TypeId × Value → H) :
    ReturnsInHanded {} Try.checked os 4 .any (Rows.netGoesSpec.pre6 enc Try.prog Try.f4 Rows.netGoesRow.domain false) (Rows.netGoesSpec.post enc Try.prog Try.f4 false true false false) := by
  refine returnsInHanded_of_change (C := Try.checked) own started (by kernel_rfl) Try.func4
    (ChangeSpec.witness6 (enc := enc) (C := Try.checked) false ⟨#[], #[.slice none 0 0], []⟩ 8 (by kernel_rfl) (by kernel_rfl) (by kernel_rfl) (by kernel_rfl)) ?_
  intro W base args ds gs before hval0 hW hcnd _
  have hval : ∀ (j : Nat) t v, Try.f4.params[j]? = some t → args[j]? = some v → Value.okWide Try.prog W .any base t v := hval0
  have hW0 : DataW.Whole enc Try.prog Try.f4.params.toList Rows.netGoesSpec.vars false W args.toList ds gs before := hW
  have hW' := hW0
  obtain ⟨p, q, hA0, hV, rfl, hfz, hnd⟩ := hW0
  have hA : DataW.TrodAll enc Try.prog W 0 (fun _ => true) true Try.f4.params.toList args.toList ds p := hA0
  rw [Try.params4] at hA hval
  obtain ⟨v0, vs0, d0, ds0, p0, q0, hargs, rfl, rfl, h0, r0⟩ := trodAll_cons hA
  obtain ⟨rfl, rfl, rfl⟩ := trodAll_nil r0
  obtain rfl : args = #[v0] := by cases args; simp_all
  obtain ⟨rfl, rfl⟩ := trodVars_none hV
  obtain ⟨s, rows, rfl, hlen, _, hrows, hs⟩ := open_rows (e := 41) Try.underlying35 Try.underlying41 (by kernel_rfl) (by kernel_rfl) (hval 0 35 v0 rfl rfl) h0
  obtain ⟨os', h1, h2⟩ := rows_of (enc := encO) (rows := rows) fun row hr => by
    obtain ⟨hl, hf⟩ := hrows row hr
    obtain ⟨c0, e0, k0⟩ := hf 0 _ rfl
    obtain ⟨c1, e1, k1⟩ := hf 1 _ rfl
    obtain ⟨c2, e2, k2⟩ := hf 2 _ rfl
    obtain ⟨c3, e3, k3⟩ := hf 3 _ rfl
    obtain ⟨c4, e4, k4⟩ := hf 4 _ rfl
    obtain ⟨c5, e5, k5⟩ := hf 5 _ rfl
    obtain ⟨n0, rfl, _⟩ := k0.int (k := .i64) Try.underlying3
    obtain ⟨n1, rfl, _⟩ := k1.int (k := .i64) Try.underlying3
    obtain ⟨n2, rfl, _⟩ := k2.int (k := .i64) Try.underlying3
    obtain ⟨n3, rfl, _⟩ := k3.int (k := .i64) Try.underlying3
    obtain ⟨n4, rfl, _⟩ := k4.string Try.underlying9
    obtain ⟨n5, rfl⟩ := k5.bool Try.underlying4
    refine ⟨⟨n0, n1, n2, n3, n4, n5⟩, ?_⟩
    have hl6 : row.length = 6 := hl
    match row, hl6 with
    | [a, b, c, d, e, f], _ =>
      simp at e0 e1 e2 e3 e4 e5
      subst e0 e1 e2 e3 e4 e5
      rfl
  rw [h1] at hs
  exact law_calls (tb := 4) (args := [.slice s.p s.len s.cap]) hW' rfl rfl (by kernel_rfl) Try.underlying4 laidOut (by kernel_rfl) (NetGoes_ok (os := os') hs)

theorem proved : Rows.NetGoesSaid :=
  OpenClaim.holds_of_wide 4 Try.f4 rfl rfl rfl rfl rfl rfl rfl ⟨rfl, rfl, rfl, rfl, rfl⟩ rfl rfl rfl rfl rfl (by kernel_rfl) Try.func4 (by kernel_rfl)
    (of_decide_eq_true (by kernel_rfl)) (by unfold Func.isWrapper; first | (rw [if_pos (by decide +kernel)]; kernel_rfl) | (rw [if_neg (by decide +kernel)]; exact ⟨rfl, rfl⟩))
    (fun os started H enc _ => lifted os started H enc)

end Go.Proofs.Ytfkhmbkeniigdaa.goes
