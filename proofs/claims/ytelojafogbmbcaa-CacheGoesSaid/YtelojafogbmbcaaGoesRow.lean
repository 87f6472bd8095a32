/- The law CacheGoes: the row. Its conditions: none. -/
import Derived.Test.YtelojafogbmbcaaRows
import Derived.Test.YtelojafogbmbcaaGm
import Derived.Test.YtelojafogbmbcaaSxX
set_option linter.unusedVariables false
set_option linter.unusedSimpArgs false
namespace Go.Proofs.Ytelojafogbmbcaa.cacheGoes
open Go Go.Sx Go.ChangeShapes Go.WideShapes Go.ChangeAt Go.RowKit

theorem own : ownKnob Try.prog.godebug = none := by kernel_rfl
theorem laidOut : laidOutB Try.prog = true := by kernel_rfl

set_option maxRecDepth 100000 in
theorem lifted (os : Os) (started : os.Started) (H : Type) (enc : TypeId × Value → H) :
    ReturnsInHanded {} Try.checked os 4 .any (Rows.cacheGoesSpec.pre6 enc Try.prog Try.f4 Rows.cacheGoesRow.domain false) (Rows.cacheGoesSpec.post enc Try.prog Try.f4 false true false false) := by
  refine returnsInHanded_of_change_sized (C := Try.checked) own started (by kernel_rfl) Try.func4
    (ChangeSpec.witness6 (enc := enc) (C := Try.checked) false ⟨#[], #[.int .i64 0, .int .i64 0, .slice none 0 0], []⟩ 8 (by kernel_rfl) (by kernel_rfl) (by kernel_rfl) (by kernel_rfl)) ?_
  intro W base args ds gs before hval0 hW hcnd hsz0 _
  have hsz : (DataW.weightsEach Try.prog (Try.f4.params.toList ++ Rows.cacheGoesSpec.plain.varTypes Try.prog) (ds ++ gs)).all (· ≤ reachBytes) = true := hsz0
  have hval : ∀ (j : Nat) t v, Try.f4.params[j]? = some t → args[j]? = some v → Value.okWide Try.prog W .any base t v := hval0
  have hW0 : DataW.Whole enc Try.prog Try.f4.params.toList Rows.cacheGoesSpec.vars false W args.toList ds gs before := hW
  have hW' := hW0
  obtain ⟨p, q, hA0, hV, rfl, hfz, hnd⟩ := hW0
  have hA : DataW.TrodAll enc Try.prog W 0 (fun _ => true) true Try.f4.params.toList args.toList ds p := hA0
  rw [Try.params4] at hA hval
  obtain ⟨v0, vs0, d0, ds0, p0, q0, hargs0, rfl, rfl, h0, r0⟩ := trodAll_cons hA
  obtain ⟨v1, vs1, d1, ds1, p1, q1, hargs1, rfl, rfl, h1, r1⟩ := trodAll_cons r0
  obtain ⟨v2, vs2, d2, ds2, p2, q2, hargs2, rfl, rfl, h2, r2⟩ := trodAll_cons r1
  obtain ⟨rfl, rfl, rfl⟩ := trodAll_nil r2
  obtain rfl : args = #[v0, v1, v2] := by cases args; simp_all
  obtain ⟨rfl, rfl⟩ := trodVars_none hV
  obtain ⟨a0, rfl, _, _, wf0⟩ := open_int Try.underlying3 (hval 0 3 v0 rfl rfl) h0
  obtain ⟨a1, rfl, _, _, wf1⟩ := open_int Try.underlying3 (hval 1 3 v1 rfl rfl) h1
  have hz2 : ∀ m ∈ d2.weights Try.prog 22, m ≤ reachBytes := fun m hm => by
    have := List.all_eq_true.1 hsz m (DataW.weights_mem_each (j := 2) (t := 22) (d := d2) (by rw [Try.params4]; rfl) rfl m hm)
    simpa using this
  obtain ⟨a2, rows2, rfl, hlen2, hm2, hb2, hrows2, hs2⟩ := open_rowsZ (e := 33) Try.underlying22 Try.underlying33 (by kernel_rfl) (by kernel_rfl) (hval 2 22 v2 rfl rfl) h2 hz2
  obtain ⟨os2, g2, g2', gq2⟩ := rows_of' (enc := encO) (Q := fun o => o.text.size ≤ 140737488355328 ∧ 0 ≤ o.lsn) (rows := rows2) fun row hr => by
    obtain ⟨hl, hf⟩ := hrows2 row hr
    obtain ⟨c0, e0, k0⟩ := hf 0 _ rfl
    obtain ⟨c1, e1, k1⟩ := hf 1 _ rfl
    obtain ⟨c2, e2, k2⟩ := hf 2 _ rfl
    obtain ⟨c3, e3, k3⟩ := hf 3 _ rfl
    obtain ⟨n0, rfl, w0⟩ := k0.int (k := .i64) (by kernel_rfl)
    simp [Lit.wf, IntKind.min, IntKind.max, IntKind.signed, IntKind.bits] at w0
    obtain ⟨n1, rfl, w1⟩ := k1.int (k := .i64) (by kernel_rfl)
    simp [Lit.wf, IntKind.min, IntKind.max, IntKind.signed, IntKind.bits] at w1
    obtain ⟨n2, rfl, w2⟩ := k2.string (by kernel_rfl)
    obtain ⟨n3, rfl, w3⟩ := k3.int (k := .u64) (by kernel_rfl)
    simp [Lit.wf, IntKind.min, IntKind.max, IntKind.signed, IntKind.bits] at w3
    refine ⟨⟨n0, n1, n2, n3⟩, ?_, ⟨w2, w3.1⟩⟩
    have hl6 : row.length = 4 := hl
    match row, hl6 with
    | [x0, x1, x2, x3], _ =>
      simp at e0 e1 e2 e3
      subst e0 e1 e2 e3
      rfl
  rw [g2] at hs2
  exact law_calls (tb := 4) (args := [.int .i64 a0, .int .i64 a1, .slice a2.p a2.len a2.cap]) hW' rfl rfl (by kernel_rfl) Try.underlying4 laidOut (by kernel_rfl) (CacheGoes_ok (by have := wf1; simp [Lit.wf, IntKind.min, IntKind.max, IntKind.signed, IntKind.bits] at this; omega) (by have := wf1; simp [Lit.wf, IntKind.min, IntKind.max, IntKind.signed, IntKind.bits] at this; omega) hs2 gq2)

theorem proved : Rows.CacheGoesSaid :=
  OpenClaim.holds_of_wide 4 Try.f4 rfl rfl rfl rfl rfl rfl rfl ⟨rfl, rfl, rfl, rfl, rfl⟩ rfl rfl rfl rfl rfl (by kernel_rfl) Try.func4 (by kernel_rfl)
    (of_decide_eq_true (by kernel_rfl)) (by unfold Func.isWrapper; first | (rw [if_pos (by decide +kernel)]; kernel_rfl) | (rw [if_neg (by decide +kernel)]; exact ⟨rfl, rfl⟩))
    (fun os started H enc _ => lifted os started H enc)

end Go.Proofs.Ytelojafogbmbcaa.cacheGoes
