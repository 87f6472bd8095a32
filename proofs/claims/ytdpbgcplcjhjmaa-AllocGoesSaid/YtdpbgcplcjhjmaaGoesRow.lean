/- The law AllocGoes: the row. Its conditions: none. -/
import Derived.Test.YtdpbgcplcjhjmaaRows
import Derived.Test.YtdpbgcplcjhjmaaGoes
import Derived.Test.YtdpbgcplcjhjmaaSxS
import Derived.Test.YtdpbgcplcjhjmaaSxV
set_option linter.unusedVariables false
set_option linter.unusedSimpArgs false
namespace Go.Proofs.Ytdpbgcplcjhjmaa.allocGoes
open Go Go.Sx Go.ChangeShapes Go.WideShapes Go.ChangeAt Go.RowKit

theorem own : ownKnob Try.prog.godebug = none := by kernel_rfl
theorem laidOut : laidOutB Try.prog = true := by kernel_rfl

set_option maxRecDepth 100000 in
theorem lifted (os : Os) (started : os.Started) (H : Type) (enc : TypeId × Value → H) :
    ReturnsInHanded {} Try.checked os 6 .any (Rows.allocGoesSpec.pre6 enc Try.prog Try.f6 Rows.allocGoesRow.domain false) (Rows.allocGoesSpec.post enc Try.prog Try.f6 false true false false) := by
  refine returnsInHanded_of_change_sized (C := Try.checked) own started (by kernel_rfl) Try.func6
    (ChangeSpec.witness6 (enc := enc) (C := Try.checked) false ⟨#[], #[.int .i64 0, .bool false, .slice none 0 0, .slice none 0 0], []⟩ 8 (by kernel_rfl) (by kernel_rfl) (by kernel_rfl) (by kernel_rfl)) ?_
  intro W base args ds gs before hval0 hW hcnd hsz0 _
  have hsz : (DataW.weightsEach Try.prog (Try.f6.params.toList ++ Rows.allocGoesSpec.plain.varTypes Try.prog) (ds ++ gs)).all (· ≤ reachBytes) = true := hsz0
  have hval : ∀ (j : Nat) t v, Try.f6.params[j]? = some t → args[j]? = some v → Value.okWide Try.prog W .any base t v := hval0
  have hW0 : DataW.Whole enc Try.prog Try.f6.params.toList Rows.allocGoesSpec.vars false W args.toList ds gs before := hW
  have hW' := hW0
  obtain ⟨p, q, hA0, hV, rfl, hfz, hnd⟩ := hW0
  have hA : DataW.TrodAll enc Try.prog W 0 (fun _ => true) true Try.f6.params.toList args.toList ds p := hA0
  rw [Try.params6] at hA hval
  obtain ⟨v0, vs0, d0, ds0, p0, q0, hargs0, rfl, rfl, h0, r0⟩ := trodAll_cons hA
  obtain ⟨v1, vs1, d1, ds1, p1, q1, hargs1, rfl, rfl, h1, r1⟩ := trodAll_cons r0
  obtain ⟨v2, vs2, d2, ds2, p2, q2, hargs2, rfl, rfl, h2, r2⟩ := trodAll_cons r1
  obtain ⟨v3, vs3, d3, ds3, p3, q3, hargs3, rfl, rfl, h3, r3⟩ := trodAll_cons r2
  obtain ⟨rfl, rfl, rfl⟩ := trodAll_nil r3
  obtain rfl : args = #[v0, v1, v2, v3] := by cases args; simp_all
  obtain ⟨rfl, rfl⟩ := trodVars_none hV
  obtain ⟨a0, rfl, _, _, wf0⟩ := open_int Try.underlying3 (hval 0 3 v0 rfl rfl) h0
  obtain ⟨a1, rfl, _, _⟩ := open_bool Try.underlying4 (hval 1 4 v1 rfl rfl) h1
  obtain ⟨a2, bs2, rfl, hs2, hm2, hlen2⟩ := open_bytes (e := 5) Try.underlying38 Try.underlying5 (by kernel_rfl) (hval 2 38 v2 rfl rfl) h2
  obtain ⟨a3, rows3, rfl, hlen3, hm3, hrows3, hs3⟩ := open_rows (e := 29) Try.underlying22 Try.underlying29 (by kernel_rfl) (by kernel_rfl) (hval 3 22 v3 rfl rfl) h3
  have hb47 : a2.len ≤ 140737488355328 := by
    rcases hlen2 with h' | ⟨elems, spare, hd, hl'⟩
    · omega
    · have := sized_slice hsz (j := 2) (t := 38) (e := 5) (elems := elems) (spare := spare) (by rw [Try.params6]; rfl) (by rw [hd]; rfl) Try.underlying38
      rw [show Try.prog.bytesOf 5 = 1 from by kernel_rfl] at this
      have := reachBytes_lt
      omega
  obtain ⟨os3, g3, g3', gbd⟩ := rows_of' (enc := encO) (Q := fun o => o.b ≤ 9223372036854775807) (rows := rows3) fun row hr => by
    obtain ⟨hl, hf⟩ := hrows3 row hr
    obtain ⟨c0, e0, k0⟩ := hf 0 _ rfl
    obtain ⟨c1, e1, k1⟩ := hf 1 _ rfl
    obtain ⟨c2, e2, k2⟩ := hf 2 _ rfl
    obtain ⟨n0, rfl, _⟩ := k0.int (k := .i64) (by kernel_rfl)
    obtain ⟨n1, rfl, wf1⟩ := k1.int (k := .i64) (by kernel_rfl)
    obtain ⟨n2, rfl⟩ := k2.bool (by kernel_rfl)
    refine ⟨⟨n0, n1, n2⟩, ?_, by simp [Lit.wf, IntKind.min, IntKind.max, IntKind.signed, IntKind.bits] at wf1; show n1 ≤ 9223372036854775807; omega⟩
    have hl6 : row.length = 3 := hl
    match row, hl6 with
    | [x0, x1, x2], _ =>
      simp at e0 e1 e2
      subst e0 e1 e2
      rfl
  rw [g3] at hs3
  exact law_calls (tb := 4) (args := [.int .i64 a0, .bool a1, .slice a2.p a2.len a2.cap, .slice a3.p a3.len a3.cap]) hW' rfl rfl (by kernel_rfl) Try.underlying4 laidOut (by kernel_rfl) (AllocGoes_ok hs2 hb47 hs3 gbd)

theorem proved : Rows.AllocGoesSaid :=
  OpenClaim.holds_of_wide 6 Try.f6 rfl rfl rfl rfl rfl rfl rfl ⟨rfl, rfl, rfl, rfl, rfl⟩ rfl rfl rfl rfl rfl (by kernel_rfl) Try.func6 (by kernel_rfl)
    (of_decide_eq_true (by kernel_rfl)) (by unfold Func.isWrapper; first | (rw [if_pos (by decide +kernel)]; kernel_rfl) | (rw [if_neg (by decide +kernel)]; exact ⟨rfl, rfl⟩))
    (fun os started H enc _ => lifted os started H enc)

end Go.Proofs.Ytdpbgcplcjhjmaa.allocGoes
