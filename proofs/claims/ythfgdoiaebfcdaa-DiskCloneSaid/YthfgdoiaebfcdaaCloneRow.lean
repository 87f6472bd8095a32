/- The law DiskClone: the row. Its conditions: none. -/
import Derived.Test.YthfgdoiaebfcdaaRows
import Derived.Test.YthfgdoiaebfcdaaLc
import Derived.Test.YthfgdoiaebfcdaaSxX
set_option linter.unusedVariables false
set_option linter.unusedSimpArgs false
namespace Go.Proofs.Ythfgdoiaebfcdaa.diskClone
open Go Go.Sx Go.ChangeShapes Go.WideShapes Go.ChangeAt Go.RowKit

theorem own : ownKnob Try.prog.godebug = none := by kernel_rfl
theorem laidOut : laidOutB Try.prog = true := by kernel_rfl

set_option maxRecDepth 100000 in
theorem lifted (os : Os) (started : os.Started) (H : Type) (enc : TypeId × Value → H) :
    ReturnsInHanded {} Try.checked os 6 .any (Rows.diskCloneSpec.pre6 enc Try.prog Try.f6 Rows.diskCloneRow.domain false) (Rows.diskCloneSpec.post enc Try.prog Try.f6 false true false false) := by
  refine returnsInHanded_of_change_sized (C := Try.checked) own started (by kernel_rfl) Try.func6
    (ChangeSpec.witness6 (enc := enc) (C := Try.checked) false ⟨#[], #[.slice none 0 0, .slice none 0 0, .slice none 0 0], []⟩ 8 (by kernel_rfl) (by kernel_rfl) (by kernel_rfl) (by kernel_rfl)) ?_
  intro W base args ds gs before hval0 hW hcnd hsz0 _
  have hsz : (DataW.weightsEach Try.prog (Try.f6.params.toList ++ Rows.diskCloneSpec.plain.varTypes Try.prog) (ds ++ gs)).all (· ≤ reachBytes) = true := hsz0
  have hval : ∀ (j : Nat) t v, Try.f6.params[j]? = some t → args[j]? = some v → Value.okWide Try.prog W .any base t v := hval0
  have hW0 : DataW.Whole enc Try.prog Try.f6.params.toList Rows.diskCloneSpec.vars false W args.toList ds gs before := hW
  have hW' := hW0
  obtain ⟨p, q, hA0, hV, rfl, hfz, hnd⟩ := hW0
  have hA : DataW.TrodAll enc Try.prog W 0 (fun _ => true) true Try.f6.params.toList args.toList ds p := hA0
  rw [Try.params6] at hA hval
  obtain ⟨v0, vs0, d0, ds0, p0, q0, hargs0, rfl, rfl, h0, r0⟩ := trodAll_cons hA
  obtain ⟨v1, vs1, d1, ds1, p1, q1, hargs1, rfl, rfl, h1, r1⟩ := trodAll_cons r0
  obtain ⟨v2, vs2, d2, ds2, p2, q2, hargs2, rfl, rfl, h2, r2⟩ := trodAll_cons r1
  obtain ⟨rfl, rfl, rfl⟩ := trodAll_nil r2
  obtain rfl : args = #[v0, v1, v2] := by cases args; simp_all
  obtain ⟨rfl, rfl⟩ := trodVars_none hV
  have hz0 : ∀ m ∈ d0.weights Try.prog 22, m ≤ reachBytes := fun m hm => by
    have := List.all_eq_true.1 hsz m (DataW.weights_mem_each (j := 0) (t := 22) (d := d0) (by rw [Try.params6]; rfl) rfl m hm)
    simpa using this
  obtain ⟨a0, rows0, rfl, hlen0, hm0, hb0, hrows0, hs0⟩ := open_rowsZ (e := 31) Try.underlying22 Try.underlying31 (by kernel_rfl) (by kernel_rfl) (hval 0 22 v0 rfl rfl) h0 hz0
  obtain ⟨os0, g0, g0', gq0⟩ := rows_of' (enc := encO) (Q := OpQ) (rows := rows0) fun row hr => by
    obtain ⟨hl, hf⟩ := hrows0 row hr
    obtain ⟨c0, e0, k0⟩ := hf 0 _ rfl
    obtain ⟨c1, e1, k1⟩ := hf 1 _ rfl
    obtain ⟨c2, e2, k2⟩ := hf 2 _ rfl
    obtain ⟨c3, e3, k3⟩ := hf 3 _ rfl
    obtain ⟨c4, e4, k4⟩ := hf 4 _ rfl
    obtain ⟨c5, e5, k5⟩ := hf 5 _ rfl
    obtain ⟨n0, rfl, w0⟩ := k0.int (k := .i64) (by kernel_rfl)
    simp [Lit.wf, IntKind.min, IntKind.max, IntKind.signed, IntKind.bits] at w0
    obtain ⟨n1, rfl, w1⟩ := k1.int (k := .i64) (by kernel_rfl)
    simp [Lit.wf, IntKind.min, IntKind.max, IntKind.signed, IntKind.bits] at w1
    obtain ⟨n2, rfl, w2⟩ := k2.int (k := .i64) (by kernel_rfl)
    simp [Lit.wf, IntKind.min, IntKind.max, IntKind.signed, IntKind.bits] at w2
    obtain ⟨n3, rfl, w3⟩ := k3.int (k := .u8) (by kernel_rfl)
    simp [Lit.wf, IntKind.min, IntKind.max, IntKind.signed, IntKind.bits] at w3
    obtain ⟨n4, rfl, w4⟩ := k4.string (by kernel_rfl)
    obtain ⟨n5, rfl⟩ := k5.bool (by kernel_rfl)
    refine ⟨⟨n0, n1, n2, n3, n4, n5⟩, ?_, ⟨by dsimp only; omega, by dsimp only; omega, by dsimp only; omega⟩⟩
    have hl6 : row.length = 6 := hl
    match row, hl6 with
    | [x0, x1, x2, x3, x4, x5], _ =>
      simp at e0 e1 e2 e3 e4 e5
      subst e0 e1 e2 e3 e4 e5
      rfl
  rw [g0] at hs0
  have hz1 : ∀ m ∈ d1.weights Try.prog 22, m ≤ reachBytes := fun m hm => by
    have := List.all_eq_true.1 hsz m (DataW.weights_mem_each (j := 1) (t := 22) (d := d1) (by rw [Try.params6]; rfl) rfl m hm)
    simpa using this
  obtain ⟨a1, rows1, rfl, hlen1, hm1, hb1, hrows1, hs1⟩ := open_rowsZ (e := 31) Try.underlying22 Try.underlying31 (by kernel_rfl) (by kernel_rfl) (hval 1 22 v1 rfl rfl) h1 hz1
  obtain ⟨os1, g1, g1', gq1⟩ := rows_of' (enc := encO) (Q := OpQ) (rows := rows1) fun row hr => by
    obtain ⟨hl, hf⟩ := hrows1 row hr
    obtain ⟨c0, e0, k0⟩ := hf 0 _ rfl
    obtain ⟨c1, e1, k1⟩ := hf 1 _ rfl
    obtain ⟨c2, e2, k2⟩ := hf 2 _ rfl
    obtain ⟨c3, e3, k3⟩ := hf 3 _ rfl
    obtain ⟨c4, e4, k4⟩ := hf 4 _ rfl
    obtain ⟨c5, e5, k5⟩ := hf 5 _ rfl
    obtain ⟨n0, rfl, w0⟩ := k0.int (k := .i64) (by kernel_rfl)
    simp [Lit.wf, IntKind.min, IntKind.max, IntKind.signed, IntKind.bits] at w0
    obtain ⟨n1, rfl, w1⟩ := k1.int (k := .i64) (by kernel_rfl)
    simp [Lit.wf, IntKind.min, IntKind.max, IntKind.signed, IntKind.bits] at w1
    obtain ⟨n2, rfl, w2⟩ := k2.int (k := .i64) (by kernel_rfl)
    simp [Lit.wf, IntKind.min, IntKind.max, IntKind.signed, IntKind.bits] at w2
    obtain ⟨n3, rfl, w3⟩ := k3.int (k := .u8) (by kernel_rfl)
    simp [Lit.wf, IntKind.min, IntKind.max, IntKind.signed, IntKind.bits] at w3
    obtain ⟨n4, rfl, w4⟩ := k4.string (by kernel_rfl)
    obtain ⟨n5, rfl⟩ := k5.bool (by kernel_rfl)
    refine ⟨⟨n0, n1, n2, n3, n4, n5⟩, ?_, ⟨by dsimp only; omega, by dsimp only; omega, by dsimp only; omega⟩⟩
    have hl6 : row.length = 6 := hl
    match row, hl6 with
    | [x0, x1, x2, x3, x4, x5], _ =>
      simp at e0 e1 e2 e3 e4 e5
      subst e0 e1 e2 e3 e4 e5
      rfl
  rw [g1] at hs1
  have hz2 : ∀ m ∈ d2.weights Try.prog 22, m ≤ reachBytes := fun m hm => by
    have := List.all_eq_true.1 hsz m (DataW.weights_mem_each (j := 2) (t := 22) (d := d2) (by rw [Try.params6]; rfl) rfl m hm)
    simpa using this
  obtain ⟨a2, rows2, rfl, hlen2, hm2, hb2, hrows2, hs2⟩ := open_rowsZ (e := 31) Try.underlying22 Try.underlying31 (by kernel_rfl) (by kernel_rfl) (hval 2 22 v2 rfl rfl) h2 hz2
  obtain ⟨os2, g2, g2', gq2⟩ := rows_of' (enc := encO) (Q := OpQ) (rows := rows2) fun row hr => by
    obtain ⟨hl, hf⟩ := hrows2 row hr
    obtain ⟨c0, e0, k0⟩ := hf 0 _ rfl
    obtain ⟨c1, e1, k1⟩ := hf 1 _ rfl
    obtain ⟨c2, e2, k2⟩ := hf 2 _ rfl
    obtain ⟨c3, e3, k3⟩ := hf 3 _ rfl
    obtain ⟨c4, e4, k4⟩ := hf 4 _ rfl
    obtain ⟨c5, e5, k5⟩ := hf 5 _ rfl
    obtain ⟨n0, rfl, w0⟩ := k0.int (k := .i64) (by kernel_rfl)
    simp [Lit.wf, IntKind.min, IntKind.max, IntKind.signed, IntKind.bits] at w0
    obtain ⟨n1, rfl, w1⟩ := k1.int (k := .i64) (by kernel_rfl)
    simp [Lit.wf, IntKind.min, IntKind.max, IntKind.signed, IntKind.bits] at w1
    obtain ⟨n2, rfl, w2⟩ := k2.int (k := .i64) (by kernel_rfl)
    simp [Lit.wf, IntKind.min, IntKind.max, IntKind.signed, IntKind.bits] at w2
    obtain ⟨n3, rfl, w3⟩ := k3.int (k := .u8) (by kernel_rfl)
    simp [Lit.wf, IntKind.min, IntKind.max, IntKind.signed, IntKind.bits] at w3
    obtain ⟨n4, rfl, w4⟩ := k4.string (by kernel_rfl)
    obtain ⟨n5, rfl⟩ := k5.bool (by kernel_rfl)
    refine ⟨⟨n0, n1, n2, n3, n4, n5⟩, ?_, ⟨by dsimp only; omega, by dsimp only; omega, by dsimp only; omega⟩⟩
    have hl6 : row.length = 6 := hl
    match row, hl6 with
    | [x0, x1, x2, x3, x4, x5], _ =>
      simp at e0 e1 e2 e3 e4 e5
      subst e0 e1 e2 e3 e4 e5
      rfl
  rw [g2] at hs2
  exact law_calls (tb := 4) (args := [.slice a0.p a0.len a0.cap, .slice a1.p a1.len a1.cap, .slice a2.p a2.len a2.cap]) hW' rfl rfl (by kernel_rfl) Try.underlying4 laidOut (by kernel_rfl) (DiskClone_ok hs0 hs1 hs2 gq0 gq1 gq2 (by rw [show Try.prog.bytesOf 31 = 56 from by kernel_rfl] at hb0; omega) (by rw [show Try.prog.bytesOf 31 = 56 from by kernel_rfl] at hb1; omega) (by rw [show Try.prog.bytesOf 31 = 56 from by kernel_rfl] at hb2; omega))

theorem proved : Rows.DiskCloneSaid :=
  OpenClaim.holds_of_wide 6 Try.f6 rfl rfl rfl rfl rfl rfl rfl ⟨rfl, rfl, rfl, rfl, rfl⟩ rfl rfl rfl rfl rfl (by kernel_rfl) Try.func6 (by kernel_rfl)
    (of_decide_eq_true (by kernel_rfl)) (by unfold Func.isWrapper; first | (rw [if_pos (by decide +kernel)]; kernel_rfl) | (rw [if_neg (by decide +kernel)]; exact ⟨rfl, rfl⟩))
    (fun os started H enc _ => lifted os started H enc)

end Go.Proofs.Ythfgdoiaebfcdaa.diskClone
