/-
  DERIVED. GIVEN WITH THE SEED: THE CARDS: each row of YthgiocimimdbcaaDoorRows.lean that lists a variable, with what it lists TIED to the program's text (the seventh form; the later family's looks); each row that meets fmt, with fmt's text TOLD by the authors' own Lean function (tested against real Go, not proved from fmt's source: count such statements apart). THE CARD IS WHAT COUNTS. Prove the row's statement (the work); the ties are given (YthgiocimimdbcaaDoorTie.lean); close each card by the builder's one call (the guide's Derived/Test/ToyasCard.lean, 'card_holds'). Laid BY PROGRAM, IN A SANDBOX (cutbox-door.mjs). By AI agents, Wed Nov 11 2026. No macro, syntax, notation, axiom, sorry.
-/
import Derived.Test.YthgiocimimdbcaaDoorRows
import GoSem.ClaimSeven
namespace Go.Proofs.YthgiocimimdbcaaDoor
namespace Rows

/-- THE TIED CARD OF 'sumpterlaw03.TupleParts'. -/
def tuplePartsCard : Claim7 := { stood := { row := tuplePartsRow, standIns := [], harness := (true, "8a29c5cdac7af26ef33d531925f061a3a98a514264c2eae64709d758e19b0513"), looks := false }, kinds := [], alts := [], laidByText := true, laidKinds := [.data, .pinned], laidTests := true, laidLooks := .later }
def TuplePartsCardSaid : Prop := Claim7.holds Tryd.pinned (.plain (OpenSpec.ofChange tuplePartsSpec)) tuplePartsCard

/-- THE TIED CARD OF 'sumpterlaw03.TupleOrder'. -/
def tupleOrderCard : Claim7 := { stood := { row := tupleOrderRow, standIns := [], harness := (true, "8a29c5cdac7af26ef33d531925f061a3a98a514264c2eae64709d758e19b0513"), looks := false }, kinds := [], alts := [], laidByText := true, laidKinds := [.data, .pinned], laidTests := true, laidLooks := .later }
def TupleOrderCardSaid : Prop := Claim7.holds Tryd.pinned (.plain (OpenSpec.ofChange tupleOrderSpec)) tupleOrderCard

/-- THE TIED CARD OF 'sumpterlaw03.TupleCompare'. -/
def tupleCompareCard : Claim7 := { stood := { row := tupleCompareRow, standIns := [], harness := (true, "8a29c5cdac7af26ef33d531925f061a3a98a514264c2eae64709d758e19b0513"), looks := false }, kinds := [], alts := [], laidByText := true, laidKinds := [.data, .pinned], laidTests := true, laidLooks := .later }
def TupleCompareCardSaid : Prop := Claim7.holds Tryd.pinned (.plain (OpenSpec.ofChange tupleCompareSpec)) tupleCompareCard

/-- THE TIED CARD OF 'sumpterlaw03.TupleMore'. -/
def tupleMoreCard : Claim7 := { stood := { row := tupleMoreRow, standIns := [], harness := (true, "8a29c5cdac7af26ef33d531925f061a3a98a514264c2eae64709d758e19b0513"), looks := false }, kinds := [], alts := [], laidByText := true, laidKinds := [.data, .pinned], laidTests := true, laidLooks := .later }
def TupleMoreCardSaid : Prop := Claim7.holds Tryd.pinned (.plain (OpenSpec.ofChange tupleMoreSpec)) tupleMoreCard

/-- THE TIED CARD OF 'sumpterlaw03.TupleJoins'. -/
def tupleJoinsCard : Claim7 := { stood := { row := tupleJoinsRow, standIns := [], harness := (true, "8a29c5cdac7af26ef33d531925f061a3a98a514264c2eae64709d758e19b0513"), looks := false }, kinds := [], alts := [], laidByText := true, laidKinds := [.data, .pinned], laidTests := true, laidLooks := .later }
def TupleJoinsCardSaid : Prop := Claim7.holds Tryd.pinned (.plain (OpenSpec.ofChange tupleJoinsSpec)) tupleJoinsCard

/-- THE SECOND FORM's CARD OF 'sumpterlaw03.TupleParts'. -/
def tuplePartsUptoCard : Claim7 := { stood := { row := tuplePartsUptoRow, standIns := [], harness := (true, "8a29c5cdac7af26ef33d531925f061a3a98a514264c2eae64709d758e19b0513"), looks := false }, kinds := [], alts := [], laidByText := true, laidKinds := [.data, .pinned], laidTests := true, laidLooks := .later }
def TuplePartsUptoCardSaid : Prop := Claim7.holds Tryd.pinned (.plain (OpenSpec.upto tuplePartsSpec)) tuplePartsUptoCard

/-- THE SECOND FORM's CARD OF 'sumpterlaw03.TupleOrder'. -/
def tupleOrderUptoCard : Claim7 := { stood := { row := tupleOrderUptoRow, standIns := [], harness := (true, "8a29c5cdac7af26ef33d531925f061a3a98a514264c2eae64709d758e19b0513"), looks := false }, kinds := [], alts := [], laidByText := true, laidKinds := [.data, .pinned], laidTests := true, laidLooks := .later }
def TupleOrderUptoCardSaid : Prop := Claim7.holds Tryd.pinned (.plain (OpenSpec.upto tupleOrderSpec)) tupleOrderUptoCard

/-- THE SECOND FORM's CARD OF 'sumpterlaw03.TupleCompare'. -/
def tupleCompareUptoCard : Claim7 := { stood := { row := tupleCompareUptoRow, standIns := [], harness := (true, "8a29c5cdac7af26ef33d531925f061a3a98a514264c2eae64709d758e19b0513"), looks := false }, kinds := [], alts := [], laidByText := true, laidKinds := [.data, .pinned], laidTests := true, laidLooks := .later }
def TupleCompareUptoCardSaid : Prop := Claim7.holds Tryd.pinned (.plain (OpenSpec.upto tupleCompareSpec)) tupleCompareUptoCard

/-- THE SECOND FORM's CARD OF 'sumpterlaw03.TupleMore'. -/
def tupleMoreUptoCard : Claim7 := { stood := { row := tupleMoreUptoRow, standIns := [], harness := (true, "8a29c5cdac7af26ef33d531925f061a3a98a514264c2eae64709d758e19b0513"), looks := false }, kinds := [], alts := [], laidByText := true, laidKinds := [.data, .pinned], laidTests := true, laidLooks := .later }
def TupleMoreUptoCardSaid : Prop := Claim7.holds Tryd.pinned (.plain (OpenSpec.upto tupleMoreSpec)) tupleMoreUptoCard

/-- THE SECOND FORM's CARD OF 'sumpterlaw03.TupleJoins'. -/
def tupleJoinsUptoCard : Claim7 := { stood := { row := tupleJoinsUptoRow, standIns := [], harness := (true, "8a29c5cdac7af26ef33d531925f061a3a98a514264c2eae64709d758e19b0513"), looks := false }, kinds := [], alts := [], laidByText := true, laidKinds := [.data, .pinned], laidTests := true, laidLooks := .later }
def TupleJoinsUptoCardSaid : Prop := Claim7.holds Tryd.pinned (.plain (OpenSpec.upto tupleJoinsSpec)) tupleJoinsUptoCard
end Rows
end Go.Proofs.YthgiocimimdbcaaDoor
