/-
  NARROWER THAN 'FOR EVERY INPUT', by the rows' own cells (each row's printed sentence says how): TupleParts: laid · TupleOrder: laid · TupleCompare: laid · TupleMore: laid · TupleJoins: laid.
  DERIVED. THE GIVEN ROWS OF THIS SEAT. 5 by the template 'for every input the law returns true; each argument reads behind the call as it read before'; 0 by the template 'total and deterministic' (their statements: YthgiocimimdbcaaDoorTotals.lean).
  GIVEN WITH THE SEED: the statements are not yours to turn. If you find one false, say at which input.
  Laid BY PROGRAM, IN A SANDBOX (cutbox-rows.mjs): the forced cells as the released guide's own fill.sh prints them over the translation f2e942a5e245b654… (all of the seat's roots in one cut). By AI agents, Wed Nov 11 2026. No macro, syntax, notation, axiom, sorry.
-/
import Derived.Test.YthgiocimimdbcaaDoorChecked
import GoSem.PinnedTables
import GoSem.Claim
import GoSem.ClaimJoined
import GoSem.ClaimMapViews
import Derived.JoinedTies
import Derived.KernelRfl
namespace Go.Proofs.YthgiocimimdbcaaDoor
/- THE CELL 'sum', in the pinned program and in every row, IS THE sha256 OF THE DUMP (.gsa) THAT YthgiocimimdbcaaDoorProg.lean LOADS. Nothing in Lean hashes anything: it is a label: what it is worth is what the hold of that sum in a sandbox is worth. -/
noncomputable def Tryd.pinned : Pinned := { name := "ythgiocimimdbcaadoor", sum := "f2e942a5e245b65452841d6a4e2f6fc97b26950ad744c1387351c38cd9698bfb", checked := Tryd.checked }
namespace Rows
def none {H : Type} : Left H := { results := [], args := [] }

/- WHAT THE LISTED PACKAGE-LEVEL VARIABLES READ AS WHEN THE CALL BEGINS. Each datum BY PROGRAM (the guide's laid-datum.mjs) off the statement by which the dump's own 'gosem.cut.vars' lays the variable. In a bare row this is a premise. The card (YthgiocimimdbcaaDoorCards.lean) ties it to the program's text. -/
def laid_unicode_utf8_acceptRanges {H : Type} : DataW H := .agg [.agg [.lit (.int .u8 128), .lit (.int .u8 191)], .agg [.lit (.int .u8 160), .lit (.int .u8 191)], .agg [.lit (.int .u8 128), .lit (.int .u8 159)], .agg [.lit (.int .u8 144), .lit (.int .u8 191)], .agg [.lit (.int .u8 128), .lit (.int .u8 143)], .agg [.lit (.int .u8 0), .lit (.int .u8 0)], .agg [.lit (.int .u8 0), .lit (.int .u8 0)], .agg [.lit (.int .u8 0), .lit (.int .u8 0)], .agg [.lit (.int .u8 0), .lit (.int .u8 0)], .agg [.lit (.int .u8 0), .lit (.int .u8 0)], .agg [.lit (.int .u8 0), .lit (.int .u8 0)], .agg [.lit (.int .u8 0), .lit (.int .u8 0)], .agg [.lit (.int .u8 0), .lit (.int .u8 0)], .agg [.lit (.int .u8 0), .lit (.int .u8 0)], .agg [.lit (.int .u8 0), .lit (.int .u8 0)], .agg [.lit (.int .u8 0), .lit (.int .u8 0)]]
/-- One of Go's own tables, pinned by name: the form's constant. -/
def laid_unicode_utf8_first : DataW Unit := Go.Pinned.utf8First

/-- 'sumpterlaw03.TupleParts': WHATEVER THE INPUT: true; the input reads as it did. -/
def tuplePartsSpec : ChangeSpec := { name := "tupleParts", fn := fun _ => fun
  | [d] => { results := [.lit (.bool true)], args := [d] }
  | _ => none }
def tuplePartsRow : OpenClaim := { program := "ythgiocimimdbcaadoor", sum := "f2e942a5e245b65452841d6a4e2f6fc97b26950ad744c1387351c38cd9698bfb", func := "sumpter/sumpterlaw03.TupleParts", spec := "tupleParts", inPlace := ["internal/bytealg.CountString", "internal/bytealg.IndexByteString", "internal/bytealg.IndexString", "internal/abi.NoEscape", "internal/bytealg.MakeNoZero", "internal/bytealg.abigen_runtime_cmpstring"], unfollowed := true, recurses := true, named := ["internal/bytealg.MaxLen", "unicode/utf8.first", "unicode/utf8.acceptRanges"], apart := false, laid := [("unicode/utf8.acceptRanges", laid_unicode_utf8_acceptRanges), ("unicode/utf8.first", laid_unicode_utf8_first)] }
def TuplePartsSaid : Prop := tuplePartsRow.holds Tryd.pinned (OpenSpec.ofChange tuplePartsSpec)

/-- ITS FALSE NEIGHBOUR: 'it returns false'. Refute it at one input. -/
def tuplePartsWrong : ChangeSpec := { name := "tupleParts", fn := fun _ => fun
  | [d] => { results := [.lit (.bool false)], args := [d] }
  | _ => none }
def TuplePartsWrongFalsely : Prop := tuplePartsRow.holds Tryd.pinned (OpenSpec.ofChange tuplePartsWrong)

/-- 'sumpterlaw03.TupleOrder': WHATEVER THE INPUT: true; the input reads as it did. -/
def tupleOrderSpec : ChangeSpec := { name := "tupleOrder", fn := fun _ => fun
  | [d1, d2] => { results := [.lit (.bool true)], args := [d1, d2] }
  | _ => none }
def tupleOrderRow : OpenClaim := { program := "ythgiocimimdbcaadoor", sum := "f2e942a5e245b65452841d6a4e2f6fc97b26950ad744c1387351c38cd9698bfb", func := "sumpter/sumpterlaw03.TupleOrder", spec := "tupleOrder", inPlace := ["internal/bytealg.CountString", "internal/bytealg.IndexByteString", "internal/bytealg.IndexString", "internal/abi.NoEscape", "internal/bytealg.MakeNoZero", "internal/bytealg.abigen_runtime_cmpstring"], unfollowed := true, recurses := true, named := ["internal/bytealg.MaxLen", "unicode/utf8.first", "unicode/utf8.acceptRanges"], apart := false, laid := [("unicode/utf8.acceptRanges", laid_unicode_utf8_acceptRanges), ("unicode/utf8.first", laid_unicode_utf8_first)] }
def TupleOrderSaid : Prop := tupleOrderRow.holds Tryd.pinned (OpenSpec.ofChange tupleOrderSpec)

/-- ITS FALSE NEIGHBOUR: 'it returns false'. Refute it at one input. -/
def tupleOrderWrong : ChangeSpec := { name := "tupleOrder", fn := fun _ => fun
  | [d1, d2] => { results := [.lit (.bool false)], args := [d1, d2] }
  | _ => none }
def TupleOrderWrongFalsely : Prop := tupleOrderRow.holds Tryd.pinned (OpenSpec.ofChange tupleOrderWrong)

/-- 'sumpterlaw03.TupleCompare': WHATEVER THE INPUT: true; the input reads as it did. -/
def tupleCompareSpec : ChangeSpec := { name := "tupleCompare", fn := fun _ => fun
  | [d1, d2, d3] => { results := [.lit (.bool true)], args := [d1, d2, d3] }
  | _ => none }
def tupleCompareRow : OpenClaim := { program := "ythgiocimimdbcaadoor", sum := "f2e942a5e245b65452841d6a4e2f6fc97b26950ad744c1387351c38cd9698bfb", func := "sumpter/sumpterlaw03.TupleCompare", spec := "tupleCompare", inPlace := ["internal/bytealg.CountString", "internal/bytealg.IndexByteString", "internal/bytealg.IndexString", "internal/abi.NoEscape", "internal/bytealg.MakeNoZero", "internal/bytealg.abigen_runtime_cmpstring"], unfollowed := true, recurses := true, named := ["internal/bytealg.MaxLen", "unicode/utf8.first", "unicode/utf8.acceptRanges"], apart := false, laid := [("unicode/utf8.acceptRanges", laid_unicode_utf8_acceptRanges), ("unicode/utf8.first", laid_unicode_utf8_first)] }
def TupleCompareSaid : Prop := tupleCompareRow.holds Tryd.pinned (OpenSpec.ofChange tupleCompareSpec)

/-- ITS FALSE NEIGHBOUR: 'it returns false'. Refute it at one input. -/
def tupleCompareWrong : ChangeSpec := { name := "tupleCompare", fn := fun _ => fun
  | [d1, d2, d3] => { results := [.lit (.bool false)], args := [d1, d2, d3] }
  | _ => none }
def TupleCompareWrongFalsely : Prop := tupleCompareRow.holds Tryd.pinned (OpenSpec.ofChange tupleCompareWrong)

/-- 'sumpterlaw03.TupleMore': WHATEVER THE INPUT: true; the input reads as it did. -/
def tupleMoreSpec : ChangeSpec := { name := "tupleMore", fn := fun _ => fun
  | [d1, d2] => { results := [.lit (.bool true)], args := [d1, d2] }
  | _ => none }
def tupleMoreRow : OpenClaim := { program := "ythgiocimimdbcaadoor", sum := "f2e942a5e245b65452841d6a4e2f6fc97b26950ad744c1387351c38cd9698bfb", func := "sumpter/sumpterlaw03.TupleMore", spec := "tupleMore", inPlace := ["internal/bytealg.CountString", "internal/bytealg.IndexByteString", "internal/bytealg.IndexString", "internal/abi.NoEscape", "internal/bytealg.MakeNoZero", "internal/bytealg.abigen_runtime_cmpstring"], unfollowed := true, recurses := true, named := ["internal/bytealg.MaxLen", "unicode/utf8.first", "unicode/utf8.acceptRanges"], apart := false, laid := [("unicode/utf8.acceptRanges", laid_unicode_utf8_acceptRanges), ("unicode/utf8.first", laid_unicode_utf8_first)] }
def TupleMoreSaid : Prop := tupleMoreRow.holds Tryd.pinned (OpenSpec.ofChange tupleMoreSpec)

/-- ITS FALSE NEIGHBOUR: 'it returns false'. Refute it at one input. -/
def tupleMoreWrong : ChangeSpec := { name := "tupleMore", fn := fun _ => fun
  | [d1, d2] => { results := [.lit (.bool false)], args := [d1, d2] }
  | _ => none }
def TupleMoreWrongFalsely : Prop := tupleMoreRow.holds Tryd.pinned (OpenSpec.ofChange tupleMoreWrong)

/-- 'sumpterlaw03.TupleJoins': WHATEVER THE INPUT: true; the input reads as it did. -/
def tupleJoinsSpec : ChangeSpec := { name := "tupleJoins", fn := fun _ => fun
  | [d1, d2] => { results := [.lit (.bool true)], args := [d1, d2] }
  | _ => none }
def tupleJoinsRow : OpenClaim := { program := "ythgiocimimdbcaadoor", sum := "f2e942a5e245b65452841d6a4e2f6fc97b26950ad744c1387351c38cd9698bfb", func := "sumpter/sumpterlaw03.TupleJoins", spec := "tupleJoins", inPlace := ["internal/bytealg.CountString", "internal/bytealg.IndexByteString", "internal/bytealg.IndexString", "internal/abi.NoEscape", "internal/bytealg.MakeNoZero", "internal/bytealg.abigen_runtime_cmpstring"], unfollowed := true, recurses := true, named := ["internal/bytealg.MaxLen", "unicode/utf8.first", "unicode/utf8.acceptRanges"], apart := false, laid := [("unicode/utf8.acceptRanges", laid_unicode_utf8_acceptRanges), ("unicode/utf8.first", laid_unicode_utf8_first)] }
def TupleJoinsSaid : Prop := tupleJoinsRow.holds Tryd.pinned (OpenSpec.ofChange tupleJoinsSpec)

/-- ITS FALSE NEIGHBOUR: 'it returns false'. Refute it at one input. -/
def tupleJoinsWrong : ChangeSpec := { name := "tupleJoins", fn := fun _ => fun
  | [d1, d2] => { results := [.lit (.bool false)], args := [d1, d2] }
  | _ => none }
def TupleJoinsWrongFalsely : Prop := tupleJoinsRow.holds Tryd.pinned (OpenSpec.ofChange tupleJoinsWrong)

/- THE SECOND FORM. 'bulk': how many values and letters a reading holds, each counted each time it is reached (what is shared counts as often as it is met; a slice's spare places count too). A statement '..UptoSaid' is the law's where the arguments, and the package variables that the reading takes, are together of bulk at most 1048576: NARROWER than '..Said'. Prove '..Said' where nothing that the law and all that it calls make is longer than what came in: it says more and counts as full. Else prove '..UptoSaid'. A law counts once. -/
mutual
def uptoBulk {H : Type} : DataW H → Nat
  | .lit (.string bytes) => bytes.length + 1
  | .lit _ => 1
  | .nil => 1
  | .ptr d => uptoBulk d + 1
  | .slice elems spare => uptoBulkAll elems + uptoBulkAll spare + 1
  | .agg parts => uptoBulkAll parts + 1
  | .iface _ d => uptoBulk d + 1
  | .map entries => uptoBulkEntries entries + 1
  | .held _ => 1
def uptoBulkAll {H : Type} : List (DataW H) → Nat
  | [] => 0
  | d :: r => uptoBulk d + uptoBulkAll r
def uptoBulkEntries {H : Type} : List (Lit × DataW H) → Nat
  | [] => 0
  | x :: r => uptoBulkEntry x + uptoBulkEntries r
def uptoBulkEntry {H : Type} : Lit × DataW H → Nat
  | (.string bytes, d) => bytes.length + uptoBulk d + 1
  | (_, d) => uptoBulk d + 1
 end
def uptoSmall : (H : Type) → List (DataW H) → Bool := fun _ ds => decide (uptoBulkAll ds ≤ 1048576)
def OpenSpec.upto (s : _root_.Go.ChangeSpec) : _root_.Go.OpenSpec := { _root_.Go.OpenSpec.ofChange s with cond := some uptoSmall }

/-- 'sumpterlaw03.TupleParts', WHERE WHAT IT READS IS OF BULK AT MOST 1048576: true; the input reads as it did. -/
def tuplePartsUptoRow : OpenClaim := { program := "ythgiocimimdbcaadoor", sum := "f2e942a5e245b65452841d6a4e2f6fc97b26950ad744c1387351c38cd9698bfb", func := "sumpter/sumpterlaw03.TupleParts", spec := "tupleParts", inPlace := ["internal/bytealg.CountString", "internal/bytealg.IndexByteString", "internal/bytealg.IndexString", "internal/abi.NoEscape", "internal/bytealg.MakeNoZero", "internal/bytealg.abigen_runtime_cmpstring"], unfollowed := true, recurses := true, named := ["internal/bytealg.MaxLen", "unicode/utf8.first", "unicode/utf8.acceptRanges"], apart := false, laid := [("unicode/utf8.acceptRanges", laid_unicode_utf8_acceptRanges), ("unicode/utf8.first", laid_unicode_utf8_first)], narrowed := true }
def TuplePartsUptoSaid : Prop := tuplePartsUptoRow.holds Tryd.pinned (OpenSpec.upto tuplePartsSpec)

/-- 'sumpterlaw03.TupleOrder', WHERE WHAT IT READS IS OF BULK AT MOST 1048576: true; the input reads as it did. -/
def tupleOrderUptoRow : OpenClaim := { program := "ythgiocimimdbcaadoor", sum := "f2e942a5e245b65452841d6a4e2f6fc97b26950ad744c1387351c38cd9698bfb", func := "sumpter/sumpterlaw03.TupleOrder", spec := "tupleOrder", inPlace := ["internal/bytealg.CountString", "internal/bytealg.IndexByteString", "internal/bytealg.IndexString", "internal/abi.NoEscape", "internal/bytealg.MakeNoZero", "internal/bytealg.abigen_runtime_cmpstring"], unfollowed := true, recurses := true, named := ["internal/bytealg.MaxLen", "unicode/utf8.first", "unicode/utf8.acceptRanges"], apart := false, laid := [("unicode/utf8.acceptRanges", laid_unicode_utf8_acceptRanges), ("unicode/utf8.first", laid_unicode_utf8_first)], narrowed := true }
def TupleOrderUptoSaid : Prop := tupleOrderUptoRow.holds Tryd.pinned (OpenSpec.upto tupleOrderSpec)

/-- 'sumpterlaw03.TupleCompare', WHERE WHAT IT READS IS OF BULK AT MOST 1048576: true; the input reads as it did. -/
def tupleCompareUptoRow : OpenClaim := { program := "ythgiocimimdbcaadoor", sum := "f2e942a5e245b65452841d6a4e2f6fc97b26950ad744c1387351c38cd9698bfb", func := "sumpter/sumpterlaw03.TupleCompare", spec := "tupleCompare", inPlace := ["internal/bytealg.CountString", "internal/bytealg.IndexByteString", "internal/bytealg.IndexString", "internal/abi.NoEscape", "internal/bytealg.MakeNoZero", "internal/bytealg.abigen_runtime_cmpstring"], unfollowed := true, recurses := true, named := ["internal/bytealg.MaxLen", "unicode/utf8.first", "unicode/utf8.acceptRanges"], apart := false, laid := [("unicode/utf8.acceptRanges", laid_unicode_utf8_acceptRanges), ("unicode/utf8.first", laid_unicode_utf8_first)], narrowed := true }
def TupleCompareUptoSaid : Prop := tupleCompareUptoRow.holds Tryd.pinned (OpenSpec.upto tupleCompareSpec)

/-- 'sumpterlaw03.TupleMore', WHERE WHAT IT READS IS OF BULK AT MOST 1048576: true; the input reads as it did. -/
def tupleMoreUptoRow : OpenClaim := { program := "ythgiocimimdbcaadoor", sum := "f2e942a5e245b65452841d6a4e2f6fc97b26950ad744c1387351c38cd9698bfb", func := "sumpter/sumpterlaw03.TupleMore", spec := "tupleMore", inPlace := ["internal/bytealg.CountString", "internal/bytealg.IndexByteString", "internal/bytealg.IndexString", "internal/abi.NoEscape", "internal/bytealg.MakeNoZero", "internal/bytealg.abigen_runtime_cmpstring"], unfollowed := true, recurses := true, named := ["internal/bytealg.MaxLen", "unicode/utf8.first", "unicode/utf8.acceptRanges"], apart := false, laid := [("unicode/utf8.acceptRanges", laid_unicode_utf8_acceptRanges), ("unicode/utf8.first", laid_unicode_utf8_first)], narrowed := true }
def TupleMoreUptoSaid : Prop := tupleMoreUptoRow.holds Tryd.pinned (OpenSpec.upto tupleMoreSpec)

/-- 'sumpterlaw03.TupleJoins', WHERE WHAT IT READS IS OF BULK AT MOST 1048576: true; the input reads as it did. -/
def tupleJoinsUptoRow : OpenClaim := { program := "ythgiocimimdbcaadoor", sum := "f2e942a5e245b65452841d6a4e2f6fc97b26950ad744c1387351c38cd9698bfb", func := "sumpter/sumpterlaw03.TupleJoins", spec := "tupleJoins", inPlace := ["internal/bytealg.CountString", "internal/bytealg.IndexByteString", "internal/bytealg.IndexString", "internal/abi.NoEscape", "internal/bytealg.MakeNoZero", "internal/bytealg.abigen_runtime_cmpstring"], unfollowed := true, recurses := true, named := ["internal/bytealg.MaxLen", "unicode/utf8.first", "unicode/utf8.acceptRanges"], apart := false, laid := [("unicode/utf8.acceptRanges", laid_unicode_utf8_acceptRanges), ("unicode/utf8.first", laid_unicode_utf8_first)], narrowed := true }
def TupleJoinsUptoSaid : Prop := tupleJoinsUptoRow.holds Tryd.pinned (OpenSpec.upto tupleJoinsSpec)

end Rows
end Go.Proofs.YthgiocimimdbcaaDoor
