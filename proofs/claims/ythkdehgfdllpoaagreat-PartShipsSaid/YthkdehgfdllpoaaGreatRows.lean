/-
  No cell of these rows narrows 'for every input' (looked for: loops, veiled, ifaces, maps, wideKeys, modest, calm, conditions, laid).
  DERIVED. THE GIVEN ROWS OF THIS SEAT. 5 by the template 'for every input the law returns true; each argument reads behind the call as it read before'; 0 by the template 'total and deterministic' (their statements: YthkdehgfdllpoaaGreatTotals.lean).
  GIVEN WITH THE SEED: the statements are not yours to turn. If you find one false, say at which input.
  Laid BY PROGRAM, IN A SANDBOX (cutbox-rows.mjs): the forced cells as the released guide's own fill.sh prints them over the translation 8a7a1bbb6777bdf0… (all of the seat's roots in one cut). By AI agents, Wed Nov 11 2026. No macro, syntax, notation, axiom, sorry.
-/
import Derived.Test.YthkdehgfdllpoaaGreatChecked
import GoSem.Claim
import GoSem.ClaimJoined
import GoSem.ClaimMapViews
import Derived.JoinedTies
import Derived.KernelRfl
namespace Go.Proofs.YthkdehgfdllpoaaGreat
/- THE CELL 'sum', in the pinned program and in every row, IS THE sha256 OF THE DUMP (.gsa) THAT YthkdehgfdllpoaaGreatProg.lean LOADS. Nothing in Lean hashes anything: it is a label: what it is worth is what the hold of that sum in a sandbox is worth. -/
noncomputable def Tryz.pinned : Pinned := { name := "ythkdehgfdllpoaagreat", sum := "8a7a1bbb6777bdf00fc69560c611b5ffd096ecce406666ebde8ad351505c3c65", checked := Tryz.checked }
namespace Rows
def none {H : Type} : Left H := { results := [], args := [] }

/-- 'sumpterlaw20.PartOnce': WHATEVER THE INPUT: true; the input reads as it did. -/
def partOnceSpec : ChangeSpec := { name := "partOnce", fn := fun _ => fun
  | [d] => { results := [.lit (.bool true)], args := [d] }
  | _ => none }
def partOnceRow : OpenClaim := { program := "ythkdehgfdllpoaagreat", sum := "8a7a1bbb6777bdf00fc69560c611b5ffd096ecce406666ebde8ad351505c3c65", func := "sumpter/sumpterlaw20.PartOnce", spec := "partOnce", inPlace := ["internal/bytealg.abigen_runtime_cmpstring", "slices.overlaps[sumpter/api.Pair]", "slices.overlaps[sumpter/locks.Ask]", "slices.overlaps[sumpter/part.wait]", "slices.overlaps[sumpter/api.Hold]", "slices.overlaps[uint64]"], unfollowed := true, recurses := true, apart := false }
def PartOnceSaid : Prop := partOnceRow.holds Tryz.pinned (OpenSpec.ofChange partOnceSpec)

/-- ITS FALSE NEIGHBOUR: 'it returns false'. Refute it at one input. -/
def partOnceWrong : ChangeSpec := { name := "partOnce", fn := fun _ => fun
  | [d] => { results := [.lit (.bool false)], args := [d] }
  | _ => none }
def PartOnceWrongFalsely : Prop := partOnceRow.holds Tryz.pinned (OpenSpec.ofChange partOnceWrong)

/-- 'sumpterlaw20.PartReads': WHATEVER THE INPUT: true; the input reads as it did. -/
def partReadsSpec : ChangeSpec := { name := "partReads", fn := fun _ => fun
  | [d1, d2] => { results := [.lit (.bool true)], args := [d1, d2] }
  | _ => none }
def partReadsRow : OpenClaim := { program := "ythkdehgfdllpoaagreat", sum := "8a7a1bbb6777bdf00fc69560c611b5ffd096ecce406666ebde8ad351505c3c65", func := "sumpter/sumpterlaw20.PartReads", spec := "partReads", inPlace := ["internal/bytealg.abigen_runtime_cmpstring", "slices.overlaps[sumpter/api.Pair]", "slices.overlaps[sumpter/locks.Ask]", "slices.overlaps[sumpter/part.wait]", "slices.overlaps[sumpter/api.Hold]", "slices.overlaps[uint64]"], unfollowed := true, recurses := true, apart := false }
def PartReadsSaid : Prop := partReadsRow.holds Tryz.pinned (OpenSpec.ofChange partReadsSpec)

/-- ITS FALSE NEIGHBOUR: 'it returns false'. Refute it at one input. -/
def partReadsWrong : ChangeSpec := { name := "partReads", fn := fun _ => fun
  | [d1, d2] => { results := [.lit (.bool false)], args := [d1, d2] }
  | _ => none }
def PartReadsWrongFalsely : Prop := partReadsRow.holds Tryz.pinned (OpenSpec.ofChange partReadsWrong)

/-- 'sumpterlaw20.PartRest': WHATEVER THE INPUT: true; the input reads as it did. -/
def partRestSpec : ChangeSpec := { name := "partRest", fn := fun _ => fun
  | [d1, d2] => { results := [.lit (.bool true)], args := [d1, d2] }
  | _ => none }
def partRestRow : OpenClaim := { program := "ythkdehgfdllpoaagreat", sum := "8a7a1bbb6777bdf00fc69560c611b5ffd096ecce406666ebde8ad351505c3c65", func := "sumpter/sumpterlaw20.PartRest", spec := "partRest", inPlace := ["internal/bytealg.abigen_runtime_cmpstring", "slices.overlaps[sumpter/api.Pair]", "slices.overlaps[sumpter/locks.Ask]", "slices.overlaps[sumpter/part.wait]", "slices.overlaps[sumpter/api.Hold]", "slices.overlaps[uint64]"], unfollowed := true, recurses := true, apart := false }
def PartRestSaid : Prop := partRestRow.holds Tryz.pinned (OpenSpec.ofChange partRestSpec)

/-- ITS FALSE NEIGHBOUR: 'it returns false'. Refute it at one input. -/
def partRestWrong : ChangeSpec := { name := "partRest", fn := fun _ => fun
  | [d1, d2] => { results := [.lit (.bool false)], args := [d1, d2] }
  | _ => none }
def PartRestWrongFalsely : Prop := partRestRow.holds Tryz.pinned (OpenSpec.ofChange partRestWrong)

/-- 'sumpterlaw20.PartApart': WHATEVER THE INPUT: true; the input reads as it did. -/
def partApartSpec : ChangeSpec := { name := "partApart", fn := fun _ => fun
  | [d1, d2] => { results := [.lit (.bool true)], args := [d1, d2] }
  | _ => none }
def partApartRow : OpenClaim := { program := "ythkdehgfdllpoaagreat", sum := "8a7a1bbb6777bdf00fc69560c611b5ffd096ecce406666ebde8ad351505c3c65", func := "sumpter/sumpterlaw20.PartApart", spec := "partApart", inPlace := ["internal/bytealg.abigen_runtime_cmpstring", "slices.overlaps[sumpter/api.Pair]", "slices.overlaps[sumpter/locks.Ask]", "slices.overlaps[sumpter/part.wait]", "slices.overlaps[sumpter/api.Hold]", "slices.overlaps[uint64]"], unfollowed := true, recurses := true, apart := false }
def PartApartSaid : Prop := partApartRow.holds Tryz.pinned (OpenSpec.ofChange partApartSpec)

/-- ITS FALSE NEIGHBOUR: 'it returns false'. Refute it at one input. -/
def partApartWrong : ChangeSpec := { name := "partApart", fn := fun _ => fun
  | [d1, d2] => { results := [.lit (.bool false)], args := [d1, d2] }
  | _ => none }
def PartApartWrongFalsely : Prop := partApartRow.holds Tryz.pinned (OpenSpec.ofChange partApartWrong)

/-- 'sumpterlaw20.PartShips': WHATEVER THE INPUT: true; the input reads as it did. -/
def partShipsSpec : ChangeSpec := { name := "partShips", fn := fun _ => fun
  | [d1, d2, d3] => { results := [.lit (.bool true)], args := [d1, d2, d3] }
  | _ => none }
def partShipsRow : OpenClaim := { program := "ythkdehgfdllpoaagreat", sum := "8a7a1bbb6777bdf00fc69560c611b5ffd096ecce406666ebde8ad351505c3c65", func := "sumpter/sumpterlaw20.PartShips", spec := "partShips", inPlace := ["internal/bytealg.abigen_runtime_cmpstring", "slices.overlaps[sumpter/api.Pair]", "slices.overlaps[sumpter/locks.Ask]", "slices.overlaps[sumpter/part.wait]", "slices.overlaps[sumpter/api.Hold]", "slices.overlaps[uint64]"], unfollowed := true, recurses := true, apart := false }
def PartShipsSaid : Prop := partShipsRow.holds Tryz.pinned (OpenSpec.ofChange partShipsSpec)

/-- ITS FALSE NEIGHBOUR: 'it returns false'. Refute it at one input. -/
def partShipsWrong : ChangeSpec := { name := "partShips", fn := fun _ => fun
  | [d1, d2, d3] => { results := [.lit (.bool false)], args := [d1, d2, d3] }
  | _ => none }
def PartShipsWrongFalsely : Prop := partShipsRow.holds Tryz.pinned (OpenSpec.ofChange partShipsWrong)

/- THE SECOND FORM. 'bulk': how many values and letters a reading holds, each counted each time it is reached (what is shared counts as often as it is met; a slice's spare places count too). A statement '..UptoSaid' is the law's where the arguments, and the package variables that the reading takes, are together of bulk at most 1048576: NARROWER than '..Said'. Prove '..Said' where nothing that the law and all that it calls make is longer than what came in: it says more and counts as full. Else prove '..UptoSaid'. A law counts once. -/
mutual
def uptoBulk {H : Type} : DataW H → Nat
  | .lit (.string bytes) => bytes.length + 1
  | .lit _ => 1
  | .nil => 1
  | .ptr d => uptoBulk d + 1
  | .slice elems spare => uptoBulkAll elems + uptoBulkAll spare + 1
  | .agg parts => uptoBulkAll parts + 1
  | .iface _ d => uptoBulk d + 1
  | .map entries => uptoBulkEntries entries + 1
  | .held _ => 1
def uptoBulkAll {H : Type} : List (DataW H) → Nat
  | [] => 0
  | d :: r => uptoBulk d + uptoBulkAll r
def uptoBulkEntries {H : Type} : List (Lit × DataW H) → Nat
  | [] => 0
  | x :: r => uptoBulkEntry x + uptoBulkEntries r
def uptoBulkEntry {H : Type} : Lit × DataW H → Nat
  | (.string bytes, d) => bytes.length + uptoBulk d + 1
  | (_, d) => uptoBulk d + 1
 end
def uptoSmall : (H : Type) → List (DataW H) → Bool := fun _ ds => decide (uptoBulkAll ds ≤ 1048576)
def OpenSpec.upto (s : _root_.Go.ChangeSpec) : _root_.Go.OpenSpec := { _root_.Go.OpenSpec.ofChange s with cond := some uptoSmall }

/-- 'sumpterlaw20.PartOnce', WHERE WHAT IT READS IS OF BULK AT MOST 1048576: true; the input reads as it did. -/
def partOnceUptoRow : OpenClaim := { program := "ythkdehgfdllpoaagreat", sum := "8a7a1bbb6777bdf00fc69560c611b5ffd096ecce406666ebde8ad351505c3c65", func := "sumpter/sumpterlaw20.PartOnce", spec := "partOnce", inPlace := ["internal/bytealg.abigen_runtime_cmpstring", "slices.overlaps[sumpter/api.Pair]", "slices.overlaps[sumpter/locks.Ask]", "slices.overlaps[sumpter/part.wait]", "slices.overlaps[sumpter/api.Hold]", "slices.overlaps[uint64]"], unfollowed := true, recurses := true, apart := false, narrowed := true }
def PartOnceUptoSaid : Prop := partOnceUptoRow.holds Tryz.pinned (OpenSpec.upto partOnceSpec)

/-- 'sumpterlaw20.PartReads', WHERE WHAT IT READS IS OF BULK AT MOST 1048576: true; the input reads as it did. -/
def partReadsUptoRow : OpenClaim := { program := "ythkdehgfdllpoaagreat", sum := "8a7a1bbb6777bdf00fc69560c611b5ffd096ecce406666ebde8ad351505c3c65", func := "sumpter/sumpterlaw20.PartReads", spec := "partReads", inPlace := ["internal/bytealg.abigen_runtime_cmpstring", "slices.overlaps[sumpter/api.Pair]", "slices.overlaps[sumpter/locks.Ask]", "slices.overlaps[sumpter/part.wait]", "slices.overlaps[sumpter/api.Hold]", "slices.overlaps[uint64]"], unfollowed := true, recurses := true, apart := false, narrowed := true }
def PartReadsUptoSaid : Prop := partReadsUptoRow.holds Tryz.pinned (OpenSpec.upto partReadsSpec)

/-- 'sumpterlaw20.PartRest', WHERE WHAT IT READS IS OF BULK AT MOST 1048576: true; the input reads as it did. -/
def partRestUptoRow : OpenClaim := { program := "ythkdehgfdllpoaagreat", sum := "8a7a1bbb6777bdf00fc69560c611b5ffd096ecce406666ebde8ad351505c3c65", func := "sumpter/sumpterlaw20.PartRest", spec := "partRest", inPlace := ["internal/bytealg.abigen_runtime_cmpstring", "slices.overlaps[sumpter/api.Pair]", "slices.overlaps[sumpter/locks.Ask]", "slices.overlaps[sumpter/part.wait]", "slices.overlaps[sumpter/api.Hold]", "slices.overlaps[uint64]"], unfollowed := true, recurses := true, apart := false, narrowed := true }
def PartRestUptoSaid : Prop := partRestUptoRow.holds Tryz.pinned (OpenSpec.upto partRestSpec)

/-- 'sumpterlaw20.PartApart', WHERE WHAT IT READS IS OF BULK AT MOST 1048576: true; the input reads as it did. -/
def partApartUptoRow : OpenClaim := { program := "ythkdehgfdllpoaagreat", sum := "8a7a1bbb6777bdf00fc69560c611b5ffd096ecce406666ebde8ad351505c3c65", func := "sumpter/sumpterlaw20.PartApart", spec := "partApart", inPlace := ["internal/bytealg.abigen_runtime_cmpstring", "slices.overlaps[sumpter/api.Pair]", "slices.overlaps[sumpter/locks.Ask]", "slices.overlaps[sumpter/part.wait]", "slices.overlaps[sumpter/api.Hold]", "slices.overlaps[uint64]"], unfollowed := true, recurses := true, apart := false, narrowed := true }
def PartApartUptoSaid : Prop := partApartUptoRow.holds Tryz.pinned (OpenSpec.upto partApartSpec)

/-- 'sumpterlaw20.PartShips', WHERE WHAT IT READS IS OF BULK AT MOST 1048576: true; the input reads as it did. -/
def partShipsUptoRow : OpenClaim := { program := "ythkdehgfdllpoaagreat", sum := "8a7a1bbb6777bdf00fc69560c611b5ffd096ecce406666ebde8ad351505c3c65", func := "sumpter/sumpterlaw20.PartShips", spec := "partShips", inPlace := ["internal/bytealg.abigen_runtime_cmpstring", "slices.overlaps[sumpter/api.Pair]", "slices.overlaps[sumpter/locks.Ask]", "slices.overlaps[sumpter/part.wait]", "slices.overlaps[sumpter/api.Hold]", "slices.overlaps[uint64]"], unfollowed := true, recurses := true, apart := false, narrowed := true }
def PartShipsUptoSaid : Prop := partShipsUptoRow.holds Tryz.pinned (OpenSpec.upto partShipsSpec)

end Rows
end Go.Proofs.YthkdehgfdllpoaaGreat
