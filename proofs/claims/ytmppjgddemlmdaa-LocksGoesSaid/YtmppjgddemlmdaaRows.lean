/-
  No cell of these rows narrows 'for every input' (looked for: loops, veiled, ifaces, maps, wideKeys, modest, calm, conditions, laid).
  DERIVED. THE GIVEN ROWS OF THIS SEAT. 5 by the template 'for every input the law returns true; each argument reads behind the call as it read before'; 0 by the template 'total and deterministic' (their statements: YtmppjgddemlmdaaTotals.lean).
  GIVEN WITH THE SEED: the statements are not yours to turn. If you find one false, say at which input.
  Laid BY PROGRAM, IN A SANDBOX (cutbox-rows.mjs): the forced cells as the released guide's own fill.sh prints them over the translation c32b00f622bc05bf… (all of the seat's roots in one cut). By AI agents, Wed Nov 11 2026. No macro, syntax, notation, axiom, sorry.
-/
import Derived.Test.YtmppjgddemlmdaaChecked
import GoSem.Claim
import GoSem.ClaimJoined
import GoSem.ClaimMapViews
import Derived.JoinedTies
import Derived.KernelRfl
namespace Go.Proofs.Ytmppjgddemlmdaa
/- THE CELL 'sum', in the pinned program and in every row, IS THE sha256 OF THE DUMP (.gsa) THAT YtmppjgddemlmdaaProg.lean LOADS. Nothing in Lean hashes anything: it is a label: what it is worth is what the hold of that sum in a sandbox is worth. -/
noncomputable def Try.pinned : Pinned := { name := "ytmppjgddemlmdaa", sum := "c32b00f622bc05bfd5f0e7dd97cf0d8cb59b9bd72049e0f30c255d69d0a23374", checked := Try.checked }
namespace Rows
def none {H : Type} : Left H := { results := [], args := [] }

/-- 'sumpterlaw16.LocksReads': WHATEVER THE INPUT: true; the input reads as it did. -/
def locksReadsSpec : ChangeSpec := { name := "locksReads", fn := fun _ => fun
  | [d] => { results := [.lit (.bool true)], args := [d] }
  | _ => none }
def locksReadsRow : OpenClaim := { program := "ytmppjgddemlmdaa", sum := "c32b00f622bc05bfd5f0e7dd97cf0d8cb59b9bd72049e0f30c255d69d0a23374", func := "sumpter/sumpterlaw16.LocksReads", spec := "locksReads", inPlace := ["slices.overlaps[sumpter/locks.Ask]"], unfollowed := true, recurses := true, apart := false }
def LocksReadsSaid : Prop := locksReadsRow.holds Try.pinned (OpenSpec.ofChange locksReadsSpec)

/-- ITS FALSE NEIGHBOUR: 'it returns false'. Refute it at one input. -/
def locksReadsWrong : ChangeSpec := { name := "locksReads", fn := fun _ => fun
  | [d] => { results := [.lit (.bool false)], args := [d] }
  | _ => none }
def LocksReadsWrongFalsely : Prop := locksReadsRow.holds Try.pinned (OpenSpec.ofChange locksReadsWrong)

/-- 'sumpterlaw16.LocksElder': WHATEVER THE INPUT: true; the input reads as it did. -/
def locksElderSpec : ChangeSpec := { name := "locksElder", fn := fun _ => fun
  | [d1, d2] => { results := [.lit (.bool true)], args := [d1, d2] }
  | _ => none }
def locksElderRow : OpenClaim := { program := "ytmppjgddemlmdaa", sum := "c32b00f622bc05bfd5f0e7dd97cf0d8cb59b9bd72049e0f30c255d69d0a23374", func := "sumpter/sumpterlaw16.LocksElder", spec := "locksElder", inPlace := ["slices.overlaps[sumpter/locks.Ask]"], unfollowed := true, recurses := true, apart := false }
def LocksElderSaid : Prop := locksElderRow.holds Try.pinned (OpenSpec.ofChange locksElderSpec)

/-- ITS FALSE NEIGHBOUR: 'it returns false'. Refute it at one input. -/
def locksElderWrong : ChangeSpec := { name := "locksElder", fn := fun _ => fun
  | [d1, d2] => { results := [.lit (.bool false)], args := [d1, d2] }
  | _ => none }
def LocksElderWrongFalsely : Prop := locksElderRow.holds Try.pinned (OpenSpec.ofChange locksElderWrong)

/-- 'sumpterlaw16.LocksApart': WHATEVER THE INPUT: true; the input reads as it did. -/
def locksApartSpec : ChangeSpec := { name := "locksApart", fn := fun _ => fun
  | [d] => { results := [.lit (.bool true)], args := [d] }
  | _ => none }
def locksApartRow : OpenClaim := { program := "ytmppjgddemlmdaa", sum := "c32b00f622bc05bfd5f0e7dd97cf0d8cb59b9bd72049e0f30c255d69d0a23374", func := "sumpter/sumpterlaw16.LocksApart", spec := "locksApart", inPlace := ["slices.overlaps[sumpter/locks.Ask]"], unfollowed := true, recurses := true, apart := false }
def LocksApartSaid : Prop := locksApartRow.holds Try.pinned (OpenSpec.ofChange locksApartSpec)

/-- ITS FALSE NEIGHBOUR: 'it returns false'. Refute it at one input. -/
def locksApartWrong : ChangeSpec := { name := "locksApart", fn := fun _ => fun
  | [d] => { results := [.lit (.bool false)], args := [d] }
  | _ => none }
def LocksApartWrongFalsely : Prop := locksApartRow.holds Try.pinned (OpenSpec.ofChange locksApartWrong)

/-- 'sumpterlaw16.LocksEnd': WHATEVER THE INPUT: true; the input reads as it did. -/
def locksEndSpec : ChangeSpec := { name := "locksEnd", fn := fun _ => fun
  | [d1, d2] => { results := [.lit (.bool true)], args := [d1, d2] }
  | _ => none }
def locksEndRow : OpenClaim := { program := "ytmppjgddemlmdaa", sum := "c32b00f622bc05bfd5f0e7dd97cf0d8cb59b9bd72049e0f30c255d69d0a23374", func := "sumpter/sumpterlaw16.LocksEnd", spec := "locksEnd", inPlace := ["slices.overlaps[sumpter/locks.Ask]"], unfollowed := true, recurses := true, apart := false }
def LocksEndSaid : Prop := locksEndRow.holds Try.pinned (OpenSpec.ofChange locksEndSpec)

/-- ITS FALSE NEIGHBOUR: 'it returns false'. Refute it at one input. -/
def locksEndWrong : ChangeSpec := { name := "locksEnd", fn := fun _ => fun
  | [d1, d2] => { results := [.lit (.bool false)], args := [d1, d2] }
  | _ => none }
def LocksEndWrongFalsely : Prop := locksEndRow.holds Try.pinned (OpenSpec.ofChange locksEndWrong)

/-- 'sumpterlaw16.LocksGoes': WHATEVER THE INPUT: true; the input reads as it did. -/
def locksGoesSpec : ChangeSpec := { name := "locksGoes", fn := fun _ => fun
  | [d] => { results := [.lit (.bool true)], args := [d] }
  | _ => none }
def locksGoesRow : OpenClaim := { program := "ytmppjgddemlmdaa", sum := "c32b00f622bc05bfd5f0e7dd97cf0d8cb59b9bd72049e0f30c255d69d0a23374", func := "sumpter/sumpterlaw16.LocksGoes", spec := "locksGoes", inPlace := ["slices.overlaps[sumpter/locks.Ask]"], unfollowed := true, recurses := true, apart := false }
def LocksGoesSaid : Prop := locksGoesRow.holds Try.pinned (OpenSpec.ofChange locksGoesSpec)

/-- ITS FALSE NEIGHBOUR: 'it returns false'. Refute it at one input. -/
def locksGoesWrong : ChangeSpec := { name := "locksGoes", fn := fun _ => fun
  | [d] => { results := [.lit (.bool false)], args := [d] }
  | _ => none }
def LocksGoesWrongFalsely : Prop := locksGoesRow.holds Try.pinned (OpenSpec.ofChange locksGoesWrong)

/- THE SECOND FORM. 'bulk': how many values and letters a reading holds, each counted each time it is reached (what is shared counts as often as it is met; a slice's spare places count too). A statement '..UptoSaid' is the law's where the arguments, and the package variables that the reading takes, are together of bulk at most 1048576: NARROWER than '..Said'. Prove '..Said' where nothing that the law and all that it calls make is longer than what came in: it says more and counts as full. Else prove '..UptoSaid'. A law counts once. -/
mutual
def uptoBulk {H : Type} : DataW H → Nat
  | .lit (.string bytes) => bytes.length + 1
  | .lit _ => 1
  | .nil => 1
  | .ptr d => uptoBulk d + 1
  | .slice elems spare => uptoBulkAll elems + uptoBulkAll spare + 1
  | .agg parts => uptoBulkAll parts + 1
  | .iface _ d => uptoBulk d + 1
  | .map entries => uptoBulkEntries entries + 1
  | .held _ => 1
def uptoBulkAll {H : Type} : List (DataW H) → Nat
  | [] => 0
  | d :: r => uptoBulk d + uptoBulkAll r
def uptoBulkEntries {H : Type} : List (Lit × DataW H) → Nat
  | [] => 0
  | x :: r => uptoBulkEntry x + uptoBulkEntries r
def uptoBulkEntry {H : Type} : Lit × DataW H → Nat
  | (.string bytes, d) => bytes.length + uptoBulk d + 1
  | (_, d) => uptoBulk d + 1
 end
def uptoSmall : (H : Type) → List (DataW H) → Bool := fun _ ds => decide (uptoBulkAll ds ≤ 1048576)
def OpenSpec.upto (s : _root_.Go.ChangeSpec) : _root_.Go.OpenSpec := { _root_.Go.OpenSpec.ofChange s with cond := some uptoSmall }

/-- 'sumpterlaw16.LocksReads', WHERE WHAT IT READS IS OF BULK AT MOST 1048576: true; the input reads as it did. -/
def locksReadsUptoRow : OpenClaim := { program := "ytmppjgddemlmdaa", sum := "c32b00f622bc05bfd5f0e7dd97cf0d8cb59b9bd72049e0f30c255d69d0a23374", func := "sumpter/sumpterlaw16.LocksReads", spec := "locksReads", inPlace := ["slices.overlaps[sumpter/locks.Ask]"], unfollowed := true, recurses := true, apart := false, narrowed := true }
def LocksReadsUptoSaid : Prop := locksReadsUptoRow.holds Try.pinned (OpenSpec.upto locksReadsSpec)

/-- 'sumpterlaw16.LocksElder', WHERE WHAT IT READS IS OF BULK AT MOST 1048576: true; the input reads as it did. -/
def locksElderUptoRow : OpenClaim := { program := "ytmppjgddemlmdaa", sum := "c32b00f622bc05bfd5f0e7dd97cf0d8cb59b9bd72049e0f30c255d69d0a23374", func := "sumpter/sumpterlaw16.LocksElder", spec := "locksElder", inPlace := ["slices.overlaps[sumpter/locks.Ask]"], unfollowed := true, recurses := true, apart := false, narrowed := true }
def LocksElderUptoSaid : Prop := locksElderUptoRow.holds Try.pinned (OpenSpec.upto locksElderSpec)

/-- 'sumpterlaw16.LocksApart', WHERE WHAT IT READS IS OF BULK AT MOST 1048576: true; the input reads as it did. -/
def locksApartUptoRow : OpenClaim := { program := "ytmppjgddemlmdaa", sum := "c32b00f622bc05bfd5f0e7dd97cf0d8cb59b9bd72049e0f30c255d69d0a23374", func := "sumpter/sumpterlaw16.LocksApart", spec := "locksApart", inPlace := ["slices.overlaps[sumpter/locks.Ask]"], unfollowed := true, recurses := true, apart := false, narrowed := true }
def LocksApartUptoSaid : Prop := locksApartUptoRow.holds Try.pinned (OpenSpec.upto locksApartSpec)

/-- 'sumpterlaw16.LocksEnd', WHERE WHAT IT READS IS OF BULK AT MOST 1048576: true; the input reads as it did. -/
def locksEndUptoRow : OpenClaim := { program := "ytmppjgddemlmdaa", sum := "c32b00f622bc05bfd5f0e7dd97cf0d8cb59b9bd72049e0f30c255d69d0a23374", func := "sumpter/sumpterlaw16.LocksEnd", spec := "locksEnd", inPlace := ["slices.overlaps[sumpter/locks.Ask]"], unfollowed := true, recurses := true, apart := false, narrowed := true }
def LocksEndUptoSaid : Prop := locksEndUptoRow.holds Try.pinned (OpenSpec.upto locksEndSpec)

/-- 'sumpterlaw16.LocksGoes', WHERE WHAT IT READS IS OF BULK AT MOST 1048576: true; the input reads as it did. -/
def locksGoesUptoRow : OpenClaim := { program := "ytmppjgddemlmdaa", sum := "c32b00f622bc05bfd5f0e7dd97cf0d8cb59b9bd72049e0f30c255d69d0a23374", func := "sumpter/sumpterlaw16.LocksGoes", spec := "locksGoes", inPlace := ["slices.overlaps[sumpter/locks.Ask]"], unfollowed := true, recurses := true, apart := false, narrowed := true }
def LocksGoesUptoSaid : Prop := locksGoesUptoRow.holds Try.pinned (OpenSpec.upto locksGoesSpec)

end Rows
end Go.Proofs.Ytmppjgddemlmdaa
