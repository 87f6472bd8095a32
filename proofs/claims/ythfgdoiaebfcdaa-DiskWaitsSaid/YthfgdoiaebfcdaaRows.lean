/-
  No cell of these rows narrows 'for every input' (looked for: loops, veiled, ifaces, maps, wideKeys, modest, calm, conditions, laid).
  DERIVED. THE GIVEN ROWS OF THIS SEAT. 5 by the template 'for every input the law returns true; each argument reads behind the call as it read before'; 0 by the template 'total and deterministic' (their statements: YthfgdoiaebfcdaaTotals.lean).
  GIVEN WITH THE SEED: the statements are not yours to turn. If you find one false, say at which input.
  Laid BY PROGRAM, IN A SANDBOX (cutbox-rows.mjs): the forced cells as the released guide's own fill.sh prints them over the translation b98142934173c798… (all of the seat's roots in one cut). By AI agents, Wed Nov 11 2026. No macro, syntax, notation, axiom, sorry.
-/
import Derived.Test.YthfgdoiaebfcdaaChecked
import GoSem.Claim
import GoSem.ClaimJoined
import GoSem.ClaimMapViews
import Derived.JoinedTies
import Derived.KernelRfl
namespace Go.Proofs.Ythfgdoiaebfcdaa
/- THE CELL 'sum', in the pinned program and in every row, IS THE sha256 OF THE DUMP (.gsa) THAT YthfgdoiaebfcdaaProg.lean LOADS. Nothing in Lean hashes anything: it is a label: what it is worth is what the hold of that sum in a sandbox is worth. -/
noncomputable def Try.pinned : Pinned := { name := "ythfgdoiaebfcdaa", sum := "b98142934173c798deeb91b7c8f8ac0c00c47982dcd948cac50a54fc1ff96a60", checked := Try.checked }
namespace Rows
def none {H : Type} : Left H := { results := [], args := [] }

/-- 'sumpterlaw06.DiskSafe': WHATEVER THE INPUT: true; the input reads as it did. -/
def diskSafeSpec : ChangeSpec := { name := "diskSafe", fn := fun _ => fun
  | [d1, d2, d3] => { results := [.lit (.bool true)], args := [d1, d2, d3] }
  | _ => none }
def diskSafeRow : OpenClaim := { program := "ythfgdoiaebfcdaa", sum := "b98142934173c798deeb91b7c8f8ac0c00c47982dcd948cac50a54fc1ff96a60", func := "sumpter/sumpterlaw06.DiskSafe", spec := "diskSafe", unfollowed := true, recurses := true, apart := false }
def DiskSafeSaid : Prop := diskSafeRow.holds Try.pinned (OpenSpec.ofChange diskSafeSpec)

/-- ITS FALSE NEIGHBOUR: 'it returns false'. Refute it at one input. -/
def diskSafeWrong : ChangeSpec := { name := "diskSafe", fn := fun _ => fun
  | [d1, d2, d3] => { results := [.lit (.bool false)], args := [d1, d2, d3] }
  | _ => none }
def DiskSafeWrongFalsely : Prop := diskSafeRow.holds Try.pinned (OpenSpec.ofChange diskSafeWrong)

/-- 'sumpterlaw06.DiskFuse': WHATEVER THE INPUT: true; the input reads as it did. -/
def diskFuseSpec : ChangeSpec := { name := "diskFuse", fn := fun _ => fun
  | [d1, d2] => { results := [.lit (.bool true)], args := [d1, d2] }
  | _ => none }
def diskFuseRow : OpenClaim := { program := "ythfgdoiaebfcdaa", sum := "b98142934173c798deeb91b7c8f8ac0c00c47982dcd948cac50a54fc1ff96a60", func := "sumpter/sumpterlaw06.DiskFuse", spec := "diskFuse", unfollowed := true, recurses := true, apart := false }
def DiskFuseSaid : Prop := diskFuseRow.holds Try.pinned (OpenSpec.ofChange diskFuseSpec)

/-- ITS FALSE NEIGHBOUR: 'it returns false'. Refute it at one input. -/
def diskFuseWrong : ChangeSpec := { name := "diskFuse", fn := fun _ => fun
  | [d1, d2] => { results := [.lit (.bool false)], args := [d1, d2] }
  | _ => none }
def DiskFuseWrongFalsely : Prop := diskFuseRow.holds Try.pinned (OpenSpec.ofChange diskFuseWrong)

/-- 'sumpterlaw06.DiskWaits': WHATEVER THE INPUT: true; the input reads as it did. -/
def diskWaitsSpec : ChangeSpec := { name := "diskWaits", fn := fun _ => fun
  | [d] => { results := [.lit (.bool true)], args := [d] }
  | _ => none }
def diskWaitsRow : OpenClaim := { program := "ythfgdoiaebfcdaa", sum := "b98142934173c798deeb91b7c8f8ac0c00c47982dcd948cac50a54fc1ff96a60", func := "sumpter/sumpterlaw06.DiskWaits", spec := "diskWaits", unfollowed := true, recurses := true, apart := false }
def DiskWaitsSaid : Prop := diskWaitsRow.holds Try.pinned (OpenSpec.ofChange diskWaitsSpec)

/-- ITS FALSE NEIGHBOUR: 'it returns false'. Refute it at one input. -/
def diskWaitsWrong : ChangeSpec := { name := "diskWaits", fn := fun _ => fun
  | [d] => { results := [.lit (.bool false)], args := [d] }
  | _ => none }
def DiskWaitsWrongFalsely : Prop := diskWaitsRow.holds Try.pinned (OpenSpec.ofChange diskWaitsWrong)

/-- 'sumpterlaw06.DiskClone': WHATEVER THE INPUT: true; the input reads as it did. -/
def diskCloneSpec : ChangeSpec := { name := "diskClone", fn := fun _ => fun
  | [d1, d2, d3] => { results := [.lit (.bool true)], args := [d1, d2, d3] }
  | _ => none }
def diskCloneRow : OpenClaim := { program := "ythfgdoiaebfcdaa", sum := "b98142934173c798deeb91b7c8f8ac0c00c47982dcd948cac50a54fc1ff96a60", func := "sumpter/sumpterlaw06.DiskClone", spec := "diskClone", inPlace := ["maps.clone"], unfollowed := true, recurses := true, apart := false }
def DiskCloneSaid : Prop := diskCloneRow.holds Try.pinned (OpenSpec.ofChange diskCloneSpec)

/-- ITS FALSE NEIGHBOUR: 'it returns false'. Refute it at one input. -/
def diskCloneWrong : ChangeSpec := { name := "diskClone", fn := fun _ => fun
  | [d1, d2, d3] => { results := [.lit (.bool false)], args := [d1, d2, d3] }
  | _ => none }
def DiskCloneWrongFalsely : Prop := diskCloneRow.holds Try.pinned (OpenSpec.ofChange diskCloneWrong)

/-- 'sumpterlaw06.DiskGoes': WHATEVER THE INPUT: true; the input reads as it did. -/
def diskGoesSpec : ChangeSpec := { name := "diskGoes", fn := fun _ => fun
  | [d1, d2] => { results := [.lit (.bool true)], args := [d1, d2] }
  | _ => none }
def diskGoesRow : OpenClaim := { program := "ythfgdoiaebfcdaa", sum := "b98142934173c798deeb91b7c8f8ac0c00c47982dcd948cac50a54fc1ff96a60", func := "sumpter/sumpterlaw06.DiskGoes", spec := "diskGoes", inPlace := ["maps.clone"], unfollowed := true, recurses := true, apart := false }
def DiskGoesSaid : Prop := diskGoesRow.holds Try.pinned (OpenSpec.ofChange diskGoesSpec)

/-- ITS FALSE NEIGHBOUR: 'it returns false'. Refute it at one input. -/
def diskGoesWrong : ChangeSpec := { name := "diskGoes", fn := fun _ => fun
  | [d1, d2] => { results := [.lit (.bool false)], args := [d1, d2] }
  | _ => none }
def DiskGoesWrongFalsely : Prop := diskGoesRow.holds Try.pinned (OpenSpec.ofChange diskGoesWrong)

/- THE SECOND FORM. 'bulk': how many values and letters a reading holds, each counted each time it is reached (what is shared counts as often as it is met; a slice's spare places count too). A statement '..UptoSaid' is the law's where the arguments, and the package variables that the reading takes, are together of bulk at most 1048576: NARROWER than '..Said'. Prove '..Said' where nothing that the law and all that it calls make is longer than what came in: it says more and counts as full. Else prove '..UptoSaid'. A law counts once. -/
mutual
def uptoBulk {H : Type} : DataW H → Nat
  | .lit (.string bytes) => bytes.length + 1
  | .lit _ => 1
  | .nil => 1
  | .ptr d => uptoBulk d + 1
  | .slice elems spare => uptoBulkAll elems + uptoBulkAll spare + 1
  | .agg parts => uptoBulkAll parts + 1
  | .iface _ d => uptoBulk d + 1
  | .map entries => uptoBulkEntries entries + 1
  | .held _ => 1
def uptoBulkAll {H : Type} : List (DataW H) → Nat
  | [] => 0
  | d :: r => uptoBulk d + uptoBulkAll r
def uptoBulkEntries {H : Type} : List (Lit × DataW H) → Nat
  | [] => 0
  | x :: r => uptoBulkEntry x + uptoBulkEntries r
def uptoBulkEntry {H : Type} : Lit × DataW H → Nat
  | (.string bytes, d) => bytes.length + uptoBulk d + 1
  | (_, d) => uptoBulk d + 1
 end
def uptoSmall : (H : Type) → List (DataW H) → Bool := fun _ ds => decide (uptoBulkAll ds ≤ 1048576)
def OpenSpec.upto (s : _root_.Go.ChangeSpec) : _root_.Go.OpenSpec := { _root_.Go.OpenSpec.ofChange s with cond := some uptoSmall }

/-- 'sumpterlaw06.DiskSafe', WHERE WHAT IT READS IS OF BULK AT MOST 1048576: true; the input reads as it did. -/
def diskSafeUptoRow : OpenClaim := { program := "ythfgdoiaebfcdaa", sum := "b98142934173c798deeb91b7c8f8ac0c00c47982dcd948cac50a54fc1ff96a60", func := "sumpter/sumpterlaw06.DiskSafe", spec := "diskSafe", unfollowed := true, recurses := true, apart := false, narrowed := true }
def DiskSafeUptoSaid : Prop := diskSafeUptoRow.holds Try.pinned (OpenSpec.upto diskSafeSpec)

/-- 'sumpterlaw06.DiskFuse', WHERE WHAT IT READS IS OF BULK AT MOST 1048576: true; the input reads as it did. -/
def diskFuseUptoRow : OpenClaim := { program := "ythfgdoiaebfcdaa", sum := "b98142934173c798deeb91b7c8f8ac0c00c47982dcd948cac50a54fc1ff96a60", func := "sumpter/sumpterlaw06.DiskFuse", spec := "diskFuse", unfollowed := true, recurses := true, apart := false, narrowed := true }
def DiskFuseUptoSaid : Prop := diskFuseUptoRow.holds Try.pinned (OpenSpec.upto diskFuseSpec)

/-- 'sumpterlaw06.DiskWaits', WHERE WHAT IT READS IS OF BULK AT MOST 1048576: true; the input reads as it did. -/
def diskWaitsUptoRow : OpenClaim := { program := "ythfgdoiaebfcdaa", sum := "b98142934173c798deeb91b7c8f8ac0c00c47982dcd948cac50a54fc1ff96a60", func := "sumpter/sumpterlaw06.DiskWaits", spec := "diskWaits", unfollowed := true, recurses := true, apart := false, narrowed := true }
def DiskWaitsUptoSaid : Prop := diskWaitsUptoRow.holds Try.pinned (OpenSpec.upto diskWaitsSpec)

/-- 'sumpterlaw06.DiskClone', WHERE WHAT IT READS IS OF BULK AT MOST 1048576: true; the input reads as it did. -/
def diskCloneUptoRow : OpenClaim := { program := "ythfgdoiaebfcdaa", sum := "b98142934173c798deeb91b7c8f8ac0c00c47982dcd948cac50a54fc1ff96a60", func := "sumpter/sumpterlaw06.DiskClone", spec := "diskClone", inPlace := ["maps.clone"], unfollowed := true, recurses := true, apart := false, narrowed := true }
def DiskCloneUptoSaid : Prop := diskCloneUptoRow.holds Try.pinned (OpenSpec.upto diskCloneSpec)

/-- 'sumpterlaw06.DiskGoes', WHERE WHAT IT READS IS OF BULK AT MOST 1048576: true; the input reads as it did. -/
def diskGoesUptoRow : OpenClaim := { program := "ythfgdoiaebfcdaa", sum := "b98142934173c798deeb91b7c8f8ac0c00c47982dcd948cac50a54fc1ff96a60", func := "sumpter/sumpterlaw06.DiskGoes", spec := "diskGoes", inPlace := ["maps.clone"], unfollowed := true, recurses := true, apart := false, narrowed := true }
def DiskGoesUptoSaid : Prop := diskGoesUptoRow.holds Try.pinned (OpenSpec.upto diskGoesSpec)

end Rows
end Go.Proofs.Ythfgdoiaebfcdaa
