/-
  No cell of these rows narrows 'for every input' (looked for: loops, veiled, ifaces, maps, wideKeys, modest, calm, conditions, laid).
  DERIVED. THE GIVEN ROWS OF THIS SEAT. 4 by the template 'for every input the law returns true; each argument reads behind the call as it read before'; 0 by the template 'total and deterministic' (their statements: YtdpbgcplcjhjmaaTotals.lean).
  GIVEN WITH THE SEED: the statements are not yours to turn. If you find one false, say at which input.
  Laid BY PROGRAM, IN A SANDBOX (cutbox-rows.mjs): the forced cells as the released guide's own fill.sh prints them over the translation 1cd30eeba4e1129c… (all of the seat's roots in one cut). By AI agents, Wed Nov 11 2026. No macro, syntax, notation, axiom, sorry.
-/
import Derived.Test.YtdpbgcplcjhjmaaChecked
import GoSem.Claim
import GoSem.ClaimJoined
import GoSem.ClaimMapViews
import Derived.JoinedTies
import Derived.KernelRfl
namespace Go.Proofs.Ytdpbgcplcjhjmaa
/- THE CELL 'sum', in the pinned program and in every row, IS THE sha256 OF THE DUMP (.gsa) THAT YtdpbgcplcjhjmaaProg.lean LOADS. Nothing in Lean hashes anything: it is a label: what it is worth is what the hold of that sum in a sandbox is worth. -/
noncomputable def Try.pinned : Pinned := { name := "ytdpbgcplcjhjmaa", sum := "1cd30eeba4e1129c14c46f9973aedb2204973689ae1fc58282e7d2f5e510a076", checked := Try.checked }
namespace Rows
def none {H : Type} : Left H := { results := [], args := [] }

/-- 'sumpterlaw08.AllocLeast': WHATEVER THE INPUT: true; the input reads as it did. -/
def allocLeastSpec : ChangeSpec := { name := "allocLeast", fn := fun _ => fun
  | [d1, d2, d3] => { results := [.lit (.bool true)], args := [d1, d2, d3] }
  | _ => none }
def allocLeastRow : OpenClaim := { program := "ytdpbgcplcjhjmaa", sum := "1cd30eeba4e1129c14c46f9973aedb2204973689ae1fc58282e7d2f5e510a076", func := "sumpter/sumpterlaw08.AllocLeast", spec := "allocLeast", apart := false }
def AllocLeastSaid : Prop := allocLeastRow.holds Try.pinned (OpenSpec.ofChange allocLeastSpec)

/-- ITS FALSE NEIGHBOUR: 'it returns false'. Refute it at one input. -/
def allocLeastWrong : ChangeSpec := { name := "allocLeast", fn := fun _ => fun
  | [d1, d2, d3] => { results := [.lit (.bool false)], args := [d1, d2, d3] }
  | _ => none }
def AllocLeastWrongFalsely : Prop := allocLeastRow.holds Try.pinned (OpenSpec.ofChange allocLeastWrong)

/-- 'sumpterlaw08.AllocOnce': WHATEVER THE INPUT: true; the input reads as it did. -/
def allocOnceSpec : ChangeSpec := { name := "allocOnce", fn := fun _ => fun
  | [d1, d2] => { results := [.lit (.bool true)], args := [d1, d2] }
  | _ => none }
def allocOnceRow : OpenClaim := { program := "ytdpbgcplcjhjmaa", sum := "1cd30eeba4e1129c14c46f9973aedb2204973689ae1fc58282e7d2f5e510a076", func := "sumpter/sumpterlaw08.AllocOnce", spec := "allocOnce", apart := false }
def AllocOnceSaid : Prop := allocOnceRow.holds Try.pinned (OpenSpec.ofChange allocOnceSpec)

/-- ITS FALSE NEIGHBOUR: 'it returns false'. Refute it at one input. -/
def allocOnceWrong : ChangeSpec := { name := "allocOnce", fn := fun _ => fun
  | [d1, d2] => { results := [.lit (.bool false)], args := [d1, d2] }
  | _ => none }
def AllocOnceWrongFalsely : Prop := allocOnceRow.holds Try.pinned (OpenSpec.ofChange allocOnceWrong)

/-- 'sumpterlaw08.AllocCounts': WHATEVER THE INPUT: true; the input reads as it did. -/
def allocCountsSpec : ChangeSpec := { name := "allocCounts", fn := fun _ => fun
  | [d1, d2] => { results := [.lit (.bool true)], args := [d1, d2] }
  | _ => none }
def allocCountsRow : OpenClaim := { program := "ytdpbgcplcjhjmaa", sum := "1cd30eeba4e1129c14c46f9973aedb2204973689ae1fc58282e7d2f5e510a076", func := "sumpter/sumpterlaw08.AllocCounts", spec := "allocCounts", apart := false }
def AllocCountsSaid : Prop := allocCountsRow.holds Try.pinned (OpenSpec.ofChange allocCountsSpec)

/-- ITS FALSE NEIGHBOUR: 'it returns false'. Refute it at one input. -/
def allocCountsWrong : ChangeSpec := { name := "allocCounts", fn := fun _ => fun
  | [d1, d2] => { results := [.lit (.bool false)], args := [d1, d2] }
  | _ => none }
def AllocCountsWrongFalsely : Prop := allocCountsRow.holds Try.pinned (OpenSpec.ofChange allocCountsWrong)

/-- 'sumpterlaw08.AllocGoes': WHATEVER THE INPUT: true; the input reads as it did. -/
def allocGoesSpec : ChangeSpec := { name := "allocGoes", fn := fun _ => fun
  | [d1, d2, d3, d4] => { results := [.lit (.bool true)], args := [d1, d2, d3, d4] }
  | _ => none }
def allocGoesRow : OpenClaim := { program := "ytdpbgcplcjhjmaa", sum := "1cd30eeba4e1129c14c46f9973aedb2204973689ae1fc58282e7d2f5e510a076", func := "sumpter/sumpterlaw08.AllocGoes", spec := "allocGoes", apart := false }
def AllocGoesSaid : Prop := allocGoesRow.holds Try.pinned (OpenSpec.ofChange allocGoesSpec)

/-- ITS FALSE NEIGHBOUR: 'it returns false'. Refute it at one input. -/
def allocGoesWrong : ChangeSpec := { name := "allocGoes", fn := fun _ => fun
  | [d1, d2, d3, d4] => { results := [.lit (.bool false)], args := [d1, d2, d3, d4] }
  | _ => none }
def AllocGoesWrongFalsely : Prop := allocGoesRow.holds Try.pinned (OpenSpec.ofChange allocGoesWrong)

/- THE SECOND FORM. 'bulk': how many values and letters a reading holds, each counted each time it is reached (what is shared counts as often as it is met; a slice's spare places count too). A statement '..UptoSaid' is the law's where the arguments, and the package variables that the reading takes, are together of bulk at most 1048576: NARROWER than '..Said'. Prove '..Said' where nothing that the law and all that it calls make is longer than what came in: it says more and counts as full. Else prove '..UptoSaid'. A law counts once. -/
mutual
def uptoBulk {H : Type} : DataW H → Nat
  | .lit (.string bytes) => bytes.length + 1
  | .lit _ => 1
  | .nil => 1
  | .ptr d => uptoBulk d + 1
  | .slice elems spare => uptoBulkAll elems + uptoBulkAll spare + 1
  | .agg parts => uptoBulkAll parts + 1
  | .iface _ d => uptoBulk d + 1
  | .map entries => uptoBulkEntries entries + 1
  | .held _ => 1
def uptoBulkAll {H : Type} : List (DataW H) → Nat
  | [] => 0
  | d :: r => uptoBulk d + uptoBulkAll r
def uptoBulkEntries {H : Type} : List (Lit × DataW H) → Nat
  | [] => 0
  | x :: r => uptoBulkEntry x + uptoBulkEntries r
def uptoBulkEntry {H : Type} : Lit × DataW H → Nat
  | (.string bytes, d) => bytes.length + uptoBulk d + 1
  | (_, d) => uptoBulk d + 1
 end
def uptoSmall : (H : Type) → List (DataW H) → Bool := fun _ ds => decide (uptoBulkAll ds ≤ 1048576)
def OpenSpec.upto (s : _root_.Go.ChangeSpec) : _root_.Go.OpenSpec := { _root_.Go.OpenSpec.ofChange s with cond := some uptoSmall }

/-- 'sumpterlaw08.AllocLeast', WHERE WHAT IT READS IS OF BULK AT MOST 1048576: true; the input reads as it did. -/
def allocLeastUptoRow : OpenClaim := { program := "ytdpbgcplcjhjmaa", sum := "1cd30eeba4e1129c14c46f9973aedb2204973689ae1fc58282e7d2f5e510a076", func := "sumpter/sumpterlaw08.AllocLeast", spec := "allocLeast", apart := false, narrowed := true }
def AllocLeastUptoSaid : Prop := allocLeastUptoRow.holds Try.pinned (OpenSpec.upto allocLeastSpec)

/-- 'sumpterlaw08.AllocOnce', WHERE WHAT IT READS IS OF BULK AT MOST 1048576: true; the input reads as it did. -/
def allocOnceUptoRow : OpenClaim := { program := "ytdpbgcplcjhjmaa", sum := "1cd30eeba4e1129c14c46f9973aedb2204973689ae1fc58282e7d2f5e510a076", func := "sumpter/sumpterlaw08.AllocOnce", spec := "allocOnce", apart := false, narrowed := true }
def AllocOnceUptoSaid : Prop := allocOnceUptoRow.holds Try.pinned (OpenSpec.upto allocOnceSpec)

/-- 'sumpterlaw08.AllocCounts', WHERE WHAT IT READS IS OF BULK AT MOST 1048576: true; the input reads as it did. -/
def allocCountsUptoRow : OpenClaim := { program := "ytdpbgcplcjhjmaa", sum := "1cd30eeba4e1129c14c46f9973aedb2204973689ae1fc58282e7d2f5e510a076", func := "sumpter/sumpterlaw08.AllocCounts", spec := "allocCounts", apart := false, narrowed := true }
def AllocCountsUptoSaid : Prop := allocCountsUptoRow.holds Try.pinned (OpenSpec.upto allocCountsSpec)

/-- 'sumpterlaw08.AllocGoes', WHERE WHAT IT READS IS OF BULK AT MOST 1048576: true; the input reads as it did. -/
def allocGoesUptoRow : OpenClaim := { program := "ytdpbgcplcjhjmaa", sum := "1cd30eeba4e1129c14c46f9973aedb2204973689ae1fc58282e7d2f5e510a076", func := "sumpter/sumpterlaw08.AllocGoes", spec := "allocGoes", apart := false, narrowed := true }
def AllocGoesUptoSaid : Prop := allocGoesUptoRow.holds Try.pinned (OpenSpec.upto allocGoesSpec)

end Rows
end Go.Proofs.Ytdpbgcplcjhjmaa
