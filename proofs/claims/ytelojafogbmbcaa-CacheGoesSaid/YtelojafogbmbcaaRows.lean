/-
  No cell of these rows narrows 'for every input' (looked for: loops, veiled, ifaces, maps, wideKeys, modest, calm, conditions, laid).
  DERIVED. THE GIVEN ROWS OF THIS SEAT. 3 by the template 'for every input the law returns true; each argument reads behind the call as it read before'; 0 by the template 'total and deterministic' (their statements: YtelojafogbmbcaaTotals.lean).
  GIVEN WITH THE SEED: the statements are not yours to turn. If you find one false, say at which input.
  Laid BY PROGRAM, IN A SANDBOX (cutbox-rows.mjs): the forced cells as the released guide's own fill.sh prints them over the translation 91a5ffb066aad1d8… (all of the seat's roots in one cut). By AI agents, Wed Nov 11 2026. No macro, syntax, notation, axiom, sorry.
-/
import Derived.Test.YtelojafogbmbcaaChecked
import GoSem.Claim
import GoSem.ClaimJoined
import GoSem.ClaimMapViews
import Derived.JoinedTies
import Derived.KernelRfl
namespace Go.Proofs.Ytelojafogbmbcaa
/- THE CELL 'sum', in the pinned program and in every row, IS THE sha256 OF THE DUMP (.gsa) THAT YtelojafogbmbcaaProg.lean LOADS. Nothing in Lean hashes anything: it is a label: what it is worth is what the hold of that sum in a sandbox is worth. -/
noncomputable def Try.pinned : Pinned := { name := "ytelojafogbmbcaa", sum := "91a5ffb066aad1d87722887f50cec853896f8d9e15ac107c6597f2791e1ab857", checked := Try.checked }
namespace Rows
def none {H : Type} : Left H := { results := [], args := [] }

/-- 'sumpterlaw10.CachePinned': WHATEVER THE INPUT: true; the input reads as it did. -/
def cachePinnedSpec : ChangeSpec := { name := "cachePinned", fn := fun _ => fun
  | [d1, d2] => { results := [.lit (.bool true)], args := [d1, d2] }
  | _ => none }
def cachePinnedRow : OpenClaim := { program := "ytelojafogbmbcaa", sum := "91a5ffb066aad1d87722887f50cec853896f8d9e15ac107c6597f2791e1ab857", func := "sumpter/sumpterlaw10.CachePinned", spec := "cachePinned", unfollowed := true, recurses := true, apart := false }
def CachePinnedSaid : Prop := cachePinnedRow.holds Try.pinned (OpenSpec.ofChange cachePinnedSpec)

/-- ITS FALSE NEIGHBOUR: 'it returns false'. Refute it at one input. -/
def cachePinnedWrong : ChangeSpec := { name := "cachePinned", fn := fun _ => fun
  | [d1, d2] => { results := [.lit (.bool false)], args := [d1, d2] }
  | _ => none }
def CachePinnedWrongFalsely : Prop := cachePinnedRow.holds Try.pinned (OpenSpec.ofChange cachePinnedWrong)

/-- 'sumpterlaw10.CacheGoes': WHATEVER THE INPUT: true; the input reads as it did. -/
def cacheGoesSpec : ChangeSpec := { name := "cacheGoes", fn := fun _ => fun
  | [d1, d2, d3] => { results := [.lit (.bool true)], args := [d1, d2, d3] }
  | _ => none }
def cacheGoesRow : OpenClaim := { program := "ytelojafogbmbcaa", sum := "91a5ffb066aad1d87722887f50cec853896f8d9e15ac107c6597f2791e1ab857", func := "sumpter/sumpterlaw10.CacheGoes", spec := "cacheGoes", unfollowed := true, recurses := true, apart := false }
def CacheGoesSaid : Prop := cacheGoesRow.holds Try.pinned (OpenSpec.ofChange cacheGoesSpec)

/-- ITS FALSE NEIGHBOUR: 'it returns false'. Refute it at one input. -/
def cacheGoesWrong : ChangeSpec := { name := "cacheGoes", fn := fun _ => fun
  | [d1, d2, d3] => { results := [.lit (.bool false)], args := [d1, d2, d3] }
  | _ => none }
def CacheGoesWrongFalsely : Prop := cacheGoesRow.holds Try.pinned (OpenSpec.ofChange cacheGoesWrong)

/-- 'sumpterlaw10.CacheRule': WHATEVER THE INPUT: true; the input reads as it did. -/
def cacheRuleSpec : ChangeSpec := { name := "cacheRule", fn := fun _ => fun
  | [d1, d2] => { results := [.lit (.bool true)], args := [d1, d2] }
  | _ => none }
def cacheRuleRow : OpenClaim := { program := "ytelojafogbmbcaa", sum := "91a5ffb066aad1d87722887f50cec853896f8d9e15ac107c6597f2791e1ab857", func := "sumpter/sumpterlaw10.CacheRule", spec := "cacheRule", unfollowed := true, recurses := true, apart := false }
def CacheRuleSaid : Prop := cacheRuleRow.holds Try.pinned (OpenSpec.ofChange cacheRuleSpec)

/-- ITS FALSE NEIGHBOUR: 'it returns false'. Refute it at one input. -/
def cacheRuleWrong : ChangeSpec := { name := "cacheRule", fn := fun _ => fun
  | [d1, d2] => { results := [.lit (.bool false)], args := [d1, d2] }
  | _ => none }
def CacheRuleWrongFalsely : Prop := cacheRuleRow.holds Try.pinned (OpenSpec.ofChange cacheRuleWrong)

/- THE SECOND FORM. 'bulk': how many values and letters a reading holds, each counted each time it is reached (what is shared counts as often as it is met; a slice's spare places count too). A statement '..UptoSaid' is the law's where the arguments, and the package variables that the reading takes, are together of bulk at most 1048576: NARROWER than '..Said'. Prove '..Said' where nothing that the law and all that it calls make is longer than what came in: it says more and counts as full. Else prove '..UptoSaid'. A law counts once. -/
mutual
def uptoBulk {H : Type} : DataW H → Nat
  | .lit (.string bytes) => bytes.length + 1
  | .lit _ => 1
  | .nil => 1
  | .ptr d => uptoBulk d + 1
  | .slice elems spare => uptoBulkAll elems + uptoBulkAll spare + 1
  | .agg parts => uptoBulkAll parts + 1
  | .iface _ d => uptoBulk d + 1
  | .map entries => uptoBulkEntries entries + 1
  | .held _ => 1
def uptoBulkAll {H : Type} : List (DataW H) → Nat
  | [] => 0
  | d :: r => uptoBulk d + uptoBulkAll r
def uptoBulkEntries {H : Type} : List (Lit × DataW H) → Nat
  | [] => 0
  | x :: r => uptoBulkEntry x + uptoBulkEntries r
def uptoBulkEntry {H : Type} : Lit × DataW H → Nat
  | (.string bytes, d) => bytes.length + uptoBulk d + 1
  | (_, d) => uptoBulk d + 1
 end
def uptoSmall : (H : Type) → List (DataW H) → Bool := fun _ ds => decide (uptoBulkAll ds ≤ 1048576)
def OpenSpec.upto (s : _root_.Go.ChangeSpec) : _root_.Go.OpenSpec := { _root_.Go.OpenSpec.ofChange s with cond := some uptoSmall }

/-- 'sumpterlaw10.CachePinned', WHERE WHAT IT READS IS OF BULK AT MOST 1048576: true; the input reads as it did. -/
def cachePinnedUptoRow : OpenClaim := { program := "ytelojafogbmbcaa", sum := "91a5ffb066aad1d87722887f50cec853896f8d9e15ac107c6597f2791e1ab857", func := "sumpter/sumpterlaw10.CachePinned", spec := "cachePinned", unfollowed := true, recurses := true, apart := false, narrowed := true }
def CachePinnedUptoSaid : Prop := cachePinnedUptoRow.holds Try.pinned (OpenSpec.upto cachePinnedSpec)

/-- 'sumpterlaw10.CacheGoes', WHERE WHAT IT READS IS OF BULK AT MOST 1048576: true; the input reads as it did. -/
def cacheGoesUptoRow : OpenClaim := { program := "ytelojafogbmbcaa", sum := "91a5ffb066aad1d87722887f50cec853896f8d9e15ac107c6597f2791e1ab857", func := "sumpter/sumpterlaw10.CacheGoes", spec := "cacheGoes", unfollowed := true, recurses := true, apart := false, narrowed := true }
def CacheGoesUptoSaid : Prop := cacheGoesUptoRow.holds Try.pinned (OpenSpec.upto cacheGoesSpec)

/-- 'sumpterlaw10.CacheRule', WHERE WHAT IT READS IS OF BULK AT MOST 1048576: true; the input reads as it did. -/
def cacheRuleUptoRow : OpenClaim := { program := "ytelojafogbmbcaa", sum := "91a5ffb066aad1d87722887f50cec853896f8d9e15ac107c6597f2791e1ab857", func := "sumpter/sumpterlaw10.CacheRule", spec := "cacheRule", unfollowed := true, recurses := true, apart := false, narrowed := true }
def CacheRuleUptoSaid : Prop := cacheRuleUptoRow.holds Try.pinned (OpenSpec.upto cacheRuleSpec)

end Rows
end Go.Proofs.Ytelojafogbmbcaa
