/-
  No cell of these rows narrows 'for every input' (looked for: loops, veiled, ifaces, maps, wideKeys, modest, calm, conditions, laid).
  DERIVED. THE GIVEN ROWS OF THIS SEAT. 4 by the template 'for every input the law returns true; each argument reads behind the call as it read before'; 0 by the template 'total and deterministic' (their statements: YtebibhmjmaomnaaTotals.lean).
  GIVEN WITH THE SEED: the statements are not yours to turn. If you find one false, say at which input.
  Laid BY PROGRAM, IN A SANDBOX (cutbox-rows.mjs): the forced cells as the released guide's own fill.sh prints them over the translation 1e18a70006e9f778… (all of the seat's roots in one cut). By AI agents, Wed Nov 11 2026. No macro, syntax, notation, axiom, sorry.
-/
import Derived.Test.YtebibhmjmaomnaaChecked
import GoSem.Claim
import GoSem.ClaimJoined
import GoSem.ClaimMapViews
import Derived.JoinedTies
import Derived.KernelRfl
namespace Go.Proofs.Ytebibhmjmaomnaa
/- THE CELL 'sum', in the pinned program and in every row, IS THE sha256 OF THE DUMP (.gsa) THAT YtebibhmjmaomnaaProg.lean LOADS. Nothing in Lean hashes anything: it is a label: what it is worth is what the hold of that sum in a sandbox is worth. -/
noncomputable def Try.pinned : Pinned := { name := "ytebibhmjmaomnaa", sum := "1e18a70006e9f77845ce35696e78382efaf20cf68f247b6d861a5bdfc70c8e9f", checked := Try.checked }
namespace Rows
def none {H : Type} : Left H := { results := [], args := [] }

/-- 'clusterlockslaw31.DirectoryActs': WHATEVER THE INPUT: true; the input reads as it did. -/
def directoryActsSpec : ChangeSpec := { name := "directoryActs", fn := fun _ => fun
  | [d1, d2, d3, d4, d5, d6, d7] => { results := [.lit (.bool true)], args := [d1, d2, d3, d4, d5, d6, d7] }
  | _ => none }
def directoryActsRow : OpenClaim := { program := "ytebibhmjmaomnaa", sum := "1e18a70006e9f77845ce35696e78382efaf20cf68f247b6d861a5bdfc70c8e9f", func := "clusterlocks/clusterlockslaw31.DirectoryActs", spec := "directoryActs", unfollowed := true, recurses := true, apart := false }
def DirectoryActsSaid : Prop := directoryActsRow.holds Try.pinned (OpenSpec.ofChange directoryActsSpec)

/-- ITS FALSE NEIGHBOUR: 'it returns false'. Refute it at one input. -/
def directoryActsWrong : ChangeSpec := { name := "directoryActs", fn := fun _ => fun
  | [d1, d2, d3, d4, d5, d6, d7] => { results := [.lit (.bool false)], args := [d1, d2, d3, d4, d5, d6, d7] }
  | _ => none }
def DirectoryActsWrongFalsely : Prop := directoryActsRow.holds Try.pinned (OpenSpec.ofChange directoryActsWrong)

/-- 'clusterlockslaw31.DirectoryReads': WHATEVER THE INPUT: true; the input reads as it did. -/
def directoryReadsSpec : ChangeSpec := { name := "directoryReads", fn := fun _ => fun
  | [d1, d2] => { results := [.lit (.bool true)], args := [d1, d2] }
  | _ => none }
def directoryReadsRow : OpenClaim := { program := "ytebibhmjmaomnaa", sum := "1e18a70006e9f77845ce35696e78382efaf20cf68f247b6d861a5bdfc70c8e9f", func := "clusterlocks/clusterlockslaw31.DirectoryReads", spec := "directoryReads", unfollowed := true, recurses := true, apart := false }
def DirectoryReadsSaid : Prop := directoryReadsRow.holds Try.pinned (OpenSpec.ofChange directoryReadsSpec)

/-- ITS FALSE NEIGHBOUR: 'it returns false'. Refute it at one input. -/
def directoryReadsWrong : ChangeSpec := { name := "directoryReads", fn := fun _ => fun
  | [d1, d2] => { results := [.lit (.bool false)], args := [d1, d2] }
  | _ => none }
def DirectoryReadsWrongFalsely : Prop := directoryReadsRow.holds Try.pinned (OpenSpec.ofChange directoryReadsWrong)

/-- 'clusterlockslaw31.DirectoryAccepts': WHATEVER THE INPUT: true; the input reads as it did. -/
def directoryAcceptsSpec : ChangeSpec := { name := "directoryAccepts", fn := fun _ => fun
  | [d1, d2] => { results := [.lit (.bool true)], args := [d1, d2] }
  | _ => none }
def directoryAcceptsRow : OpenClaim := { program := "ytebibhmjmaomnaa", sum := "1e18a70006e9f77845ce35696e78382efaf20cf68f247b6d861a5bdfc70c8e9f", func := "clusterlocks/clusterlockslaw31.DirectoryAccepts", spec := "directoryAccepts", unfollowed := true, recurses := true, apart := false }
def DirectoryAcceptsSaid : Prop := directoryAcceptsRow.holds Try.pinned (OpenSpec.ofChange directoryAcceptsSpec)

/-- ITS FALSE NEIGHBOUR: 'it returns false'. Refute it at one input. -/
def directoryAcceptsWrong : ChangeSpec := { name := "directoryAccepts", fn := fun _ => fun
  | [d1, d2] => { results := [.lit (.bool false)], args := [d1, d2] }
  | _ => none }
def DirectoryAcceptsWrongFalsely : Prop := directoryAcceptsRow.holds Try.pinned (OpenSpec.ofChange directoryAcceptsWrong)

/-- 'clusterlockslaw31.DirectoryChanges': WHATEVER THE INPUT: true; the input reads as it did. -/
def directoryChangesSpec : ChangeSpec := { name := "directoryChanges", fn := fun _ => fun
  | [d1, d2] => { results := [.lit (.bool true)], args := [d1, d2] }
  | _ => none }
def directoryChangesRow : OpenClaim := { program := "ytebibhmjmaomnaa", sum := "1e18a70006e9f77845ce35696e78382efaf20cf68f247b6d861a5bdfc70c8e9f", func := "clusterlocks/clusterlockslaw31.DirectoryChanges", spec := "directoryChanges", unfollowed := true, recurses := true, apart := false }
def DirectoryChangesSaid : Prop := directoryChangesRow.holds Try.pinned (OpenSpec.ofChange directoryChangesSpec)

/-- ITS FALSE NEIGHBOUR: 'it returns false'. Refute it at one input. -/
def directoryChangesWrong : ChangeSpec := { name := "directoryChanges", fn := fun _ => fun
  | [d1, d2] => { results := [.lit (.bool false)], args := [d1, d2] }
  | _ => none }
def DirectoryChangesWrongFalsely : Prop := directoryChangesRow.holds Try.pinned (OpenSpec.ofChange directoryChangesWrong)

/- THE SECOND FORM. 'bulk': how many values and letters a reading holds, each counted each time it is reached (what is shared counts as often as it is met; a slice's spare places count too). A statement '..UptoSaid' is the law's where the arguments, and the package variables that the reading takes, are together of bulk at most 1048576: NARROWER than '..Said'. Prove '..Said' where nothing that the law and all that it calls make is longer than what came in: it says more and counts as full. Else prove '..UptoSaid'. A law counts once. -/
mutual
def uptoBulk {H : Type} : DataW H → Nat
  | .lit (.string bytes) => bytes.length + 1
  | .lit _ => 1
  | .nil => 1
  | .ptr d => uptoBulk d + 1
  | .slice elems spare => uptoBulkAll elems + uptoBulkAll spare + 1
  | .agg parts => uptoBulkAll parts + 1
  | .iface _ d => uptoBulk d + 1
  | .map entries => uptoBulkEntries entries + 1
  | .held _ => 1
def uptoBulkAll {H : Type} : List (DataW H) → Nat
  | [] => 0
  | d :: r => uptoBulk d + uptoBulkAll r
def uptoBulkEntries {H : Type} : List (Lit × DataW H) → Nat
  | [] => 0
  | x :: r => uptoBulkEntry x + uptoBulkEntries r
def uptoBulkEntry {H : Type} : Lit × DataW H → Nat
  | (.string bytes, d) => bytes.length + uptoBulk d + 1
  | (_, d) => uptoBulk d + 1
 end
def uptoSmall : (H : Type) → List (DataW H) → Bool := fun _ ds => decide (uptoBulkAll ds ≤ 1048576)
def OpenSpec.upto (s : _root_.Go.ChangeSpec) : _root_.Go.OpenSpec := { _root_.Go.OpenSpec.ofChange s with cond := some uptoSmall }

/-- 'clusterlockslaw31.DirectoryActs', WHERE WHAT IT READS IS OF BULK AT MOST 1048576: true; the input reads as it did. -/
def directoryActsUptoRow : OpenClaim := { program := "ytebibhmjmaomnaa", sum := "1e18a70006e9f77845ce35696e78382efaf20cf68f247b6d861a5bdfc70c8e9f", func := "clusterlocks/clusterlockslaw31.DirectoryActs", spec := "directoryActs", unfollowed := true, recurses := true, apart := false, narrowed := true }
def DirectoryActsUptoSaid : Prop := directoryActsUptoRow.holds Try.pinned (OpenSpec.upto directoryActsSpec)

/-- 'clusterlockslaw31.DirectoryReads', WHERE WHAT IT READS IS OF BULK AT MOST 1048576: true; the input reads as it did. -/
def directoryReadsUptoRow : OpenClaim := { program := "ytebibhmjmaomnaa", sum := "1e18a70006e9f77845ce35696e78382efaf20cf68f247b6d861a5bdfc70c8e9f", func := "clusterlocks/clusterlockslaw31.DirectoryReads", spec := "directoryReads", unfollowed := true, recurses := true, apart := false, narrowed := true }
def DirectoryReadsUptoSaid : Prop := directoryReadsUptoRow.holds Try.pinned (OpenSpec.upto directoryReadsSpec)

/-- 'clusterlockslaw31.DirectoryAccepts', WHERE WHAT IT READS IS OF BULK AT MOST 1048576: true; the input reads as it did. -/
def directoryAcceptsUptoRow : OpenClaim := { program := "ytebibhmjmaomnaa", sum := "1e18a70006e9f77845ce35696e78382efaf20cf68f247b6d861a5bdfc70c8e9f", func := "clusterlocks/clusterlockslaw31.DirectoryAccepts", spec := "directoryAccepts", unfollowed := true, recurses := true, apart := false, narrowed := true }
def DirectoryAcceptsUptoSaid : Prop := directoryAcceptsUptoRow.holds Try.pinned (OpenSpec.upto directoryAcceptsSpec)

/-- 'clusterlockslaw31.DirectoryChanges', WHERE WHAT IT READS IS OF BULK AT MOST 1048576: true; the input reads as it did. -/
def directoryChangesUptoRow : OpenClaim := { program := "ytebibhmjmaomnaa", sum := "1e18a70006e9f77845ce35696e78382efaf20cf68f247b6d861a5bdfc70c8e9f", func := "clusterlocks/clusterlockslaw31.DirectoryChanges", spec := "directoryChanges", unfollowed := true, recurses := true, apart := false, narrowed := true }
def DirectoryChangesUptoSaid : Prop := directoryChangesUptoRow.holds Try.pinned (OpenSpec.upto directoryChangesSpec)

end Rows
end Go.Proofs.Ytebibhmjmaomnaa
