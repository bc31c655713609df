/-
  No cell of these rows narrows 'for every input' (looked for: loops, veiled, ifaces, maps, wideKeys, modest, calm, conditions, laid).
  DERIVED. THE GIVEN ROWS OF THIS SEAT. 4 by the template 'for every input the law returns true; each argument reads behind the call as it read before'; 0 by the template 'total and deterministic' (their statements: YtbjgnoegblejhaaTotals.lean).
  GIVEN WITH THE SEED: the statements are not yours to turn. If you find one false, say at which input.
  Laid BY PROGRAM, IN A SANDBOX (cutbox-rows.mjs): the forced cells as the released guide's own fill.sh prints them over the translation c79d65d24c9df315… (all of the seat's roots in one cut). By AI agents, Wed Nov 11 2026. No macro, syntax, notation, axiom, sorry.
-/
import Derived.Test.YtbjgnoegblejhaaChecked
import GoSem.Claim
import GoSem.ClaimJoined
import GoSem.ClaimMapViews
import Derived.JoinedTies
import Derived.KernelRfl
namespace Go.Proofs.Ytbjgnoegblejhaa
/- THE CELL 'sum', in the pinned program and in every row, IS THE sha256 OF THE DUMP (.gsa) THAT YtbjgnoegblejhaaProg.lean LOADS. Nothing in Lean hashes anything: it is a label: what it is worth is what the hold of that sum in a sandbox is worth. -/
noncomputable def Try.pinned : Pinned := { name := "ytbjgnoegblejhaa", sum := "c79d65d24c9df315acadef5b04af9279022fc1c20b5ce607c38c574d9dd32a1f", checked := Try.checked }
namespace Rows
def none {H : Type} : Left H := { results := [], args := [] }

/-- 'clusterlockslaw26.StableActs': WHATEVER THE INPUT: true; the input reads as it did. -/
def stableActsSpec : ChangeSpec := { name := "stableActs", fn := fun _ => fun
  | [d1, d2, d3] => { results := [.lit (.bool true)], args := [d1, d2, d3] }
  | _ => none }
def stableActsRow : OpenClaim := { program := "ytbjgnoegblejhaa", sum := "c79d65d24c9df315acadef5b04af9279022fc1c20b5ce607c38c574d9dd32a1f", func := "clusterlocks/clusterlockslaw26.StableActs", spec := "stableActs", apart := false }
def StableActsSaid : Prop := stableActsRow.holds Try.pinned (OpenSpec.ofChange stableActsSpec)

/-- ITS FALSE NEIGHBOUR: 'it returns false'. Refute it at one input. -/
def stableActsWrong : ChangeSpec := { name := "stableActs", fn := fun _ => fun
  | [d1, d2, d3] => { results := [.lit (.bool false)], args := [d1, d2, d3] }
  | _ => none }
def StableActsWrongFalsely : Prop := stableActsRow.holds Try.pinned (OpenSpec.ofChange stableActsWrong)

/-- 'clusterlockslaw26.StableRuns': WHATEVER THE INPUT: true; the input reads as it did. -/
def stableRunsSpec : ChangeSpec := { name := "stableRuns", fn := fun _ => fun
  | [d1, d2] => { results := [.lit (.bool true)], args := [d1, d2] }
  | _ => none }
def stableRunsRow : OpenClaim := { program := "ytbjgnoegblejhaa", sum := "c79d65d24c9df315acadef5b04af9279022fc1c20b5ce607c38c574d9dd32a1f", func := "clusterlocks/clusterlockslaw26.StableRuns", spec := "stableRuns", apart := false }
def StableRunsSaid : Prop := stableRunsRow.holds Try.pinned (OpenSpec.ofChange stableRunsSpec)

/-- ITS FALSE NEIGHBOUR: 'it returns false'. Refute it at one input. -/
def stableRunsWrong : ChangeSpec := { name := "stableRuns", fn := fun _ => fun
  | [d1, d2] => { results := [.lit (.bool false)], args := [d1, d2] }
  | _ => none }
def StableRunsWrongFalsely : Prop := stableRunsRow.holds Try.pinned (OpenSpec.ofChange stableRunsWrong)

/-- 'clusterlockslaw26.StableLong': WHATEVER THE INPUT: true; the input reads as it did. -/
def stableLongSpec : ChangeSpec := { name := "stableLong", fn := fun _ => fun
  | [d1, d2] => { results := [.lit (.bool true)], args := [d1, d2] }
  | _ => none }
def stableLongRow : OpenClaim := { program := "ytbjgnoegblejhaa", sum := "c79d65d24c9df315acadef5b04af9279022fc1c20b5ce607c38c574d9dd32a1f", func := "clusterlocks/clusterlockslaw26.StableLong", spec := "stableLong", apart := false }
def StableLongSaid : Prop := stableLongRow.holds Try.pinned (OpenSpec.ofChange stableLongSpec)

/-- ITS FALSE NEIGHBOUR: 'it returns false'. Refute it at one input. -/
def stableLongWrong : ChangeSpec := { name := "stableLong", fn := fun _ => fun
  | [d1, d2] => { results := [.lit (.bool false)], args := [d1, d2] }
  | _ => none }
def StableLongWrongFalsely : Prop := stableLongRow.holds Try.pinned (OpenSpec.ofChange stableLongWrong)

/-- 'clusterlockslaw26.StableDamage': WHATEVER THE INPUT: true; the input reads as it did. -/
def stableDamageSpec : ChangeSpec := { name := "stableDamage", fn := fun _ => fun
  | [d1, d2, d3] => { results := [.lit (.bool true)], args := [d1, d2, d3] }
  | _ => none }
def stableDamageRow : OpenClaim := { program := "ytbjgnoegblejhaa", sum := "c79d65d24c9df315acadef5b04af9279022fc1c20b5ce607c38c574d9dd32a1f", func := "clusterlocks/clusterlockslaw26.StableDamage", spec := "stableDamage", apart := false }
def StableDamageSaid : Prop := stableDamageRow.holds Try.pinned (OpenSpec.ofChange stableDamageSpec)

/-- ITS FALSE NEIGHBOUR: 'it returns false'. Refute it at one input. -/
def stableDamageWrong : ChangeSpec := { name := "stableDamage", fn := fun _ => fun
  | [d1, d2, d3] => { results := [.lit (.bool false)], args := [d1, d2, d3] }
  | _ => none }
def StableDamageWrongFalsely : Prop := stableDamageRow.holds Try.pinned (OpenSpec.ofChange stableDamageWrong)

/- THE SECOND FORM. 'bulk': how many values and letters a reading holds, each counted each time it is reached (what is shared counts as often as it is met; a slice's spare places count too). A statement '..UptoSaid' is the law's where the arguments, and the package variables that the reading takes, are together of bulk at most 1048576: NARROWER than '..Said'. Prove '..Said' where nothing that the law and all that it calls make is longer than what came in: it says more and counts as full. Else prove '..UptoSaid'. A law counts once. -/
mutual
def uptoBulk {H : Type} : DataW H → Nat
  | .lit (.string bytes) => bytes.length + 1
  | .lit _ => 1
  | .nil => 1
  | .ptr d => uptoBulk d + 1
  | .slice elems spare => uptoBulkAll elems + uptoBulkAll spare + 1
  | .agg parts => uptoBulkAll parts + 1
  | .iface _ d => uptoBulk d + 1
  | .map entries => uptoBulkEntries entries + 1
  | .held _ => 1
def uptoBulkAll {H : Type} : List (DataW H) → Nat
  | [] => 0
  | d :: r => uptoBulk d + uptoBulkAll r
def uptoBulkEntries {H : Type} : List (Lit × DataW H) → Nat
  | [] => 0
  | x :: r => uptoBulkEntry x + uptoBulkEntries r
def uptoBulkEntry {H : Type} : Lit × DataW H → Nat
  | (.string bytes, d) => bytes.length + uptoBulk d + 1
  | (_, d) => uptoBulk d + 1
 end
def uptoSmall : (H : Type) → List (DataW H) → Bool := fun _ ds => decide (uptoBulkAll ds ≤ 1048576)
def OpenSpec.upto (s : _root_.Go.ChangeSpec) : _root_.Go.OpenSpec := { _root_.Go.OpenSpec.ofChange s with cond := some uptoSmall }

/-- 'clusterlockslaw26.StableActs', WHERE WHAT IT READS IS OF BULK AT MOST 1048576: true; the input reads as it did. -/
def stableActsUptoRow : OpenClaim := { program := "ytbjgnoegblejhaa", sum := "c79d65d24c9df315acadef5b04af9279022fc1c20b5ce607c38c574d9dd32a1f", func := "clusterlocks/clusterlockslaw26.StableActs", spec := "stableActs", apart := false, narrowed := true }
def StableActsUptoSaid : Prop := stableActsUptoRow.holds Try.pinned (OpenSpec.upto stableActsSpec)

/-- 'clusterlockslaw26.StableRuns', WHERE WHAT IT READS IS OF BULK AT MOST 1048576: true; the input reads as it did. -/
def stableRunsUptoRow : OpenClaim := { program := "ytbjgnoegblejhaa", sum := "c79d65d24c9df315acadef5b04af9279022fc1c20b5ce607c38c574d9dd32a1f", func := "clusterlocks/clusterlockslaw26.StableRuns", spec := "stableRuns", apart := false, narrowed := true }
def StableRunsUptoSaid : Prop := stableRunsUptoRow.holds Try.pinned (OpenSpec.upto stableRunsSpec)

/-- 'clusterlockslaw26.StableLong', WHERE WHAT IT READS IS OF BULK AT MOST 1048576: true; the input reads as it did. -/
def stableLongUptoRow : OpenClaim := { program := "ytbjgnoegblejhaa", sum := "c79d65d24c9df315acadef5b04af9279022fc1c20b5ce607c38c574d9dd32a1f", func := "clusterlocks/clusterlockslaw26.StableLong", spec := "stableLong", apart := false, narrowed := true }
def StableLongUptoSaid : Prop := stableLongUptoRow.holds Try.pinned (OpenSpec.upto stableLongSpec)

/-- 'clusterlockslaw26.StableDamage', WHERE WHAT IT READS IS OF BULK AT MOST 1048576: true; the input reads as it did. -/
def stableDamageUptoRow : OpenClaim := { program := "ytbjgnoegblejhaa", sum := "c79d65d24c9df315acadef5b04af9279022fc1c20b5ce607c38c574d9dd32a1f", func := "clusterlocks/clusterlockslaw26.StableDamage", spec := "stableDamage", apart := false, narrowed := true }
def StableDamageUptoSaid : Prop := stableDamageUptoRow.holds Try.pinned (OpenSpec.upto stableDamageSpec)

end Rows
end Go.Proofs.Ytbjgnoegblejhaa
