/-
  No cell of these rows narrows 'for every input' (looked for: loops, veiled, ifaces, maps, wideKeys, modest, calm, conditions, laid).
  DERIVED. THE GIVEN ROWS OF THIS SEAT. 4 by the template 'for every input the law returns true; each argument reads behind the call as it read before'; 0 by the template 'total and deterministic' (their statements: YtbbhenjhghbimaaTotals.lean).
  GIVEN WITH THE SEED: the statements are not yours to turn. If you find one false, say at which input.
  Laid BY PROGRAM, IN A SANDBOX (cutbox-rows.mjs): the forced cells as the released guide's own fill.sh prints them over the translation 40a3aeef0303bd96… (all of the seat's roots in one cut). By AI agents, Wed Nov 11 2026. No macro, syntax, notation, axiom, sorry.
-/
import Derived.Test.YtbbhenjhghbimaaChecked
import GoSem.Claim
import GoSem.ClaimJoined
import GoSem.ClaimMapViews
import Derived.JoinedTies
import Derived.KernelRfl
namespace Go.Proofs.Ytbbhenjhghbimaa
/- THE CELL 'sum', in the pinned program and in every row, IS THE sha256 OF THE DUMP (.gsa) THAT YtbbhenjhghbimaaProg.lean LOADS. Nothing in Lean hashes anything: it is a label: what it is worth is what the hold of that sum in a sandbox is worth. -/
noncomputable def Try.pinned : Pinned := { name := "ytbbhenjhghbimaa", sum := "40a3aeef0303bd96059e949e84c50f708369a09a65d16065a12ee4b9987e85fb", checked := Try.checked }
namespace Rows
def none {H : Type} : Left H := { results := [], args := [] }

/-- 'clusterlockslaw34.ChaseActs': WHATEVER THE INPUT: true; the input reads as it did. -/
def chaseActsSpec : ChangeSpec := { name := "chaseActs", fn := fun _ => fun
  | [d1, d2, d3, d4, d5] => { results := [.lit (.bool true)], args := [d1, d2, d3, d4, d5] }
  | _ => none }
def chaseActsRow : OpenClaim := { program := "ytbbhenjhghbimaa", sum := "40a3aeef0303bd96059e949e84c50f708369a09a65d16065a12ee4b9987e85fb", func := "clusterlocks/clusterlockslaw34.ChaseActs", spec := "chaseActs", apart := false }
def ChaseActsSaid : Prop := chaseActsRow.holds Try.pinned (OpenSpec.ofChange chaseActsSpec)

/-- ITS FALSE NEIGHBOUR: 'it returns false'. Refute it at one input. -/
def chaseActsWrong : ChangeSpec := { name := "chaseActs", fn := fun _ => fun
  | [d1, d2, d3, d4, d5] => { results := [.lit (.bool false)], args := [d1, d2, d3, d4, d5] }
  | _ => none }
def ChaseActsWrongFalsely : Prop := chaseActsRow.holds Try.pinned (OpenSpec.ofChange chaseActsWrong)

/-- 'clusterlockslaw34.ChaseFinds': WHATEVER THE INPUT: true; the input reads as it did. -/
def chaseFindsSpec : ChangeSpec := { name := "chaseFinds", fn := fun _ => fun
  | [d1, d2, d3] => { results := [.lit (.bool true)], args := [d1, d2, d3] }
  | _ => none }
def chaseFindsRow : OpenClaim := { program := "ytbbhenjhghbimaa", sum := "40a3aeef0303bd96059e949e84c50f708369a09a65d16065a12ee4b9987e85fb", func := "clusterlocks/clusterlockslaw34.ChaseFinds", spec := "chaseFinds", apart := false }
def ChaseFindsSaid : Prop := chaseFindsRow.holds Try.pinned (OpenSpec.ofChange chaseFindsSpec)

/-- ITS FALSE NEIGHBOUR: 'it returns false'. Refute it at one input. -/
def chaseFindsWrong : ChangeSpec := { name := "chaseFinds", fn := fun _ => fun
  | [d1, d2, d3] => { results := [.lit (.bool false)], args := [d1, d2, d3] }
  | _ => none }
def ChaseFindsWrongFalsely : Prop := chaseFindsRow.holds Try.pinned (OpenSpec.ofChange chaseFindsWrong)

/-- 'clusterlockslaw34.ChaseOrder': WHATEVER THE INPUT: true; the input reads as it did. -/
def chaseOrderSpec : ChangeSpec := { name := "chaseOrder", fn := fun _ => fun
  | [d1, d2, d3, d4] => { results := [.lit (.bool true)], args := [d1, d2, d3, d4] }
  | _ => none }
def chaseOrderRow : OpenClaim := { program := "ytbbhenjhghbimaa", sum := "40a3aeef0303bd96059e949e84c50f708369a09a65d16065a12ee4b9987e85fb", func := "clusterlocks/clusterlockslaw34.ChaseOrder", spec := "chaseOrder", apart := false }
def ChaseOrderSaid : Prop := chaseOrderRow.holds Try.pinned (OpenSpec.ofChange chaseOrderSpec)

/-- ITS FALSE NEIGHBOUR: 'it returns false'. Refute it at one input. -/
def chaseOrderWrong : ChangeSpec := { name := "chaseOrder", fn := fun _ => fun
  | [d1, d2, d3, d4] => { results := [.lit (.bool false)], args := [d1, d2, d3, d4] }
  | _ => none }
def ChaseOrderWrongFalsely : Prop := chaseOrderRow.holds Try.pinned (OpenSpec.ofChange chaseOrderWrong)

/-- 'clusterlockslaw34.ChaseStuck': WHATEVER THE INPUT: true; the input reads as it did. -/
def chaseStuckSpec : ChangeSpec := { name := "chaseStuck", fn := fun _ => fun
  | [d1, d2, d3] => { results := [.lit (.bool true)], args := [d1, d2, d3] }
  | _ => none }
def chaseStuckRow : OpenClaim := { program := "ytbbhenjhghbimaa", sum := "40a3aeef0303bd96059e949e84c50f708369a09a65d16065a12ee4b9987e85fb", func := "clusterlocks/clusterlockslaw34.ChaseStuck", spec := "chaseStuck", apart := false }
def ChaseStuckSaid : Prop := chaseStuckRow.holds Try.pinned (OpenSpec.ofChange chaseStuckSpec)

/-- ITS FALSE NEIGHBOUR: 'it returns false'. Refute it at one input. -/
def chaseStuckWrong : ChangeSpec := { name := "chaseStuck", fn := fun _ => fun
  | [d1, d2, d3] => { results := [.lit (.bool false)], args := [d1, d2, d3] }
  | _ => none }
def ChaseStuckWrongFalsely : Prop := chaseStuckRow.holds Try.pinned (OpenSpec.ofChange chaseStuckWrong)

/- THE SECOND FORM. 'bulk': how many values and letters a reading holds, each counted each time it is reached (what is shared counts as often as it is met; a slice's spare places count too). A statement '..UptoSaid' is the law's where the arguments, and the package variables that the reading takes, are together of bulk at most 1048576: NARROWER than '..Said'. Prove '..Said' where nothing that the law and all that it calls make is longer than what came in: it says more and counts as full. Else prove '..UptoSaid'. A law counts once. -/
mutual
def uptoBulk {H : Type} : DataW H → Nat
  | .lit (.string bytes) => bytes.length + 1
  | .lit _ => 1
  | .nil => 1
  | .ptr d => uptoBulk d + 1
  | .slice elems spare => uptoBulkAll elems + uptoBulkAll spare + 1
  | .agg parts => uptoBulkAll parts + 1
  | .iface _ d => uptoBulk d + 1
  | .map entries => uptoBulkEntries entries + 1
  | .held _ => 1
def uptoBulkAll {H : Type} : List (DataW H) → Nat
  | [] => 0
  | d :: r => uptoBulk d + uptoBulkAll r
def uptoBulkEntries {H : Type} : List (Lit × DataW H) → Nat
  | [] => 0
  | x :: r => uptoBulkEntry x + uptoBulkEntries r
def uptoBulkEntry {H : Type} : Lit × DataW H → Nat
  | (.string bytes, d) => bytes.length + uptoBulk d + 1
  | (_, d) => uptoBulk d + 1
 end
def uptoSmall : (H : Type) → List (DataW H) → Bool := fun _ ds => decide (uptoBulkAll ds ≤ 1048576)
def OpenSpec.upto (s : _root_.Go.ChangeSpec) : _root_.Go.OpenSpec := { _root_.Go.OpenSpec.ofChange s with cond := some uptoSmall }

/-- 'clusterlockslaw34.ChaseActs', WHERE WHAT IT READS IS OF BULK AT MOST 1048576: true; the input reads as it did. -/
def chaseActsUptoRow : OpenClaim := { program := "ytbbhenjhghbimaa", sum := "40a3aeef0303bd96059e949e84c50f708369a09a65d16065a12ee4b9987e85fb", func := "clusterlocks/clusterlockslaw34.ChaseActs", spec := "chaseActs", apart := false, narrowed := true }
def ChaseActsUptoSaid : Prop := chaseActsUptoRow.holds Try.pinned (OpenSpec.upto chaseActsSpec)

/-- 'clusterlockslaw34.ChaseFinds', WHERE WHAT IT READS IS OF BULK AT MOST 1048576: true; the input reads as it did. -/
def chaseFindsUptoRow : OpenClaim := { program := "ytbbhenjhghbimaa", sum := "40a3aeef0303bd96059e949e84c50f708369a09a65d16065a12ee4b9987e85fb", func := "clusterlocks/clusterlockslaw34.ChaseFinds", spec := "chaseFinds", apart := false, narrowed := true }
def ChaseFindsUptoSaid : Prop := chaseFindsUptoRow.holds Try.pinned (OpenSpec.upto chaseFindsSpec)

/-- 'clusterlockslaw34.ChaseOrder', WHERE WHAT IT READS IS OF BULK AT MOST 1048576: true; the input reads as it did. -/
def chaseOrderUptoRow : OpenClaim := { program := "ytbbhenjhghbimaa", sum := "40a3aeef0303bd96059e949e84c50f708369a09a65d16065a12ee4b9987e85fb", func := "clusterlocks/clusterlockslaw34.ChaseOrder", spec := "chaseOrder", apart := false, narrowed := true }
def ChaseOrderUptoSaid : Prop := chaseOrderUptoRow.holds Try.pinned (OpenSpec.upto chaseOrderSpec)

/-- 'clusterlockslaw34.ChaseStuck', WHERE WHAT IT READS IS OF BULK AT MOST 1048576: true; the input reads as it did. -/
def chaseStuckUptoRow : OpenClaim := { program := "ytbbhenjhghbimaa", sum := "40a3aeef0303bd96059e949e84c50f708369a09a65d16065a12ee4b9987e85fb", func := "clusterlocks/clusterlockslaw34.ChaseStuck", spec := "chaseStuck", apart := false, narrowed := true }
def ChaseStuckUptoSaid : Prop := chaseStuckUptoRow.holds Try.pinned (OpenSpec.upto chaseStuckSpec)

end Rows
end Go.Proofs.Ytbbhenjhghbimaa
