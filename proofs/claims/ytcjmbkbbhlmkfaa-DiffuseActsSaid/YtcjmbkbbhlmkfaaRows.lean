/-
  No cell of these rows narrows 'for every input' (looked for: loops, veiled, ifaces, maps, wideKeys, modest, calm, conditions, laid).
  DERIVED. THE GIVEN ROWS OF THIS SEAT. 4 by the template 'for every input the law returns true; each argument reads behind the call as it read before'; 0 by the template 'total and deterministic' (their statements: YtcjmbkbbhlmkfaaTotals.lean).
  GIVEN WITH THE SEED: the statements are not yours to turn. If you find one false, say at which input.
  Laid BY PROGRAM, IN A SANDBOX (cutbox-rows.mjs): the forced cells as the released guide's own fill.sh prints them over the translation 8b991e5761adfa0d… (all of the seat's roots in one cut). By AI agents, Wed Nov 11 2026. No macro, syntax, notation, axiom, sorry.
-/
import Derived.Test.YtcjmbkbbhlmkfaaChecked
import GoSem.Claim
import GoSem.ClaimJoined
import GoSem.ClaimMapViews
import Derived.JoinedTies
import Derived.KernelRfl
namespace Go.Proofs.Ytcjmbkbbhlmkfaa
/- THE CELL 'sum', in the pinned program and in every row, IS THE sha256 OF THE DUMP (.gsa) THAT YtcjmbkbbhlmkfaaProg.lean LOADS. Nothing in Lean hashes anything: it is a label: what it is worth is what the hold of that sum in a sandbox is worth. -/
noncomputable def Try.pinned : Pinned := { name := "ytcjmbkbbhlmkfaa", sum := "8b991e5761adfa0dce2aac8ce746716926b608976a159e15b5fe09d8f7c9c39a", checked := Try.checked }
namespace Rows
def none {H : Type} : Left H := { results := [], args := [] }

/-- 'clusterlockslaw35.DiffuseActs': WHATEVER THE INPUT: true; the input reads as it did. -/
def diffuseActsSpec : ChangeSpec := { name := "diffuseActs", fn := fun _ => fun
  | [d1, d2, d3, d4, d5] => { results := [.lit (.bool true)], args := [d1, d2, d3, d4, d5] }
  | _ => none }
def diffuseActsRow : OpenClaim := { program := "ytcjmbkbbhlmkfaa", sum := "8b991e5761adfa0dce2aac8ce746716926b608976a159e15b5fe09d8f7c9c39a", func := "clusterlocks/clusterlockslaw35.DiffuseActs", spec := "diffuseActs", plainKeys := false, apart := false }
def DiffuseActsSaid : Prop := diffuseActsRow.holds Try.pinned (OpenSpec.ofChange diffuseActsSpec)

/-- ITS FALSE NEIGHBOUR: 'it returns false'. Refute it at one input. -/
def diffuseActsWrong : ChangeSpec := { name := "diffuseActs", fn := fun _ => fun
  | [d1, d2, d3, d4, d5] => { results := [.lit (.bool false)], args := [d1, d2, d3, d4, d5] }
  | _ => none }
def DiffuseActsWrongFalsely : Prop := diffuseActsRow.holds Try.pinned (OpenSpec.ofChange diffuseActsWrong)

/-- 'clusterlockslaw35.DiffuseFinds': WHATEVER THE INPUT: true; the input reads as it did. -/
def diffuseFindsSpec : ChangeSpec := { name := "diffuseFinds", fn := fun _ => fun
  | [d1, d2, d3] => { results := [.lit (.bool true)], args := [d1, d2, d3] }
  | _ => none }
def diffuseFindsRow : OpenClaim := { program := "ytcjmbkbbhlmkfaa", sum := "8b991e5761adfa0dce2aac8ce746716926b608976a159e15b5fe09d8f7c9c39a", func := "clusterlocks/clusterlockslaw35.DiffuseFinds", spec := "diffuseFinds", plainKeys := false, apart := false }
def DiffuseFindsSaid : Prop := diffuseFindsRow.holds Try.pinned (OpenSpec.ofChange diffuseFindsSpec)

/-- ITS FALSE NEIGHBOUR: 'it returns false'. Refute it at one input. -/
def diffuseFindsWrong : ChangeSpec := { name := "diffuseFinds", fn := fun _ => fun
  | [d1, d2, d3] => { results := [.lit (.bool false)], args := [d1, d2, d3] }
  | _ => none }
def DiffuseFindsWrongFalsely : Prop := diffuseFindsRow.holds Try.pinned (OpenSpec.ofChange diffuseFindsWrong)

/-- 'clusterlockslaw35.DiffuseOrder': WHATEVER THE INPUT: true; the input reads as it did. -/
def diffuseOrderSpec : ChangeSpec := { name := "diffuseOrder", fn := fun _ => fun
  | [d1, d2, d3, d4] => { results := [.lit (.bool true)], args := [d1, d2, d3, d4] }
  | _ => none }
def diffuseOrderRow : OpenClaim := { program := "ytcjmbkbbhlmkfaa", sum := "8b991e5761adfa0dce2aac8ce746716926b608976a159e15b5fe09d8f7c9c39a", func := "clusterlocks/clusterlockslaw35.DiffuseOrder", spec := "diffuseOrder", plainKeys := false, apart := false }
def DiffuseOrderSaid : Prop := diffuseOrderRow.holds Try.pinned (OpenSpec.ofChange diffuseOrderSpec)

/-- ITS FALSE NEIGHBOUR: 'it returns false'. Refute it at one input. -/
def diffuseOrderWrong : ChangeSpec := { name := "diffuseOrder", fn := fun _ => fun
  | [d1, d2, d3, d4] => { results := [.lit (.bool false)], args := [d1, d2, d3, d4] }
  | _ => none }
def DiffuseOrderWrongFalsely : Prop := diffuseOrderRow.holds Try.pinned (OpenSpec.ofChange diffuseOrderWrong)

/-- 'clusterlockslaw35.DiffuseStuck': WHATEVER THE INPUT: true; the input reads as it did. -/
def diffuseStuckSpec : ChangeSpec := { name := "diffuseStuck", fn := fun _ => fun
  | [d1, d2, d3] => { results := [.lit (.bool true)], args := [d1, d2, d3] }
  | _ => none }
def diffuseStuckRow : OpenClaim := { program := "ytcjmbkbbhlmkfaa", sum := "8b991e5761adfa0dce2aac8ce746716926b608976a159e15b5fe09d8f7c9c39a", func := "clusterlocks/clusterlockslaw35.DiffuseStuck", spec := "diffuseStuck", plainKeys := false, apart := false }
def DiffuseStuckSaid : Prop := diffuseStuckRow.holds Try.pinned (OpenSpec.ofChange diffuseStuckSpec)

/-- ITS FALSE NEIGHBOUR: 'it returns false'. Refute it at one input. -/
def diffuseStuckWrong : ChangeSpec := { name := "diffuseStuck", fn := fun _ => fun
  | [d1, d2, d3] => { results := [.lit (.bool false)], args := [d1, d2, d3] }
  | _ => none }
def DiffuseStuckWrongFalsely : Prop := diffuseStuckRow.holds Try.pinned (OpenSpec.ofChange diffuseStuckWrong)

/- THE SECOND FORM. 'bulk': how many values and letters a reading holds, each counted each time it is reached (what is shared counts as often as it is met; a slice's spare places count too). A statement '..UptoSaid' is the law's where the arguments, and the package variables that the reading takes, are together of bulk at most 1048576: NARROWER than '..Said'. Prove '..Said' where nothing that the law and all that it calls make is longer than what came in: it says more and counts as full. Else prove '..UptoSaid'. A law counts once. -/
mutual
def uptoBulk {H : Type} : DataW H → Nat
  | .lit (.string bytes) => bytes.length + 1
  | .lit _ => 1
  | .nil => 1
  | .ptr d => uptoBulk d + 1
  | .slice elems spare => uptoBulkAll elems + uptoBulkAll spare + 1
  | .agg parts => uptoBulkAll parts + 1
  | .iface _ d => uptoBulk d + 1
  | .map entries => uptoBulkEntries entries + 1
  | .held _ => 1
def uptoBulkAll {H : Type} : List (DataW H) → Nat
  | [] => 0
  | d :: r => uptoBulk d + uptoBulkAll r
def uptoBulkEntries {H : Type} : List (Lit × DataW H) → Nat
  | [] => 0
  | x :: r => uptoBulkEntry x + uptoBulkEntries r
def uptoBulkEntry {H : Type} : Lit × DataW H → Nat
  | (.string bytes, d) => bytes.length + uptoBulk d + 1
  | (_, d) => uptoBulk d + 1
 end
def uptoSmall : (H : Type) → List (DataW H) → Bool := fun _ ds => decide (uptoBulkAll ds ≤ 1048576)
def OpenSpec.upto (s : _root_.Go.ChangeSpec) : _root_.Go.OpenSpec := { _root_.Go.OpenSpec.ofChange s with cond := some uptoSmall }

/-- 'clusterlockslaw35.DiffuseActs', WHERE WHAT IT READS IS OF BULK AT MOST 1048576: true; the input reads as it did. -/
def diffuseActsUptoRow : OpenClaim := { program := "ytcjmbkbbhlmkfaa", sum := "8b991e5761adfa0dce2aac8ce746716926b608976a159e15b5fe09d8f7c9c39a", func := "clusterlocks/clusterlockslaw35.DiffuseActs", spec := "diffuseActs", plainKeys := false, apart := false, narrowed := true }
def DiffuseActsUptoSaid : Prop := diffuseActsUptoRow.holds Try.pinned (OpenSpec.upto diffuseActsSpec)

/-- 'clusterlockslaw35.DiffuseFinds', WHERE WHAT IT READS IS OF BULK AT MOST 1048576: true; the input reads as it did. -/
def diffuseFindsUptoRow : OpenClaim := { program := "ytcjmbkbbhlmkfaa", sum := "8b991e5761adfa0dce2aac8ce746716926b608976a159e15b5fe09d8f7c9c39a", func := "clusterlocks/clusterlockslaw35.DiffuseFinds", spec := "diffuseFinds", plainKeys := false, apart := false, narrowed := true }
def DiffuseFindsUptoSaid : Prop := diffuseFindsUptoRow.holds Try.pinned (OpenSpec.upto diffuseFindsSpec)

/-- 'clusterlockslaw35.DiffuseOrder', WHERE WHAT IT READS IS OF BULK AT MOST 1048576: true; the input reads as it did. -/
def diffuseOrderUptoRow : OpenClaim := { program := "ytcjmbkbbhlmkfaa", sum := "8b991e5761adfa0dce2aac8ce746716926b608976a159e15b5fe09d8f7c9c39a", func := "clusterlocks/clusterlockslaw35.DiffuseOrder", spec := "diffuseOrder", plainKeys := false, apart := false, narrowed := true }
def DiffuseOrderUptoSaid : Prop := diffuseOrderUptoRow.holds Try.pinned (OpenSpec.upto diffuseOrderSpec)

/-- 'clusterlockslaw35.DiffuseStuck', WHERE WHAT IT READS IS OF BULK AT MOST 1048576: true; the input reads as it did. -/
def diffuseStuckUptoRow : OpenClaim := { program := "ytcjmbkbbhlmkfaa", sum := "8b991e5761adfa0dce2aac8ce746716926b608976a159e15b5fe09d8f7c9c39a", func := "clusterlocks/clusterlockslaw35.DiffuseStuck", spec := "diffuseStuck", plainKeys := false, apart := false, narrowed := true }
def DiffuseStuckUptoSaid : Prop := diffuseStuckUptoRow.holds Try.pinned (OpenSpec.upto diffuseStuckSpec)

end Rows
end Go.Proofs.Ytcjmbkbbhlmkfaa
