/-
  No cell of these rows narrows 'for every input' (looked for: loops, veiled, ifaces, maps, wideKeys, modest, calm, conditions, laid).
  DERIVED. THE GIVEN ROWS OF THIS SEAT. 4 by the template 'for every input the law returns true; each argument reads behind the call as it read before'; 0 by the template 'total and deterministic' (their statements: YtjgcjahngmkfdaaTotals.lean).
  GIVEN WITH THE SEED: the statements are not yours to turn. If you find one false, say at which input.
  Laid BY PROGRAM, IN A SANDBOX (cutbox-rows.mjs): the forced cells as the released guide's own fill.sh prints them over the translation 1c090fa83a6bc55b… (all of the seat's roots in one cut). By AI agents, Wed Nov 11 2026. No macro, syntax, notation, axiom, sorry.
-/
import Derived.Test.YtjgcjahngmkfdaaChecked
import GoSem.Claim
import GoSem.ClaimJoined
import GoSem.ClaimMapViews
import Derived.JoinedTies
import Derived.KernelRfl
namespace Go.Proofs.Ytjgcjahngmkfdaa
/- THE CELL 'sum', in the pinned program and in every row, IS THE sha256 OF THE DUMP (.gsa) THAT YtjgcjahngmkfdaaProg.lean LOADS. Nothing in Lean hashes anything: it is a label: what it is worth is what the hold of that sum in a sandbox is worth. -/
noncomputable def Try.pinned : Pinned := { name := "ytjgcjahngmkfdaa", sum := "1c090fa83a6bc55b869ef78ac85e9114eaa918985611cc8579bc7dba8630d6c4", checked := Try.checked }
namespace Rows
def none {H : Type} : Left H := { results := [], args := [] }

/-- 'clusterlockslaw25.LinkActs': WHATEVER THE INPUT: true; the input reads as it did. -/
def linkActsSpec : ChangeSpec := { name := "linkActs", fn := fun _ => fun
  | [d1, d2, d3] => { results := [.lit (.bool true)], args := [d1, d2, d3] }
  | _ => none }
def linkActsRow : OpenClaim := { program := "ytjgcjahngmkfdaa", sum := "1c090fa83a6bc55b869ef78ac85e9114eaa918985611cc8579bc7dba8630d6c4", func := "clusterlocks/clusterlockslaw25.LinkActs", spec := "linkActs", apart := false }
def LinkActsSaid : Prop := linkActsRow.holds Try.pinned (OpenSpec.ofChange linkActsSpec)

/-- ITS FALSE NEIGHBOUR: 'it returns false'. Refute it at one input. -/
def linkActsWrong : ChangeSpec := { name := "linkActs", fn := fun _ => fun
  | [d1, d2, d3] => { results := [.lit (.bool false)], args := [d1, d2, d3] }
  | _ => none }
def LinkActsWrongFalsely : Prop := linkActsRow.holds Try.pinned (OpenSpec.ofChange linkActsWrong)

/-- 'clusterlockslaw25.LinkCodes': WHATEVER THE INPUT: true; the input reads as it did. -/
def linkCodesSpec : ChangeSpec := { name := "linkCodes", fn := fun _ => fun
  | [d1, d2] => { results := [.lit (.bool true)], args := [d1, d2] }
  | _ => none }
def linkCodesRow : OpenClaim := { program := "ytjgcjahngmkfdaa", sum := "1c090fa83a6bc55b869ef78ac85e9114eaa918985611cc8579bc7dba8630d6c4", func := "clusterlocks/clusterlockslaw25.LinkCodes", spec := "linkCodes", apart := false }
def LinkCodesSaid : Prop := linkCodesRow.holds Try.pinned (OpenSpec.ofChange linkCodesSpec)

/-- ITS FALSE NEIGHBOUR: 'it returns false'. Refute it at one input. -/
def linkCodesWrong : ChangeSpec := { name := "linkCodes", fn := fun _ => fun
  | [d1, d2] => { results := [.lit (.bool false)], args := [d1, d2] }
  | _ => none }
def LinkCodesWrongFalsely : Prop := linkCodesRow.holds Try.pinned (OpenSpec.ofChange linkCodesWrong)

/-- 'clusterlockslaw25.LinkOnce': WHATEVER THE INPUT: true; the input reads as it did. -/
def linkOnceSpec : ChangeSpec := { name := "linkOnce", fn := fun _ => fun
  | [d] => { results := [.lit (.bool true)], args := [d] }
  | _ => none }
def linkOnceRow : OpenClaim := { program := "ytjgcjahngmkfdaa", sum := "1c090fa83a6bc55b869ef78ac85e9114eaa918985611cc8579bc7dba8630d6c4", func := "clusterlocks/clusterlockslaw25.LinkOnce", spec := "linkOnce", apart := false }
def LinkOnceSaid : Prop := linkOnceRow.holds Try.pinned (OpenSpec.ofChange linkOnceSpec)

/-- ITS FALSE NEIGHBOUR: 'it returns false'. Refute it at one input. -/
def linkOnceWrong : ChangeSpec := { name := "linkOnce", fn := fun _ => fun
  | [d] => { results := [.lit (.bool false)], args := [d] }
  | _ => none }
def LinkOnceWrongFalsely : Prop := linkOnceRow.holds Try.pinned (OpenSpec.ofChange linkOnceWrong)

/-- 'clusterlockslaw25.LinkRounds': WHATEVER THE INPUT: true; the input reads as it did. -/
def linkRoundsSpec : ChangeSpec := { name := "linkRounds", fn := fun _ => fun
  | [d] => { results := [.lit (.bool true)], args := [d] }
  | _ => none }
def linkRoundsRow : OpenClaim := { program := "ytjgcjahngmkfdaa", sum := "1c090fa83a6bc55b869ef78ac85e9114eaa918985611cc8579bc7dba8630d6c4", func := "clusterlocks/clusterlockslaw25.LinkRounds", spec := "linkRounds", apart := false }
def LinkRoundsSaid : Prop := linkRoundsRow.holds Try.pinned (OpenSpec.ofChange linkRoundsSpec)

/-- ITS FALSE NEIGHBOUR: 'it returns false'. Refute it at one input. -/
def linkRoundsWrong : ChangeSpec := { name := "linkRounds", fn := fun _ => fun
  | [d] => { results := [.lit (.bool false)], args := [d] }
  | _ => none }
def LinkRoundsWrongFalsely : Prop := linkRoundsRow.holds Try.pinned (OpenSpec.ofChange linkRoundsWrong)

/- THE SECOND FORM. 'bulk': how many values and letters a reading holds, each counted each time it is reached (what is shared counts as often as it is met; a slice's spare places count too). A statement '..UptoSaid' is the law's where the arguments, and the package variables that the reading takes, are together of bulk at most 1048576: NARROWER than '..Said'. Prove '..Said' where nothing that the law and all that it calls make is longer than what came in: it says more and counts as full. Else prove '..UptoSaid'. A law counts once. -/
mutual
def uptoBulk {H : Type} : DataW H → Nat
  | .lit (.string bytes) => bytes.length + 1
  | .lit _ => 1
  | .nil => 1
  | .ptr d => uptoBulk d + 1
  | .slice elems spare => uptoBulkAll elems + uptoBulkAll spare + 1
  | .agg parts => uptoBulkAll parts + 1
  | .iface _ d => uptoBulk d + 1
  | .map entries => uptoBulkEntries entries + 1
  | .held _ => 1
def uptoBulkAll {H : Type} : List (DataW H) → Nat
  | [] => 0
  | d :: r => uptoBulk d + uptoBulkAll r
def uptoBulkEntries {H : Type} : List (Lit × DataW H) → Nat
  | [] => 0
  | x :: r => uptoBulkEntry x + uptoBulkEntries r
def uptoBulkEntry {H : Type} : Lit × DataW H → Nat
  | (.string bytes, d) => bytes.length + uptoBulk d + 1
  | (_, d) => uptoBulk d + 1
 end
def uptoSmall : (H : Type) → List (DataW H) → Bool := fun _ ds => decide (uptoBulkAll ds ≤ 1048576)
def OpenSpec.upto (s : _root_.Go.ChangeSpec) : _root_.Go.OpenSpec := { _root_.Go.OpenSpec.ofChange s with cond := some uptoSmall }

/-- 'clusterlockslaw25.LinkActs', WHERE WHAT IT READS IS OF BULK AT MOST 1048576: true; the input reads as it did. -/
def linkActsUptoRow : OpenClaim := { program := "ytjgcjahngmkfdaa", sum := "1c090fa83a6bc55b869ef78ac85e9114eaa918985611cc8579bc7dba8630d6c4", func := "clusterlocks/clusterlockslaw25.LinkActs", spec := "linkActs", apart := false, narrowed := true }
def LinkActsUptoSaid : Prop := linkActsUptoRow.holds Try.pinned (OpenSpec.upto linkActsSpec)

/-- 'clusterlockslaw25.LinkCodes', WHERE WHAT IT READS IS OF BULK AT MOST 1048576: true; the input reads as it did. -/
def linkCodesUptoRow : OpenClaim := { program := "ytjgcjahngmkfdaa", sum := "1c090fa83a6bc55b869ef78ac85e9114eaa918985611cc8579bc7dba8630d6c4", func := "clusterlocks/clusterlockslaw25.LinkCodes", spec := "linkCodes", apart := false, narrowed := true }
def LinkCodesUptoSaid : Prop := linkCodesUptoRow.holds Try.pinned (OpenSpec.upto linkCodesSpec)

/-- 'clusterlockslaw25.LinkOnce', WHERE WHAT IT READS IS OF BULK AT MOST 1048576: true; the input reads as it did. -/
def linkOnceUptoRow : OpenClaim := { program := "ytjgcjahngmkfdaa", sum := "1c090fa83a6bc55b869ef78ac85e9114eaa918985611cc8579bc7dba8630d6c4", func := "clusterlocks/clusterlockslaw25.LinkOnce", spec := "linkOnce", apart := false, narrowed := true }
def LinkOnceUptoSaid : Prop := linkOnceUptoRow.holds Try.pinned (OpenSpec.upto linkOnceSpec)

/-- 'clusterlockslaw25.LinkRounds', WHERE WHAT IT READS IS OF BULK AT MOST 1048576: true; the input reads as it did. -/
def linkRoundsUptoRow : OpenClaim := { program := "ytjgcjahngmkfdaa", sum := "1c090fa83a6bc55b869ef78ac85e9114eaa918985611cc8579bc7dba8630d6c4", func := "clusterlocks/clusterlockslaw25.LinkRounds", spec := "linkRounds", apart := false, narrowed := true }
def LinkRoundsUptoSaid : Prop := linkRoundsUptoRow.holds Try.pinned (OpenSpec.upto linkRoundsSpec)

end Rows
end Go.Proofs.Ytjgcjahngmkfdaa
