/-
  No cell of these rows narrows 'for every input' (looked for: loops, veiled, ifaces, maps, wideKeys, modest, calm, conditions, laid).
  DERIVED. THE GIVEN ROWS OF THIS SEAT. 4 by the template 'for every input the law returns true; each argument reads behind the call as it read before'; 0 by the template 'total and deterministic' (their statements: YtpfjlnmnolbiaaaTotals.lean).
  GIVEN WITH THE SEED: the statements are not yours to turn. If you find one false, say at which input.
  Laid BY PROGRAM, IN A SANDBOX (cutbox-rows.mjs): the forced cells as the released guide's own fill.sh prints them over the translation 2a6b846b02e043ad… (all of the seat's roots in one cut). By AI agents, Wed Nov 11 2026. No macro, syntax, notation, axiom, sorry.
-/
import Derived.Test.YtpfjlnmnolbiaaaChecked
import GoSem.Claim
import GoSem.ClaimJoined
import GoSem.ClaimMapViews
import Derived.JoinedTies
import Derived.KernelRfl
namespace Go.Proofs.Ytpfjlnmnolbiaaa
/- THE CELL 'sum', in the pinned program and in every row, IS THE sha256 OF THE DUMP (.gsa) THAT YtpfjlnmnolbiaaaProg.lean LOADS. Nothing in Lean hashes anything: it is a label: what it is worth is what the hold of that sum in a sandbox is worth. -/
noncomputable def Try.pinned : Pinned := { name := "ytpfjlnmnolbiaaa", sum := "2a6b846b02e043ad57c1668ddb64a7fc773e9328d53dc2e44a332c1ad6a6ef54", checked := Try.checked }
namespace Rows
def none {H : Type} : Left H := { results := [], args := [] }

/-- 'clusterlockslaw30.QuorumServed': WHATEVER THE INPUT: true; the input reads as it did. -/
def quorumServedSpec : ChangeSpec := { name := "quorumServed", fn := fun _ => fun
  | [d1, d2, d3] => { results := [.lit (.bool true)], args := [d1, d2, d3] }
  | _ => none }
def quorumServedRow : OpenClaim := { program := "ytpfjlnmnolbiaaa", sum := "2a6b846b02e043ad57c1668ddb64a7fc773e9328d53dc2e44a332c1ad6a6ef54", func := "clusterlocks/clusterlockslaw30.QuorumServed", spec := "quorumServed", inPlace := ["slices.overlaps[clusterlocks/api.Stamp]"], unfollowed := true, recurses := true, apart := false }
def QuorumServedSaid : Prop := quorumServedRow.holds Try.pinned (OpenSpec.ofChange quorumServedSpec)

/-- ITS FALSE NEIGHBOUR: 'it returns false'. Refute it at one input. -/
def quorumServedWrong : ChangeSpec := { name := "quorumServed", fn := fun _ => fun
  | [d1, d2, d3] => { results := [.lit (.bool false)], args := [d1, d2, d3] }
  | _ => none }
def QuorumServedWrongFalsely : Prop := quorumServedRow.holds Try.pinned (OpenSpec.ofChange quorumServedWrong)

/-- 'clusterlockslaw30.QuorumVotes': WHATEVER THE INPUT: true; the input reads as it did. -/
def quorumVotesSpec : ChangeSpec := { name := "quorumVotes", fn := fun _ => fun
  | [d1, d2] => { results := [.lit (.bool true)], args := [d1, d2] }
  | _ => none }
def quorumVotesRow : OpenClaim := { program := "ytpfjlnmnolbiaaa", sum := "2a6b846b02e043ad57c1668ddb64a7fc773e9328d53dc2e44a332c1ad6a6ef54", func := "clusterlocks/clusterlockslaw30.QuorumVotes", spec := "quorumVotes", inPlace := ["slices.overlaps[clusterlocks/api.Stamp]"], unfollowed := true, recurses := true, apart := false }
def QuorumVotesSaid : Prop := quorumVotesRow.holds Try.pinned (OpenSpec.ofChange quorumVotesSpec)

/-- ITS FALSE NEIGHBOUR: 'it returns false'. Refute it at one input. -/
def quorumVotesWrong : ChangeSpec := { name := "quorumVotes", fn := fun _ => fun
  | [d1, d2] => { results := [.lit (.bool false)], args := [d1, d2] }
  | _ => none }
def QuorumVotesWrongFalsely : Prop := quorumVotesRow.holds Try.pinned (OpenSpec.ofChange quorumVotesWrong)

/-- 'clusterlockslaw30.QuorumActs': WHATEVER THE INPUT: true; the input reads as it did. -/
def quorumActsSpec : ChangeSpec := { name := "quorumActs", fn := fun _ => fun
  | [d1, d2, d3, d4, d5, d6, d7, d8] => { results := [.lit (.bool true)], args := [d1, d2, d3, d4, d5, d6, d7, d8] }
  | _ => none }
def quorumActsRow : OpenClaim := { program := "ytpfjlnmnolbiaaa", sum := "2a6b846b02e043ad57c1668ddb64a7fc773e9328d53dc2e44a332c1ad6a6ef54", func := "clusterlocks/clusterlockslaw30.QuorumActs", spec := "quorumActs", inPlace := ["slices.overlaps[clusterlocks/api.Stamp]"], unfollowed := true, recurses := true, apart := false }
def QuorumActsSaid : Prop := quorumActsRow.holds Try.pinned (OpenSpec.ofChange quorumActsSpec)

/-- ITS FALSE NEIGHBOUR: 'it returns false'. Refute it at one input. -/
def quorumActsWrong : ChangeSpec := { name := "quorumActs", fn := fun _ => fun
  | [d1, d2, d3, d4, d5, d6, d7, d8] => { results := [.lit (.bool false)], args := [d1, d2, d3, d4, d5, d6, d7, d8] }
  | _ => none }
def QuorumActsWrongFalsely : Prop := quorumActsRow.holds Try.pinned (OpenSpec.ofChange quorumActsWrong)

/-- 'clusterlockslaw30.QuorumAlone': WHATEVER THE INPUT: true; the input reads as it did. -/
def quorumAloneSpec : ChangeSpec := { name := "quorumAlone", fn := fun _ => fun
  | [d1, d2] => { results := [.lit (.bool true)], args := [d1, d2] }
  | _ => none }
def quorumAloneRow : OpenClaim := { program := "ytpfjlnmnolbiaaa", sum := "2a6b846b02e043ad57c1668ddb64a7fc773e9328d53dc2e44a332c1ad6a6ef54", func := "clusterlocks/clusterlockslaw30.QuorumAlone", spec := "quorumAlone", inPlace := ["slices.overlaps[clusterlocks/api.Stamp]"], unfollowed := true, recurses := true, apart := false }
def QuorumAloneSaid : Prop := quorumAloneRow.holds Try.pinned (OpenSpec.ofChange quorumAloneSpec)

/-- ITS FALSE NEIGHBOUR: 'it returns false'. Refute it at one input. -/
def quorumAloneWrong : ChangeSpec := { name := "quorumAlone", fn := fun _ => fun
  | [d1, d2] => { results := [.lit (.bool false)], args := [d1, d2] }
  | _ => none }
def QuorumAloneWrongFalsely : Prop := quorumAloneRow.holds Try.pinned (OpenSpec.ofChange quorumAloneWrong)

/- THE SECOND FORM. 'bulk': how many values and letters a reading holds, each counted each time it is reached (what is shared counts as often as it is met; a slice's spare places count too). A statement '..UptoSaid' is the law's where the arguments, and the package variables that the reading takes, are together of bulk at most 1048576: NARROWER than '..Said'. Prove '..Said' where nothing that the law and all that it calls make is longer than what came in: it says more and counts as full. Else prove '..UptoSaid'. A law counts once. -/
mutual
def uptoBulk {H : Type} : DataW H → Nat
  | .lit (.string bytes) => bytes.length + 1
  | .lit _ => 1
  | .nil => 1
  | .ptr d => uptoBulk d + 1
  | .slice elems spare => uptoBulkAll elems + uptoBulkAll spare + 1
  | .agg parts => uptoBulkAll parts + 1
  | .iface _ d => uptoBulk d + 1
  | .map entries => uptoBulkEntries entries + 1
  | .held _ => 1
def uptoBulkAll {H : Type} : List (DataW H) → Nat
  | [] => 0
  | d :: r => uptoBulk d + uptoBulkAll r
def uptoBulkEntries {H : Type} : List (Lit × DataW H) → Nat
  | [] => 0
  | x :: r => uptoBulkEntry x + uptoBulkEntries r
def uptoBulkEntry {H : Type} : Lit × DataW H → Nat
  | (.string bytes, d) => bytes.length + uptoBulk d + 1
  | (_, d) => uptoBulk d + 1
 end
def uptoSmall : (H : Type) → List (DataW H) → Bool := fun _ ds => decide (uptoBulkAll ds ≤ 1048576)
def OpenSpec.upto (s : _root_.Go.ChangeSpec) : _root_.Go.OpenSpec := { _root_.Go.OpenSpec.ofChange s with cond := some uptoSmall }

/-- 'clusterlockslaw30.QuorumServed', WHERE WHAT IT READS IS OF BULK AT MOST 1048576: true; the input reads as it did. -/
def quorumServedUptoRow : OpenClaim := { program := "ytpfjlnmnolbiaaa", sum := "2a6b846b02e043ad57c1668ddb64a7fc773e9328d53dc2e44a332c1ad6a6ef54", func := "clusterlocks/clusterlockslaw30.QuorumServed", spec := "quorumServed", inPlace := ["slices.overlaps[clusterlocks/api.Stamp]"], unfollowed := true, recurses := true, apart := false, narrowed := true }
def QuorumServedUptoSaid : Prop := quorumServedUptoRow.holds Try.pinned (OpenSpec.upto quorumServedSpec)

/-- 'clusterlockslaw30.QuorumVotes', WHERE WHAT IT READS IS OF BULK AT MOST 1048576: true; the input reads as it did. -/
def quorumVotesUptoRow : OpenClaim := { program := "ytpfjlnmnolbiaaa", sum := "2a6b846b02e043ad57c1668ddb64a7fc773e9328d53dc2e44a332c1ad6a6ef54", func := "clusterlocks/clusterlockslaw30.QuorumVotes", spec := "quorumVotes", inPlace := ["slices.overlaps[clusterlocks/api.Stamp]"], unfollowed := true, recurses := true, apart := false, narrowed := true }
def QuorumVotesUptoSaid : Prop := quorumVotesUptoRow.holds Try.pinned (OpenSpec.upto quorumVotesSpec)

/-- 'clusterlockslaw30.QuorumActs', WHERE WHAT IT READS IS OF BULK AT MOST 1048576: true; the input reads as it did. -/
def quorumActsUptoRow : OpenClaim := { program := "ytpfjlnmnolbiaaa", sum := "2a6b846b02e043ad57c1668ddb64a7fc773e9328d53dc2e44a332c1ad6a6ef54", func := "clusterlocks/clusterlockslaw30.QuorumActs", spec := "quorumActs", inPlace := ["slices.overlaps[clusterlocks/api.Stamp]"], unfollowed := true, recurses := true, apart := false, narrowed := true }
def QuorumActsUptoSaid : Prop := quorumActsUptoRow.holds Try.pinned (OpenSpec.upto quorumActsSpec)

/-- 'clusterlockslaw30.QuorumAlone', WHERE WHAT IT READS IS OF BULK AT MOST 1048576: true; the input reads as it did. -/
def quorumAloneUptoRow : OpenClaim := { program := "ytpfjlnmnolbiaaa", sum := "2a6b846b02e043ad57c1668ddb64a7fc773e9328d53dc2e44a332c1ad6a6ef54", func := "clusterlocks/clusterlockslaw30.QuorumAlone", spec := "quorumAlone", inPlace := ["slices.overlaps[clusterlocks/api.Stamp]"], unfollowed := true, recurses := true, apart := false, narrowed := true }
def QuorumAloneUptoSaid : Prop := quorumAloneUptoRow.holds Try.pinned (OpenSpec.upto quorumAloneSpec)

end Rows
end Go.Proofs.Ytpfjlnmnolbiaaa
