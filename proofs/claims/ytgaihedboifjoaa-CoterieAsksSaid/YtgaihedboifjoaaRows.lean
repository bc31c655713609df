/-
  No cell of these rows narrows 'for every input' (looked for: loops, veiled, ifaces, maps, wideKeys, modest, calm, conditions, laid).
  DERIVED. THE GIVEN ROWS OF THIS SEAT. 5 by the template 'for every input the law returns true; each argument reads behind the call as it read before'; 0 by the template 'total and deterministic' (their statements: YtgaihedboifjoaaTotals.lean).
  GIVEN WITH THE SEED: the statements are not yours to turn. If you find one false, say at which input.
  Laid BY PROGRAM, IN A SANDBOX (cutbox-rows.mjs): the forced cells as the released guide's own fill.sh prints them over the translation cc233ffa77a13c34… (all of the seat's roots in one cut). By AI agents, Wed Nov 11 2026. No macro, syntax, notation, axiom, sorry.
-/
import Derived.Test.YtgaihedboifjoaaChecked
import GoSem.Claim
import GoSem.ClaimJoined
import GoSem.ClaimMapViews
import Derived.JoinedTies
import Derived.KernelRfl
namespace Go.Proofs.Ytgaihedboifjoaa
/- THE CELL 'sum', in the pinned program and in every row, IS THE sha256 OF THE DUMP (.gsa) THAT YtgaihedboifjoaaProg.lean LOADS. Nothing in Lean hashes anything: it is a label: what it is worth is what the hold of that sum in a sandbox is worth. -/
noncomputable def Try.pinned : Pinned := { name := "ytgaihedboifjoaa", sum := "cc233ffa77a13c34726c781ced714518595ba8f8b4a63be0966645b5f38ec863", checked := Try.checked }
namespace Rows
def none {H : Type} : Left H := { results := [], args := [] }

/-- 'clusterlockslaw29.CoterieMakes': WHATEVER THE INPUT: true; the input reads as it did. -/
def coterieMakesSpec : ChangeSpec := { name := "coterieMakes", fn := fun _ => fun
  | [d1, d2, d3, d4] => { results := [.lit (.bool true)], args := [d1, d2, d3, d4] }
  | _ => none }
def coterieMakesRow : OpenClaim := { program := "ytgaihedboifjoaa", sum := "cc233ffa77a13c34726c781ced714518595ba8f8b4a63be0966645b5f38ec863", func := "clusterlocks/clusterlockslaw29.CoterieMakes", spec := "coterieMakes", unfollowed := true, recurses := true, apart := false }
def CoterieMakesSaid : Prop := coterieMakesRow.holds Try.pinned (OpenSpec.ofChange coterieMakesSpec)

/-- ITS FALSE NEIGHBOUR: 'it returns false'. Refute it at one input. -/
def coterieMakesWrong : ChangeSpec := { name := "coterieMakes", fn := fun _ => fun
  | [d1, d2, d3, d4] => { results := [.lit (.bool false)], args := [d1, d2, d3, d4] }
  | _ => none }
def CoterieMakesWrongFalsely : Prop := coterieMakesRow.holds Try.pinned (OpenSpec.ofChange coterieMakesWrong)

/-- 'clusterlockslaw29.CoterieAsks': WHATEVER THE INPUT: true; the input reads as it did. -/
def coterieAsksSpec : ChangeSpec := { name := "coterieAsks", fn := fun _ => fun
  | [d1, d2, d3, d4] => { results := [.lit (.bool true)], args := [d1, d2, d3, d4] }
  | _ => none }
def coterieAsksRow : OpenClaim := { program := "ytgaihedboifjoaa", sum := "cc233ffa77a13c34726c781ced714518595ba8f8b4a63be0966645b5f38ec863", func := "clusterlocks/clusterlockslaw29.CoterieAsks", spec := "coterieAsks", unfollowed := true, recurses := true, apart := false }
def CoterieAsksSaid : Prop := coterieAsksRow.holds Try.pinned (OpenSpec.ofChange coterieAsksSpec)

/-- ITS FALSE NEIGHBOUR: 'it returns false'. Refute it at one input. -/
def coterieAsksWrong : ChangeSpec := { name := "coterieAsks", fn := fun _ => fun
  | [d1, d2, d3, d4] => { results := [.lit (.bool false)], args := [d1, d2, d3, d4] }
  | _ => none }
def CoterieAsksWrongFalsely : Prop := coterieAsksRow.holds Try.pinned (OpenSpec.ofChange coterieAsksWrong)

/-- 'clusterlockslaw29.CoterieSelf': WHATEVER THE INPUT: true; the input reads as it did. -/
def coterieSelfSpec : ChangeSpec := { name := "coterieSelf", fn := fun _ => fun
  | [d1, d2] => { results := [.lit (.bool true)], args := [d1, d2] }
  | _ => none }
def coterieSelfRow : OpenClaim := { program := "ytgaihedboifjoaa", sum := "cc233ffa77a13c34726c781ced714518595ba8f8b4a63be0966645b5f38ec863", func := "clusterlocks/clusterlockslaw29.CoterieSelf", spec := "coterieSelf", unfollowed := true, recurses := true, apart := false }
def CoterieSelfSaid : Prop := coterieSelfRow.holds Try.pinned (OpenSpec.ofChange coterieSelfSpec)

/-- ITS FALSE NEIGHBOUR: 'it returns false'. Refute it at one input. -/
def coterieSelfWrong : ChangeSpec := { name := "coterieSelf", fn := fun _ => fun
  | [d1, d2] => { results := [.lit (.bool false)], args := [d1, d2] }
  | _ => none }
def CoterieSelfWrongFalsely : Prop := coterieSelfRow.holds Try.pinned (OpenSpec.ofChange coterieSelfWrong)

/-- 'clusterlockslaw29.CoterieHalves': WHATEVER THE INPUT: true; the input reads as it did. -/
def coterieHalvesSpec : ChangeSpec := { name := "coterieHalves", fn := fun _ => fun
  | [d1, d2, d3] => { results := [.lit (.bool true)], args := [d1, d2, d3] }
  | _ => none }
def coterieHalvesRow : OpenClaim := { program := "ytgaihedboifjoaa", sum := "cc233ffa77a13c34726c781ced714518595ba8f8b4a63be0966645b5f38ec863", func := "clusterlocks/clusterlockslaw29.CoterieHalves", spec := "coterieHalves", unfollowed := true, recurses := true, apart := false }
def CoterieHalvesSaid : Prop := coterieHalvesRow.holds Try.pinned (OpenSpec.ofChange coterieHalvesSpec)

/-- ITS FALSE NEIGHBOUR: 'it returns false'. Refute it at one input. -/
def coterieHalvesWrong : ChangeSpec := { name := "coterieHalves", fn := fun _ => fun
  | [d1, d2, d3] => { results := [.lit (.bool false)], args := [d1, d2, d3] }
  | _ => none }
def CoterieHalvesWrongFalsely : Prop := coterieHalvesRow.holds Try.pinned (OpenSpec.ofChange coterieHalvesWrong)

/-- 'clusterlockslaw29.CoterieOdd': WHATEVER THE INPUT: true; the input reads as it did. -/
def coterieOddSpec : ChangeSpec := { name := "coterieOdd", fn := fun _ => fun
  | [d] => { results := [.lit (.bool true)], args := [d] }
  | _ => none }
def coterieOddRow : OpenClaim := { program := "ytgaihedboifjoaa", sum := "cc233ffa77a13c34726c781ced714518595ba8f8b4a63be0966645b5f38ec863", func := "clusterlocks/clusterlockslaw29.CoterieOdd", spec := "coterieOdd", unfollowed := true, recurses := true, apart := false }
def CoterieOddSaid : Prop := coterieOddRow.holds Try.pinned (OpenSpec.ofChange coterieOddSpec)

/-- ITS FALSE NEIGHBOUR: 'it returns false'. Refute it at one input. -/
def coterieOddWrong : ChangeSpec := { name := "coterieOdd", fn := fun _ => fun
  | [d] => { results := [.lit (.bool false)], args := [d] }
  | _ => none }
def CoterieOddWrongFalsely : Prop := coterieOddRow.holds Try.pinned (OpenSpec.ofChange coterieOddWrong)

/- THE SECOND FORM. 'bulk': how many values and letters a reading holds, each counted each time it is reached (what is shared counts as often as it is met; a slice's spare places count too). A statement '..UptoSaid' is the law's where the arguments, and the package variables that the reading takes, are together of bulk at most 1048576: NARROWER than '..Said'. Prove '..Said' where nothing that the law and all that it calls make is longer than what came in: it says more and counts as full. Else prove '..UptoSaid'. A law counts once. -/
mutual
def uptoBulk {H : Type} : DataW H → Nat
  | .lit (.string bytes) => bytes.length + 1
  | .lit _ => 1
  | .nil => 1
  | .ptr d => uptoBulk d + 1
  | .slice elems spare => uptoBulkAll elems + uptoBulkAll spare + 1
  | .agg parts => uptoBulkAll parts + 1
  | .iface _ d => uptoBulk d + 1
  | .map entries => uptoBulkEntries entries + 1
  | .held _ => 1
def uptoBulkAll {H : Type} : List (DataW H) → Nat
  | [] => 0
  | d :: r => uptoBulk d + uptoBulkAll r
def uptoBulkEntries {H : Type} : List (Lit × DataW H) → Nat
  | [] => 0
  | x :: r => uptoBulkEntry x + uptoBulkEntries r
def uptoBulkEntry {H : Type} : Lit × DataW H → Nat
  | (.string bytes, d) => bytes.length + uptoBulk d + 1
  | (_, d) => uptoBulk d + 1
 end
def uptoSmall : (H : Type) → List (DataW H) → Bool := fun _ ds => decide (uptoBulkAll ds ≤ 1048576)
def OpenSpec.upto (s : _root_.Go.ChangeSpec) : _root_.Go.OpenSpec := { _root_.Go.OpenSpec.ofChange s with cond := some uptoSmall }

/-- 'clusterlockslaw29.CoterieMakes', WHERE WHAT IT READS IS OF BULK AT MOST 1048576: true; the input reads as it did. -/
def coterieMakesUptoRow : OpenClaim := { program := "ytgaihedboifjoaa", sum := "cc233ffa77a13c34726c781ced714518595ba8f8b4a63be0966645b5f38ec863", func := "clusterlocks/clusterlockslaw29.CoterieMakes", spec := "coterieMakes", unfollowed := true, recurses := true, apart := false, narrowed := true }
def CoterieMakesUptoSaid : Prop := coterieMakesUptoRow.holds Try.pinned (OpenSpec.upto coterieMakesSpec)

/-- 'clusterlockslaw29.CoterieAsks', WHERE WHAT IT READS IS OF BULK AT MOST 1048576: true; the input reads as it did. -/
def coterieAsksUptoRow : OpenClaim := { program := "ytgaihedboifjoaa", sum := "cc233ffa77a13c34726c781ced714518595ba8f8b4a63be0966645b5f38ec863", func := "clusterlocks/clusterlockslaw29.CoterieAsks", spec := "coterieAsks", unfollowed := true, recurses := true, apart := false, narrowed := true }
def CoterieAsksUptoSaid : Prop := coterieAsksUptoRow.holds Try.pinned (OpenSpec.upto coterieAsksSpec)

/-- 'clusterlockslaw29.CoterieSelf', WHERE WHAT IT READS IS OF BULK AT MOST 1048576: true; the input reads as it did. -/
def coterieSelfUptoRow : OpenClaim := { program := "ytgaihedboifjoaa", sum := "cc233ffa77a13c34726c781ced714518595ba8f8b4a63be0966645b5f38ec863", func := "clusterlocks/clusterlockslaw29.CoterieSelf", spec := "coterieSelf", unfollowed := true, recurses := true, apart := false, narrowed := true }
def CoterieSelfUptoSaid : Prop := coterieSelfUptoRow.holds Try.pinned (OpenSpec.upto coterieSelfSpec)

/-- 'clusterlockslaw29.CoterieHalves', WHERE WHAT IT READS IS OF BULK AT MOST 1048576: true; the input reads as it did. -/
def coterieHalvesUptoRow : OpenClaim := { program := "ytgaihedboifjoaa", sum := "cc233ffa77a13c34726c781ced714518595ba8f8b4a63be0966645b5f38ec863", func := "clusterlocks/clusterlockslaw29.CoterieHalves", spec := "coterieHalves", unfollowed := true, recurses := true, apart := false, narrowed := true }
def CoterieHalvesUptoSaid : Prop := coterieHalvesUptoRow.holds Try.pinned (OpenSpec.upto coterieHalvesSpec)

/-- 'clusterlockslaw29.CoterieOdd', WHERE WHAT IT READS IS OF BULK AT MOST 1048576: true; the input reads as it did. -/
def coterieOddUptoRow : OpenClaim := { program := "ytgaihedboifjoaa", sum := "cc233ffa77a13c34726c781ced714518595ba8f8b4a63be0966645b5f38ec863", func := "clusterlocks/clusterlockslaw29.CoterieOdd", spec := "coterieOdd", unfollowed := true, recurses := true, apart := false, narrowed := true }
def CoterieOddUptoSaid : Prop := coterieOddUptoRow.holds Try.pinned (OpenSpec.upto coterieOddSpec)

end Rows
end Go.Proofs.Ytgaihedboifjoaa
