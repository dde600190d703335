/-
  No cell of these rows narrows 'for every input' (looked for: loops, veiled, ifaces, maps, wideKeys, modest, calm, conditions, laid).
  DERIVED. THE GIVEN ROWS OF THIS SEAT. 3 by the template 'for every input the law returns true; each argument reads behind the call as it read before'; 0 by the template 'total and deterministic' (their statements: YtkmjeegnijohmaaTotals.lean).
  GIVEN WITH THE SEED: the statements are not yours to turn. If you find one false, say at which input.
  Laid BY PROGRAM, IN A SANDBOX (cutbox-rows.mjs): the forced cells as the released guide's own fill.sh prints them over the translation 75a6def13ccbd34d… (all of the seat's roots in one cut). By AI agents, Wed Nov 11 2026. No macro, syntax, notation, axiom, sorry.
-/
import Derived.Test.YtkmjeegnijohmaaChecked
import GoSem.Claim
import GoSem.ClaimJoined
import GoSem.ClaimMapViews
import Derived.JoinedTies
import Derived.KernelRfl
namespace Go.Proofs.Ytkmjeegnijohmaa
/- THE CELL 'sum', in the pinned program and in every row, IS THE sha256 OF THE DUMP (.gsa) THAT YtkmjeegnijohmaaProg.lean LOADS. Nothing in Lean hashes anything: it is a label: what it is worth is what the hold of that sum in a sandbox is worth. -/
noncomputable def Try.pinned : Pinned := { name := "ytkmjeegnijohmaa", sum := "75a6def13ccbd34d227e219ba8dbc9b4bca4e8471328ddeb8d55c002d2175af4", checked := Try.checked }
namespace Rows
def none {H : Type} : Left H := { results := [], args := [] }

/-- 'lightsievelaw08.StreamEncodes': WHATEVER THE INPUT: true; the input reads as it did. -/
def streamEncodesSpec : ChangeSpec := { name := "streamEncodes", fn := fun _ => fun
  | [d1, d2, d3, d4, d5, d6] => { results := [.lit (.bool true)], args := [d1, d2, d3, d4, d5, d6] }
  | _ => none }
def streamEncodesRow : OpenClaim := { program := "ytkmjeegnijohmaa", sum := "75a6def13ccbd34d227e219ba8dbc9b4bca4e8471328ddeb8d55c002d2175af4", func := "lightsieve/lightsievelaw08.StreamEncodes", spec := "streamEncodes", unfollowed := true, recurses := true, apart := false }
def StreamEncodesSaid : Prop := streamEncodesRow.holds Try.pinned (OpenSpec.ofChange streamEncodesSpec)

/-- ITS FALSE NEIGHBOUR: 'it returns false'. Refute it at one input. -/
def streamEncodesWrong : ChangeSpec := { name := "streamEncodes", fn := fun _ => fun
  | [d1, d2, d3, d4, d5, d6] => { results := [.lit (.bool false)], args := [d1, d2, d3, d4, d5, d6] }
  | _ => none }
def StreamEncodesWrongFalsely : Prop := streamEncodesRow.holds Try.pinned (OpenSpec.ofChange streamEncodesWrong)

/-- 'lightsievelaw08.StreamKeys': WHATEVER THE INPUT: true; the input reads as it did. -/
def streamKeysSpec : ChangeSpec := { name := "streamKeys", fn := fun _ => fun
  | [d1, d2, d3, d4] => { results := [.lit (.bool true)], args := [d1, d2, d3, d4] }
  | _ => none }
def streamKeysRow : OpenClaim := { program := "ytkmjeegnijohmaa", sum := "75a6def13ccbd34d227e219ba8dbc9b4bca4e8471328ddeb8d55c002d2175af4", func := "lightsieve/lightsievelaw08.StreamKeys", spec := "streamKeys", unfollowed := true, recurses := true, apart := false }
def StreamKeysSaid : Prop := streamKeysRow.holds Try.pinned (OpenSpec.ofChange streamKeysSpec)

/-- ITS FALSE NEIGHBOUR: 'it returns false'. Refute it at one input. -/
def streamKeysWrong : ChangeSpec := { name := "streamKeys", fn := fun _ => fun
  | [d1, d2, d3, d4] => { results := [.lit (.bool false)], args := [d1, d2, d3, d4] }
  | _ => none }
def StreamKeysWrongFalsely : Prop := streamKeysRow.holds Try.pinned (OpenSpec.ofChange streamKeysWrong)

/-- 'lightsievelaw08.StreamJoined': WHATEVER THE INPUT: true; the input reads as it did. -/
def streamJoinedSpec : ChangeSpec := { name := "streamJoined", fn := fun _ => fun
  | [d1, d2, d3] => { results := [.lit (.bool true)], args := [d1, d2, d3] }
  | _ => none }
def streamJoinedRow : OpenClaim := { program := "ytkmjeegnijohmaa", sum := "75a6def13ccbd34d227e219ba8dbc9b4bca4e8471328ddeb8d55c002d2175af4", func := "lightsieve/lightsievelaw08.StreamJoined", spec := "streamJoined", unfollowed := true, recurses := true, apart := false }
def StreamJoinedSaid : Prop := streamJoinedRow.holds Try.pinned (OpenSpec.ofChange streamJoinedSpec)

/-- ITS FALSE NEIGHBOUR: 'it returns false'. Refute it at one input. -/
def streamJoinedWrong : ChangeSpec := { name := "streamJoined", fn := fun _ => fun
  | [d1, d2, d3] => { results := [.lit (.bool false)], args := [d1, d2, d3] }
  | _ => none }
def StreamJoinedWrongFalsely : Prop := streamJoinedRow.holds Try.pinned (OpenSpec.ofChange streamJoinedWrong)

/- THE SECOND FORM. 'bulk': how many values and letters a reading holds, each counted each time it is reached (what is shared counts as often as it is met; a slice's spare places count too). A statement '..UptoSaid' is the law's where the arguments, and the package variables that the reading takes, are together of bulk at most 1048576: NARROWER than '..Said'. Prove '..Said' where nothing that the law and all that it calls make is longer than what came in: it says more and counts as full. Else prove '..UptoSaid'. A law counts once. -/
mutual
def uptoBulk {H : Type} : DataW H → Nat
  | .lit (.string bytes) => bytes.length + 1
  | .lit _ => 1
  | .nil => 1
  | .ptr d => uptoBulk d + 1
  | .slice elems spare => uptoBulkAll elems + uptoBulkAll spare + 1
  | .agg parts => uptoBulkAll parts + 1
  | .iface _ d => uptoBulk d + 1
  | .map entries => uptoBulkEntries entries + 1
  | .held _ => 1
def uptoBulkAll {H : Type} : List (DataW H) → Nat
  | [] => 0
  | d :: r => uptoBulk d + uptoBulkAll r
def uptoBulkEntries {H : Type} : List (Lit × DataW H) → Nat
  | [] => 0
  | x :: r => uptoBulkEntry x + uptoBulkEntries r
def uptoBulkEntry {H : Type} : Lit × DataW H → Nat
  | (.string bytes, d) => bytes.length + uptoBulk d + 1
  | (_, d) => uptoBulk d + 1
 end
def uptoSmall : (H : Type) → List (DataW H) → Bool := fun _ ds => decide (uptoBulkAll ds ≤ 1048576)
def OpenSpec.upto (s : _root_.Go.ChangeSpec) : _root_.Go.OpenSpec := { _root_.Go.OpenSpec.ofChange s with cond := some uptoSmall }

/-- 'lightsievelaw08.StreamEncodes', WHERE WHAT IT READS IS OF BULK AT MOST 1048576: true; the input reads as it did. -/
def streamEncodesUptoRow : OpenClaim := { program := "ytkmjeegnijohmaa", sum := "75a6def13ccbd34d227e219ba8dbc9b4bca4e8471328ddeb8d55c002d2175af4", func := "lightsieve/lightsievelaw08.StreamEncodes", spec := "streamEncodes", unfollowed := true, recurses := true, apart := false, narrowed := true }
def StreamEncodesUptoSaid : Prop := streamEncodesUptoRow.holds Try.pinned (OpenSpec.upto streamEncodesSpec)

/-- 'lightsievelaw08.StreamKeys', WHERE WHAT IT READS IS OF BULK AT MOST 1048576: true; the input reads as it did. -/
def streamKeysUptoRow : OpenClaim := { program := "ytkmjeegnijohmaa", sum := "75a6def13ccbd34d227e219ba8dbc9b4bca4e8471328ddeb8d55c002d2175af4", func := "lightsieve/lightsievelaw08.StreamKeys", spec := "streamKeys", unfollowed := true, recurses := true, apart := false, narrowed := true }
def StreamKeysUptoSaid : Prop := streamKeysUptoRow.holds Try.pinned (OpenSpec.upto streamKeysSpec)

/-- 'lightsievelaw08.StreamJoined', WHERE WHAT IT READS IS OF BULK AT MOST 1048576: true; the input reads as it did. -/
def streamJoinedUptoRow : OpenClaim := { program := "ytkmjeegnijohmaa", sum := "75a6def13ccbd34d227e219ba8dbc9b4bca4e8471328ddeb8d55c002d2175af4", func := "lightsieve/lightsievelaw08.StreamJoined", spec := "streamJoined", unfollowed := true, recurses := true, apart := false, narrowed := true }
def StreamJoinedUptoSaid : Prop := streamJoinedUptoRow.holds Try.pinned (OpenSpec.upto streamJoinedSpec)

end Rows
end Go.Proofs.Ytkmjeegnijohmaa
