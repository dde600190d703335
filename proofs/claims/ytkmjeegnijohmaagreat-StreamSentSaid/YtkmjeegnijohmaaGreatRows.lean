/-
  No cell of these rows narrows 'for every input' (looked for: loops, veiled, ifaces, maps, wideKeys, modest, calm, conditions, laid).
  DERIVED. THE GIVEN ROWS OF THIS SEAT. 3 by the template 'for every input the law returns true; each argument reads behind the call as it read before'; 0 by the template 'total and deterministic' (their statements: YtkmjeegnijohmaaGreatTotals.lean).
  GIVEN WITH THE SEED: the statements are not yours to turn. If you find one false, say at which input.
  Laid BY PROGRAM, IN A SANDBOX (cutbox-rows.mjs): the forced cells as the released guide's own fill.sh prints them over the translation 135b0bb247299bcb… (all of the seat's roots in one cut). By AI agents, Wed Nov 11 2026. No macro, syntax, notation, axiom, sorry.
-/
import Derived.Test.YtkmjeegnijohmaaGreatChecked
import GoSem.Claim
import GoSem.ClaimJoined
import GoSem.ClaimMapViews
import Derived.JoinedTies
import Derived.KernelRfl
namespace Go.Proofs.YtkmjeegnijohmaaGreat
/- THE CELL 'sum', in the pinned program and in every row, IS THE sha256 OF THE DUMP (.gsa) THAT YtkmjeegnijohmaaGreatProg.lean LOADS. Nothing in Lean hashes anything: it is a label: what it is worth is what the hold of that sum in a sandbox is worth. -/
noncomputable def Tryz.pinned : Pinned := { name := "ytkmjeegnijohmaagreat", sum := "135b0bb247299bcb1549de4edc3eff65b6e4d12b86cb82c09e5af8d12381e749", checked := Tryz.checked }
namespace Rows
def none {H : Type} : Left H := { results := [], args := [] }

/-- 'lightsievelaw08.StreamSent': WHATEVER THE INPUT: true; the input reads as it did. -/
def streamSentSpec : ChangeSpec := { name := "streamSent", fn := fun _ => fun
  | [d1, d2, d3, d4] => { results := [.lit (.bool true)], args := [d1, d2, d3, d4] }
  | _ => none }
def streamSentRow : OpenClaim := { program := "ytkmjeegnijohmaagreat", sum := "135b0bb247299bcb1549de4edc3eff65b6e4d12b86cb82c09e5af8d12381e749", func := "lightsieve/lightsievelaw08.StreamSent", spec := "streamSent", unfollowed := true, recurses := true, apart := false }
def StreamSentSaid : Prop := streamSentRow.holds Tryz.pinned (OpenSpec.ofChange streamSentSpec)

/-- ITS FALSE NEIGHBOUR: 'it returns false'. Refute it at one input. -/
def streamSentWrong : ChangeSpec := { name := "streamSent", fn := fun _ => fun
  | [d1, d2, d3, d4] => { results := [.lit (.bool false)], args := [d1, d2, d3, d4] }
  | _ => none }
def StreamSentWrongFalsely : Prop := streamSentRow.holds Tryz.pinned (OpenSpec.ofChange streamSentWrong)

/-- 'lightsievelaw08.StreamDecodes': WHATEVER THE INPUT: true; the input reads as it did. -/
def streamDecodesSpec : ChangeSpec := { name := "streamDecodes", fn := fun _ => fun
  | [d1, d2, d3] => { results := [.lit (.bool true)], args := [d1, d2, d3] }
  | _ => none }
def streamDecodesRow : OpenClaim := { program := "ytkmjeegnijohmaagreat", sum := "135b0bb247299bcb1549de4edc3eff65b6e4d12b86cb82c09e5af8d12381e749", func := "lightsieve/lightsievelaw08.StreamDecodes", spec := "streamDecodes", unfollowed := true, recurses := true, apart := false }
def StreamDecodesSaid : Prop := streamDecodesRow.holds Tryz.pinned (OpenSpec.ofChange streamDecodesSpec)

/-- ITS FALSE NEIGHBOUR: 'it returns false'. Refute it at one input. -/
def streamDecodesWrong : ChangeSpec := { name := "streamDecodes", fn := fun _ => fun
  | [d1, d2, d3] => { results := [.lit (.bool false)], args := [d1, d2, d3] }
  | _ => none }
def StreamDecodesWrongFalsely : Prop := streamDecodesRow.holds Tryz.pinned (OpenSpec.ofChange streamDecodesWrong)

/-- 'lightsievelaw08.StreamLoses': WHATEVER THE INPUT: true; the input reads as it did. -/
def streamLosesSpec : ChangeSpec := { name := "streamLoses", fn := fun _ => fun
  | [d1, d2, d3, d4] => { results := [.lit (.bool true)], args := [d1, d2, d3, d4] }
  | _ => none }
def streamLosesRow : OpenClaim := { program := "ytkmjeegnijohmaagreat", sum := "135b0bb247299bcb1549de4edc3eff65b6e4d12b86cb82c09e5af8d12381e749", func := "lightsieve/lightsievelaw08.StreamLoses", spec := "streamLoses", unfollowed := true, recurses := true, apart := false }
def StreamLosesSaid : Prop := streamLosesRow.holds Tryz.pinned (OpenSpec.ofChange streamLosesSpec)

/-- ITS FALSE NEIGHBOUR: 'it returns false'. Refute it at one input. -/
def streamLosesWrong : ChangeSpec := { name := "streamLoses", fn := fun _ => fun
  | [d1, d2, d3, d4] => { results := [.lit (.bool false)], args := [d1, d2, d3, d4] }
  | _ => none }
def StreamLosesWrongFalsely : Prop := streamLosesRow.holds Tryz.pinned (OpenSpec.ofChange streamLosesWrong)

/- THE SECOND FORM. 'bulk': how many values and letters a reading holds, each counted each time it is reached (what is shared counts as often as it is met; a slice's spare places count too). A statement '..UptoSaid' is the law's where the arguments, and the package variables that the reading takes, are together of bulk at most 1048576: NARROWER than '..Said'. Prove '..Said' where nothing that the law and all that it calls make is longer than what came in: it says more and counts as full. Else prove '..UptoSaid'. A law counts once. -/
mutual
def uptoBulk {H : Type} : DataW H → Nat
  | .lit (.string bytes) => bytes.length + 1
  | .lit _ => 1
  | .nil => 1
  | .ptr d => uptoBulk d + 1
  | .slice elems spare => uptoBulkAll elems + uptoBulkAll spare + 1
  | .agg parts => uptoBulkAll parts + 1
  | .iface _ d => uptoBulk d + 1
  | .map entries => uptoBulkEntries entries + 1
  | .held _ => 1
def uptoBulkAll {H : Type} : List (DataW H) → Nat
  | [] => 0
  | d :: r => uptoBulk d + uptoBulkAll r
def uptoBulkEntries {H : Type} : List (Lit × DataW H) → Nat
  | [] => 0
  | x :: r => uptoBulkEntry x + uptoBulkEntries r
def uptoBulkEntry {H : Type} : Lit × DataW H → Nat
  | (.string bytes, d) => bytes.length + uptoBulk d + 1
  | (_, d) => uptoBulk d + 1
 end
def uptoSmall : (H : Type) → List (DataW H) → Bool := fun _ ds => decide (uptoBulkAll ds ≤ 1048576)
def OpenSpec.upto (s : _root_.Go.ChangeSpec) : _root_.Go.OpenSpec := { _root_.Go.OpenSpec.ofChange s with cond := some uptoSmall }

/-- 'lightsievelaw08.StreamSent', WHERE WHAT IT READS IS OF BULK AT MOST 1048576: true; the input reads as it did. -/
def streamSentUptoRow : OpenClaim := { program := "ytkmjeegnijohmaagreat", sum := "135b0bb247299bcb1549de4edc3eff65b6e4d12b86cb82c09e5af8d12381e749", func := "lightsieve/lightsievelaw08.StreamSent", spec := "streamSent", unfollowed := true, recurses := true, apart := false, narrowed := true }
def StreamSentUptoSaid : Prop := streamSentUptoRow.holds Tryz.pinned (OpenSpec.upto streamSentSpec)

/-- 'lightsievelaw08.StreamDecodes', WHERE WHAT IT READS IS OF BULK AT MOST 1048576: true; the input reads as it did. -/
def streamDecodesUptoRow : OpenClaim := { program := "ytkmjeegnijohmaagreat", sum := "135b0bb247299bcb1549de4edc3eff65b6e4d12b86cb82c09e5af8d12381e749", func := "lightsieve/lightsievelaw08.StreamDecodes", spec := "streamDecodes", unfollowed := true, recurses := true, apart := false, narrowed := true }
def StreamDecodesUptoSaid : Prop := streamDecodesUptoRow.holds Tryz.pinned (OpenSpec.upto streamDecodesSpec)

/-- 'lightsievelaw08.StreamLoses', WHERE WHAT IT READS IS OF BULK AT MOST 1048576: true; the input reads as it did. -/
def streamLosesUptoRow : OpenClaim := { program := "ytkmjeegnijohmaagreat", sum := "135b0bb247299bcb1549de4edc3eff65b6e4d12b86cb82c09e5af8d12381e749", func := "lightsieve/lightsievelaw08.StreamLoses", spec := "streamLoses", unfollowed := true, recurses := true, apart := false, narrowed := true }
def StreamLosesUptoSaid : Prop := streamLosesUptoRow.holds Tryz.pinned (OpenSpec.upto streamLosesSpec)

end Rows
end Go.Proofs.YtkmjeegnijohmaaGreat
