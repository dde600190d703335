/-
  No cell of these rows narrows 'for every input' (looked for: loops, veiled, ifaces, maps, wideKeys, modest, calm, conditions, laid).
  DERIVED. THE GIVEN ROWS OF THIS SEAT. 10 by the template 'for every input the law returns true; each argument reads behind the call as it read before'; 0 by the template 'total and deterministic' (their statements: YtfipebkhomppmaaTotals.lean).
  GIVEN WITH THE SEED: the statements are not yours to turn. If you find one false, say at which input.
  Laid BY PROGRAM, IN A SANDBOX (cutbox-rows.mjs): the forced cells as the released guide's own fill.sh prints them over the translation 03a11e757a380da1… (all of the seat's roots in one cut). By AI agents, Wed Nov 11 2026. No macro, syntax, notation, axiom, sorry.
-/
import Derived.Test.YtfipebkhomppmaaChecked
import GoSem.Claim
import GoSem.ClaimJoined
import GoSem.ClaimMapViews
import Derived.JoinedTies
import Derived.KernelRfl
namespace Go.Proofs.Ytfipebkhomppmaa
/- THE CELL 'sum', in the pinned program and in every row, IS THE sha256 OF THE DUMP (.gsa) THAT YtfipebkhomppmaaProg.lean LOADS. Nothing in Lean hashes anything: it is a label: what it is worth is what the hold of that sum in a sandbox is worth. -/
noncomputable def Try.pinned : Pinned := { name := "ytfipebkhomppmaa", sum := "03a11e757a380da12cdcb39a82c63e1e7d7a4a2ceebd4b5b298a2446a9ecb420", checked := Try.checked }
namespace Rows
def none {H : Type} : Left H := { results := [], args := [] }

/-- 'lightsievelaw03.LinCircuits': WHATEVER THE INPUT: true; the input reads as it did. -/
def linCircuitsSpec : ChangeSpec := { name := "linCircuits", fn := fun _ => fun
  | [d] => { results := [.lit (.bool true)], args := [d] }
  | _ => none }
def linCircuitsRow : OpenClaim := { program := "ytfipebkhomppmaa", sum := "03a11e757a380da12cdcb39a82c63e1e7d7a4a2ceebd4b5b298a2446a9ecb420", func := "lightsieve/lightsievelaw03.LinCircuits", spec := "linCircuits", unfollowed := true, recurses := true, apart := false }
def LinCircuitsSaid : Prop := linCircuitsRow.holds Try.pinned (OpenSpec.ofChange linCircuitsSpec)

/-- ITS FALSE NEIGHBOUR: 'it returns false'. Refute it at one input. -/
def linCircuitsWrong : ChangeSpec := { name := "linCircuits", fn := fun _ => fun
  | [d] => { results := [.lit (.bool false)], args := [d] }
  | _ => none }
def LinCircuitsWrongFalsely : Prop := linCircuitsRow.holds Try.pinned (OpenSpec.ofChange linCircuitsWrong)

/-- 'lightsievelaw03.LinKernels': WHATEVER THE INPUT: true; the input reads as it did. -/
def linKernelsSpec : ChangeSpec := { name := "linKernels", fn := fun _ => fun
  | [d1, d2] => { results := [.lit (.bool true)], args := [d1, d2] }
  | _ => none }
def linKernelsRow : OpenClaim := { program := "ytfipebkhomppmaa", sum := "03a11e757a380da12cdcb39a82c63e1e7d7a4a2ceebd4b5b298a2446a9ecb420", func := "lightsieve/lightsievelaw03.LinKernels", spec := "linKernels", unfollowed := true, recurses := true, apart := false }
def LinKernelsSaid : Prop := linKernelsRow.holds Try.pinned (OpenSpec.ofChange linKernelsSpec)

/-- ITS FALSE NEIGHBOUR: 'it returns false'. Refute it at one input. -/
def linKernelsWrong : ChangeSpec := { name := "linKernels", fn := fun _ => fun
  | [d1, d2] => { results := [.lit (.bool false)], args := [d1, d2] }
  | _ => none }
def LinKernelsWrongFalsely : Prop := linKernelsRow.holds Try.pinned (OpenSpec.ofChange linKernelsWrong)

/-- 'lightsievelaw03.LinPermuted': WHATEVER THE INPUT: true; the input reads as it did. -/
def linPermutedSpec : ChangeSpec := { name := "linPermuted", fn := fun _ => fun
  | [d1, d2] => { results := [.lit (.bool true)], args := [d1, d2] }
  | _ => none }
def linPermutedRow : OpenClaim := { program := "ytfipebkhomppmaa", sum := "03a11e757a380da12cdcb39a82c63e1e7d7a4a2ceebd4b5b298a2446a9ecb420", func := "lightsieve/lightsievelaw03.LinPermuted", spec := "linPermuted", unfollowed := true, recurses := true, apart := false }
def LinPermutedSaid : Prop := linPermutedRow.holds Try.pinned (OpenSpec.ofChange linPermutedSpec)

/-- ITS FALSE NEIGHBOUR: 'it returns false'. Refute it at one input. -/
def linPermutedWrong : ChangeSpec := { name := "linPermuted", fn := fun _ => fun
  | [d1, d2] => { results := [.lit (.bool false)], args := [d1, d2] }
  | _ => none }
def LinPermutedWrongFalsely : Prop := linPermutedRow.holds Try.pinned (OpenSpec.ofChange linPermutedWrong)

/-- 'lightsievelaw03.LinLeast': WHATEVER THE INPUT: true; the input reads as it did. -/
def linLeastSpec : ChangeSpec := { name := "linLeast", fn := fun _ => fun
  | [d1, d2, d3] => { results := [.lit (.bool true)], args := [d1, d2, d3] }
  | _ => none }
def linLeastRow : OpenClaim := { program := "ytfipebkhomppmaa", sum := "03a11e757a380da12cdcb39a82c63e1e7d7a4a2ceebd4b5b298a2446a9ecb420", func := "lightsieve/lightsievelaw03.LinLeast", spec := "linLeast", unfollowed := true, recurses := true, apart := false }
def LinLeastSaid : Prop := linLeastRow.holds Try.pinned (OpenSpec.ofChange linLeastSpec)

/-- ITS FALSE NEIGHBOUR: 'it returns false'. Refute it at one input. -/
def linLeastWrong : ChangeSpec := { name := "linLeast", fn := fun _ => fun
  | [d1, d2, d3] => { results := [.lit (.bool false)], args := [d1, d2, d3] }
  | _ => none }
def LinLeastWrongFalsely : Prop := linLeastRow.holds Try.pinned (OpenSpec.ofChange linLeastWrong)

/-- 'lightsievelaw03.LinCompares': WHATEVER THE INPUT: true; the input reads as it did. -/
def linComparesSpec : ChangeSpec := { name := "linCompares", fn := fun _ => fun
  | [d1, d2, d3] => { results := [.lit (.bool true)], args := [d1, d2, d3] }
  | _ => none }
def linComparesRow : OpenClaim := { program := "ytfipebkhomppmaa", sum := "03a11e757a380da12cdcb39a82c63e1e7d7a4a2ceebd4b5b298a2446a9ecb420", func := "lightsieve/lightsievelaw03.LinCompares", spec := "linCompares", inPlace := ["math/bits.Sub64"], unfollowed := true, recurses := true, apart := false }
def LinComparesSaid : Prop := linComparesRow.holds Try.pinned (OpenSpec.ofChange linComparesSpec)

/-- ITS FALSE NEIGHBOUR: 'it returns false'. Refute it at one input. -/
def linComparesWrong : ChangeSpec := { name := "linCompares", fn := fun _ => fun
  | [d1, d2, d3] => { results := [.lit (.bool false)], args := [d1, d2, d3] }
  | _ => none }
def LinComparesWrongFalsely : Prop := linComparesRow.holds Try.pinned (OpenSpec.ofChange linComparesWrong)

/-- 'lightsievelaw03.LinSolves': WHATEVER THE INPUT: true; the input reads as it did. -/
def linSolvesSpec : ChangeSpec := { name := "linSolves", fn := fun _ => fun
  | [d1, d2, d3] => { results := [.lit (.bool true)], args := [d1, d2, d3] }
  | _ => none }
def linSolvesRow : OpenClaim := { program := "ytfipebkhomppmaa", sum := "03a11e757a380da12cdcb39a82c63e1e7d7a4a2ceebd4b5b298a2446a9ecb420", func := "lightsieve/lightsievelaw03.LinSolves", spec := "linSolves", unfollowed := true, recurses := true, apart := false }
def LinSolvesSaid : Prop := linSolvesRow.holds Try.pinned (OpenSpec.ofChange linSolvesSpec)

/-- ITS FALSE NEIGHBOUR: 'it returns false'. Refute it at one input. -/
def linSolvesWrong : ChangeSpec := { name := "linSolves", fn := fun _ => fun
  | [d1, d2, d3] => { results := [.lit (.bool false)], args := [d1, d2, d3] }
  | _ => none }
def LinSolvesWrongFalsely : Prop := linSolvesRow.holds Try.pinned (OpenSpec.ofChange linSolvesWrong)

/-- 'lightsievelaw03.LinWeighs': WHATEVER THE INPUT: true; the input reads as it did. -/
def linWeighsSpec : ChangeSpec := { name := "linWeighs", fn := fun _ => fun
  | [d1, d2, d3, d4] => { results := [.lit (.bool true)], args := [d1, d2, d3, d4] }
  | _ => none }
def linWeighsRow : OpenClaim := { program := "ytfipebkhomppmaa", sum := "03a11e757a380da12cdcb39a82c63e1e7d7a4a2ceebd4b5b298a2446a9ecb420", func := "lightsieve/lightsievelaw03.LinWeighs", spec := "linWeighs", unfollowed := true, recurses := true, apart := false }
def LinWeighsSaid : Prop := linWeighsRow.holds Try.pinned (OpenSpec.ofChange linWeighsSpec)

/-- ITS FALSE NEIGHBOUR: 'it returns false'. Refute it at one input. -/
def linWeighsWrong : ChangeSpec := { name := "linWeighs", fn := fun _ => fun
  | [d1, d2, d3, d4] => { results := [.lit (.bool false)], args := [d1, d2, d3, d4] }
  | _ => none }
def LinWeighsWrongFalsely : Prop := linWeighsRow.holds Try.pinned (OpenSpec.ofChange linWeighsWrong)

/-- 'lightsievelaw03.LinMakes': WHATEVER THE INPUT: true; the input reads as it did. -/
def linMakesSpec : ChangeSpec := { name := "linMakes", fn := fun _ => fun
  | [d1, d2, d3] => { results := [.lit (.bool true)], args := [d1, d2, d3] }
  | _ => none }
def linMakesRow : OpenClaim := { program := "ytfipebkhomppmaa", sum := "03a11e757a380da12cdcb39a82c63e1e7d7a4a2ceebd4b5b298a2446a9ecb420", func := "lightsieve/lightsievelaw03.LinMakes", spec := "linMakes", inPlace := ["math/bits.Sub64", "math/bits.Add64"], unfollowed := true, recurses := true, apart := false }
def LinMakesSaid : Prop := linMakesRow.holds Try.pinned (OpenSpec.ofChange linMakesSpec)

/-- ITS FALSE NEIGHBOUR: 'it returns false'. Refute it at one input. -/
def linMakesWrong : ChangeSpec := { name := "linMakes", fn := fun _ => fun
  | [d1, d2, d3] => { results := [.lit (.bool false)], args := [d1, d2, d3] }
  | _ => none }
def LinMakesWrongFalsely : Prop := linMakesRow.holds Try.pinned (OpenSpec.ofChange linMakesWrong)

/-- 'lightsievelaw03.LinKnown': WHATEVER THE INPUT: true; the input reads as it did. -/
def linKnownSpec : ChangeSpec := { name := "linKnown", fn := fun _ => fun
  | [d1, d2, d3] => { results := [.lit (.bool true)], args := [d1, d2, d3] }
  | _ => none }
def linKnownRow : OpenClaim := { program := "ytfipebkhomppmaa", sum := "03a11e757a380da12cdcb39a82c63e1e7d7a4a2ceebd4b5b298a2446a9ecb420", func := "lightsieve/lightsievelaw03.LinKnown", spec := "linKnown", unfollowed := true, recurses := true, apart := false }
def LinKnownSaid : Prop := linKnownRow.holds Try.pinned (OpenSpec.ofChange linKnownSpec)

/-- ITS FALSE NEIGHBOUR: 'it returns false'. Refute it at one input. -/
def linKnownWrong : ChangeSpec := { name := "linKnown", fn := fun _ => fun
  | [d1, d2, d3] => { results := [.lit (.bool false)], args := [d1, d2, d3] }
  | _ => none }
def LinKnownWrongFalsely : Prop := linKnownRow.holds Try.pinned (OpenSpec.ofChange linKnownWrong)

/-- 'lightsievelaw03.LinDenies': WHATEVER THE INPUT: true; the input reads as it did. -/
def linDeniesSpec : ChangeSpec := { name := "linDenies", fn := fun _ => fun
  | [d1, d2, d3, d4] => { results := [.lit (.bool true)], args := [d1, d2, d3, d4] }
  | _ => none }
def linDeniesRow : OpenClaim := { program := "ytfipebkhomppmaa", sum := "03a11e757a380da12cdcb39a82c63e1e7d7a4a2ceebd4b5b298a2446a9ecb420", func := "lightsieve/lightsievelaw03.LinDenies", spec := "linDenies", inPlace := ["math/bits.Sub64", "math/bits.Add64"], unfollowed := true, recurses := true, apart := false }
def LinDeniesSaid : Prop := linDeniesRow.holds Try.pinned (OpenSpec.ofChange linDeniesSpec)

/-- ITS FALSE NEIGHBOUR: 'it returns false'. Refute it at one input. -/
def linDeniesWrong : ChangeSpec := { name := "linDenies", fn := fun _ => fun
  | [d1, d2, d3, d4] => { results := [.lit (.bool false)], args := [d1, d2, d3, d4] }
  | _ => none }
def LinDeniesWrongFalsely : Prop := linDeniesRow.holds Try.pinned (OpenSpec.ofChange linDeniesWrong)

/- THE SECOND FORM. 'bulk': how many values and letters a reading holds, each counted each time it is reached (what is shared counts as often as it is met; a slice's spare places count too). A statement '..UptoSaid' is the law's where the arguments, and the package variables that the reading takes, are together of bulk at most 1048576: NARROWER than '..Said'. Prove '..Said' where nothing that the law and all that it calls make is longer than what came in: it says more and counts as full. Else prove '..UptoSaid'. A law counts once. -/
mutual
def uptoBulk {H : Type} : DataW H → Nat
  | .lit (.string bytes) => bytes.length + 1
  | .lit _ => 1
  | .nil => 1
  | .ptr d => uptoBulk d + 1
  | .slice elems spare => uptoBulkAll elems + uptoBulkAll spare + 1
  | .agg parts => uptoBulkAll parts + 1
  | .iface _ d => uptoBulk d + 1
  | .map entries => uptoBulkEntries entries + 1
  | .held _ => 1
def uptoBulkAll {H : Type} : List (DataW H) → Nat
  | [] => 0
  | d :: r => uptoBulk d + uptoBulkAll r
def uptoBulkEntries {H : Type} : List (Lit × DataW H) → Nat
  | [] => 0
  | x :: r => uptoBulkEntry x + uptoBulkEntries r
def uptoBulkEntry {H : Type} : Lit × DataW H → Nat
  | (.string bytes, d) => bytes.length + uptoBulk d + 1
  | (_, d) => uptoBulk d + 1
 end
def uptoSmall : (H : Type) → List (DataW H) → Bool := fun _ ds => decide (uptoBulkAll ds ≤ 1048576)
def OpenSpec.upto (s : _root_.Go.ChangeSpec) : _root_.Go.OpenSpec := { _root_.Go.OpenSpec.ofChange s with cond := some uptoSmall }

/-- 'lightsievelaw03.LinCircuits', WHERE WHAT IT READS IS OF BULK AT MOST 1048576: true; the input reads as it did. -/
def linCircuitsUptoRow : OpenClaim := { program := "ytfipebkhomppmaa", sum := "03a11e757a380da12cdcb39a82c63e1e7d7a4a2ceebd4b5b298a2446a9ecb420", func := "lightsieve/lightsievelaw03.LinCircuits", spec := "linCircuits", unfollowed := true, recurses := true, apart := false, narrowed := true }
def LinCircuitsUptoSaid : Prop := linCircuitsUptoRow.holds Try.pinned (OpenSpec.upto linCircuitsSpec)

/-- 'lightsievelaw03.LinKernels', WHERE WHAT IT READS IS OF BULK AT MOST 1048576: true; the input reads as it did. -/
def linKernelsUptoRow : OpenClaim := { program := "ytfipebkhomppmaa", sum := "03a11e757a380da12cdcb39a82c63e1e7d7a4a2ceebd4b5b298a2446a9ecb420", func := "lightsieve/lightsievelaw03.LinKernels", spec := "linKernels", unfollowed := true, recurses := true, apart := false, narrowed := true }
def LinKernelsUptoSaid : Prop := linKernelsUptoRow.holds Try.pinned (OpenSpec.upto linKernelsSpec)

/-- 'lightsievelaw03.LinPermuted', WHERE WHAT IT READS IS OF BULK AT MOST 1048576: true; the input reads as it did. -/
def linPermutedUptoRow : OpenClaim := { program := "ytfipebkhomppmaa", sum := "03a11e757a380da12cdcb39a82c63e1e7d7a4a2ceebd4b5b298a2446a9ecb420", func := "lightsieve/lightsievelaw03.LinPermuted", spec := "linPermuted", unfollowed := true, recurses := true, apart := false, narrowed := true }
def LinPermutedUptoSaid : Prop := linPermutedUptoRow.holds Try.pinned (OpenSpec.upto linPermutedSpec)

/-- 'lightsievelaw03.LinLeast', WHERE WHAT IT READS IS OF BULK AT MOST 1048576: true; the input reads as it did. -/
def linLeastUptoRow : OpenClaim := { program := "ytfipebkhomppmaa", sum := "03a11e757a380da12cdcb39a82c63e1e7d7a4a2ceebd4b5b298a2446a9ecb420", func := "lightsieve/lightsievelaw03.LinLeast", spec := "linLeast", unfollowed := true, recurses := true, apart := false, narrowed := true }
def LinLeastUptoSaid : Prop := linLeastUptoRow.holds Try.pinned (OpenSpec.upto linLeastSpec)

/-- 'lightsievelaw03.LinCompares', WHERE WHAT IT READS IS OF BULK AT MOST 1048576: true; the input reads as it did. -/
def linComparesUptoRow : OpenClaim := { program := "ytfipebkhomppmaa", sum := "03a11e757a380da12cdcb39a82c63e1e7d7a4a2ceebd4b5b298a2446a9ecb420", func := "lightsieve/lightsievelaw03.LinCompares", spec := "linCompares", inPlace := ["math/bits.Sub64"], unfollowed := true, recurses := true, apart := false, narrowed := true }
def LinComparesUptoSaid : Prop := linComparesUptoRow.holds Try.pinned (OpenSpec.upto linComparesSpec)

/-- 'lightsievelaw03.LinSolves', WHERE WHAT IT READS IS OF BULK AT MOST 1048576: true; the input reads as it did. -/
def linSolvesUptoRow : OpenClaim := { program := "ytfipebkhomppmaa", sum := "03a11e757a380da12cdcb39a82c63e1e7d7a4a2ceebd4b5b298a2446a9ecb420", func := "lightsieve/lightsievelaw03.LinSolves", spec := "linSolves", unfollowed := true, recurses := true, apart := false, narrowed := true }
def LinSolvesUptoSaid : Prop := linSolvesUptoRow.holds Try.pinned (OpenSpec.upto linSolvesSpec)

/-- 'lightsievelaw03.LinWeighs', WHERE WHAT IT READS IS OF BULK AT MOST 1048576: true; the input reads as it did. -/
def linWeighsUptoRow : OpenClaim := { program := "ytfipebkhomppmaa", sum := "03a11e757a380da12cdcb39a82c63e1e7d7a4a2ceebd4b5b298a2446a9ecb420", func := "lightsieve/lightsievelaw03.LinWeighs", spec := "linWeighs", unfollowed := true, recurses := true, apart := false, narrowed := true }
def LinWeighsUptoSaid : Prop := linWeighsUptoRow.holds Try.pinned (OpenSpec.upto linWeighsSpec)

/-- 'lightsievelaw03.LinMakes', WHERE WHAT IT READS IS OF BULK AT MOST 1048576: true; the input reads as it did. -/
def linMakesUptoRow : OpenClaim := { program := "ytfipebkhomppmaa", sum := "03a11e757a380da12cdcb39a82c63e1e7d7a4a2ceebd4b5b298a2446a9ecb420", func := "lightsieve/lightsievelaw03.LinMakes", spec := "linMakes", inPlace := ["math/bits.Sub64", "math/bits.Add64"], unfollowed := true, recurses := true, apart := false, narrowed := true }
def LinMakesUptoSaid : Prop := linMakesUptoRow.holds Try.pinned (OpenSpec.upto linMakesSpec)

/-- 'lightsievelaw03.LinKnown', WHERE WHAT IT READS IS OF BULK AT MOST 1048576: true; the input reads as it did. -/
def linKnownUptoRow : OpenClaim := { program := "ytfipebkhomppmaa", sum := "03a11e757a380da12cdcb39a82c63e1e7d7a4a2ceebd4b5b298a2446a9ecb420", func := "lightsieve/lightsievelaw03.LinKnown", spec := "linKnown", unfollowed := true, recurses := true, apart := false, narrowed := true }
def LinKnownUptoSaid : Prop := linKnownUptoRow.holds Try.pinned (OpenSpec.upto linKnownSpec)

/-- 'lightsievelaw03.LinDenies', WHERE WHAT IT READS IS OF BULK AT MOST 1048576: true; the input reads as it did. -/
def linDeniesUptoRow : OpenClaim := { program := "ytfipebkhomppmaa", sum := "03a11e757a380da12cdcb39a82c63e1e7d7a4a2ceebd4b5b298a2446a9ecb420", func := "lightsieve/lightsievelaw03.LinDenies", spec := "linDenies", inPlace := ["math/bits.Sub64", "math/bits.Add64"], unfollowed := true, recurses := true, apart := false, narrowed := true }
def LinDeniesUptoSaid : Prop := linDeniesUptoRow.holds Try.pinned (OpenSpec.upto linDeniesSpec)

end Rows
end Go.Proofs.Ytfipebkhomppmaa
