/-
  No cell of these rows narrows 'for every input' (looked for: loops, veiled, ifaces, maps, wideKeys, modest, calm, conditions, laid).
  DERIVED. THE GIVEN ROWS OF THIS SEAT. 13 by the template 'for every input the law returns true; each argument reads behind the call as it read before'; 0 by the template 'total and deterministic' (their statements: YtlffndehhhpgjaaGreatTotals.lean).
  GIVEN WITH THE SEED: the statements are not yours to turn. If you find one false, say at which input.
  Laid BY PROGRAM, IN A SANDBOX (cutbox-rows.mjs): the forced cells as the released guide's own fill.sh prints them over the translation 69bb6c07456b1d37… (all of the seat's roots in one cut). By AI agents, Wed Nov 11 2026. No macro, syntax, notation, axiom, sorry.
-/
import Derived.Test.YtlffndehhhpgjaaGreatChecked
import GoSem.Claim
import GoSem.ClaimJoined
import GoSem.ClaimMapViews
import Derived.JoinedTies
import Derived.KernelRfl
namespace Go.Proofs.YtlffndehhhpgjaaGreat
/- THE CELL 'sum', in the pinned program and in every row, IS THE sha256 OF THE DUMP (.gsa) THAT YtlffndehhhpgjaaGreatProg.lean LOADS. Nothing in Lean hashes anything: it is a label: what it is worth is what the hold of that sum in a sandbox is worth. -/
noncomputable def Tryz.pinned : Pinned := { name := "ytlffndehhhpgjaagreat", sum := "69bb6c07456b1d375692f8fbdaec55f5d16942755ed240387f65344a9cf6be56", checked := Tryz.checked }
namespace Rows
def none {H : Type} : Left H := { results := [], args := [] }

/-- 'lightsievelaw05.DualScales': WHATEVER THE INPUT: true; the input reads as it did. -/
def dualScalesSpec : ChangeSpec := { name := "dualScales", fn := fun _ => fun
  | [d1, d2, d3, d4] => { results := [.lit (.bool true)], args := [d1, d2, d3, d4] }
  | _ => none }
def dualScalesRow : OpenClaim := { program := "ytlffndehhhpgjaagreat", sum := "69bb6c07456b1d375692f8fbdaec55f5d16942755ed240387f65344a9cf6be56", func := "lightsieve/lightsievelaw05.DualScales", spec := "dualScales", inPlace := ["math/bits.Sub64", "math/bits.Add64"], unfollowed := true, recurses := true, apart := false }
def DualScalesSaid : Prop := dualScalesRow.holds Tryz.pinned (OpenSpec.ofChange dualScalesSpec)

/-- ITS FALSE NEIGHBOUR: 'it returns false'. Refute it at one input. -/
def dualScalesWrong : ChangeSpec := { name := "dualScales", fn := fun _ => fun
  | [d1, d2, d3, d4] => { results := [.lit (.bool false)], args := [d1, d2, d3, d4] }
  | _ => none }
def DualScalesWrongFalsely : Prop := dualScalesRow.holds Tryz.pinned (OpenSpec.ofChange dualScalesWrong)

/-- 'lightsievelaw05.DualLeast': WHATEVER THE INPUT: true; the input reads as it did. -/
def dualLeastSpec : ChangeSpec := { name := "dualLeast", fn := fun _ => fun
  | [d1, d2, d3] => { results := [.lit (.bool true)], args := [d1, d2, d3] }
  | _ => none }
def dualLeastRow : OpenClaim := { program := "ytlffndehhhpgjaagreat", sum := "69bb6c07456b1d375692f8fbdaec55f5d16942755ed240387f65344a9cf6be56", func := "lightsieve/lightsievelaw05.DualLeast", spec := "dualLeast", inPlace := ["math/bits.Sub64", "math/bits.Add64"], unfollowed := true, recurses := true, apart := false }
def DualLeastSaid : Prop := dualLeastRow.holds Tryz.pinned (OpenSpec.ofChange dualLeastSpec)

/-- ITS FALSE NEIGHBOUR: 'it returns false'. Refute it at one input. -/
def dualLeastWrong : ChangeSpec := { name := "dualLeast", fn := fun _ => fun
  | [d1, d2, d3] => { results := [.lit (.bool false)], args := [d1, d2, d3] }
  | _ => none }
def DualLeastWrongFalsely : Prop := dualLeastRow.holds Tryz.pinned (OpenSpec.ofChange dualLeastWrong)

/-- 'lightsievelaw05.DualNorms': WHATEVER THE INPUT: true; the input reads as it did. -/
def dualNormsSpec : ChangeSpec := { name := "dualNorms", fn := fun _ => fun
  | [d1, d2] => { results := [.lit (.bool true)], args := [d1, d2] }
  | _ => none }
def dualNormsRow : OpenClaim := { program := "ytlffndehhhpgjaagreat", sum := "69bb6c07456b1d375692f8fbdaec55f5d16942755ed240387f65344a9cf6be56", func := "lightsieve/lightsievelaw05.DualNorms", spec := "dualNorms", inPlace := ["math/bits.Sub64", "math/bits.Add64"], unfollowed := true, recurses := true, apart := false }
def DualNormsSaid : Prop := dualNormsRow.holds Tryz.pinned (OpenSpec.ofChange dualNormsSpec)

/-- ITS FALSE NEIGHBOUR: 'it returns false'. Refute it at one input. -/
def dualNormsWrong : ChangeSpec := { name := "dualNorms", fn := fun _ => fun
  | [d1, d2] => { results := [.lit (.bool false)], args := [d1, d2] }
  | _ => none }
def DualNormsWrongFalsely : Prop := dualNormsRow.holds Tryz.pinned (OpenSpec.ofChange dualNormsWrong)

/-- 'lightsievelaw05.DualValues': WHATEVER THE INPUT: true; the input reads as it did. -/
def dualValuesSpec : ChangeSpec := { name := "dualValues", fn := fun _ => fun
  | [d1, d2] => { results := [.lit (.bool true)], args := [d1, d2] }
  | _ => none }
def dualValuesRow : OpenClaim := { program := "ytlffndehhhpgjaagreat", sum := "69bb6c07456b1d375692f8fbdaec55f5d16942755ed240387f65344a9cf6be56", func := "lightsieve/lightsievelaw05.DualValues", spec := "dualValues", inPlace := ["math/bits.Sub64", "math/bits.Add64"], unfollowed := true, recurses := true, apart := false }
def DualValuesSaid : Prop := dualValuesRow.holds Tryz.pinned (OpenSpec.ofChange dualValuesSpec)

/-- ITS FALSE NEIGHBOUR: 'it returns false'. Refute it at one input. -/
def dualValuesWrong : ChangeSpec := { name := "dualValues", fn := fun _ => fun
  | [d1, d2] => { results := [.lit (.bool false)], args := [d1, d2] }
  | _ => none }
def DualValuesWrongFalsely : Prop := dualValuesRow.holds Tryz.pinned (OpenSpec.ofChange dualValuesWrong)

/-- 'lightsievelaw05.DualRanges': WHATEVER THE INPUT: true; the input reads as it did. -/
def dualRangesSpec : ChangeSpec := { name := "dualRanges", fn := fun _ => fun
  | [d1, d2, d3] => { results := [.lit (.bool true)], args := [d1, d2, d3] }
  | _ => none }
def dualRangesRow : OpenClaim := { program := "ytlffndehhhpgjaagreat", sum := "69bb6c07456b1d375692f8fbdaec55f5d16942755ed240387f65344a9cf6be56", func := "lightsieve/lightsievelaw05.DualRanges", spec := "dualRanges", inPlace := ["math/bits.Sub64", "math/bits.Add64"], unfollowed := true, recurses := true, apart := false }
def DualRangesSaid : Prop := dualRangesRow.holds Tryz.pinned (OpenSpec.ofChange dualRangesSpec)

/-- ITS FALSE NEIGHBOUR: 'it returns false'. Refute it at one input. -/
def dualRangesWrong : ChangeSpec := { name := "dualRanges", fn := fun _ => fun
  | [d1, d2, d3] => { results := [.lit (.bool false)], args := [d1, d2, d3] }
  | _ => none }
def DualRangesWrongFalsely : Prop := dualRangesRow.holds Tryz.pinned (OpenSpec.ofChange dualRangesWrong)

/-- 'lightsievelaw05.DualFinds': WHATEVER THE INPUT: true; the input reads as it did. -/
def dualFindsSpec : ChangeSpec := { name := "dualFinds", fn := fun _ => fun
  | [d1, d2] => { results := [.lit (.bool true)], args := [d1, d2] }
  | _ => none }
def dualFindsRow : OpenClaim := { program := "ytlffndehhhpgjaagreat", sum := "69bb6c07456b1d375692f8fbdaec55f5d16942755ed240387f65344a9cf6be56", func := "lightsieve/lightsievelaw05.DualFinds", spec := "dualFinds", inPlace := ["math/bits.Sub64", "math/bits.Add64"], unfollowed := true, recurses := true, apart := false }
def DualFindsSaid : Prop := dualFindsRow.holds Tryz.pinned (OpenSpec.ofChange dualFindsSpec)

/-- ITS FALSE NEIGHBOUR: 'it returns false'. Refute it at one input. -/
def dualFindsWrong : ChangeSpec := { name := "dualFinds", fn := fun _ => fun
  | [d1, d2] => { results := [.lit (.bool false)], args := [d1, d2] }
  | _ => none }
def DualFindsWrongFalsely : Prop := dualFindsRow.holds Tryz.pinned (OpenSpec.ofChange dualFindsWrong)

/-- 'lightsievelaw05.DualSure': WHATEVER THE INPUT: true; the input reads as it did. -/
def dualSureSpec : ChangeSpec := { name := "dualSure", fn := fun _ => fun
  | [d1, d2] => { results := [.lit (.bool true)], args := [d1, d2] }
  | _ => none }
def dualSureRow : OpenClaim := { program := "ytlffndehhhpgjaagreat", sum := "69bb6c07456b1d375692f8fbdaec55f5d16942755ed240387f65344a9cf6be56", func := "lightsieve/lightsievelaw05.DualSure", spec := "dualSure", inPlace := ["math/bits.Sub64", "math/bits.Add64"], unfollowed := true, recurses := true, apart := false }
def DualSureSaid : Prop := dualSureRow.holds Tryz.pinned (OpenSpec.ofChange dualSureSpec)

/-- ITS FALSE NEIGHBOUR: 'it returns false'. Refute it at one input. -/
def dualSureWrong : ChangeSpec := { name := "dualSure", fn := fun _ => fun
  | [d1, d2] => { results := [.lit (.bool false)], args := [d1, d2] }
  | _ => none }
def DualSureWrongFalsely : Prop := dualSureRow.holds Tryz.pinned (OpenSpec.ofChange dualSureWrong)

/-- 'lightsievelaw05.DualShades': WHATEVER THE INPUT: true; the input reads as it did. -/
def dualShadesSpec : ChangeSpec := { name := "dualShades", fn := fun _ => fun
  | [d1, d2, d3] => { results := [.lit (.bool true)], args := [d1, d2, d3] }
  | _ => none }
def dualShadesRow : OpenClaim := { program := "ytlffndehhhpgjaagreat", sum := "69bb6c07456b1d375692f8fbdaec55f5d16942755ed240387f65344a9cf6be56", func := "lightsieve/lightsievelaw05.DualShades", spec := "dualShades", inPlace := ["math/bits.Sub64", "math/bits.Add64"], unfollowed := true, recurses := true, apart := false }
def DualShadesSaid : Prop := dualShadesRow.holds Tryz.pinned (OpenSpec.ofChange dualShadesSpec)

/-- ITS FALSE NEIGHBOUR: 'it returns false'. Refute it at one input. -/
def dualShadesWrong : ChangeSpec := { name := "dualShades", fn := fun _ => fun
  | [d1, d2, d3] => { results := [.lit (.bool false)], args := [d1, d2, d3] }
  | _ => none }
def DualShadesWrongFalsely : Prop := dualShadesRow.holds Tryz.pinned (OpenSpec.ofChange dualShadesWrong)

/-- 'lightsievelaw05.DualCorners': WHATEVER THE INPUT: true; the input reads as it did. -/
def dualCornersSpec : ChangeSpec := { name := "dualCorners", fn := fun _ => fun
  | [d1, d2, d3] => { results := [.lit (.bool true)], args := [d1, d2, d3] }
  | _ => none }
def dualCornersRow : OpenClaim := { program := "ytlffndehhhpgjaagreat", sum := "69bb6c07456b1d375692f8fbdaec55f5d16942755ed240387f65344a9cf6be56", func := "lightsieve/lightsievelaw05.DualCorners", spec := "dualCorners", inPlace := ["math/bits.Sub64", "math/bits.Add64"], unfollowed := true, recurses := true, apart := false }
def DualCornersSaid : Prop := dualCornersRow.holds Tryz.pinned (OpenSpec.ofChange dualCornersSpec)

/-- ITS FALSE NEIGHBOUR: 'it returns false'. Refute it at one input. -/
def dualCornersWrong : ChangeSpec := { name := "dualCorners", fn := fun _ => fun
  | [d1, d2, d3] => { results := [.lit (.bool false)], args := [d1, d2, d3] }
  | _ => none }
def DualCornersWrongFalsely : Prop := dualCornersRow.holds Tryz.pinned (OpenSpec.ofChange dualCornersWrong)

/-- 'lightsievelaw05.DualBright': WHATEVER THE INPUT: true; the input reads as it did. -/
def dualBrightSpec : ChangeSpec := { name := "dualBright", fn := fun _ => fun
  | [d1, d2, d3, d4] => { results := [.lit (.bool true)], args := [d1, d2, d3, d4] }
  | _ => none }
def dualBrightRow : OpenClaim := { program := "ytlffndehhhpgjaagreat", sum := "69bb6c07456b1d375692f8fbdaec55f5d16942755ed240387f65344a9cf6be56", func := "lightsieve/lightsievelaw05.DualBright", spec := "dualBright", inPlace := ["math/bits.Sub64", "math/bits.Add64"], unfollowed := true, recurses := true, apart := false }
def DualBrightSaid : Prop := dualBrightRow.holds Tryz.pinned (OpenSpec.ofChange dualBrightSpec)

/-- ITS FALSE NEIGHBOUR: 'it returns false'. Refute it at one input. -/
def dualBrightWrong : ChangeSpec := { name := "dualBright", fn := fun _ => fun
  | [d1, d2, d3, d4] => { results := [.lit (.bool false)], args := [d1, d2, d3, d4] }
  | _ => none }
def DualBrightWrongFalsely : Prop := dualBrightRow.holds Tryz.pinned (OpenSpec.ofChange dualBrightWrong)

/-- 'lightsievelaw05.DualProofs': WHATEVER THE INPUT: true; the input reads as it did. -/
def dualProofsSpec : ChangeSpec := { name := "dualProofs", fn := fun _ => fun
  | [d1, d2, d3] => { results := [.lit (.bool true)], args := [d1, d2, d3] }
  | _ => none }
def dualProofsRow : OpenClaim := { program := "ytlffndehhhpgjaagreat", sum := "69bb6c07456b1d375692f8fbdaec55f5d16942755ed240387f65344a9cf6be56", func := "lightsieve/lightsievelaw05.DualProofs", spec := "dualProofs", inPlace := ["math/bits.Sub64", "math/bits.Add64"], unfollowed := true, recurses := true, apart := false }
def DualProofsSaid : Prop := dualProofsRow.holds Tryz.pinned (OpenSpec.ofChange dualProofsSpec)

/-- ITS FALSE NEIGHBOUR: 'it returns false'. Refute it at one input. -/
def dualProofsWrong : ChangeSpec := { name := "dualProofs", fn := fun _ => fun
  | [d1, d2, d3] => { results := [.lit (.bool false)], args := [d1, d2, d3] }
  | _ => none }
def DualProofsWrongFalsely : Prop := dualProofsRow.holds Tryz.pinned (OpenSpec.ofChange dualProofsWrong)

/-- 'lightsievelaw05.DualLights': WHATEVER THE INPUT: true; the input reads as it did. -/
def dualLightsSpec : ChangeSpec := { name := "dualLights", fn := fun _ => fun
  | [d1, d2, d3] => { results := [.lit (.bool true)], args := [d1, d2, d3] }
  | _ => none }
def dualLightsRow : OpenClaim := { program := "ytlffndehhhpgjaagreat", sum := "69bb6c07456b1d375692f8fbdaec55f5d16942755ed240387f65344a9cf6be56", func := "lightsieve/lightsievelaw05.DualLights", spec := "dualLights", inPlace := ["math/bits.Sub64", "math/bits.Add64"], unfollowed := true, recurses := true, apart := false }
def DualLightsSaid : Prop := dualLightsRow.holds Tryz.pinned (OpenSpec.ofChange dualLightsSpec)

/-- ITS FALSE NEIGHBOUR: 'it returns false'. Refute it at one input. -/
def dualLightsWrong : ChangeSpec := { name := "dualLights", fn := fun _ => fun
  | [d1, d2, d3] => { results := [.lit (.bool false)], args := [d1, d2, d3] }
  | _ => none }
def DualLightsWrongFalsely : Prop := dualLightsRow.holds Tryz.pinned (OpenSpec.ofChange dualLightsWrong)

/-- 'lightsievelaw05.DualMisses': WHATEVER THE INPUT: true; the input reads as it did. -/
def dualMissesSpec : ChangeSpec := { name := "dualMisses", fn := fun _ => fun
  | [d1, d2] => { results := [.lit (.bool true)], args := [d1, d2] }
  | _ => none }
def dualMissesRow : OpenClaim := { program := "ytlffndehhhpgjaagreat", sum := "69bb6c07456b1d375692f8fbdaec55f5d16942755ed240387f65344a9cf6be56", func := "lightsieve/lightsievelaw05.DualMisses", spec := "dualMisses", inPlace := ["math/bits.Sub64", "math/bits.Add64"], unfollowed := true, recurses := true, apart := false }
def DualMissesSaid : Prop := dualMissesRow.holds Tryz.pinned (OpenSpec.ofChange dualMissesSpec)

/-- ITS FALSE NEIGHBOUR: 'it returns false'. Refute it at one input. -/
def dualMissesWrong : ChangeSpec := { name := "dualMisses", fn := fun _ => fun
  | [d1, d2] => { results := [.lit (.bool false)], args := [d1, d2] }
  | _ => none }
def DualMissesWrongFalsely : Prop := dualMissesRow.holds Tryz.pinned (OpenSpec.ofChange dualMissesWrong)

/- THE SECOND FORM. 'bulk': how many values and letters a reading holds, each counted each time it is reached (what is shared counts as often as it is met; a slice's spare places count too). A statement '..UptoSaid' is the law's where the arguments, and the package variables that the reading takes, are together of bulk at most 1048576: NARROWER than '..Said'. Prove '..Said' where nothing that the law and all that it calls make is longer than what came in: it says more and counts as full. Else prove '..UptoSaid'. A law counts once. -/
mutual
def uptoBulk {H : Type} : DataW H → Nat
  | .lit (.string bytes) => bytes.length + 1
  | .lit _ => 1
  | .nil => 1
  | .ptr d => uptoBulk d + 1
  | .slice elems spare => uptoBulkAll elems + uptoBulkAll spare + 1
  | .agg parts => uptoBulkAll parts + 1
  | .iface _ d => uptoBulk d + 1
  | .map entries => uptoBulkEntries entries + 1
  | .held _ => 1
def uptoBulkAll {H : Type} : List (DataW H) → Nat
  | [] => 0
  | d :: r => uptoBulk d + uptoBulkAll r
def uptoBulkEntries {H : Type} : List (Lit × DataW H) → Nat
  | [] => 0
  | x :: r => uptoBulkEntry x + uptoBulkEntries r
def uptoBulkEntry {H : Type} : Lit × DataW H → Nat
  | (.string bytes, d) => bytes.length + uptoBulk d + 1
  | (_, d) => uptoBulk d + 1
 end
def uptoSmall : (H : Type) → List (DataW H) → Bool := fun _ ds => decide (uptoBulkAll ds ≤ 1048576)
def OpenSpec.upto (s : _root_.Go.ChangeSpec) : _root_.Go.OpenSpec := { _root_.Go.OpenSpec.ofChange s with cond := some uptoSmall }

/-- 'lightsievelaw05.DualScales', WHERE WHAT IT READS IS OF BULK AT MOST 1048576: true; the input reads as it did. -/
def dualScalesUptoRow : OpenClaim := { program := "ytlffndehhhpgjaagreat", sum := "69bb6c07456b1d375692f8fbdaec55f5d16942755ed240387f65344a9cf6be56", func := "lightsieve/lightsievelaw05.DualScales", spec := "dualScales", inPlace := ["math/bits.Sub64", "math/bits.Add64"], unfollowed := true, recurses := true, apart := false, narrowed := true }
def DualScalesUptoSaid : Prop := dualScalesUptoRow.holds Tryz.pinned (OpenSpec.upto dualScalesSpec)

/-- 'lightsievelaw05.DualLeast', WHERE WHAT IT READS IS OF BULK AT MOST 1048576: true; the input reads as it did. -/
def dualLeastUptoRow : OpenClaim := { program := "ytlffndehhhpgjaagreat", sum := "69bb6c07456b1d375692f8fbdaec55f5d16942755ed240387f65344a9cf6be56", func := "lightsieve/lightsievelaw05.DualLeast", spec := "dualLeast", inPlace := ["math/bits.Sub64", "math/bits.Add64"], unfollowed := true, recurses := true, apart := false, narrowed := true }
def DualLeastUptoSaid : Prop := dualLeastUptoRow.holds Tryz.pinned (OpenSpec.upto dualLeastSpec)

/-- 'lightsievelaw05.DualNorms', WHERE WHAT IT READS IS OF BULK AT MOST 1048576: true; the input reads as it did. -/
def dualNormsUptoRow : OpenClaim := { program := "ytlffndehhhpgjaagreat", sum := "69bb6c07456b1d375692f8fbdaec55f5d16942755ed240387f65344a9cf6be56", func := "lightsieve/lightsievelaw05.DualNorms", spec := "dualNorms", inPlace := ["math/bits.Sub64", "math/bits.Add64"], unfollowed := true, recurses := true, apart := false, narrowed := true }
def DualNormsUptoSaid : Prop := dualNormsUptoRow.holds Tryz.pinned (OpenSpec.upto dualNormsSpec)

/-- 'lightsievelaw05.DualValues', WHERE WHAT IT READS IS OF BULK AT MOST 1048576: true; the input reads as it did. -/
def dualValuesUptoRow : OpenClaim := { program := "ytlffndehhhpgjaagreat", sum := "69bb6c07456b1d375692f8fbdaec55f5d16942755ed240387f65344a9cf6be56", func := "lightsieve/lightsievelaw05.DualValues", spec := "dualValues", inPlace := ["math/bits.Sub64", "math/bits.Add64"], unfollowed := true, recurses := true, apart := false, narrowed := true }
def DualValuesUptoSaid : Prop := dualValuesUptoRow.holds Tryz.pinned (OpenSpec.upto dualValuesSpec)

/-- 'lightsievelaw05.DualRanges', WHERE WHAT IT READS IS OF BULK AT MOST 1048576: true; the input reads as it did. -/
def dualRangesUptoRow : OpenClaim := { program := "ytlffndehhhpgjaagreat", sum := "69bb6c07456b1d375692f8fbdaec55f5d16942755ed240387f65344a9cf6be56", func := "lightsieve/lightsievelaw05.DualRanges", spec := "dualRanges", inPlace := ["math/bits.Sub64", "math/bits.Add64"], unfollowed := true, recurses := true, apart := false, narrowed := true }
def DualRangesUptoSaid : Prop := dualRangesUptoRow.holds Tryz.pinned (OpenSpec.upto dualRangesSpec)

/-- 'lightsievelaw05.DualFinds', WHERE WHAT IT READS IS OF BULK AT MOST 1048576: true; the input reads as it did. -/
def dualFindsUptoRow : OpenClaim := { program := "ytlffndehhhpgjaagreat", sum := "69bb6c07456b1d375692f8fbdaec55f5d16942755ed240387f65344a9cf6be56", func := "lightsieve/lightsievelaw05.DualFinds", spec := "dualFinds", inPlace := ["math/bits.Sub64", "math/bits.Add64"], unfollowed := true, recurses := true, apart := false, narrowed := true }
def DualFindsUptoSaid : Prop := dualFindsUptoRow.holds Tryz.pinned (OpenSpec.upto dualFindsSpec)

/-- 'lightsievelaw05.DualSure', WHERE WHAT IT READS IS OF BULK AT MOST 1048576: true; the input reads as it did. -/
def dualSureUptoRow : OpenClaim := { program := "ytlffndehhhpgjaagreat", sum := "69bb6c07456b1d375692f8fbdaec55f5d16942755ed240387f65344a9cf6be56", func := "lightsieve/lightsievelaw05.DualSure", spec := "dualSure", inPlace := ["math/bits.Sub64", "math/bits.Add64"], unfollowed := true, recurses := true, apart := false, narrowed := true }
def DualSureUptoSaid : Prop := dualSureUptoRow.holds Tryz.pinned (OpenSpec.upto dualSureSpec)

/-- 'lightsievelaw05.DualShades', WHERE WHAT IT READS IS OF BULK AT MOST 1048576: true; the input reads as it did. -/
def dualShadesUptoRow : OpenClaim := { program := "ytlffndehhhpgjaagreat", sum := "69bb6c07456b1d375692f8fbdaec55f5d16942755ed240387f65344a9cf6be56", func := "lightsieve/lightsievelaw05.DualShades", spec := "dualShades", inPlace := ["math/bits.Sub64", "math/bits.Add64"], unfollowed := true, recurses := true, apart := false, narrowed := true }
def DualShadesUptoSaid : Prop := dualShadesUptoRow.holds Tryz.pinned (OpenSpec.upto dualShadesSpec)

/-- 'lightsievelaw05.DualCorners', WHERE WHAT IT READS IS OF BULK AT MOST 1048576: true; the input reads as it did. -/
def dualCornersUptoRow : OpenClaim := { program := "ytlffndehhhpgjaagreat", sum := "69bb6c07456b1d375692f8fbdaec55f5d16942755ed240387f65344a9cf6be56", func := "lightsieve/lightsievelaw05.DualCorners", spec := "dualCorners", inPlace := ["math/bits.Sub64", "math/bits.Add64"], unfollowed := true, recurses := true, apart := false, narrowed := true }
def DualCornersUptoSaid : Prop := dualCornersUptoRow.holds Tryz.pinned (OpenSpec.upto dualCornersSpec)

/-- 'lightsievelaw05.DualBright', WHERE WHAT IT READS IS OF BULK AT MOST 1048576: true; the input reads as it did. -/
def dualBrightUptoRow : OpenClaim := { program := "ytlffndehhhpgjaagreat", sum := "69bb6c07456b1d375692f8fbdaec55f5d16942755ed240387f65344a9cf6be56", func := "lightsieve/lightsievelaw05.DualBright", spec := "dualBright", inPlace := ["math/bits.Sub64", "math/bits.Add64"], unfollowed := true, recurses := true, apart := false, narrowed := true }
def DualBrightUptoSaid : Prop := dualBrightUptoRow.holds Tryz.pinned (OpenSpec.upto dualBrightSpec)

/-- 'lightsievelaw05.DualProofs', WHERE WHAT IT READS IS OF BULK AT MOST 1048576: true; the input reads as it did. -/
def dualProofsUptoRow : OpenClaim := { program := "ytlffndehhhpgjaagreat", sum := "69bb6c07456b1d375692f8fbdaec55f5d16942755ed240387f65344a9cf6be56", func := "lightsieve/lightsievelaw05.DualProofs", spec := "dualProofs", inPlace := ["math/bits.Sub64", "math/bits.Add64"], unfollowed := true, recurses := true, apart := false, narrowed := true }
def DualProofsUptoSaid : Prop := dualProofsUptoRow.holds Tryz.pinned (OpenSpec.upto dualProofsSpec)

/-- 'lightsievelaw05.DualLights', WHERE WHAT IT READS IS OF BULK AT MOST 1048576: true; the input reads as it did. -/
def dualLightsUptoRow : OpenClaim := { program := "ytlffndehhhpgjaagreat", sum := "69bb6c07456b1d375692f8fbdaec55f5d16942755ed240387f65344a9cf6be56", func := "lightsieve/lightsievelaw05.DualLights", spec := "dualLights", inPlace := ["math/bits.Sub64", "math/bits.Add64"], unfollowed := true, recurses := true, apart := false, narrowed := true }
def DualLightsUptoSaid : Prop := dualLightsUptoRow.holds Tryz.pinned (OpenSpec.upto dualLightsSpec)

/-- 'lightsievelaw05.DualMisses', WHERE WHAT IT READS IS OF BULK AT MOST 1048576: true; the input reads as it did. -/
def dualMissesUptoRow : OpenClaim := { program := "ytlffndehhhpgjaagreat", sum := "69bb6c07456b1d375692f8fbdaec55f5d16942755ed240387f65344a9cf6be56", func := "lightsieve/lightsievelaw05.DualMisses", spec := "dualMisses", inPlace := ["math/bits.Sub64", "math/bits.Add64"], unfollowed := true, recurses := true, apart := false, narrowed := true }
def DualMissesUptoSaid : Prop := dualMissesUptoRow.holds Tryz.pinned (OpenSpec.upto dualMissesSpec)

end Rows
end Go.Proofs.YtlffndehhhpgjaaGreat
