/-
  DERIVED. GIVEN WITH THE SEED: THE CARDS: each row of YtddcamcdjkiadaaGreatDoorRows.lean that lists a variable, with what it lists TIED to the program's text (the seventh form; the later family's looks); each row that meets fmt, with fmt's text TOLD by the authors' own Lean function (tested against real Go, not proved from fmt's source: count such statements apart). THE CARD IS WHAT COUNTS. Prove the row's statement (the work); the ties are given (YtddcamcdjkiadaaGreatDoorTie.lean); close each card by the builder's one call (the guide's Derived/Test/ToyasCard.lean, 'card_holds'). Laid BY PROGRAM, IN A SANDBOX (cutbox-door.mjs). By AI agents, Wed Nov 11 2026. No macro, syntax, notation, axiom, sorry.
-/
import Derived.Test.YtddcamcdjkiadaaGreatDoorRows
import GoSem.ClaimSeven
namespace Go.Proofs.YtddcamcdjkiadaaGreatDoor
namespace Rows

/-- THE TIED CARD OF 'lightsievelaw09.FaultTexts'. -/
def faultTextsCard : Claim7 := { stood := { row := faultTextsRow, standIns := [], harness := (true, "ba175be61651a95984145a721ca421c0ea9ef02f9f102d166d566f024907b3b8"), looks := true }, kinds := [], alts := [], laidByText := true, laidKinds := [.data, .data, .data, .data, .sentinel, .sentinel, .pinned], laidTests := true, laidLooks := .later }
def FaultTextsCardSaid : Prop := Claim7.holds Tryz.pinned (.plain (OpenSpec.ofChange faultTextsSpec)) faultTextsCard

/-- THE TIED CARD OF 'lightsievelaw08.StreamTexts'. -/
def streamTextsCard : Claim7 := { stood := { row := streamTextsRow, standIns := [], harness := (true, "ba175be61651a95984145a721ca421c0ea9ef02f9f102d166d566f024907b3b8"), looks := true }, kinds := [], alts := [], laidByText := true, laidKinds := [.data, .data, .data, .data, .sentinel, .sentinel, .pinned], laidTests := true, laidLooks := .later }
def StreamTextsCardSaid : Prop := Claim7.holds Tryz.pinned (.plain (OpenSpec.ofChange streamTextsSpec)) streamTextsCard

/-- THE SECOND FORM's CARD OF 'lightsievelaw09.FaultTexts'. -/
def faultTextsUptoCard : Claim7 := { stood := { row := faultTextsUptoRow, standIns := [], harness := (true, "ba175be61651a95984145a721ca421c0ea9ef02f9f102d166d566f024907b3b8"), looks := true }, kinds := [], alts := [], laidByText := true, laidKinds := [.data, .data, .data, .data, .sentinel, .sentinel, .pinned], laidTests := true, laidLooks := .later }
def FaultTextsUptoCardSaid : Prop := Claim7.holds Tryz.pinned (.plain (OpenSpec.upto faultTextsSpec)) faultTextsUptoCard

/-- THE SECOND FORM's CARD OF 'lightsievelaw08.StreamTexts'. -/
def streamTextsUptoCard : Claim7 := { stood := { row := streamTextsUptoRow, standIns := [], harness := (true, "ba175be61651a95984145a721ca421c0ea9ef02f9f102d166d566f024907b3b8"), looks := true }, kinds := [], alts := [], laidByText := true, laidKinds := [.data, .data, .data, .data, .sentinel, .sentinel, .pinned], laidTests := true, laidLooks := .later }
def StreamTextsUptoCardSaid : Prop := Claim7.holds Tryz.pinned (.plain (OpenSpec.upto streamTextsSpec)) streamTextsUptoCard
end Rows
end Go.Proofs.YtddcamcdjkiadaaGreatDoor
