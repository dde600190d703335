/-
  DERIVED. GIVEN WITH THE SEED: THE CARDS: each row of YthaampmdponhbaaGreatDoorRows.lean that lists a variable, with what it lists TIED to the program's text (the seventh form; the later family's looks); each row that meets fmt, with fmt's text TOLD by the authors' own Lean function (tested against real Go, not proved from fmt's source: count such statements apart). THE CARD IS WHAT COUNTS. Prove the row's statement (the work); the ties are given (YthaampmdponhbaaGreatDoorTie.lean); close each card by the builder's one call (the guide's Derived/Test/ToyasCard.lean, 'card_holds'). Laid BY PROGRAM, IN A SANDBOX (cutbox-door.mjs). By AI agents, Wed Nov 11 2026. No macro, syntax, notation, axiom, sorry.
-/
import Derived.Test.YthaampmdponhbaaGreatDoorRows
import GoSem.ClaimSeven
namespace Go.Proofs.YthaampmdponhbaaGreatDoor
namespace Rows

/-- THE TIED CARD OF 'lightsievelaw09.FaultExplains'. -/
def faultExplainsCard : Claim7 := { stood := { row := faultExplainsRow, standIns := [], harness := (true, "a0cf48146097bfe731f77e371090dc4a48306ac7c287b4cf2e109f93dc60b9c4"), looks := true }, kinds := [], alts := [], laidByText := true, laidKinds := [.data, .data, .data], laidTests := true, laidLooks := .later }
def FaultExplainsCardSaid : Prop := Claim7.holds Tryz.pinned (.plain (OpenSpec.ofChange faultExplainsSpec)) faultExplainsCard

/-- THE TIED CARD OF 'lightsievelaw09.FaultPlays'. -/
def faultPlaysCard : Claim7 := { stood := { row := faultPlaysRow, standIns := [], harness := (true, "a0cf48146097bfe731f77e371090dc4a48306ac7c287b4cf2e109f93dc60b9c4"), looks := true }, kinds := [], alts := [], laidByText := true, laidKinds := [.data, .data, .data], laidTests := true, laidLooks := .later }
def FaultPlaysCardSaid : Prop := Claim7.holds Tryz.pinned (.plain (OpenSpec.ofChange faultPlaysSpec)) faultPlaysCard

/-- THE TIED CARD OF 'lightsievelaw09.FaultTexts'. -/
def faultTextsCard : Claim7 := { stood := { row := faultTextsRow, standIns := [], harness := (true, "a0cf48146097bfe731f77e371090dc4a48306ac7c287b4cf2e109f93dc60b9c4"), looks := true }, kinds := [], alts := [], laidByText := true, laidKinds := [.data, .data, .data, .data, .sentinel, .sentinel, .pinned], laidTests := true, laidLooks := .later }
def FaultTextsCardSaid : Prop := Claim7.holds Tryz.pinned (.plain (OpenSpec.ofChange faultTextsSpec)) faultTextsCard

/-- THE SECOND FORM's CARD OF 'lightsievelaw09.FaultExplains'. -/
def faultExplainsUptoCard : Claim7 := { stood := { row := faultExplainsUptoRow, standIns := [], harness := (true, "a0cf48146097bfe731f77e371090dc4a48306ac7c287b4cf2e109f93dc60b9c4"), looks := true }, kinds := [], alts := [], laidByText := true, laidKinds := [.data, .data, .data], laidTests := true, laidLooks := .later }
def FaultExplainsUptoCardSaid : Prop := Claim7.holds Tryz.pinned (.plain (OpenSpec.upto faultExplainsSpec)) faultExplainsUptoCard

/-- THE SECOND FORM's CARD OF 'lightsievelaw09.FaultPlays'. -/
def faultPlaysUptoCard : Claim7 := { stood := { row := faultPlaysUptoRow, standIns := [], harness := (true, "a0cf48146097bfe731f77e371090dc4a48306ac7c287b4cf2e109f93dc60b9c4"), looks := true }, kinds := [], alts := [], laidByText := true, laidKinds := [.data, .data, .data], laidTests := true, laidLooks := .later }
def FaultPlaysUptoCardSaid : Prop := Claim7.holds Tryz.pinned (.plain (OpenSpec.upto faultPlaysSpec)) faultPlaysUptoCard

/-- THE SECOND FORM's CARD OF 'lightsievelaw09.FaultTexts'. -/
def faultTextsUptoCard : Claim7 := { stood := { row := faultTextsUptoRow, standIns := [], harness := (true, "a0cf48146097bfe731f77e371090dc4a48306ac7c287b4cf2e109f93dc60b9c4"), looks := true }, kinds := [], alts := [], laidByText := true, laidKinds := [.data, .data, .data, .data, .sentinel, .sentinel, .pinned], laidTests := true, laidLooks := .later }
def FaultTextsUptoCardSaid : Prop := Claim7.holds Tryz.pinned (.plain (OpenSpec.upto faultTextsSpec)) faultTextsUptoCard
end Rows
end Go.Proofs.YthaampmdponhbaaGreatDoor
