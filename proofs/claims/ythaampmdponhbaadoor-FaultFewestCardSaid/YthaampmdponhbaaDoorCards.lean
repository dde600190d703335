/-
  DERIVED. GIVEN WITH THE SEED: THE CARDS: each row of YthaampmdponhbaaDoorRows.lean that lists a variable, with what it lists TIED to the program's text (the seventh form; the later family's looks); each row that meets fmt, with fmt's text TOLD by the authors' own Lean function (tested against real Go, not proved from fmt's source: count such statements apart). THE CARD IS WHAT COUNTS. Prove the row's statement (the work); the ties are given (YthaampmdponhbaaDoorTie.lean); close each card by the builder's one call (the guide's Derived/Test/ToyasCard.lean, 'card_holds'). Laid BY PROGRAM, IN A SANDBOX (cutbox-door.mjs). By AI agents, Wed Nov 11 2026. No macro, syntax, notation, axiom, sorry.
-/
import Derived.Test.YthaampmdponhbaaDoorRows
import GoSem.ClaimSeven
namespace Go.Proofs.YthaampmdponhbaaDoor
namespace Rows

/-- THE TIED CARD OF 'lightsievelaw09.FaultUnits'. -/
def faultUnitsCard : Claim7 := { stood := { row := faultUnitsRow, standIns := [], harness := (true, "e8d6bcce97fe45e6bb2937d36d1be2cba592049766a8c2be554873f1197a482e"), looks := false }, kinds := [], alts := [], laidByText := true, laidKinds := [.data, .data, .data], laidTests := true, laidLooks := .later }
def FaultUnitsCardSaid : Prop := Claim7.holds Tryd.pinned (.plain (OpenSpec.ofChange faultUnitsSpec)) faultUnitsCard

/-- THE TIED CARD OF 'lightsievelaw09.FaultClasses'. -/
def faultClassesCard : Claim7 := { stood := { row := faultClassesRow, standIns := [], harness := (true, "e8d6bcce97fe45e6bb2937d36d1be2cba592049766a8c2be554873f1197a482e"), looks := false }, kinds := [], alts := [], laidByText := true, laidKinds := [.data, .data, .data], laidTests := true, laidLooks := .later }
def FaultClassesCardSaid : Prop := Claim7.holds Tryd.pinned (.plain (OpenSpec.ofChange faultClassesSpec)) faultClassesCard

/-- THE TIED CARD OF 'lightsievelaw09.FaultAll'. -/
def faultAllCard : Claim7 := { stood := { row := faultAllRow, standIns := [], harness := (true, "e8d6bcce97fe45e6bb2937d36d1be2cba592049766a8c2be554873f1197a482e"), looks := false }, kinds := [], alts := [], laidByText := true, laidKinds := [.data, .data, .data], laidTests := true, laidLooks := .later }
def FaultAllCardSaid : Prop := Claim7.holds Tryd.pinned (.plain (OpenSpec.ofChange faultAllSpec)) faultAllCard

/-- THE TIED CARD OF 'lightsievelaw09.FaultFewest'. -/
def faultFewestCard : Claim7 := { stood := { row := faultFewestRow, standIns := [], harness := (true, "e8d6bcce97fe45e6bb2937d36d1be2cba592049766a8c2be554873f1197a482e"), looks := false }, kinds := [], alts := [], laidByText := true, laidKinds := [.data, .data, .data], laidTests := true, laidLooks := .later }
def FaultFewestCardSaid : Prop := Claim7.holds Tryd.pinned (.plain (OpenSpec.ofChange faultFewestSpec)) faultFewestCard

/-- THE TIED CARD OF 'lightsievelaw09.FaultOwn'. -/
def faultOwnCard : Claim7 := { stood := { row := faultOwnRow, standIns := [], harness := (true, "e8d6bcce97fe45e6bb2937d36d1be2cba592049766a8c2be554873f1197a482e"), looks := false }, kinds := [], alts := [], laidByText := true, laidKinds := [.data, .data, .data], laidTests := true, laidLooks := .later }
def FaultOwnCardSaid : Prop := Claim7.holds Tryd.pinned (.plain (OpenSpec.ofChange faultOwnSpec)) faultOwnCard

/-- THE SECOND FORM's CARD OF 'lightsievelaw09.FaultUnits'. -/
def faultUnitsUptoCard : Claim7 := { stood := { row := faultUnitsUptoRow, standIns := [], harness := (true, "e8d6bcce97fe45e6bb2937d36d1be2cba592049766a8c2be554873f1197a482e"), looks := false }, kinds := [], alts := [], laidByText := true, laidKinds := [.data, .data, .data], laidTests := true, laidLooks := .later }
def FaultUnitsUptoCardSaid : Prop := Claim7.holds Tryd.pinned (.plain (OpenSpec.upto faultUnitsSpec)) faultUnitsUptoCard

/-- THE SECOND FORM's CARD OF 'lightsievelaw09.FaultClasses'. -/
def faultClassesUptoCard : Claim7 := { stood := { row := faultClassesUptoRow, standIns := [], harness := (true, "e8d6bcce97fe45e6bb2937d36d1be2cba592049766a8c2be554873f1197a482e"), looks := false }, kinds := [], alts := [], laidByText := true, laidKinds := [.data, .data, .data], laidTests := true, laidLooks := .later }
def FaultClassesUptoCardSaid : Prop := Claim7.holds Tryd.pinned (.plain (OpenSpec.upto faultClassesSpec)) faultClassesUptoCard

/-- THE SECOND FORM's CARD OF 'lightsievelaw09.FaultAll'. -/
def faultAllUptoCard : Claim7 := { stood := { row := faultAllUptoRow, standIns := [], harness := (true, "e8d6bcce97fe45e6bb2937d36d1be2cba592049766a8c2be554873f1197a482e"), looks := false }, kinds := [], alts := [], laidByText := true, laidKinds := [.data, .data, .data], laidTests := true, laidLooks := .later }
def FaultAllUptoCardSaid : Prop := Claim7.holds Tryd.pinned (.plain (OpenSpec.upto faultAllSpec)) faultAllUptoCard

/-- THE SECOND FORM's CARD OF 'lightsievelaw09.FaultFewest'. -/
def faultFewestUptoCard : Claim7 := { stood := { row := faultFewestUptoRow, standIns := [], harness := (true, "e8d6bcce97fe45e6bb2937d36d1be2cba592049766a8c2be554873f1197a482e"), looks := false }, kinds := [], alts := [], laidByText := true, laidKinds := [.data, .data, .data], laidTests := true, laidLooks := .later }
def FaultFewestUptoCardSaid : Prop := Claim7.holds Tryd.pinned (.plain (OpenSpec.upto faultFewestSpec)) faultFewestUptoCard

/-- THE SECOND FORM's CARD OF 'lightsievelaw09.FaultOwn'. -/
def faultOwnUptoCard : Claim7 := { stood := { row := faultOwnUptoRow, standIns := [], harness := (true, "e8d6bcce97fe45e6bb2937d36d1be2cba592049766a8c2be554873f1197a482e"), looks := false }, kinds := [], alts := [], laidByText := true, laidKinds := [.data, .data, .data], laidTests := true, laidLooks := .later }
def FaultOwnUptoCardSaid : Prop := Claim7.holds Tryd.pinned (.plain (OpenSpec.upto faultOwnSpec)) faultOwnUptoCard
end Rows
end Go.Proofs.YthaampmdponhbaaDoor
