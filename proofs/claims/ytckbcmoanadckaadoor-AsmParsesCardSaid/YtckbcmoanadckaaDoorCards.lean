/-
  DERIVED. GIVEN WITH THE SEED: THE CARDS: each row of YtckbcmoanadckaaDoorRows.lean that lists a variable, with what it lists TIED to the program's text (the seventh form; the later family's looks); each row that meets fmt, with fmt's text TOLD by the authors' own Lean function (tested against real Go, not proved from fmt's source: count such statements apart). THE CARD IS WHAT COUNTS. Prove the row's statement (the work); the ties are given (YtckbcmoanadckaaDoorTie.lean); close each card by the builder's one call (the guide's Derived/Test/ToyasCard.lean, 'card_holds'). Laid BY PROGRAM, IN A SANDBOX (cutbox-door.mjs). By AI agents, Wed Nov 11 2026. No macro, syntax, notation, axiom, sorry.
-/
import Derived.Test.YtckbcmoanadckaaDoorRows
import GoSem.ClaimSeven
namespace Go.Proofs.YtckbcmoanadckaaDoor
namespace Rows

/-- THE TIED CARD OF 'riddlelaw3.AsmLines'. -/
def asmLinesCard : Claim7 := { stood := { row := asmLinesRow, standIns := [], harness := (true, "a2e3f7019c0eab223b2454537228de52aba519b71de5db9cfe70562e25ecb151"), looks := false }, kinds := [], alts := [], laidByText := true, laidKinds := [.data, .data, .data], laidTests := true, laidLooks := .later }
def AsmLinesCardSaid : Prop := Claim7.holds Tryd.pinned (.plain (OpenSpec.ofChange asmLinesSpec)) asmLinesCard

/-- THE TIED CARD OF 'riddlelaw3.AsmPrints'. -/
def asmPrintsCard : Claim7 := { stood := { row := asmPrintsRow, standIns := [], harness := (true, "a2e3f7019c0eab223b2454537228de52aba519b71de5db9cfe70562e25ecb151"), looks := false }, kinds := [], alts := [], laidByText := true, laidKinds := [.data, .data, .data], laidTests := true, laidLooks := .later }
def AsmPrintsCardSaid : Prop := Claim7.holds Tryd.pinned (.plain (OpenSpec.ofChange asmPrintsSpec)) asmPrintsCard

/-- THE TIED CARD OF 'riddlelaw3.AsmParses'. -/
def asmParsesCard : Claim7 := { stood := { row := asmParsesRow, standIns := [], harness := (true, "a2e3f7019c0eab223b2454537228de52aba519b71de5db9cfe70562e25ecb151"), looks := false }, kinds := [], alts := [], laidByText := true, laidKinds := [.data, .data, .data], laidTests := true, laidLooks := .later }
def AsmParsesCardSaid : Prop := Claim7.holds Tryd.pinned (.plain (OpenSpec.ofChange asmParsesSpec)) asmParsesCard

/-- THE TIED CARD OF 'riddlelaw3.AsmBack'. -/
def asmBackCard : Claim7 := { stood := { row := asmBackRow, standIns := [], harness := (true, "a2e3f7019c0eab223b2454537228de52aba519b71de5db9cfe70562e25ecb151"), looks := false }, kinds := [], alts := [], laidByText := true, laidKinds := [.data, .data, .data], laidTests := true, laidLooks := .later }
def AsmBackCardSaid : Prop := Claim7.holds Tryd.pinned (.plain (OpenSpec.ofChange asmBackSpec)) asmBackCard

/-- THE TIED CARD OF 'riddlelaw3.AsmApart'. -/
def asmApartCard : Claim7 := { stood := { row := asmApartRow, standIns := [], harness := (true, "a2e3f7019c0eab223b2454537228de52aba519b71de5db9cfe70562e25ecb151"), looks := false }, kinds := [], alts := [], laidByText := true, laidKinds := [.data, .data, .data], laidTests := true, laidLooks := .later }
def AsmApartCardSaid : Prop := Claim7.holds Tryd.pinned (.plain (OpenSpec.ofChange asmApartSpec)) asmApartCard

/-- THE TIED CARD OF 'riddlelaw3.AsmPlaces'. -/
def asmPlacesCard : Claim7 := { stood := { row := asmPlacesRow, standIns := [], harness := (true, "a2e3f7019c0eab223b2454537228de52aba519b71de5db9cfe70562e25ecb151"), looks := false }, kinds := [], alts := [], laidByText := true, laidKinds := [.data, .data, .data], laidTests := true, laidLooks := .later }
def AsmPlacesCardSaid : Prop := Claim7.holds Tryd.pinned (.plain (OpenSpec.ofChange asmPlacesSpec)) asmPlacesCard

/-- THE SECOND FORM's CARD OF 'riddlelaw3.AsmLines'. -/
def asmLinesUptoCard : Claim7 := { stood := { row := asmLinesUptoRow, standIns := [], harness := (true, "a2e3f7019c0eab223b2454537228de52aba519b71de5db9cfe70562e25ecb151"), looks := false }, kinds := [], alts := [], laidByText := true, laidKinds := [.data, .data, .data], laidTests := true, laidLooks := .later }
def AsmLinesUptoCardSaid : Prop := Claim7.holds Tryd.pinned (.plain (OpenSpec.upto asmLinesSpec)) asmLinesUptoCard

/-- THE SECOND FORM's CARD OF 'riddlelaw3.AsmPrints'. -/
def asmPrintsUptoCard : Claim7 := { stood := { row := asmPrintsUptoRow, standIns := [], harness := (true, "a2e3f7019c0eab223b2454537228de52aba519b71de5db9cfe70562e25ecb151"), looks := false }, kinds := [], alts := [], laidByText := true, laidKinds := [.data, .data, .data], laidTests := true, laidLooks := .later }
def AsmPrintsUptoCardSaid : Prop := Claim7.holds Tryd.pinned (.plain (OpenSpec.upto asmPrintsSpec)) asmPrintsUptoCard

/-- THE SECOND FORM's CARD OF 'riddlelaw3.AsmParses'. -/
def asmParsesUptoCard : Claim7 := { stood := { row := asmParsesUptoRow, standIns := [], harness := (true, "a2e3f7019c0eab223b2454537228de52aba519b71de5db9cfe70562e25ecb151"), looks := false }, kinds := [], alts := [], laidByText := true, laidKinds := [.data, .data, .data], laidTests := true, laidLooks := .later }
def AsmParsesUptoCardSaid : Prop := Claim7.holds Tryd.pinned (.plain (OpenSpec.upto asmParsesSpec)) asmParsesUptoCard

/-- THE SECOND FORM's CARD OF 'riddlelaw3.AsmBack'. -/
def asmBackUptoCard : Claim7 := { stood := { row := asmBackUptoRow, standIns := [], harness := (true, "a2e3f7019c0eab223b2454537228de52aba519b71de5db9cfe70562e25ecb151"), looks := false }, kinds := [], alts := [], laidByText := true, laidKinds := [.data, .data, .data], laidTests := true, laidLooks := .later }
def AsmBackUptoCardSaid : Prop := Claim7.holds Tryd.pinned (.plain (OpenSpec.upto asmBackSpec)) asmBackUptoCard

/-- THE SECOND FORM's CARD OF 'riddlelaw3.AsmApart'. -/
def asmApartUptoCard : Claim7 := { stood := { row := asmApartUptoRow, standIns := [], harness := (true, "a2e3f7019c0eab223b2454537228de52aba519b71de5db9cfe70562e25ecb151"), looks := false }, kinds := [], alts := [], laidByText := true, laidKinds := [.data, .data, .data], laidTests := true, laidLooks := .later }
def AsmApartUptoCardSaid : Prop := Claim7.holds Tryd.pinned (.plain (OpenSpec.upto asmApartSpec)) asmApartUptoCard

/-- THE SECOND FORM's CARD OF 'riddlelaw3.AsmPlaces'. -/
def asmPlacesUptoCard : Claim7 := { stood := { row := asmPlacesUptoRow, standIns := [], harness := (true, "a2e3f7019c0eab223b2454537228de52aba519b71de5db9cfe70562e25ecb151"), looks := false }, kinds := [], alts := [], laidByText := true, laidKinds := [.data, .data, .data], laidTests := true, laidLooks := .later }
def AsmPlacesUptoCardSaid : Prop := Claim7.holds Tryd.pinned (.plain (OpenSpec.upto asmPlacesSpec)) asmPlacesUptoCard
end Rows
end Go.Proofs.YtckbcmoanadckaaDoor
