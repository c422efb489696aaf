/-
  DERIVED. GIVEN WITH THE SEED: THE CARDS: each row of YtoknkgeojhekoaaDoorRows.lean that lists a variable, with what it lists TIED to the program's text (the seventh form; the later family's looks); each row that meets fmt, with fmt's text TOLD by the authors' own Lean function (tested against real Go, not proved from fmt's source: count such statements apart). THE CARD IS WHAT COUNTS. Prove the row's statement (the work); the ties are given (YtoknkgeojhekoaaDoorTie.lean); close each card by the builder's one call (the guide's Derived/Test/ToyasCard.lean, 'card_holds'). Laid BY PROGRAM, IN A SANDBOX (cutbox-door.mjs). By AI agents, Wed Nov 11 2026. No macro, syntax, notation, axiom, sorry.
-/
import Derived.Test.YtoknkgeojhekoaaDoorRows
import GoSem.ClaimSeven
namespace Go.Proofs.YtoknkgeojhekoaaDoor
namespace Rows

/-- THE TIED CARD OF 'riddlelaw10.LexTokens'. -/
def lexTokensCard : Claim7 := { stood := { row := lexTokensRow, standIns := [], harness := (true, "b320833f8ddead2b318f21ce1d647f52bd88c94deeaa15e5334981abe7ca5031"), looks := false }, kinds := [], alts := [], laidByText := true, laidKinds := [.data, .pinned], laidTests := true, laidLooks := .later }
def LexTokensCardSaid : Prop := Claim7.holds Tryd.pinned (.plain (OpenSpec.ofChange lexTokensSpec)) lexTokensCard

/-- THE TIED CARD OF 'riddlelaw10.LexCovers'. -/
def lexCoversCard : Claim7 := { stood := { row := lexCoversRow, standIns := [], harness := (true, "b320833f8ddead2b318f21ce1d647f52bd88c94deeaa15e5334981abe7ca5031"), looks := false }, kinds := [], alts := [], laidByText := true, laidKinds := [.data, .pinned], laidTests := true, laidLooks := .later }
def LexCoversCardSaid : Prop := Claim7.holds Tryd.pinned (.plain (OpenSpec.ofChange lexCoversSpec)) lexCoversCard

/-- THE TIED CARD OF 'riddlelaw10.LexAlone'. -/
def lexAloneCard : Claim7 := { stood := { row := lexAloneRow, standIns := [], harness := (true, "b320833f8ddead2b318f21ce1d647f52bd88c94deeaa15e5334981abe7ca5031"), looks := false }, kinds := [], alts := [], laidByText := true, laidKinds := [.data, .pinned], laidTests := true, laidLooks := .later }
def LexAloneCardSaid : Prop := Claim7.holds Tryd.pinned (.plain (OpenSpec.ofChange lexAloneSpec)) lexAloneCard

/-- THE TIED CARD OF 'riddlelaw10.LexBlanks'. -/
def lexBlanksCard : Claim7 := { stood := { row := lexBlanksRow, standIns := [], harness := (true, "b320833f8ddead2b318f21ce1d647f52bd88c94deeaa15e5334981abe7ca5031"), looks := false }, kinds := [], alts := [], laidByText := true, laidKinds := [.data, .pinned], laidTests := true, laidLooks := .later }
def LexBlanksCardSaid : Prop := Claim7.holds Tryd.pinned (.plain (OpenSpec.ofChange lexBlanksSpec)) lexBlanksCard

/-- THE TIED CARD OF 'riddlelaw10.LexNumbers'. -/
def lexNumbersCard : Claim7 := { stood := { row := lexNumbersRow, standIns := [], harness := (true, "b320833f8ddead2b318f21ce1d647f52bd88c94deeaa15e5334981abe7ca5031"), looks := false }, kinds := [], alts := [], laidByText := true, laidKinds := [.data, .pinned], laidTests := true, laidLooks := .later }
def LexNumbersCardSaid : Prop := Claim7.holds Tryd.pinned (.plain (OpenSpec.ofChange lexNumbersSpec)) lexNumbersCard

/-- THE TIED CARD OF 'riddlelaw10.LexBytes'. -/
def lexBytesCard : Claim7 := { stood := { row := lexBytesRow, standIns := [], harness := (true, "b320833f8ddead2b318f21ce1d647f52bd88c94deeaa15e5334981abe7ca5031"), looks := false }, kinds := [], alts := [], laidByText := true, laidKinds := [.data, .pinned], laidTests := true, laidLooks := .later }
def LexBytesCardSaid : Prop := Claim7.holds Tryd.pinned (.plain (OpenSpec.ofChange lexBytesSpec)) lexBytesCard

/-- THE TIED CARD OF 'riddlelaw10.LexFirst'. -/
def lexFirstCard : Claim7 := { stood := { row := lexFirstRow, standIns := [], harness := (true, "b320833f8ddead2b318f21ce1d647f52bd88c94deeaa15e5334981abe7ca5031"), looks := false }, kinds := [], alts := [], laidByText := true, laidKinds := [.data, .pinned], laidTests := true, laidLooks := .later }
def LexFirstCardSaid : Prop := Claim7.holds Tryd.pinned (.plain (OpenSpec.ofChange lexFirstSpec)) lexFirstCard

/-- THE SECOND FORM's CARD OF 'riddlelaw10.LexTokens'. -/
def lexTokensUptoCard : Claim7 := { stood := { row := lexTokensUptoRow, standIns := [], harness := (true, "b320833f8ddead2b318f21ce1d647f52bd88c94deeaa15e5334981abe7ca5031"), looks := false }, kinds := [], alts := [], laidByText := true, laidKinds := [.data, .pinned], laidTests := true, laidLooks := .later }
def LexTokensUptoCardSaid : Prop := Claim7.holds Tryd.pinned (.plain (OpenSpec.upto lexTokensSpec)) lexTokensUptoCard

/-- THE SECOND FORM's CARD OF 'riddlelaw10.LexCovers'. -/
def lexCoversUptoCard : Claim7 := { stood := { row := lexCoversUptoRow, standIns := [], harness := (true, "b320833f8ddead2b318f21ce1d647f52bd88c94deeaa15e5334981abe7ca5031"), looks := false }, kinds := [], alts := [], laidByText := true, laidKinds := [.data, .pinned], laidTests := true, laidLooks := .later }
def LexCoversUptoCardSaid : Prop := Claim7.holds Tryd.pinned (.plain (OpenSpec.upto lexCoversSpec)) lexCoversUptoCard

/-- THE SECOND FORM's CARD OF 'riddlelaw10.LexAlone'. -/
def lexAloneUptoCard : Claim7 := { stood := { row := lexAloneUptoRow, standIns := [], harness := (true, "b320833f8ddead2b318f21ce1d647f52bd88c94deeaa15e5334981abe7ca5031"), looks := false }, kinds := [], alts := [], laidByText := true, laidKinds := [.data, .pinned], laidTests := true, laidLooks := .later }
def LexAloneUptoCardSaid : Prop := Claim7.holds Tryd.pinned (.plain (OpenSpec.upto lexAloneSpec)) lexAloneUptoCard

/-- THE SECOND FORM's CARD OF 'riddlelaw10.LexBlanks'. -/
def lexBlanksUptoCard : Claim7 := { stood := { row := lexBlanksUptoRow, standIns := [], harness := (true, "b320833f8ddead2b318f21ce1d647f52bd88c94deeaa15e5334981abe7ca5031"), looks := false }, kinds := [], alts := [], laidByText := true, laidKinds := [.data, .pinned], laidTests := true, laidLooks := .later }
def LexBlanksUptoCardSaid : Prop := Claim7.holds Tryd.pinned (.plain (OpenSpec.upto lexBlanksSpec)) lexBlanksUptoCard

/-- THE SECOND FORM's CARD OF 'riddlelaw10.LexNumbers'. -/
def lexNumbersUptoCard : Claim7 := { stood := { row := lexNumbersUptoRow, standIns := [], harness := (true, "b320833f8ddead2b318f21ce1d647f52bd88c94deeaa15e5334981abe7ca5031"), looks := false }, kinds := [], alts := [], laidByText := true, laidKinds := [.data, .pinned], laidTests := true, laidLooks := .later }
def LexNumbersUptoCardSaid : Prop := Claim7.holds Tryd.pinned (.plain (OpenSpec.upto lexNumbersSpec)) lexNumbersUptoCard

/-- THE SECOND FORM's CARD OF 'riddlelaw10.LexBytes'. -/
def lexBytesUptoCard : Claim7 := { stood := { row := lexBytesUptoRow, standIns := [], harness := (true, "b320833f8ddead2b318f21ce1d647f52bd88c94deeaa15e5334981abe7ca5031"), looks := false }, kinds := [], alts := [], laidByText := true, laidKinds := [.data, .pinned], laidTests := true, laidLooks := .later }
def LexBytesUptoCardSaid : Prop := Claim7.holds Tryd.pinned (.plain (OpenSpec.upto lexBytesSpec)) lexBytesUptoCard

/-- THE SECOND FORM's CARD OF 'riddlelaw10.LexFirst'. -/
def lexFirstUptoCard : Claim7 := { stood := { row := lexFirstUptoRow, standIns := [], harness := (true, "b320833f8ddead2b318f21ce1d647f52bd88c94deeaa15e5334981abe7ca5031"), looks := false }, kinds := [], alts := [], laidByText := true, laidKinds := [.data, .pinned], laidTests := true, laidLooks := .later }
def LexFirstUptoCardSaid : Prop := Claim7.holds Tryd.pinned (.plain (OpenSpec.upto lexFirstSpec)) lexFirstUptoCard
end Rows
end Go.Proofs.YtoknkgeojhekoaaDoor
