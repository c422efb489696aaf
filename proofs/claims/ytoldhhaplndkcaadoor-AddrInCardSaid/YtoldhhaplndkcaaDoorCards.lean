/-
  DERIVED. GIVEN WITH THE SEED: THE CARDS: each row of YtoldhhaplndkcaaDoorRows.lean that lists a variable, with what it lists TIED to the program's text (the seventh form; the later family's looks); each row that meets fmt, with fmt's text TOLD by the authors' own Lean function (tested against real Go, not proved from fmt's source: count such statements apart). THE CARD IS WHAT COUNTS. Prove the row's statement (the work); the ties are given (YtoldhhaplndkcaaDoorTie.lean); close each card by the builder's one call (the guide's Derived/Test/ToyasCard.lean, 'card_holds'). Laid BY PROGRAM, IN A SANDBOX (cutbox-door.mjs). By AI agents, Wed Nov 11 2026. No macro, syntax, notation, axiom, sorry.
-/
import Derived.Test.YtoldhhaplndkcaaDoorRows
import GoSem.ClaimSeven
namespace Go.Proofs.YtoldhhaplndkcaaDoor
namespace Rows

/-- THE TIED CARD OF 'riddlelaw6.AddrFours'. -/
def addrFoursCard : Claim7 := { stood := { row := addrFoursRow, standIns := [], harness := (true, "46e598395e3ded9eaed5c04cc57b6ab29a66c77d3feacfb39f25a86e11d1a11c"), looks := true }, kinds := [], alts := [], laidByText := true, laidKinds := [.data, .data, .data, .data, .sentinel, .sentinel, .pinned], laidTests := true, laidLooks := .later }
def AddrFoursCardSaid : Prop := Claim7.holds Tryd.pinned (.plain (OpenSpec.ofChange addrFoursSpec)) addrFoursCard

/-- THE TIED CARD OF 'riddlelaw6.AddrSixes'. -/
def addrSixesCard : Claim7 := { stood := { row := addrSixesRow, standIns := [], harness := (true, "46e598395e3ded9eaed5c04cc57b6ab29a66c77d3feacfb39f25a86e11d1a11c"), looks := true }, kinds := [], alts := [], laidByText := true, laidKinds := [.data, .data, .data, .data, .sentinel, .sentinel, .pinned], laidTests := true, laidLooks := .later }
def AddrSixesCardSaid : Prop := Claim7.holds Tryd.pinned (.plain (OpenSpec.ofChange addrSixesSpec)) addrSixesCard

/-- THE TIED CARD OF 'riddlelaw6.AddrNets'. -/
def addrNetsCard : Claim7 := { stood := { row := addrNetsRow, standIns := [], harness := (true, "46e598395e3ded9eaed5c04cc57b6ab29a66c77d3feacfb39f25a86e11d1a11c"), looks := true }, kinds := [], alts := [], laidByText := true, laidKinds := [.data, .data, .data, .data, .sentinel, .sentinel, .pinned], laidTests := true, laidLooks := .later }
def AddrNetsCardSaid : Prop := Claim7.holds Tryd.pinned (.plain (OpenSpec.ofChange addrNetsSpec)) addrNetsCard

/-- THE TIED CARD OF 'riddlelaw6.AddrBack'. -/
def addrBackCard : Claim7 := { stood := { row := addrBackRow, standIns := [], harness := (true, "46e598395e3ded9eaed5c04cc57b6ab29a66c77d3feacfb39f25a86e11d1a11c"), looks := true }, kinds := [], alts := [], laidByText := true, laidKinds := [.data, .data, .data, .data, .sentinel, .sentinel, .pinned], laidTests := true, laidLooks := .later }
def AddrBackCardSaid : Prop := Claim7.holds Tryd.pinned (.plain (OpenSpec.ofChange addrBackSpec)) addrBackCard

/-- THE TIED CARD OF 'riddlelaw6.AddrShort'. -/
def addrShortCard : Claim7 := { stood := { row := addrShortRow, standIns := [], harness := (true, "46e598395e3ded9eaed5c04cc57b6ab29a66c77d3feacfb39f25a86e11d1a11c"), looks := true }, kinds := [], alts := [], laidByText := true, laidKinds := [.data, .data, .data, .data, .sentinel, .sentinel, .pinned], laidTests := true, laidLooks := .later }
def AddrShortCardSaid : Prop := Claim7.holds Tryd.pinned (.plain (OpenSpec.ofChange addrShortSpec)) addrShortCard

/-- THE TIED CARD OF 'riddlelaw6.AddrIn'. -/
def addrInCard : Claim7 := { stood := { row := addrInRow, standIns := [], harness := (true, "46e598395e3ded9eaed5c04cc57b6ab29a66c77d3feacfb39f25a86e11d1a11c"), looks := true }, kinds := [], alts := [], laidByText := true, laidKinds := [.data, .data, .data, .data, .sentinel, .sentinel, .pinned], laidTests := true, laidLooks := .later }
def AddrInCardSaid : Prop := Claim7.holds Tryd.pinned (.plain (OpenSpec.ofChange addrInSpec)) addrInCard

/-- THE SECOND FORM's CARD OF 'riddlelaw6.AddrFours'. -/
def addrFoursUptoCard : Claim7 := { stood := { row := addrFoursUptoRow, standIns := [], harness := (true, "46e598395e3ded9eaed5c04cc57b6ab29a66c77d3feacfb39f25a86e11d1a11c"), looks := true }, kinds := [], alts := [], laidByText := true, laidKinds := [.data, .data, .data, .data, .sentinel, .sentinel, .pinned], laidTests := true, laidLooks := .later }
def AddrFoursUptoCardSaid : Prop := Claim7.holds Tryd.pinned (.plain (OpenSpec.upto addrFoursSpec)) addrFoursUptoCard

/-- THE SECOND FORM's CARD OF 'riddlelaw6.AddrSixes'. -/
def addrSixesUptoCard : Claim7 := { stood := { row := addrSixesUptoRow, standIns := [], harness := (true, "46e598395e3ded9eaed5c04cc57b6ab29a66c77d3feacfb39f25a86e11d1a11c"), looks := true }, kinds := [], alts := [], laidByText := true, laidKinds := [.data, .data, .data, .data, .sentinel, .sentinel, .pinned], laidTests := true, laidLooks := .later }
def AddrSixesUptoCardSaid : Prop := Claim7.holds Tryd.pinned (.plain (OpenSpec.upto addrSixesSpec)) addrSixesUptoCard

/-- THE SECOND FORM's CARD OF 'riddlelaw6.AddrNets'. -/
def addrNetsUptoCard : Claim7 := { stood := { row := addrNetsUptoRow, standIns := [], harness := (true, "46e598395e3ded9eaed5c04cc57b6ab29a66c77d3feacfb39f25a86e11d1a11c"), looks := true }, kinds := [], alts := [], laidByText := true, laidKinds := [.data, .data, .data, .data, .sentinel, .sentinel, .pinned], laidTests := true, laidLooks := .later }
def AddrNetsUptoCardSaid : Prop := Claim7.holds Tryd.pinned (.plain (OpenSpec.upto addrNetsSpec)) addrNetsUptoCard

/-- THE SECOND FORM's CARD OF 'riddlelaw6.AddrBack'. -/
def addrBackUptoCard : Claim7 := { stood := { row := addrBackUptoRow, standIns := [], harness := (true, "46e598395e3ded9eaed5c04cc57b6ab29a66c77d3feacfb39f25a86e11d1a11c"), looks := true }, kinds := [], alts := [], laidByText := true, laidKinds := [.data, .data, .data, .data, .sentinel, .sentinel, .pinned], laidTests := true, laidLooks := .later }
def AddrBackUptoCardSaid : Prop := Claim7.holds Tryd.pinned (.plain (OpenSpec.upto addrBackSpec)) addrBackUptoCard

/-- THE SECOND FORM's CARD OF 'riddlelaw6.AddrShort'. -/
def addrShortUptoCard : Claim7 := { stood := { row := addrShortUptoRow, standIns := [], harness := (true, "46e598395e3ded9eaed5c04cc57b6ab29a66c77d3feacfb39f25a86e11d1a11c"), looks := true }, kinds := [], alts := [], laidByText := true, laidKinds := [.data, .data, .data, .data, .sentinel, .sentinel, .pinned], laidTests := true, laidLooks := .later }
def AddrShortUptoCardSaid : Prop := Claim7.holds Tryd.pinned (.plain (OpenSpec.upto addrShortSpec)) addrShortUptoCard

/-- THE SECOND FORM's CARD OF 'riddlelaw6.AddrIn'. -/
def addrInUptoCard : Claim7 := { stood := { row := addrInUptoRow, standIns := [], harness := (true, "46e598395e3ded9eaed5c04cc57b6ab29a66c77d3feacfb39f25a86e11d1a11c"), looks := true }, kinds := [], alts := [], laidByText := true, laidKinds := [.data, .data, .data, .data, .sentinel, .sentinel, .pinned], laidTests := true, laidLooks := .later }
def AddrInUptoCardSaid : Prop := Claim7.holds Tryd.pinned (.plain (OpenSpec.upto addrInSpec)) addrInUptoCard
end Rows
end Go.Proofs.YtoldhhaplndkcaaDoor
