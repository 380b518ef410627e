/-
  DERIVED. GIVEN WITH THE SEED: THE CARDS: each row of YtjffffpfejmoiaaGreatDoorRows.lean that lists a variable, with what it lists TIED to the program's text (the seventh form; the later family's looks); each row that meets fmt, with fmt's text TOLD by the authors' own Lean function (tested against real Go, not proved from fmt's source: count such statements apart). THE CARD IS WHAT COUNTS. Prove the row's statement (the work); the ties are given (YtjffffpfejmoiaaGreatDoorTie.lean); close each card by the builder's one call (the guide's Derived/Test/ToyasCard.lean, 'card_holds'). Laid BY PROGRAM, IN A SANDBOX (cutbox-door.mjs). By AI agents, Wed Nov 11 2026. No macro, syntax, notation, axiom, sorry.
-/
import Derived.Test.YtjffffpfejmoiaaGreatDoorRows
import GoSem.ClaimSeven
namespace Go.Proofs.YtjffffpfejmoiaaGreatDoor
namespace Rows

/-- THE TIED CARD OF 'quaysidetop.WholeSmuggling'. -/
def wholeSmugglingCard : Claim7 := { stood := { row := wholeSmugglingRow, standIns := [], harness := (true, "05dacc83e84263187780a118d40b2f0bcee070c6d027918a931d58d557b690f2"), looks := true }, kinds := [], alts := [], laidByText := true, laidKinds := [.data, .pinned], laidTests := true, laidLooks := .later }
def WholeSmugglingCardSaid : Prop := Claim7.holds Tryz.pinned (.plain (OpenSpec.ofChange wholeSmugglingSpec)) wholeSmugglingCard

/-- THE TIED CARD OF 'quaysidetop.WholeWire'. -/
def wholeWireCard : Claim7 := { stood := { row := wholeWireRow, standIns := [], harness := (true, "05dacc83e84263187780a118d40b2f0bcee070c6d027918a931d58d557b690f2"), looks := true }, kinds := [], alts := [], laidByText := true, laidKinds := [.data, .data, .data, .data, .pinned], laidTests := true, laidLooks := .later }
def WholeWireCardSaid : Prop := Claim7.holds Tryz.pinned (.plain (OpenSpec.ofChange wholeWireSpec)) wholeWireCard

/-- THE TIED CARD OF 'quaysidelaw08.ConnReturns'. -/
def connReturnsCard : Claim7 := { stood := { row := connReturnsRow, standIns := [], harness := (true, "05dacc83e84263187780a118d40b2f0bcee070c6d027918a931d58d557b690f2"), looks := true }, kinds := [], alts := [], laidByText := true, laidKinds := [.data, .data, .data, .data, .pinned], laidTests := true, laidLooks := .later }
def ConnReturnsCardSaid : Prop := Claim7.holds Tryz.pinned (.plain (OpenSpec.ofChange connReturnsSpec)) connReturnsCard

/-- THE SECOND FORM's CARD OF 'quaysidetop.WholeSmuggling'. -/
def wholeSmugglingUptoCard : Claim7 := { stood := { row := wholeSmugglingUptoRow, standIns := [], harness := (true, "05dacc83e84263187780a118d40b2f0bcee070c6d027918a931d58d557b690f2"), looks := true }, kinds := [], alts := [], laidByText := true, laidKinds := [.data, .pinned], laidTests := true, laidLooks := .later }
def WholeSmugglingUptoCardSaid : Prop := Claim7.holds Tryz.pinned (.plain (OpenSpec.upto wholeSmugglingSpec)) wholeSmugglingUptoCard

/-- THE SECOND FORM's CARD OF 'quaysidetop.WholeWire'. -/
def wholeWireUptoCard : Claim7 := { stood := { row := wholeWireUptoRow, standIns := [], harness := (true, "05dacc83e84263187780a118d40b2f0bcee070c6d027918a931d58d557b690f2"), looks := true }, kinds := [], alts := [], laidByText := true, laidKinds := [.data, .data, .data, .data, .pinned], laidTests := true, laidLooks := .later }
def WholeWireUptoCardSaid : Prop := Claim7.holds Tryz.pinned (.plain (OpenSpec.upto wholeWireSpec)) wholeWireUptoCard

/-- THE SECOND FORM's CARD OF 'quaysidelaw08.ConnReturns'. -/
def connReturnsUptoCard : Claim7 := { stood := { row := connReturnsUptoRow, standIns := [], harness := (true, "05dacc83e84263187780a118d40b2f0bcee070c6d027918a931d58d557b690f2"), looks := true }, kinds := [], alts := [], laidByText := true, laidKinds := [.data, .data, .data, .data, .pinned], laidTests := true, laidLooks := .later }
def ConnReturnsUptoCardSaid : Prop := Claim7.holds Tryz.pinned (.plain (OpenSpec.upto connReturnsSpec)) connReturnsUptoCard
end Rows
end Go.Proofs.YtjffffpfejmoiaaGreatDoor
