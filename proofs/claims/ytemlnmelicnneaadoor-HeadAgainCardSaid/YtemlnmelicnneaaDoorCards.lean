/-
  DERIVED. GIVEN WITH THE SEED: THE CARDS: each row of YtemlnmelicnneaaDoorRows.lean that lists a variable, with what it lists TIED to the program's text (the seventh form; the later family's looks); each row that meets fmt, with fmt's text TOLD by the authors' own Lean function (tested against real Go, not proved from fmt's source: count such statements apart). THE CARD IS WHAT COUNTS. Prove the row's statement (the work); the ties are given (YtemlnmelicnneaaDoorTie.lean); close each card by the builder's one call (the guide's Derived/Test/ToyasCard.lean, 'card_holds'). Laid BY PROGRAM, IN A SANDBOX (cutbox-door.mjs). By AI agents, Wed Nov 11 2026. No macro, syntax, notation, axiom, sorry.
-/
import Derived.Test.YtemlnmelicnneaaDoorRows
import GoSem.ClaimSeven
namespace Go.Proofs.YtemlnmelicnneaaDoor
namespace Rows

/-- THE TIED CARD OF 'quaysidelaw05.HeadAnswers'. -/
def headAnswersCard : Claim7 := { stood := { row := headAnswersRow, standIns := [], harness := (true, "17815bd42dc50459a99319709b2349efe07b043553cdb73db283523d263c38a2"), looks := true }, kinds := [], alts := [], laidByText := true, laidKinds := [.data, .data, .data, .data, .pinned], laidTests := true, laidLooks := .later }
def HeadAnswersCardSaid : Prop := Claim7.holds Tryd.pinned (.plain (OpenSpec.ofChange headAnswersSpec)) headAnswersCard

/-- THE TIED CARD OF 'quaysidelaw05.HeadWrites'. -/
def headWritesCard : Claim7 := { stood := { row := headWritesRow, standIns := [], harness := (true, "17815bd42dc50459a99319709b2349efe07b043553cdb73db283523d263c38a2"), looks := true }, kinds := [], alts := [], laidByText := true, laidKinds := [.data, .data, .data, .data, .pinned], laidTests := true, laidLooks := .later }
def HeadWritesCardSaid : Prop := Claim7.holds Tryd.pinned (.plain (OpenSpec.ofChange headWritesSpec)) headWritesCard

/-- THE TIED CARD OF 'quaysidelaw05.HeadBack'. -/
def headBackCard : Claim7 := { stood := { row := headBackRow, standIns := [], harness := (true, "17815bd42dc50459a99319709b2349efe07b043553cdb73db283523d263c38a2"), looks := true }, kinds := [], alts := [], laidByText := true, laidKinds := [.data, .data, .data, .data, .pinned], laidTests := true, laidLooks := .later }
def HeadBackCardSaid : Prop := Claim7.holds Tryd.pinned (.plain (OpenSpec.ofChange headBackSpec)) headBackCard

/-- THE TIED CARD OF 'quaysidelaw05.HeadPrefixes'. -/
def headPrefixesCard : Claim7 := { stood := { row := headPrefixesRow, standIns := [], harness := (true, "17815bd42dc50459a99319709b2349efe07b043553cdb73db283523d263c38a2"), looks := true }, kinds := [], alts := [], laidByText := true, laidKinds := [.data, .data, .data, .data, .pinned], laidTests := true, laidLooks := .later }
def HeadPrefixesCardSaid : Prop := Claim7.holds Tryd.pinned (.plain (OpenSpec.ofChange headPrefixesSpec)) headPrefixesCard

/-- THE TIED CARD OF 'quaysidelaw05.HeadReturns'. -/
def headReturnsCard : Claim7 := { stood := { row := headReturnsRow, standIns := [], harness := (true, "17815bd42dc50459a99319709b2349efe07b043553cdb73db283523d263c38a2"), looks := true }, kinds := [], alts := [], laidByText := true, laidKinds := [.data, .data, .data, .data, .pinned], laidTests := true, laidLooks := .later }
def HeadReturnsCardSaid : Prop := Claim7.holds Tryd.pinned (.plain (OpenSpec.ofChange headReturnsSpec)) headReturnsCard

/-- THE TIED CARD OF 'quaysidelaw05.HeadAgain'. -/
def headAgainCard : Claim7 := { stood := { row := headAgainRow, standIns := [], harness := (true, "17815bd42dc50459a99319709b2349efe07b043553cdb73db283523d263c38a2"), looks := true }, kinds := [], alts := [], laidByText := true, laidKinds := [.data, .data, .data, .data, .pinned], laidTests := true, laidLooks := .later }
def HeadAgainCardSaid : Prop := Claim7.holds Tryd.pinned (.plain (OpenSpec.ofChange headAgainSpec)) headAgainCard

/-- THE SECOND FORM's CARD OF 'quaysidelaw05.HeadAnswers'. -/
def headAnswersUptoCard : Claim7 := { stood := { row := headAnswersUptoRow, standIns := [], harness := (true, "17815bd42dc50459a99319709b2349efe07b043553cdb73db283523d263c38a2"), looks := true }, kinds := [], alts := [], laidByText := true, laidKinds := [.data, .data, .data, .data, .pinned], laidTests := true, laidLooks := .later }
def HeadAnswersUptoCardSaid : Prop := Claim7.holds Tryd.pinned (.plain (OpenSpec.upto headAnswersSpec)) headAnswersUptoCard

/-- THE SECOND FORM's CARD OF 'quaysidelaw05.HeadWrites'. -/
def headWritesUptoCard : Claim7 := { stood := { row := headWritesUptoRow, standIns := [], harness := (true, "17815bd42dc50459a99319709b2349efe07b043553cdb73db283523d263c38a2"), looks := true }, kinds := [], alts := [], laidByText := true, laidKinds := [.data, .data, .data, .data, .pinned], laidTests := true, laidLooks := .later }
def HeadWritesUptoCardSaid : Prop := Claim7.holds Tryd.pinned (.plain (OpenSpec.upto headWritesSpec)) headWritesUptoCard

/-- THE SECOND FORM's CARD OF 'quaysidelaw05.HeadBack'. -/
def headBackUptoCard : Claim7 := { stood := { row := headBackUptoRow, standIns := [], harness := (true, "17815bd42dc50459a99319709b2349efe07b043553cdb73db283523d263c38a2"), looks := true }, kinds := [], alts := [], laidByText := true, laidKinds := [.data, .data, .data, .data, .pinned], laidTests := true, laidLooks := .later }
def HeadBackUptoCardSaid : Prop := Claim7.holds Tryd.pinned (.plain (OpenSpec.upto headBackSpec)) headBackUptoCard

/-- THE SECOND FORM's CARD OF 'quaysidelaw05.HeadPrefixes'. -/
def headPrefixesUptoCard : Claim7 := { stood := { row := headPrefixesUptoRow, standIns := [], harness := (true, "17815bd42dc50459a99319709b2349efe07b043553cdb73db283523d263c38a2"), looks := true }, kinds := [], alts := [], laidByText := true, laidKinds := [.data, .data, .data, .data, .pinned], laidTests := true, laidLooks := .later }
def HeadPrefixesUptoCardSaid : Prop := Claim7.holds Tryd.pinned (.plain (OpenSpec.upto headPrefixesSpec)) headPrefixesUptoCard

/-- THE SECOND FORM's CARD OF 'quaysidelaw05.HeadReturns'. -/
def headReturnsUptoCard : Claim7 := { stood := { row := headReturnsUptoRow, standIns := [], harness := (true, "17815bd42dc50459a99319709b2349efe07b043553cdb73db283523d263c38a2"), looks := true }, kinds := [], alts := [], laidByText := true, laidKinds := [.data, .data, .data, .data, .pinned], laidTests := true, laidLooks := .later }
def HeadReturnsUptoCardSaid : Prop := Claim7.holds Tryd.pinned (.plain (OpenSpec.upto headReturnsSpec)) headReturnsUptoCard

/-- THE SECOND FORM's CARD OF 'quaysidelaw05.HeadAgain'. -/
def headAgainUptoCard : Claim7 := { stood := { row := headAgainUptoRow, standIns := [], harness := (true, "17815bd42dc50459a99319709b2349efe07b043553cdb73db283523d263c38a2"), looks := true }, kinds := [], alts := [], laidByText := true, laidKinds := [.data, .data, .data, .data, .pinned], laidTests := true, laidLooks := .later }
def HeadAgainUptoCardSaid : Prop := Claim7.holds Tryd.pinned (.plain (OpenSpec.upto headAgainSpec)) headAgainUptoCard
end Rows
end Go.Proofs.YtemlnmelicnneaaDoor
