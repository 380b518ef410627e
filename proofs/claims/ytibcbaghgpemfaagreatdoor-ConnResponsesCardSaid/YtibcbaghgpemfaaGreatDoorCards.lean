/-
  DERIVED. GIVEN WITH THE SEED: THE CARDS: each row of YtibcbaghgpemfaaGreatDoorRows.lean that lists a variable, with what it lists TIED to the program's text (the seventh form; the later family's looks); each row that meets fmt, with fmt's text TOLD by the authors' own Lean function (tested against real Go, not proved from fmt's source: count such statements apart). THE CARD IS WHAT COUNTS. Prove the row's statement (the work); the ties are given (YtibcbaghgpemfaaGreatDoorTie.lean); close each card by the builder's one call (the guide's Derived/Test/ToyasCard.lean, 'card_holds'). Laid BY PROGRAM, IN A SANDBOX (cutbox-door.mjs). By AI agents, Wed Nov 11 2026. No macro, syntax, notation, axiom, sorry.
-/
import Derived.Test.YtibcbaghgpemfaaGreatDoorRows
import GoSem.ClaimSeven
namespace Go.Proofs.YtibcbaghgpemfaaGreatDoor
namespace Rows

/-- THE TIED CARD OF 'quaysidetop.WholeSmuggling'. -/
def wholeSmugglingCard : Claim7 := { stood := { row := wholeSmugglingRow, standIns := [], harness := (true, "8d1e8935e3b38d00629ffb4e5c709b87659a3e41e79f65c64d39e39afe795b34"), looks := true }, kinds := [], alts := [], laidByText := true, laidKinds := [.data, .pinned], laidTests := true, laidLooks := .later }
def WholeSmugglingCardSaid : Prop := Claim7.holds Tryz.pinned (.plain (OpenSpec.ofChange wholeSmugglingSpec)) wholeSmugglingCard

/-- THE TIED CARD OF 'quaysidetop.WholeWire'. -/
def wholeWireCard : Claim7 := { stood := { row := wholeWireRow, standIns := [], harness := (true, "8d1e8935e3b38d00629ffb4e5c709b87659a3e41e79f65c64d39e39afe795b34"), looks := true }, kinds := [], alts := [], laidByText := true, laidKinds := [.data, .data, .data, .data, .pinned], laidTests := true, laidLooks := .later }
def WholeWireCardSaid : Prop := Claim7.holds Tryz.pinned (.plain (OpenSpec.ofChange wholeWireSpec)) wholeWireCard

/-- THE TIED CARD OF 'quaysidelaw05.HeadResponses'. -/
def headResponsesCard : Claim7 := { stood := { row := headResponsesRow, standIns := [], harness := (true, "8d1e8935e3b38d00629ffb4e5c709b87659a3e41e79f65c64d39e39afe795b34"), looks := true }, kinds := [], alts := [], laidByText := true, laidKinds := [.data, .data, .data, .data, .pinned], laidTests := true, laidLooks := .later }
def HeadResponsesCardSaid : Prop := Claim7.holds Tryz.pinned (.plain (OpenSpec.ofChange headResponsesSpec)) headResponsesCard

/-- THE TIED CARD OF 'quaysidelaw05.HeadRequests'. -/
def headRequestsCard : Claim7 := { stood := { row := headRequestsRow, standIns := [], harness := (true, "8d1e8935e3b38d00629ffb4e5c709b87659a3e41e79f65c64d39e39afe795b34"), looks := true }, kinds := [], alts := [], laidByText := true, laidKinds := [.data, .data, .data, .data, .pinned], laidTests := true, laidLooks := .later }
def HeadRequestsCardSaid : Prop := Claim7.holds Tryz.pinned (.plain (OpenSpec.ofChange headRequestsSpec)) headRequestsCard

/-- THE TIED CARD OF 'quaysidelaw08.ConnMany'. -/
def connManyCard : Claim7 := { stood := { row := connManyRow, standIns := [], harness := (true, "8d1e8935e3b38d00629ffb4e5c709b87659a3e41e79f65c64d39e39afe795b34"), looks := true }, kinds := [], alts := [], laidByText := true, laidKinds := [.data, .pinned], laidTests := true, laidLooks := .later }
def ConnManyCardSaid : Prop := Claim7.holds Tryz.pinned (.plain (OpenSpec.ofChange connManySpec)) connManyCard

/-- THE TIED CARD OF 'quaysidelaw08.ConnRequests'. -/
def connRequestsCard : Claim7 := { stood := { row := connRequestsRow, standIns := [], harness := (true, "8d1e8935e3b38d00629ffb4e5c709b87659a3e41e79f65c64d39e39afe795b34"), looks := true }, kinds := [], alts := [], laidByText := true, laidKinds := [.data, .pinned], laidTests := true, laidLooks := .later }
def ConnRequestsCardSaid : Prop := Claim7.holds Tryz.pinned (.plain (OpenSpec.ofChange connRequestsSpec)) connRequestsCard

/-- THE TIED CARD OF 'quaysidelaw08.ConnNone'. -/
def connNoneCard : Claim7 := { stood := { row := connNoneRow, standIns := [], harness := (true, "8d1e8935e3b38d00629ffb4e5c709b87659a3e41e79f65c64d39e39afe795b34"), looks := true }, kinds := [], alts := [], laidByText := true, laidKinds := [.data, .pinned], laidTests := true, laidLooks := .later }
def ConnNoneCardSaid : Prop := Claim7.holds Tryz.pinned (.plain (OpenSpec.ofChange connNoneSpec)) connNoneCard

/-- THE TIED CARD OF 'quaysidelaw08.ConnResponses'. -/
def connResponsesCard : Claim7 := { stood := { row := connResponsesRow, standIns := [], harness := (true, "8d1e8935e3b38d00629ffb4e5c709b87659a3e41e79f65c64d39e39afe795b34"), looks := true }, kinds := [], alts := [], laidByText := true, laidKinds := [.data, .pinned], laidTests := true, laidLooks := .later }
def ConnResponsesCardSaid : Prop := Claim7.holds Tryz.pinned (.plain (OpenSpec.ofChange connResponsesSpec)) connResponsesCard

/-- THE TIED CARD OF 'quaysidelaw08.ConnCuts'. -/
def connCutsCard : Claim7 := { stood := { row := connCutsRow, standIns := [], harness := (true, "8d1e8935e3b38d00629ffb4e5c709b87659a3e41e79f65c64d39e39afe795b34"), looks := true }, kinds := [], alts := [], laidByText := true, laidKinds := [.data, .pinned], laidTests := true, laidLooks := .later }
def ConnCutsCardSaid : Prop := Claim7.holds Tryz.pinned (.plain (OpenSpec.ofChange connCutsSpec)) connCutsCard

/-- THE TIED CARD OF 'quaysidelaw08.ConnCloses'. -/
def connClosesCard : Claim7 := { stood := { row := connClosesRow, standIns := [], harness := (true, "8d1e8935e3b38d00629ffb4e5c709b87659a3e41e79f65c64d39e39afe795b34"), looks := true }, kinds := [], alts := [], laidByText := true, laidKinds := [.data, .pinned], laidTests := true, laidLooks := .later }
def ConnClosesCardSaid : Prop := Claim7.holds Tryz.pinned (.plain (OpenSpec.ofChange connClosesSpec)) connClosesCard

/-- THE TIED CARD OF 'quaysidelaw08.ConnReturns'. -/
def connReturnsCard : Claim7 := { stood := { row := connReturnsRow, standIns := [], harness := (true, "8d1e8935e3b38d00629ffb4e5c709b87659a3e41e79f65c64d39e39afe795b34"), looks := true }, kinds := [], alts := [], laidByText := true, laidKinds := [.data, .data, .data, .data, .pinned], laidTests := true, laidLooks := .later }
def ConnReturnsCardSaid : Prop := Claim7.holds Tryz.pinned (.plain (OpenSpec.ofChange connReturnsSpec)) connReturnsCard

/-- THE SECOND FORM's CARD OF 'quaysidetop.WholeSmuggling'. -/
def wholeSmugglingUptoCard : Claim7 := { stood := { row := wholeSmugglingUptoRow, standIns := [], harness := (true, "8d1e8935e3b38d00629ffb4e5c709b87659a3e41e79f65c64d39e39afe795b34"), looks := true }, kinds := [], alts := [], laidByText := true, laidKinds := [.data, .pinned], laidTests := true, laidLooks := .later }
def WholeSmugglingUptoCardSaid : Prop := Claim7.holds Tryz.pinned (.plain (OpenSpec.upto wholeSmugglingSpec)) wholeSmugglingUptoCard

/-- THE SECOND FORM's CARD OF 'quaysidetop.WholeWire'. -/
def wholeWireUptoCard : Claim7 := { stood := { row := wholeWireUptoRow, standIns := [], harness := (true, "8d1e8935e3b38d00629ffb4e5c709b87659a3e41e79f65c64d39e39afe795b34"), looks := true }, kinds := [], alts := [], laidByText := true, laidKinds := [.data, .data, .data, .data, .pinned], laidTests := true, laidLooks := .later }
def WholeWireUptoCardSaid : Prop := Claim7.holds Tryz.pinned (.plain (OpenSpec.upto wholeWireSpec)) wholeWireUptoCard

/-- THE SECOND FORM's CARD OF 'quaysidelaw05.HeadResponses'. -/
def headResponsesUptoCard : Claim7 := { stood := { row := headResponsesUptoRow, standIns := [], harness := (true, "8d1e8935e3b38d00629ffb4e5c709b87659a3e41e79f65c64d39e39afe795b34"), looks := true }, kinds := [], alts := [], laidByText := true, laidKinds := [.data, .data, .data, .data, .pinned], laidTests := true, laidLooks := .later }
def HeadResponsesUptoCardSaid : Prop := Claim7.holds Tryz.pinned (.plain (OpenSpec.upto headResponsesSpec)) headResponsesUptoCard

/-- THE SECOND FORM's CARD OF 'quaysidelaw05.HeadRequests'. -/
def headRequestsUptoCard : Claim7 := { stood := { row := headRequestsUptoRow, standIns := [], harness := (true, "8d1e8935e3b38d00629ffb4e5c709b87659a3e41e79f65c64d39e39afe795b34"), looks := true }, kinds := [], alts := [], laidByText := true, laidKinds := [.data, .data, .data, .data, .pinned], laidTests := true, laidLooks := .later }
def HeadRequestsUptoCardSaid : Prop := Claim7.holds Tryz.pinned (.plain (OpenSpec.upto headRequestsSpec)) headRequestsUptoCard

/-- THE SECOND FORM's CARD OF 'quaysidelaw08.ConnMany'. -/
def connManyUptoCard : Claim7 := { stood := { row := connManyUptoRow, standIns := [], harness := (true, "8d1e8935e3b38d00629ffb4e5c709b87659a3e41e79f65c64d39e39afe795b34"), looks := true }, kinds := [], alts := [], laidByText := true, laidKinds := [.data, .pinned], laidTests := true, laidLooks := .later }
def ConnManyUptoCardSaid : Prop := Claim7.holds Tryz.pinned (.plain (OpenSpec.upto connManySpec)) connManyUptoCard

/-- THE SECOND FORM's CARD OF 'quaysidelaw08.ConnRequests'. -/
def connRequestsUptoCard : Claim7 := { stood := { row := connRequestsUptoRow, standIns := [], harness := (true, "8d1e8935e3b38d00629ffb4e5c709b87659a3e41e79f65c64d39e39afe795b34"), looks := true }, kinds := [], alts := [], laidByText := true, laidKinds := [.data, .pinned], laidTests := true, laidLooks := .later }
def ConnRequestsUptoCardSaid : Prop := Claim7.holds Tryz.pinned (.plain (OpenSpec.upto connRequestsSpec)) connRequestsUptoCard

/-- THE SECOND FORM's CARD OF 'quaysidelaw08.ConnNone'. -/
def connNoneUptoCard : Claim7 := { stood := { row := connNoneUptoRow, standIns := [], harness := (true, "8d1e8935e3b38d00629ffb4e5c709b87659a3e41e79f65c64d39e39afe795b34"), looks := true }, kinds := [], alts := [], laidByText := true, laidKinds := [.data, .pinned], laidTests := true, laidLooks := .later }
def ConnNoneUptoCardSaid : Prop := Claim7.holds Tryz.pinned (.plain (OpenSpec.upto connNoneSpec)) connNoneUptoCard

/-- THE SECOND FORM's CARD OF 'quaysidelaw08.ConnResponses'. -/
def connResponsesUptoCard : Claim7 := { stood := { row := connResponsesUptoRow, standIns := [], harness := (true, "8d1e8935e3b38d00629ffb4e5c709b87659a3e41e79f65c64d39e39afe795b34"), looks := true }, kinds := [], alts := [], laidByText := true, laidKinds := [.data, .pinned], laidTests := true, laidLooks := .later }
def ConnResponsesUptoCardSaid : Prop := Claim7.holds Tryz.pinned (.plain (OpenSpec.upto connResponsesSpec)) connResponsesUptoCard

/-- THE SECOND FORM's CARD OF 'quaysidelaw08.ConnCuts'. -/
def connCutsUptoCard : Claim7 := { stood := { row := connCutsUptoRow, standIns := [], harness := (true, "8d1e8935e3b38d00629ffb4e5c709b87659a3e41e79f65c64d39e39afe795b34"), looks := true }, kinds := [], alts := [], laidByText := true, laidKinds := [.data, .pinned], laidTests := true, laidLooks := .later }
def ConnCutsUptoCardSaid : Prop := Claim7.holds Tryz.pinned (.plain (OpenSpec.upto connCutsSpec)) connCutsUptoCard

/-- THE SECOND FORM's CARD OF 'quaysidelaw08.ConnCloses'. -/
def connClosesUptoCard : Claim7 := { stood := { row := connClosesUptoRow, standIns := [], harness := (true, "8d1e8935e3b38d00629ffb4e5c709b87659a3e41e79f65c64d39e39afe795b34"), looks := true }, kinds := [], alts := [], laidByText := true, laidKinds := [.data, .pinned], laidTests := true, laidLooks := .later }
def ConnClosesUptoCardSaid : Prop := Claim7.holds Tryz.pinned (.plain (OpenSpec.upto connClosesSpec)) connClosesUptoCard

/-- THE SECOND FORM's CARD OF 'quaysidelaw08.ConnReturns'. -/
def connReturnsUptoCard : Claim7 := { stood := { row := connReturnsUptoRow, standIns := [], harness := (true, "8d1e8935e3b38d00629ffb4e5c709b87659a3e41e79f65c64d39e39afe795b34"), looks := true }, kinds := [], alts := [], laidByText := true, laidKinds := [.data, .data, .data, .data, .pinned], laidTests := true, laidLooks := .later }
def ConnReturnsUptoCardSaid : Prop := Claim7.holds Tryz.pinned (.plain (OpenSpec.upto connReturnsSpec)) connReturnsUptoCard
end Rows
end Go.Proofs.YtibcbaghgpemfaaGreatDoor
