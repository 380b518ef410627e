/-
  DERIVED. GIVEN WITH THE SEED: THE CARDS: each row of YtodgkppjabhhlaaDoorRows.lean that lists a variable, with what it lists TIED to the program's text (the seventh form; the later family's looks); each row that meets fmt, with fmt's text TOLD by the authors' own Lean function (tested against real Go, not proved from fmt's source: count such statements apart). THE CARD IS WHAT COUNTS. Prove the row's statement (the work); the ties are given (YtodgkppjabhhlaaDoorTie.lean); close each card by the builder's one call (the guide's Derived/Test/ToyasCard.lean, 'card_holds'). Laid BY PROGRAM, IN A SANDBOX (cutbox-door.mjs). By AI agents, Wed Nov 11 2026. No macro, syntax, notation, axiom, sorry.
-/
import Derived.Test.YtodgkppjabhhlaaDoorRows
import GoSem.ClaimSeven
namespace Go.Proofs.YtodgkppjabhhlaaDoor
namespace Rows

/-- THE TIED CARD OF 'quaysidelaw06.FramingRequests'. -/
def framingRequestsCard : Claim7 := { stood := { row := framingRequestsRow, standIns := [], harness := (true, "75d0188a15d4b260dce1c298ea3899a6bd18a6b7d994a4b6493152cd9088c740"), looks := true }, kinds := [], alts := [], laidByText := true, laidKinds := [.data, .pinned], laidTests := true, laidLooks := .later }
def FramingRequestsCardSaid : Prop := Claim7.holds Tryd.pinned (.plain (OpenSpec.ofChange framingRequestsSpec)) framingRequestsCard

/-- THE TIED CARD OF 'quaysidelaw06.FramingRepeats'. -/
def framingRepeatsCard : Claim7 := { stood := { row := framingRepeatsRow, standIns := [], harness := (true, "75d0188a15d4b260dce1c298ea3899a6bd18a6b7d994a4b6493152cd9088c740"), looks := true }, kinds := [], alts := [], laidByText := true, laidKinds := [.data, .pinned], laidTests := true, laidLooks := .later }
def FramingRepeatsCardSaid : Prop := Claim7.holds Tryd.pinned (.plain (OpenSpec.ofChange framingRepeatsSpec)) framingRepeatsCard

/-- THE TIED CARD OF 'quaysidelaw06.FramingResponses'. -/
def framingResponsesCard : Claim7 := { stood := { row := framingResponsesRow, standIns := [], harness := (true, "75d0188a15d4b260dce1c298ea3899a6bd18a6b7d994a4b6493152cd9088c740"), looks := true }, kinds := [], alts := [], laidByText := true, laidKinds := [.data, .pinned], laidTests := true, laidLooks := .later }
def FramingResponsesCardSaid : Prop := Claim7.holds Tryd.pinned (.plain (OpenSpec.ofChange framingResponsesSpec)) framingResponsesCard

/-- THE TIED CARD OF 'quaysidelaw06.FramingBodiless'. -/
def framingBodilessCard : Claim7 := { stood := { row := framingBodilessRow, standIns := [], harness := (true, "75d0188a15d4b260dce1c298ea3899a6bd18a6b7d994a4b6493152cd9088c740"), looks := true }, kinds := [], alts := [], laidByText := true, laidKinds := [.data, .pinned], laidTests := true, laidLooks := .later }
def FramingBodilessCardSaid : Prop := Claim7.holds Tryd.pinned (.plain (OpenSpec.ofChange framingBodilessSpec)) framingBodilessCard

/-- THE TIED CARD OF 'quaysidelaw06.FramingNames'. -/
def framingNamesCard : Claim7 := { stood := { row := framingNamesRow, standIns := [], harness := (true, "75d0188a15d4b260dce1c298ea3899a6bd18a6b7d994a4b6493152cd9088c740"), looks := true }, kinds := [], alts := [], laidByText := true, laidKinds := [.data, .pinned], laidTests := true, laidLooks := .later }
def FramingNamesCardSaid : Prop := Claim7.holds Tryd.pinned (.plain (OpenSpec.ofChange framingNamesSpec)) framingNamesCard

/-- THE TIED CARD OF 'quaysidelaw06.FramingLenient'. -/
def framingLenientCard : Claim7 := { stood := { row := framingLenientRow, standIns := [], harness := (true, "75d0188a15d4b260dce1c298ea3899a6bd18a6b7d994a4b6493152cd9088c740"), looks := true }, kinds := [], alts := [], laidByText := true, laidKinds := [.data, .pinned], laidTests := true, laidLooks := .later }
def FramingLenientCardSaid : Prop := Claim7.holds Tryd.pinned (.plain (OpenSpec.ofChange framingLenientSpec)) framingLenientCard

/-- THE TIED CARD OF 'quaysidelaw06.FramingAgrees'. -/
def framingAgreesCard : Claim7 := { stood := { row := framingAgreesRow, standIns := [], harness := (true, "75d0188a15d4b260dce1c298ea3899a6bd18a6b7d994a4b6493152cd9088c740"), looks := true }, kinds := [], alts := [], laidByText := true, laidKinds := [.data, .pinned], laidTests := true, laidLooks := .later }
def FramingAgreesCardSaid : Prop := Claim7.holds Tryd.pinned (.plain (OpenSpec.ofChange framingAgreesSpec)) framingAgreesCard

/-- THE TIED CARD OF 'quaysidelaw06.FramingSmuggles'. -/
def framingSmugglesCard : Claim7 := { stood := { row := framingSmugglesRow, standIns := [], harness := (true, "75d0188a15d4b260dce1c298ea3899a6bd18a6b7d994a4b6493152cd9088c740"), looks := true }, kinds := [], alts := [], laidByText := true, laidKinds := [.data, .pinned], laidTests := true, laidLooks := .later }
def FramingSmugglesCardSaid : Prop := Claim7.holds Tryd.pinned (.plain (OpenSpec.ofChange framingSmugglesSpec)) framingSmugglesCard

/-- THE SECOND FORM's CARD OF 'quaysidelaw06.FramingRequests'. -/
def framingRequestsUptoCard : Claim7 := { stood := { row := framingRequestsUptoRow, standIns := [], harness := (true, "75d0188a15d4b260dce1c298ea3899a6bd18a6b7d994a4b6493152cd9088c740"), looks := true }, kinds := [], alts := [], laidByText := true, laidKinds := [.data, .pinned], laidTests := true, laidLooks := .later }
def FramingRequestsUptoCardSaid : Prop := Claim7.holds Tryd.pinned (.plain (OpenSpec.upto framingRequestsSpec)) framingRequestsUptoCard

/-- THE SECOND FORM's CARD OF 'quaysidelaw06.FramingRepeats'. -/
def framingRepeatsUptoCard : Claim7 := { stood := { row := framingRepeatsUptoRow, standIns := [], harness := (true, "75d0188a15d4b260dce1c298ea3899a6bd18a6b7d994a4b6493152cd9088c740"), looks := true }, kinds := [], alts := [], laidByText := true, laidKinds := [.data, .pinned], laidTests := true, laidLooks := .later }
def FramingRepeatsUptoCardSaid : Prop := Claim7.holds Tryd.pinned (.plain (OpenSpec.upto framingRepeatsSpec)) framingRepeatsUptoCard

/-- THE SECOND FORM's CARD OF 'quaysidelaw06.FramingResponses'. -/
def framingResponsesUptoCard : Claim7 := { stood := { row := framingResponsesUptoRow, standIns := [], harness := (true, "75d0188a15d4b260dce1c298ea3899a6bd18a6b7d994a4b6493152cd9088c740"), looks := true }, kinds := [], alts := [], laidByText := true, laidKinds := [.data, .pinned], laidTests := true, laidLooks := .later }
def FramingResponsesUptoCardSaid : Prop := Claim7.holds Tryd.pinned (.plain (OpenSpec.upto framingResponsesSpec)) framingResponsesUptoCard

/-- THE SECOND FORM's CARD OF 'quaysidelaw06.FramingBodiless'. -/
def framingBodilessUptoCard : Claim7 := { stood := { row := framingBodilessUptoRow, standIns := [], harness := (true, "75d0188a15d4b260dce1c298ea3899a6bd18a6b7d994a4b6493152cd9088c740"), looks := true }, kinds := [], alts := [], laidByText := true, laidKinds := [.data, .pinned], laidTests := true, laidLooks := .later }
def FramingBodilessUptoCardSaid : Prop := Claim7.holds Tryd.pinned (.plain (OpenSpec.upto framingBodilessSpec)) framingBodilessUptoCard

/-- THE SECOND FORM's CARD OF 'quaysidelaw06.FramingNames'. -/
def framingNamesUptoCard : Claim7 := { stood := { row := framingNamesUptoRow, standIns := [], harness := (true, "75d0188a15d4b260dce1c298ea3899a6bd18a6b7d994a4b6493152cd9088c740"), looks := true }, kinds := [], alts := [], laidByText := true, laidKinds := [.data, .pinned], laidTests := true, laidLooks := .later }
def FramingNamesUptoCardSaid : Prop := Claim7.holds Tryd.pinned (.plain (OpenSpec.upto framingNamesSpec)) framingNamesUptoCard

/-- THE SECOND FORM's CARD OF 'quaysidelaw06.FramingLenient'. -/
def framingLenientUptoCard : Claim7 := { stood := { row := framingLenientUptoRow, standIns := [], harness := (true, "75d0188a15d4b260dce1c298ea3899a6bd18a6b7d994a4b6493152cd9088c740"), looks := true }, kinds := [], alts := [], laidByText := true, laidKinds := [.data, .pinned], laidTests := true, laidLooks := .later }
def FramingLenientUptoCardSaid : Prop := Claim7.holds Tryd.pinned (.plain (OpenSpec.upto framingLenientSpec)) framingLenientUptoCard

/-- THE SECOND FORM's CARD OF 'quaysidelaw06.FramingAgrees'. -/
def framingAgreesUptoCard : Claim7 := { stood := { row := framingAgreesUptoRow, standIns := [], harness := (true, "75d0188a15d4b260dce1c298ea3899a6bd18a6b7d994a4b6493152cd9088c740"), looks := true }, kinds := [], alts := [], laidByText := true, laidKinds := [.data, .pinned], laidTests := true, laidLooks := .later }
def FramingAgreesUptoCardSaid : Prop := Claim7.holds Tryd.pinned (.plain (OpenSpec.upto framingAgreesSpec)) framingAgreesUptoCard

/-- THE SECOND FORM's CARD OF 'quaysidelaw06.FramingSmuggles'. -/
def framingSmugglesUptoCard : Claim7 := { stood := { row := framingSmugglesUptoRow, standIns := [], harness := (true, "75d0188a15d4b260dce1c298ea3899a6bd18a6b7d994a4b6493152cd9088c740"), looks := true }, kinds := [], alts := [], laidByText := true, laidKinds := [.data, .pinned], laidTests := true, laidLooks := .later }
def FramingSmugglesUptoCardSaid : Prop := Claim7.holds Tryd.pinned (.plain (OpenSpec.upto framingSmugglesSpec)) framingSmugglesUptoCard
end Rows
end Go.Proofs.YtodgkppjabhhlaaDoor
