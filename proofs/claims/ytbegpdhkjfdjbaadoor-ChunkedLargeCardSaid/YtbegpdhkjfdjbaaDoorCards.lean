/-
  DERIVED. GIVEN WITH THE SEED: THE CARDS: each row of YtbegpdhkjfdjbaaDoorRows.lean that lists a variable, with what it lists TIED to the program's text (the seventh form; the later family's looks); each row that meets fmt, with fmt's text TOLD by the authors' own Lean function (tested against real Go, not proved from fmt's source: count such statements apart). THE CARD IS WHAT COUNTS. Prove the row's statement (the work); the ties are given (YtbegpdhkjfdjbaaDoorTie.lean); close each card by the builder's one call (the guide's Derived/Test/ToyasCard.lean, 'card_holds'). Laid BY PROGRAM, IN A SANDBOX (cutbox-door.mjs). By AI agents, Wed Nov 11 2026. No macro, syntax, notation, axiom, sorry.
-/
import Derived.Test.YtbegpdhkjfdjbaaDoorRows
import GoSem.ClaimSeven
namespace Go.Proofs.YtbegpdhkjfdjbaaDoor
namespace Rows

/-- THE TIED CARD OF 'quaysidelaw07.ChunkedDecodes'. -/
def chunkedDecodesCard : Claim7 := { stood := { row := chunkedDecodesRow, standIns := [], harness := (true, "0aa93f38cae6bb10ffe13bfa528d7ef27f1959e981101d1ec26cf541fe361722"), looks := true }, kinds := [], alts := [], laidByText := true, laidKinds := [.data, .pinned], laidTests := true, laidLooks := .later }
def ChunkedDecodesCardSaid : Prop := Claim7.holds Tryd.pinned (.plain (OpenSpec.ofChange chunkedDecodesSpec)) chunkedDecodesCard

/-- THE TIED CARD OF 'quaysidelaw07.ChunkedCuts'. -/
def chunkedCutsCard : Claim7 := { stood := { row := chunkedCutsRow, standIns := [], harness := (true, "0aa93f38cae6bb10ffe13bfa528d7ef27f1959e981101d1ec26cf541fe361722"), looks := true }, kinds := [], alts := [], laidByText := true, laidKinds := [.data, .pinned], laidTests := true, laidLooks := .later }
def ChunkedCutsCardSaid : Prop := Claim7.holds Tryd.pinned (.plain (OpenSpec.ofChange chunkedCutsSpec)) chunkedCutsCard

/-- THE TIED CARD OF 'quaysidelaw07.ChunkedNone'. -/
def chunkedNoneCard : Claim7 := { stood := { row := chunkedNoneRow, standIns := [], harness := (true, "0aa93f38cae6bb10ffe13bfa528d7ef27f1959e981101d1ec26cf541fe361722"), looks := true }, kinds := [], alts := [], laidByText := true, laidKinds := [.data, .pinned], laidTests := true, laidLooks := .later }
def ChunkedNoneCardSaid : Prop := Claim7.holds Tryd.pinned (.plain (OpenSpec.ofChange chunkedNoneSpec)) chunkedNoneCard

/-- THE TIED CARD OF 'quaysidelaw07.ChunkedSpoilt'. -/
def chunkedSpoiltCard : Claim7 := { stood := { row := chunkedSpoiltRow, standIns := [], harness := (true, "0aa93f38cae6bb10ffe13bfa528d7ef27f1959e981101d1ec26cf541fe361722"), looks := true }, kinds := [], alts := [], laidByText := true, laidKinds := [.data, .data, .data, .data, .pinned], laidTests := true, laidLooks := .later }
def ChunkedSpoiltCardSaid : Prop := Claim7.holds Tryd.pinned (.plain (OpenSpec.ofChange chunkedSpoiltSpec)) chunkedSpoiltCard

/-- THE TIED CARD OF 'quaysidelaw07.ChunkedEncodes'. -/
def chunkedEncodesCard : Claim7 := { stood := { row := chunkedEncodesRow, standIns := [], harness := (true, "0aa93f38cae6bb10ffe13bfa528d7ef27f1959e981101d1ec26cf541fe361722"), looks := true }, kinds := [], alts := [], laidByText := true, laidKinds := [.data, .data, .data, .data, .pinned], laidTests := true, laidLooks := .later }
def ChunkedEncodesCardSaid : Prop := Claim7.holds Tryd.pinned (.plain (OpenSpec.ofChange chunkedEncodesSpec)) chunkedEncodesCard

/-- THE TIED CARD OF 'quaysidelaw07.ChunkedLarge'. -/
def chunkedLargeCard : Claim7 := { stood := { row := chunkedLargeRow, standIns := [], harness := (true, "0aa93f38cae6bb10ffe13bfa528d7ef27f1959e981101d1ec26cf541fe361722"), looks := true }, kinds := [], alts := [], laidByText := true, laidKinds := [.data, .data, .data, .data, .pinned], laidTests := true, laidLooks := .later }
def ChunkedLargeCardSaid : Prop := Claim7.holds Tryd.pinned (.plain (OpenSpec.ofChange chunkedLargeSpec)) chunkedLargeCard

/-- THE TIED CARD OF 'quaysidelaw07.ChunkedReturns'. -/
def chunkedReturnsCard : Claim7 := { stood := { row := chunkedReturnsRow, standIns := [], harness := (true, "0aa93f38cae6bb10ffe13bfa528d7ef27f1959e981101d1ec26cf541fe361722"), looks := true }, kinds := [], alts := [], laidByText := true, laidKinds := [.data, .data, .data, .data, .pinned], laidTests := true, laidLooks := .later }
def ChunkedReturnsCardSaid : Prop := Claim7.holds Tryd.pinned (.plain (OpenSpec.ofChange chunkedReturnsSpec)) chunkedReturnsCard

/-- THE SECOND FORM's CARD OF 'quaysidelaw07.ChunkedDecodes'. -/
def chunkedDecodesUptoCard : Claim7 := { stood := { row := chunkedDecodesUptoRow, standIns := [], harness := (true, "0aa93f38cae6bb10ffe13bfa528d7ef27f1959e981101d1ec26cf541fe361722"), looks := true }, kinds := [], alts := [], laidByText := true, laidKinds := [.data, .pinned], laidTests := true, laidLooks := .later }
def ChunkedDecodesUptoCardSaid : Prop := Claim7.holds Tryd.pinned (.plain (OpenSpec.upto chunkedDecodesSpec)) chunkedDecodesUptoCard

/-- THE SECOND FORM's CARD OF 'quaysidelaw07.ChunkedCuts'. -/
def chunkedCutsUptoCard : Claim7 := { stood := { row := chunkedCutsUptoRow, standIns := [], harness := (true, "0aa93f38cae6bb10ffe13bfa528d7ef27f1959e981101d1ec26cf541fe361722"), looks := true }, kinds := [], alts := [], laidByText := true, laidKinds := [.data, .pinned], laidTests := true, laidLooks := .later }
def ChunkedCutsUptoCardSaid : Prop := Claim7.holds Tryd.pinned (.plain (OpenSpec.upto chunkedCutsSpec)) chunkedCutsUptoCard

/-- THE SECOND FORM's CARD OF 'quaysidelaw07.ChunkedNone'. -/
def chunkedNoneUptoCard : Claim7 := { stood := { row := chunkedNoneUptoRow, standIns := [], harness := (true, "0aa93f38cae6bb10ffe13bfa528d7ef27f1959e981101d1ec26cf541fe361722"), looks := true }, kinds := [], alts := [], laidByText := true, laidKinds := [.data, .pinned], laidTests := true, laidLooks := .later }
def ChunkedNoneUptoCardSaid : Prop := Claim7.holds Tryd.pinned (.plain (OpenSpec.upto chunkedNoneSpec)) chunkedNoneUptoCard

/-- THE SECOND FORM's CARD OF 'quaysidelaw07.ChunkedSpoilt'. -/
def chunkedSpoiltUptoCard : Claim7 := { stood := { row := chunkedSpoiltUptoRow, standIns := [], harness := (true, "0aa93f38cae6bb10ffe13bfa528d7ef27f1959e981101d1ec26cf541fe361722"), looks := true }, kinds := [], alts := [], laidByText := true, laidKinds := [.data, .data, .data, .data, .pinned], laidTests := true, laidLooks := .later }
def ChunkedSpoiltUptoCardSaid : Prop := Claim7.holds Tryd.pinned (.plain (OpenSpec.upto chunkedSpoiltSpec)) chunkedSpoiltUptoCard

/-- THE SECOND FORM's CARD OF 'quaysidelaw07.ChunkedEncodes'. -/
def chunkedEncodesUptoCard : Claim7 := { stood := { row := chunkedEncodesUptoRow, standIns := [], harness := (true, "0aa93f38cae6bb10ffe13bfa528d7ef27f1959e981101d1ec26cf541fe361722"), looks := true }, kinds := [], alts := [], laidByText := true, laidKinds := [.data, .data, .data, .data, .pinned], laidTests := true, laidLooks := .later }
def ChunkedEncodesUptoCardSaid : Prop := Claim7.holds Tryd.pinned (.plain (OpenSpec.upto chunkedEncodesSpec)) chunkedEncodesUptoCard

/-- THE SECOND FORM's CARD OF 'quaysidelaw07.ChunkedLarge'. -/
def chunkedLargeUptoCard : Claim7 := { stood := { row := chunkedLargeUptoRow, standIns := [], harness := (true, "0aa93f38cae6bb10ffe13bfa528d7ef27f1959e981101d1ec26cf541fe361722"), looks := true }, kinds := [], alts := [], laidByText := true, laidKinds := [.data, .data, .data, .data, .pinned], laidTests := true, laidLooks := .later }
def ChunkedLargeUptoCardSaid : Prop := Claim7.holds Tryd.pinned (.plain (OpenSpec.upto chunkedLargeSpec)) chunkedLargeUptoCard

/-- THE SECOND FORM's CARD OF 'quaysidelaw07.ChunkedReturns'. -/
def chunkedReturnsUptoCard : Claim7 := { stood := { row := chunkedReturnsUptoRow, standIns := [], harness := (true, "0aa93f38cae6bb10ffe13bfa528d7ef27f1959e981101d1ec26cf541fe361722"), looks := true }, kinds := [], alts := [], laidByText := true, laidKinds := [.data, .data, .data, .data, .pinned], laidTests := true, laidLooks := .later }
def ChunkedReturnsUptoCardSaid : Prop := Claim7.holds Tryd.pinned (.plain (OpenSpec.upto chunkedReturnsSpec)) chunkedReturnsUptoCard
end Rows
end Go.Proofs.YtbegpdhkjfdjbaaDoor
