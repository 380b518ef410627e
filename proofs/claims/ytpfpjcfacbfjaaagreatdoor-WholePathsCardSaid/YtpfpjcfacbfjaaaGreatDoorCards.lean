/-
  DERIVED. GIVEN WITH THE SEED: THE CARDS: each row of YtpfpjcfacbfjaaaGreatDoorRows.lean that lists a variable, with what it lists TIED to the program's text (the seventh form; the later family's looks); each row that meets fmt, with fmt's text TOLD by the authors' own Lean function (tested against real Go, not proved from fmt's source: count such statements apart). THE CARD IS WHAT COUNTS. Prove the row's statement (the work); the ties are given (YtpfpjcfacbfjaaaGreatDoorTie.lean); close each card by the builder's one call (the guide's Derived/Test/ToyasCard.lean, 'card_holds'). Laid BY PROGRAM, IN A SANDBOX (cutbox-door.mjs). By AI agents, Wed Nov 11 2026. No macro, syntax, notation, axiom, sorry.
-/
import Derived.Test.YtpfpjcfacbfjaaaGreatDoorRows
import GoSem.ClaimSeven
namespace Go.Proofs.YtpfpjcfacbfjaaaGreatDoor
namespace Rows

/-- THE TIED CARD OF 'quaysidetop.WholePaths'. -/
def wholePathsCard : Claim7 := { stood := { row := wholePathsRow, standIns := [], harness := (true, "317900c2237c04dc2476ce07ebd7124e624189d4b1bb9e20a3f1e21a43de356c"), looks := false }, kinds := [], alts := [], laidByText := true, laidKinds := [.data, .pinned], laidTests := true, laidLooks := .later }
def WholePathsCardSaid : Prop := Claim7.holds Tryz.pinned (.plain (OpenSpec.ofChange wholePathsSpec)) wholePathsCard

/-- THE SECOND FORM's CARD OF 'quaysidetop.WholePaths'. -/
def wholePathsUptoCard : Claim7 := { stood := { row := wholePathsUptoRow, standIns := [], harness := (true, "317900c2237c04dc2476ce07ebd7124e624189d4b1bb9e20a3f1e21a43de356c"), looks := false }, kinds := [], alts := [], laidByText := true, laidKinds := [.data, .pinned], laidTests := true, laidLooks := .later }
def WholePathsUptoCardSaid : Prop := Claim7.holds Tryz.pinned (.plain (OpenSpec.upto wholePathsSpec)) wholePathsUptoCard
end Rows
end Go.Proofs.YtpfpjcfacbfjaaaGreatDoor
