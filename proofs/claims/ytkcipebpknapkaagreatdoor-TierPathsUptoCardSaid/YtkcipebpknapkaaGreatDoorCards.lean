/-
  DERIVED. GIVEN WITH THE SEED: THE CARDS: each row of YtkcipebpknapkaaGreatDoorRows.lean that lists a variable, with what it lists TIED to the program's text (the seventh form; the later family's looks); each row that meets fmt, with fmt's text TOLD by the authors' own Lean function (tested against real Go, not proved from fmt's source: count such statements apart). THE CARD IS WHAT COUNTS. Prove the row's statement (the work); the ties are given (YtkcipebpknapkaaGreatDoorTie.lean); close each card by the builder's one call (the guide's Derived/Test/ToyasCard.lean, 'card_holds'). Laid BY PROGRAM, IN A SANDBOX (cutbox-door.mjs). By AI agents, Wed Nov 11 2026. No macro, syntax, notation, axiom, sorry.
-/
import Derived.Test.YtkcipebpknapkaaGreatDoorRows
import GoSem.ClaimSeven
namespace Go.Proofs.YtkcipebpknapkaaGreatDoor
namespace Rows

/-- THE TIED CARD OF 'quaysidelaw33.TierEdges'. -/
def tierEdgesCard : Claim7 := { stood := { row := tierEdgesRow, standIns := [], harness := (true, "7dc4457c0dbdcfb89838bd3c280946d7b0d75c716852ffceb233acb9d14b41f7"), looks := true }, kinds := [], alts := [], laidByText := true, laidKinds := [.data, .pinned], laidTests := true, laidLooks := .later }
def TierEdgesCardSaid : Prop := Claim7.holds Tryz.pinned (.plain (OpenSpec.ofChange tierEdgesSpec)) tierEdgesCard

/-- THE TIED CARD OF 'quaysidelaw33.TierTries'. -/
def tierTriesCard : Claim7 := { stood := { row := tierTriesRow, standIns := [], harness := (true, "7dc4457c0dbdcfb89838bd3c280946d7b0d75c716852ffceb233acb9d14b41f7"), looks := true }, kinds := [], alts := [], laidByText := true, laidKinds := [.data, .pinned], laidTests := true, laidLooks := .later }
def TierTriesCardSaid : Prop := Claim7.holds Tryz.pinned (.plain (OpenSpec.ofChange tierTriesSpec)) tierTriesCard

/-- THE TIED CARD OF 'quaysidelaw33.TierSteady'. -/
def tierSteadyCard : Claim7 := { stood := { row := tierSteadyRow, standIns := [], harness := (true, "7dc4457c0dbdcfb89838bd3c280946d7b0d75c716852ffceb233acb9d14b41f7"), looks := true }, kinds := [], alts := [], laidByText := true, laidKinds := [.data, .pinned], laidTests := true, laidLooks := .later }
def TierSteadyCardSaid : Prop := Claim7.holds Tryz.pinned (.plain (OpenSpec.ofChange tierSteadySpec)) tierSteadyCard

/-- THE TIED CARD OF 'quaysidelaw33.TierPaths'. -/
def tierPathsCard : Claim7 := { stood := { row := tierPathsRow, standIns := [], harness := (true, "7dc4457c0dbdcfb89838bd3c280946d7b0d75c716852ffceb233acb9d14b41f7"), looks := true }, kinds := [], alts := [], laidByText := true, laidKinds := [.data, .pinned], laidTests := true, laidLooks := .later }
def TierPathsCardSaid : Prop := Claim7.holds Tryz.pinned (.plain (OpenSpec.ofChange tierPathsSpec)) tierPathsCard

/-- THE SECOND FORM's CARD OF 'quaysidelaw33.TierEdges'. -/
def tierEdgesUptoCard : Claim7 := { stood := { row := tierEdgesUptoRow, standIns := [], harness := (true, "7dc4457c0dbdcfb89838bd3c280946d7b0d75c716852ffceb233acb9d14b41f7"), looks := true }, kinds := [], alts := [], laidByText := true, laidKinds := [.data, .pinned], laidTests := true, laidLooks := .later }
def TierEdgesUptoCardSaid : Prop := Claim7.holds Tryz.pinned (.plain (OpenSpec.upto tierEdgesSpec)) tierEdgesUptoCard

/-- THE SECOND FORM's CARD OF 'quaysidelaw33.TierTries'. -/
def tierTriesUptoCard : Claim7 := { stood := { row := tierTriesUptoRow, standIns := [], harness := (true, "7dc4457c0dbdcfb89838bd3c280946d7b0d75c716852ffceb233acb9d14b41f7"), looks := true }, kinds := [], alts := [], laidByText := true, laidKinds := [.data, .pinned], laidTests := true, laidLooks := .later }
def TierTriesUptoCardSaid : Prop := Claim7.holds Tryz.pinned (.plain (OpenSpec.upto tierTriesSpec)) tierTriesUptoCard

/-- THE SECOND FORM's CARD OF 'quaysidelaw33.TierSteady'. -/
def tierSteadyUptoCard : Claim7 := { stood := { row := tierSteadyUptoRow, standIns := [], harness := (true, "7dc4457c0dbdcfb89838bd3c280946d7b0d75c716852ffceb233acb9d14b41f7"), looks := true }, kinds := [], alts := [], laidByText := true, laidKinds := [.data, .pinned], laidTests := true, laidLooks := .later }
def TierSteadyUptoCardSaid : Prop := Claim7.holds Tryz.pinned (.plain (OpenSpec.upto tierSteadySpec)) tierSteadyUptoCard

/-- THE SECOND FORM's CARD OF 'quaysidelaw33.TierPaths'. -/
def tierPathsUptoCard : Claim7 := { stood := { row := tierPathsUptoRow, standIns := [], harness := (true, "7dc4457c0dbdcfb89838bd3c280946d7b0d75c716852ffceb233acb9d14b41f7"), looks := true }, kinds := [], alts := [], laidByText := true, laidKinds := [.data, .pinned], laidTests := true, laidLooks := .later }
def TierPathsUptoCardSaid : Prop := Claim7.holds Tryz.pinned (.plain (OpenSpec.upto tierPathsSpec)) tierPathsUptoCard
end Rows
end Go.Proofs.YtkcipebpknapkaaGreatDoor
