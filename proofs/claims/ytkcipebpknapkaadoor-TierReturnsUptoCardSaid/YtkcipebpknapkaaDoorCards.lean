/-
  DERIVED. GIVEN WITH THE SEED: THE CARDS: each row of YtkcipebpknapkaaDoorRows.lean that lists a variable, with what it lists TIED to the program's text (the seventh form; the later family's looks); each row that meets fmt, with fmt's text TOLD by the authors' own Lean function (tested against real Go, not proved from fmt's source: count such statements apart). THE CARD IS WHAT COUNTS. Prove the row's statement (the work); the ties are given (YtkcipebpknapkaaDoorTie.lean); close each card by the builder's one call (the guide's Derived/Test/ToyasCard.lean, 'card_holds'). Laid BY PROGRAM, IN A SANDBOX (cutbox-door.mjs). By AI agents, Wed Nov 11 2026. No macro, syntax, notation, axiom, sorry.
-/
import Derived.Test.YtkcipebpknapkaaDoorRows
import GoSem.ClaimSeven
namespace Go.Proofs.YtkcipebpknapkaaDoor
namespace Rows

/-- THE TIED CARD OF 'quaysidelaw33.TierVias'. -/
def tierViasCard : Claim7 := { stood := { row := tierViasRow, standIns := [], harness := (true, "d5a62e8543abcc2b85576bd2fc183a76698084e0bd9a10a700783b8160652561"), looks := true }, kinds := [], alts := [], laidByText := true, laidKinds := [.data, .pinned], laidTests := true, laidLooks := .later }
def TierViasCardSaid : Prop := Claim7.holds Tryd.pinned (.plain (OpenSpec.ofChange tierViasSpec)) tierViasCard

/-- THE TIED CARD OF 'quaysidelaw33.TierReturns'. -/
def tierReturnsCard : Claim7 := { stood := { row := tierReturnsRow, standIns := [], harness := (true, "d5a62e8543abcc2b85576bd2fc183a76698084e0bd9a10a700783b8160652561"), looks := true }, kinds := [], alts := [], laidByText := true, laidKinds := [.data, .pinned], laidTests := true, laidLooks := .later }
def TierReturnsCardSaid : Prop := Claim7.holds Tryd.pinned (.plain (OpenSpec.ofChange tierReturnsSpec)) tierReturnsCard

/-- THE TIED CARD OF 'quaysidelaw33.TierChecks'. -/
def tierChecksCard : Claim7 := { stood := { row := tierChecksRow, standIns := [], harness := (true, "d5a62e8543abcc2b85576bd2fc183a76698084e0bd9a10a700783b8160652561"), looks := true }, kinds := [], alts := [], laidByText := true, laidKinds := [.data, .pinned], laidTests := true, laidLooks := .later }
def TierChecksCardSaid : Prop := Claim7.holds Tryd.pinned (.plain (OpenSpec.ofChange tierChecksSpec)) tierChecksCard

/-- THE TIED CARD OF 'quaysidelaw33.TierShields'. -/
def tierShieldsCard : Claim7 := { stood := { row := tierShieldsRow, standIns := [], harness := (true, "d5a62e8543abcc2b85576bd2fc183a76698084e0bd9a10a700783b8160652561"), looks := true }, kinds := [], alts := [], laidByText := true, laidKinds := [.data, .pinned], laidTests := true, laidLooks := .later }
def TierShieldsCardSaid : Prop := Claim7.holds Tryd.pinned (.plain (OpenSpec.ofChange tierShieldsSpec)) tierShieldsCard

/-- THE SECOND FORM's CARD OF 'quaysidelaw33.TierVias'. -/
def tierViasUptoCard : Claim7 := { stood := { row := tierViasUptoRow, standIns := [], harness := (true, "d5a62e8543abcc2b85576bd2fc183a76698084e0bd9a10a700783b8160652561"), looks := true }, kinds := [], alts := [], laidByText := true, laidKinds := [.data, .pinned], laidTests := true, laidLooks := .later }
def TierViasUptoCardSaid : Prop := Claim7.holds Tryd.pinned (.plain (OpenSpec.upto tierViasSpec)) tierViasUptoCard

/-- THE SECOND FORM's CARD OF 'quaysidelaw33.TierReturns'. -/
def tierReturnsUptoCard : Claim7 := { stood := { row := tierReturnsUptoRow, standIns := [], harness := (true, "d5a62e8543abcc2b85576bd2fc183a76698084e0bd9a10a700783b8160652561"), looks := true }, kinds := [], alts := [], laidByText := true, laidKinds := [.data, .pinned], laidTests := true, laidLooks := .later }
def TierReturnsUptoCardSaid : Prop := Claim7.holds Tryd.pinned (.plain (OpenSpec.upto tierReturnsSpec)) tierReturnsUptoCard

/-- THE SECOND FORM's CARD OF 'quaysidelaw33.TierChecks'. -/
def tierChecksUptoCard : Claim7 := { stood := { row := tierChecksUptoRow, standIns := [], harness := (true, "d5a62e8543abcc2b85576bd2fc183a76698084e0bd9a10a700783b8160652561"), looks := true }, kinds := [], alts := [], laidByText := true, laidKinds := [.data, .pinned], laidTests := true, laidLooks := .later }
def TierChecksUptoCardSaid : Prop := Claim7.holds Tryd.pinned (.plain (OpenSpec.upto tierChecksSpec)) tierChecksUptoCard

/-- THE SECOND FORM's CARD OF 'quaysidelaw33.TierShields'. -/
def tierShieldsUptoCard : Claim7 := { stood := { row := tierShieldsUptoRow, standIns := [], harness := (true, "d5a62e8543abcc2b85576bd2fc183a76698084e0bd9a10a700783b8160652561"), looks := true }, kinds := [], alts := [], laidByText := true, laidKinds := [.data, .pinned], laidTests := true, laidLooks := .later }
def TierShieldsUptoCardSaid : Prop := Claim7.holds Tryd.pinned (.plain (OpenSpec.upto tierShieldsSpec)) tierShieldsUptoCard
end Rows
end Go.Proofs.YtkcipebpknapkaaDoor
