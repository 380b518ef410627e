/-
  DERIVED. GIVEN WITH THE SEED: THE CARDS: each row of YtjcgognngeagiaaDoorRows.lean that lists a variable, with what it lists TIED to the program's text (the seventh form; the later family's looks); each row that meets fmt, with fmt's text TOLD by the authors' own Lean function (tested against real Go, not proved from fmt's source: count such statements apart). THE CARD IS WHAT COUNTS. Prove the row's statement (the work); the ties are given (YtjcgognngeagiaaDoorTie.lean); close each card by the builder's one call (the guide's Derived/Test/ToyasCard.lean, 'card_holds'). Laid BY PROGRAM, IN A SANDBOX (cutbox-door.mjs). By AI agents, Wed Nov 11 2026. No macro, syntax, notation, axiom, sorry.
-/
import Derived.Test.YtjcgognngeagiaaDoorRows
import GoSem.ClaimSeven
namespace Go.Proofs.YtjcgognngeagiaaDoor
namespace Rows

/-- THE TIED CARD OF 'quaysidelaw01.SyntaxTokens'. -/
def syntaxTokensCard : Claim7 := { stood := { row := syntaxTokensRow, standIns := [], harness := (true, "e5d00e1b120288ef2e03903dc41067be5675b6b8a356daf90d2e46531ac82116"), looks := true }, kinds := [], alts := [], laidByText := true, laidKinds := [.data, .pinned], laidTests := true, laidLooks := .later }
def SyntaxTokensCardSaid : Prop := Claim7.holds Tryd.pinned (.plain (OpenSpec.ofChange syntaxTokensSpec)) syntaxTokensCard

/-- THE TIED CARD OF 'quaysidelaw01.SyntaxLists'. -/
def syntaxListsCard : Claim7 := { stood := { row := syntaxListsRow, standIns := [], harness := (true, "e5d00e1b120288ef2e03903dc41067be5675b6b8a356daf90d2e46531ac82116"), looks := true }, kinds := [], alts := [], laidByText := true, laidKinds := [.data, .pinned], laidTests := true, laidLooks := .later }
def SyntaxListsCardSaid : Prop := Claim7.holds Tryd.pinned (.plain (OpenSpec.ofChange syntaxListsSpec)) syntaxListsCard

/-- THE TIED CARD OF 'quaysidelaw01.SyntaxNumbers'. -/
def syntaxNumbersCard : Claim7 := { stood := { row := syntaxNumbersRow, standIns := [], harness := (true, "e5d00e1b120288ef2e03903dc41067be5675b6b8a356daf90d2e46531ac82116"), looks := true }, kinds := [], alts := [], laidByText := true, laidKinds := [.data, .pinned], laidTests := true, laidLooks := .later }
def SyntaxNumbersCardSaid : Prop := Claim7.holds Tryd.pinned (.plain (OpenSpec.ofChange syntaxNumbersSpec)) syntaxNumbersCard

/-- THE TIED CARD OF 'quaysidelaw01.SyntaxElements'. -/
def syntaxElementsCard : Claim7 := { stood := { row := syntaxElementsRow, standIns := [], harness := (true, "e5d00e1b120288ef2e03903dc41067be5675b6b8a356daf90d2e46531ac82116"), looks := true }, kinds := [], alts := [], laidByText := true, laidKinds := [.data, .pinned], laidTests := true, laidLooks := .later }
def SyntaxElementsCardSaid : Prop := Claim7.holds Tryd.pinned (.plain (OpenSpec.ofChange syntaxElementsSpec)) syntaxElementsCard

/-- THE TIED CARD OF 'quaysidelaw01.SyntaxUnquotes'. -/
def syntaxUnquotesCard : Claim7 := { stood := { row := syntaxUnquotesRow, standIns := [], harness := (true, "e5d00e1b120288ef2e03903dc41067be5675b6b8a356daf90d2e46531ac82116"), looks := true }, kinds := [], alts := [], laidByText := true, laidKinds := [.data, .pinned], laidTests := true, laidLooks := .later }
def SyntaxUnquotesCardSaid : Prop := Claim7.holds Tryd.pinned (.plain (OpenSpec.ofChange syntaxUnquotesSpec)) syntaxUnquotesCard

/-- THE TIED CARD OF 'quaysidelaw01.SyntaxQuotes'. -/
def syntaxQuotesCard : Claim7 := { stood := { row := syntaxQuotesRow, standIns := [], harness := (true, "e5d00e1b120288ef2e03903dc41067be5675b6b8a356daf90d2e46531ac82116"), looks := true }, kinds := [], alts := [], laidByText := true, laidKinds := [.data, .pinned], laidTests := true, laidLooks := .later }
def SyntaxQuotesCardSaid : Prop := Claim7.holds Tryd.pinned (.plain (OpenSpec.ofChange syntaxQuotesSpec)) syntaxQuotesCard

/-- THE TIED CARD OF 'quaysidelaw01.SyntaxSplits'. -/
def syntaxSplitsCard : Claim7 := { stood := { row := syntaxSplitsRow, standIns := [], harness := (true, "e5d00e1b120288ef2e03903dc41067be5675b6b8a356daf90d2e46531ac82116"), looks := true }, kinds := [], alts := [], laidByText := true, laidKinds := [.data, .pinned], laidTests := true, laidLooks := .later }
def SyntaxSplitsCardSaid : Prop := Claim7.holds Tryd.pinned (.plain (OpenSpec.ofChange syntaxSplitsSpec)) syntaxSplitsCard

/-- THE TIED CARD OF 'quaysidelaw01.SyntaxJoins'. -/
def syntaxJoinsCard : Claim7 := { stood := { row := syntaxJoinsRow, standIns := [], harness := (true, "e5d00e1b120288ef2e03903dc41067be5675b6b8a356daf90d2e46531ac82116"), looks := true }, kinds := [], alts := [], laidByText := true, laidKinds := [.data, .pinned], laidTests := true, laidLooks := .later }
def SyntaxJoinsCardSaid : Prop := Claim7.holds Tryd.pinned (.plain (OpenSpec.ofChange syntaxJoinsSpec)) syntaxJoinsCard

/-- THE SECOND FORM's CARD OF 'quaysidelaw01.SyntaxTokens'. -/
def syntaxTokensUptoCard : Claim7 := { stood := { row := syntaxTokensUptoRow, standIns := [], harness := (true, "e5d00e1b120288ef2e03903dc41067be5675b6b8a356daf90d2e46531ac82116"), looks := true }, kinds := [], alts := [], laidByText := true, laidKinds := [.data, .pinned], laidTests := true, laidLooks := .later }
def SyntaxTokensUptoCardSaid : Prop := Claim7.holds Tryd.pinned (.plain (OpenSpec.upto syntaxTokensSpec)) syntaxTokensUptoCard

/-- THE SECOND FORM's CARD OF 'quaysidelaw01.SyntaxLists'. -/
def syntaxListsUptoCard : Claim7 := { stood := { row := syntaxListsUptoRow, standIns := [], harness := (true, "e5d00e1b120288ef2e03903dc41067be5675b6b8a356daf90d2e46531ac82116"), looks := true }, kinds := [], alts := [], laidByText := true, laidKinds := [.data, .pinned], laidTests := true, laidLooks := .later }
def SyntaxListsUptoCardSaid : Prop := Claim7.holds Tryd.pinned (.plain (OpenSpec.upto syntaxListsSpec)) syntaxListsUptoCard

/-- THE SECOND FORM's CARD OF 'quaysidelaw01.SyntaxNumbers'. -/
def syntaxNumbersUptoCard : Claim7 := { stood := { row := syntaxNumbersUptoRow, standIns := [], harness := (true, "e5d00e1b120288ef2e03903dc41067be5675b6b8a356daf90d2e46531ac82116"), looks := true }, kinds := [], alts := [], laidByText := true, laidKinds := [.data, .pinned], laidTests := true, laidLooks := .later }
def SyntaxNumbersUptoCardSaid : Prop := Claim7.holds Tryd.pinned (.plain (OpenSpec.upto syntaxNumbersSpec)) syntaxNumbersUptoCard

/-- THE SECOND FORM's CARD OF 'quaysidelaw01.SyntaxElements'. -/
def syntaxElementsUptoCard : Claim7 := { stood := { row := syntaxElementsUptoRow, standIns := [], harness := (true, "e5d00e1b120288ef2e03903dc41067be5675b6b8a356daf90d2e46531ac82116"), looks := true }, kinds := [], alts := [], laidByText := true, laidKinds := [.data, .pinned], laidTests := true, laidLooks := .later }
def SyntaxElementsUptoCardSaid : Prop := Claim7.holds Tryd.pinned (.plain (OpenSpec.upto syntaxElementsSpec)) syntaxElementsUptoCard

/-- THE SECOND FORM's CARD OF 'quaysidelaw01.SyntaxUnquotes'. -/
def syntaxUnquotesUptoCard : Claim7 := { stood := { row := syntaxUnquotesUptoRow, standIns := [], harness := (true, "e5d00e1b120288ef2e03903dc41067be5675b6b8a356daf90d2e46531ac82116"), looks := true }, kinds := [], alts := [], laidByText := true, laidKinds := [.data, .pinned], laidTests := true, laidLooks := .later }
def SyntaxUnquotesUptoCardSaid : Prop := Claim7.holds Tryd.pinned (.plain (OpenSpec.upto syntaxUnquotesSpec)) syntaxUnquotesUptoCard

/-- THE SECOND FORM's CARD OF 'quaysidelaw01.SyntaxQuotes'. -/
def syntaxQuotesUptoCard : Claim7 := { stood := { row := syntaxQuotesUptoRow, standIns := [], harness := (true, "e5d00e1b120288ef2e03903dc41067be5675b6b8a356daf90d2e46531ac82116"), looks := true }, kinds := [], alts := [], laidByText := true, laidKinds := [.data, .pinned], laidTests := true, laidLooks := .later }
def SyntaxQuotesUptoCardSaid : Prop := Claim7.holds Tryd.pinned (.plain (OpenSpec.upto syntaxQuotesSpec)) syntaxQuotesUptoCard

/-- THE SECOND FORM's CARD OF 'quaysidelaw01.SyntaxSplits'. -/
def syntaxSplitsUptoCard : Claim7 := { stood := { row := syntaxSplitsUptoRow, standIns := [], harness := (true, "e5d00e1b120288ef2e03903dc41067be5675b6b8a356daf90d2e46531ac82116"), looks := true }, kinds := [], alts := [], laidByText := true, laidKinds := [.data, .pinned], laidTests := true, laidLooks := .later }
def SyntaxSplitsUptoCardSaid : Prop := Claim7.holds Tryd.pinned (.plain (OpenSpec.upto syntaxSplitsSpec)) syntaxSplitsUptoCard

/-- THE SECOND FORM's CARD OF 'quaysidelaw01.SyntaxJoins'. -/
def syntaxJoinsUptoCard : Claim7 := { stood := { row := syntaxJoinsUptoRow, standIns := [], harness := (true, "e5d00e1b120288ef2e03903dc41067be5675b6b8a356daf90d2e46531ac82116"), looks := true }, kinds := [], alts := [], laidByText := true, laidKinds := [.data, .pinned], laidTests := true, laidLooks := .later }
def SyntaxJoinsUptoCardSaid : Prop := Claim7.holds Tryd.pinned (.plain (OpenSpec.upto syntaxJoinsSpec)) syntaxJoinsUptoCard
end Rows
end Go.Proofs.YtjcgognngeagiaaDoor
