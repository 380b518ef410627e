/-
  NARROWER THAN 'FOR EVERY INPUT', by the rows' own cells (each row's printed sentence says how): SyntaxTokens: laid · SyntaxLists: laid · SyntaxNumbers: laid · SyntaxElements: laid · SyntaxUnquotes: laid · SyntaxQuotes: laid · SyntaxSplits: laid · SyntaxJoins: laid.
  DERIVED. THE GIVEN ROWS OF THIS SEAT. 8 by the template 'for every input the law returns true; each argument reads behind the call as it read before'; 0 by the template 'total and deterministic' (their statements: YtjcgognngeagiaaDoorTotals.lean).
  GIVEN WITH THE SEED: the statements are not yours to turn. If you find one false, say at which input.
  Laid BY PROGRAM, IN A SANDBOX (cutbox-rows.mjs): the forced cells as the released guide's own fill.sh prints them over the translation e8743785ee836705… (all of the seat's roots in one cut). By AI agents, Wed Nov 11 2026. No macro, syntax, notation, axiom, sorry.
-/
import Derived.Test.YtjcgognngeagiaaDoorChecked
import GoSem.PinnedTables
import GoSem.Claim
import GoSem.ClaimJoined
import GoSem.ClaimMapViews
import Derived.JoinedTies
import Derived.KernelRfl
namespace Go.Proofs.YtjcgognngeagiaaDoor
/- THE CELL 'sum', in the pinned program and in every row, IS THE sha256 OF THE DUMP (.gsa) THAT YtjcgognngeagiaaDoorProg.lean LOADS. Nothing in Lean hashes anything: it is a label: what it is worth is what the hold of that sum in a sandbox is worth. -/
noncomputable def Tryd.pinned : Pinned := { name := "ytjcgognngeagiaadoor", sum := "e8743785ee8367054d9b40bee912cfe80e71154e43489600e198195aeff531d8", checked := Tryd.checked }
namespace Rows
def none {H : Type} : Left H := { results := [], args := [] }

/- WHAT THE LISTED PACKAGE-LEVEL VARIABLES READ AS WHEN THE CALL BEGINS. Each datum BY PROGRAM (the guide's laid-datum.mjs) off the statement by which the dump's own 'gosem.cut.vars' lays the variable. In a bare row this is a premise. The card (YtjcgognngeagiaaDoorCards.lean) ties it to the program's text. -/
def laid_unicode_utf8_acceptRanges {H : Type} : DataW H := .agg [.agg [.lit (.int .u8 128), .lit (.int .u8 191)], .agg [.lit (.int .u8 160), .lit (.int .u8 191)], .agg [.lit (.int .u8 128), .lit (.int .u8 159)], .agg [.lit (.int .u8 144), .lit (.int .u8 191)], .agg [.lit (.int .u8 128), .lit (.int .u8 143)], .agg [.lit (.int .u8 0), .lit (.int .u8 0)], .agg [.lit (.int .u8 0), .lit (.int .u8 0)], .agg [.lit (.int .u8 0), .lit (.int .u8 0)], .agg [.lit (.int .u8 0), .lit (.int .u8 0)], .agg [.lit (.int .u8 0), .lit (.int .u8 0)], .agg [.lit (.int .u8 0), .lit (.int .u8 0)], .agg [.lit (.int .u8 0), .lit (.int .u8 0)], .agg [.lit (.int .u8 0), .lit (.int .u8 0)], .agg [.lit (.int .u8 0), .lit (.int .u8 0)], .agg [.lit (.int .u8 0), .lit (.int .u8 0)], .agg [.lit (.int .u8 0), .lit (.int .u8 0)]]
/-- One of Go's own tables, pinned by name: the form's constant. -/
def laid_unicode_utf8_first : DataW Unit := Go.Pinned.utf8First

/-- 'quaysidelaw01.SyntaxTokens': WHATEVER THE INPUT: true; the input reads as it did. -/
def syntaxTokensSpec : ChangeSpec := { name := "syntaxTokens", fn := fun _ => fun
  | [d] => { results := [.lit (.bool true)], args := [d] }
  | _ => none }
def syntaxTokensRow : OpenClaim := { program := "ytjcgognngeagiaadoor", sum := "e8743785ee8367054d9b40bee912cfe80e71154e43489600e198195aeff531d8", func := "quayside/quaysidelaw01.SyntaxTokens", spec := "syntaxTokens", inPlace := ["internal/bytealg.IndexByteString", "internal/bytealg.IndexString"], named := ["unicode/utf8.first", "unicode/utf8.acceptRanges", "internal/bytealg.MaxLen"], apart := false, laid := [("unicode/utf8.acceptRanges", laid_unicode_utf8_acceptRanges), ("unicode/utf8.first", laid_unicode_utf8_first)] }
def SyntaxTokensSaid : Prop := syntaxTokensRow.holds Tryd.pinned (OpenSpec.ofChange syntaxTokensSpec)

/-- ITS FALSE NEIGHBOUR: 'it returns false'. Refute it at one input. -/
def syntaxTokensWrong : ChangeSpec := { name := "syntaxTokens", fn := fun _ => fun
  | [d] => { results := [.lit (.bool false)], args := [d] }
  | _ => none }
def SyntaxTokensWrongFalsely : Prop := syntaxTokensRow.holds Tryd.pinned (OpenSpec.ofChange syntaxTokensWrong)

/-- 'quaysidelaw01.SyntaxLists': WHATEVER THE INPUT: true; the input reads as it did. -/
def syntaxListsSpec : ChangeSpec := { name := "syntaxLists", fn := fun _ => fun
  | [d] => { results := [.lit (.bool true)], args := [d] }
  | _ => none }
def syntaxListsRow : OpenClaim := { program := "ytjcgognngeagiaadoor", sum := "e8743785ee8367054d9b40bee912cfe80e71154e43489600e198195aeff531d8", func := "quayside/quaysidelaw01.SyntaxLists", spec := "syntaxLists", inPlace := ["internal/bytealg.IndexByteString", "internal/bytealg.IndexString"], named := ["unicode/utf8.first", "unicode/utf8.acceptRanges", "internal/bytealg.MaxLen"], apart := false, laid := [("unicode/utf8.acceptRanges", laid_unicode_utf8_acceptRanges), ("unicode/utf8.first", laid_unicode_utf8_first)] }
def SyntaxListsSaid : Prop := syntaxListsRow.holds Tryd.pinned (OpenSpec.ofChange syntaxListsSpec)

/-- ITS FALSE NEIGHBOUR: 'it returns false'. Refute it at one input. -/
def syntaxListsWrong : ChangeSpec := { name := "syntaxLists", fn := fun _ => fun
  | [d] => { results := [.lit (.bool false)], args := [d] }
  | _ => none }
def SyntaxListsWrongFalsely : Prop := syntaxListsRow.holds Tryd.pinned (OpenSpec.ofChange syntaxListsWrong)

/-- 'quaysidelaw01.SyntaxNumbers': WHATEVER THE INPUT: true; the input reads as it did. -/
def syntaxNumbersSpec : ChangeSpec := { name := "syntaxNumbers", fn := fun _ => fun
  | [d1, d2, d3] => { results := [.lit (.bool true)], args := [d1, d2, d3] }
  | _ => none }
def syntaxNumbersRow : OpenClaim := { program := "ytjcgognngeagiaadoor", sum := "e8743785ee8367054d9b40bee912cfe80e71154e43489600e198195aeff531d8", func := "quayside/quaysidelaw01.SyntaxNumbers", spec := "syntaxNumbers", inPlace := ["internal/bytealg.IndexByteString", "internal/bytealg.IndexString"], named := ["unicode/utf8.first", "unicode/utf8.acceptRanges", "internal/bytealg.MaxLen"], apart := false, laid := [("unicode/utf8.acceptRanges", laid_unicode_utf8_acceptRanges), ("unicode/utf8.first", laid_unicode_utf8_first)] }
def SyntaxNumbersSaid : Prop := syntaxNumbersRow.holds Tryd.pinned (OpenSpec.ofChange syntaxNumbersSpec)

/-- ITS FALSE NEIGHBOUR: 'it returns false'. Refute it at one input. -/
def syntaxNumbersWrong : ChangeSpec := { name := "syntaxNumbers", fn := fun _ => fun
  | [d1, d2, d3] => { results := [.lit (.bool false)], args := [d1, d2, d3] }
  | _ => none }
def SyntaxNumbersWrongFalsely : Prop := syntaxNumbersRow.holds Tryd.pinned (OpenSpec.ofChange syntaxNumbersWrong)

/-- 'quaysidelaw01.SyntaxElements': WHATEVER THE INPUT: true; the input reads as it did. -/
def syntaxElementsSpec : ChangeSpec := { name := "syntaxElements", fn := fun _ => fun
  | [d1, d2] => { results := [.lit (.bool true)], args := [d1, d2] }
  | _ => none }
def syntaxElementsRow : OpenClaim := { program := "ytjcgognngeagiaadoor", sum := "e8743785ee8367054d9b40bee912cfe80e71154e43489600e198195aeff531d8", func := "quayside/quaysidelaw01.SyntaxElements", spec := "syntaxElements", inPlace := ["internal/bytealg.IndexByteString", "internal/bytealg.IndexString"], named := ["unicode/utf8.first", "unicode/utf8.acceptRanges", "internal/bytealg.MaxLen"], apart := false, laid := [("unicode/utf8.acceptRanges", laid_unicode_utf8_acceptRanges), ("unicode/utf8.first", laid_unicode_utf8_first)] }
def SyntaxElementsSaid : Prop := syntaxElementsRow.holds Tryd.pinned (OpenSpec.ofChange syntaxElementsSpec)

/-- ITS FALSE NEIGHBOUR: 'it returns false'. Refute it at one input. -/
def syntaxElementsWrong : ChangeSpec := { name := "syntaxElements", fn := fun _ => fun
  | [d1, d2] => { results := [.lit (.bool false)], args := [d1, d2] }
  | _ => none }
def SyntaxElementsWrongFalsely : Prop := syntaxElementsRow.holds Tryd.pinned (OpenSpec.ofChange syntaxElementsWrong)

/-- 'quaysidelaw01.SyntaxUnquotes': WHATEVER THE INPUT: true; the input reads as it did. -/
def syntaxUnquotesSpec : ChangeSpec := { name := "syntaxUnquotes", fn := fun _ => fun
  | [d] => { results := [.lit (.bool true)], args := [d] }
  | _ => none }
def syntaxUnquotesRow : OpenClaim := { program := "ytjcgognngeagiaadoor", sum := "e8743785ee8367054d9b40bee912cfe80e71154e43489600e198195aeff531d8", func := "quayside/quaysidelaw01.SyntaxUnquotes", spec := "syntaxUnquotes", inPlace := ["internal/bytealg.IndexByteString", "internal/bytealg.IndexString"], named := ["unicode/utf8.first", "unicode/utf8.acceptRanges", "internal/bytealg.MaxLen"], apart := false, laid := [("unicode/utf8.acceptRanges", laid_unicode_utf8_acceptRanges), ("unicode/utf8.first", laid_unicode_utf8_first)] }
def SyntaxUnquotesSaid : Prop := syntaxUnquotesRow.holds Tryd.pinned (OpenSpec.ofChange syntaxUnquotesSpec)

/-- ITS FALSE NEIGHBOUR: 'it returns false'. Refute it at one input. -/
def syntaxUnquotesWrong : ChangeSpec := { name := "syntaxUnquotes", fn := fun _ => fun
  | [d] => { results := [.lit (.bool false)], args := [d] }
  | _ => none }
def SyntaxUnquotesWrongFalsely : Prop := syntaxUnquotesRow.holds Tryd.pinned (OpenSpec.ofChange syntaxUnquotesWrong)

/-- 'quaysidelaw01.SyntaxQuotes': WHATEVER THE INPUT: true; the input reads as it did. -/
def syntaxQuotesSpec : ChangeSpec := { name := "syntaxQuotes", fn := fun _ => fun
  | [d] => { results := [.lit (.bool true)], args := [d] }
  | _ => none }
def syntaxQuotesRow : OpenClaim := { program := "ytjcgognngeagiaadoor", sum := "e8743785ee8367054d9b40bee912cfe80e71154e43489600e198195aeff531d8", func := "quayside/quaysidelaw01.SyntaxQuotes", spec := "syntaxQuotes", inPlace := ["internal/bytealg.IndexByteString", "internal/bytealg.IndexString"], named := ["unicode/utf8.first", "unicode/utf8.acceptRanges", "internal/bytealg.MaxLen"], apart := false, laid := [("unicode/utf8.acceptRanges", laid_unicode_utf8_acceptRanges), ("unicode/utf8.first", laid_unicode_utf8_first)] }
def SyntaxQuotesSaid : Prop := syntaxQuotesRow.holds Tryd.pinned (OpenSpec.ofChange syntaxQuotesSpec)

/-- ITS FALSE NEIGHBOUR: 'it returns false'. Refute it at one input. -/
def syntaxQuotesWrong : ChangeSpec := { name := "syntaxQuotes", fn := fun _ => fun
  | [d] => { results := [.lit (.bool false)], args := [d] }
  | _ => none }
def SyntaxQuotesWrongFalsely : Prop := syntaxQuotesRow.holds Tryd.pinned (OpenSpec.ofChange syntaxQuotesWrong)

/-- 'quaysidelaw01.SyntaxSplits': WHATEVER THE INPUT: true; the input reads as it did. -/
def syntaxSplitsSpec : ChangeSpec := { name := "syntaxSplits", fn := fun _ => fun
  | [d] => { results := [.lit (.bool true)], args := [d] }
  | _ => none }
def syntaxSplitsRow : OpenClaim := { program := "ytjcgognngeagiaadoor", sum := "e8743785ee8367054d9b40bee912cfe80e71154e43489600e198195aeff531d8", func := "quayside/quaysidelaw01.SyntaxSplits", spec := "syntaxSplits", inPlace := ["internal/bytealg.IndexByteString", "internal/bytealg.IndexString"], named := ["unicode/utf8.first", "unicode/utf8.acceptRanges", "internal/bytealg.MaxLen"], apart := false, laid := [("unicode/utf8.acceptRanges", laid_unicode_utf8_acceptRanges), ("unicode/utf8.first", laid_unicode_utf8_first)] }
def SyntaxSplitsSaid : Prop := syntaxSplitsRow.holds Tryd.pinned (OpenSpec.ofChange syntaxSplitsSpec)

/-- ITS FALSE NEIGHBOUR: 'it returns false'. Refute it at one input. -/
def syntaxSplitsWrong : ChangeSpec := { name := "syntaxSplits", fn := fun _ => fun
  | [d] => { results := [.lit (.bool false)], args := [d] }
  | _ => none }
def SyntaxSplitsWrongFalsely : Prop := syntaxSplitsRow.holds Tryd.pinned (OpenSpec.ofChange syntaxSplitsWrong)

/-- 'quaysidelaw01.SyntaxJoins': WHATEVER THE INPUT: true; the input reads as it did. -/
def syntaxJoinsSpec : ChangeSpec := { name := "syntaxJoins", fn := fun _ => fun
  | [d1, d2] => { results := [.lit (.bool true)], args := [d1, d2] }
  | _ => none }
def syntaxJoinsRow : OpenClaim := { program := "ytjcgognngeagiaadoor", sum := "e8743785ee8367054d9b40bee912cfe80e71154e43489600e198195aeff531d8", func := "quayside/quaysidelaw01.SyntaxJoins", spec := "syntaxJoins", inPlace := ["internal/bytealg.IndexByteString", "internal/bytealg.IndexString"], named := ["unicode/utf8.first", "unicode/utf8.acceptRanges", "internal/bytealg.MaxLen"], apart := false, laid := [("unicode/utf8.acceptRanges", laid_unicode_utf8_acceptRanges), ("unicode/utf8.first", laid_unicode_utf8_first)] }
def SyntaxJoinsSaid : Prop := syntaxJoinsRow.holds Tryd.pinned (OpenSpec.ofChange syntaxJoinsSpec)

/-- ITS FALSE NEIGHBOUR: 'it returns false'. Refute it at one input. -/
def syntaxJoinsWrong : ChangeSpec := { name := "syntaxJoins", fn := fun _ => fun
  | [d1, d2] => { results := [.lit (.bool false)], args := [d1, d2] }
  | _ => none }
def SyntaxJoinsWrongFalsely : Prop := syntaxJoinsRow.holds Tryd.pinned (OpenSpec.ofChange syntaxJoinsWrong)

/- THE SECOND FORM. 'bulk': how many values and letters a reading holds, each counted each time it is reached (what is shared counts as often as it is met; a slice's spare places count too). A statement '..UptoSaid' is the law's where the arguments, and the package variables that the reading takes, are together of bulk at most 1048576: NARROWER than '..Said'. Prove '..Said' where nothing that the law and all that it calls make is longer than what came in: it says more and counts as full. Else prove '..UptoSaid'. A law counts once. -/
mutual
def uptoBulk {H : Type} : DataW H → Nat
  | .lit (.string bytes) => bytes.length + 1
  | .lit _ => 1
  | .nil => 1
  | .ptr d => uptoBulk d + 1
  | .slice elems spare => uptoBulkAll elems + uptoBulkAll spare + 1
  | .agg parts => uptoBulkAll parts + 1
  | .iface _ d => uptoBulk d + 1
  | .map entries => uptoBulkEntries entries + 1
  | .held _ => 1
def uptoBulkAll {H : Type} : List (DataW H) → Nat
  | [] => 0
  | d :: r => uptoBulk d + uptoBulkAll r
def uptoBulkEntries {H : Type} : List (Lit × DataW H) → Nat
  | [] => 0
  | x :: r => uptoBulkEntry x + uptoBulkEntries r
def uptoBulkEntry {H : Type} : Lit × DataW H → Nat
  | (.string bytes, d) => bytes.length + uptoBulk d + 1
  | (_, d) => uptoBulk d + 1
 end
def uptoSmall : (H : Type) → List (DataW H) → Bool := fun _ ds => decide (uptoBulkAll ds ≤ 1048576)
def OpenSpec.upto (s : _root_.Go.ChangeSpec) : _root_.Go.OpenSpec := { _root_.Go.OpenSpec.ofChange s with cond := some uptoSmall }

/-- 'quaysidelaw01.SyntaxTokens', WHERE WHAT IT READS IS OF BULK AT MOST 1048576: true; the input reads as it did. -/
def syntaxTokensUptoRow : OpenClaim := { program := "ytjcgognngeagiaadoor", sum := "e8743785ee8367054d9b40bee912cfe80e71154e43489600e198195aeff531d8", func := "quayside/quaysidelaw01.SyntaxTokens", spec := "syntaxTokens", inPlace := ["internal/bytealg.IndexByteString", "internal/bytealg.IndexString"], named := ["unicode/utf8.first", "unicode/utf8.acceptRanges", "internal/bytealg.MaxLen"], apart := false, laid := [("unicode/utf8.acceptRanges", laid_unicode_utf8_acceptRanges), ("unicode/utf8.first", laid_unicode_utf8_first)], narrowed := true }
def SyntaxTokensUptoSaid : Prop := syntaxTokensUptoRow.holds Tryd.pinned (OpenSpec.upto syntaxTokensSpec)

/-- 'quaysidelaw01.SyntaxLists', WHERE WHAT IT READS IS OF BULK AT MOST 1048576: true; the input reads as it did. -/
def syntaxListsUptoRow : OpenClaim := { program := "ytjcgognngeagiaadoor", sum := "e8743785ee8367054d9b40bee912cfe80e71154e43489600e198195aeff531d8", func := "quayside/quaysidelaw01.SyntaxLists", spec := "syntaxLists", inPlace := ["internal/bytealg.IndexByteString", "internal/bytealg.IndexString"], named := ["unicode/utf8.first", "unicode/utf8.acceptRanges", "internal/bytealg.MaxLen"], apart := false, laid := [("unicode/utf8.acceptRanges", laid_unicode_utf8_acceptRanges), ("unicode/utf8.first", laid_unicode_utf8_first)], narrowed := true }
def SyntaxListsUptoSaid : Prop := syntaxListsUptoRow.holds Tryd.pinned (OpenSpec.upto syntaxListsSpec)

/-- 'quaysidelaw01.SyntaxNumbers', WHERE WHAT IT READS IS OF BULK AT MOST 1048576: true; the input reads as it did. -/
def syntaxNumbersUptoRow : OpenClaim := { program := "ytjcgognngeagiaadoor", sum := "e8743785ee8367054d9b40bee912cfe80e71154e43489600e198195aeff531d8", func := "quayside/quaysidelaw01.SyntaxNumbers", spec := "syntaxNumbers", inPlace := ["internal/bytealg.IndexByteString", "internal/bytealg.IndexString"], named := ["unicode/utf8.first", "unicode/utf8.acceptRanges", "internal/bytealg.MaxLen"], apart := false, laid := [("unicode/utf8.acceptRanges", laid_unicode_utf8_acceptRanges), ("unicode/utf8.first", laid_unicode_utf8_first)], narrowed := true }
def SyntaxNumbersUptoSaid : Prop := syntaxNumbersUptoRow.holds Tryd.pinned (OpenSpec.upto syntaxNumbersSpec)

/-- 'quaysidelaw01.SyntaxElements', WHERE WHAT IT READS IS OF BULK AT MOST 1048576: true; the input reads as it did. -/
def syntaxElementsUptoRow : OpenClaim := { program := "ytjcgognngeagiaadoor", sum := "e8743785ee8367054d9b40bee912cfe80e71154e43489600e198195aeff531d8", func := "quayside/quaysidelaw01.SyntaxElements", spec := "syntaxElements", inPlace := ["internal/bytealg.IndexByteString", "internal/bytealg.IndexString"], named := ["unicode/utf8.first", "unicode/utf8.acceptRanges", "internal/bytealg.MaxLen"], apart := false, laid := [("unicode/utf8.acceptRanges", laid_unicode_utf8_acceptRanges), ("unicode/utf8.first", laid_unicode_utf8_first)], narrowed := true }
def SyntaxElementsUptoSaid : Prop := syntaxElementsUptoRow.holds Tryd.pinned (OpenSpec.upto syntaxElementsSpec)

/-- 'quaysidelaw01.SyntaxUnquotes', WHERE WHAT IT READS IS OF BULK AT MOST 1048576: true; the input reads as it did. -/
def syntaxUnquotesUptoRow : OpenClaim := { program := "ytjcgognngeagiaadoor", sum := "e8743785ee8367054d9b40bee912cfe80e71154e43489600e198195aeff531d8", func := "quayside/quaysidelaw01.SyntaxUnquotes", spec := "syntaxUnquotes", inPlace := ["internal/bytealg.IndexByteString", "internal/bytealg.IndexString"], named := ["unicode/utf8.first", "unicode/utf8.acceptRanges", "internal/bytealg.MaxLen"], apart := false, laid := [("unicode/utf8.acceptRanges", laid_unicode_utf8_acceptRanges), ("unicode/utf8.first", laid_unicode_utf8_first)], narrowed := true }
def SyntaxUnquotesUptoSaid : Prop := syntaxUnquotesUptoRow.holds Tryd.pinned (OpenSpec.upto syntaxUnquotesSpec)

/-- 'quaysidelaw01.SyntaxQuotes', WHERE WHAT IT READS IS OF BULK AT MOST 1048576: true; the input reads as it did. -/
def syntaxQuotesUptoRow : OpenClaim := { program := "ytjcgognngeagiaadoor", sum := "e8743785ee8367054d9b40bee912cfe80e71154e43489600e198195aeff531d8", func := "quayside/quaysidelaw01.SyntaxQuotes", spec := "syntaxQuotes", inPlace := ["internal/bytealg.IndexByteString", "internal/bytealg.IndexString"], named := ["unicode/utf8.first", "unicode/utf8.acceptRanges", "internal/bytealg.MaxLen"], apart := false, laid := [("unicode/utf8.acceptRanges", laid_unicode_utf8_acceptRanges), ("unicode/utf8.first", laid_unicode_utf8_first)], narrowed := true }
def SyntaxQuotesUptoSaid : Prop := syntaxQuotesUptoRow.holds Tryd.pinned (OpenSpec.upto syntaxQuotesSpec)

/-- 'quaysidelaw01.SyntaxSplits', WHERE WHAT IT READS IS OF BULK AT MOST 1048576: true; the input reads as it did. -/
def syntaxSplitsUptoRow : OpenClaim := { program := "ytjcgognngeagiaadoor", sum := "e8743785ee8367054d9b40bee912cfe80e71154e43489600e198195aeff531d8", func := "quayside/quaysidelaw01.SyntaxSplits", spec := "syntaxSplits", inPlace := ["internal/bytealg.IndexByteString", "internal/bytealg.IndexString"], named := ["unicode/utf8.first", "unicode/utf8.acceptRanges", "internal/bytealg.MaxLen"], apart := false, laid := [("unicode/utf8.acceptRanges", laid_unicode_utf8_acceptRanges), ("unicode/utf8.first", laid_unicode_utf8_first)], narrowed := true }
def SyntaxSplitsUptoSaid : Prop := syntaxSplitsUptoRow.holds Tryd.pinned (OpenSpec.upto syntaxSplitsSpec)

/-- 'quaysidelaw01.SyntaxJoins', WHERE WHAT IT READS IS OF BULK AT MOST 1048576: true; the input reads as it did. -/
def syntaxJoinsUptoRow : OpenClaim := { program := "ytjcgognngeagiaadoor", sum := "e8743785ee8367054d9b40bee912cfe80e71154e43489600e198195aeff531d8", func := "quayside/quaysidelaw01.SyntaxJoins", spec := "syntaxJoins", inPlace := ["internal/bytealg.IndexByteString", "internal/bytealg.IndexString"], named := ["unicode/utf8.first", "unicode/utf8.acceptRanges", "internal/bytealg.MaxLen"], apart := false, laid := [("unicode/utf8.acceptRanges", laid_unicode_utf8_acceptRanges), ("unicode/utf8.first", laid_unicode_utf8_first)], narrowed := true }
def SyntaxJoinsUptoSaid : Prop := syntaxJoinsUptoRow.holds Tryd.pinned (OpenSpec.upto syntaxJoinsSpec)

end Rows
end Go.Proofs.YtjcgognngeagiaaDoor
