/-
  NARROWER THAN 'FOR EVERY INPUT', by the rows' own cells (each row's printed sentence says how): FramingRequests: laid · FramingRepeats: laid · FramingResponses: laid · FramingBodiless: laid · FramingNames: laid · FramingLenient: laid · FramingAgrees: laid · FramingSmuggles: laid.
  DERIVED. THE GIVEN ROWS OF THIS SEAT. 8 by the template 'for every input the law returns true; each argument reads behind the call as it read before'; 0 by the template 'total and deterministic' (their statements: YtodgkppjabhhlaaDoorTotals.lean).
  GIVEN WITH THE SEED: the statements are not yours to turn. If you find one false, say at which input.
  Laid BY PROGRAM, IN A SANDBOX (cutbox-rows.mjs): the forced cells as the released guide's own fill.sh prints them over the translation 504a5a29d7f99a05… (all of the seat's roots in one cut). By AI agents, Wed Nov 11 2026. No macro, syntax, notation, axiom, sorry.
-/
import Derived.Test.YtodgkppjabhhlaaDoorChecked
import GoSem.PinnedTables
import GoSem.Claim
import GoSem.ClaimJoined
import GoSem.ClaimMapViews
import Derived.JoinedTies
import Derived.KernelRfl
namespace Go.Proofs.YtodgkppjabhhlaaDoor
/- THE CELL 'sum', in the pinned program and in every row, IS THE sha256 OF THE DUMP (.gsa) THAT YtodgkppjabhhlaaDoorProg.lean LOADS. Nothing in Lean hashes anything: it is a label: what it is worth is what the hold of that sum in a sandbox is worth. -/
noncomputable def Tryd.pinned : Pinned := { name := "ytodgkppjabhhlaadoor", sum := "504a5a29d7f99a05bcbd4a1a54d1968896544cd6f2e6beb0587c0f38654fe6d5", checked := Tryd.checked }
namespace Rows
def none {H : Type} : Left H := { results := [], args := [] }

/- WHAT THE LISTED PACKAGE-LEVEL VARIABLES READ AS WHEN THE CALL BEGINS. Each datum BY PROGRAM (the guide's laid-datum.mjs) off the statement by which the dump's own 'gosem.cut.vars' lays the variable. In a bare row this is a premise. The card (YtodgkppjabhhlaaDoorCards.lean) ties it to the program's text. -/
def laid_unicode_utf8_acceptRanges {H : Type} : DataW H := .agg [.agg [.lit (.int .u8 128), .lit (.int .u8 191)], .agg [.lit (.int .u8 160), .lit (.int .u8 191)], .agg [.lit (.int .u8 128), .lit (.int .u8 159)], .agg [.lit (.int .u8 144), .lit (.int .u8 191)], .agg [.lit (.int .u8 128), .lit (.int .u8 143)], .agg [.lit (.int .u8 0), .lit (.int .u8 0)], .agg [.lit (.int .u8 0), .lit (.int .u8 0)], .agg [.lit (.int .u8 0), .lit (.int .u8 0)], .agg [.lit (.int .u8 0), .lit (.int .u8 0)], .agg [.lit (.int .u8 0), .lit (.int .u8 0)], .agg [.lit (.int .u8 0), .lit (.int .u8 0)], .agg [.lit (.int .u8 0), .lit (.int .u8 0)], .agg [.lit (.int .u8 0), .lit (.int .u8 0)], .agg [.lit (.int .u8 0), .lit (.int .u8 0)], .agg [.lit (.int .u8 0), .lit (.int .u8 0)], .agg [.lit (.int .u8 0), .lit (.int .u8 0)]]
/-- One of Go's own tables, pinned by name: the form's constant. -/
def laid_unicode_utf8_first : DataW Unit := Go.Pinned.utf8First

/-- 'quaysidelaw06.FramingRequests': WHATEVER THE INPUT: true; the input reads as it did. -/
def framingRequestsSpec : ChangeSpec := { name := "framingRequests", fn := fun _ => fun
  | [d] => { results := [.lit (.bool true)], args := [d] }
  | _ => none }
def framingRequestsRow : OpenClaim := { program := "ytodgkppjabhhlaadoor", sum := "504a5a29d7f99a05bcbd4a1a54d1968896544cd6f2e6beb0587c0f38654fe6d5", func := "quayside/quaysidelaw06.FramingRequests", spec := "framingRequests", inPlace := ["internal/bytealg.IndexByteString", "internal/bytealg.IndexString"], named := ["unicode/utf8.first", "unicode/utf8.acceptRanges", "internal/bytealg.MaxLen"], apart := false, laid := [("unicode/utf8.acceptRanges", laid_unicode_utf8_acceptRanges), ("unicode/utf8.first", laid_unicode_utf8_first)] }
def FramingRequestsSaid : Prop := framingRequestsRow.holds Tryd.pinned (OpenSpec.ofChange framingRequestsSpec)

/-- ITS FALSE NEIGHBOUR: 'it returns false'. Refute it at one input. -/
def framingRequestsWrong : ChangeSpec := { name := "framingRequests", fn := fun _ => fun
  | [d] => { results := [.lit (.bool false)], args := [d] }
  | _ => none }
def FramingRequestsWrongFalsely : Prop := framingRequestsRow.holds Tryd.pinned (OpenSpec.ofChange framingRequestsWrong)

/-- 'quaysidelaw06.FramingRepeats': WHATEVER THE INPUT: true; the input reads as it did. -/
def framingRepeatsSpec : ChangeSpec := { name := "framingRepeats", fn := fun _ => fun
  | [d1, d2, d3] => { results := [.lit (.bool true)], args := [d1, d2, d3] }
  | _ => none }
def framingRepeatsRow : OpenClaim := { program := "ytodgkppjabhhlaadoor", sum := "504a5a29d7f99a05bcbd4a1a54d1968896544cd6f2e6beb0587c0f38654fe6d5", func := "quayside/quaysidelaw06.FramingRepeats", spec := "framingRepeats", inPlace := ["internal/bytealg.IndexByteString", "internal/bytealg.IndexString"], named := ["unicode/utf8.first", "unicode/utf8.acceptRanges", "internal/bytealg.MaxLen"], apart := false, laid := [("unicode/utf8.acceptRanges", laid_unicode_utf8_acceptRanges), ("unicode/utf8.first", laid_unicode_utf8_first)] }
def FramingRepeatsSaid : Prop := framingRepeatsRow.holds Tryd.pinned (OpenSpec.ofChange framingRepeatsSpec)

/-- ITS FALSE NEIGHBOUR: 'it returns false'. Refute it at one input. -/
def framingRepeatsWrong : ChangeSpec := { name := "framingRepeats", fn := fun _ => fun
  | [d1, d2, d3] => { results := [.lit (.bool false)], args := [d1, d2, d3] }
  | _ => none }
def FramingRepeatsWrongFalsely : Prop := framingRepeatsRow.holds Tryd.pinned (OpenSpec.ofChange framingRepeatsWrong)

/-- 'quaysidelaw06.FramingResponses': WHATEVER THE INPUT: true; the input reads as it did. -/
def framingResponsesSpec : ChangeSpec := { name := "framingResponses", fn := fun _ => fun
  | [d1, d2] => { results := [.lit (.bool true)], args := [d1, d2] }
  | _ => none }
def framingResponsesRow : OpenClaim := { program := "ytodgkppjabhhlaadoor", sum := "504a5a29d7f99a05bcbd4a1a54d1968896544cd6f2e6beb0587c0f38654fe6d5", func := "quayside/quaysidelaw06.FramingResponses", spec := "framingResponses", inPlace := ["internal/bytealg.IndexByteString", "internal/bytealg.IndexString"], named := ["unicode/utf8.first", "unicode/utf8.acceptRanges", "internal/bytealg.MaxLen"], apart := false, laid := [("unicode/utf8.acceptRanges", laid_unicode_utf8_acceptRanges), ("unicode/utf8.first", laid_unicode_utf8_first)] }
def FramingResponsesSaid : Prop := framingResponsesRow.holds Tryd.pinned (OpenSpec.ofChange framingResponsesSpec)

/-- ITS FALSE NEIGHBOUR: 'it returns false'. Refute it at one input. -/
def framingResponsesWrong : ChangeSpec := { name := "framingResponses", fn := fun _ => fun
  | [d1, d2] => { results := [.lit (.bool false)], args := [d1, d2] }
  | _ => none }
def FramingResponsesWrongFalsely : Prop := framingResponsesRow.holds Tryd.pinned (OpenSpec.ofChange framingResponsesWrong)

/-- 'quaysidelaw06.FramingBodiless': WHATEVER THE INPUT: true; the input reads as it did. -/
def framingBodilessSpec : ChangeSpec := { name := "framingBodiless", fn := fun _ => fun
  | [d1, d2] => { results := [.lit (.bool true)], args := [d1, d2] }
  | _ => none }
def framingBodilessRow : OpenClaim := { program := "ytodgkppjabhhlaadoor", sum := "504a5a29d7f99a05bcbd4a1a54d1968896544cd6f2e6beb0587c0f38654fe6d5", func := "quayside/quaysidelaw06.FramingBodiless", spec := "framingBodiless", inPlace := ["internal/bytealg.IndexByteString", "internal/bytealg.IndexString"], named := ["unicode/utf8.first", "unicode/utf8.acceptRanges", "internal/bytealg.MaxLen"], apart := false, laid := [("unicode/utf8.acceptRanges", laid_unicode_utf8_acceptRanges), ("unicode/utf8.first", laid_unicode_utf8_first)] }
def FramingBodilessSaid : Prop := framingBodilessRow.holds Tryd.pinned (OpenSpec.ofChange framingBodilessSpec)

/-- ITS FALSE NEIGHBOUR: 'it returns false'. Refute it at one input. -/
def framingBodilessWrong : ChangeSpec := { name := "framingBodiless", fn := fun _ => fun
  | [d1, d2] => { results := [.lit (.bool false)], args := [d1, d2] }
  | _ => none }
def FramingBodilessWrongFalsely : Prop := framingBodilessRow.holds Tryd.pinned (OpenSpec.ofChange framingBodilessWrong)

/-- 'quaysidelaw06.FramingNames': WHATEVER THE INPUT: true; the input reads as it did. -/
def framingNamesSpec : ChangeSpec := { name := "framingNames", fn := fun _ => fun
  | [d] => { results := [.lit (.bool true)], args := [d] }
  | _ => none }
def framingNamesRow : OpenClaim := { program := "ytodgkppjabhhlaadoor", sum := "504a5a29d7f99a05bcbd4a1a54d1968896544cd6f2e6beb0587c0f38654fe6d5", func := "quayside/quaysidelaw06.FramingNames", spec := "framingNames", inPlace := ["internal/bytealg.IndexByteString", "internal/bytealg.IndexString"], named := ["unicode/utf8.first", "unicode/utf8.acceptRanges", "internal/bytealg.MaxLen"], apart := false, laid := [("unicode/utf8.acceptRanges", laid_unicode_utf8_acceptRanges), ("unicode/utf8.first", laid_unicode_utf8_first)] }
def FramingNamesSaid : Prop := framingNamesRow.holds Tryd.pinned (OpenSpec.ofChange framingNamesSpec)

/-- ITS FALSE NEIGHBOUR: 'it returns false'. Refute it at one input. -/
def framingNamesWrong : ChangeSpec := { name := "framingNames", fn := fun _ => fun
  | [d] => { results := [.lit (.bool false)], args := [d] }
  | _ => none }
def FramingNamesWrongFalsely : Prop := framingNamesRow.holds Tryd.pinned (OpenSpec.ofChange framingNamesWrong)

/-- 'quaysidelaw06.FramingLenient': WHATEVER THE INPUT: true; the input reads as it did. -/
def framingLenientSpec : ChangeSpec := { name := "framingLenient", fn := fun _ => fun
  | [d] => { results := [.lit (.bool true)], args := [d] }
  | _ => none }
def framingLenientRow : OpenClaim := { program := "ytodgkppjabhhlaadoor", sum := "504a5a29d7f99a05bcbd4a1a54d1968896544cd6f2e6beb0587c0f38654fe6d5", func := "quayside/quaysidelaw06.FramingLenient", spec := "framingLenient", inPlace := ["internal/bytealg.IndexByteString", "internal/bytealg.IndexString", "internal/bytealg.CountString"], named := ["unicode/utf8.first", "unicode/utf8.acceptRanges", "internal/bytealg.MaxLen"], apart := false, laid := [("unicode/utf8.acceptRanges", laid_unicode_utf8_acceptRanges), ("unicode/utf8.first", laid_unicode_utf8_first)] }
def FramingLenientSaid : Prop := framingLenientRow.holds Tryd.pinned (OpenSpec.ofChange framingLenientSpec)

/-- ITS FALSE NEIGHBOUR: 'it returns false'. Refute it at one input. -/
def framingLenientWrong : ChangeSpec := { name := "framingLenient", fn := fun _ => fun
  | [d] => { results := [.lit (.bool false)], args := [d] }
  | _ => none }
def FramingLenientWrongFalsely : Prop := framingLenientRow.holds Tryd.pinned (OpenSpec.ofChange framingLenientWrong)

/-- 'quaysidelaw06.FramingAgrees': WHATEVER THE INPUT: true; the input reads as it did. -/
def framingAgreesSpec : ChangeSpec := { name := "framingAgrees", fn := fun _ => fun
  | [d] => { results := [.lit (.bool true)], args := [d] }
  | _ => none }
def framingAgreesRow : OpenClaim := { program := "ytodgkppjabhhlaadoor", sum := "504a5a29d7f99a05bcbd4a1a54d1968896544cd6f2e6beb0587c0f38654fe6d5", func := "quayside/quaysidelaw06.FramingAgrees", spec := "framingAgrees", inPlace := ["internal/bytealg.IndexByteString", "internal/bytealg.IndexString", "internal/bytealg.CountString"], named := ["unicode/utf8.first", "unicode/utf8.acceptRanges", "internal/bytealg.MaxLen"], apart := false, laid := [("unicode/utf8.acceptRanges", laid_unicode_utf8_acceptRanges), ("unicode/utf8.first", laid_unicode_utf8_first)] }
def FramingAgreesSaid : Prop := framingAgreesRow.holds Tryd.pinned (OpenSpec.ofChange framingAgreesSpec)

/-- ITS FALSE NEIGHBOUR: 'it returns false'. Refute it at one input. -/
def framingAgreesWrong : ChangeSpec := { name := "framingAgrees", fn := fun _ => fun
  | [d] => { results := [.lit (.bool false)], args := [d] }
  | _ => none }
def FramingAgreesWrongFalsely : Prop := framingAgreesRow.holds Tryd.pinned (OpenSpec.ofChange framingAgreesWrong)

/-- 'quaysidelaw06.FramingSmuggles': WHATEVER THE INPUT: true; the input reads as it did. -/
def framingSmugglesSpec : ChangeSpec := { name := "framingSmuggles", fn := fun _ => fun
  | [d1, d2, d3] => { results := [.lit (.bool true)], args := [d1, d2, d3] }
  | _ => none }
def framingSmugglesRow : OpenClaim := { program := "ytodgkppjabhhlaadoor", sum := "504a5a29d7f99a05bcbd4a1a54d1968896544cd6f2e6beb0587c0f38654fe6d5", func := "quayside/quaysidelaw06.FramingSmuggles", spec := "framingSmuggles", inPlace := ["internal/bytealg.IndexByteString", "internal/bytealg.IndexString", "internal/bytealg.CountString"], named := ["unicode/utf8.first", "unicode/utf8.acceptRanges", "internal/bytealg.MaxLen"], apart := false, laid := [("unicode/utf8.acceptRanges", laid_unicode_utf8_acceptRanges), ("unicode/utf8.first", laid_unicode_utf8_first)] }
def FramingSmugglesSaid : Prop := framingSmugglesRow.holds Tryd.pinned (OpenSpec.ofChange framingSmugglesSpec)

/-- ITS FALSE NEIGHBOUR: 'it returns false'. Refute it at one input. -/
def framingSmugglesWrong : ChangeSpec := { name := "framingSmuggles", fn := fun _ => fun
  | [d1, d2, d3] => { results := [.lit (.bool false)], args := [d1, d2, d3] }
  | _ => none }
def FramingSmugglesWrongFalsely : Prop := framingSmugglesRow.holds Tryd.pinned (OpenSpec.ofChange framingSmugglesWrong)

/- THE SECOND FORM. 'bulk': how many values and letters a reading holds, each counted each time it is reached (what is shared counts as often as it is met; a slice's spare places count too). A statement '..UptoSaid' is the law's where the arguments, and the package variables that the reading takes, are together of bulk at most 1048576: NARROWER than '..Said'. Prove '..Said' where nothing that the law and all that it calls make is longer than what came in: it says more and counts as full. Else prove '..UptoSaid'. A law counts once. -/
mutual
def uptoBulk {H : Type} : DataW H → Nat
  | .lit (.string bytes) => bytes.length + 1
  | .lit _ => 1
  | .nil => 1
  | .ptr d => uptoBulk d + 1
  | .slice elems spare => uptoBulkAll elems + uptoBulkAll spare + 1
  | .agg parts => uptoBulkAll parts + 1
  | .iface _ d => uptoBulk d + 1
  | .map entries => uptoBulkEntries entries + 1
  | .held _ => 1
def uptoBulkAll {H : Type} : List (DataW H) → Nat
  | [] => 0
  | d :: r => uptoBulk d + uptoBulkAll r
def uptoBulkEntries {H : Type} : List (Lit × DataW H) → Nat
  | [] => 0
  | x :: r => uptoBulkEntry x + uptoBulkEntries r
def uptoBulkEntry {H : Type} : Lit × DataW H → Nat
  | (.string bytes, d) => bytes.length + uptoBulk d + 1
  | (_, d) => uptoBulk d + 1
 end
def uptoSmall : (H : Type) → List (DataW H) → Bool := fun _ ds => decide (uptoBulkAll ds ≤ 1048576)
def OpenSpec.upto (s : _root_.Go.ChangeSpec) : _root_.Go.OpenSpec := { _root_.Go.OpenSpec.ofChange s with cond := some uptoSmall }

/-- 'quaysidelaw06.FramingRequests', WHERE WHAT IT READS IS OF BULK AT MOST 1048576: true; the input reads as it did. -/
def framingRequestsUptoRow : OpenClaim := { program := "ytodgkppjabhhlaadoor", sum := "504a5a29d7f99a05bcbd4a1a54d1968896544cd6f2e6beb0587c0f38654fe6d5", func := "quayside/quaysidelaw06.FramingRequests", spec := "framingRequests", inPlace := ["internal/bytealg.IndexByteString", "internal/bytealg.IndexString"], named := ["unicode/utf8.first", "unicode/utf8.acceptRanges", "internal/bytealg.MaxLen"], apart := false, laid := [("unicode/utf8.acceptRanges", laid_unicode_utf8_acceptRanges), ("unicode/utf8.first", laid_unicode_utf8_first)], narrowed := true }
def FramingRequestsUptoSaid : Prop := framingRequestsUptoRow.holds Tryd.pinned (OpenSpec.upto framingRequestsSpec)

/-- 'quaysidelaw06.FramingRepeats', WHERE WHAT IT READS IS OF BULK AT MOST 1048576: true; the input reads as it did. -/
def framingRepeatsUptoRow : OpenClaim := { program := "ytodgkppjabhhlaadoor", sum := "504a5a29d7f99a05bcbd4a1a54d1968896544cd6f2e6beb0587c0f38654fe6d5", func := "quayside/quaysidelaw06.FramingRepeats", spec := "framingRepeats", inPlace := ["internal/bytealg.IndexByteString", "internal/bytealg.IndexString"], named := ["unicode/utf8.first", "unicode/utf8.acceptRanges", "internal/bytealg.MaxLen"], apart := false, laid := [("unicode/utf8.acceptRanges", laid_unicode_utf8_acceptRanges), ("unicode/utf8.first", laid_unicode_utf8_first)], narrowed := true }
def FramingRepeatsUptoSaid : Prop := framingRepeatsUptoRow.holds Tryd.pinned (OpenSpec.upto framingRepeatsSpec)

/-- 'quaysidelaw06.FramingResponses', WHERE WHAT IT READS IS OF BULK AT MOST 1048576: true; the input reads as it did. -/
def framingResponsesUptoRow : OpenClaim := { program := "ytodgkppjabhhlaadoor", sum := "504a5a29d7f99a05bcbd4a1a54d1968896544cd6f2e6beb0587c0f38654fe6d5", func := "quayside/quaysidelaw06.FramingResponses", spec := "framingResponses", inPlace := ["internal/bytealg.IndexByteString", "internal/bytealg.IndexString"], named := ["unicode/utf8.first", "unicode/utf8.acceptRanges", "internal/bytealg.MaxLen"], apart := false, laid := [("unicode/utf8.acceptRanges", laid_unicode_utf8_acceptRanges), ("unicode/utf8.first", laid_unicode_utf8_first)], narrowed := true }
def FramingResponsesUptoSaid : Prop := framingResponsesUptoRow.holds Tryd.pinned (OpenSpec.upto framingResponsesSpec)

/-- 'quaysidelaw06.FramingBodiless', WHERE WHAT IT READS IS OF BULK AT MOST 1048576: true; the input reads as it did. -/
def framingBodilessUptoRow : OpenClaim := { program := "ytodgkppjabhhlaadoor", sum := "504a5a29d7f99a05bcbd4a1a54d1968896544cd6f2e6beb0587c0f38654fe6d5", func := "quayside/quaysidelaw06.FramingBodiless", spec := "framingBodiless", inPlace := ["internal/bytealg.IndexByteString", "internal/bytealg.IndexString"], named := ["unicode/utf8.first", "unicode/utf8.acceptRanges", "internal/bytealg.MaxLen"], apart := false, laid := [("unicode/utf8.acceptRanges", laid_unicode_utf8_acceptRanges), ("unicode/utf8.first", laid_unicode_utf8_first)], narrowed := true }
def FramingBodilessUptoSaid : Prop := framingBodilessUptoRow.holds Tryd.pinned (OpenSpec.upto framingBodilessSpec)

/-- 'quaysidelaw06.FramingNames', WHERE WHAT IT READS IS OF BULK AT MOST 1048576: true; the input reads as it did. -/
def framingNamesUptoRow : OpenClaim := { program := "ytodgkppjabhhlaadoor", sum := "504a5a29d7f99a05bcbd4a1a54d1968896544cd6f2e6beb0587c0f38654fe6d5", func := "quayside/quaysidelaw06.FramingNames", spec := "framingNames", inPlace := ["internal/bytealg.IndexByteString", "internal/bytealg.IndexString"], named := ["unicode/utf8.first", "unicode/utf8.acceptRanges", "internal/bytealg.MaxLen"], apart := false, laid := [("unicode/utf8.acceptRanges", laid_unicode_utf8_acceptRanges), ("unicode/utf8.first", laid_unicode_utf8_first)], narrowed := true }
def FramingNamesUptoSaid : Prop := framingNamesUptoRow.holds Tryd.pinned (OpenSpec.upto framingNamesSpec)

/-- 'quaysidelaw06.FramingLenient', WHERE WHAT IT READS IS OF BULK AT MOST 1048576: true; the input reads as it did. -/
def framingLenientUptoRow : OpenClaim := { program := "ytodgkppjabhhlaadoor", sum := "504a5a29d7f99a05bcbd4a1a54d1968896544cd6f2e6beb0587c0f38654fe6d5", func := "quayside/quaysidelaw06.FramingLenient", spec := "framingLenient", inPlace := ["internal/bytealg.IndexByteString", "internal/bytealg.IndexString", "internal/bytealg.CountString"], named := ["unicode/utf8.first", "unicode/utf8.acceptRanges", "internal/bytealg.MaxLen"], apart := false, laid := [("unicode/utf8.acceptRanges", laid_unicode_utf8_acceptRanges), ("unicode/utf8.first", laid_unicode_utf8_first)], narrowed := true }
def FramingLenientUptoSaid : Prop := framingLenientUptoRow.holds Tryd.pinned (OpenSpec.upto framingLenientSpec)

/-- 'quaysidelaw06.FramingAgrees', WHERE WHAT IT READS IS OF BULK AT MOST 1048576: true; the input reads as it did. -/
def framingAgreesUptoRow : OpenClaim := { program := "ytodgkppjabhhlaadoor", sum := "504a5a29d7f99a05bcbd4a1a54d1968896544cd6f2e6beb0587c0f38654fe6d5", func := "quayside/quaysidelaw06.FramingAgrees", spec := "framingAgrees", inPlace := ["internal/bytealg.IndexByteString", "internal/bytealg.IndexString", "internal/bytealg.CountString"], named := ["unicode/utf8.first", "unicode/utf8.acceptRanges", "internal/bytealg.MaxLen"], apart := false, laid := [("unicode/utf8.acceptRanges", laid_unicode_utf8_acceptRanges), ("unicode/utf8.first", laid_unicode_utf8_first)], narrowed := true }
def FramingAgreesUptoSaid : Prop := framingAgreesUptoRow.holds Tryd.pinned (OpenSpec.upto framingAgreesSpec)

/-- 'quaysidelaw06.FramingSmuggles', WHERE WHAT IT READS IS OF BULK AT MOST 1048576: true; the input reads as it did. -/
def framingSmugglesUptoRow : OpenClaim := { program := "ytodgkppjabhhlaadoor", sum := "504a5a29d7f99a05bcbd4a1a54d1968896544cd6f2e6beb0587c0f38654fe6d5", func := "quayside/quaysidelaw06.FramingSmuggles", spec := "framingSmuggles", inPlace := ["internal/bytealg.IndexByteString", "internal/bytealg.IndexString", "internal/bytealg.CountString"], named := ["unicode/utf8.first", "unicode/utf8.acceptRanges", "internal/bytealg.MaxLen"], apart := false, laid := [("unicode/utf8.acceptRanges", laid_unicode_utf8_acceptRanges), ("unicode/utf8.first", laid_unicode_utf8_first)], narrowed := true }
def FramingSmugglesUptoSaid : Prop := framingSmugglesUptoRow.holds Tryd.pinned (OpenSpec.upto framingSmugglesSpec)

end Rows
end Go.Proofs.YtodgkppjabhhlaaDoor
