/-
  NARROWER THAN 'FOR EVERY INPUT', by the rows' own cells (each row's printed sentence says how): TierVias: laid · TierReturns: laid · TierChecks: laid · TierShields: laid.
  DERIVED. THE GIVEN ROWS OF THIS SEAT. 4 by the template 'for every input the law returns true; each argument reads behind the call as it read before'; 0 by the template 'total and deterministic' (their statements: YtkcipebpknapkaaDoorTotals.lean).
  GIVEN WITH THE SEED: the statements are not yours to turn. If you find one false, say at which input.
  Laid BY PROGRAM, IN A SANDBOX (cutbox-rows.mjs): the forced cells as the released guide's own fill.sh prints them over the translation 4b3a9aaa3687911c… (all of the seat's roots in one cut). By AI agents, Wed Nov 11 2026. No macro, syntax, notation, axiom, sorry.
-/
import Derived.Test.YtkcipebpknapkaaDoorChecked
import GoSem.PinnedTables
import GoSem.Claim
import GoSem.ClaimJoined
import GoSem.ClaimMapViews
import Derived.JoinedTies
import Derived.KernelRfl
namespace Go.Proofs.YtkcipebpknapkaaDoor
/- THE CELL 'sum', in the pinned program and in every row, IS THE sha256 OF THE DUMP (.gsa) THAT YtkcipebpknapkaaDoorProg.lean LOADS. Nothing in Lean hashes anything: it is a label: what it is worth is what the hold of that sum in a sandbox is worth. -/
noncomputable def Tryd.pinned : Pinned := { name := "ytkcipebpknapkaadoor", sum := "4b3a9aaa3687911cefb826b41dba9c9d4bc82308f909d1f711cb6b9062bcb70b", checked := Tryd.checked }
namespace Rows
def none {H : Type} : Left H := { results := [], args := [] }

/- WHAT THE LISTED PACKAGE-LEVEL VARIABLES READ AS WHEN THE CALL BEGINS. Each datum BY PROGRAM (the guide's laid-datum.mjs) off the statement by which the dump's own 'gosem.cut.vars' lays the variable. In a bare row this is a premise. The card (YtkcipebpknapkaaDoorCards.lean) ties it to the program's text. -/
def laid_unicode_utf8_acceptRanges {H : Type} : DataW H := .agg [.agg [.lit (.int .u8 128), .lit (.int .u8 191)], .agg [.lit (.int .u8 160), .lit (.int .u8 191)], .agg [.lit (.int .u8 128), .lit (.int .u8 159)], .agg [.lit (.int .u8 144), .lit (.int .u8 191)], .agg [.lit (.int .u8 128), .lit (.int .u8 143)], .agg [.lit (.int .u8 0), .lit (.int .u8 0)], .agg [.lit (.int .u8 0), .lit (.int .u8 0)], .agg [.lit (.int .u8 0), .lit (.int .u8 0)], .agg [.lit (.int .u8 0), .lit (.int .u8 0)], .agg [.lit (.int .u8 0), .lit (.int .u8 0)], .agg [.lit (.int .u8 0), .lit (.int .u8 0)], .agg [.lit (.int .u8 0), .lit (.int .u8 0)], .agg [.lit (.int .u8 0), .lit (.int .u8 0)], .agg [.lit (.int .u8 0), .lit (.int .u8 0)], .agg [.lit (.int .u8 0), .lit (.int .u8 0)], .agg [.lit (.int .u8 0), .lit (.int .u8 0)]]
/-- One of Go's own tables, pinned by name: the form's constant. -/
def laid_unicode_utf8_first : DataW Unit := Go.Pinned.utf8First

/-- 'quaysidelaw33.TierVias': WHATEVER THE INPUT: true; the input reads as it did. -/
def tierViasSpec : ChangeSpec := { name := "tierVias", fn := fun _ => fun
  | [d1, d2] => { results := [.lit (.bool true)], args := [d1, d2] }
  | _ => none }
def tierViasRow : OpenClaim := { program := "ytkcipebpknapkaadoor", sum := "4b3a9aaa3687911cefb826b41dba9c9d4bc82308f909d1f711cb6b9062bcb70b", func := "quayside/quaysidelaw33.TierVias", spec := "tierVias", inPlace := ["internal/bytealg.IndexByteString", "internal/bytealg.IndexString", "internal/abi.NoEscape", "internal/bytealg.MakeNoZero"], named := ["unicode/utf8.first", "unicode/utf8.acceptRanges", "internal/bytealg.MaxLen"], apart := false, laid := [("unicode/utf8.acceptRanges", laid_unicode_utf8_acceptRanges), ("unicode/utf8.first", laid_unicode_utf8_first)] }
def TierViasSaid : Prop := tierViasRow.holds Tryd.pinned (OpenSpec.ofChange tierViasSpec)

/-- ITS FALSE NEIGHBOUR: 'it returns false'. Refute it at one input. -/
def tierViasWrong : ChangeSpec := { name := "tierVias", fn := fun _ => fun
  | [d1, d2] => { results := [.lit (.bool false)], args := [d1, d2] }
  | _ => none }
def TierViasWrongFalsely : Prop := tierViasRow.holds Tryd.pinned (OpenSpec.ofChange tierViasWrong)

/-- 'quaysidelaw33.TierReturns': WHATEVER THE INPUT: true; the input reads as it did. -/
def tierReturnsSpec : ChangeSpec := { name := "tierReturns", fn := fun _ => fun
  | [d] => { results := [.lit (.bool true)], args := [d] }
  | _ => none }
def tierReturnsRow : OpenClaim := { program := "ytkcipebpknapkaadoor", sum := "4b3a9aaa3687911cefb826b41dba9c9d4bc82308f909d1f711cb6b9062bcb70b", func := "quayside/quaysidelaw33.TierReturns", spec := "tierReturns", inPlace := ["internal/bytealg.IndexByteString", "internal/bytealg.IndexString", "internal/abi.NoEscape", "internal/bytealg.MakeNoZero"], named := ["unicode/utf8.first", "unicode/utf8.acceptRanges", "internal/bytealg.MaxLen"], apart := false, laid := [("unicode/utf8.acceptRanges", laid_unicode_utf8_acceptRanges), ("unicode/utf8.first", laid_unicode_utf8_first)] }
def TierReturnsSaid : Prop := tierReturnsRow.holds Tryd.pinned (OpenSpec.ofChange tierReturnsSpec)

/-- ITS FALSE NEIGHBOUR: 'it returns false'. Refute it at one input. -/
def tierReturnsWrong : ChangeSpec := { name := "tierReturns", fn := fun _ => fun
  | [d] => { results := [.lit (.bool false)], args := [d] }
  | _ => none }
def TierReturnsWrongFalsely : Prop := tierReturnsRow.holds Tryd.pinned (OpenSpec.ofChange tierReturnsWrong)

/-- 'quaysidelaw33.TierChecks': WHATEVER THE INPUT: true; the input reads as it did. -/
def tierChecksSpec : ChangeSpec := { name := "tierChecks", fn := fun _ => fun
  | [d] => { results := [.lit (.bool true)], args := [d] }
  | _ => none }
def tierChecksRow : OpenClaim := { program := "ytkcipebpknapkaadoor", sum := "4b3a9aaa3687911cefb826b41dba9c9d4bc82308f909d1f711cb6b9062bcb70b", func := "quayside/quaysidelaw33.TierChecks", spec := "tierChecks", inPlace := ["internal/bytealg.IndexByteString", "internal/bytealg.IndexString", "internal/abi.NoEscape", "internal/bytealg.MakeNoZero"], named := ["unicode/utf8.first", "unicode/utf8.acceptRanges", "internal/bytealg.MaxLen"], apart := false, laid := [("unicode/utf8.acceptRanges", laid_unicode_utf8_acceptRanges), ("unicode/utf8.first", laid_unicode_utf8_first)] }
def TierChecksSaid : Prop := tierChecksRow.holds Tryd.pinned (OpenSpec.ofChange tierChecksSpec)

/-- ITS FALSE NEIGHBOUR: 'it returns false'. Refute it at one input. -/
def tierChecksWrong : ChangeSpec := { name := "tierChecks", fn := fun _ => fun
  | [d] => { results := [.lit (.bool false)], args := [d] }
  | _ => none }
def TierChecksWrongFalsely : Prop := tierChecksRow.holds Tryd.pinned (OpenSpec.ofChange tierChecksWrong)

/-- 'quaysidelaw33.TierShields': WHATEVER THE INPUT: true; the input reads as it did. -/
def tierShieldsSpec : ChangeSpec := { name := "tierShields", fn := fun _ => fun
  | [d1, d2] => { results := [.lit (.bool true)], args := [d1, d2] }
  | _ => none }
def tierShieldsRow : OpenClaim := { program := "ytkcipebpknapkaadoor", sum := "4b3a9aaa3687911cefb826b41dba9c9d4bc82308f909d1f711cb6b9062bcb70b", func := "quayside/quaysidelaw33.TierShields", spec := "tierShields", inPlace := ["internal/bytealg.IndexByteString", "internal/bytealg.IndexString", "internal/abi.NoEscape", "internal/bytealg.MakeNoZero"], named := ["unicode/utf8.first", "unicode/utf8.acceptRanges", "internal/bytealg.MaxLen"], apart := false, laid := [("unicode/utf8.acceptRanges", laid_unicode_utf8_acceptRanges), ("unicode/utf8.first", laid_unicode_utf8_first)] }
def TierShieldsSaid : Prop := tierShieldsRow.holds Tryd.pinned (OpenSpec.ofChange tierShieldsSpec)

/-- ITS FALSE NEIGHBOUR: 'it returns false'. Refute it at one input. -/
def tierShieldsWrong : ChangeSpec := { name := "tierShields", fn := fun _ => fun
  | [d1, d2] => { results := [.lit (.bool false)], args := [d1, d2] }
  | _ => none }
def TierShieldsWrongFalsely : Prop := tierShieldsRow.holds Tryd.pinned (OpenSpec.ofChange tierShieldsWrong)

/- THE SECOND FORM. 'bulk': how many values and letters a reading holds, each counted each time it is reached (what is shared counts as often as it is met; a slice's spare places count too). A statement '..UptoSaid' is the law's where the arguments, and the package variables that the reading takes, are together of bulk at most 1048576: NARROWER than '..Said'. Prove '..Said' where nothing that the law and all that it calls make is longer than what came in: it says more and counts as full. Else prove '..UptoSaid'. A law counts once. -/
mutual
def uptoBulk {H : Type} : DataW H → Nat
  | .lit (.string bytes) => bytes.length + 1
  | .lit _ => 1
  | .nil => 1
  | .ptr d => uptoBulk d + 1
  | .slice elems spare => uptoBulkAll elems + uptoBulkAll spare + 1
  | .agg parts => uptoBulkAll parts + 1
  | .iface _ d => uptoBulk d + 1
  | .map entries => uptoBulkEntries entries + 1
  | .held _ => 1
def uptoBulkAll {H : Type} : List (DataW H) → Nat
  | [] => 0
  | d :: r => uptoBulk d + uptoBulkAll r
def uptoBulkEntries {H : Type} : List (Lit × DataW H) → Nat
  | [] => 0
  | x :: r => uptoBulkEntry x + uptoBulkEntries r
def uptoBulkEntry {H : Type} : Lit × DataW H → Nat
  | (.string bytes, d) => bytes.length + uptoBulk d + 1
  | (_, d) => uptoBulk d + 1
 end
def uptoSmall : (H : Type) → List (DataW H) → Bool := fun _ ds => decide (uptoBulkAll ds ≤ 1048576)
def OpenSpec.upto (s : _root_.Go.ChangeSpec) : _root_.Go.OpenSpec := { _root_.Go.OpenSpec.ofChange s with cond := some uptoSmall }

/-- 'quaysidelaw33.TierVias', WHERE WHAT IT READS IS OF BULK AT MOST 1048576: true; the input reads as it did. -/
def tierViasUptoRow : OpenClaim := { program := "ytkcipebpknapkaadoor", sum := "4b3a9aaa3687911cefb826b41dba9c9d4bc82308f909d1f711cb6b9062bcb70b", func := "quayside/quaysidelaw33.TierVias", spec := "tierVias", inPlace := ["internal/bytealg.IndexByteString", "internal/bytealg.IndexString", "internal/abi.NoEscape", "internal/bytealg.MakeNoZero"], named := ["unicode/utf8.first", "unicode/utf8.acceptRanges", "internal/bytealg.MaxLen"], apart := false, laid := [("unicode/utf8.acceptRanges", laid_unicode_utf8_acceptRanges), ("unicode/utf8.first", laid_unicode_utf8_first)], narrowed := true }
def TierViasUptoSaid : Prop := tierViasUptoRow.holds Tryd.pinned (OpenSpec.upto tierViasSpec)

/-- 'quaysidelaw33.TierReturns', WHERE WHAT IT READS IS OF BULK AT MOST 1048576: true; the input reads as it did. -/
def tierReturnsUptoRow : OpenClaim := { program := "ytkcipebpknapkaadoor", sum := "4b3a9aaa3687911cefb826b41dba9c9d4bc82308f909d1f711cb6b9062bcb70b", func := "quayside/quaysidelaw33.TierReturns", spec := "tierReturns", inPlace := ["internal/bytealg.IndexByteString", "internal/bytealg.IndexString", "internal/abi.NoEscape", "internal/bytealg.MakeNoZero"], named := ["unicode/utf8.first", "unicode/utf8.acceptRanges", "internal/bytealg.MaxLen"], apart := false, laid := [("unicode/utf8.acceptRanges", laid_unicode_utf8_acceptRanges), ("unicode/utf8.first", laid_unicode_utf8_first)], narrowed := true }
def TierReturnsUptoSaid : Prop := tierReturnsUptoRow.holds Tryd.pinned (OpenSpec.upto tierReturnsSpec)

/-- 'quaysidelaw33.TierChecks', WHERE WHAT IT READS IS OF BULK AT MOST 1048576: true; the input reads as it did. -/
def tierChecksUptoRow : OpenClaim := { program := "ytkcipebpknapkaadoor", sum := "4b3a9aaa3687911cefb826b41dba9c9d4bc82308f909d1f711cb6b9062bcb70b", func := "quayside/quaysidelaw33.TierChecks", spec := "tierChecks", inPlace := ["internal/bytealg.IndexByteString", "internal/bytealg.IndexString", "internal/abi.NoEscape", "internal/bytealg.MakeNoZero"], named := ["unicode/utf8.first", "unicode/utf8.acceptRanges", "internal/bytealg.MaxLen"], apart := false, laid := [("unicode/utf8.acceptRanges", laid_unicode_utf8_acceptRanges), ("unicode/utf8.first", laid_unicode_utf8_first)], narrowed := true }
def TierChecksUptoSaid : Prop := tierChecksUptoRow.holds Tryd.pinned (OpenSpec.upto tierChecksSpec)

/-- 'quaysidelaw33.TierShields', WHERE WHAT IT READS IS OF BULK AT MOST 1048576: true; the input reads as it did. -/
def tierShieldsUptoRow : OpenClaim := { program := "ytkcipebpknapkaadoor", sum := "4b3a9aaa3687911cefb826b41dba9c9d4bc82308f909d1f711cb6b9062bcb70b", func := "quayside/quaysidelaw33.TierShields", spec := "tierShields", inPlace := ["internal/bytealg.IndexByteString", "internal/bytealg.IndexString", "internal/abi.NoEscape", "internal/bytealg.MakeNoZero"], named := ["unicode/utf8.first", "unicode/utf8.acceptRanges", "internal/bytealg.MaxLen"], apart := false, laid := [("unicode/utf8.acceptRanges", laid_unicode_utf8_acceptRanges), ("unicode/utf8.first", laid_unicode_utf8_first)], narrowed := true }
def TierShieldsUptoSaid : Prop := tierShieldsUptoRow.holds Tryd.pinned (OpenSpec.upto tierShieldsSpec)

end Rows
end Go.Proofs.YtkcipebpknapkaaDoor
