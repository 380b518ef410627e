/-
  NARROWER THAN 'FOR EVERY INPUT', by the rows' own cells (each row's printed sentence says how): TierEdges: laid · TierTries: laid · TierSteady: laid · TierPaths: laid.
  DERIVED. THE GIVEN ROWS OF THIS SEAT. 4 by the template 'for every input the law returns true; each argument reads behind the call as it read before'; 0 by the template 'total and deterministic' (their statements: YtkcipebpknapkaaGreatDoorTotals.lean).
  GIVEN WITH THE SEED: the statements are not yours to turn. If you find one false, say at which input.
  Laid BY PROGRAM, IN A SANDBOX (cutbox-rows.mjs): the forced cells as the released guide's own fill.sh prints them over the translation b9732afc14be0121… (all of the seat's roots in one cut). By AI agents, Wed Nov 11 2026. No macro, syntax, notation, axiom, sorry.
-/
import Derived.Test.YtkcipebpknapkaaGreatDoorChecked
import GoSem.PinnedTables
import GoSem.Claim
import GoSem.ClaimJoined
import GoSem.ClaimMapViews
import Derived.JoinedTies
import Derived.KernelRfl
namespace Go.Proofs.YtkcipebpknapkaaGreatDoor
/- THE CELL 'sum', in the pinned program and in every row, IS THE sha256 OF THE DUMP (.gsa) THAT YtkcipebpknapkaaGreatDoorProg.lean LOADS. Nothing in Lean hashes anything: it is a label: what it is worth is what the hold of that sum in a sandbox is worth. -/
noncomputable def Tryz.pinned : Pinned := { name := "ytkcipebpknapkaagreatdoor", sum := "b9732afc14be0121b5f96ac6bd12f843ee09b9b0e2db5d42a38182d4ea74aa4e", checked := Tryz.checked }
namespace Rows
def none {H : Type} : Left H := { results := [], args := [] }

/- WHAT THE LISTED PACKAGE-LEVEL VARIABLES READ AS WHEN THE CALL BEGINS. Each datum BY PROGRAM (the guide's laid-datum.mjs) off the statement by which the dump's own 'gosem.cut.vars' lays the variable. In a bare row this is a premise. The card (YtkcipebpknapkaaGreatDoorCards.lean) ties it to the program's text. -/
def laid_unicode_utf8_acceptRanges {H : Type} : DataW H := .agg [.agg [.lit (.int .u8 128), .lit (.int .u8 191)], .agg [.lit (.int .u8 160), .lit (.int .u8 191)], .agg [.lit (.int .u8 128), .lit (.int .u8 159)], .agg [.lit (.int .u8 144), .lit (.int .u8 191)], .agg [.lit (.int .u8 128), .lit (.int .u8 143)], .agg [.lit (.int .u8 0), .lit (.int .u8 0)], .agg [.lit (.int .u8 0), .lit (.int .u8 0)], .agg [.lit (.int .u8 0), .lit (.int .u8 0)], .agg [.lit (.int .u8 0), .lit (.int .u8 0)], .agg [.lit (.int .u8 0), .lit (.int .u8 0)], .agg [.lit (.int .u8 0), .lit (.int .u8 0)], .agg [.lit (.int .u8 0), .lit (.int .u8 0)], .agg [.lit (.int .u8 0), .lit (.int .u8 0)], .agg [.lit (.int .u8 0), .lit (.int .u8 0)], .agg [.lit (.int .u8 0), .lit (.int .u8 0)], .agg [.lit (.int .u8 0), .lit (.int .u8 0)]]
/-- One of Go's own tables, pinned by name: the form's constant. -/
def laid_unicode_utf8_first : DataW Unit := Go.Pinned.utf8First

/-- 'quaysidelaw33.TierEdges': WHATEVER THE INPUT: true; the input reads as it did. -/
def tierEdgesSpec : ChangeSpec := { name := "tierEdges", fn := fun _ => fun
  | [d] => { results := [.lit (.bool true)], args := [d] }
  | _ => none }
def tierEdgesRow : OpenClaim := { program := "ytkcipebpknapkaagreatdoor", sum := "b9732afc14be0121b5f96ac6bd12f843ee09b9b0e2db5d42a38182d4ea74aa4e", func := "quayside/quaysidelaw33.TierEdges", spec := "tierEdges", inPlace := ["internal/bytealg.IndexByteString", "internal/bytealg.IndexString", "internal/abi.NoEscape", "internal/bytealg.MakeNoZero", "slices.overlaps[string]", "internal/reflectlite.ValueOf", "internal/reflectlite.Swapper", "(internal/reflectlite.Value).Len"], unfollowed := true, recurses := true, named := ["unicode/utf8.first", "unicode/utf8.acceptRanges", "internal/bytealg.MaxLen"], apart := false, laid := [("unicode/utf8.acceptRanges", laid_unicode_utf8_acceptRanges), ("unicode/utf8.first", laid_unicode_utf8_first)] }
def TierEdgesSaid : Prop := tierEdgesRow.holds Tryz.pinned (OpenSpec.ofChange tierEdgesSpec)

/-- ITS FALSE NEIGHBOUR: 'it returns false'. Refute it at one input. -/
def tierEdgesWrong : ChangeSpec := { name := "tierEdges", fn := fun _ => fun
  | [d] => { results := [.lit (.bool false)], args := [d] }
  | _ => none }
def TierEdgesWrongFalsely : Prop := tierEdgesRow.holds Tryz.pinned (OpenSpec.ofChange tierEdgesWrong)

/-- 'quaysidelaw33.TierTries': WHATEVER THE INPUT: true; the input reads as it did. -/
def tierTriesSpec : ChangeSpec := { name := "tierTries", fn := fun _ => fun
  | [d] => { results := [.lit (.bool true)], args := [d] }
  | _ => none }
def tierTriesRow : OpenClaim := { program := "ytkcipebpknapkaagreatdoor", sum := "b9732afc14be0121b5f96ac6bd12f843ee09b9b0e2db5d42a38182d4ea74aa4e", func := "quayside/quaysidelaw33.TierTries", spec := "tierTries", inPlace := ["internal/bytealg.IndexByteString", "internal/bytealg.IndexString", "internal/abi.NoEscape", "internal/bytealg.MakeNoZero", "slices.overlaps[string]", "internal/reflectlite.ValueOf", "internal/reflectlite.Swapper", "(internal/reflectlite.Value).Len"], unfollowed := true, recurses := true, named := ["unicode/utf8.first", "unicode/utf8.acceptRanges", "internal/bytealg.MaxLen"], apart := false, laid := [("unicode/utf8.acceptRanges", laid_unicode_utf8_acceptRanges), ("unicode/utf8.first", laid_unicode_utf8_first)] }
def TierTriesSaid : Prop := tierTriesRow.holds Tryz.pinned (OpenSpec.ofChange tierTriesSpec)

/-- ITS FALSE NEIGHBOUR: 'it returns false'. Refute it at one input. -/
def tierTriesWrong : ChangeSpec := { name := "tierTries", fn := fun _ => fun
  | [d] => { results := [.lit (.bool false)], args := [d] }
  | _ => none }
def TierTriesWrongFalsely : Prop := tierTriesRow.holds Tryz.pinned (OpenSpec.ofChange tierTriesWrong)

/-- 'quaysidelaw33.TierSteady': WHATEVER THE INPUT: true; the input reads as it did. -/
def tierSteadySpec : ChangeSpec := { name := "tierSteady", fn := fun _ => fun
  | [d1, d2] => { results := [.lit (.bool true)], args := [d1, d2] }
  | _ => none }
def tierSteadyRow : OpenClaim := { program := "ytkcipebpknapkaagreatdoor", sum := "b9732afc14be0121b5f96ac6bd12f843ee09b9b0e2db5d42a38182d4ea74aa4e", func := "quayside/quaysidelaw33.TierSteady", spec := "tierSteady", inPlace := ["internal/bytealg.IndexByteString", "internal/bytealg.IndexString", "internal/abi.NoEscape", "internal/bytealg.MakeNoZero", "slices.overlaps[string]", "internal/reflectlite.ValueOf", "internal/reflectlite.Swapper", "(internal/reflectlite.Value).Len"], unfollowed := true, recurses := true, named := ["unicode/utf8.first", "unicode/utf8.acceptRanges", "internal/bytealg.MaxLen"], apart := false, laid := [("unicode/utf8.acceptRanges", laid_unicode_utf8_acceptRanges), ("unicode/utf8.first", laid_unicode_utf8_first)] }
def TierSteadySaid : Prop := tierSteadyRow.holds Tryz.pinned (OpenSpec.ofChange tierSteadySpec)

/-- ITS FALSE NEIGHBOUR: 'it returns false'. Refute it at one input. -/
def tierSteadyWrong : ChangeSpec := { name := "tierSteady", fn := fun _ => fun
  | [d1, d2] => { results := [.lit (.bool false)], args := [d1, d2] }
  | _ => none }
def TierSteadyWrongFalsely : Prop := tierSteadyRow.holds Tryz.pinned (OpenSpec.ofChange tierSteadyWrong)

/-- 'quaysidelaw33.TierPaths': WHATEVER THE INPUT: true; the input reads as it did. -/
def tierPathsSpec : ChangeSpec := { name := "tierPaths", fn := fun _ => fun
  | [d1, d2] => { results := [.lit (.bool true)], args := [d1, d2] }
  | _ => none }
def tierPathsRow : OpenClaim := { program := "ytkcipebpknapkaagreatdoor", sum := "b9732afc14be0121b5f96ac6bd12f843ee09b9b0e2db5d42a38182d4ea74aa4e", func := "quayside/quaysidelaw33.TierPaths", spec := "tierPaths", inPlace := ["internal/bytealg.IndexByteString", "internal/bytealg.IndexString", "internal/abi.NoEscape", "internal/bytealg.MakeNoZero", "slices.overlaps[string]", "internal/reflectlite.ValueOf", "internal/reflectlite.Swapper", "(internal/reflectlite.Value).Len"], unfollowed := true, recurses := true, named := ["unicode/utf8.first", "unicode/utf8.acceptRanges", "internal/bytealg.MaxLen"], apart := false, laid := [("unicode/utf8.acceptRanges", laid_unicode_utf8_acceptRanges), ("unicode/utf8.first", laid_unicode_utf8_first)] }
def TierPathsSaid : Prop := tierPathsRow.holds Tryz.pinned (OpenSpec.ofChange tierPathsSpec)

/-- ITS FALSE NEIGHBOUR: 'it returns false'. Refute it at one input. -/
def tierPathsWrong : ChangeSpec := { name := "tierPaths", fn := fun _ => fun
  | [d1, d2] => { results := [.lit (.bool false)], args := [d1, d2] }
  | _ => none }
def TierPathsWrongFalsely : Prop := tierPathsRow.holds Tryz.pinned (OpenSpec.ofChange tierPathsWrong)

/- THE SECOND FORM. 'bulk': how many values and letters a reading holds, each counted each time it is reached (what is shared counts as often as it is met; a slice's spare places count too). A statement '..UptoSaid' is the law's where the arguments, and the package variables that the reading takes, are together of bulk at most 1048576: NARROWER than '..Said'. Prove '..Said' where nothing that the law and all that it calls make is longer than what came in: it says more and counts as full. Else prove '..UptoSaid'. A law counts once. -/
mutual
def uptoBulk {H : Type} : DataW H → Nat
  | .lit (.string bytes) => bytes.length + 1
  | .lit _ => 1
  | .nil => 1
  | .ptr d => uptoBulk d + 1
  | .slice elems spare => uptoBulkAll elems + uptoBulkAll spare + 1
  | .agg parts => uptoBulkAll parts + 1
  | .iface _ d => uptoBulk d + 1
  | .map entries => uptoBulkEntries entries + 1
  | .held _ => 1
def uptoBulkAll {H : Type} : List (DataW H) → Nat
  | [] => 0
  | d :: r => uptoBulk d + uptoBulkAll r
def uptoBulkEntries {H : Type} : List (Lit × DataW H) → Nat
  | [] => 0
  | x :: r => uptoBulkEntry x + uptoBulkEntries r
def uptoBulkEntry {H : Type} : Lit × DataW H → Nat
  | (.string bytes, d) => bytes.length + uptoBulk d + 1
  | (_, d) => uptoBulk d + 1
 end
def uptoSmall : (H : Type) → List (DataW H) → Bool := fun _ ds => decide (uptoBulkAll ds ≤ 1048576)
def OpenSpec.upto (s : _root_.Go.ChangeSpec) : _root_.Go.OpenSpec := { _root_.Go.OpenSpec.ofChange s with cond := some uptoSmall }

/-- 'quaysidelaw33.TierEdges', WHERE WHAT IT READS IS OF BULK AT MOST 1048576: true; the input reads as it did. -/
def tierEdgesUptoRow : OpenClaim := { program := "ytkcipebpknapkaagreatdoor", sum := "b9732afc14be0121b5f96ac6bd12f843ee09b9b0e2db5d42a38182d4ea74aa4e", func := "quayside/quaysidelaw33.TierEdges", spec := "tierEdges", inPlace := ["internal/bytealg.IndexByteString", "internal/bytealg.IndexString", "internal/abi.NoEscape", "internal/bytealg.MakeNoZero", "slices.overlaps[string]", "internal/reflectlite.ValueOf", "internal/reflectlite.Swapper", "(internal/reflectlite.Value).Len"], unfollowed := true, recurses := true, named := ["unicode/utf8.first", "unicode/utf8.acceptRanges", "internal/bytealg.MaxLen"], apart := false, laid := [("unicode/utf8.acceptRanges", laid_unicode_utf8_acceptRanges), ("unicode/utf8.first", laid_unicode_utf8_first)], narrowed := true }
def TierEdgesUptoSaid : Prop := tierEdgesUptoRow.holds Tryz.pinned (OpenSpec.upto tierEdgesSpec)

/-- 'quaysidelaw33.TierTries', WHERE WHAT IT READS IS OF BULK AT MOST 1048576: true; the input reads as it did. -/
def tierTriesUptoRow : OpenClaim := { program := "ytkcipebpknapkaagreatdoor", sum := "b9732afc14be0121b5f96ac6bd12f843ee09b9b0e2db5d42a38182d4ea74aa4e", func := "quayside/quaysidelaw33.TierTries", spec := "tierTries", inPlace := ["internal/bytealg.IndexByteString", "internal/bytealg.IndexString", "internal/abi.NoEscape", "internal/bytealg.MakeNoZero", "slices.overlaps[string]", "internal/reflectlite.ValueOf", "internal/reflectlite.Swapper", "(internal/reflectlite.Value).Len"], unfollowed := true, recurses := true, named := ["unicode/utf8.first", "unicode/utf8.acceptRanges", "internal/bytealg.MaxLen"], apart := false, laid := [("unicode/utf8.acceptRanges", laid_unicode_utf8_acceptRanges), ("unicode/utf8.first", laid_unicode_utf8_first)], narrowed := true }
def TierTriesUptoSaid : Prop := tierTriesUptoRow.holds Tryz.pinned (OpenSpec.upto tierTriesSpec)

/-- 'quaysidelaw33.TierSteady', WHERE WHAT IT READS IS OF BULK AT MOST 1048576: true; the input reads as it did. -/
def tierSteadyUptoRow : OpenClaim := { program := "ytkcipebpknapkaagreatdoor", sum := "b9732afc14be0121b5f96ac6bd12f843ee09b9b0e2db5d42a38182d4ea74aa4e", func := "quayside/quaysidelaw33.TierSteady", spec := "tierSteady", inPlace := ["internal/bytealg.IndexByteString", "internal/bytealg.IndexString", "internal/abi.NoEscape", "internal/bytealg.MakeNoZero", "slices.overlaps[string]", "internal/reflectlite.ValueOf", "internal/reflectlite.Swapper", "(internal/reflectlite.Value).Len"], unfollowed := true, recurses := true, named := ["unicode/utf8.first", "unicode/utf8.acceptRanges", "internal/bytealg.MaxLen"], apart := false, laid := [("unicode/utf8.acceptRanges", laid_unicode_utf8_acceptRanges), ("unicode/utf8.first", laid_unicode_utf8_first)], narrowed := true }
def TierSteadyUptoSaid : Prop := tierSteadyUptoRow.holds Tryz.pinned (OpenSpec.upto tierSteadySpec)

/-- 'quaysidelaw33.TierPaths', WHERE WHAT IT READS IS OF BULK AT MOST 1048576: true; the input reads as it did. -/
def tierPathsUptoRow : OpenClaim := { program := "ytkcipebpknapkaagreatdoor", sum := "b9732afc14be0121b5f96ac6bd12f843ee09b9b0e2db5d42a38182d4ea74aa4e", func := "quayside/quaysidelaw33.TierPaths", spec := "tierPaths", inPlace := ["internal/bytealg.IndexByteString", "internal/bytealg.IndexString", "internal/abi.NoEscape", "internal/bytealg.MakeNoZero", "slices.overlaps[string]", "internal/reflectlite.ValueOf", "internal/reflectlite.Swapper", "(internal/reflectlite.Value).Len"], unfollowed := true, recurses := true, named := ["unicode/utf8.first", "unicode/utf8.acceptRanges", "internal/bytealg.MaxLen"], apart := false, laid := [("unicode/utf8.acceptRanges", laid_unicode_utf8_acceptRanges), ("unicode/utf8.first", laid_unicode_utf8_first)], narrowed := true }
def TierPathsUptoSaid : Prop := tierPathsUptoRow.holds Tryz.pinned (OpenSpec.upto tierPathsSpec)

end Rows
end Go.Proofs.YtkcipebpknapkaaGreatDoor
