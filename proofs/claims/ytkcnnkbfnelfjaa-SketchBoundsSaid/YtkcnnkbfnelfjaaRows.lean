/-
  No cell of these rows narrows 'for every input' (looked for: loops, veiled, ifaces, maps, wideKeys, modest, calm, conditions, laid).
  DERIVED. THE GIVEN ROWS OF THIS SEAT. 7 by the template 'for every input the law returns true; each argument reads behind the call as it read before'; 0 by the template 'total and deterministic' (their statements: YtkcnnkbfnelfjaaTotals.lean).
  GIVEN WITH THE SEED: the statements are not yours to turn. If you find one false, say at which input.
  Laid BY PROGRAM, IN A SANDBOX (cutbox-rows.mjs): the forced cells as the released guide's own fill.sh prints them over the translation cf5f0f564ab47548… (all of the seat's roots in one cut). By AI agents, Wed Nov 11 2026. No macro, syntax, notation, axiom, sorry.
-/
import Derived.Test.YtkcnnkbfnelfjaaChecked
import GoSem.Claim
import GoSem.ClaimJoined
import GoSem.ClaimMapViews
import Derived.JoinedTies
import Derived.KernelRfl
namespace Go.Proofs.Ytkcnnkbfnelfjaa
/- THE CELL 'sum', in the pinned program and in every row, IS THE sha256 OF THE DUMP (.gsa) THAT YtkcnnkbfnelfjaaProg.lean LOADS. Nothing in Lean hashes anything: it is a label: what it is worth is what the hold of that sum in a sandbox is worth. -/
noncomputable def Try.pinned : Pinned := { name := "ytkcnnkbfnelfjaa", sum := "cf5f0f564ab4754845d12f3c428ee53027c29d8fb1abf8b9d19e8936c5a7e2de", checked := Try.checked }
namespace Rows
def none {H : Type} : Left H := { results := [], args := [] }

/-- 'quaysidelaw18.SketchHashes': WHATEVER THE INPUT: true; the input reads as it did. -/
def sketchHashesSpec : ChangeSpec := { name := "sketchHashes", fn := fun _ => fun
  | [d1, d2] => { results := [.lit (.bool true)], args := [d1, d2] }
  | _ => none }
def sketchHashesRow : OpenClaim := { program := "ytkcnnkbfnelfjaa", sum := "cf5f0f564ab4754845d12f3c428ee53027c29d8fb1abf8b9d19e8936c5a7e2de", func := "quayside/quaysidelaw18.SketchHashes", spec := "sketchHashes", apart := false }
def SketchHashesSaid : Prop := sketchHashesRow.holds Try.pinned (OpenSpec.ofChange sketchHashesSpec)

/-- ITS FALSE NEIGHBOUR: 'it returns false'. Refute it at one input. -/
def sketchHashesWrong : ChangeSpec := { name := "sketchHashes", fn := fun _ => fun
  | [d1, d2] => { results := [.lit (.bool false)], args := [d1, d2] }
  | _ => none }
def SketchHashesWrongFalsely : Prop := sketchHashesRow.holds Try.pinned (OpenSpec.ofChange sketchHashesWrong)

/-- 'quaysidelaw18.SketchCounts': WHATEVER THE INPUT: true; the input reads as it did. -/
def sketchCountsSpec : ChangeSpec := { name := "sketchCounts", fn := fun _ => fun
  | [d1, d2, d3] => { results := [.lit (.bool true)], args := [d1, d2, d3] }
  | _ => none }
def sketchCountsRow : OpenClaim := { program := "ytkcnnkbfnelfjaa", sum := "cf5f0f564ab4754845d12f3c428ee53027c29d8fb1abf8b9d19e8936c5a7e2de", func := "quayside/quaysidelaw18.SketchCounts", spec := "sketchCounts", apart := false }
def SketchCountsSaid : Prop := sketchCountsRow.holds Try.pinned (OpenSpec.ofChange sketchCountsSpec)

/-- ITS FALSE NEIGHBOUR: 'it returns false'. Refute it at one input. -/
def sketchCountsWrong : ChangeSpec := { name := "sketchCounts", fn := fun _ => fun
  | [d1, d2, d3] => { results := [.lit (.bool false)], args := [d1, d2, d3] }
  | _ => none }
def SketchCountsWrongFalsely : Prop := sketchCountsRow.holds Try.pinned (OpenSpec.ofChange sketchCountsWrong)

/-- 'quaysidelaw18.SketchBounds': WHATEVER THE INPUT: true; the input reads as it did. -/
def sketchBoundsSpec : ChangeSpec := { name := "sketchBounds", fn := fun _ => fun
  | [d1, d2] => { results := [.lit (.bool true)], args := [d1, d2] }
  | _ => none }
def sketchBoundsRow : OpenClaim := { program := "ytkcnnkbfnelfjaa", sum := "cf5f0f564ab4754845d12f3c428ee53027c29d8fb1abf8b9d19e8936c5a7e2de", func := "quayside/quaysidelaw18.SketchBounds", spec := "sketchBounds", apart := false }
def SketchBoundsSaid : Prop := sketchBoundsRow.holds Try.pinned (OpenSpec.ofChange sketchBoundsSpec)

/-- ITS FALSE NEIGHBOUR: 'it returns false'. Refute it at one input. -/
def sketchBoundsWrong : ChangeSpec := { name := "sketchBounds", fn := fun _ => fun
  | [d1, d2] => { results := [.lit (.bool false)], args := [d1, d2] }
  | _ => none }
def SketchBoundsWrongFalsely : Prop := sketchBoundsRow.holds Try.pinned (OpenSpec.ofChange sketchBoundsWrong)

/-- 'quaysidelaw18.SketchAges': WHATEVER THE INPUT: true; the input reads as it did. -/
def sketchAgesSpec : ChangeSpec := { name := "sketchAges", fn := fun _ => fun
  | [d1, d2] => { results := [.lit (.bool true)], args := [d1, d2] }
  | _ => none }
def sketchAgesRow : OpenClaim := { program := "ytkcnnkbfnelfjaa", sum := "cf5f0f564ab4754845d12f3c428ee53027c29d8fb1abf8b9d19e8936c5a7e2de", func := "quayside/quaysidelaw18.SketchAges", spec := "sketchAges", apart := false }
def SketchAgesSaid : Prop := sketchAgesRow.holds Try.pinned (OpenSpec.ofChange sketchAgesSpec)

/-- ITS FALSE NEIGHBOUR: 'it returns false'. Refute it at one input. -/
def sketchAgesWrong : ChangeSpec := { name := "sketchAges", fn := fun _ => fun
  | [d1, d2] => { results := [.lit (.bool false)], args := [d1, d2] }
  | _ => none }
def SketchAgesWrongFalsely : Prop := sketchAgesRow.holds Try.pinned (OpenSpec.ofChange sketchAgesWrong)

/-- 'quaysidelaw18.SketchAdmits': WHATEVER THE INPUT: true; the input reads as it did. -/
def sketchAdmitsSpec : ChangeSpec := { name := "sketchAdmits", fn := fun _ => fun
  | [d1, d2, d3] => { results := [.lit (.bool true)], args := [d1, d2, d3] }
  | _ => none }
def sketchAdmitsRow : OpenClaim := { program := "ytkcnnkbfnelfjaa", sum := "cf5f0f564ab4754845d12f3c428ee53027c29d8fb1abf8b9d19e8936c5a7e2de", func := "quayside/quaysidelaw18.SketchAdmits", spec := "sketchAdmits", apart := false }
def SketchAdmitsSaid : Prop := sketchAdmitsRow.holds Try.pinned (OpenSpec.ofChange sketchAdmitsSpec)

/-- ITS FALSE NEIGHBOUR: 'it returns false'. Refute it at one input. -/
def sketchAdmitsWrong : ChangeSpec := { name := "sketchAdmits", fn := fun _ => fun
  | [d1, d2, d3] => { results := [.lit (.bool false)], args := [d1, d2, d3] }
  | _ => none }
def SketchAdmitsWrongFalsely : Prop := sketchAdmitsRow.holds Try.pinned (OpenSpec.ofChange sketchAdmitsWrong)

/-- 'quaysidelaw18.SketchForms': WHATEVER THE INPUT: true; the input reads as it did. -/
def sketchFormsSpec : ChangeSpec := { name := "sketchForms", fn := fun _ => fun
  | [d1, d2] => { results := [.lit (.bool true)], args := [d1, d2] }
  | _ => none }
def sketchFormsRow : OpenClaim := { program := "ytkcnnkbfnelfjaa", sum := "cf5f0f564ab4754845d12f3c428ee53027c29d8fb1abf8b9d19e8936c5a7e2de", func := "quayside/quaysidelaw18.SketchForms", spec := "sketchForms", apart := false }
def SketchFormsSaid : Prop := sketchFormsRow.holds Try.pinned (OpenSpec.ofChange sketchFormsSpec)

/-- ITS FALSE NEIGHBOUR: 'it returns false'. Refute it at one input. -/
def sketchFormsWrong : ChangeSpec := { name := "sketchForms", fn := fun _ => fun
  | [d1, d2] => { results := [.lit (.bool false)], args := [d1, d2] }
  | _ => none }
def SketchFormsWrongFalsely : Prop := sketchFormsRow.holds Try.pinned (OpenSpec.ofChange sketchFormsWrong)

/-- 'quaysidelaw18.SketchSame': WHATEVER THE INPUT: true; the input reads as it did. -/
def sketchSameSpec : ChangeSpec := { name := "sketchSame", fn := fun _ => fun
  | [d1, d2, d3] => { results := [.lit (.bool true)], args := [d1, d2, d3] }
  | _ => none }
def sketchSameRow : OpenClaim := { program := "ytkcnnkbfnelfjaa", sum := "cf5f0f564ab4754845d12f3c428ee53027c29d8fb1abf8b9d19e8936c5a7e2de", func := "quayside/quaysidelaw18.SketchSame", spec := "sketchSame", apart := false }
def SketchSameSaid : Prop := sketchSameRow.holds Try.pinned (OpenSpec.ofChange sketchSameSpec)

/-- ITS FALSE NEIGHBOUR: 'it returns false'. Refute it at one input. -/
def sketchSameWrong : ChangeSpec := { name := "sketchSame", fn := fun _ => fun
  | [d1, d2, d3] => { results := [.lit (.bool false)], args := [d1, d2, d3] }
  | _ => none }
def SketchSameWrongFalsely : Prop := sketchSameRow.holds Try.pinned (OpenSpec.ofChange sketchSameWrong)

/- THE SECOND FORM. 'bulk': how many values and letters a reading holds, each counted each time it is reached (what is shared counts as often as it is met; a slice's spare places count too). A statement '..UptoSaid' is the law's where the arguments, and the package variables that the reading takes, are together of bulk at most 1048576: NARROWER than '..Said'. Prove '..Said' where nothing that the law and all that it calls make is longer than what came in: it says more and counts as full. Else prove '..UptoSaid'. A law counts once. -/
mutual
def uptoBulk {H : Type} : DataW H → Nat
  | .lit (.string bytes) => bytes.length + 1
  | .lit _ => 1
  | .nil => 1
  | .ptr d => uptoBulk d + 1
  | .slice elems spare => uptoBulkAll elems + uptoBulkAll spare + 1
  | .agg parts => uptoBulkAll parts + 1
  | .iface _ d => uptoBulk d + 1
  | .map entries => uptoBulkEntries entries + 1
  | .held _ => 1
def uptoBulkAll {H : Type} : List (DataW H) → Nat
  | [] => 0
  | d :: r => uptoBulk d + uptoBulkAll r
def uptoBulkEntries {H : Type} : List (Lit × DataW H) → Nat
  | [] => 0
  | x :: r => uptoBulkEntry x + uptoBulkEntries r
def uptoBulkEntry {H : Type} : Lit × DataW H → Nat
  | (.string bytes, d) => bytes.length + uptoBulk d + 1
  | (_, d) => uptoBulk d + 1
 end
def uptoSmall : (H : Type) → List (DataW H) → Bool := fun _ ds => decide (uptoBulkAll ds ≤ 1048576)
def OpenSpec.upto (s : _root_.Go.ChangeSpec) : _root_.Go.OpenSpec := { _root_.Go.OpenSpec.ofChange s with cond := some uptoSmall }

/-- 'quaysidelaw18.SketchHashes', WHERE WHAT IT READS IS OF BULK AT MOST 1048576: true; the input reads as it did. -/
def sketchHashesUptoRow : OpenClaim := { program := "ytkcnnkbfnelfjaa", sum := "cf5f0f564ab4754845d12f3c428ee53027c29d8fb1abf8b9d19e8936c5a7e2de", func := "quayside/quaysidelaw18.SketchHashes", spec := "sketchHashes", apart := false, narrowed := true }
def SketchHashesUptoSaid : Prop := sketchHashesUptoRow.holds Try.pinned (OpenSpec.upto sketchHashesSpec)

/-- 'quaysidelaw18.SketchCounts', WHERE WHAT IT READS IS OF BULK AT MOST 1048576: true; the input reads as it did. -/
def sketchCountsUptoRow : OpenClaim := { program := "ytkcnnkbfnelfjaa", sum := "cf5f0f564ab4754845d12f3c428ee53027c29d8fb1abf8b9d19e8936c5a7e2de", func := "quayside/quaysidelaw18.SketchCounts", spec := "sketchCounts", apart := false, narrowed := true }
def SketchCountsUptoSaid : Prop := sketchCountsUptoRow.holds Try.pinned (OpenSpec.upto sketchCountsSpec)

/-- 'quaysidelaw18.SketchBounds', WHERE WHAT IT READS IS OF BULK AT MOST 1048576: true; the input reads as it did. -/
def sketchBoundsUptoRow : OpenClaim := { program := "ytkcnnkbfnelfjaa", sum := "cf5f0f564ab4754845d12f3c428ee53027c29d8fb1abf8b9d19e8936c5a7e2de", func := "quayside/quaysidelaw18.SketchBounds", spec := "sketchBounds", apart := false, narrowed := true }
def SketchBoundsUptoSaid : Prop := sketchBoundsUptoRow.holds Try.pinned (OpenSpec.upto sketchBoundsSpec)

/-- 'quaysidelaw18.SketchAges', WHERE WHAT IT READS IS OF BULK AT MOST 1048576: true; the input reads as it did. -/
def sketchAgesUptoRow : OpenClaim := { program := "ytkcnnkbfnelfjaa", sum := "cf5f0f564ab4754845d12f3c428ee53027c29d8fb1abf8b9d19e8936c5a7e2de", func := "quayside/quaysidelaw18.SketchAges", spec := "sketchAges", apart := false, narrowed := true }
def SketchAgesUptoSaid : Prop := sketchAgesUptoRow.holds Try.pinned (OpenSpec.upto sketchAgesSpec)

/-- 'quaysidelaw18.SketchAdmits', WHERE WHAT IT READS IS OF BULK AT MOST 1048576: true; the input reads as it did. -/
def sketchAdmitsUptoRow : OpenClaim := { program := "ytkcnnkbfnelfjaa", sum := "cf5f0f564ab4754845d12f3c428ee53027c29d8fb1abf8b9d19e8936c5a7e2de", func := "quayside/quaysidelaw18.SketchAdmits", spec := "sketchAdmits", apart := false, narrowed := true }
def SketchAdmitsUptoSaid : Prop := sketchAdmitsUptoRow.holds Try.pinned (OpenSpec.upto sketchAdmitsSpec)

/-- 'quaysidelaw18.SketchForms', WHERE WHAT IT READS IS OF BULK AT MOST 1048576: true; the input reads as it did. -/
def sketchFormsUptoRow : OpenClaim := { program := "ytkcnnkbfnelfjaa", sum := "cf5f0f564ab4754845d12f3c428ee53027c29d8fb1abf8b9d19e8936c5a7e2de", func := "quayside/quaysidelaw18.SketchForms", spec := "sketchForms", apart := false, narrowed := true }
def SketchFormsUptoSaid : Prop := sketchFormsUptoRow.holds Try.pinned (OpenSpec.upto sketchFormsSpec)

/-- 'quaysidelaw18.SketchSame', WHERE WHAT IT READS IS OF BULK AT MOST 1048576: true; the input reads as it did. -/
def sketchSameUptoRow : OpenClaim := { program := "ytkcnnkbfnelfjaa", sum := "cf5f0f564ab4754845d12f3c428ee53027c29d8fb1abf8b9d19e8936c5a7e2de", func := "quayside/quaysidelaw18.SketchSame", spec := "sketchSame", apart := false, narrowed := true }
def SketchSameUptoSaid : Prop := sketchSameUptoRow.holds Try.pinned (OpenSpec.upto sketchSameSpec)

end Rows
end Go.Proofs.Ytkcnnkbfnelfjaa
