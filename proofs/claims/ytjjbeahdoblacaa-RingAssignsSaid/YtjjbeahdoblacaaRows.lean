/-
  No cell of these rows narrows 'for every input' (looked for: loops, veiled, ifaces, maps, wideKeys, modest, calm, conditions, laid).
  DERIVED. THE GIVEN ROWS OF THIS SEAT. 7 by the template 'for every input the law returns true; each argument reads behind the call as it read before'; 0 by the template 'total and deterministic' (their statements: YtjjbeahdoblacaaTotals.lean).
  GIVEN WITH THE SEED: the statements are not yours to turn. If you find one false, say at which input.
  Laid BY PROGRAM, IN A SANDBOX (cutbox-rows.mjs): the forced cells as the released guide's own fill.sh prints them over the translation 247546ddd0ec7ac9… (all of the seat's roots in one cut). By AI agents, Wed Nov 11 2026. No macro, syntax, notation, axiom, sorry.
-/
import Derived.Test.YtjjbeahdoblacaaChecked
import GoSem.Claim
import GoSem.ClaimJoined
import GoSem.ClaimMapViews
import Derived.JoinedTies
import Derived.KernelRfl
namespace Go.Proofs.Ytjjbeahdoblacaa
/- THE CELL 'sum', in the pinned program and in every row, IS THE sha256 OF THE DUMP (.gsa) THAT YtjjbeahdoblacaaProg.lean LOADS. Nothing in Lean hashes anything: it is a label: what it is worth is what the hold of that sum in a sandbox is worth. -/
noncomputable def Try.pinned : Pinned := { name := "ytjjbeahdoblacaa", sum := "247546ddd0ec7ac9a372bb16ef5892c8229b74b17039bfe41d5a7d2a6b254ce6", checked := Try.checked }
namespace Rows
def none {H : Type} : Left H := { results := [], args := [] }

/-- 'quaysidelaw31.RingOwners': WHATEVER THE INPUT: true; the input reads as it did. -/
def ringOwnersSpec : ChangeSpec := { name := "ringOwners", fn := fun _ => fun
  | [d1, d2, d3] => { results := [.lit (.bool true)], args := [d1, d2, d3] }
  | _ => none }
def ringOwnersRow : OpenClaim := { program := "ytjjbeahdoblacaa", sum := "247546ddd0ec7ac9a372bb16ef5892c8229b74b17039bfe41d5a7d2a6b254ce6", func := "quayside/quaysidelaw31.RingOwners", spec := "ringOwners", inPlace := ["slices.overlaps[string]", "internal/reflectlite.ValueOf", "internal/reflectlite.Swapper", "(internal/reflectlite.Value).Len"], unfollowed := true, recurses := true, apart := false }
def RingOwnersSaid : Prop := ringOwnersRow.holds Try.pinned (OpenSpec.ofChange ringOwnersSpec)

/-- ITS FALSE NEIGHBOUR: 'it returns false'. Refute it at one input. -/
def ringOwnersWrong : ChangeSpec := { name := "ringOwners", fn := fun _ => fun
  | [d1, d2, d3] => { results := [.lit (.bool false)], args := [d1, d2, d3] }
  | _ => none }
def RingOwnersWrongFalsely : Prop := ringOwnersRow.holds Try.pinned (OpenSpec.ofChange ringOwnersWrong)

/-- 'quaysidelaw31.RingAdds': WHATEVER THE INPUT: true; the input reads as it did. -/
def ringAddsSpec : ChangeSpec := { name := "ringAdds", fn := fun _ => fun
  | [d1, d2, d3] => { results := [.lit (.bool true)], args := [d1, d2, d3] }
  | _ => none }
def ringAddsRow : OpenClaim := { program := "ytjjbeahdoblacaa", sum := "247546ddd0ec7ac9a372bb16ef5892c8229b74b17039bfe41d5a7d2a6b254ce6", func := "quayside/quaysidelaw31.RingAdds", spec := "ringAdds", inPlace := ["slices.overlaps[string]", "internal/reflectlite.ValueOf", "internal/reflectlite.Swapper", "(internal/reflectlite.Value).Len"], unfollowed := true, recurses := true, apart := false }
def RingAddsSaid : Prop := ringAddsRow.holds Try.pinned (OpenSpec.ofChange ringAddsSpec)

/-- ITS FALSE NEIGHBOUR: 'it returns false'. Refute it at one input. -/
def ringAddsWrong : ChangeSpec := { name := "ringAdds", fn := fun _ => fun
  | [d1, d2, d3] => { results := [.lit (.bool false)], args := [d1, d2, d3] }
  | _ => none }
def RingAddsWrongFalsely : Prop := ringAddsRow.holds Try.pinned (OpenSpec.ofChange ringAddsWrong)

/-- 'quaysidelaw31.RingCounts': WHATEVER THE INPUT: true; the input reads as it did. -/
def ringCountsSpec : ChangeSpec := { name := "ringCounts", fn := fun _ => fun
  | [d1, d2, d3] => { results := [.lit (.bool true)], args := [d1, d2, d3] }
  | _ => none }
def ringCountsRow : OpenClaim := { program := "ytjjbeahdoblacaa", sum := "247546ddd0ec7ac9a372bb16ef5892c8229b74b17039bfe41d5a7d2a6b254ce6", func := "quayside/quaysidelaw31.RingCounts", spec := "ringCounts", inPlace := ["slices.overlaps[string]", "internal/reflectlite.ValueOf", "internal/reflectlite.Swapper", "(internal/reflectlite.Value).Len"], unfollowed := true, recurses := true, apart := false }
def RingCountsSaid : Prop := ringCountsRow.holds Try.pinned (OpenSpec.ofChange ringCountsSpec)

/-- ITS FALSE NEIGHBOUR: 'it returns false'. Refute it at one input. -/
def ringCountsWrong : ChangeSpec := { name := "ringCounts", fn := fun _ => fun
  | [d1, d2, d3] => { results := [.lit (.bool false)], args := [d1, d2, d3] }
  | _ => none }
def RingCountsWrongFalsely : Prop := ringCountsRow.holds Try.pinned (OpenSpec.ofChange ringCountsWrong)

/-- 'quaysidelaw31.RingAssigns': WHATEVER THE INPUT: true; the input reads as it did. -/
def ringAssignsSpec : ChangeSpec := { name := "ringAssigns", fn := fun _ => fun
  | [d1, d2, d3] => { results := [.lit (.bool true)], args := [d1, d2, d3] }
  | _ => none }
def ringAssignsRow : OpenClaim := { program := "ytjjbeahdoblacaa", sum := "247546ddd0ec7ac9a372bb16ef5892c8229b74b17039bfe41d5a7d2a6b254ce6", func := "quayside/quaysidelaw31.RingAssigns", spec := "ringAssigns", inPlace := ["slices.overlaps[string]", "internal/reflectlite.ValueOf", "internal/reflectlite.Swapper", "(internal/reflectlite.Value).Len"], unfollowed := true, recurses := true, apart := false }
def RingAssignsSaid : Prop := ringAssignsRow.holds Try.pinned (OpenSpec.ofChange ringAssignsSpec)

/-- ITS FALSE NEIGHBOUR: 'it returns false'. Refute it at one input. -/
def ringAssignsWrong : ChangeSpec := { name := "ringAssigns", fn := fun _ => fun
  | [d1, d2, d3] => { results := [.lit (.bool false)], args := [d1, d2, d3] }
  | _ => none }
def RingAssignsWrongFalsely : Prop := ringAssignsRow.holds Try.pinned (OpenSpec.ofChange ringAssignsWrong)

/-- 'quaysidelaw31.RingRemoves': WHATEVER THE INPUT: true; the input reads as it did. -/
def ringRemovesSpec : ChangeSpec := { name := "ringRemoves", fn := fun _ => fun
  | [d1, d2, d3] => { results := [.lit (.bool true)], args := [d1, d2, d3] }
  | _ => none }
def ringRemovesRow : OpenClaim := { program := "ytjjbeahdoblacaa", sum := "247546ddd0ec7ac9a372bb16ef5892c8229b74b17039bfe41d5a7d2a6b254ce6", func := "quayside/quaysidelaw31.RingRemoves", spec := "ringRemoves", inPlace := ["slices.overlaps[string]", "internal/reflectlite.ValueOf", "internal/reflectlite.Swapper", "(internal/reflectlite.Value).Len"], unfollowed := true, recurses := true, apart := false }
def RingRemovesSaid : Prop := ringRemovesRow.holds Try.pinned (OpenSpec.ofChange ringRemovesSpec)

/-- ITS FALSE NEIGHBOUR: 'it returns false'. Refute it at one input. -/
def ringRemovesWrong : ChangeSpec := { name := "ringRemoves", fn := fun _ => fun
  | [d1, d2, d3] => { results := [.lit (.bool false)], args := [d1, d2, d3] }
  | _ => none }
def RingRemovesWrongFalsely : Prop := ringRemovesRow.holds Try.pinned (OpenSpec.ofChange ringRemovesWrong)

/-- 'quaysidelaw31.RingOrder': WHATEVER THE INPUT: true; the input reads as it did. -/
def ringOrderSpec : ChangeSpec := { name := "ringOrder", fn := fun _ => fun
  | [d1, d2, d3] => { results := [.lit (.bool true)], args := [d1, d2, d3] }
  | _ => none }
def ringOrderRow : OpenClaim := { program := "ytjjbeahdoblacaa", sum := "247546ddd0ec7ac9a372bb16ef5892c8229b74b17039bfe41d5a7d2a6b254ce6", func := "quayside/quaysidelaw31.RingOrder", spec := "ringOrder", inPlace := ["slices.overlaps[string]", "internal/reflectlite.ValueOf", "internal/reflectlite.Swapper", "(internal/reflectlite.Value).Len"], unfollowed := true, recurses := true, apart := false }
def RingOrderSaid : Prop := ringOrderRow.holds Try.pinned (OpenSpec.ofChange ringOrderSpec)

/-- ITS FALSE NEIGHBOUR: 'it returns false'. Refute it at one input. -/
def ringOrderWrong : ChangeSpec := { name := "ringOrder", fn := fun _ => fun
  | [d1, d2, d3] => { results := [.lit (.bool false)], args := [d1, d2, d3] }
  | _ => none }
def RingOrderWrongFalsely : Prop := ringOrderRow.holds Try.pinned (OpenSpec.ofChange ringOrderWrong)

/-- 'quaysidelaw31.RingForms': WHATEVER THE INPUT: true; the input reads as it did. -/
def ringFormsSpec : ChangeSpec := { name := "ringForms", fn := fun _ => fun
  | [d1, d2, d3] => { results := [.lit (.bool true)], args := [d1, d2, d3] }
  | _ => none }
def ringFormsRow : OpenClaim := { program := "ytjjbeahdoblacaa", sum := "247546ddd0ec7ac9a372bb16ef5892c8229b74b17039bfe41d5a7d2a6b254ce6", func := "quayside/quaysidelaw31.RingForms", spec := "ringForms", inPlace := ["slices.overlaps[string]", "internal/reflectlite.ValueOf", "internal/reflectlite.Swapper", "(internal/reflectlite.Value).Len"], unfollowed := true, recurses := true, apart := false }
def RingFormsSaid : Prop := ringFormsRow.holds Try.pinned (OpenSpec.ofChange ringFormsSpec)

/-- ITS FALSE NEIGHBOUR: 'it returns false'. Refute it at one input. -/
def ringFormsWrong : ChangeSpec := { name := "ringForms", fn := fun _ => fun
  | [d1, d2, d3] => { results := [.lit (.bool false)], args := [d1, d2, d3] }
  | _ => none }
def RingFormsWrongFalsely : Prop := ringFormsRow.holds Try.pinned (OpenSpec.ofChange ringFormsWrong)

/- THE SECOND FORM. 'bulk': how many values and letters a reading holds, each counted each time it is reached (what is shared counts as often as it is met; a slice's spare places count too). A statement '..UptoSaid' is the law's where the arguments, and the package variables that the reading takes, are together of bulk at most 1048576: NARROWER than '..Said'. Prove '..Said' where nothing that the law and all that it calls make is longer than what came in: it says more and counts as full. Else prove '..UptoSaid'. A law counts once. -/
mutual
def uptoBulk {H : Type} : DataW H → Nat
  | .lit (.string bytes) => bytes.length + 1
  | .lit _ => 1
  | .nil => 1
  | .ptr d => uptoBulk d + 1
  | .slice elems spare => uptoBulkAll elems + uptoBulkAll spare + 1
  | .agg parts => uptoBulkAll parts + 1
  | .iface _ d => uptoBulk d + 1
  | .map entries => uptoBulkEntries entries + 1
  | .held _ => 1
def uptoBulkAll {H : Type} : List (DataW H) → Nat
  | [] => 0
  | d :: r => uptoBulk d + uptoBulkAll r
def uptoBulkEntries {H : Type} : List (Lit × DataW H) → Nat
  | [] => 0
  | x :: r => uptoBulkEntry x + uptoBulkEntries r
def uptoBulkEntry {H : Type} : Lit × DataW H → Nat
  | (.string bytes, d) => bytes.length + uptoBulk d + 1
  | (_, d) => uptoBulk d + 1
 end
def uptoSmall : (H : Type) → List (DataW H) → Bool := fun _ ds => decide (uptoBulkAll ds ≤ 1048576)
def OpenSpec.upto (s : _root_.Go.ChangeSpec) : _root_.Go.OpenSpec := { _root_.Go.OpenSpec.ofChange s with cond := some uptoSmall }

/-- 'quaysidelaw31.RingOwners', WHERE WHAT IT READS IS OF BULK AT MOST 1048576: true; the input reads as it did. -/
def ringOwnersUptoRow : OpenClaim := { program := "ytjjbeahdoblacaa", sum := "247546ddd0ec7ac9a372bb16ef5892c8229b74b17039bfe41d5a7d2a6b254ce6", func := "quayside/quaysidelaw31.RingOwners", spec := "ringOwners", inPlace := ["slices.overlaps[string]", "internal/reflectlite.ValueOf", "internal/reflectlite.Swapper", "(internal/reflectlite.Value).Len"], unfollowed := true, recurses := true, apart := false, narrowed := true }
def RingOwnersUptoSaid : Prop := ringOwnersUptoRow.holds Try.pinned (OpenSpec.upto ringOwnersSpec)

/-- 'quaysidelaw31.RingAdds', WHERE WHAT IT READS IS OF BULK AT MOST 1048576: true; the input reads as it did. -/
def ringAddsUptoRow : OpenClaim := { program := "ytjjbeahdoblacaa", sum := "247546ddd0ec7ac9a372bb16ef5892c8229b74b17039bfe41d5a7d2a6b254ce6", func := "quayside/quaysidelaw31.RingAdds", spec := "ringAdds", inPlace := ["slices.overlaps[string]", "internal/reflectlite.ValueOf", "internal/reflectlite.Swapper", "(internal/reflectlite.Value).Len"], unfollowed := true, recurses := true, apart := false, narrowed := true }
def RingAddsUptoSaid : Prop := ringAddsUptoRow.holds Try.pinned (OpenSpec.upto ringAddsSpec)

/-- 'quaysidelaw31.RingCounts', WHERE WHAT IT READS IS OF BULK AT MOST 1048576: true; the input reads as it did. -/
def ringCountsUptoRow : OpenClaim := { program := "ytjjbeahdoblacaa", sum := "247546ddd0ec7ac9a372bb16ef5892c8229b74b17039bfe41d5a7d2a6b254ce6", func := "quayside/quaysidelaw31.RingCounts", spec := "ringCounts", inPlace := ["slices.overlaps[string]", "internal/reflectlite.ValueOf", "internal/reflectlite.Swapper", "(internal/reflectlite.Value).Len"], unfollowed := true, recurses := true, apart := false, narrowed := true }
def RingCountsUptoSaid : Prop := ringCountsUptoRow.holds Try.pinned (OpenSpec.upto ringCountsSpec)

/-- 'quaysidelaw31.RingAssigns', WHERE WHAT IT READS IS OF BULK AT MOST 1048576: true; the input reads as it did. -/
def ringAssignsUptoRow : OpenClaim := { program := "ytjjbeahdoblacaa", sum := "247546ddd0ec7ac9a372bb16ef5892c8229b74b17039bfe41d5a7d2a6b254ce6", func := "quayside/quaysidelaw31.RingAssigns", spec := "ringAssigns", inPlace := ["slices.overlaps[string]", "internal/reflectlite.ValueOf", "internal/reflectlite.Swapper", "(internal/reflectlite.Value).Len"], unfollowed := true, recurses := true, apart := false, narrowed := true }
def RingAssignsUptoSaid : Prop := ringAssignsUptoRow.holds Try.pinned (OpenSpec.upto ringAssignsSpec)

/-- 'quaysidelaw31.RingRemoves', WHERE WHAT IT READS IS OF BULK AT MOST 1048576: true; the input reads as it did. -/
def ringRemovesUptoRow : OpenClaim := { program := "ytjjbeahdoblacaa", sum := "247546ddd0ec7ac9a372bb16ef5892c8229b74b17039bfe41d5a7d2a6b254ce6", func := "quayside/quaysidelaw31.RingRemoves", spec := "ringRemoves", inPlace := ["slices.overlaps[string]", "internal/reflectlite.ValueOf", "internal/reflectlite.Swapper", "(internal/reflectlite.Value).Len"], unfollowed := true, recurses := true, apart := false, narrowed := true }
def RingRemovesUptoSaid : Prop := ringRemovesUptoRow.holds Try.pinned (OpenSpec.upto ringRemovesSpec)

/-- 'quaysidelaw31.RingOrder', WHERE WHAT IT READS IS OF BULK AT MOST 1048576: true; the input reads as it did. -/
def ringOrderUptoRow : OpenClaim := { program := "ytjjbeahdoblacaa", sum := "247546ddd0ec7ac9a372bb16ef5892c8229b74b17039bfe41d5a7d2a6b254ce6", func := "quayside/quaysidelaw31.RingOrder", spec := "ringOrder", inPlace := ["slices.overlaps[string]", "internal/reflectlite.ValueOf", "internal/reflectlite.Swapper", "(internal/reflectlite.Value).Len"], unfollowed := true, recurses := true, apart := false, narrowed := true }
def RingOrderUptoSaid : Prop := ringOrderUptoRow.holds Try.pinned (OpenSpec.upto ringOrderSpec)

/-- 'quaysidelaw31.RingForms', WHERE WHAT IT READS IS OF BULK AT MOST 1048576: true; the input reads as it did. -/
def ringFormsUptoRow : OpenClaim := { program := "ytjjbeahdoblacaa", sum := "247546ddd0ec7ac9a372bb16ef5892c8229b74b17039bfe41d5a7d2a6b254ce6", func := "quayside/quaysidelaw31.RingForms", spec := "ringForms", inPlace := ["slices.overlaps[string]", "internal/reflectlite.ValueOf", "internal/reflectlite.Swapper", "(internal/reflectlite.Value).Len"], unfollowed := true, recurses := true, apart := false, narrowed := true }
def RingFormsUptoSaid : Prop := ringFormsUptoRow.holds Try.pinned (OpenSpec.upto ringFormsSpec)

end Rows
end Go.Proofs.Ytjjbeahdoblacaa
