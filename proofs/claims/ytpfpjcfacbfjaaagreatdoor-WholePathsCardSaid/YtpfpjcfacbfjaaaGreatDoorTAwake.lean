/-
  Layer 33: the law's awake; the walk of TierChecks.
-/
import Derived.Test.YtpfpjcfacbfjaaaGreatDoorTVia
namespace Go.Proofs.YtpfpjcfacbfjaaaGreatDoor
open Go.RowKit Ti

theorem rd_new (w : World) (t : TypeId) (xs : List Value) (n : Nat) (h : xs.length = n) : Rd (w.alloc (.cells xs.toArray t)) 1 (.slice (some ⟨w.heap.size, 0, none⟩) n n) n xs := by
  have hs : (w.alloc (.cells xs.toArray t)).heap.size = w.heap.size + 1 := Array.size_push ..
  refine ⟨_, _, rfl, Nat.le_refl _, by omega, fun _ => ⟨_, _, rfl, by rw [hs]; omega, fun j u hu => ?_⟩⟩
  rw [Nat.zero_add, (Blk.new w t xs.toArray).cell j]
  simpa using hu
theorem talloc_size (w : World) (o : Obj) : (w.alloc o).heap.size = w.heap.size + 1 := Array.size_push ..
theorem contains_blank : ∀ l : Bytes, Lib.containsAny l [32, 9] = l.any Syn.blank
  | [] => rfl
  | b :: l => by
    have ih := contains_blank l
    unfold Lib.containsAny at ih ⊢
    have hge := Lib.indexAny_ge [32, 9] l
    have hb : ([32, 9] : Bytes).contains b = Syn.blank b := by
      unfold Syn.blank
      simp only [List.contains, List.elem]
      cases (b == 32) <;> cases (b == 9) <;> rfl
    rw [List.any_cons, ← ih]
    conv => lhs; unfold Lib.indexAny
    rw [hb]
    cases hbb : Syn.blank b
    · rw [if_neg (by decide)]
      by_cases h : Lib.indexAny l [32, 9] = -1
      · rw [h]; rfl
      · rw [if_neg (by rw [beq_iff_eq]; exact h), Bool.false_or]
        rw [decide_eq_decide]; omega
    · rfl
theorem contains_ascii (n : Bytes) (hn : n.length ≤ 1000000) (ha : ∀ b ∈ n, b.toNat < 128) (w : World) :
    Calls Tryz.prog 35 #[.string (str n), .string ⟨#[32, 9]⟩] w fun e w' => e = .returned (.bool (n.any Syn.blank)) ∧ Below w.heap.size w w' := by
  have := Any.strings_ContainsAny_laid Tryz.lays150 (by kernel_rfl) (str n) ⟨#[32, 9]⟩ w (by rw [str_size]; omega) (by decide) (fun j b hb => ha b (List.mem_of_getElem? hb)) (ascii_of_all (by decide))
  rw [← contains_blank]
  exact this
theorem list_awake : Syn.list [49, 46, 49, 32, 112, 114, 111, 120, 121, 44, 32, 113, 117, 97, 121, 32, 101] = some [[49, 46, 49, 32, 112, 114, 111, 120, 121], [113, 117, 97, 121, 32, 101]] := by decide +kernel
theorem read_awake : readV [[49, 46, 49, 32, 112, 114, 111, 120, 121], [113, 117, 97, 121, 32, 101]] = [[101]] := by decide +kernel
theorem via_awake : via [[101], [115, 50]] = [113, 117, 97, 121, 32, 101, 44, 32, 113, 117, 97, 121, 32, 115, 50] := by decide +kernel
end Go.Proofs.YtpfpjcfacbfjaaaGreatDoor
