/-
  Layer 33: the law's awake; the walk of TierChecks.
-/
import Derived.Test.YtkcipebpknapkaaGreatDoorTVia
namespace Go.Proofs.YtkcipebpknapkaaGreatDoor
open Go.RowKit Ti

theorem rd_new (w : World) (t : TypeId) (xs : List Value) (n : Nat) (h : xs.length = n) : Rd (w.alloc (.cells xs.toArray t)) 1 (.slice (some ⟨w.heap.size, 0, none⟩) n n) n xs := by
  have hs : (w.alloc (.cells xs.toArray t)).heap.size = w.heap.size + 1 := Array.size_push ..
  refine ⟨_, _, rfl, Nat.le_refl _, by omega, fun _ => ⟨_, _, rfl, by rw [hs]; omega, fun j u hu => ?_⟩⟩
  rw [Nat.zero_add, (Blk.new w t xs.toArray).cell j]
  simpa using hu
theorem talloc_size (w : World) (o : Obj) : (w.alloc o).heap.size = w.heap.size + 1 := Array.size_push ..
theorem contains_blank : ∀ l : Bytes, Lib.containsAny l [32, 9] = l.any Syn.blank
  | [] => rfl
  | b :: l => by
    have ih := contains_blank l
    unfold Lib.containsAny at ih ⊢
    have hge := Lib.indexAny_ge [32, 9] l
    have hb : ([32, 9] : Bytes).contains b = Syn.blank b := by
      unfold Syn.blank
      simp only [List.contains, List.elem]
      cases (b == 32) <;> cases (b == 9) <;> rfl
    rw [List.any_cons, ← ih]
    conv => lhs; unfold Lib.indexAny
    rw [hb]
    cases hbb : Syn.blank b
    · rw [if_neg (by decide)]
      by_cases h : Lib.indexAny l [32, 9] = -1
      · rw [h]; rfl
      · rw [if_neg (by rw [beq_iff_eq]; exact h), Bool.false_or]
        rw [decide_eq_decide]; omega
    · rfl
theorem contains_ascii (n : Bytes) (hn : n.length ≤ 1000000) (ha : ∀ b ∈ n, b.toNat < 128) (w : World) :
    Calls Tryz.prog 34 #[.string (str n), .string ⟨#[32, 9]⟩] w fun e w' => e = .returned (.bool (n.any Syn.blank)) ∧ Below w.heap.size w w' := by
  have := Any.strings_ContainsAny_laid Tryz.lays150 (by kernel_rfl) (str n) ⟨#[32, 9]⟩ w (by rw [str_size]; omega) (by decide) (fun j b hb => ha b (List.mem_of_getElem? hb)) (ascii_of_all (by decide))
  rw [← contains_blank]
  exact this
theorem list_awake : Syn.list [49, 46, 49, 32, 112, 114, 111, 120, 121, 44, 32, 113, 117, 97, 121, 32, 101] = some [[49, 46, 49, 32, 112, 114, 111, 120, 121], [113, 117, 97, 121, 32, 101]] := by decide +kernel
theorem read_awake : readV [[49, 46, 49, 32, 112, 114, 111, 120, 121], [113, 117, 97, 121, 32, 101]] = [[101]] := by decide +kernel
theorem via_awake : via [[101], [115, 50]] = [113, 117, 97, 121, 32, 101, 44, 32, 113, 117, 97, 121, 32, 115, 50] := by decide +kernel
set_option maxRecDepth 100000 in
set_option maxHeartbeats 4000000 in
theorem tawake_any (w : World) : Calls Tryz.prog 8 #[] w fun e w' => e = .returned (.bool true) ∧ Below w.heap.size w w' := by
  have hRV : ∀ w, Calls Tryz.prog 17 #[.string ⟨#[49, 46, 49, 32, 112, 114, 111, 120, 121, 44, 32, 113, 117, 97, 121, 32, 101]⟩] w fun e w' => ∃ v, e = .returned (.tuple #[v, .nilIface]) ∧ Own w' w.heap.size 9 1 v 1 (strs [[101]]) ∧ Below w.heap.size w w' := fun w => by
    have h := readvia_of ⟨#[49, 46, 49, 32, 112, 114, 111, 120, 121, 44, 32, 113, 117, 97, 121, 32, 101]⟩ w (by decide) (fun L hL x hx hp ht w => by
      have hL2 : some L = some [[49, 46, 49, 32, 112, 114, 111, 120, 121], [113, 117, 97, 121, 32, 101]] := hL.symm.trans list_awake
      rw [Option.some.inj hL2] at hx
      simp only [List.mem_cons, List.not_mem_nil, or_false] at hx
      rcases hx with rfl | rfl
      · exact absurd hp (by decide +kernel)
      · rw [show Lib.trimPrefix [113, 117, 97, 121, 32, 101] pre = [101] by decide +kernel]
        exact contains_ascii [101] (by decide) (by decide) w)
    rw [show Syn.list (bs ⟨#[49, 46, 49, 32, 112, 114, 111, 120, 121, 44, 32, 113, 117, 97, 121, 32, 101]⟩) = some [[49, 46, 49, 32, 112, 114, 111, 120, 121], [113, 117, 97, 121, 32, 101]] from list_awake] at h
    rw [Option.map_some, read_awake] at h
    exact h
  have hV : ∀ (w : World), Calls Tryz.prog 19 #[.slice (some ⟨w.heap.size, 0, none⟩) 2 2] (w.alloc (.cells #[.string ⟨#[101]⟩, .string ⟨#[115, 50]⟩] 9)) fun e w' => e = .returned (.string ⟨#[113, 117, 97, 121, 32, 101, 44, 32, 113, 117, 97, 121, 32, 115, 50]⟩) ∧ Below (w.alloc (.cells #[.string ⟨#[101]⟩, .string ⟨#[115, 50]⟩] 9)).heap.size (w.alloc (.cells #[.string ⟨#[101]⟩, .string ⟨#[115, 50]⟩] 9)) w' := fun w => by
    have h := via_any [[101], [115, 50]] (some ⟨w.heap.size, 0, none⟩) 2 (w.alloc (.cells #[.string ⟨#[101]⟩, .string ⟨#[115, 50]⟩] 9)) (rd_new w 9 (strs [[101], [115, 50]]) 2 rfl) (by decide) (by decide) (by rw [via_awake]; decide)
    rw [via_awake] at h
    exact h
  have hT : ∀ (v : Value) (w : World), Rd w 1 v 1 (strs [[101]]) → Calls Tryz.prog 18 #[v, .slice (some ⟨w.heap.size, 0, none⟩) 1 1] (w.alloc (.cells #[.string ⟨#[101]⟩] 9)) fun e w' => e = .returned (.bool true) ∧ ∃ n, w' = (w.alloc (.cells #[.string ⟨#[101]⟩] 9)).drewN n := fun v w h => by
    have := texts_any (l1 := [[101]]) (l2 := [[101]]) (w.alloc (.cells #[.string ⟨#[101]⟩] 9)) (h.below ((Below.refl _ _).alloc (Nat.le_refl _) _)) (rd_new w 9 (strs [[101]]) 1 rfl) (by decide)
    rw [show decide (([[101]] : List Bytes) = [[101]]) = true by decide] at this
    exact this
  obtain ⟨x, hx⟩ : ∃ x : ByteArray, x = ⟨#[113, 117, 97, 121, 32, 101, 44, 32, 113, 117, 97, 121, 32, 115, 50]⟩ := ⟨_, rfl⟩
  have hxq : (x.toList == [113, 117, 97, 121, 32, 101, 44, 32, 113, 117, 97, 121, 32, 115, 50]) = true := by rw [hx, ByteArray.toList_eq]; decide
  rw [← hx] at hV
  clear hx
  replace hRV := Lib.hid hRV
  replace hV := Lib.hid hV
  replace hT := Lib.hid hT
  go_enter Tryz.func8, Tryz.ntmps8
  go_wp2_with fail
  refine (hRV.out _).mono ?_
  rintro e w1 ⟨v, rfl, hv, hb1⟩
  have hRd := Lib.hid (Rd.own hv)
  have hb1s := hb1.size
  have hb2 := Lib.hid (hb1.alloc hb1s (.cells #[.string ⟨#[101]⟩] 9))
  clear hv hb1
  go_wp2_with fail
  refine (hT.out _ _ hRd.out).mono ?_
  rintro e w2 ⟨rfl, n, hw2⟩
  have hb3 := Lib.hid (show Below w.heap.size w w2 by rw [hw2]; exact below_drewN hb2.out n)
  clear hw2 hb2
  go_wp2_with fail
  refine (hV.out _).mono ?_
  rintro e w3 ⟨rfl, hb4⟩
  have hba := hb3.out.alloc hb3.out.size (.cells #[.string ⟨#[101]⟩, .string ⟨#[115, 50]⟩] 9)
  have hb5 := Lib.hid (Below.next hba hba.size hb4)
  clear hba
  clear hb4
  go_wp2
  go_ret
  exact ⟨rfl, hb5.out⟩
end Go.Proofs.YtkcipebpknapkaaGreatDoor
