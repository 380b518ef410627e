/-
  Layer 1: the document's List.
-/
import Derived.Test.YtkcipebpknapkaaDoorList
namespace Go.Proofs.YtkcipebpknapkaaDoor
open Go.RowKit Syn

set_option maxRecDepth 100000 in
set_option maxHeartbeats 4000000 in
theorem rlist_any (s : ByteArray) (w : World) (hs : s.size ≤ 1000000000) :
    Calls Tryd.prog 22 #[.string s] w fun e w' => ∃ v, e = .returned (.tuple #[v, .bool (Syn.list (bs s)).isSome]) ∧ PartsOut w' w.heap.size v (Syn.list (bs s)) ∧ Below w.heap.size w w' := by
  have hpa : ∀ w, Calls Tryd.prog 32 #[.string s, .int .u8 44] w fun e w' => ∃ v, e = .returned (.tuple #[v, .bool (parts 44 (bs s)).isSome]) ∧ PartsOut w' w.heap.size v (parts 44 (bs s)) ∧ Below w.heap.size w w' := fun w => rparts_any s 44 w hs
  cases hp : parts 44 (bs s) with
  | none =>
    have hl : Hid (Syn.list (bs s) = none) := Lib.hid (by unfold Syn.list; rw [hp]; rfl)
    rw [hp] at hpa
    go_enter Tryd.func22, Tryd.ntmps22
    go_wp2_with fail
    refine (hpa _).mono ?_
    rintro e w1 ⟨v, rfl, rfl, hb⟩
    clear hpa hp
    have hb' := Lib.hid hb
    clear hb
    rw [show (none : Option (List (List UInt8))).isSome = false from rfl]
    go_wp2
    go_loopw [6, 7, 15] (fun o _ i wr => i = .int .i64 0 ∧ o = .slice none 0 0 ∧ wr = w1) (fun _ _ i _ => 0)
    case atStart => exact ⟨rfl, rfl, rfl⟩
    case round =>
      obtain ⟨rfl, rfl, rfl⟩ := hrel
      go_wp2
      go_ret2
      exact ⟨_, by rw [hl.out]; rfl, by rw [hl.out]; rfl, hb'.out⟩
  | some l =>
    have hl : Hid (Syn.list (bs s) = some (full l)) := Lib.hid (by unfold Syn.list; rw [hp]; rfl)
    have hln : l.length ≤ 1000000001 := by have := parts_len hp; omega
    rw [hp] at hpa
    go_enter Tryd.func22, Tryd.ntmps22
    go_wp2_with fail
    refine (hpa _).mono ?_
    rintro e w1 ⟨v, rfl, hv, hb⟩
    rw [show (some l).isSome = true from rfl]
    clear hpa hp
    have hR : Rd w1 1 v l.length (strs l) := Rd.own hv
    obtain ⟨A, cap, rfl, hcap, -, -⟩ := id hR
    have hb' := Lib.hid hb
    clear hv hb
    go_wp2
    go_loopw [6, 7, 15] (fun o _ i wr => ∃ k : Nat, i = .int .i64 k ∧ k ≤ l.length ∧ Hid (Own wr w1.heap.size 9 1 o (full (l.take k)).length (strs (full (l.take k)))) ∧ Hid (Below w1.heap.size w1 wr)) (fun _ _ i _ => l.length - (intOf i).toNat)
    case atStart => exact ⟨0, rfl, by omega, own_nil _ _ _ _, Below.refl _ _⟩
    case round =>
      obtain ⟨k, rfl, hk, ho, hB⟩ := hrel
      have hBw := hB.out.size
      have hfl := full_le l k
      by_cases hlt : k < l.length
      · have hR' := hR.below hB.out
        obtain ⟨A', cap', e', -, -, r'⟩ := hR'
        cases e'
        obtain ⟨b1, o1, rfl, _, x1⟩ := r' (by omega)
        have d1 : wr.cell? ⟨b1, o1 + k, none⟩ = some (.string (str l[k])) := x1 k _ (strs_at hlt)
        cases hx : l[k].isEmpty
        · have hxe : (str l[k]).toList.isEmpty = false := by rw [str_isEmpty]; exact hx
          have hf := Lib.hid (full_yes hlt hx)
          clear hx x1 r'
          go_wp2_with (at_builtin; refine push_str _ _ rfl rfl rfl ho.out rfl rfl (by omega) hBw ?_; intro v2 w2 ho2 hb2; replace ho2 := Lib.hid ho2; have hB2 := Lib.hid (hB.out.trans hb2); clear hb2)
          go_roundw
          case rel =>
            refine ⟨k + 1, by go_num, by omega, Lib.hid ?_, hB2⟩
            rw [hf.out, strs_snoc]; simpa using ho2.out
          case measure => simp [intOf]; omega
        · have hxe : (str l[k]).toList.isEmpty = true := by rw [str_isEmpty]; exact hx
          have hf := Lib.hid (full_no hlt hx)
          clear hx x1 r'
          go_wp2
          go_roundw
          case rel => exact ⟨k + 1, by go_num, by omega, by rw [hf.out]; exact ho, hB⟩
          case measure => simp [intOf]; omega
      · obtain rfl : k = l.length := by omega
        rw [List.take_length] at ho
        go_wp2
        go_ret2
        refine ⟨_, by rw [hl.out]; rfl, ?_, Below.next hb'.out hb'.out.size hB.out⟩
        rw [hl.out]
        exact own_mono ho.out hb'.out.size
end Go.Proofs.YtkcipebpknapkaaDoor
