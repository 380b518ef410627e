/-
  Layer 33: the walk of TierVias.
-/
import Derived.Test.YtkcipebpknapkaaDoorTRRead
import Derived.Test.YtkcipebpknapkaaDoorTAwake
namespace Go.Proofs.YtkcipebpknapkaaDoor
open Go.RowKit Ti

namespace Ti
def tot (l : List Bytes) : Nat := (l.map fun x => 1 + x.length).sum
theorem tot_cons (x : Bytes) (l : List Bytes) : tot (x :: l) = 1 + x.length + tot l := by simp [tot]
theorem tot_len : ∀ l : List Bytes, l.length ≤ tot l
  | [] => Nat.le_refl _
  | x :: l => by have := tot_len l; rw [tot_cons, List.length_cons]; omega
theorem tot_mem : ∀ {l : List Bytes} {x : Bytes}, x ∈ l → x.length ≤ tot l
  | y :: l, x, h => by
    rw [tot_cons]
    rcases List.mem_cons.1 h with rfl | h
    · omega
    · have := tot_mem h; omega
theorem tot_le (m : Nat) : ∀ l : List Bytes, (∀ x ∈ l, x.length ≤ m) → tot l ≤ (m + 1) * l.length
  | [], _ => Nat.zero_le _
  | x :: l, h => by
    have h1 := tot_le m l fun y hy => h y (List.mem_cons_of_mem _ hy)
    have h2 := h x (List.mem_cons_self ..)
    rw [tot_cons, List.length_cons, Nat.mul_add]
    omega
theorem addUp_tot : ∀ (l : List Bytes) (z : Nat), z + tot l ≤ 1000000000000000000 → addUp (z : Int) l = ((z + tot l : Nat) : Int)
  | [], z, _ => rfl
  | x :: l, z, h => by
    rw [tot_cons] at h ⊢
    show addUp (wrap64 ((z : Int) + (1 + (x.length : Int)))) l = _
    have e : wrap64 ((z : Int) + (1 + (x.length : Int))) = ((z + (1 + x.length) : Nat) : Int) := by
      rw [show (z : Int) + (1 + (x.length : Int)) = ((z + (1 + x.length) : Nat) : Int) by push_cast; rfl]
      unfold wrap64; omega
    rw [e, addUp_tot l _ (by omega)]
    congr 1
    omega
/-- When not long: few names. -/
theorem few_of {l : List Bytes} (hs : ∀ x ∈ l, x.length ≤ 1048576) (hm : l.length ≤ 1048576) (h : decide (2000 < addUp 0 l) = false) : tot l ≤ 2000 := by
  have h1 := tot_le 1048576 l hs
  have h2 : tot l ≤ 1048577 * 1048576 := Nat.le_trans h1 (Nat.mul_le_mul_left _ hm)
  have h3 := addUp_tot l 0 (by omega)
  have h4 := of_decide_eq_false h
  rw [show ((0 : Nat) : Int) = 0 from rfl] at h3
  rw [h3] at h4
  omega
end Ti
theorem partsOut_rd {w : World} {B : Nat} {v : Value} {o : Option (List Bytes)} (h : PartsOut w B v o) : Rd w 1 v (o.getD []).length (strs (o.getD [])) := by
  cases o with
  | none => rw [show v = .slice none 0 0 from h]; exact Rd.nil w 1
  | some l => exact Rd.own h

set_option maxRecDepth 100000 in
set_option maxHeartbeats 8000000 in
theorem vias_walk (l : List Bytes) (s : ByteArray) (v : Value) (w : World) (hR : Rd w 1 v l.length (strs l)) (hs : ∀ x ∈ l, x.length ≤ 1048576) (hm : l.length ≤ 1048576) (hss : s.size ≤ 9223372036854775807) :
    Calls Tryd.prog 3 #[v, .string s] w fun e w' => e = .returned (.bool true) ∧ Below w.heap.size w w' := by
  obtain ⟨A, cap, rfl, hcap, -, -⟩ := id hR
  have hL : ∀ w1, Below w.heap.size w w1 → Calls Tryd.prog 7 #[.slice (some ⟨w1.heap.size, 0, none⟩) 1 1] (w1.alloc (.cells #[.slice A l.length cap] 22)) fun e w' => e = .returned (.bool (decide (2000 < addUp 0 l))) ∧ w' = w1.alloc (.cells #[.slice A l.length cap] 22) := fun w1 hb =>
    long_any l A cap w1.heap.size _ (Blk.new w1 22 #[.slice A l.length cap]) ((hR.below hb).below ((Below.refl _ _).alloc (Nat.le_refl _) _)) (by omega) fun x hx => Nat.le_trans (hs x hx) (by omega)
  have hfew := few_of hs hm
  have hC := Lib.hid (fun (h : tot l ≤ 2000) w1 (hb : Below w.heap.size w w1) => via_any l A cap w1 (hR.below hb) (by have := tot_len l; omega) (fun x hx => Nat.le_trans (hs x hx) (by omega)) (Nat.le_trans (via_le 1048576 l hs) (by have := tot_len l; have h1 := Nat.mul_le_mul_left (1048576 + 7) (Nat.le_trans this h); omega)))
  have hD := Lib.hid (fun (h : tot l ≤ 2000) w1 (hb : Below w.heap.size w w1) => rvia_any l A cap w1 (hR.below hb) (by have := tot_len l; omega) (fun x hx => by have := tot_mem hx; omega))
  have hb0 : Hid (Below w.heap.size w (w.alloc (.cells #[.slice A l.length cap] 22))) := Lib.hid ((Below.refl _ _).alloc (Nat.le_refl _) _)
  have hL2 := hL _ hb0.out
  rw [talloc_size] at hL2
  generalize decide (2000 < addUp 0 l) = b at *
  replace hL2 := Lib.hid hL2
  replace hL := Lib.hid hL
  replace hs := Lib.hid hs
  have hq2 := beq_self_eq_true (str (via l)).toList
  generalize str (via l) = tt at *
  cases b
  · by_cases h5 : 1000 < s.size
    · clear hC hD hfew
      go_enter Tryd.func3, Tryd.ntmps3
      go_wp2_with fail
      refine (hL.out _ (Below.refl _ _)).mono ?_
      rintro e w1 ⟨rfl, rfl⟩
      go_wp2_with fail
      refine hL2.out.mono ?_
      rintro e w2 ⟨rfl, rfl⟩
      have hB3 := Lib.hid (hb0.out.alloc hb0.out.size (.cells #[.slice A l.length cap] 22))
      go_wp2
      go_ret
      exact ⟨rfl, hB3.out⟩
    · have hf := hfew rfl
      have hC2 := Lib.hid (hC.out hf)
      have hD2 := Lib.hid (hD.out hf)
      have hRV := Lib.hid (fun w => readvia_any s w (by omega))
      have hRR := Lib.hid (fun w => rreadvia_any s w (by omega))
      have hN := Lib.hid (fun w => num_any (errO (Syn.list (bs s))) w)
      have hq := beq_self_eq_true (errO (Syn.list (bs s)))
      have hT := Lib.hid (fun (v1 v2 : Value) (w : World) (h1 : Rd w 1 v1 (((Syn.list (bs s)).map readV).getD []).length (strs (((Syn.list (bs s)).map readV).getD []))) (h2 : Rd w 1 v2 (((Syn.list (bs s)).map readV).getD []).length (strs (((Syn.list (bs s)).map readV).getD []))) => texts_any w h1 h2 (by
        cases hL : Syn.list (bs s) with
        | none => exact Nat.zero_le _
        | some L => show (readV L).length ≤ _; have h1 := readV_len L; have h2 := vlist_len hL; rw [bs_length] at h2; unfold maxLen; omega))
      clear hC hD hfew hf
      generalize (Syn.list (bs s)).map readV = o at *
      generalize errO (Syn.list (bs s)) = c at *
      generalize errV c = ev at *
      go_enter Tryd.func3, Tryd.ntmps3
      go_wp2_with fail
      refine (hL.out _ (Below.refl _ _)).mono ?_
      rintro e w1 ⟨rfl, rfl⟩
      go_wp2_with fail
      refine (tawake_any _).mono ?_
      rintro e w2 ⟨rfl, hb2⟩
      have hB2 := Lib.hid (Below.next hb0.out hb0.out.size hb2)
      clear hb2
      go_wp2_with fail
      refine (hRV.out _).mono ?_
      rintro e w3 ⟨v3, rfl, hv3, hb3⟩
      have hB3 := Lib.hid (Below.next hB2.out hB2.out.size hb3)
      replace hv3 := Lib.hid (partsOut_rd hv3)
      clear hb3
      go_wp2_with fail
      refine (hRR.out _).mono ?_
      rintro e w4 ⟨v4, rfl, hv4, hb4⟩
      have hB4 := Lib.hid (Below.next hB3.out hB3.out.size hb4)
      replace hv4 := Lib.hid (partsOut_rd hv4)
      replace hv3 := Lib.hid (hv3.out.below hb4)
      clear hb4
      go_wp2_with fail
      refine (hC2.out _ hB4.out).mono ?_
      rintro e w5 ⟨rfl, hb5⟩
      have hB5 := Lib.hid (Below.next hB4.out hB4.out.size hb5)
      have hT5 := Lib.hid (hT.out v3 v4 w5 (hv3.out.below hb5) (hv4.out.below hb5))
      clear hb5
      go_wp2_with fail
      refine (hD2.out _ hB5.out).mono ?_
      rintro e w6 ⟨rfl, rfl⟩
      go_wp2_with fail
      refine (hN.out _).mono ?_
      rintro e w7 ⟨rfl, rfl⟩
      go_wp2_with fail
      refine hT5.out.mono ?_
      rintro e w8 ⟨rfl, n, rfl⟩
      have hB8 := Lib.hid (below_drewN hB5.out n)
      generalize w7.drewN n = wz at *
      go_wp2
      go_ret
      exact ⟨rfl, hB8.out⟩
  · clear hC hD hfew
    go_enter Tryd.func3, Tryd.ntmps3
    go_wp2_with fail
    refine (hL.out _ (Below.refl _ _)).mono ?_
    rintro e w1 ⟨rfl, rfl⟩
    go_wp2_with fail
    refine hL2.out.mono ?_
    rintro e w2 ⟨rfl, rfl⟩
    have hB3 := Lib.hid (hb0.out.alloc hb0.out.size (.cells #[.slice A l.length cap] 22))
    go_wp2
    go_ret
    exact ⟨rfl, hB3.out⟩
end Go.Proofs.YtkcipebpknapkaaDoor
