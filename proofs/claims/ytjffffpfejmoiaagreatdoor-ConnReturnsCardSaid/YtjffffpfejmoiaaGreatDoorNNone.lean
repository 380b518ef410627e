/-
  Layer 8: a connection of requests, a nil connection, and awake.
-/
import Derived.Test.YtjffffpfejmoiaaGreatDoorNWrite
import Derived.Test.YtjffffpfejmoiaaGreatDoorNAwP
namespace Go.Proofs.YtjffffpfejmoiaaGreatDoor
open Go.RowKit Syn Hd Fr Ck

theorem newreq_any (w : World) : Calls Tryz.prog 9 #[] w fun e w' => e = .returned (.pointer (some ⟨w.heap.size, 0, none⟩)) ∧ w' = w.alloc (.cells #[.bool false, .bool false, .bool false, .slice none 0 0, .int .i64 0, .slice none 0 0, .int .i64 0, .int .i64 0, .pointer none, .nilIface] 73) := by
  go_enter Tryz.func9, Tryz.ntmps9
  go_wp2
  go_ret
  exact ⟨rfl, rfl⟩
theorem newreq_at (w : World) : Cn.At (w.alloc (.cells #[.bool false, .bool false, .bool false, .slice none 0 0, .int .i64 0, .slice none 0 0, .int .i64 0, .int .i64 0, .pointer none, .nilIface] 73)) w.heap.size (· = w.heap.size) (Cn.new false []) := by
  have hb := Blk.new w 73 #[.bool false, .bool false, .bool false, .slice none 0 0, .int .i64 0, .slice none 0 0, .int .i64 0, .int .i64 0, .pointer none, .nilIface]
  refine ⟨rfl, fun k h => by rw [h]; exact hb.lt, .slice none 0 0, .slice none 0 0, 0, 0, .pointer none, hb, fun _ => ?_⟩
  exact ⟨Rd.nil _ 1, On.nil _, by decide, ⟨none, 0, rfl, fun _ => rfl, fun h => (by cases h)⟩, Rd.nil _ 1, On.nil _, by decide, fun h => (by cases h), fun h => (by cases h)⟩
theorem rd_const (w : World) (l : List UInt8) (m : Nat × Nat) : Rd (w.alloc (.cells (u8s l).toArray 5 m)) 1 (.slice (some ⟨w.heap.size, 0, none⟩) l.length l.length) l.length (u8s l) := by
  refine ⟨_, _, rfl, Nat.le_refl _, by rw [u8s_length, Nat.mul_one], fun _ => ⟨w.heap.size, 0, rfl, by rw [alloc_size']; omega, fun j u hu => ?_⟩⟩
  rw [Nat.zero_add]
  have e : (u8s l).toArray[j]? = (u8s l)[j]? := List.getElem?_toArray
  simp [World.cell?, World.alloc, -World.alloc_eq]
  simpa using hu
theorem MaxL.kp {w w' : World} {F : Nat → Prop} (h : MaxL w) (hk : Kp F w w') (hF : ∀ k, F k → w.heap.size ≤ k) : MaxL w' := h.below (hk.toBelow (Nat.le_refl _) hF)
theorem write_nil (v : Value) (w : World) : Calls Tryz.prog 10 #[.pointer none, v] w fun e w' => e = .returned (.tuple #[.slice none 0 0, .iface 57 (.int .i64 3)]) ∧ w' = w := by
  go_enter Tryz.func10, Tryz.ntmps10
  go_wp2
  go_ret2
  exact ⟨rfl, rfl⟩
set_option maxRecDepth 100000 in
set_option maxHeartbeats 8000000 in
theorem cnawake_any (w : World) (hM : MaxL w) : Calls Tryz.prog 18 #[] w fun e w' => e = .returned (.bool true) ∧ Below w.heap.size w w' := by
  obtain ⟨c', hwr, hce⟩ := Cn.new_one
  go_enter Tryz.func18, Tryz.ntmps18
  go_wp2_with fail
  refine (newreq_any w).mono ?_
  rintro e w1 ⟨rfl, hw1⟩
  have hA1 : Cn.At w1 w.heap.size (· = w.heap.size) (Cn.new false []) := by rw [hw1]; exact newreq_at w
  have hb1 : Below w.heap.size w w1 := by rw [hw1]; exact (Below.refl _ _).alloc (Nat.le_refl _) _
  clear hw1
  have hcv := Lib.run_convert_bytes_const (P := Tryz.prog) w1 23 5 #[.int .u8 71, .int .u8 69, .int .u8 84, .int .u8 32, .int .u8 47, .int .u8 32, .int .u8 72, .int .u8 84, .int .u8 84, .int .u8 80, .int .u8 47, .int .u8 49, .int .u8 46, .int .u8 49, .int .u8 13, .int .u8 10, .int .u8 104, .int .u8 111, .int .u8 115, .int .u8 116, .int .u8 58, .int .u8 32, .int .u8 97, .int .u8 13, .int .u8 10, .int .u8 13, .int .u8 10] 27 27 Tryz.underlying23 Tryz.underlying5
  have hRc : Rd (w1.alloc (.cells #[.int .u8 71, .int .u8 69, .int .u8 84, .int .u8 32, .int .u8 47, .int .u8 32, .int .u8 72, .int .u8 84, .int .u8 84, .int .u8 80, .int .u8 47, .int .u8 49, .int .u8 46, .int .u8 49, .int .u8 13, .int .u8 10, .int .u8 104, .int .u8 111, .int .u8 115, .int .u8 116, .int .u8 58, .int .u8 32, .int .u8 97, .int .u8 13, .int .u8 10, .int .u8 13, .int .u8 10] 5 (27, 28))) 1 (.slice (some ⟨w1.heap.size, 0, none⟩) 27 27) 27 (u8s Cn.oneB) := rd_const w1 Cn.oneB (27, 28)
  have hk2 := (Kp.refl (fun _ => False) w1).alloc (.cells #[.int .u8 71, .int .u8 69, .int .u8 84, .int .u8 32, .int .u8 47, .int .u8 32, .int .u8 72, .int .u8 84, .int .u8 84, .int .u8 80, .int .u8 47, .int .u8 49, .int .u8 46, .int .u8 49, .int .u8 13, .int .u8 10, .int .u8 104, .int .u8 111, .int .u8 115, .int .u8 116, .int .u8 58, .int .u8 32, .int .u8 97, .int .u8 13, .int .u8 10, .int .u8 13, .int .u8 10] 5 (27, 28))
  have hA2 := hA1.kp hk2 (fun _ _ h => h)
  have hb2 := hb1.alloc hb1.size (.cells #[.int .u8 71, .int .u8 69, .int .u8 84, .int .u8 32, .int .u8 47, .int .u8 32, .int .u8 72, .int .u8 84, .int .u8 84, .int .u8 80, .int .u8 47, .int .u8 49, .int .u8 46, .int .u8 49, .int .u8 13, .int .u8 10, .int .u8 104, .int .u8 111, .int .u8 115, .int .u8 116, .int .u8 58, .int .u8 32, .int .u8 97, .int .u8 13, .int .u8 10, .int .u8 13, .int .u8 10] 5 (27, 28))
  have hWt := connwrite_any hA2 Cn.oneB (some ⟨w1.heap.size, 0, none⟩) 27 hRc (by decide) (fun w' hk => hM.below (hb2.trans (hk.toBelow hb2.size (fun k e => by rw [e]; exact Nat.le_refl _))))
  rw [hwr] at hWt
  replace hWt := Lib.hid hWt
  have hz1 := hb1.size
  replace hRc := Lib.hid hRc
  replace hA1 := Lib.hid hA1
  replace hA2 := Lib.hid hA2
  replace hk2 := Lib.hid hk2
  replace hb1 := Lib.hid hb1
  replace hb2 := Lib.hid hb2
  replace hM := Lib.hid hM
  replace hwr := Lib.hid hwr
  go_wp2_with fail
  refine hWt.out.mono ?_
  rintro e w3 ⟨o, F', xs, rfl, hE, hR, hO, hFF, hk, hA3⟩
  rw [show errV c'.err = .nilIface by rw [hce]; rfl]
  have hB3 := Lib.hid (hb2.out.trans (hk.toBelow hb2.out.size (fun k e => by rw [e]; exact Nat.le_refl _)))
  cases hE with
  | cons h1 h2 =>
    cases h2 with
    | cons h3 h4 =>
      cases h4
      obtain ⟨vr, vs, vd, vt, hx1, -⟩ := h1
      obtain ⟨vr2, vs2, vd2, vt2, hx2, -⟩ := h3
      subst hx1 hx2
      obtain ⟨A, cap, rfl, hc, hl, hr⟩ := hR
      obtain ⟨b, off, rfl, hlt, hx⟩ := hr (show 0 < 2 by decide)
      have k0 : w3.cell? ⟨b, off + 0, none⟩ = some (.int .i64 1) := hx 0 _ rfl
      have k2 : w3.cell? ⟨b, off + 2, none⟩ = some (.string (str [47])) := hx 2 _ rfl
      have k8 : w3.cell? ⟨b, off + 8, none⟩ = some (.int .i64 3) := hx 8 _ rfl
      rw [Nat.add_zero] at k0
      have qs : ((str [47]).toList == [47]) = true := by rw [str_toList]; rfl
      clear hx hr hl hO hFF hk hA3 hce
      go_wp2
      go_ret
      exact ⟨rfl, hB3.out⟩
end Go.Proofs.YtjffffpfejmoiaaGreatDoor
