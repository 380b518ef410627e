/-
  Layer 5: WriteRequest of fields of any size.
-/
import Derived.Test.YtjffffpfejmoiaaGreatDoorGPl
namespace Go.Proofs.YtjffffpfejmoiaaGreatDoor
open Go.RowKit Syn Hd
set_option maxRecDepth 100000 in
set_option maxHeartbeats 4000000 in
theorem hsize_big (l : List (List UInt8 × List UInt8)) (v : Value) (w : World) (hR : Rd w 2 v l.length (prs l)) (hs : ∀ p ∈ l, p.1.length ≤ 140737488355328 ∧ p.2.length ≤ 140737488355328) (hm : l.length ≤ 1000) :
    Calls Tryz.prog 45 #[v] w fun e w' => e = .returned (.int .i64 (((lns l).length + 2 : Nat) : Int)) ∧ Below w.heap.size w w' := by
  obtain ⟨A, cap, rfl, hcap, -, -⟩ := id hR
  have hlen := lns_len l 140737488355328 hs
  have hll := Lib.hid (fun k => lns_le l k)
  replace hR := Lib.hid hR
  replace hs := Lib.hid hs
  go_enter Tryz.func45, Tryz.ntmps45
  go_wp2
  go_loopw [3, 8] (fun t i wr => ∃ k m : Nat, i = .int .i64 (k : Int) ∧ k ≤ l.length ∧ t = .int .i64 (m : Int) ∧ m ≤ 281474976710670000 ∧ Hid (m = (lns (l.take k)).length + 2) ∧ Hid (Below w.heap.size w wr)) (fun _ i _ => l.length - (intOf i).toNat)
  case atStart => exact ⟨0, 2, rfl, by omega, rfl, by omega, Lib.hid rfl, Lib.hid (Below.refl _ _)⟩
  case round =>
    obtain ⟨k, m, rfl, hk, rfl, hm2, hmk, hB⟩ := hrel
    by_cases hlt : k < l.length
    · obtain ⟨A', cap', e', -, -, r'⟩ := hR.out.below hB.out
      cases e'
      obtain ⟨b1, o1, rfl, hb1, x1⟩ := r' (by omega)
      have d1 : wr.cell? ⟨b1, o1 + k * 2, none⟩ = some (.string (str l[k].1)) := x1 _ _ (prs_at0 hlt)
      have d2 : wr.cell? ⟨b1, o1 + k * 2 + 1, none⟩ = some (.string (str l[k].2)) := x1 _ _ (prs_at1 hlt)
      have hsz := hs.out l[k] (List.getElem_mem hlt)
      have hln := ln_len l[k]
      have hlt2 := congrArg List.length (lns_take hlt)
      have hl2 := hll.out (k + 1)
      rw [List.length_append] at hlt2
      generalize l[k] = p at *
      obtain ⟨nm, vl⟩ := p
      simp only at d1 d2 hsz hln
      have z1 := str_size nm
      have z2 := str_size vl
      have hA1 := Lib.hid (hB.out.alloc hB.out.size (.cells #[.string (str nm), .string (str vl)] 26))
      have hnew : m + (nm.length + vl.length + 4) = (lns (l.take (k + 1))).length + 2 := by have := hmk.out; omega
      have hbd : m + (nm.length + vl.length + 4) ≤ 281474976710670000 := by omega
      replace hnew := Lib.hid hnew
      replace hlt2 := Lib.hid hlt2
      replace hl2 := Lib.hid hl2
      replace hln := Lib.hid hln
      clear x1 r'
      go_wp2
      go_roundw
      case rel => exact ⟨k + 1, m + (nm.length + vl.length + 4), by go_num, by omega, by go_num, hbd, hnew, hA1⟩
      case measure => simp only [intOf]; omega
    · obtain rfl : k = l.length := by omega
      have hmk2 := hmk.out
      rw [List.take_length] at hmk2
      replace hmk2 := Lib.hid hmk2
      go_wp2
      go_ret
      exact ⟨by rw [← hmk2.out]; rfl, hB.out⟩
set_option maxRecDepth 100000 in
set_option maxHeartbeats 4000000 in
theorem hlarge_big (st : Nat) (l : List (List UInt8 × List UInt8)) (v : Value) (w : World) (hst : st ≤ 1000000) (hR : Rd w 2 v l.length (prs l)) (hs : ∀ p ∈ l, p.1.length ≤ 140737488355328 ∧ p.2.length ≤ 140737488355328) (hm : l.length ≤ 1000) :
    Calls Tryz.prog 23 #[.int .i64 (st : Int), v] w fun e w' => e = .returned (.bool (largeB st l)) ∧ Below w.heap.size w w' := by
  obtain ⟨A, cap, rfl, hcap, -, -⟩ := id hR
  have hlen := lns_len l 140737488355328 hs
  have hS := Lib.hid (hsize_big l _ w hR hs hm)
  have hL : largeB st l = (decide (64 < l.length) || decide (8192 < st + 2 + ((lns l).length + 2))) := rfl
  replace hR := Lib.hid hR
  replace hs := Lib.hid hs
  by_cases h64 : 64 < l.length
  · have hres := Lib.hid (show largeB st l = true by rw [hL, decide_eq_true h64]; rfl)
    clear hL
    go_enter Tryz.func23, Tryz.ntmps23
    go_wp2
    go_ret
    exact ⟨by rw [hres.out]; rfl, Below.refl _ _⟩
  · replace hL := Lib.hid hL
    go_enter Tryz.func23, Tryz.ntmps23
    go_wp2_with fail
    refine hS.out.mono ?_
    rintro e w1 ⟨rfl, hb1⟩
    replace hb1 := Lib.hid hb1
    go_wp2
    go_ret
    refine ⟨congrArg (fun b => Ending.returned (Value.bool b)) (show (decide ((64 : Int) < (l.length : Int)) || decide ((8192 : Int) < (st : Int) + 2 + (((lns l).length : Int) + 2))) = largeB st l from ?_), hb1.out⟩
    rw [hL.out]
    congr 1
    · exact decide_eq_decide.2 (by omega)
    · exact decide_eq_decide.2 (by omega)
set_option maxRecDepth 100000 in
set_option maxHeartbeats 4000000 in
theorem wreq_large (m t : List UInt8) (l : List (List UInt8 × List UInt8)) (v : Value) (w : World) (hmt : m.length + t.length ≤ 50000) (hR : Rd w 2 v l.length (prs l)) (hs : ∀ p ∈ l, p.1.length ≤ 140737488355328 ∧ p.2.length ≤ 140737488355328) (hm : l.length ≤ 1000) (hL : largeB (m.length + t.length + 10) l = true) :
    Calls Tryz.prog 7 #[.agg #[.string (str m), .string (str t), v]] w (WqR w m t l) := by
  obtain ⟨A, cap, rfl, hcap, -, -⟩ := id hR
  have hK := Blk.new w 30 #[.string (str m), .string (str t), .slice A l.length cap]
  have hb0 := (Below.refl w.heap.size w).alloc (Nat.le_refl _) (.cells #[.string (str m), .string (str t), .slice A l.length cap] 30)
  have hLa := fun w' (hb : Below w.heap.size w w') => hlarge_big (m.length + t.length + 10) l (.slice A l.length cap) w' (by omega) (hR.below hb) hs hm
  rw [hL] at hLa
  have hE : wqE m t l = 5 := if_pos hL
  have z1 : (str m).size = m.length := str_size _
  have z2 : (str t).size = t.length := str_size _
  have q1 : (str m ++ (⟨#[32]⟩ : ByteArray)).size = m.length + 1 := by rw [ByteArray.size_append, z1]; rfl
  have q2 : (str m ++ (⟨#[32]⟩ : ByteArray) ++ str t).size = m.length + 1 + t.length := by rw [ByteArray.size_append, q1, z2]
  have q3 : (str m ++ (⟨#[32]⟩ : ByteArray) ++ str t ++ ⟨#[32]⟩).size = m.length + 1 + t.length + 1 := by rw [ByteArray.size_append, q2]; rfl
  have q4 : (str m ++ (⟨#[32]⟩ : ByteArray) ++ str t ++ ⟨#[32]⟩ ++ ⟨#[72, 84, 84, 80, 47, 49, 46, 49]⟩).size = m.length + t.length + 10 := by rw [ByteArray.size_append, q3]; show _ + 8 = _; omega
  rw [show ((m.length + t.length + 10 : Nat) : Int) = (m.length : Int) + (t.length : Int) + 10 by omega] at hLa
  have hc0 := hK.cell 0
  have hc1 := hK.cell 1
  have hc2 := hK.cell 2
  replace hLa := Lib.hid hLa
  replace hR := Lib.hid hR
  replace hs := Lib.hid hs
  replace hE := Lib.hid hE
  replace hK := Lib.hid hK
  replace hb0 := Lib.hid hb0
  replace hL := Lib.hid hL
  generalize str m = sm at *
  generalize str t = sd at *
  go_enter Tryz.func7, Tryz.ntmps7
  go_wp2_with fail
  refine (hLa.out _ hb0.out).mono ?_
  rintro e w2 ⟨rfl, hb2⟩
  have hB2 := Lib.hid (Below.next hb0.out hb0.out.size hb2)
  go_wp2
  go_ret2
  exact WqR.bad hE.out (by decide) hB2.out
theorem wreq_all (m t : List UInt8) (l : List (List UInt8 × List UInt8)) (v : Value) (w : World) (hmt : m.length + t.length ≤ 50000) (hR : Rd w 2 v l.length (prs l)) (hs : ∀ p ∈ l, p.1.length ≤ 140737488355328 ∧ p.2.length ≤ 140737488355328) (hm : l.length ≤ 1000) :
    Calls Tryz.prog 7 #[.agg #[.string (str m), .string (str t), v]] w (WqR w m t l) := by
  cases hL : largeB (m.length + t.length + 10) l with
  | true => exact wreq_large m t l v w hmt hR hs hm hL
  | false =>
    refine wreq_any m t l v w hmt hR (fun p hp => ?_) hm
    unfold largeB at hL
    rw [Bool.or_eq_false_iff] at hL
    have h1 := of_decide_eq_false hL.2
    have h2 : p.1.length + p.2.length ≤ (lns l).length := by
      unfold lns
      clear hL h1 hm hs hR hmt
      induction l with
      | nil => cases hp
      | cons q r ih =>
        rw [List.flatMap_cons, List.length_append]
        rcases List.mem_cons.1 hp with rfl | hp
        · rw [ln_len]; omega
        · have := ih hp; omega
    omega
end Go.Proofs.YtjffffpfejmoiaaGreatDoor
