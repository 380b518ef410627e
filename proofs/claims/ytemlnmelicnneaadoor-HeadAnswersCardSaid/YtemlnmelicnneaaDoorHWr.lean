/-
  Layer 5: heads are written: what they are (plain), and the parts of the code.
-/
import Derived.Test.YtemlnmelicnneaaDoorHDig
import Derived.Test.YtemlnmelicnneaaDoorMark
import Derived.Test.YtemlnmelicnneaaDoorCField
namespace Go.Proofs.YtemlnmelicnneaaDoor
open Go.RowKit Syn Hd Ck

namespace Hd
/-- A field that can be written. -/
def okC (p : List UInt8 × List UInt8) : Bool := decide (nmE p.1 = 0) && (decide (vlE p.2 = 0) && decide (vlV p.2 = p.2))
def okCs (l : List (List UInt8 × List UInt8)) : Bool := l.all okC
def can (l : List (List UInt8 × List UInt8)) : List (List UInt8 × List UInt8) := l.map fun p => (nmV p.1, p.2)
/-- A field's line. -/
def ln (p : List UInt8 × List UInt8) : List UInt8 := p.1 ++ [58, 32] ++ p.2 ++ [13, 10]
def lns (l : List (List UInt8 × List UInt8)) : List UInt8 := l.flatMap ln
def largeB (start : Nat) (l : List (List UInt8 × List UInt8)) : Bool := decide (64 < l.length) || decide (8192 < start + 2 + ((lns l).length + 2))
/-- A head. -/
def headB (start : List UInt8) (l : List (List UInt8 × List UInt8)) : List UInt8 := start ++ [13, 10] ++ lns l ++ [13, 10]
theorem okC_iff (n v : List UInt8) : okC (n, v) = true ↔ nmE n = 0 ∧ vlE v = 0 ∧ vlV v = v := by
  unfold okC; simp [Bool.and_eq_true]
theorem okCs_take {l : List (List UInt8 × List UInt8)} {k : Nat} (h : k < l.length) : okCs (l.take (k + 1)) = (okCs (l.take k) && okC l[k]) := by
  unfold okCs; rw [List.take_succ_eq_append_getElem h, List.all_append]; simp
theorem okCs_no {l : List (List UInt8 × List UInt8)} {k : Nat} (h : k < l.length) (h2 : okC l[k] = false) : okCs l = false := by
  unfold okCs
  rw [List.all_eq_false]
  exact ⟨l[k], List.getElem_mem h, by rw [h2]; simp⟩
theorem lns_take {l : List (List UInt8 × List UInt8)} {k : Nat} (h : k < l.length) : lns (l.take (k + 1)) = lns (l.take k) ++ ln l[k] := by
  unfold lns; rw [List.take_succ_eq_append_getElem h, List.flatMap_append]; simp
theorem can_take {l : List (List UInt8 × List UInt8)} {k : Nat} (h : k < l.length) : can (l.take (k + 1)) = can (l.take k) ++ [(nmV l[k].1, l[k].2)] := by
  unfold can; rw [List.take_succ_eq_append_getElem h, List.map_append]; rfl
theorem ln_len (p : List UInt8 × List UInt8) : (ln p).length = p.1.length + p.2.length + 4 := by
  unfold ln; simp only [List.length_append, List.length_cons, List.length_nil]; omega
theorem lns_len : ∀ (l : List (List UInt8 × List UInt8)) (M : Nat), (∀ p ∈ l, p.1.length ≤ M ∧ p.2.length ≤ M) → (lns l).length ≤ l.length * (2 * M + 4)
  | [], _, _ => by simp [lns]
  | p :: r, M, h => by
    have h1 := ln_len p
    have h3 := h p (by simp)
    have h2 := lns_len r M (fun q hq => h q (by simp [hq]))
    have e : lns (p :: r) = ln p ++ lns r := rfl
    rw [e, List.length_append, List.length_cons, Nat.add_mul]
    omega
theorem lns_le (l : List (List UInt8 × List UInt8)) (k : Nat) : (lns (l.take k)).length ≤ (lns l).length := by
  have e : lns l = lns (l.take k) ++ lns (l.drop k) := by unfold lns; rw [← List.flatMap_append, List.take_append_drop]
  rw [e, List.length_append]; omega
end Hd
set_option maxRecDepth 100000 in
set_option maxHeartbeats 4000000 in
theorem hsize_any (l : List (List UInt8 × List UInt8)) (v : Value) (w : World) (hR : Rd w 2 v l.length (prs l)) (hs : ∀ p ∈ l, p.1.length ≤ 1000000 ∧ p.2.length ≤ 1000000) (hm : l.length ≤ 1000) :
    Calls Tryd.prog 47 #[v] w fun e w' => e = .returned (.int .i64 (((lns l).length + 2 : Nat) : Int)) ∧ Below w.heap.size w w' := by
  obtain ⟨A, cap, rfl, hcap, -, -⟩ := id hR
  have hlen := lns_len l 1000000 hs
  have hll := Lib.hid (fun k => lns_le l k)
  replace hR := Lib.hid hR
  replace hs := Lib.hid hs
  go_enter Tryd.func47, Tryd.ntmps47
  go_wp2
  go_loopw [3, 8] (fun t i wr => ∃ k m : Nat, i = .int .i64 (k : Int) ∧ k ≤ l.length ∧ t = .int .i64 (m : Int) ∧ m ≤ 2000010000 ∧ Hid (m = (lns (l.take k)).length + 2) ∧ Hid (Below w.heap.size w wr)) (fun _ i _ => l.length - (intOf i).toNat)
  case atStart => exact ⟨0, 2, rfl, by omega, rfl, by omega, Lib.hid rfl, Lib.hid (Below.refl _ _)⟩
  case round =>
    obtain ⟨k, m, rfl, hk, rfl, hm2, hmk, hB⟩ := hrel
    by_cases hlt : k < l.length
    · obtain ⟨A', cap', e', -, -, r'⟩ := hR.out.below hB.out
      cases e'
      obtain ⟨b1, o1, rfl, hb1, x1⟩ := r' (by omega)
      have d1 : wr.cell? ⟨b1, o1 + k * 2, none⟩ = some (.string (str l[k].1)) := x1 _ _ (prs_at0 hlt)
      have d2 : wr.cell? ⟨b1, o1 + k * 2 + 1, none⟩ = some (.string (str l[k].2)) := x1 _ _ (prs_at1 hlt)
      have hsz := hs.out l[k] (List.getElem_mem hlt)
      have hln := ln_len l[k]
      have hlt2 := congrArg List.length (lns_take hlt)
      have hl2 := hll.out (k + 1)
      rw [List.length_append] at hlt2
      generalize l[k] = p at *
      obtain ⟨nm, vl⟩ := p
      simp only at d1 d2 hsz hln
      have z1 := str_size nm
      have z2 := str_size vl
      have hA1 := Lib.hid (hB.out.alloc hB.out.size (.cells #[.string (str nm), .string (str vl)] 86))
      have hnew : m + (nm.length + vl.length + 4) = (lns (l.take (k + 1))).length + 2 := by have := hmk.out; omega
      have hbd : m + (nm.length + vl.length + 4) ≤ 2000010000 := by omega
      replace hnew := Lib.hid hnew
      replace hlt2 := Lib.hid hlt2
      replace hl2 := Lib.hid hl2
      replace hln := Lib.hid hln
      clear x1 r'
      go_wp2
      go_roundw
      case rel => exact ⟨k + 1, m + (nm.length + vl.length + 4), by go_num, by omega, by go_num, hbd, hnew, hA1⟩
      case measure => simp only [intOf]; omega
    · obtain rfl : k = l.length := by omega
      have hmk2 := hmk.out
      rw [List.take_length] at hmk2
      replace hmk2 := Lib.hid hmk2
      go_wp2
      go_ret
      exact ⟨by rw [← hmk2.out]; rfl, hB.out⟩
set_option maxRecDepth 100000 in
set_option maxHeartbeats 4000000 in
theorem hlarge_any (st : Nat) (l : List (List UInt8 × List UInt8)) (v : Value) (w : World) (hst : st ≤ 1000000) (hR : Rd w 2 v l.length (prs l)) (hs : ∀ p ∈ l, p.1.length ≤ 1000000 ∧ p.2.length ≤ 1000000) (hm : l.length ≤ 1000) :
    Calls Tryd.prog 27 #[.int .i64 (st : Int), v] w fun e w' => e = .returned (.bool (largeB st l)) ∧ Below w.heap.size w w' := by
  obtain ⟨A, cap, rfl, hcap, -, -⟩ := id hR
  have hlen := lns_len l 1000000 hs
  have hS := Lib.hid (hsize_any l _ w hR hs hm)
  have hL : largeB st l = (decide (64 < l.length) || decide (8192 < st + 2 + ((lns l).length + 2))) := rfl
  replace hR := Lib.hid hR
  replace hs := Lib.hid hs
  by_cases h64 : 64 < l.length
  · have hres := Lib.hid (show largeB st l = true by rw [hL, decide_eq_true h64]; rfl)
    clear hL
    go_enter Tryd.func27, Tryd.ntmps27
    go_wp2
    go_ret
    exact ⟨by rw [hres.out]; rfl, Below.refl _ _⟩
  · replace hL := Lib.hid hL
    go_enter Tryd.func27, Tryd.ntmps27
    go_wp2_with fail
    refine hS.out.mono ?_
    rintro e w1 ⟨rfl, hb1⟩
    replace hb1 := Lib.hid hb1
    go_wp2
    go_ret
    refine ⟨congrArg (fun b => Ending.returned (Value.bool b)) (show (decide ((64 : Int) < (l.length : Int)) || decide ((8192 : Int) < (st : Int) + 2 + (((lns l).length : Int) + 2))) = largeB st l from ?_), hb1.out⟩
    rw [hL.out]
    congr 1
    · exact decide_eq_decide.2 (by omega)
    · exact decide_eq_decide.2 (by omega)
end Go.Proofs.YtemlnmelicnneaaDoor
