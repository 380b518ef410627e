/-
  Layer 5: where a head ends.
-/
import Derived.Test.YtemlnmelicnneaaDoorHStr
import Derived.Test.YtemlnmelicnneaaDoorGByt
import Derived.Test.YtemlnmelicnneaaDoorShelfIdx
import Derived.Lib.SlFresh
import Derived.Lib.SlBytesConst
namespace Go.Proofs.YtemlnmelicnneaaDoor
open Go.RowKit Syn Hd

namespace Hd
/-- Where the head ends; -1: nowhere. -/
def endF (b : List UInt8) : Int := if Lib.hasPrefix b [13, 10] = true then 2 else if Lib.index b [13, 10, 13, 10] < 0 then -1 else Lib.index b [13, 10, 13, 10] + 4
abbrev MaxL (w : World) : Prop := ∃ m : Int, w.cell? ⟨0, 0, none⟩ = some (.int .i64 m)
theorem MaxL.below {w w' : World} (h : MaxL w) (hb : Below w.heap.size w w') : MaxL w' := by
  obtain ⟨m, hm⟩ := h
  exact ⟨m, by rw [hb.cell (p := ⟨0, 0, none⟩) (cell_lt hm)]; exact hm⟩
end Hd
theorem numsL_at {l : List UInt8} {i : Nat} (h : i < l.length) : (Lib.numsL l).getD i 0 = (l[i].toNat : Int) := by
  unfold Lib.numsL
  rw [List.getD_eq_getElem?_getD, List.getElem?_map, List.getElem?_eq_getElem h]; rfl
theorem rd_in {w : World} {A : Option Addr} {c : Nat} {l : List UInt8} (h : Rd w 1 (.slice A l.length c) l.length (u8s l)) : Lib.BytesIn w A l.length (Lib.numsL l) := by
  intro hn
  obtain ⟨A', c', e, -, -, r⟩ := h
  cases e
  obtain ⟨b, o, rfl, -, x⟩ := r hn
  exact ⟨b, o, rfl, fun i hi => by rw [x i _ (u8s_at hi), numsL_at hi]⟩
theorem const_in (w : World) (l : List UInt8) (m : Nat × Nat) : Lib.BytesIn (w.alloc (.cells (u8s l).toArray 5 m)) (some ⟨w.heap.size, 0, none⟩) l.length (Lib.numsL l) := by
  intro _
  refine ⟨w.heap.size, 0, rfl, fun i hi => ?_⟩
  rw [Nat.zero_add, World.cell?_alloc_mark, List.getElem?_toArray, u8s_at hi, numsL_at hi]
theorem numsL_range (l : List UInt8) : ∀ x ∈ Lib.numsL l, 0 ≤ x ∧ x < 256 := by
  intro x hx
  unfold Lib.numsL at hx
  obtain ⟨c, -, rfl⟩ := List.mem_map.1 hx
  have := c.toNat_lt
  exact ⟨by omega, by omega⟩
theorem bprefix_any {w : World} {A : Option Addr} {c : Nat} {l p : List UInt8} (W : World) (m : Nat × Nat) (d : Nat) (hW : W = w.alloc (.cells (u8s p).toArray 5 m)) (h : Rd w 1 (.slice A l.length c) l.length (u8s l)) :
    Calls Tryd.prog 74 #[.slice A l.length c, .slice (some ⟨w.heap.size, 0, none⟩) p.length d] W fun e w' => e = .returned (.bool (Lib.hasPrefix l p)) ∧ w' = W := by
  subst hW
  have hR := h.below ((Below.refl w.heap.size w).alloc (Nat.le_refl _) (.cells (u8s p).toArray 5 m))
  obtain ⟨A', c', e', hcap, -, -⟩ := id h
  cases e'
  refine (Any.bytes_HasPrefix_all Tryd.laysb116 A (some ⟨w.heap.size, 0, none⟩) l.length c p.length d (Lib.numsL l) (Lib.numsL p) _ (Lib.numsL_length l) (Lib.numsL_length p) hcap (rd_in hR) (const_in w p m)).mono ?_
  rintro e w' ⟨rfl, rfl⟩
  rw [Lib.bytesOf_numsL, Lib.bytesOf_numsL]
  exact ⟨rfl, rfl⟩
set_option maxRecDepth 100000 in
theorem bindex_any {w : World} {A : Option Addr} {c : Nat} {l p : List UInt8} (W : World) (m : Nat × Nat) (d : Nat) (hW : W = w.alloc (.cells (u8s p).toArray 5 m)) (h : Rd w 1 (.slice A l.length c) l.length (u8s l)) (hl : l.length ≤ 1000000) (hp2 : 2 ≤ p.length) (hp : p.length ≤ 1000) (hc0 : A = none → c = 0) (hM : MaxL W) :
    Calls Tryd.prog 75 #[.slice A l.length c, .slice (some ⟨w.heap.size, 0, none⟩) p.length d] W fun e w' => e = .returned (.int .i64 (Lib.index l p)) ∧ Below W.heap.size W w' := by
  subst hW
  have hR := h.below ((Below.refl w.heap.size w).alloc (Nat.le_refl _) (.cells (u8s p).toArray 5 m))
  obtain ⟨A', c', e', hcap, -, -⟩ := id h
  cases e'
  obtain ⟨k, hk⟩ := hM
  have hpc := const_in w p m
  obtain ⟨b2, o2, e2, x2⟩ := hpc (by omega)
  cases A with
  | none =>
    have hl0 : l.length = 0 := by
      rcases Nat.eq_zero_or_pos l.length with h0 | h0
      · exact h0
      · obtain ⟨b, o, e, -⟩ := rd_in hR h0; cases e
    have hnil := List.eq_nil_of_length_eq_zero hl0
    subst hnil
    obtain rfl := hc0 rfl
    refine (Any.bytes_Index_nil Tryd.lays185 (some ⟨w.heap.size, 0, none⟩) p.length d _ (by omega) (fun h => by omega)).mono ?_
    rintro e w' ⟨rfl, rfl⟩
    rw [if_neg (by omega), show Lib.index [] p = -1 from by unfold Lib.index; rw [if_neg (by cases p with | nil => simp at hp2 | cons x y => simp)]]
    exact ⟨rfl, Below.refl _ _⟩
  | some a1 =>
    refine (Any.bytes_Index_at Tryd.lays185 a1 ⟨w.heap.size, 0, none⟩ l.length c p.length d (Lib.numsL l) (Lib.numsL p) k _ (Lib.numsL_length l) (Lib.numsL_length p) (numsL_range l) (numsL_range p) (fun i hi => ?_) (fun i hi => ?_) hcap (by omega) (by omega) hk).mono ?_
    · obtain ⟨b, o, e, x⟩ := rd_in hR (by omega)
      cases e
      have hadd : (⟨b, o, none⟩ : Addr).add i = ⟨b, o + i, none⟩ := by unfold Addr.add; split <;> simp_all
      rw [hadd]; exact x i hi
    · cases e2
      have hadd : (⟨w.heap.size, 0, none⟩ : Addr).add i = ⟨w.heap.size, 0 + i, none⟩ := by unfold Addr.add; split <;> simp_all
      rw [hadd]; exact x2 i hi
    · rintro e w' ⟨rfl, q, rfl⟩
      rw [Lib.bytesOf_numsL, Lib.bytesOf_numsL]
      exact ⟨rfl, below_drewN (Below.refl _ _) q⟩
set_option maxRecDepth 100000 in
set_option maxHeartbeats 4000000 in
theorem end_any (b : List UInt8) (A : Option Addr) (cap : Nat) (w : World) (hR : Rd w 1 (.slice A b.length cap) b.length (u8s b)) (hb : b.length ≤ 1000000) (hc0 : A = none → cap = 0) (hM : MaxL w) :
    Calls Tryd.prog 58 #[.slice A b.length cap] w fun e w' => e = .returned (.int .i64 (endF b)) ∧ Below w.heap.size w w' := by
  have hcap : b.length ≤ cap := by obtain ⟨A', c', e', h, -, -⟩ := id hR; cases e'; exact h
  have hcv := Lib.run_convert_bytes_const (P := Tryd.prog) w 27 5 #[.int .u8 13, .int .u8 10] 2 2 Tryd.underlying27 Tryd.underlying5
  have hB1 := (Below.refl w.heap.size w).alloc (Nat.le_refl _) (.cells #[.int .u8 13, .int .u8 10] 5 (2, 3))
  have hPf := bprefix_any (p := [13, 10]) _ (2, 3) 2 rfl hR
  have hR1 := hR.below hB1
  have hM1 := hM.below hB1
  have hE : endF b = if Lib.hasPrefix b [13, 10] = true then 2 else if Lib.index b [13, 10, 13, 10] < 0 then -1 else Lib.index b [13, 10, 13, 10] + 4 := rfl
  change Calls Tryd.prog 74 #[.slice A b.length cap, .slice (some ⟨w.heap.size, 0, none⟩) 2 2] (w.alloc (.cells #[.int .u8 13, .int .u8 10] 5 (2, 3))) _ at hPf
  cases hp : Lib.hasPrefix b [13, 10] with
  | true =>
    rw [if_pos hp] at hE
    rw [hp] at hPf
    replace hE := Lib.hid hE
    replace hPf := Lib.hid hPf
    replace hc0 := Lib.hid hc0
    replace hp := Lib.hid hp
    replace hB1 := Lib.hid hB1
    replace hR := Lib.hid hR
    replace hR1 := Lib.hid hR1
    replace hM := Lib.hid hM
    replace hM1 := Lib.hid hM1
    go_enter Tryd.func58, Tryd.ntmps58
    go_wp2_with fail
    refine hPf.out.mono ?_
    rintro e w2 ⟨rfl, rfl⟩
    go_wp2
    go_ret
    exact ⟨by rw [hE.out]; rfl, hB1.out⟩
  | false =>
    rw [if_neg (by rw [hp]; decide)] at hE
    rw [hp] at hPf
    have hge := Lib.index_ge b [13, 10, 13, 10]
    have hle := Lib.index_le b [13, 10, 13, 10]
    have hIxx := Lib.hid (fun (w1 : World) (hR1 : Rd w1 1 (.slice A b.length cap) b.length (u8s b)) (hM1 : MaxL w1) => show Calls Tryd.prog 75 #[.slice A b.length cap, .slice (some ⟨w1.heap.size, 0, none⟩) 4 4] (w1.alloc (.cells #[.int .u8 13, .int .u8 10, .int .u8 13, .int .u8 10] 5 (4, 5))) _ from bindex_any (p := [13, 10, 13, 10]) _ (4, 5) 4 rfl hR1 hb (by decide) (by decide) hc0 (hM1.below ((Below.refl _ _).alloc (Nat.le_refl _) _)))
    generalize Lib.index b [13, 10, 13, 10] = ix at *
    replace hc0 := Lib.hid hc0
    replace hPf := Lib.hid hPf
    replace hp := Lib.hid hp
    replace hR := Lib.hid hR
    replace hR1 := Lib.hid hR1
    replace hM := Lib.hid hM
    replace hM1 := Lib.hid hM1
    replace hB1 := Lib.hid hB1
    by_cases hi : ix < 0
    · rw [if_pos hi] at hE
      replace hE := Lib.hid hE
      go_enter Tryd.func58, Tryd.ntmps58
      go_wp2_with fail
      refine hPf.out.mono ?_
      rintro e w2 ⟨rfl, hw2⟩
      have hB2 := Lib.hid (show Below w.heap.size w w2 by rw [hw2]; exact hB1.out)
      have hIx := Lib.hid (hIxx.out w2 (by rw [hw2]; exact hR1.out) (by rw [hw2]; exact hM1.out))
      have hcv2 := Lib.run_convert_bytes_const (P := Tryd.prog) w2 27 5 #[.int .u8 13, .int .u8 10, .int .u8 13, .int .u8 10] 4 4 Tryd.underlying27 Tryd.underlying5
      clear hw2 hcv
      go_wp2_with fail
      refine hIx.out.mono ?_
      rintro e w3 ⟨rfl, hb3⟩
      have hB3 := Lib.hid (Below.next (hB2.out.alloc hB2.out.size (.cells #[.int .u8 13, .int .u8 10, .int .u8 13, .int .u8 10] 5 (4, 5))) (by rw [alloc_size']; have := hB2.out.size; omega) hb3)
      clear hb3
      go_wp2
      go_ret
      exact ⟨by rw [hE.out]; rfl, hB3.out⟩
    · rw [if_neg hi] at hE
      have hi2 : 0 ≤ ix := by omega
      replace hE := Lib.hid hE
      go_enter Tryd.func58, Tryd.ntmps58
      go_wp2_with fail
      refine hPf.out.mono ?_
      rintro e w2 ⟨rfl, hw2⟩
      have hB2 := Lib.hid (show Below w.heap.size w w2 by rw [hw2]; exact hB1.out)
      have hIx := Lib.hid (hIxx.out w2 (by rw [hw2]; exact hR1.out) (by rw [hw2]; exact hM1.out))
      have hcv2 := Lib.run_convert_bytes_const (P := Tryd.prog) w2 27 5 #[.int .u8 13, .int .u8 10, .int .u8 13, .int .u8 10] 4 4 Tryd.underlying27 Tryd.underlying5
      clear hw2 hcv
      go_wp2_with fail
      refine hIx.out.mono ?_
      rintro e w3 ⟨rfl, hb3⟩
      have hB3 := Lib.hid (Below.next (hB2.out.alloc hB2.out.size (.cells #[.int .u8 13, .int .u8 10, .int .u8 13, .int .u8 10] 5 (4, 5))) (by rw [alloc_size']; have := hB2.out.size; omega) hb3)
      clear hb3
      go_wp2
      go_ret
      exact ⟨by rw [hE.out]; rfl, hB3.out⟩
end Go.Proofs.YtemlnmelicnneaaDoor
