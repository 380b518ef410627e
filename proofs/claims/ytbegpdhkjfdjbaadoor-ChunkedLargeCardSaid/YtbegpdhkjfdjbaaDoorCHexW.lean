/-
  Layer 7: a number in base 16, as the library writes it.
-/
import Derived.Test.YtbegpdhkjfdjbaaDoorCHex
import Derived.Test.YtbegpdhkjfdjbaaDoorCCutI
import Derived.Laws.Bits64b
namespace Go.Proofs.YtbegpdhkjfdjbaaDoor
open Go.RowKit Syn Ck

set_option maxHeartbeats 1000000 in
theorem pow2_16 (w : World) : Calls Tryd.prog 91 #[.int .i64 16] w fun e w' => e = .returned (.bool true) ∧ w' = w := by
  go_enter Tryd.func91, Tryd.ntmps91
  go_wp2
  go_ret
  exact ⟨rfl, rfl⟩
set_option maxHeartbeats 1000000 in
theorem tz64_16 (w : World) (hT : w.cell? ⟨5, 15, none⟩ = some (.int .u8 4)) : Calls Tryd.prog 99 #[.int .u64 16] w fun e w' => e = .returned (.int .i64 4) ∧ w' = w := by
  have h1 : IntKind.u64.wrap (-16) = 18446744073709551600 := by decide
  have h2 : bits BinOp.and IntKind.u64 16 18446744073709551600 = 16 := by decide
  have h3 : IntKind.u64.wrap (16 * 285870213051353865) = 4573923408821661840 := by decide
  go_enter Tryd.func99, Tryd.ntmps99
  go_wp2
  go_ret
  exact ⟨rfl, rfl⟩
set_option maxHeartbeats 1000000 in
theorem tz_16 (w : World) (hT : w.cell? ⟨5, 15, none⟩ = some (.int .u8 4)) : Calls Tryd.prog 92 #[.int .u64 16] w fun e w' => e = .returned (.int .i64 4) ∧ w' = w := by
  replace hT := Lib.hid hT
  go_enter Tryd.func92, Tryd.ntmps92
  go_wp2_with fail
  refine (tz64_16 _ hT.out).mono ?_
  rintro e w' ⟨rfl, rfl⟩
  go_wp2
  go_ret
  exact ⟨rfl, rfl⟩
namespace Ck
/-- The digits' bytes. -/
def digs : ByteArray := ⟨#[48, 49, 50, 51, 52, 53, 54, 55, 56, 57, 97, 98, 99, 100, 101, 102, 103, 104, 105, 106, 107, 108, 109, 110, 111, 112, 113, 114, 115, 116, 117, 118, 119, 120, 121, 122]⟩
theorem digs_at : ∀ (d : Fin 16), digs[d.1]'(by have := d.2; show d.1 < 36; omega) = hxc d.1 := by decide
theorem and15 (u : Nat) (h : u < 18446744073709551616) : bits .and .u64 (u : Int) 15 = ((u % 16 : Nat) : Int) := by
  have e := bits_and_u64_nat u 15 h (by decide)
  rw [show u &&& 15 = u % 16 from Nat.and_two_pow_sub_one_eq_mod u 4] at e
  exact e
theorem drop_set {cs : Array Value} {m : Nat} {v : Value} (h : m < cs.size) : (cs.setIfInBounds m v).toList.drop m = v :: cs.toList.drop (m + 1) := by
  rw [Array.toList_setIfInBounds, List.drop_eq_getElem_cons (by rw [List.length_set]; exact h), List.getElem_set_self, List.drop_set_of_lt (by omega)]
theorem dig_val {d : Nat} (h : d < 16) : Value.int .u8 (((digs[d]'(by show d < 36; omega)).toNat : Nat) : Int) = .int .u8 ((hxc d).toNat : Int) := by rw [digs_at ⟨d, h⟩]
/-- The digit that is stored. -/
def dv (u : Nat) (h : u < 16) : Value := .int .u8 (((digs[u]'(by show u < 36; omega)).toNat : Nat) : Int)
theorem u8s_cons (c : UInt8) (l : List UInt8) : u8s (c :: l) = .int .u8 (c.toNat : Int) :: u8s l := rfl
/-- In the loop of formatBits. -/
def FI (w : World) (n : Nat) (uv iv : Value) (wx : World) : Prop :=
  ∃ (u i : Nat) (suf : List UInt8) (cs : Array Value), uv = .int .u64 (u : Int) ∧ iv = .int .i64 (i : Int) ∧ i + suf.length = 65 ∧ u ≤ n ∧ Hid (hexs n = hexs u ++ suf) ∧ Hid (∃ ty, Blk wx w.heap.size ty cs) ∧ cs.size = 65 ∧ Hid (cs.toList.drop i = u8s suf) ∧ Hid (Below w.heap.size w wx)
end Ck
set_option maxRecDepth 100000 in
set_option maxHeartbeats 4000000 in
theorem fmtbits_16 (n : Nat) (w : World) (hn : n < 9223372036854775808) (hT : w.cell? ⟨5, 15, none⟩ = some (.int .u8 4)) :
    Calls Tryd.prog 81 #[.slice none 0 0, .int .u64 (n : Int), .int .i64 16, .bool false, .bool true] w fun e w' =>
      ∃ v, e = .returned (.tuple #[v, .string ⟨#[]⟩]) ∧ Own w' w.heap.size 5 1 v (hexs n).length (u8s (hexs n)) ∧ Below w.heap.size w w' := by
  have h5 := cell_lt hT
  have hln := hexs_len 15 n (by omega)
  replace hT := Lib.hid hT
  go_enter Tryd.func81, Tryd.ntmps81
  go_wp2_with fail
  refine (pow2_16 _).mono ?_
  rintro e w1 ⟨rfl, hw1⟩
  have hz0 := Tryd.zeroCells121
  have hB1 : Below w.heap.size w w1 := by rw [hw1]; exact (Below.refl _ _).alloc (Nat.le_refl _) _
  have hK1 : ∃ ty cs, Blk w1 w.heap.size ty cs ∧ cs.size = 65 := ⟨_, _, by rw [hw1]; exact Blk.new w _ _, by decide⟩
  clear hw1
  have hT1 := Lib.hid ((hB1.cell (p := ⟨5, 15, none⟩) h5).trans hT.out)
  replace hB1 := Lib.hid hB1
  go_wp2_with fail
  refine (tz_16 _ hT1.out).mono ?_
  rintro e w2 ⟨rfl, rfl⟩
  obtain ⟨ty, cs, hK, hcs⟩ := hK1
  have hst : FI w n (.int .u64 (n : Int)) (.int .i64 65) w2 := ⟨n, 65, [], cs, rfl, rfl, rfl, Nat.le_refl _, Lib.hid (by rw [List.append_nil]), Lib.hid ⟨ty, hK⟩, hcs, Lib.hid (by rw [List.drop_of_length_le (by simp [hcs])]; rfl), hB1⟩
  clear hK hcs
  go_wp2
  go_loopw [1, 13] (fun u i wx => FI w n u i wx) (fun u _ _ => (intOf u).toNat)
  case atStart => exact hst
  case round =>
    clear hst
    obtain ⟨u, i, suf, cs, rfl, rfl, hi, hun, hhx, hK, hcs, hdr, hB⟩ := hrel
    obtain ⟨ty, hK'⟩ := hK.out
    have hlen : (hexs n).length = (hexs u).length + suf.length := by rw [hhx.out, List.length_append]
    have hpos := hexs_pos u
    have hci : ∃ v, wr.cell? ⟨w.heap.size, i - 1, none⟩ = some v := by
      rw [hK'.cell (i - 1)]
      exact ⟨cs[i - 1]'(by omega), Array.getElem?_eq_getElem _⟩
    obtain ⟨ov, c1⟩ := hci
    have f1 := hK'.frozen (i - 1)
    obtain ⟨m, rfl⟩ : ∃ m, i = m + 1 := ⟨i - 1, by omega⟩
    rw [Nat.add_sub_cancel] at c1 f1
    by_cases hu : u < 16
    · have hms : m < cs.size := by omega
      have hh2 := hhx.out
      rw [hexs_small hu] at hh2
      have hl2 : (hexs n).length = 65 - m := by rw [hh2, List.length_append, List.length_singleton]; omega
      have hv := dig_val hu
      have hK2 := hK'.set_ m (dv u hu)
      have hnew : ∀ j x, (u8s (hexs n))[j]? = some x → (wr.setCell ⟨w.heap.size, m, none⟩ (dv u hu)).cell? ((⟨w.heap.size, m, none⟩ : Addr).add j) = some x := fun j x hx => by
        have hadd : (⟨w.heap.size, m, none⟩ : Addr).add j = ⟨w.heap.size, m + j, none⟩ := by unfold Addr.add; split <;> simp_all
        rw [hadd, hK2.cell (m + j)]
        have e1 := drop_set (v := dv u hu) hms
        rw [hdr.out, show dv u hu = .int .u8 ((hxc u).toNat : Int) from hv, ← u8s_cons, show hxc u :: suf = hexs n from hh2.symm] at e1
        rw [← e1, List.getElem?_drop, Array.getElem?_toList] at hx
        rw [show dv u hu = .int .u8 ((hxc u).toNat : Int) from hv]
        exact hx
      have hB2 := hB.out.setCell (p := ⟨w.heap.size, m, none⟩) (Nat.le_refl _) (dv u hu)
      have hs2' := hB2.size
      have h1c := u8s_one (hexs n)
      have hl3 : (u8s (hexs n)).length = (65 - m) * 1 := by rw [u8s_length, hl2, Nat.mul_one]
      have hsl : ∀ W : World, (Instr.sliceAt 121 (.pointer (some ⟨w.heap.size, 0, none⟩)) (some (.int .i64 (m : Int))) none none).run Tryd.prog W = .ok (.slice (some ⟨w.heap.size, m, none⟩) (65 - m) (65 - m)) W := fun W => by
        have hl : Tryd.prog.arrayLen 121 = 65 := by kernel_rfl
        have hs : (sizeOf (Tryd.prog.elem 121)).run Tryd.prog W = .ok 1 W := by kernel_rfl
        have h := run_sliceAt_array_l (P := Tryd.prog) W 121 ⟨w.heap.size, 0, none⟩ (by kernel_rfl) .i64 (m : Int) (by omega) (by rw [hl]; omega)
        rw [hl, hs] at h
        rw [h]
        have hadd : (⟨w.heap.size, 0, none⟩ : Addr).add m = ⟨w.heap.size, m, none⟩ := by unfold Addr.add; split <;> simp_all
        simp [slicedAt, Result.andThen, hadd, show ¬ 65 = m by omega]
      replace hnew := Lib.hid hnew
      replace h1c := Lib.hid h1c
      replace hl3 := Lib.hid hl3
      replace hB2 := Lib.hid hB2
      replace hh2 := Lib.hid hh2
      replace hv := Lib.hid hv
      clear hK' hK2 hdr hK hB
      go_wp2_with (at_builtin; go_loud (refine step_pushB (v := .slice none 0 0) (n := 0) (m := 65 - m) (c := 65 - m) (xs := []) (news := u8s (hexs n)) (ad := ⟨w.heap.size, m, none⟩) (B := w.heap.size) 30 5 (.int .u8 0) 1 1 _ _ rfl rfl Tryd.underlying30 infoU8 rfl (by decide) (by decide) rfl (own_nil _ _ _ _) rfl hl3.out (by exact hnew.out) h1c.out (by omega) (by exact hs2') ?_); intro v5 w5 ho5 hg5 _; go_loud (have hB5 : Below w.heap.size w w5 := hB2.out.trans (below_grown (own_nil _ w.heap.size 5 1) hg5 hs2')); replace ho5 := Lib.hid ho5; replace hB5 := Lib.hid hB5; clear hg5)
      go_ret2
      exact ⟨_, rfl, by have h := ho5.out; rw [Nat.zero_add, List.nil_append, ← hl2] at h; exact h, hB5.out⟩
    · have hb15 := and15 u (by omega)
      obtain ⟨d, hd⟩ : ∃ d, u % 16 = d := ⟨_, rfl⟩
      have hd16 : d < 16 := by omega
      rw [hd] at hb15
      replace hd := Lib.hid hd
      replace hhx := Lib.hid hhx
      go_wp2
      have hms : m < cs.size := by omega
      refine ⟨⟨u / 16, m, hxc d :: suf, _, by rw [show ((u / 16 : Nat) : Int) = (u : Int) / 16 by omega], rfl, by rw [List.length_cons]; omega, by omega, Lib.hid ?_, Lib.hid ⟨ty, hK'.set_ m _⟩, by rw [Array.size_setIfInBounds]; exact hcs, Lib.hid ?_, Lib.hid (hB.out.setCell (p := ⟨w.heap.size, m, none⟩) (Nat.le_refl _) _)⟩, ?_⟩
      · rw [hhx.out, hexs_big hu, hd.out, List.append_assoc]; rfl
      · rw [drop_set hms, hdr.out, u8s_cons]
        congr 1
        exact dig_val hd16
      · simp only [intOf]; omega
set_option maxHeartbeats 2000000 in
theorem appuint_16 (n : Nat) (w : World) (hn : n < 9223372036854775808) (hT : w.cell? ⟨5, 15, none⟩ = some (.int .u8 4)) :
    Calls Tryd.prog 67 #[.slice none 0 0, .int .u64 (n : Int), .int .i64 16] w fun e w' => ∃ v, e = .returned v ∧ Own w' w.heap.size 5 1 v (hexs n).length (u8s (hexs n)) ∧ Below w.heap.size w w' := by
  have hI := Lib.hid (fmtbits_16 n w hn hT)
  replace hT := Lib.hid hT
  go_enter Tryd.func67, Tryd.ntmps67
  go_wp2_with fail
  refine hI.out.mono ?_
  rintro e w2 ⟨v, rfl, ho, hb⟩
  replace ho := Lib.hid ho
  replace hb := Lib.hid hb
  go_wp2
  go_ret
  exact ⟨_, rfl, ho.out, hb.out⟩
set_option maxHeartbeats 2000000 in
theorem iappint_16 (n : Nat) (w : World) (hn : n < 9223372036854775808) (hT : w.cell? ⟨5, 15, none⟩ = some (.int .u8 4)) :
    Calls Tryd.prog 53 #[.slice none 0 0, .int .i64 (n : Int), .int .i64 16] w fun e w' => ∃ v, e = .returned v ∧ Own w' w.heap.size 5 1 v (hexs n).length (u8s (hexs n)) ∧ Below w.heap.size w w' := by
  have hI := Lib.hid (appuint_16 n w hn hT)
  replace hT := Lib.hid hT
  go_enter Tryd.func53, Tryd.ntmps53
  go_wp2_with fail
  refine hI.out.mono ?_
  rintro e w2 ⟨v, rfl, ho, hb⟩
  replace ho := Lib.hid ho
  replace hb := Lib.hid hb
  go_wp2
  go_ret
  exact ⟨_, rfl, ho.out, hb.out⟩
set_option maxHeartbeats 2000000 in
theorem appint_16 (n : Nat) (w : World) (hn : n < 9223372036854775808) (hT : w.cell? ⟨5, 15, none⟩ = some (.int .u8 4)) :
    Calls Tryd.prog 35 #[.slice none 0 0, .int .i64 (n : Int), .int .i64 16] w fun e w' => ∃ v, e = .returned v ∧ Own w' w.heap.size 5 1 v (hexs n).length (u8s (hexs n)) ∧ Below w.heap.size w w' := by
  have hI := Lib.hid (iappint_16 n w hn hT)
  replace hT := Lib.hid hT
  go_enter Tryd.func35, Tryd.ntmps35
  go_wp2_with fail
  refine hI.out.mono ?_
  rintro e w2 ⟨v, rfl, ho, hb⟩
  replace ho := Lib.hid ho
  replace hb := Lib.hid hb
  go_wp2
  go_ret
  exact ⟨_, rfl, ho.out, hb.out⟩
end Go.Proofs.YtbegpdhkjfdjbaaDoor
