/-
  strings.ContainsAny of blanks and tabs in any text.
-/
import Derived.Test.YtkcipebpknapkaaDoorTRune
namespace Go.Proofs.YtkcipebpknapkaaDoor
open Go.RowKit Ti Go.Lib

theorem noany_high {s : ByteArray} {i : Nat} (h : NoAny s.data.toList [32, 9] i) (hi : i < s.size) (ha : 128 ≤ (s[i]'hi).toNat) : NoAny s.data.toList [32, 9] (i + (Utf8.decode s i).2) := by
  intro j b hj hb
  by_cases hji : j < i
  · exact h j b hji hb
  · obtain ⟨g, hg⟩ := decode_tail s i hi ha (j - i) (by omega)
    have e : s.data.toList[i + (j - i)]? = some (s[i + (j - i)]'g) := Lib.data_getElem? s _ g
    generalize s[i + (j - i)]'g = c at hg e
    rw [show i + (j - i) = j by omega, hb] at e
    obtain rfl : b = c := Option.some.inj e
    have h1 : (b == 32) = false := by rw [beq_eq_false_iff_ne]; rintro rfl; revert hg; decide
    have h2 : (b == 9) = false := by rw [beq_eq_false_iff_ne]; rintro rfl; revert hg; decide
    simp [List.contains, List.elem, h1, h2]

theorem shoulduse_at (n : Int) (w : World) : Calls Tryd.prog 41 #[.int .i64 n] w fun e w' => e = .returned (.bool (decide (8 < n))) ∧ w' = w :=
  Any.strings_shouldUseASCIISet { Tryd.lays150 with } n w

set_option maxRecDepth 100000 in
set_option maxHeartbeats 8000000 in
theorem indexany_short (s : ByteArray) (w : World) (h8 : s.size ≤ 8) : Calls Tryd.prog 31 #[.string s, .string ⟨#[32, 9]⟩] w fun e w' => e = .returned (.int .i64 (Lib.indexAny s.data.toList [32, 9])) ∧ Below w.heap.size w w' := by
  have h8z : decide ((8 : Int) < (s.size : Int)) = false := decide_eq_false (by omega)
  go_enter Tryd.func31, Tryd.ntmps31
  go_wp2_with (go_at_call 41; refine (shoulduse_at _ _).mono ?_; rintro e w' ⟨rfl, hw⟩; rw [hw, h8z])
  go_loopw [9, 10] (fun _ _ wr => ∃ p : Nat, p ≤ s.size ∧ wr.heap[w.heap.size]? = some (.stringIter s p) ∧ Hid (Below w.heap.size w wr) ∧ Hid (NoAny s.data.toList [32, 9] p)) (fun _ _ wr => s.size - wr.iterPos w.heap.size)
  case atStart => exact ⟨0, by omega, World.iter_heap w _ 0, Lib.hid ((Below.refl _ _).alloc (Nat.le_refl _) _), Lib.hid (NoAny.zero _ _)⟩
  case round =>
    obtain ⟨p, hp, hh, hB, hN⟩ := hrel
    have hnw : ∀ q, (wr.iterAt w.heap.size s q).heap[w.heap.size]? = some (.stringIter s q) := fun q => iterAt_heap wr w.heap.size _ p q hh
    have hbn : ∀ q, Below w.heap.size w (wr.iterAt w.heap.size s q) := fun q => below_iterAt hB.out (Nat.le_refl _) _ _
    have hsn : ∀ q, (wr.iterAt w.heap.size s q).heap.size = wr.heap.size := fun q => iterAt_size _ _ _ _
    have hlt : w.heap.size < wr.heap.size := (Array.getElem?_eq_some_iff.1 hh).1
    by_cases hps : p < s.size
    · obtain ⟨x, hx⟩ : ∃ x : UInt8, s[p]'hps = x := ⟨_, rfl⟩
      have hxl : s.data.toList[p]? = some x := by rw [← hx]; exact Lib.data_getElem? s p hps
      by_cases hx8 : x.toNat < 128
      · have hnx : ∀ ty, (Instr.next (.pointer (some ⟨w.heap.size, 0, none⟩)) true ty).run Tryd.prog wr = .ok (.tuple #[.bool true, .int .i64 p, .int .i32 x.toNat]) (wr.iterAt w.heap.size s (p + 1)) := fun ty => by
          have := run_next_ascii_at (P := Tryd.prog) wr w.heap.size s p ty hh hps (by rw [hx]; exact hx8)
          rw [hx] at this
          exact this
        replace hh := Lib.hid hh
        have hB1 := hbn (p + 1)
        have hh1 := hnw (p + 1)
        have hs1 := hsn (p + 1)
        clear hnw hbn hsn
        generalize wr.iterAt w.heap.size s (p + 1) = wz at *
        replace hB1 := Lib.hid hB1
        replace hh1 := Lib.hid hh1
        have hcon := Lib.contains_iff_indexByte [32, 9] x
        have hback : ((x.toNat : Int)).toNat.toUInt8 = x := by simp
        replace hxl := Lib.hid hxl
        clear hx
        cases hin : ([32, 9] : Bytes).contains x
        · rw [hin] at hcon
          have hlt : ¬ ((0 : Int) ≤ Lib.indexByte [32, 9] x) := of_decide_eq_false hcon.symm
          clear hcon
          go_wp2_with (go_at_call 40; refine (idxrune_ascii _ _ (by omega) (by omega)).mono ?_; rintro e w' ⟨rfl, hw⟩; rw [hw, hback])
          exact ⟨⟨p + 1, by omega, hh1.out, hB1, Lib.hid (hN.out.succ hxl.out hin)⟩, by rw [iterPos_of hh1.out, iterPos_of hh.out]; omega⟩
        · rw [hin] at hcon
          have hge : (0 : Int) ≤ Lib.indexByte [32, 9] x := of_decide_eq_true hcon.symm
          clear hcon
          go_wp2_with (go_at_call 40; refine (idxrune_ascii _ _ (by omega) (by omega)).mono ?_; rintro e w' ⟨rfl, hw⟩; rw [hw, hback])
          go_ret
          exact ⟨by rw [Lib.indexAny_hit hN.out hxl.out hin]; rfl, hB1.out⟩
      · have hx9 : 128 ≤ (s[p]'hps).toNat := by rw [hx]; omega
        obtain ⟨hd1, hd2⟩ := decode_high s p hps hx9
        have hd3 := decode_le s p
        have hd4 : p + (Utf8.decode s p).2 ≤ s.size := by
          obtain ⟨g, -⟩ := decode_tail s p hps hx9 ((Utf8.decode s p).2 - 1) (by omega)
          omega
        have hN1 := noany_high hN.out hps hx9
        have hnx : ∀ ty, (Instr.next (.pointer (some ⟨w.heap.size, 0, none⟩)) true ty).run Tryd.prog wr = .ok (.tuple #[.bool true, .int .i64 p, .int .i32 (Utf8.decode s p).1]) (wr.iterAt w.heap.size s (p + (Utf8.decode s p).2)) := fun ty => run_next_any_at wr w.heap.size s p ty hh hps
        generalize (Utf8.decode s p).1 = r at *
        generalize (Utf8.decode s p).2 = d at *
        replace hh := Lib.hid hh
        have hB1 := hbn (p + d)
        have hh1 := hnw (p + d)
        have hs1 := hsn (p + d)
        clear hnw hbn hsn hx hxl hx8 hx9
        generalize wr.iterAt w.heap.size s (p + d) = wz at *
        replace hB1 := Lib.hid hB1
        replace hh1 := Lib.hid hh1
        replace hN1 := Lib.hid hN1
        have hc : Calls Tryd.prog 40 #[.string ⟨#[32, 9]⟩, .int .i32 r] wz fun e w' => e = .returned (.int .i64 (-1)) ∧ w'.heap[w.heap.size]? = some (.stringIter s (p + d)) ∧ Hid (Below w.heap.size w w') := (idxrune_high (r : Int) wz (by omega) (by omega)).mono fun e w' ⟨h1, h2⟩ => ⟨h1, (h2.block _ (by omega)).trans hh1.out, Lib.hid (hB1.out.trans (h2.mono (by omega)))⟩
        replace hc := Lib.hid hc
        go_wp2_with (go_at_call 40; refine hc.out.mono ?_; rintro e w' ⟨rfl, hi2, hB2⟩; replace hi2 := Lib.hid hi2)
        exact ⟨⟨p + d, by omega, hi2.out, hB2, hN1⟩, by rw [iterPos_of hi2.out, iterPos_of hh.out]; omega⟩
    · obtain rfl : p = s.size := by omega
      have hnx : ∀ ty, (Instr.next (.pointer (some ⟨w.heap.size, 0, none⟩)) true ty).run Tryd.prog wr = .ok (.tuple #[.bool false]) wr := fun ty => run_next_end_at wr w.heap.size s s.size ty hh (by omega)
      replace hh := Lib.hid hh
      clear hnw hbn hsn
      go_wp2
      go_ret
      exact ⟨by rw [Lib.indexAny_none (by rw [← Lib.size_eq]; exact hN.out)]; rfl, hB.out⟩

theorem indexany_any (s : ByteArray) (w : World) (hs : s.size ≤ 4294967280) : Calls Tryd.prog 31 #[.string s, .string ⟨#[32, 9]⟩] w fun e w' => e = .returned (.int .i64 (Lib.indexAny s.data.toList [32, 9])) ∧ Below w.heap.size w w' := by
  by_cases h8 : s.size ≤ 8
  · exact indexany_short s w h8
  · have h116 : (Tryd.prog.info? (Tryd.lays150_ren.t 116)).map (fun i => (i.zero, i.size)) = some (some (.agg (Array.replicate 256 (.bool false))), 256) := by kernel_rfl
    refine (Any.strings_IndexAny_long { Tryd.lays150 with } (zero_of_info h116).1 (zero_of_info h116).2 s ⟨#[32, 9]⟩ w (by decide) (by omega) (by omega) (by decide) (ascii_of_all (by decide))).mono fun e w' ⟨h1, h2⟩ => ⟨h1, ?_⟩
    rw [h2]
    exact ((Below.refl _ _).alloc (Nat.le_refl _) _).alloc (by simp) _

set_option maxHeartbeats 1000000 in
theorem containsany_any (n : Bytes) (w : World) (hn : n.length ≤ 4294967280) : Calls Tryd.prog 21 #[.string (str n), .string ⟨#[32, 9]⟩] w fun e w' => e = .returned (.bool (n.any Syn.blank)) ∧ Below w.heap.size w w' := by
  have hi := indexany_any (str n) w (by rw [str_size]; exact hn)
  rw [← contains_blank]
  unfold Lib.containsAny
  go_enter Tryd.func21, Tryd.ntmps21
  go_wp2_with (go_at_call 31; refine hi.mono ?_; rintro e w' ⟨rfl, hw⟩)
  go_ret
  exact ⟨rfl, hw⟩
end Go.Proofs.YtkcipebpknapkaaDoor
