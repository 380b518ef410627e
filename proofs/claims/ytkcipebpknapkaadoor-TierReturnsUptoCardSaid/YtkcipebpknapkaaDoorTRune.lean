/-
  strings.IndexRune of a blank and a tab at a rune that is none of them; strings.ContainsAny of blanks and tabs in any text.
-/
import Derived.Test.YtkcipebpknapkaaDoorTAwake
import Derived.Lib.OthersKept
import Derived.Laws.Runes
import Derived.Shelf.Small.Utf8
import Derived.Shelf.Strings.Runes
import Derived.Deep.QuietTactic
import Derived.BigQuiet
import Derived.WalkMore
namespace Go.Proofs.YtkcipebpknapkaaDoor
open Go.RowKit Ti Go.Lib

theorem iterPos_of {w : World} {k : Nat} {s : ByteArray} {p : Nat} (h : w.heap[k]? = some (.stringIter s p)) : w.iterPos k = p := by
  unfold World.iterPos
  rw [h]

set_option maxRecDepth 100000 in
set_option maxHeartbeats 8000000 in
theorem idxrune_bad (w : World) : Calls Tryd.prog 40 #[.string ⟨#[32, 9]⟩, .int .i32 65533] w fun e w' => e = .returned (.int .i64 (-1)) ∧ Below w.heap.size w w' := by
  go_enter Tryd.func40, Tryd.ntmps40
  go_wp2
  go_loopw [5, 6] (fun _ _ wr => ∃ p : Nat, p ≤ 2 ∧ wr.heap[w.heap.size]? = some (.stringIter ⟨#[32, 9]⟩ p) ∧ Hid (Below w.heap.size w wr)) (fun _ _ wr => 2 - wr.iterPos w.heap.size)
  case atStart => exact ⟨0, by omega, World.iter_heap w _ 0, Lib.hid ((Below.refl _ _).alloc (Nat.le_refl _) _)⟩
  case round =>
    obtain ⟨p, hp, hh, hB⟩ := hrel
    have hnw : ∀ q, (wr.iterAt w.heap.size ⟨#[32, 9]⟩ q).heap[w.heap.size]? = some (.stringIter ⟨#[32, 9]⟩ q) := fun q => iterAt_heap wr w.heap.size _ p q hh
    have hbn : ∀ q, Below w.heap.size w (wr.iterAt w.heap.size ⟨#[32, 9]⟩ q) := fun q => below_iterAt hB.out (Nat.le_refl _) _ _
    replace hbn := Lib.hid hbn
    replace hnw := Lib.hid hnw
    rcases (show p = 0 ∨ p = 1 ∨ p = 2 by omega) with rfl | rfl | rfl
    · have hnx : ∀ ty, (Instr.next (.pointer (some ⟨w.heap.size, 0, none⟩)) true ty).run Tryd.prog wr = .ok (.tuple #[.bool true, .int .i64 0, .int .i32 32]) (wr.iterAt w.heap.size ⟨#[32, 9]⟩ 1) := fun ty => run_next_ascii_at wr w.heap.size ⟨#[32, 9]⟩ 0 ty hh (by decide) (by decide)
      replace hh := Lib.hid hh
      go_wp2
      exact ⟨⟨1, by omega, hnw.out 1, Lib.hid (hbn.out 1)⟩, by rw [iterPos_of (hnw.out 1), iterPos_of hh.out]; omega⟩
    · have hnx : ∀ ty, (Instr.next (.pointer (some ⟨w.heap.size, 0, none⟩)) true ty).run Tryd.prog wr = .ok (.tuple #[.bool true, .int .i64 1, .int .i32 9]) (wr.iterAt w.heap.size ⟨#[32, 9]⟩ 2) := fun ty => run_next_ascii_at wr w.heap.size ⟨#[32, 9]⟩ 1 ty hh (by decide) (by decide)
      replace hh := Lib.hid hh
      go_wp2
      exact ⟨⟨2, by omega, hnw.out 2, Lib.hid (hbn.out 2)⟩, by rw [iterPos_of (hnw.out 2), iterPos_of hh.out]; omega⟩
    · have hnx : ∀ ty, (Instr.next (.pointer (some ⟨w.heap.size, 0, none⟩)) true ty).run Tryd.prog wr = .ok (.tuple #[.bool false]) wr := fun ty => run_next_end_at wr w.heap.size ⟨#[32, 9]⟩ 2 ty hh (by decide)
      replace hh := Lib.hid hh
      go_wp2
      go_ret
      exact ⟨rfl, hB.out⟩

theorem ixnone (c : UInt8) (h : 128 ≤ c.toNat) : Lib.indexByte [32, 9] c = -1 := by
  have h1 : (32 : UInt8) ≠ c := by rintro rfl; revert h; decide
  have h2 : (9 : UInt8) ≠ c := by rintro rfl; revert h; decide
  simp [Lib.indexByte, h1, h2]

theorem two_bytes {b : ByteArray} (h : b.size = 2) : ∃ y x, b = ⟨#[y, x]⟩ := by
  obtain ⟨⟨l⟩⟩ := b
  match l, h with
  | [y, x], _ => exact ⟨y, x, rfl⟩

theorem idxbyte_at (s : ByteArray) (c : Int) (w : World) : Calls Tryd.prog 55 #[.string s, .int .u8 c] w fun e w' => e = .returned (.int .i64 (Lib.indexByte s.data.toList c.toNat.toUInt8)) ∧ w' = w :=
  Any.strings_IndexByte { Tryd.lays150 with } s c w

theorem idxbyte_empty (c : Int) (w : World) : Calls Tryd.prog 55 #[.string ByteArray.empty, .int .u8 c] w fun e w' => e = .returned (.int .i64 (-1)) ∧ w' = w :=
  idxbyte_at _ c w

theorem idxrune_ascii (r : Int) (w : World) (h0 : 0 ≤ r) (h1 : r < 128) : Calls Tryd.prog 40 #[.string ⟨#[32, 9]⟩, .int .i32 r] w fun e w' => e = .returned (.int .i64 (Lib.indexByte [32, 9] r.toNat.toUInt8)) ∧ w' = w :=
  Any.strings_IndexRune_ascii { Tryd.lays150 with } ⟨#[32, 9]⟩ r w h0 h1

theorem validrune_at (r : Int) (w : World) : Calls Tryd.prog 56 #[.int .i32 r] w fun e w' => e = .returned (.bool (Lib.validRune r)) ∧ w' = w :=
  Any.utf8_ValidRune { Tryd.lays150 with } r w

set_option maxRecDepth 100000 in
set_option maxHeartbeats 8000000 in
theorem idxrune_high (r : Int) (w : World) (h0 : 128 ≤ r) (hx : r ≤ 2147483647) : Calls Tryd.prog 40 #[.string ⟨#[32, 9]⟩, .int .i32 r] w fun e w' => e = .returned (.int .i64 (-1)) ∧ Below w.heap.size w w' := by
  by_cases hb : r = 65533
  · subst hb; exact idxrune_bad w
  · have hbb : (r == 65533) = false := beq_eq_false_iff_ne.2 hb
    clear hb
    cases hv : Lib.validRune r
    · go_enter Tryd.func40, Tryd.ntmps40
      go_wp2_with (go_at_call 56; refine (validrune_at _ _).mono ?_; rintro e w' ⟨rfl, rfl⟩; rw [hv])
      go_ret
      exact ⟨rfl, Below.refl _ _⟩
    · obtain ⟨he2, he4, hel⟩ := encode_facts r (by rw [validRune_eq]; exact hv) h0
      obtain ⟨bs, hbs⟩ : ∃ bs, Utf8.encode r = bs := ⟨_, rfl⟩
      rw [hbs] at he2 he4 hel
      have hcv : ∀ w, (convert 21 9 (.int .i32 r)).run Tryd.prog w = .ok (.string bs) w := fun w => by rw [← hbs]; exact run_convert_int_string w _ _ _ _ (by kernel_rfl) (by kernel_rfl)
      clear hbs
      have h0z : ((0 : Int) ≤ r) := by omega
      have hlz : ¬ (r < 128) := by omega
      clear h0 hx
      by_cases hn2 : bs.size = 2
      · obtain ⟨y, x, rfl⟩ := two_bytes hn2
        have hel : 128 ≤ x.toNat := hel (show (1 : Nat) < 2 by omega)
        have hne : ((((⟨#[32, 9]⟩ : ByteArray)[1]'(show (1 : Nat) < 2 by omega)).toNat : Int) != ((⟨#[y, x]⟩ : ByteArray)[1]'(show (1 : Nat) < 2 by omega)).toNat) = true := bne_iff_ne.2 (by show ((9 : Nat) : Int) ≠ (x.toNat : Int); omega)
        clear he2 he4 hn2
        replace hel := Lib.hid hel
        go_enter Tryd.func40, Tryd.ntmps40
        go_wp2_with (go_at_call 56; refine (validrune_at _ _).mono ?_; rintro e w' ⟨rfl, rfl⟩; rw [hv])
        go_step3
        go_wp2
        go_loopg [9] 0 (fun g s9 wx => s9 = .int .i64 1 ∧ wx = w')
        case atStart => exact ⟨rfl, rfl⟩
        case round =>
          obtain ⟨rfl, rfl⟩ := hrel
          go_wp2_with fail
          go_step3
          go_wp2_with fail
          go_region
          go_wp2_with fail
          go_region_with (go_at_call 55; refine (idxbyte_empty _ _).mono ?_; rintro e w' ⟨rfl, rfl⟩)
          all_goals go_wp2_with fail
          all_goals first
            | (rw [Exit.noGoto_ret]; go_wp2; rw [Exit.noGoto_ret]; go_ret; exact ⟨rfl, (Below.refl _ _).drew.drew⟩)
            | (exfalso; rename_i h; exact h (by decide))
            | trace_state
      · have hls : ((bs.size : Int) - 1 < 2) = False := by simp; omega
        have hw1 : IntKind.i64.wrap ((bs.size : Int) - 1) = (bs.size : Int) - 1 := IntWalk.i64_in _ (by omega)
        go_enter Tryd.func40, Tryd.ntmps40
        go_wp2_with (go_at_call 56; refine (validrune_at _ _).mono ?_; rintro e w' ⟨rfl, rfl⟩; rw [hv])
        go_step3
        go_wp2
        go_loopg [9] 0 (fun g s9 wx => s9 = .int .i64 ((bs.size : Int) - 1) ∧ wx = w')
        case atStart => exact ⟨rfl, rfl⟩
        case round =>
          obtain ⟨rfl, rfl⟩ := hrel
          go_wp2_with fail
          rw [Exit.noGoto_ret]
          go_ret
          exact ⟨rfl, Below.refl _ _⟩

theorem decode_tail (s : ByteArray) (pos : Nat) (h : pos < s.size) (ha : 128 ≤ (s[pos]'h).toNat) : ∀ k, k < (Utf8.decode s pos).2 → ∃ g : pos + k < s.size, 128 ≤ (s[pos + k]'g).toNat := by
  have hn : ¬ (s[pos]'h).toNat < 128 := by omega
  have h0 : ∃ g : pos + 0 < s.size, 128 ≤ (s[pos + 0]'g).toNat := ⟨h, ha⟩
  have hc : ∀ k, (decide (pos + k < s.size) && ((s.get! (pos + k)).toNat / 64 == 2)) = true → ∃ g : pos + k < s.size, 128 ≤ (s[pos + k]'g).toNat := by
    intro k hk
    simp only [Bool.and_eq_true, decide_eq_true_eq, beq_iff_eq] at hk
    refine ⟨hk.1, ?_⟩
    have e := get_at s (pos + k) hk.1
    rw [Nat.add_zero] at e
    rw [← e]
    omega
  intro k hk
  have h1 : (Utf8.decode s pos).2 = 1 ∨ ((Utf8.decode s pos).2 = 2 ∧ (∃ g : pos + 1 < s.size, 128 ≤ (s[pos + 1]'g).toNat)) ∨ ((Utf8.decode s pos).2 = 3 ∧ (∃ g : pos + 1 < s.size, 128 ≤ (s[pos + 1]'g).toNat) ∧ (∃ g : pos + 2 < s.size, 128 ≤ (s[pos + 2]'g).toNat)) ∨ ((Utf8.decode s pos).2 = 4 ∧ (∃ g : pos + 1 < s.size, 128 ≤ (s[pos + 1]'g).toNat) ∧ (∃ g : pos + 2 < s.size, 128 ≤ (s[pos + 2]'g).toNat) ∧ (∃ g : pos + 3 < s.size, 128 ≤ (s[pos + 3]'g).toNat)) := by
    simp only [Utf8.decode, get_at s pos h, hn, if_false]
    split
    · rename_i h2
      simp only [Bool.and_eq_true] at h2
      have c1 := hc 1 (by simpa using h2.2)
      split
      · exact .inr (.inl ⟨rfl, c1⟩)
      · exact .inl rfl
    · split
      · rename_i h3
        rw [Bool.and_eq_true, Bool.and_eq_true] at h3
        have c1 := hc 1 h3.1.2
        have c2 := hc 2 h3.2
        split
        · exact .inr (.inr (.inl ⟨rfl, c1, c2⟩))
        · exact .inl rfl
      · split
        · rename_i h4
          rw [Bool.and_eq_true, Bool.and_eq_true, Bool.and_eq_true] at h4
          have c1 := hc 1 h4.1.1.2
          have c2 := hc 2 h4.1.2
          have c3 := hc 3 h4.2
          split
          · exact .inr (.inr (.inr ⟨rfl, c1, c2, c3⟩))
          · exact .inl rfl
        · exact .inl rfl
  rcases h1 with e | ⟨e, c1⟩ | ⟨e, c1, c2⟩ | ⟨e, c1, c2, c3⟩
  · obtain rfl : k = 0 := by omega
    exact h0
  · rcases (show k = 0 ∨ k = 1 by omega) with rfl | rfl
    · exact h0
    · exact c1
  · rcases (show k = 0 ∨ k = 1 ∨ k = 2 by omega) with rfl | rfl | rfl
    · exact h0
    · exact c1
    · exact c2
  · rcases (show k = 0 ∨ k = 1 ∨ k = 2 ∨ k = 3 by omega) with rfl | rfl | rfl | rfl
    · exact h0
    · exact c1
    · exact c2
    · exact c3

end Go.Proofs.YtkcipebpknapkaaDoor
