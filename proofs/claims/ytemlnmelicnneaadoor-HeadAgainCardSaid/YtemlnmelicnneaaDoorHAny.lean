/-
  strings.ContainsAny of blanks and tabs in any text.
-/
import Derived.Test.YtemlnmelicnneaaDoorFSpec
import Derived.Test.YtemlnmelicnneaaDoorGLow
import Derived.Test.YtemlnmelicnneaaDoorShelfAny
import Derived.Lib.OthersKept
import Derived.Laws.Runes
import Derived.Shelf.Small.Utf8
import Derived.Shelf.Strings.Runes
import Derived.Deep.QuietTactic
import Derived.BigQuiet
import Derived.WalkMore
namespace Go.Proofs.YtemlnmelicnneaaDoor
open Go.RowKit Go.Lib Fr

theorem contains_blank : ∀ l : Bytes, Lib.containsAny l [32, 9] = l.any Syn.blank
  | [] => rfl
  | b :: l => by
    have ih := contains_blank l
    unfold Lib.containsAny at ih ⊢
    have hge := Lib.indexAny_ge [32, 9] l
    have hb : ([32, 9] : Bytes).contains b = Syn.blank b := by
      unfold Syn.blank
      simp only [List.contains, List.elem]
      cases (b == 32) <;> cases (b == 9) <;> rfl
    rw [List.any_cons, ← ih]
    conv => lhs; unfold Lib.indexAny
    rw [hb]
    cases hbb : Syn.blank b
    · rw [if_neg (by decide)]
      by_cases h : Lib.indexAny l [32, 9] = -1
      · rw [h]; rfl
      · rw [if_neg (by rw [beq_iff_eq]; exact h), Bool.false_or]
        rw [decide_eq_decide]; omega
    · rfl


theorem iterPos_of {w : World} {k : Nat} {s : ByteArray} {p : Nat} (h : w.heap[k]? = some (.stringIter s p)) : w.iterPos k = p := by
  unfold World.iterPos
  rw [h]

set_option maxRecDepth 100000 in
set_option maxHeartbeats 8000000 in
theorem idxrune_bad (w : World) : Calls Tryd.prog 122 #[.string ⟨#[32, 9]⟩, .int .i32 65533] w fun e w' => e = .returned (.int .i64 (-1)) ∧ Below w.heap.size w w' := by
  go_enter Tryd.func122, Tryd.ntmps122
  go_wp2
  go_loopw [5, 6] (fun _ _ wr => ∃ p : Nat, p ≤ 2 ∧ wr.heap[w.heap.size]? = some (.stringIter ⟨#[32, 9]⟩ p) ∧ Hid (Below w.heap.size w wr)) (fun _ _ wr => 2 - wr.iterPos w.heap.size)
  case atStart => exact ⟨0, by omega, World.iter_heap w _ 0, Lib.hid ((Below.refl _ _).alloc (Nat.le_refl _) _)⟩
  case round =>
    obtain ⟨p, hp, hh, hB⟩ := hrel
    have hnw : ∀ q, (wr.iterAt w.heap.size ⟨#[32, 9]⟩ q).heap[w.heap.size]? = some (.stringIter ⟨#[32, 9]⟩ q) := fun q => iterAt_heap wr w.heap.size _ p q hh
    have hbn : ∀ q, Below w.heap.size w (wr.iterAt w.heap.size ⟨#[32, 9]⟩ q) := fun q => below_iterAt hB.out (Nat.le_refl _) _ _
    replace hbn := Lib.hid hbn
    replace hnw := Lib.hid hnw
    rcases (show p = 0 ∨ p = 1 ∨ p = 2 by omega) with rfl | rfl | rfl
    · have hnx : ∀ ty, (Instr.next (.pointer (some ⟨w.heap.size, 0, none⟩)) true ty).run Tryd.prog wr = .ok (.tuple #[.bool true, .int .i64 0, .int .i32 32]) (wr.iterAt w.heap.size ⟨#[32, 9]⟩ 1) := fun ty => run_next_ascii_at wr w.heap.size ⟨#[32, 9]⟩ 0 ty hh (by decide) (by decide)
      replace hh := Lib.hid hh
      go_wp2
      exact ⟨⟨1, by omega, hnw.out 1, Lib.hid (hbn.out 1)⟩, by rw [iterPos_of (hnw.out 1), iterPos_of hh.out]; omega⟩
    · have hnx : ∀ ty, (Instr.next (.pointer (some ⟨w.heap.size, 0, none⟩)) true ty).run Tryd.prog wr = .ok (.tuple #[.bool true, .int .i64 1, .int .i32 9]) (wr.iterAt w.heap.size ⟨#[32, 9]⟩ 2) := fun ty => run_next_ascii_at wr w.heap.size ⟨#[32, 9]⟩ 1 ty hh (by decide) (by decide)
      replace hh := Lib.hid hh
      go_wp2
      exact ⟨⟨2, by omega, hnw.out 2, Lib.hid (hbn.out 2)⟩, by rw [iterPos_of (hnw.out 2), iterPos_of hh.out]; omega⟩
    · have hnx : ∀ ty, (Instr.next (.pointer (some ⟨w.heap.size, 0, none⟩)) true ty).run Tryd.prog wr = .ok (.tuple #[.bool false]) wr := fun ty => run_next_end_at wr w.heap.size ⟨#[32, 9]⟩ 2 ty hh (by decide)
      replace hh := Lib.hid hh
      go_wp2
      go_ret
      exact ⟨rfl, hB.out⟩

theorem ixnone (c : UInt8) (h : 128 ≤ c.toNat) : Lib.indexByte [32, 9] c = -1 := by
  have h1 : (32 : UInt8) ≠ c := by rintro rfl; revert h; decide
  have h2 : (9 : UInt8) ≠ c := by rintro rfl; revert h; decide
  simp [Lib.indexByte, h1, h2]

theorem two_bytes {b : ByteArray} (h : b.size = 2) : ∃ y x, b = ⟨#[y, x]⟩ := by
  obtain ⟨⟨l⟩⟩ := b
  match l, h with
  | [y, x], _ => exact ⟨y, x, rfl⟩

theorem idxbyte_at (s : ByteArray) (c : Int) (w : World) : Calls Tryd.prog 106 #[.string s, .int .u8 c] w fun e w' => e = .returned (.int .i64 (Lib.indexByte s.data.toList c.toNat.toUInt8)) ∧ w' = w :=
  Any.strings_IndexByte { Tryd.lays150 with } s c w

theorem idxbyte_empty (c : Int) (w : World) : Calls Tryd.prog 106 #[.string ByteArray.empty, .int .u8 c] w fun e w' => e = .returned (.int .i64 (-1)) ∧ w' = w :=
  idxbyte_at _ c w

theorem idxrune_ascii (r : Int) (w : World) (h0 : 0 ≤ r) (h1 : r < 128) : Calls Tryd.prog 122 #[.string ⟨#[32, 9]⟩, .int .i32 r] w fun e w' => e = .returned (.int .i64 (Lib.indexByte [32, 9] r.toNat.toUInt8)) ∧ w' = w :=
  Any.strings_IndexRune_ascii { Tryd.lays150 with } ⟨#[32, 9]⟩ r w h0 h1

theorem validrune_at (r : Int) (w : World) : Calls Tryd.prog 128 #[.int .i32 r] w fun e w' => e = .returned (.bool (Lib.validRune r)) ∧ w' = w :=
  Any.utf8_ValidRune { Tryd.lays150 with } r w

set_option maxRecDepth 100000 in
set_option maxHeartbeats 8000000 in
theorem idxrune_high (r : Int) (w : World) (h0 : 128 ≤ r) (hx : r ≤ 2147483647) : Calls Tryd.prog 122 #[.string ⟨#[32, 9]⟩, .int .i32 r] w fun e w' => e = .returned (.int .i64 (-1)) ∧ Below w.heap.size w w' := by
  by_cases hb : r = 65533
  · subst hb; exact idxrune_bad w
  · have hbb : (r == 65533) = false := beq_eq_false_iff_ne.2 hb
    clear hb
    cases hv : Lib.validRune r
    · go_enter Tryd.func122, Tryd.ntmps122
      go_wp2_with (go_at_call 128; refine (validrune_at _ _).mono ?_; rintro e w' ⟨rfl, rfl⟩; rw [hv])
      go_ret
      exact ⟨rfl, Below.refl _ _⟩
    · obtain ⟨he2, he4, hel⟩ := encode_facts r (by rw [validRune_eq]; exact hv) h0
      obtain ⟨bs, hbs⟩ : ∃ bs, Utf8.encode r = bs := ⟨_, rfl⟩
      rw [hbs] at he2 he4 hel
      have hcv : ∀ w, (convert 21 9 (.int .i32 r)).run Tryd.prog w = .ok (.string bs) w := fun w => by rw [← hbs]; exact run_convert_int_string w _ _ _ _ (by kernel_rfl) (by kernel_rfl)
      clear hbs
      have h0z : ((0 : Int) ≤ r) := by omega
      have hlz : ¬ (r < 128) := by omega
      clear h0 hx
      by_cases hn2 : bs.size = 2
      · obtain ⟨y, x, rfl⟩ := two_bytes hn2
        have hel : 128 ≤ x.toNat := hel (show (1 : Nat) < 2 by omega)
        have hne : ((((⟨#[32, 9]⟩ : ByteArray)[1]'(show (1 : Nat) < 2 by omega)).toNat : Int) != ((⟨#[y, x]⟩ : ByteArray)[1]'(show (1 : Nat) < 2 by omega)).toNat) = true := bne_iff_ne.2 (by show ((9 : Nat) : Int) ≠ (x.toNat : Int); omega)
        clear he2 he4 hn2
        replace hel := Lib.hid hel
        go_enter Tryd.func122, Tryd.ntmps122
        go_wp2_with (go_at_call 128; refine (validrune_at _ _).mono ?_; rintro e w' ⟨rfl, rfl⟩; rw [hv])
        go_step3
        go_wp2
        go_loopg [9] 0 (fun g s9 wx => s9 = .int .i64 1 ∧ wx = w')
        case atStart => exact ⟨rfl, rfl⟩
        case round =>
          obtain ⟨rfl, rfl⟩ := hrel
          go_wp2_with fail
          go_step3
          go_wp2_with fail
          go_region
          go_wp2_with fail
          go_region_with (go_at_call 106; refine (idxbyte_empty _ _).mono ?_; rintro e w' ⟨rfl, rfl⟩)
          all_goals go_wp2_with fail
          all_goals first
            | (rw [Exit.noGoto_ret]; go_wp2; rw [Exit.noGoto_ret]; go_ret; exact ⟨rfl, (Below.refl _ _).drew.drew⟩)
            | (exfalso; rename_i h; exact h (by decide))
            | trace_state
      · have hls : ((bs.size : Int) - 1 < 2) = False := by simp; omega
        have hw1 : IntKind.i64.wrap ((bs.size : Int) - 1) = (bs.size : Int) - 1 := IntWalk.i64_in _ (by omega)
        go_enter Tryd.func122, Tryd.ntmps122
        go_wp2_with (go_at_call 128; refine (validrune_at _ _).mono ?_; rintro e w' ⟨rfl, rfl⟩; rw [hv])
        go_step3
        go_wp2
        go_loopg [9] 0 (fun g s9 wx => s9 = .int .i64 ((bs.size : Int) - 1) ∧ wx = w')
        case atStart => exact ⟨rfl, rfl⟩
        case round =>
          obtain ⟨rfl, rfl⟩ := hrel
          go_wp2_with fail
          rw [Exit.noGoto_ret]
          go_ret
          exact ⟨rfl, Below.refl _ _⟩

theorem decode_tail (s : ByteArray) (pos : Nat) (h : pos < s.size) (ha : 128 ≤ (s[pos]'h).toNat) : ∀ k, k < (Utf8.decode s pos).2 → ∃ g : pos + k < s.size, 128 ≤ (s[pos + k]'g).toNat := by
  have hn : ¬ (s[pos]'h).toNat < 128 := by omega
  have h0 : ∃ g : pos + 0 < s.size, 128 ≤ (s[pos + 0]'g).toNat := ⟨h, ha⟩
  have hc : ∀ k, (decide (pos + k < s.size) && ((s.get! (pos + k)).toNat / 64 == 2)) = true → ∃ g : pos + k < s.size, 128 ≤ (s[pos + k]'g).toNat := by
    intro k hk
    simp only [Bool.and_eq_true, decide_eq_true_eq, beq_iff_eq] at hk
    refine ⟨hk.1, ?_⟩
    have e := get_at s (pos + k) hk.1
    rw [Nat.add_zero] at e
    rw [← e]
    omega
  intro k hk
  have h1 : (Utf8.decode s pos).2 = 1 ∨ ((Utf8.decode s pos).2 = 2 ∧ (∃ g : pos + 1 < s.size, 128 ≤ (s[pos + 1]'g).toNat)) ∨ ((Utf8.decode s pos).2 = 3 ∧ (∃ g : pos + 1 < s.size, 128 ≤ (s[pos + 1]'g).toNat) ∧ (∃ g : pos + 2 < s.size, 128 ≤ (s[pos + 2]'g).toNat)) ∨ ((Utf8.decode s pos).2 = 4 ∧ (∃ g : pos + 1 < s.size, 128 ≤ (s[pos + 1]'g).toNat) ∧ (∃ g : pos + 2 < s.size, 128 ≤ (s[pos + 2]'g).toNat) ∧ (∃ g : pos + 3 < s.size, 128 ≤ (s[pos + 3]'g).toNat)) := by
    simp only [Utf8.decode, get_at s pos h, hn, if_false]
    split
    · rename_i h2
      simp only [Bool.and_eq_true] at h2
      have c1 := hc 1 (by simpa using h2.2)
      split
      · exact .inr (.inl ⟨rfl, c1⟩)
      · exact .inl rfl
    · split
      · rename_i h3
        rw [Bool.and_eq_true, Bool.and_eq_true] at h3
        have c1 := hc 1 h3.1.2
        have c2 := hc 2 h3.2
        split
        · exact .inr (.inr (.inl ⟨rfl, c1, c2⟩))
        · exact .inl rfl
      · split
        · rename_i h4
          rw [Bool.and_eq_true, Bool.and_eq_true, Bool.and_eq_true] at h4
          have c1 := hc 1 h4.1.1.2
          have c2 := hc 2 h4.1.2
          have c3 := hc 3 h4.2
          split
          · exact .inr (.inr (.inr ⟨rfl, c1, c2, c3⟩))
          · exact .inl rfl
        · exact .inl rfl
  rcases h1 with e | ⟨e, c1⟩ | ⟨e, c1, c2⟩ | ⟨e, c1, c2, c3⟩
  · obtain rfl : k = 0 := by omega
    exact h0
  · rcases (show k = 0 ∨ k = 1 by omega) with rfl | rfl
    · exact h0
    · exact c1
  · rcases (show k = 0 ∨ k = 1 ∨ k = 2 by omega) with rfl | rfl | rfl
    · exact h0
    · exact c1
    · exact c2
  · rcases (show k = 0 ∨ k = 1 ∨ k = 2 ∨ k = 3 by omega) with rfl | rfl | rfl | rfl
    · exact h0
    · exact c1
    · exact c2
    · exact c3



theorem noany_high {s : ByteArray} {i : Nat} (h : NoAny s.data.toList [32, 9] i) (hi : i < s.size) (ha : 128 ≤ (s[i]'hi).toNat) : NoAny s.data.toList [32, 9] (i + (Utf8.decode s i).2) := by
  intro j b hj hb
  by_cases hji : j < i
  · exact h j b hji hb
  · obtain ⟨g, hg⟩ := decode_tail s i hi ha (j - i) (by omega)
    have e : s.data.toList[i + (j - i)]? = some (s[i + (j - i)]'g) := Lib.data_getElem? s _ g
    generalize s[i + (j - i)]'g = c at hg e
    rw [show i + (j - i) = j by omega, hb] at e
    obtain rfl : b = c := Option.some.inj e
    have h1 : (b == 32) = false := by rw [beq_eq_false_iff_ne]; rintro rfl; revert hg; decide
    have h2 : (b == 9) = false := by rw [beq_eq_false_iff_ne]; rintro rfl; revert hg; decide
    simp [List.contains, List.elem, h1, h2]

theorem shoulduse_at (n : Int) (w : World) : Calls Tryd.prog 123 #[.int .i64 n] w fun e w' => e = .returned (.bool (decide (8 < n))) ∧ w' = w :=
  Any.strings_shouldUseASCIISet { Tryd.lays150 with } n w

set_option maxRecDepth 100000 in
set_option maxHeartbeats 8000000 in
theorem indexany_short (s : ByteArray) (w : World) (h8 : s.size ≤ 8) : Calls Tryd.prog 105 #[.string s, .string ⟨#[32, 9]⟩] w fun e w' => e = .returned (.int .i64 (Lib.indexAny s.data.toList [32, 9])) ∧ Below w.heap.size w w' := by
  have h8z : decide ((8 : Int) < (s.size : Int)) = false := decide_eq_false (by omega)
  go_enter Tryd.func105, Tryd.ntmps105
  go_wp2_with (go_at_call 123; refine (shoulduse_at _ _).mono ?_; rintro e w' ⟨rfl, hw⟩; rw [hw, h8z])
  go_loopw [9, 10] (fun _ _ wr => ∃ p : Nat, p ≤ s.size ∧ wr.heap[w.heap.size]? = some (.stringIter s p) ∧ Hid (Below w.heap.size w wr) ∧ Hid (NoAny s.data.toList [32, 9] p)) (fun _ _ wr => s.size - wr.iterPos w.heap.size)
  case atStart => exact ⟨0, by omega, World.iter_heap w _ 0, Lib.hid ((Below.refl _ _).alloc (Nat.le_refl _) _), Lib.hid (NoAny.zero _ _)⟩
  case round =>
    obtain ⟨p, hp, hh, hB, hN⟩ := hrel
    have hnw : ∀ q, (wr.iterAt w.heap.size s q).heap[w.heap.size]? = some (.stringIter s q) := fun q => iterAt_heap wr w.heap.size _ p q hh
    have hbn : ∀ q, Below w.heap.size w (wr.iterAt w.heap.size s q) := fun q => below_iterAt hB.out (Nat.le_refl _) _ _
    have hsn : ∀ q, (wr.iterAt w.heap.size s q).heap.size = wr.heap.size := fun q => iterAt_size _ _ _ _
    have hlt : w.heap.size < wr.heap.size := (Array.getElem?_eq_some_iff.1 hh).1
    by_cases hps : p < s.size
    · obtain ⟨x, hx⟩ : ∃ x : UInt8, s[p]'hps = x := ⟨_, rfl⟩
      have hxl : s.data.toList[p]? = some x := by rw [← hx]; exact Lib.data_getElem? s p hps
      by_cases hx8 : x.toNat < 128
      · have hnx : ∀ ty, (Instr.next (.pointer (some ⟨w.heap.size, 0, none⟩)) true ty).run Tryd.prog wr = .ok (.tuple #[.bool true, .int .i64 p, .int .i32 x.toNat]) (wr.iterAt w.heap.size s (p + 1)) := fun ty => by
          have := run_next_ascii_at (P := Tryd.prog) wr w.heap.size s p ty hh hps (by rw [hx]; exact hx8)
          rw [hx] at this
          exact this
        replace hh := Lib.hid hh
        have hB1 := hbn (p + 1)
        have hh1 := hnw (p + 1)
        have hs1 := hsn (p + 1)
        clear hnw hbn hsn
        generalize wr.iterAt w.heap.size s (p + 1) = wz at *
        replace hB1 := Lib.hid hB1
        replace hh1 := Lib.hid hh1
        have hcon := Lib.contains_iff_indexByte [32, 9] x
        have hback : ((x.toNat : Int)).toNat.toUInt8 = x := by simp
        replace hxl := Lib.hid hxl
        clear hx
        cases hin : ([32, 9] : Bytes).contains x
        · rw [hin] at hcon
          have hlt : ¬ ((0 : Int) ≤ Lib.indexByte [32, 9] x) := of_decide_eq_false hcon.symm
          clear hcon
          go_wp2_with (go_at_call 122; refine (idxrune_ascii _ _ (by omega) (by omega)).mono ?_; rintro e w' ⟨rfl, hw⟩; rw [hw, hback])
          exact ⟨⟨p + 1, by omega, hh1.out, hB1, Lib.hid (hN.out.succ hxl.out hin)⟩, by rw [iterPos_of hh1.out, iterPos_of hh.out]; omega⟩
        · rw [hin] at hcon
          have hge : (0 : Int) ≤ Lib.indexByte [32, 9] x := of_decide_eq_true hcon.symm
          clear hcon
          go_wp2_with (go_at_call 122; refine (idxrune_ascii _ _ (by omega) (by omega)).mono ?_; rintro e w' ⟨rfl, hw⟩; rw [hw, hback])
          go_ret
          exact ⟨by rw [Lib.indexAny_hit hN.out hxl.out hin]; rfl, hB1.out⟩
      · have hx9 : 128 ≤ (s[p]'hps).toNat := by rw [hx]; omega
        obtain ⟨hd1, hd2⟩ := decode_high s p hps hx9
        have hd3 := decode_le s p
        have hd4 : p + (Utf8.decode s p).2 ≤ s.size := by
          obtain ⟨g, -⟩ := decode_tail s p hps hx9 ((Utf8.decode s p).2 - 1) (by omega)
          omega
        have hN1 := noany_high hN.out hps hx9
        have hnx : ∀ ty, (Instr.next (.pointer (some ⟨w.heap.size, 0, none⟩)) true ty).run Tryd.prog wr = .ok (.tuple #[.bool true, .int .i64 p, .int .i32 (Utf8.decode s p).1]) (wr.iterAt w.heap.size s (p + (Utf8.decode s p).2)) := fun ty => run_next_any_at wr w.heap.size s p ty hh hps
        generalize (Utf8.decode s p).1 = r at *
        generalize (Utf8.decode s p).2 = d at *
        replace hh := Lib.hid hh
        have hB1 := hbn (p + d)
        have hh1 := hnw (p + d)
        have hs1 := hsn (p + d)
        clear hnw hbn hsn hx hxl hx8 hx9
        generalize wr.iterAt w.heap.size s (p + d) = wz at *
        replace hB1 := Lib.hid hB1
        replace hh1 := Lib.hid hh1
        replace hN1 := Lib.hid hN1
        have hc : Calls Tryd.prog 122 #[.string ⟨#[32, 9]⟩, .int .i32 r] wz fun e w' => e = .returned (.int .i64 (-1)) ∧ w'.heap[w.heap.size]? = some (.stringIter s (p + d)) ∧ Hid (Below w.heap.size w w') := (idxrune_high (r : Int) wz (by omega) (by omega)).mono fun e w' ⟨h1, h2⟩ => ⟨h1, (h2.block _ (by omega)).trans hh1.out, Lib.hid (hB1.out.trans (h2.mono (by omega)))⟩
        replace hc := Lib.hid hc
        go_wp2_with (go_at_call 122; refine hc.out.mono ?_; rintro e w' ⟨rfl, hi2, hB2⟩; replace hi2 := Lib.hid hi2)
        exact ⟨⟨p + d, by omega, hi2.out, hB2, hN1⟩, by rw [iterPos_of hi2.out, iterPos_of hh.out]; omega⟩
    · obtain rfl : p = s.size := by omega
      have hnx : ∀ ty, (Instr.next (.pointer (some ⟨w.heap.size, 0, none⟩)) true ty).run Tryd.prog wr = .ok (.tuple #[.bool false]) wr := fun ty => run_next_end_at wr w.heap.size s s.size ty hh (by omega)
      replace hh := Lib.hid hh
      clear hnw hbn hsn
      go_wp2
      go_ret
      exact ⟨by rw [Lib.indexAny_none (by rw [← Lib.size_eq]; exact hN.out)]; rfl, hB.out⟩

theorem indexany_any (s : ByteArray) (w : World) (hs : s.size ≤ 4294967280) : Calls Tryd.prog 105 #[.string s, .string ⟨#[32, 9]⟩] w fun e w' => e = .returned (.int .i64 (Lib.indexAny s.data.toList [32, 9])) ∧ Below w.heap.size w w' := by
  by_cases h8 : s.size ≤ 8
  · exact indexany_short s w h8
  · have h116 : (Tryd.prog.info? (Tryd.lays150_ren.t 116)).map (fun i => (i.zero, i.size)) = some (some (.agg (Array.replicate 256 (.bool false))), 256) := by kernel_rfl
    refine (Any.strings_IndexAny_long { Tryd.lays150 with } (zero_of_info h116).1 (zero_of_info h116).2 s ⟨#[32, 9]⟩ w (by decide) (by omega) (by omega) (by decide) (ascii_of_all (by decide))).mono fun e w' ⟨h1, h2⟩ => ⟨h1, ?_⟩
    rw [h2]
    exact ((Below.refl _ _).alloc (Nat.le_refl _) _).alloc (by simp) _

set_option maxHeartbeats 1000000 in
theorem containsany_any (n : Bytes) (w : World) (hn : n.length ≤ 4294967280) : Calls Tryd.prog 79 #[.string (str n), .string ⟨#[32, 9]⟩] w fun e w' => e = .returned (.bool (n.any Syn.blank)) ∧ Below w.heap.size w w' := by
  have hi := indexany_any (str n) w (by rw [str_size]; exact hn)
  rw [← contains_blank]
  unfold Lib.containsAny
  go_enter Tryd.func79, Tryd.ntmps79
  go_wp2_with (go_at_call 105; refine hi.mono ?_; rintro e w' ⟨rfl, hw⟩)
  go_ret
  exact ⟨rfl, hw⟩
end Go.Proofs.YtemlnmelicnneaaDoor
