/-
  Layer 5: the lines of a head.
-/
import Derived.Test.YtemlnmelicnneaaDoorHEnd
import Derived.Test.YtemlnmelicnneaaDoorShelfSplit
import Derived.Test.YtemlnmelicnneaaDoorGWr
namespace Go.Proofs.YtemlnmelicnneaaDoor
open Go.RowKit Syn Hd

namespace Hd
/-- The parts between CR LF. -/
def spl (l : List UInt8) : List (List UInt8) := Lib.splitK [13, 10] 0 (Lib.count l [13, 10]) l
def lnL (b : List UInt8) : List (List UInt8) := spl (b.take ((endF b).toNat - 4))
/-- The error of the lines at the beginning of bytes. -/
def lnE (b : List UInt8) : Int :=
  if endF b < 0 ∧ b.length < 8192 then 21 else if endF b < 0 ∨ 8192 < endF b then 5 else if endF b = 2 then 22 else if 64 < (lnL b).length - 1 then 5 else if strB (b.take (endF b).toNat) = false then 22 else 0
def LnR (w : World) (b : List UInt8) (e : Ending) (w' : World) : Prop :=
  ((lnE b ≠ 0 ∧ e = .returned (.tuple #[.slice none 0 0, .int .i64 0, .iface 59 (.int .i64 (lnE b))])) ∨ (lnE b = 0 ∧ ∃ o, e = .returned (.tuple #[o, .int .i64 (endF b), .nilIface]) ∧ Rd w' 1 o (lnL b).length (strs (lnL b)))) ∧ Below w.heap.size w w'
theorem LnR.bad {w w' : World} {b : List UInt8} {n : Int} (h : lnE b = n) (h0 : n ≠ 0) (hb : Below w.heap.size w w') : LnR w b (.returned (.tuple #[.slice none 0 0, .int .i64 0, .iface 59 (.int .i64 n)])) w' :=
  ⟨.inl ⟨by rw [h]; exact h0, by rw [h]⟩, hb⟩
theorem LnR.good {w w' : World} {b : List UInt8} {o : Value} {n : Int} (h : lnE b = 0) (hn : endF b = n) (ho : Rd w' 1 o (lnL b).length (strs (lnL b))) (hb : Below w.heap.size w w') : LnR w b (.returned (.tuple #[o, .int .i64 n, .nilIface])) w' :=
  ⟨.inr ⟨h, o, by rw [hn], ho⟩, hb⟩
theorem endF_cases (b : List UInt8) : endF b = -1 ∨ (endF b = 2 ∧ 2 ≤ b.length) ∨ ∃ k : Nat, endF b = ((k + 4 : Nat) : Int) ∧ k + 4 ≤ b.length := by
  unfold endF
  split
  · next h =>
    refine .inr (.inl ⟨rfl, ?_⟩)
    unfold Lib.hasPrefix at h
    have := (List.isPrefixOf_iff_prefix.1 h).length_le
    simpa using this
  · split
    · exact .inl rfl
    · next h =>
      have h0 : 0 ≤ Lib.index b [13, 10, 13, 10] := by omega
      have h1 := Lib.index_room b [13, 10, 13, 10] h0
      have h2 : (([13, 10, 13, 10] : List UInt8).length : Int) = 4 := rfl
      exact .inr (.inr ⟨(Lib.index b [13, 10, 13, 10]).toNat, by omega, by omega⟩)
theorem spl_pieces (s : ByteArray) : (Lib.splitB ⟨#[13, 10]⟩ 0 (Lib.countB s ⟨#[13, 10]⟩) s).map Value.string = strs (spl (bs s)) := by
  have h := Lib.splitB_data ⟨#[13, 10]⟩ 0 (Lib.countB s ⟨#[13, 10]⟩) s
  have h3 : (Lib.splitB ⟨#[13, 10]⟩ 0 (Lib.countB s ⟨#[13, 10]⟩) s).map bs = spl (bs s) := h
  unfold strs
  rw [← h3, List.map_map]
  congr 1
theorem spl_len (s : ByteArray) : (spl (bs s)).length = Lib.countB s ⟨#[13, 10]⟩ + 1 ∧ Lib.countB s ⟨#[13, 10]⟩ ≤ s.size := by
  have h1 := Lib.splitB_all ⟨#[13, 10]⟩ (by decide) 0 _ s rfl
  have h2 := congrArg List.length (spl_pieces s)
  rw [List.length_map, h1] at h2
  exact ⟨by rw [h2]; unfold strs; rw [List.length_map], Lib.countB_le ⟨#[13, 10]⟩ (by decide) s.size s (Nat.le_refl _)⟩
end Hd
theorem infoS9' : (Tryd.prog.info? 9).map (fun i => (i.zero, i.size, i.bytes)) = some (some (.string ByteArray.empty), 1, 16) := by kernel_rfl
set_option maxRecDepth 100000 in
theorem split2_any (s : ByteArray) (w : World) (hs : s.size ≤ 1000000) (hM : MaxL w) :
    Calls Tryd.prog 59 #[.string s, .string ⟨#[13, 10]⟩] w fun e w' => e = .returned (.slice (some ⟨w.heap.size, 0, none⟩) (spl (bs s)).length (spl (bs s)).length) ∧ Rd w' 1 (.slice (some ⟨w.heap.size, 0, none⟩) (spl (bs s)).length (spl (bs s)).length) (spl (bs s)).length (strs (spl (bs s))) ∧ Below w.heap.size w w' := by
  obtain ⟨m, hm⟩ := hM
  refine (Any.strings_Split Tryd.lays146 infoS9' s ⟨#[13, 10]⟩ m w (by omega) hm (by decide)).mono ?_
  rintro e w' ⟨rfl, rfl⟩
  rw [spl_pieces, ← (spl_len s).1]
  refine ⟨rfl, ⟨_, _, rfl, Nat.le_refl _, by unfold strs; rw [List.length_map, Nat.mul_one], fun _ => ⟨w.heap.size, 0, rfl, by rw [alloc_size']; omega, fun j u hu => ?_⟩⟩, (Below.refl _ _).alloc (Nat.le_refl _) _⟩
  rw [Nat.zero_add, (Blk.new w _ _).cell j, List.getElem?_toArray]
  exact hu
set_option maxRecDepth 100000 in
set_option maxHeartbeats 8000000 in
theorem lines_any (b : List UInt8) (A : Option Addr) (cap : Nat) (w : World) (hR : Rd w 1 (.slice A b.length cap) b.length (u8s b)) (hb : b.length ≤ 1000000) (hc0 : A = none → cap = 0) (hM : MaxL w) :
    Calls Tryd.prog 43 #[.slice A b.length cap] w (LnR w b) := by
  have hcap : b.length ≤ cap := by obtain ⟨A', c', e', h, -, -⟩ := id hR; cases e'; exact h
  have hEn := Lib.hid (end_any b A cap w hR hb hc0 hM)
  have hE : lnE b = if endF b < 0 ∧ b.length < 8192 then 21 else if endF b < 0 ∨ 8192 < endF b then 5 else if endF b = 2 then 22 else if 64 < (lnL b).length - 1 then 5 else if strB (b.take (endF b).toNat) = false then 22 else 0 := rfl
  replace hc0 := Lib.hid hc0
  rcases endF_cases b with h1 | ⟨h1, h1'⟩ | ⟨k, h1, h3⟩
  · rw [h1] at hEn hE
    replace hR := Lib.hid hR
    replace hM := Lib.hid hM
    replace h1 := Lib.hid h1
    by_cases h8 : b.length < 8192
    · rw [if_pos ⟨by decide, h8⟩] at hE
      replace hE := Lib.hid hE
      go_enter Tryd.func43, Tryd.ntmps43
      go_wp2_with fail
      refine hEn.out.mono ?_
      rintro e w1 ⟨rfl, hb1⟩
      replace hb1 := Lib.hid hb1
      go_wp2
      go_ret3
      exact LnR.bad hE.out (by decide) hb1.out
    · rw [if_neg (by omega), if_pos (.inl (by decide))] at hE
      replace hE := Lib.hid hE
      go_enter Tryd.func43, Tryd.ntmps43
      go_wp2_with fail
      refine hEn.out.mono ?_
      rintro e w1 ⟨rfl, hb1⟩
      replace hb1 := Lib.hid hb1
      go_wp2
      go_ret3
      exact LnR.bad hE.out (by decide) hb1.out
  · rw [h1] at hEn hE
    replace hR := Lib.hid hR
    replace hM := Lib.hid hM
    replace h1 := Lib.hid h1
    rw [if_neg (by omega), if_neg (by omega), if_pos rfl] at hE
    replace hE := Lib.hid hE
    go_enter Tryd.func43, Tryd.ntmps43
    go_wp2_with fail
    refine hEn.out.mono ?_
    rintro e w1 ⟨rfl, hb1⟩
    replace hb1 := Lib.hid hb1
    go_wp2
    go_ret3
    exact LnR.bad hE.out (by decide) hb1.out
  · have hlL : lnL b = spl (b.take k) := by unfold lnL; rw [h1]; rfl
    rw [h1] at hEn hE
    by_cases h8 : 8192 < k + 4
    · rw [if_neg (by omega), if_pos (.inr (by omega))] at hE
      replace hR := Lib.hid hR
      replace hM := Lib.hid hM
      replace h1 := Lib.hid h1
      replace hlL := Lib.hid hlL
      replace hE := Lib.hid hE
      go_enter Tryd.func43, Tryd.ntmps43
      go_wp2_with fail
      refine hEn.out.mono ?_
      rintro e w1 ⟨rfl, hb1⟩
      replace hb1 := Lib.hid hb1
      go_wp2
      go_ret3
      exact LnR.bad hE.out (by decide) hb1.out
    · rw [if_neg (by omega), if_neg (by omega), if_neg (by omega), hlL] at hE
      obtain ⟨blk, off, rfl⟩ : ∃ blk off, A = some ⟨blk, off, none⟩ := by
        obtain ⟨A', c', e', -, -, r⟩ := id hR
        cases e'
        obtain ⟨bb, oo, e, -⟩ := r (by omega)
        exact ⟨bb, oo, e⟩
      have htl : (b.take (k + 4)).length = k + 4 := by rw [List.length_take]; omega
      have hcv := fun (w' : World) (hR' : Rd w' 1 (.slice (some ⟨blk, off, none⟩) b.length cap) b.length (u8s b)) => run_rd_str (c := cap) (A := some ⟨blk, off, none⟩) (l := b.take (k + 4)) (by
        have := Rd.part hR' 0 (k + 4) cap (by omega) (by omega)
        rw [List.drop_zero, Nat.add_zero] at this
        rw [htl]; exact this.2)
      rw [htl] at hcv
      have hz : (str (b.take (k + 4))).size = k + 4 := by rw [str_size, htl]
      have hex : (str (b.take (k + 4))).extract 0 k = str (b.take k) := by rw [extract_str, bs_str, List.drop_zero, List.take_take, show min k (k + 4) = k by omega]
      have hSp := fun w' h => split2_any (str (b.take k)) w' (by rw [str_size, List.length_take]; omega) h
      have hSl := spl_len (str (b.take k))
      have hSt := fun w' => straight_any (str (b.take (k + 4))) w' (by omega)
      rw [bs_str] at hSl hSt
      simp only [bs_str] at hSp
      rw [show ((k + 4 : Nat) : Int).toNat = k + 4 from rfl] at hE
      obtain ⟨m, hm⟩ : ∃ m, (spl (b.take k)).length = m + 1 := ⟨_, hSl.1⟩
      have hmk : m ≤ 1000000 := by
        have h5 := hSl.2
        rw [str_size, List.length_take] at h5
        have h6 := hSl.1
        omega
      rw [hm, Nat.add_sub_cancel] at hE
      simp only [hm] at hSp
      have hgood := fun (w' : World) (o : Value) (h : lnE b = 0) (ho : Rd w' 1 o (m + 1) (strs (spl (b.take k)))) (hb : Below w.heap.size w w') => LnR.good h h1 (by rw [hlL, hm]; exact ho) hb
      have h1' : ((k + 4 : Nat) : Int) = (k : Int) + 4 := rfl
      rw [h1'] at hEn hgood
      clear hSl htl
      generalize str (b.take (k + 4)) = s1 at *
      generalize str (b.take k) = s2 at *
      generalize spl (b.take k) = L at *
      replace hcv := Lib.hid hcv
      replace hR := Lib.hid hR
      replace hM := Lib.hid hM
      replace h1 := Lib.hid h1
      replace hlL := Lib.hid hlL
      replace hm := Lib.hid hm
      replace hSp := Lib.hid hSp
      replace hSt := Lib.hid hSt
      replace hgood := Lib.hid hgood
      by_cases h64 : 64 < m
      · rw [if_pos h64] at hE
        replace hE := Lib.hid hE
        go_enter Tryd.func43, Tryd.ntmps43
        go_wp2_with fail
        refine hEn.out.mono ?_
        rintro e w1 ⟨rfl, hb1⟩
        have hcv1 := hcv.out w1 (hR.out.below hb1)
        have hM1 := Lib.hid (hM.out.below hb1)
        replace hb1 := Lib.hid hb1
        go_wp2_with fail
        refine (hSp.out _ hM1.out).mono ?_
        rintro e w2 ⟨rfl, hr2, hb2⟩
        have hB2 := Lib.hid (Below.next hb1.out hb1.out.size hb2)
        clear hb2 hr2 hcv1
        go_wp2
        go_ret3
        exact LnR.bad hE.out (by decide) hB2.out
      · rw [if_neg h64] at hE
        cases hst : strB (b.take (k + 4)) with
        | false =>
          rw [if_pos hst] at hE
          rw [hst] at hSt
          replace hE := Lib.hid hE
          replace hst := Lib.hid hst
          go_enter Tryd.func43, Tryd.ntmps43
          go_wp2_with fail
          refine hEn.out.mono ?_
          rintro e w1 ⟨rfl, hb1⟩
          have hcv1 := hcv.out w1 (hR.out.below hb1)
          have hM1 := Lib.hid (hM.out.below hb1)
          replace hb1 := Lib.hid hb1
          go_wp2_with fail
          refine (hSp.out _ hM1.out).mono ?_
          rintro e w2 ⟨rfl, hr2, hb2⟩
          have hB2 := Lib.hid (Below.next hb1.out hb1.out.size hb2)
          clear hb2 hr2 hcv1
          go_wp2_with fail
          refine (hSt.out _).mono ?_
          rintro e w3 ⟨rfl, rfl⟩
          go_wp2
          go_ret3
          exact LnR.bad hE.out (by decide) hB2.out
        | true =>
          rw [if_neg (by rw [hst]; decide)] at hE
          rw [hst] at hSt
          replace hE := Lib.hid hE
          replace hst := Lib.hid hst
          go_enter Tryd.func43, Tryd.ntmps43
          go_wp2_with fail
          refine hEn.out.mono ?_
          rintro e w1 ⟨rfl, hb1⟩
          have hcv1 := hcv.out w1 (hR.out.below hb1)
          have hM1 := Lib.hid (hM.out.below hb1)
          replace hb1 := Lib.hid hb1
          go_wp2_with fail
          refine (hSp.out _ hM1.out).mono ?_
          rintro e w2 ⟨rfl, hr2, hb2⟩
          have hB2 := Lib.hid (Below.next hb1.out hb1.out.size hb2)
          replace hr2 := Lib.hid hr2
          clear hb2 hcv1
          go_wp2_with fail
          refine (hSt.out _).mono ?_
          rintro e w3 ⟨rfl, rfl⟩
          go_wp2
          go_ret3
          exact hgood.out _ _ hE.out hr2.out hB2.out
end Go.Proofs.YtemlnmelicnneaaDoor
