/-
  Layer 5: WriteResponse.
-/
import Derived.Test.YtemlnmelicnneaaDoorGWr
import Derived.Test.YtemlnmelicnneaaDoorShelfIto
import Derived.Lib.ItoaMem
import Derived.Lib.AppendIntMem
namespace Go.Proofs.YtemlnmelicnneaaDoor
open Go.RowKit Syn Hd Ck

namespace Hd
def httpV : List UInt8 := [72, 84, 84, 80, 47, 49, 46, 49, 32]
/-- The error of a response that is written. -/
def wrE (s : Int) (l : List (List UInt8 × List UInt8)) : Int := if largeB (13 + (rsn s).length) l = true then 5 else if s < 100 ∨ 599 < s then 2 else if okCs l = true then 0 else 25
def startB (s : Int) : List UInt8 := httpV ++ dg3 s.toNat ++ [32] ++ rsn s
/-- Its text. -/
def wrB (s : Int) (l : List (List UInt8 × List UInt8)) : List UInt8 := if wrE s l = 0 then headB (startB s) (can l) else []
theorem itoa_three {n : Nat} (h : 100 ≤ n) (h2 : n < 1000) : Lib.itoa (n : Int) = dg3 n := by
  rw [Lib.itoa_nonneg, Lib.decDigits, dif_neg (by omega), Lib.decDigits_two (by omega) (by omega)]
  unfold dg3
  rw [show n / 10 / 10 = n / 100 by omega]
  rfl
def WrR (w : World) (s : Int) (l : List (List UInt8 × List UInt8)) (e : Ending) (w' : World) : Prop :=
  ∃ o, e = .returned (.tuple #[o, errV (wrE s l)]) ∧ OwnM w' w.heap.size o (wrB s l) ∧ Below w.heap.size w w'
theorem WrR.bad {w w' : World} {s : Int} {l : List (List UInt8 × List UInt8)} {n : Int} (h : wrE s l = n) (h0 : n ≠ 0) (hb : Below w.heap.size w w') : WrR w s l (.returned (.tuple #[.slice none 0 0, .iface 59 (.int .i64 n)])) w' :=
  ⟨.slice none 0 0, by rw [h, herr_ne h0], by unfold wrB; rw [h, if_neg h0]; exact .inl ⟨rfl, rfl⟩, hb⟩
theorem WrR.good {w w' : World} {s : Int} {l : List (List UInt8 × List UInt8)} {o : Value} (h : wrE s l = 0) (ho : OwnM w' w.heap.size o (headB (startB s) (can l))) (hb : Below w.heap.size w w') : WrR w s l (.returned (.tuple #[o, .nilIface])) w' :=
  ⟨o, by rw [h]; rfl, by unfold wrB; rw [if_pos h]; exact ho, hb⟩
theorem CanR.no {w w' : World} {l : List (List UInt8 × List UInt8)} {e : Ending} (h : CanR w l e w') (c : ¬ okCs l = true) : ∃ o, e = .returned (.tuple #[o, .iface 59 (.int .i64 25)]) ∧ Below w.heap.size w w' := by
  obtain ⟨o, rfl, -, hb⟩ := h
  exact ⟨o, by rw [if_neg c]; rfl, hb⟩
theorem CanR.yes {w w' : World} {l : List (List UInt8 × List UInt8)} {e : Ending} (h : CanR w l e w') (c : okCs l = true) : ∃ o, e = .returned (.tuple #[o, .nilIface]) ∧ Own w' w.heap.size 86 2 o (can l).length (prs (can l)) ∧ Below w.heap.size w w' := by
  obtain ⟨o, rfl, ho, hb⟩ := h
  rw [if_pos c] at ho
  exact ⟨o, by rw [if_pos c]; rfl, ho, hb⟩
theorem nmV_le (x : List UInt8) : (nmV x).length ≤ x.length := by
  unfold nmV
  split
  · rw [lower_length]; exact Nat.le_refl _
  · exact Nat.zero_le _
theorem can_size {l : List (List UInt8 × List UInt8)} {M : Nat} (h : ∀ p ∈ l, p.1.length ≤ M ∧ p.2.length ≤ M) : ∀ p ∈ can l, p.1.length ≤ M ∧ p.2.length ≤ M := by
  intro p hp
  obtain ⟨q, hq, rfl⟩ := List.mem_map.1 hp
  exact ⟨Nat.le_trans (nmV_le q.1) (h q hq).1, (h q hq).2⟩
end Hd
abbrev Tab10 (w : World) : Prop := Lib.TabIs Tryd.prog w "internal/strconv.uint64pow10" .u64 Lib.pow10Tab
theorem Tab10.below {w w' : World} (h : Tab10 w) (hb : Below w.heap.size w w') : Tab10 w' := by
  unfold Tab10 Lib.TabIs at h ⊢
  unfold World.var? at h ⊢
  cases hg : Tryd.prog.globalNamed "internal/strconv.uint64pow10" with
  | none => simp [hg] at h
  | some g =>
    simp only [hg, Option.bind_some] at h ⊢
    have hlt : g < w.heap.size := by
      rcases Nat.lt_or_ge g w.heap.size with h' | h'
      · exact h'
      · simp [Array.getElem?_eq_none h'] at h
    rw [hb.block g hlt]
    exact h
theorem itoa_any (n : Nat) (h : 100 ≤ n) (h2 : n < 1000) (w : World) (hT : Tab10 w) : Calls Tryd.prog 30 #[.int .i64 (n : Int)] w fun e w' => e = .returned (.string (str (dg3 n))) ∧ Below w.heap.size w w' := by
  refine (Any.strconv_Itoa Tryd.laysM171 (n : Int) (by omega) (by omega) w hT).mono ?_
  rintro e w' ⟨rfl, k, os, rfl⟩
  exact ⟨by rw [itoa_three h h2]; rfl, Lib.below_grow w.heap.size w (Nat.le_refl _) k os⟩
set_option maxRecDepth 100000 in
set_option maxHeartbeats 16000000 in
theorem wresp_any (s : Int) (hs1 : -9223372036854775808 ≤ s) (hs2 : s ≤ 9223372036854775807) (l : List (List UInt8 × List UInt8)) (v : Value) (w : World) (hR : Rd w 2 v l.length (prs l)) (hs : ∀ p ∈ l, p.1.length ≤ 1000000 ∧ p.2.length ≤ 1000000) (hm : l.length ≤ 1000) (hT : Tab10 w) :
    Calls Tryd.prog 11 #[.agg #[.int .i64 s, v]] w (WrR w s l) := by
  obtain ⟨A, cap, rfl, hcap, -, -⟩ := id hR
  have hK := Blk.new w 35 #[.int .i64 s, .slice A l.length cap]
  have hb0 := (Below.refl w.heap.size w).alloc (Nat.le_refl _) (.cells #[.int .i64 s, .slice A l.length cap] 35)
  have hRe := fun w' => reason_any s hs1 hs2 w'
  have hrl := rsn_len s
  have hLa := fun w' (hb : Below w.heap.size w w') => hlarge_any (13 + (rsn s).length) l (.slice A l.length cap) w' (by omega) (hR.below hb) hs hm
  have hCa := fun w' (hb : Below w.heap.size w w') => canonical_any l (.slice A l.length cap) w' (hR.below hb) hs hm
  have hE : wrE s l = if largeB (13 + (rsn s).length) l = true then 5 else if s < 100 ∨ 599 < s then 2 else if okCs l = true then 0 else 25 := rfl
  have zr : (str (rsn s)).size = (rsn s).length := str_size _
  obtain ⟨big, hbig⟩ : ∃ b, largeB (13 + (rsn s).length) l = b := ⟨_, rfl⟩
  rw [hbig] at hE
  simp only [hbig] at hLa
  obtain ⟨rl, hrle⟩ : ∃ r, (rsn s).length = r := ⟨_, rfl⟩
  rw [hrle] at zr hrl
  simp only [hrle] at hLa
  rw [show ((13 + rl : Nat) : Int) = 13 + (rl : Int) by omega] at hLa
  replace hbig := Lib.hid hbig
  replace hrle := Lib.hid hrle
  replace hR := Lib.hid hR
  replace hRe := Lib.hid hRe
  replace hLa := Lib.hid hLa
  replace hCa := Lib.hid hCa
  replace hK := Lib.hid hK
  replace hT := Lib.hid hT
  have hc0 := hK.out.cell 0
  have hc1 := hK.out.cell 1
  replace hb0 := Lib.hid hb0
  cases big with
  | true =>
    replace hE := Lib.hid (hE.trans (if_pos rfl))
    generalize str (rsn s) = sr at *
    go_enter Tryd.func11, Tryd.ntmps11
    go_wp2_with fail
    refine (hRe.out _).mono ?_
    rintro e w1 ⟨rfl, rfl⟩
    go_wp2_with fail
    refine (hLa.out _ hb0.out).mono ?_
    rintro e w2 ⟨rfl, hb2⟩
    have hB2 := Lib.hid (Below.next hb0.out hb0.out.size hb2)
    clear hb2
    go_wp2
    go_ret2
    exact WrR.bad hE.out (by decide) hB2.out
  | false =>
    rw [if_neg (by simp)] at hE
    by_cases c1 : s < 100
    · rw [if_pos (.inl c1)] at hE
      replace hE := Lib.hid hE
      generalize str (rsn s) = sr at *
      go_enter Tryd.func11, Tryd.ntmps11
      go_wp2_with fail
      refine (hRe.out _).mono ?_
      rintro e w1 ⟨rfl, rfl⟩
      go_wp2_with fail
      refine (hLa.out _ hb0.out).mono ?_
      rintro e w2 ⟨rfl, hb2⟩
      have hB2 := Lib.hid (Below.next hb0.out hb0.out.size hb2)
      have hc2 := (hK.out.below hb2).cell 0
      clear hb2
      go_wp2
      go_ret2
      exact WrR.bad hE.out (by decide) hB2.out
    · by_cases c2 : 599 < s
      · rw [if_pos (.inr c2)] at hE
        replace hE := Lib.hid hE
        generalize str (rsn s) = sr at *
        go_enter Tryd.func11, Tryd.ntmps11
        go_wp2_with fail
        refine (hRe.out _).mono ?_
        rintro e w1 ⟨rfl, rfl⟩
        go_wp2_with fail
        refine (hLa.out _ hb0.out).mono ?_
        rintro e w2 ⟨rfl, hb2⟩
        have hB2 := Lib.hid (Below.next hb0.out hb0.out.size hb2)
        have hc2 := (hK.out.below hb2).cell 0
        clear hb2
        go_wp2
        go_ret2
        exact WrR.bad hE.out (by decide) hB2.out
      · rw [if_neg (by omega)] at hE
        by_cases c3 : okCs l = true
        · rw [if_pos c3] at hE
          obtain ⟨n, rfl, n1, n2⟩ : ∃ n : Nat, s = (n : Int) ∧ 100 ≤ n ∧ n ≤ 599 := ⟨s.toNat, by omega, by omega, by omega⟩
          have hI := fun w' (hb : Below w.heap.size w w') => itoa_any n n1 (by omega) w' (hT.out.below hb)
          have hsl : (startB (n : Int)).length = 13 + rl := by
            unfold startB
            rw [List.length_append, List.length_append, List.length_append, hrle.out]
            rfl
          have hW := fun (o : Value) (w' : World) (ho : Rd w' 2 o (can l).length (prs (can l))) => written_any (startB (n : Int)) (can l) o w' (by omega) ho (can_size hs) (by unfold can; rw [List.length_map]; exact hm)
          have e0 : str (startB (n : Int)) = ((⟨#[72, 84, 84, 80, 47, 49, 46, 49, 32]⟩ ++ str (dg3 n)) ++ ⟨#[32]⟩) ++ str (rsn (n : Int)) := by
            unfold startB
            rw [← str_append, ← str_append, ← str_append]
            rfl
          have q1 : ((⟨#[72, 84, 84, 80, 47, 49, 46, 49, 32]⟩ : ByteArray) ++ str (dg3 n)).size = 12 := by rw [ByteArray.size_append]; rfl
          have q2 : (((⟨#[72, 84, 84, 80, 47, 49, 46, 49, 32]⟩ : ByteArray) ++ str (dg3 n)) ++ ⟨#[32]⟩).size = 13 := by rw [ByteArray.size_append, q1]; rfl
          have q3 : (str (dg3 n)).size = 3 := rfl
          rw [e0] at hW
          replace hE := Lib.hid hE
          replace c3 := Lib.hid c3
          replace hI := Lib.hid hI
          replace hW := Lib.hid hW
          replace hsl := Lib.hid hsl
          replace e0 := Lib.hid e0
          generalize str (rsn (n : Int)) = sr at *
          generalize str (dg3 n) = sd at *
          go_enter Tryd.func11, Tryd.ntmps11
          go_wp2_with fail
          refine (hRe.out _).mono ?_
          rintro e w1 ⟨rfl, rfl⟩
          go_wp2_with fail
          refine (hLa.out _ hb0.out).mono ?_
          rintro e w2 ⟨rfl, hb2⟩
          have hB2 := Lib.hid (Below.next hb0.out hb0.out.size hb2)
          have hK2 := hK.out.below hb2
          have hc2 := hK2.cell 0
          have hc3 := hK2.cell 1
          replace hK2 := Lib.hid hK2
          clear hb2
          go_wp2_with fail
          refine (hCa.out _ hB2.out).mono ?_
          rintro e w3 h3
          obtain ⟨o3, rfl, ho3, hb3⟩ := CanR.yes h3 c3.out
          have hB3 := Lib.hid (Below.next hB2.out hB2.out.size hb3)
          have hc5 := (hK2.out.below hb3).cell 0
          replace ho3 := Lib.hid ho3
          clear hb3 h3 hc2 hc3
          go_wp2_with fail
          refine (hI.out _ hB3.out).mono ?_
          rintro e w4 ⟨rfl, hb4⟩
          have hB4 := Lib.hid (Below.next hB3.out hB3.out.size hb4)
          have ho4 := Lib.hid (own_below ho3.out hb4)
          clear hb4 hc5
          go_wp2_with fail
          refine (hW.out _ _ (Rd.own ho4.out)).mono ?_
          rintro e w5 ⟨o5, rfl, ho5, hb5⟩
          have hB5 := Lib.hid (Below.next hB4.out hB4.out.size hb5)
          have ho6 := Lib.hid (ho5.base hB4.out.size)
          clear hb5 ho5
          go_wp2
          go_ret2
          exact WrR.good hE.out ho6.out hB5.out
        · rw [if_neg c3] at hE
          replace hE := Lib.hid hE
          replace c3 := Lib.hid c3
          generalize str (rsn s) = sr at *
          go_enter Tryd.func11, Tryd.ntmps11
          go_wp2_with fail
          refine (hRe.out _).mono ?_
          rintro e w1 ⟨rfl, rfl⟩
          go_wp2_with fail
          refine (hLa.out _ hb0.out).mono ?_
          rintro e w2 ⟨rfl, hb2⟩
          have hB2 := Lib.hid (Below.next hb0.out hb0.out.size hb2)
          have hK2 := hK.out.below hb2
          have hc2 := hK2.cell 0
          have hc3 := hK2.cell 1
          clear hb2
          go_wp2_with fail
          refine (hCa.out _ hB2.out).mono ?_
          rintro e w3 h3
          obtain ⟨o3, rfl, hb3⟩ := CanR.no h3 c3.out
          have hB3 := Lib.hid (Below.next hB2.out hB2.out.size hb3)
          clear hb3 h3
          go_wp2
          go_ret2
          exact WrR.bad hE.out (by decide) hB3.out
end Go.Proofs.YtemlnmelicnneaaDoor
