/-
  Layer 5: a head's text.
-/
import Derived.Test.YtemlnmelicnneaaDoorHCan
import Derived.Test.YtemlnmelicnneaaDoorMarkS
namespace Go.Proofs.YtemlnmelicnneaaDoor
open Go.RowKit Syn Hd Ck

set_option maxRecDepth 100000 in
set_option maxHeartbeats 8000000 in
theorem written_any (st : List UInt8) (l : List (List UInt8 × List UInt8)) (v : Value) (w : World) (hst : st.length ≤ 100000) (hR : Rd w 2 v l.length (prs l)) (hs : ∀ p ∈ l, p.1.length ≤ 1000000 ∧ p.2.length ≤ 1000000) (hm : l.length ≤ 1000) :
    Calls Tryd.prog 29 #[.string (str st), v] w fun e w' => ∃ o, e = .returned o ∧ OwnM w' w.heap.size o (headB st l) ∧ Below w.heap.size w w' := by
  obtain ⟨A, cap, rfl, hcap, -, -⟩ := id hR
  have hlen := lns_len l 1000000 hs
  have hll := Lib.hid (fun k => lns_le l k)
  have kc1 := Lib.run_convert_string_bytes (P := Tryd.prog) w 9 27 5 (str st ++ ⟨#[13, 10]⟩) Tryd.underlying9 Tryd.underlying27 Tryd.underlying5
  have e1 : str st ++ (⟨#[13, 10]⟩ : ByteArray) = str (st ++ [13, 10]) := by rw [← str_append]; rfl
  have hcv := OwnM.conv w (st ++ [13, 10])
  have hcb := conv_below w (st ++ [13, 10])
  have e2 : (str (st ++ [13, 10])).size = st.length + 2 := by rw [str_size]; simp
  have e3 : (st ++ [13, 10]).length = st.length + 2 := by simp
  have e4 : headB st l = (st ++ [13, 10]) ++ lns l ++ [13, 10] := rfl
  have z0 : (str st).size = st.length := str_size st
  rw [e1, e2] at kc1
  rw [e3] at hcv
  rw [← e1] at kc1
  obtain ⟨L0, hL0⟩ : ∃ L, st ++ [13, 10] = L := ⟨_, rfl⟩
  rw [hL0] at hcv hcb e4 e3
  rw [e1, hL0] at kc1
  rw [hL0] at e1
  obtain ⟨w1, hw1⟩ : ∃ w1, Lib.bytesWorld w 5 (str L0) = w1 := ⟨_, rfl⟩
  rw [hw1] at kc1 hcv hcb
  rw [← e1] at kc1
  obtain ⟨c0, hc0⟩ : ∃ c, grownCap w (st.length + 2) 0 5 = c := ⟨_, rfl⟩
  rw [hc0] at kc1 hcv
  have hRR := Lib.hid (fun w' (hb : Below w.heap.size w w') => hR.below hb)
  clear hR
  replace hs := Lib.hid hs
  replace hcv := Lib.hid hcv
  replace hcb := Lib.hid hcb
  replace e1 := Lib.hid e1
  replace e2 := Lib.hid e2
  have hl0 : L0.length ≤ 100002 := by omega
  replace e3 := Lib.hid e3
  replace e4 := Lib.hid e4
  replace hL0 := Lib.hid hL0
  replace hw1 := Lib.hid hw1
  replace hc0 := Lib.hid hc0
  generalize str st = sst at *
  go_enter Tryd.func29, Tryd.ntmps29
  go_wp2
  go_loopw [5, 13] (fun o i wr => ∃ k : Nat, i = .int .i64 (k : Int) ∧ k ≤ l.length ∧ Hid (OwnM wr w.heap.size o (L0 ++ lns (l.take k))) ∧ Hid (Below w.heap.size w wr)) (fun _ i _ => l.length - (intOf i).toNat)
  case atStart => exact ⟨0, rfl, by omega, Lib.hid (by rw [show lns (l.take 0) = [] from rfl, List.append_nil]; exact hcv.out), hcb⟩
  case round =>
    obtain ⟨k, rfl, hk, ho, hB⟩ := hrel
    have hBs := hB.out.size
    have hlk := hll.out k
    have hLk : (L0 ++ lns (l.take k)).length ≤ 3000000000 := by rw [List.length_append]; omega
    by_cases hlt : k < l.length
    · obtain ⟨A', cap', e', -, -, r'⟩ := hRR.out wr hB.out
      cases e'
      obtain ⟨b1, o1, rfl, hb1, x1⟩ := r' (by omega)
      have d1 : wr.cell? ⟨b1, o1 + k * 2, none⟩ = some (.string (str l[k].1)) := x1 _ _ (prs_at0 hlt)
      have d2 : wr.cell? ⟨b1, o1 + k * 2 + 1, none⟩ = some (.string (str l[k].2)) := x1 _ _ (prs_at1 hlt)
      have hsz := hs.out l[k] (List.getElem_mem hlt)
      have hlt2 := lns_take hlt
      have hln := ln_len l[k]
      generalize l[k] = p at *
      obtain ⟨nm, vl⟩ := p
      simp only at d1 d2 hsz hln
      obtain ⟨Lk, hLk2⟩ : ∃ L, L0 ++ lns (l.take k) = L := ⟨_, rfl⟩
      rw [hLk2] at ho hLk
      have hnx : L0 ++ lns (l.take (k + 1)) = Lk ++ ln (nm, vl) := by rw [hlt2, ← hLk2, List.append_assoc]
      have z1 : (str nm).size ≤ 1000000 := by rw [str_size]; exact hsz.1
      have z2 : (str vl).size ≤ 1000000 := by rw [str_size]; exact hsz.2
      have es : Hid (str nm ++ (⟨#[58, 32]⟩ : ByteArray) ++ str vl ++ (⟨#[13, 10]⟩ : ByteArray) = str (ln (nm, vl))) := Lib.hid (by
        rw [show (⟨#[58, 32]⟩ : ByteArray) = str [58, 32] from rfl, show (⟨#[13, 10]⟩ : ByteArray) = str [13, 10] from rfl, str_append, str_append, str_append]
        rfl)
      have hoA := ho.out.below ((Below.refl _ _).alloc (Nat.le_refl _) (.cells #[.string (str nm), .string (str vl)] 86))
      have hA1 := hB.out.alloc hBs (.cells #[.string (str nm), .string (str vl)] 86)
      have hA1s := hA1.size
      obtain ⟨Ao, co, rfl, -⟩ := id ho.out.rd
      replace hoA := Lib.hid hoA
      replace hA1 := Lib.hid hA1
      replace hlt2 := Lib.hid hlt2
      replace hln := hln
      replace hnx := Lib.hid hnx
      replace hLk2 := Lib.hid hLk2
      have hlnb : (ln (nm, vl)).length ≤ 2000004 := by omega
      replace hln := Lib.hid hln
      clear x1 r'
      generalize str nm = s1 at *
      generalize str vl = s2 at *
      go_wp2_with (at_builtin; go_loud (refine step_pushSM _ _ rfl rfl (ln (nm, vl)) hoA.out rfl rfl es.out (by omega) hA1s ?_); intro v7 w7 ho7 hb7; have hB7 := Lib.hid (hA1.out.trans hb7); replace ho7 := Lib.hid ho7; clear hb7)
      go_roundw
      case rel => exact ⟨k + 1, by go_num, by omega, Lib.hid (by rw [hnx.out]; exact ho7.out), hB7⟩
      case measure => simp only [intOf]; omega
    · obtain rfl : k = l.length := by omega
      rw [List.take_length] at ho hLk
      obtain ⟨Lk, hLk2⟩ : ∃ L, L0 ++ lns l = L := ⟨_, rfl⟩
      rw [hLk2] at ho hLk
      obtain ⟨Ao, co, rfl, -⟩ := id ho.out.rd
      have hfin : headB st l = Lk ++ [13, 10] := by rw [e4.out, ← hLk2]
      replace hfin := Lib.hid hfin
      replace hLk2 := Lib.hid hLk2
      go_wp2_with (at_builtin; go_loud (refine step_pushSM _ _ rfl rfl [13, 10] ho.out rfl rfl rfl (by show _ + 2 ≤ _; omega) hBs ?_); intro v7 w7 ho7 hb7; have hB7 := Lib.hid (hB.out.trans hb7); replace ho7 := Lib.hid ho7; clear hb7)
      go_ret
      exact ⟨_, rfl, by rw [hfin.out]; exact ho7.out, hB7.out⟩
end Go.Proofs.YtemlnmelicnneaaDoor
