/-
  lower of the packages field and framing.
-/
import Derived.Test.YtemlnmelicnneaaDoorLow
namespace Go.Proofs.YtemlnmelicnneaaDoor
open Go.RowKit Syn

set_option maxRecDepth 100000 in
set_option maxHeartbeats 1000000 in
theorem flower_any (s : ByteArray) (w : World) (hs : s.size ≤ 1000000) :
    Calls Tryd.prog 64 #[.string s] w fun e w' => e = .returned (.string (str (Syn.lower (bs s)))) ∧ Below w.heap.size w w' := by
  obtain ⟨G, hG⟩ : ∃ G, w.heap.size = G := ⟨_, rfl⟩
  obtain ⟨r, hr⟩ : ∃ r, str (Syn.lower (bs s)) = r := ⟨_, rfl⟩
  have hr := Lib.hid hr
  rw [hG, hr.out]
  have hc := run_bytes_of_string (P := Tryd.prog) w 9 27 5 s Tryd.underlying9 Tryd.underlying27 Tryd.underlying5
  rw [hG] at hc
  go_enter Tryd.func64, Tryd.ntmps64
  go_wp2_with fail
  clear hc
  have hcap : s.size ≤ grownCap w s.size 0 5 := grownCap_ge ..
  generalize grownCap w s.size 0 5 = cap at *
  have hz : (bytesRow s cap).size = cap := by
    have : s.data.size = s.size := rfl
    simp [bytesRow]; omega
  have hh := bytesRow_holds s cap
  obtain ⟨cs, hcs⟩ : ∃ cs, cs = bytesRow s cap := ⟨_, rfl⟩
  rw [← hcs] at hz hh ⊢
  rw [hz]
  obtain ⟨w1, hw1⟩ : ∃ w1, w1 = (w.alloc (Obj.cells cs 5 (cap, cap + 1))).drew := ⟨_, rfl⟩
  have hB1 : Below G w w1 := hw1 ▸ ((Below.refl _ _).alloc (Nat.le_of_eq hG.symm) _).drew
  have hb1 : BlkM w1 G 5 cs cap := by
    refine ⟨?_, by omega⟩
    rw [hw1, ← hG]; show (w.heap.push _)[w.heap.size]? = _; simp
  rw [← hw1]
  clear hw1 hG hcs
  go_loopw [4, 5, 10] (fun _ _ i wr => ∃ (k : Nat) (cr : Array Value), i = .int .i64 k ∧ k ≤ s.size ∧ cr.size = cap ∧ BlkM wr G 5 cr cap ∧ Below G w wr ∧ Hid (Holds cr (Syn.lower ((bs s).take k) ++ (bs s).drop k))) (fun _ _ i _ => s.size - (intOf i).toNat)
  case atStart => exact ⟨0, cs, rfl, by omega, hz, hb1, hB1, hh⟩
  case round =>
    rename_i _ _ v
    obtain ⟨k, cr, rfl, hk, hzr, hbr, hBr, hhr⟩ := hrel
    by_cases hlt : k < s.size
    · have hh' := hhr.out
      rw [drop_at s k hlt] at hh'
      have hln : (Syn.lower ((bs s).take k)).length = k := by rw [lower_length, List.length_take, bs_length]; omega
      have hc : wr.cell? ⟨G, k, none⟩ = some (.int .u8 (s[k].toNat : Int)) := by
        rw [hbr.cell]
        refine hh' k s[k] ?_
        rw [List.getElem?_append_right (by omega), hln]; simp
      have hf := hbr.frozen k (by omega)
      have hst := hh'.set_ (d := low s[k]) (by omega)
      rw [hln] at hst
      by_cases hu : 65 ≤ s[k].toNat ∧ s[k].toNat ≤ 90
      · have hu1 := hu.1
        have hu2 := hu.2
        have hb := hbr.set_ k (.int .u8 ((low s[k]).toNat : Int))
        rw [low_up hu1 hu2] at hst hb
        have hst := Lib.hid hst
        clear hh'
        go_wp2
        go_roundw
        case rel =>
          refine ⟨k + 1, _, by go_num, by omega, ?_, hb, hBr.setCell (Nat.le_refl _) _, ?_⟩
          · simp [hzr]
          · rw [low_take s k hlt, List.append_assoc]; exact hst.out
        case measure => simp [intOf]; omega
      · have hlo := low_no (show s[k].toNat < 65 ∨ 90 < s[k].toNat by omega)
        have hn : Hid (Holds cr (Syn.lower ((bs s).take (k + 1)) ++ (bs s).drop (k + 1))) := by
          rw [low_take s k hlt, List.append_assoc, hlo]; exact hh'
        clear hst hh'
        by_cases hu1 : 65 ≤ s[k].toNat
        · have hu2 : 90 < s[k].toNat := by omega
          go_wp2
          go_roundw
          case rel => exact ⟨k + 1, cr, by go_num, by omega, hzr, hbr, hBr, hn⟩
          case measure => simp [intOf]; omega
        · have hu2 : s[k].toNat < 65 := by omega
          go_wp2
          go_roundw
          case rel => exact ⟨k + 1, cr, by go_num, by omega, hzr, hbr, hBr, hn⟩
          case measure => simp [intOf]; omega
    · obtain rfl : k = s.size := by omega
      have hh' := hhr.out
      rw [take_all, drop_all, List.append_nil] at hh'
      have hcv := run_convert_bytes_back (P := Tryd.prog) wr 27 9 5 ⟨G, 0, none⟩ cap (Syn.lower (bs s)) Tryd.underlying27 Tryd.underlying5 Tryd.underlying9 (by
        intro j hj
        have e : (⟨G, 0, none⟩ : Addr).add j = ⟨G, 0 + j, none⟩ := by unfold Addr.add; split <;> simp_all
        rw [e, Nat.zero_add, hbr.cell]
        exact hh' j _ (List.getElem?_eq_getElem hj))
      rw [lower_length, bs_length] at hcv
      change _ = Result.ok (Value.string (str (Syn.lower (bs s)))) wr at hcv
      clear hh'
      rw [hr.out] at hcv
      go_wp2
      go_ret
      exact ⟨rfl, hBr⟩

end Go.Proofs.YtemlnmelicnneaaDoor
