/-
  Layer 3: hosts, the document's.
-/
import Derived.Test.YtemlnmelicnneaaDoorHHost
import Derived.Test.YtemlnmelicnneaaDoorGLow
namespace Go.Proofs.YtemlnmelicnneaaDoor
open Go.RowKit Syn Fr Hd

theorem spF_suffix (c : UInt8) : ∀ (s : Bytes) (k : Nat), k ≤ s.length → (spF c (s.take k)).2.length ≤ k ∧ (s.take k).drop (k - (spF c (s.take k)).2.length) = (spF c (s.take k)).2
  | s, 0, _ => ⟨Nat.le_refl _, rfl⟩
  | s, k + 1, h => by
    obtain ⟨h1, h2⟩ := spF_suffix c s k (by omega)
    rw [spF_take (by omega)]
    unfold spS
    split
    · refine ⟨by simp, ?_⟩
      show (s.take (k + 1)).drop (k + 1 - 0) = []
      exact List.drop_of_length_le (by rw [List.length_take]; omega)
    · refine ⟨by simp; omega, ?_⟩
      show (s.take (k + 1)).drop (k + 1 - ((spF c (s.take k)).2 ++ [s[k]]).length) = (spF c (s.take k)).2 ++ [s[k]]
      rw [List.length_append, List.length_singleton, show k + 1 - ((spF c (s.take k)).2.length + 1) = k - (spF c (s.take k)).2.length by omega, List.take_succ_eq_append_getElem (by omega), List.drop_append_of_le_length (by rw [List.length_take]; omega), h2]
set_option maxRecDepth 100000 in
set_option maxHeartbeats 4000000 in
theorem r3cut_any (s : ByteArray) (c : UInt8) (w : World) (hs : s.size ≤ 1000000) :
    Calls Tryd.prog 72 #[.string s, .int .u8 (c.toNat : Int)] w fun e w' => ∃ o, e = .returned o ∧ Own w' w.heap.size 9 1 o (sp c (bs s)).length (strs (sp c (bs s))) ∧ Below w.heap.size w w' := by
  have hn := bs_length s
  go_enter Tryd.func72, Tryd.ntmps72
  go_wp2
  go_loopw [5, 6, 10] (fun o f i wr => ∃ k a : Nat, i = .int .i64 (k : Int) ∧ k ≤ s.size ∧ f = .int .i64 (a : Int) ∧ a ≤ k ∧ Hid (a = k - (spF c ((bs s).take k)).2.length) ∧ Hid (Own wr w.heap.size 9 1 o (spF c ((bs s).take k)).1.length (strs (spF c ((bs s).take k)).1)) ∧ Hid (Below w.heap.size w wr)) (fun _ _ i _ => s.size - (intOf i).toNat)
  case atStart => exact ⟨0, 0, rfl, by omega, rfl, by omega, Lib.hid rfl, Lib.hid (own_nil _ _ _ _), Lib.hid (Below.refl _ _)⟩
  case round =>
    obtain ⟨k, a, rfl, hk, rfl, hak, ha, ho, hB⟩ := hrel
    have hBw := hB.out.size
    have hln := spF_len c ((bs s).take k)
    rw [List.length_take] at hln
    obtain ⟨hsl, hsu⟩ := spF_suffix c (bs s) k (by omega)
    rw [← ha.out] at hsu
    by_cases hlt : k < s.size
    · have hkb : k < (bs s).length := by omega
      have hnx := spF_take (c := c) hkb
      have hsb : (bs s)[k] = s[k] := by have := byte_at s k hlt; rw [List.getElem?_eq_getElem hkb] at this; exact Option.some.inj this
      rw [hsb] at hnx
      by_cases hc : s[k] = c
      · have hb : ((s[k].toNat : Int) == (c.toNat : Int)) = true := by rw [hc]; exact beq_self_eq_true _
        rw [show spS c (spF c ((bs s).take k)) s[k] = ((spF c ((bs s).take k)).1 ++ [(spF c ((bs s).take k)).2], []) from if_pos hc] at hnx
        have hex : s.extract a k = str (spF c ((bs s).take k)).2 := by rw [extract_str, hsu]
        have hfin := Lib.hid (show (spF c ((bs s).take (k + 1))).1 = (spF c ((bs s).take k)).1 ++ [(spF c ((bs s).take k)).2] by rw [hnx])
        have hcur := Lib.hid (show k + 1 = k + 1 - (spF c ((bs s).take (k + 1))).2.length by rw [hnx]; rfl)
        have h1l : (spF c ((bs s).take k)).1.length ≤ 1000000 := by omega
        clear hnx hsb hsu hsl hln
        replace hc := Lib.hid hc
        generalize (spF c ((bs s).take k)).1 = D at *
        generalize (spF c ((bs s).take k)).2 = cur at *
        go_wp2_with (at_builtin; refine push_str _ _ rfl rfl rfl ho.out rfl rfl (by omega) hBw ?_; intro v2 w2 ho2 hb2; replace ho2 := Lib.hid ho2; have hB2 := Lib.hid (hB.out.trans hb2); clear hb2)
        go_roundw
        case rel => exact ⟨k + 1, k + 1, by go_num, by omega, by go_num, by omega, hcur, Lib.hid (by rw [hfin.out, strs_snoc, List.length_append]; exact ho2.out), hB2⟩
        case measure => simp [intOf]; omega
      · have hb : ((s[k].toNat : Int) == (c.toNat : Int)) = false := beq_cast_false fun h => hc (UInt8.toNat_inj.1 h)
        rw [show spS c (spF c ((bs s).take k)) s[k] = ((spF c ((bs s).take k)).1, (spF c ((bs s).take k)).2 ++ [s[k]]) from if_neg hc] at hnx
        have hfin := Lib.hid (show (spF c ((bs s).take (k + 1))).1 = (spF c ((bs s).take k)).1 by rw [hnx])
        have hcur := Lib.hid (show a = k + 1 - (spF c ((bs s).take (k + 1))).2.length by rw [hnx, ha.out]; simp)
        clear hnx hsb hsu hsl hln
        replace hc := Lib.hid hc
        go_wp2
        go_roundw
        case rel => exact ⟨k + 1, a, by go_num, by omega, rfl, by omega, hcur, Lib.hid (by rw [hfin.out]; exact ho.out), hB⟩
        case measure => simp [intOf]; omega
    · obtain rfl : k = s.size := by omega
      have hex : s.extract a s.size = str (spF c (bs s)).2 := by rw [extract_str, hsu, take_all]
      have hfin := Lib.hid (spF_sp c (bs s))
      rw [take_all] at ho hln
      have h1l : (spF c (bs s)).1.length ≤ 1000000 := by omega
      clear hsu hsl hln
      generalize (spF c (bs s)).1 = D at *
      generalize (spF c (bs s)).2 = cur at *
      go_wp2_with (at_builtin; refine push_str _ _ rfl rfl rfl ho.out rfl rfl (by omega) hBw ?_; intro v2 w2 ho2 hb2; replace ho2 := Lib.hid ho2; have hB2 := Lib.hid (hB.out.trans hb2); clear hb2)
      go_ret
      exact ⟨_, rfl, by rw [← hfin.out, strs_snoc, List.length_append]; exact ho2.out, hB2.out⟩
set_option maxRecDepth 100000 in
set_option maxHeartbeats 8000000 in
theorem rhost_any (s : ByteArray) (w : World) (hs : s.size ≤ 1000000) :
    Calls Tryd.prog 57 #[.string s] w fun e w' => e = .returned (.tuple #[.string (str (hsV (bs s))), .bool (hostB (bs s))]) ∧ Below w.heap.size w w' := by
  have hn := bs_length s
  have hV : hostB (bs s) = false → Ending.returned (.tuple #[.string ByteArray.empty, .bool false]) = Ending.returned (.tuple #[.string (str (hsV (bs s))), .bool (hostB (bs s))]) := fun h => by
    unfold hsV; rw [h]; rfl
  have hCt := Lib.hid (fun w => r3cut_any s 46 w (by omega))
  have hcnt := sp_length 46 (bs s)
  have hlab := Lib.hid (fun (k : Nat) (h : k < (sp 46 (bs s)).length) (h2 : labB (sp 46 (bs s))[k] = false) => hV (hostB_lab h h2))
  have hdone := Lib.hid (fun (h1 : (bs s).length ≤ 100) h2 => hostB_done (s := bs s) h1 h2)
  have hmost := Lib.hid (sp_most 46 (bs s))
  have hlong := Lib.hid (fun (h : 100 < (bs s).length) => hV (hostB_long h))
  have hcl : (bs s).count 46 ≤ (bs s).length := List.count_le_length
  have hLw := Lib.hid (fun w => rlower_any s w hs)
  generalize sp 46 (bs s) = L at *
  obtain ⟨n, hne⟩ : ∃ n, (bs s).count 46 + 1 = n := ⟨_, rfl⟩
  rw [hne] at hcnt
  have hn100 : n ≤ 1000001 := by omega
  rw [hcnt] at hCt
  clear hV
  replace hne := Lib.hid hne
  replace hcnt := Lib.hid hcnt
  go_enter Tryd.func57, Tryd.ntmps57
  go_wp2_with fail
  refine (hCt.out _).mono ?_
  rintro e w1 ⟨o, rfl, ho, hb⟩
  have hrd := Lib.hid (Rd.own ho)
  obtain ⟨A, cap, rfl, -, -, -⟩ := id hrd.out
  have hB1 : Hid (Below w.heap.size w w1) := Lib.hid hb
  clear ho hb
  go_wp2
  go_loop [5, 6, 12] (fun _ _ i => ∃ k : Nat, i = .int .i64 (k : Int) ∧ k ≤ n ∧ Hid ((L.take k).all labB = true)) (fun _ _ i => n - (intOf i).toNat)
  case atStart => exact ⟨0, rfl, by omega, Lib.hid rfl⟩
  case round =>
    obtain ⟨k, rfl, hk, ha⟩ := hrel
    by_cases hlt : k < n
    · have hkL : k < L.length := by rw [hcnt.out]; exact hlt
      obtain ⟨A', cap', e', -, -, r'⟩ := id hrd.out
      cases e'
      obtain ⟨b1, o1, rfl, -, x1⟩ := r' (by omega)
      have d1 : w1.cell? ⟨b1, o1 + k, none⟩ = some (.string (str L[k])) := x1 k _ (strs_at hkL)
      clear x1 r'
      have hm := hmost.out L[k] (List.getElem_mem hkL)
      have hbad := Lib.hid (hlab.out k hkL)
      have hok := Lib.hid (fun h2 => labs_take hkL ha.out h2)
      have ebs : bs (str L[k]) = L[k] := bs_str _
      have hxz : (str L[k]).size ≤ 1000000 := by rw [str_size]; omega
      rw [← ebs] at hbad hok
      replace ebs := Lib.hid ebs
      generalize str L[k] = sx at *
      clear hm
      by_cases h1 : 1 ≤ sx.size
      · by_cases h63 : sx.size ≤ 63
        · obtain ⟨m, hm⟩ : ∃ m, sx.size = m + 1 := ⟨sx.size - 1, by omega⟩
          have h0 : 0 < sx.size := h1
          have hmlt : m < sx.size := by omega
          by_cases c0 : sx[0].toNat = 45
          · have q0 : ((sx[0].toNat : Int) == 45) = true := beq_cast_true c0
            have hf := Lib.hid (hbad.out (lab_head h1 c0))
            replace c0 := Lib.hid c0
            replace hm := Lib.hid hm
            go_wp2
            go_ret2
            exact ⟨hf.out, hB1.out⟩
          · have q0 : ((sx[0].toNat : Int) == 45) = false := beq_cast_false c0
            by_cases c1 : sx[m].toNat = 45
            · have q1 : ((sx[m].toNat : Int) == 45) = true := beq_cast_true c1
              have hf := Lib.hid (hbad.out (lab_last hm c1))
              replace c0 := Lib.hid c0
              replace c1 := Lib.hid c1
              go_wp2
              go_ret2
              exact ⟨hf.out, hB1.out⟩
            · have q1 : ((sx[m].toNat : Int) == 45) = false := beq_cast_false c1
              have hgood := Lib.hid (fun h5 => hok.out (lab_done hm h63 c0 c1 h5))
              replace c0 := Lib.hid c0
              replace c1 := Lib.hid c1
              go_wp2
              go_loop [7, 45] (fun _ i => ∃ j : Nat, i = .int .i64 (j : Int) ∧ j ≤ m + 1 ∧ Hid (((bs sx).take j).all hch = true)) (fun _ i => m + 1 - (intOf i).toNat)
              case atStart => exact ⟨0, rfl, by omega, Lib.hid rfl⟩
              case round =>
                obtain ⟨j, rfl, hj, hja⟩ := hrel
                by_cases hjl : j < m + 1
                · have hjs : j < sx.size := by omega
                  have hAl := Lib.hid (fun w => ralnum_any sx[j] w)
                  cases ha2 : aln sx[j] with
                  | true =>
                    rw [ha2] at hAl
                    have hst := Lib.hid (all_step (p := hch) hjs hja.out (by unfold hch; rw [ha2]; rfl))
                    replace ha2 := Lib.hid ha2
                    go_wp2_with fail
                    refine (hAl.out _).mono ?_
                    rintro e w2 ⟨rfl, rfl⟩
                    go_wp2
                    go_round
                    case rel => exact ⟨j + 1, by go_num, by omega, hst⟩
                    case measure => simp [intOf]; omega
                  | false =>
                    rw [ha2] at hAl
                    by_cases cd : sx[j].toNat = 45
                    · have hst := Lib.hid (all_step (p := hch) hjs hja.out (by unfold hch dash; rw [decide_eq_true cd, Bool.or_true]))
                      have q2 : ((sx[j].toNat : Int) != 45) = false := by rw [cd]; rfl
                      replace ha2 := Lib.hid ha2
                      replace cd := Lib.hid cd
                      go_wp2_with fail
                      refine (hAl.out _).mono ?_
                      rintro e w2 ⟨rfl, rfl⟩
                      go_wp2
                      go_round
                      case rel => exact ⟨j + 1, by go_num, by omega, hst⟩
                      case measure => simp [intOf]; omega
                    · have hf := Lib.hid (hbad.out (lab_char hjs (by unfold hch dash; rw [ha2, decide_eq_false cd]; rfl)))
                      have q2 : ((sx[j].toNat : Int) != 45) = true := by rw [bne, show ((sx[j].toNat : Int) == 45) = false from beq_cast_false cd]; rfl
                      replace ha2 := Lib.hid ha2
                      replace cd := Lib.hid cd
                      go_wp2_with fail
                      refine (hAl.out _).mono ?_
                      rintro e w2 ⟨rfl, rfl⟩
                      go_wp2
                      go_ret2
                      exact ⟨hf.out, hB1.out⟩
                · obtain rfl : j = m + 1 := by omega
                  have hst := Lib.hid (hgood.out (by rw [hm]; exact hja.out))
                  go_wp2
                  go_round
                  case rel => exact ⟨k + 1, by go_num, by omega, hst⟩
                  case measure => simp [intOf]; omega
        · have hf := Lib.hid (hbad.out (lab_many h63))
          go_wp2
          go_ret2
          exact ⟨hf.out, hB1.out⟩
      · have hf := Lib.hid (hbad.out (lab_few h1))
        go_wp2
        go_ret2
        exact ⟨hf.out, hB1.out⟩
    · obtain rfl : k = n := by omega
      by_cases h100 : 100 < s.size
      · have hf := Lib.hid (hlong.out (by omega))
        go_wp2
        go_ret2
        exact ⟨hf.out, hB1.out⟩
      · have hres := hdone.out (by omega) (by have := ha.out; rw [List.take_of_length_le (by rw [hcnt.out]; exact Nat.le_refl _)] at this; exact this)
        have hv1 := Lib.hid (show Ending.returned (.tuple #[.string (str (Syn.lower (bs s))), .bool true]) = Ending.returned (.tuple #[.string (str (hsV (bs s))), .bool (hostB (bs s))]) by unfold hsV; rw [if_pos hres, hres])
        clear hres
        go_wp2_with fail
        refine (hLw.out _).mono ?_
        rintro e w2 ⟨rfl, hb2⟩
        have hB2 := Lib.hid (Below.next hB1.out hB1.out.size hb2)
        clear hb2
        go_wp2
        go_ret2
        exact ⟨hv1.out, hB2.out⟩
end Go.Proofs.YtemlnmelicnneaaDoor
