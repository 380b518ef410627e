/-
  Layer 33: the document's ReadVia.
-/
import Derived.Test.YtkcipebpknapkaaDoorTRVia
namespace Go.Proofs.YtkcipebpknapkaaDoor
open Go.RowKit Ti

theorem any_step (n : Bytes) {j : Nat} (h : j < n.length) : (n.take (j + 1)).any Syn.blank = ((n.take j).any Syn.blank || Syn.blank n[j]) := by
  rw [List.take_succ_eq_append_getElem h, List.any_append, List.any_cons, List.any_nil, Bool.or_false]
theorem blank_no {c : UInt8} (h1 : c.toNat ≠ 32) (h2 : c.toNat ≠ 9) : Syn.blank c = false := by
  unfold Syn.blank
  rw [Bool.or_eq_false_iff, beq_eq_false_iff_ne, beq_eq_false_iff_ne]
  exact ⟨fun e => h1 (by rw [e]; rfl), fun e => h2 (by rw [e]; rfl)⟩
theorem blank_32 {c : UInt8} (h : c.toNat = 32) : Syn.blank c = true := by
  have : c = 32 := UInt8.toNat_inj.1 h
  rw [this]; rfl
theorem blank_9 {c : UInt8} (h : c.toNat = 9) : Syn.blank c = true := by
  have : c = 9 := UInt8.toNat_inj.1 h
  rw [this]; rfl

set_option maxRecDepth 100000 in
set_option maxHeartbeats 8000000 in
theorem rreadvia_any (s : ByteArray) (w : World) (hsz : s.size ≤ 1000000) :
    Calls Tryd.prog 10 #[.string s] w fun e w' => ∃ v, e = .returned (.tuple #[v, .int .i64 (errO (Syn.list (bs s)))]) ∧ PartsOut w' w.heap.size v ((Syn.list (bs s)).map readV) ∧ Below w.heap.size w w' := by
  have hli : ∀ w, Calls Tryd.prog 22 #[.string s] w fun e w' => ∃ v, e = .returned (.tuple #[v, .bool (Syn.list (bs s)).isSome]) ∧ PartsOut w' w.heap.size v (Syn.list (bs s)) ∧ Below w.heap.size w w' := fun w => rlist_any s w (by omega)
  have hlen : ∀ L, Syn.list (bs s) = some L → L.length ≤ 1000001 := fun L h => by have := vlist_len h; rw [bs_length] at this; omega
  have hmost : ∀ L, Syn.list (bs s) = some L → ∀ x ∈ L, x.length ≤ 1000000 := fun L h x hx => by have := list_most h x hx; rw [bs_length] at this; omega
  cases hL : Syn.list (bs s) with
  | none =>
    rw [hL] at hli
    replace hli := Lib.hid hli
    clear hlen hmost
    go_enter Tryd.func10, Tryd.ntmps10
    go_wp2_with fail
    refine (hli.out _).mono ?_
    rintro e w1 ⟨v, rfl, hv, hb⟩
    replace hb := Lib.hid hb
    clear hv
    rw [show (none : Option (List Bytes)).isSome = false from rfl]
    go_wp2
    go_ret2
    exact ⟨_, rfl, rfl, hb.out⟩
  | some L =>
    rw [hL] at hli
    have hlen := hlen L hL
    replace hmost := Lib.hid (hmost L hL)
    replace hli := Lib.hid hli
    replace hL := Lib.hid hL
    go_enter Tryd.func10, Tryd.ntmps10
    go_wp2_with fail
    refine (hli.out _).mono ?_
    rintro e w1 ⟨v, rfl, hv, hb1⟩
    rw [show (some L).isSome = true from rfl]
    have hv2 : Own w1 w.heap.size 9 1 v L.length (strs L) := hv
    clear hv
    obtain ⟨A, cap, rfl, -, -, -⟩ : Rd w1 1 v L.length (strs L) := Rd.own hv2
    replace hv2 := Lib.hid hv2
    replace hb1 := Lib.hid hb1
    have hw1 := hb1.out.size
    go_wp2
    go_loopw [6, 21] (fun o i wr => ∃ k : Nat, i = .int .i64 (k : Int) ∧ k ≤ L.length ∧ Hid (Own wr w1.heap.size 9 1 o (readV (L.take k)).length (strs (readV (L.take k)))) ∧ Hid (Below w1.heap.size w1 wr)) (fun _ i _ => L.length - (intOf i).toNat)
    case atStart => exact ⟨0, rfl, by omega, Lib.hid (own_nil _ _ _ _), Lib.hid (Below.refl _ _)⟩
    case round =>
      obtain ⟨k, rfl, hk, ho, hB⟩ := hrel
      have hBw := hB.out.size
      by_cases hlt : k < L.length
      · obtain ⟨A', c', e', -, -, r'⟩ := (Rd.own hv2.out).below hB.out
        cases e'
        obtain ⟨b1, o1, rfl, _, x1⟩ := r' (by omega)
        have d1 : wr.cell? ⟨b1, o1 + k, none⟩ = some (.string (str L[k])) := x1 k _ (strs_at hlt)
        have hst := readV_take hlt
        have hrl := readV_len (L.take k)
        rw [List.length_take] at hrl
        have hxm := hmost.out L[k] (List.getElem_mem hlt)
        clear x1 r'
        generalize L[k] = x at *
        have hsx := str_size x
        by_cases h6 : x.length < 6
        · rw [nameOf_short h6] at hst
          replace hst := Lib.hid (show _ = readV (L.take k) from hst.trans (List.append_nil _))
          have h6x : (str x).size < 6 := by omega
          clear h6 hsx
          generalize str x = sx at *
          go_wp2
          go_roundw
          case rel => exact ⟨k + 1, by go_num, by omega, Lib.hid (by rw [hst.out]; exact ho.out), hB⟩
          case measure => simp [intOf]; omega
        · have h6x : ¬ (str x).size < 6 := by omega
          have h5x : 5 ≤ (str x).size := by omega
          have e5 : (str x).extract 0 5 = str (x.take 5) := by rw [extract_str, bs_str, List.drop_zero]
          have ed : (str x).extract 5 (str x).size = str (x.drop 5) := by rw [extract_str, bs_str, hsx, List.take_length]
          by_cases hp : x.take 5 = pre
          · have hq : ((str (x.take 5)).toList == [113, 117, 97, 121, 32]) = true := by rw [str_toList, hp]; rfl
            rw [nameOf_yes hp (by omega)] at hst
            have hnl : (str (x.drop 5)).size + 5 = (str x).size := by rw [str_size, List.length_drop]; omega
            have hnb : bs (str (x.drop 5)) = x.drop 5 := bs_str _
            have hxs : (str x).size ≤ 1000000 := by omega
            rw [← e5] at hq
            rw [← ed] at hnl
            rw [← ed] at hnb
            clear e5 ed hsx hp h6
            obtain ⟨sn, hsn⟩ : ∃ sn, (str x).extract 5 (str x).size = sn := ⟨_, rfl⟩
            rw [hsn] at hnl hnb
            rw [← hnb] at hst
            clear hnb
            generalize str x = sx at *
            replace hst := Lib.hid hst
            go_wp2
            go_loop [10, 37] (fun p i => ∃ j : Nat, i = .int .i64 (j : Int) ∧ j ≤ sn.size ∧ p = .bool (!((bs sn).take j).any Syn.blank)) (fun _ i => sn.size - (intOf i).toNat)
            case atStart => exact ⟨0, rfl, by omega, rfl⟩
            case round =>
              obtain ⟨j, rfl, hj, rfl⟩ := hrel
              by_cases hjl : j < sn.size
              · obtain ⟨c, hc⟩ : ∃ c : UInt8, sn[j]'hjl = c := ⟨_, rfl⟩
                have hbl : (bs sn)[j]'(by rw [bs_length]; exact hjl) = c := hc
                have hs2 := any_step (bs sn) (j := j) (by rw [bs_length]; exact hjl)
                rw [hbl] at hs2
                clear hbl
                generalize ((bs sn).take j).any Syn.blank = p at *
                cases p
                · rw [Bool.false_or] at hs2
                  by_cases h1 : c.toNat = 32
                  · have i1 : ((c.toNat : Int) != 32) = false := by rw [h1]; rfl
                    rw [blank_32 h1] at hs2
                    replace h1 := Lib.hid h1
                    replace hs2 := Lib.hid hs2
                    go_wp2
                    go_round
                    case rel => exact ⟨j + 1, by go_num, by omega, by rw [hs2.out]; rfl⟩
                    case measure => simp [intOf]; omega
                  · have i1 : ((c.toNat : Int) != 32) = true := bne_iff_ne.2 (by omega)
                    by_cases h2 : c.toNat = 9
                    · have i2 : ((c.toNat : Int) != 9) = false := by rw [h2]; rfl
                      rw [blank_9 h2] at hs2
                      replace h1 := Lib.hid h1
                      replace h2 := Lib.hid h2
                      replace hs2 := Lib.hid hs2
                      go_wp2
                      go_round
                      case rel => exact ⟨j + 1, by go_num, by omega, by rw [hs2.out]; rfl⟩
                      case measure => simp [intOf]; omega
                    · have i2 : ((c.toNat : Int) != 9) = true := bne_iff_ne.2 (by omega)
                      rw [blank_no h1 h2] at hs2
                      replace h1 := Lib.hid h1
                      replace h2 := Lib.hid h2
                      replace hs2 := Lib.hid hs2
                      go_wp2
                      go_round
                      case rel => exact ⟨j + 1, by go_num, by omega, by rw [hs2.out]; rfl⟩
                      case measure => simp [intOf]; omega
                · rw [Bool.true_or] at hs2
                  replace hs2 := Lib.hid hs2
                  go_wp2
                  go_round
                  case rel => exact ⟨j + 1, by go_num, by omega, by rw [hs2.out]; rfl⟩
                  case measure => simp [intOf]; omega
              · obtain rfl : j = sn.size := by omega
                rw [show (bs sn).take sn.size = bs sn by rw [← bs_length, List.take_length]]
                generalize hab : (bs sn).any Syn.blank = p at *
                cases p
                · have hst2 := Lib.hid (hst.out.trans (by rw [if_pos rfl]))
                  clear hst
                  have hsb : Hid (str (bs sn) = sn) := Lib.hid (str_bs sn)
                  go_wp2_with (at_builtin; refine push_str _ _ rfl rfl rfl ho.out rfl rfl (by omega) hBw ?_; intro v4 w4 ho4 hb4; replace ho4 := Lib.hid ho4; have hB4 := Lib.hid (hB.out.trans hb4); clear hb4)
                  go_roundw
                  case rel => exact ⟨k + 1, by go_num, by omega, Lib.hid (by rw [hst2.out, List.length_append, strs_snoc, hsb.out]; exact ho4.out), hB4⟩
                  case measure => simp [intOf]; omega
                · have hst2 := Lib.hid (show _ = readV (L.take k) from hst.out.trans (by rw [if_neg (by decide)]; exact List.append_nil _))
                  clear hst
                  go_wp2
                  go_roundw
                  case rel => exact ⟨k + 1, by go_num, by omega, Lib.hid (by rw [hst2.out]; exact ho.out), hB⟩
                  case measure => simp [intOf]; omega
          · rw [nameOf_other hp] at hst
            replace hst := Lib.hid (show _ = readV (L.take k) from hst.trans (List.append_nil _))
            have hq : ((str (x.take 5)).toList == [113, 117, 97, 121, 32]) = false := beq_eq_false_iff_ne.2 fun e => hp (by rw [str_toList] at e; exact e)
            rw [← e5] at hq
            clear e5 ed hsx hp h6
            generalize str x = sx at *
            go_wp2
            go_roundw
            case rel => exact ⟨k + 1, by go_num, by omega, Lib.hid (by rw [hst.out]; exact ho.out), hB⟩
            case measure => simp [intOf]; omega
      · obtain rfl : k = L.length := by omega
        rw [List.take_length] at ho
        have hown := Lib.hid (own_mono ho.out hw1)
        have hBf := Lib.hid (Below.next hb1.out hw1 hB.out)
        go_wp2
        go_ret2
        exact ⟨_, rfl, hown.out, hBf.out⟩
end Go.Proofs.YtkcipebpknapkaaDoor
