/-
  The walk of SyntaxElements.
-/
import Derived.Test.YtjcgognngeagiaaDoorElem
import Derived.Test.YtjcgognngeagiaaDoorAwake
import Derived.Deep.DeepCutAuto
import Derived.BigRegion
namespace Go.Proofs.YtjcgognngeagiaaDoor
open Go.RowKit Syn

def bytes (zs : List Int) : List Value := zs.map fun z => .int .u8 z
theorem bytes_at {zs : List Int} {k : Nat} (h : k < zs.length) : (bytes zs)[k]? = some (.int .u8 zs[k]) := by simp [bytes, h]
theorem quote_length (l : List UInt8) : (quote l).length ≤ 2 * l.length + 2 := by
  have := escs_length l
  unfold quote; rw [List.length_append, List.length_cons]; simp; omega
theorem elem_length (l : List UInt8) : (elem l).length ≤ 2 * l.length + 2 := by
  unfold elem; split
  · omega
  · exact quote_length l
theorem pre_length : ∀ n, (pre n).length ≤ 3
  | 0 => by decide
  | 1 => by decide
  | 2 => by decide
  | n + 3 => Nat.le_refl 3
theorem sep_length : ∀ n, (sep n).length ≤ 4
  | 0 => by decide
  | 1 => by decide
  | 2 => by decide
  | n + 3 => by show 2 ≤ 4; decide
theorem rem_cases (z : Int) (h : 0 ≤ z) : z.tmod 4 = 0 ∨ z.tmod 4 = 1 ∨ z.tmod 4 = 2 ∨ z.tmod 4 = 3 := by
  rw [Int.tmod_eq_emod_of_nonneg h]; omega
theorem quo_cases (z : Int) (h : 0 ≤ z) : (z.tdiv 4).tmod 4 = 0 ∨ (z.tdiv 4).tmod 4 = 1 ∨ (z.tdiv 4).tmod 4 = 2 ∨ (z.tdiv 4).tmod 4 = 3 := by
  rw [Int.tmod_eq_emod_of_nonneg (Int.tdiv_nonneg h (by decide)), Int.tdiv_eq_ediv_of_nonneg h]; omega

theorem join_eq (l e a b : List UInt8) : str l ++ (str a ++ str e ++ str b) = str (l ++ (a ++ e ++ b)) := by simp only [str_append]
theorem alloc_size (w : World) (o : Obj) : (w.alloc o).heap.size = w.heap.size + 1 := Array.size_push ..
theorem two_new (w : World) (o1 o2 : Obj) : Below w.heap.size w ((w.alloc o1).alloc o2).drew := by
  have h := ((Below.refl w.heap.size w).alloc (Nat.le_refl _) o1).alloc (by rw [alloc_size]; omega) o2
  exact ⟨h.os, h.tape, h.output, h.size, h.block⟩
theorem pre_at (z : Int) (h : 0 ≤ z) : ∃ n, (#[.string ⟨#[]⟩, .string ⟨#[32]⟩, .string ⟨#[9]⟩, .string ⟨#[32, 9, 32]⟩] : Array Value)[(z % 4).toNat]? = some (.string (str (pre n))) := by
  have := rem_cases z h
  rw [Int.tmod_eq_emod_of_nonneg h] at this
  rcases this with e | e | e | e <;> rw [e]
  · exact ⟨0, rfl⟩
  · exact ⟨1, rfl⟩
  · exact ⟨2, rfl⟩
  · exact ⟨3, rfl⟩
theorem sep_at (z : Int) (h : 0 ≤ z) : ∃ n, (#[.string ⟨#[44]⟩, .string ⟨#[32, 44]⟩, .string ⟨#[44, 44, 32, 44]⟩, .string ⟨#[9, 44]⟩] : Array Value)[(z / 4 % 4).toNat]? = some (.string (str (sep n))) := by
  have := quo_cases z h
  rw [Int.tmod_eq_emod_of_nonneg (Int.tdiv_nonneg h (by decide)), Int.tdiv_eq_ediv_of_nonneg h] at this
  rcases this with e | e | e | e <;> rw [e]
  · exact ⟨0, rfl⟩
  · exact ⟨1, rfl⟩
  · exact ⟨2, rfl⟩
  · exact ⟨3, rfl⟩
set_option maxRecDepth 100000 in
set_option maxHeartbeats 40000000 in
theorem elements_walk (ts : List (List UInt8)) (zs : List Int) (v0 v1 : Value) (w : World) (h0 : Rd w 1 v0 ts.length (strs ts)) (h1 : Rd w 1 v1 zs.length (bytes zs))
    (hz : ∀ z ∈ zs, 0 ≤ z ∧ z ≤ 255) (ht : ∀ t ∈ ts, t.length ≤ 1048576) (hn : ts.length ≤ 1048576) (hm : zs.length ≤ 1048576) :
    Calls Tryd.prog 6 #[v0, v1] w fun e w' => e = .returned (.bool true) ∧ Below w.heap.size w w' := by
  obtain ⟨A0, c0, rfl, hc0, -, -⟩ := id h0
  obtain ⟨A1, c1, rfl, hc1, -, -⟩ := id h1
  by_cases h12 : 12 < ts.length
  · go_enter Tryd.func6, Tryd.ntmps6
    go_wp2_with fail
    refine (awake_any _).mono ?_
    rintro e w1 ⟨rfl, hb1⟩
    replace hb1 := Lib.hid hb1
    go_wp2_with fail
    refine (awake_any _).mono ?_
    rintro e w2 ⟨rfl, hb2⟩
    go_wp2
    go_ret
    exact ⟨rfl, hb1.out.trans (hb2.mono hb1.out.size)⟩
  · go_enter Tryd.func6, Tryd.ntmps6
    go_wp2_with fail
    refine (awake_any _).mono ?_
    rintro e w1 ⟨rfl, hb1⟩
    replace h0 := Lib.hid (h0.below hb1)
    replace h1 := Lib.hid (h1.below hb1)
    replace hb1 := Lib.hid hb1
    replace ht := Lib.hid ht
    replace hz := Lib.hid hz
    go_wp2
    go_loopw [5, 6, 24] (fun s v i wr => ∃ (k : Nat) (l : List UInt8) (want : List (List UInt8)), s = .string (str l) ∧ i = .int .i64 (k : Int) ∧ k ≤ ts.length ∧ l.length ≤ 1000 * k ∧ want.length ≤ k ∧ Hid (Joined l want) ∧ Hid (Own wr w1.heap.size 9 1 v want.length (strs want)) ∧ Hid (Below w1.heap.size w1 wr)) (fun _ _ i _ => ts.length - (intOf i).toNat)
    case atStart => exact ⟨0, [], [], rfl, rfl, by omega, by simp, by simp, Joined.nil, own_nil _ _ _ _, Below.refl _ _⟩
    case round =>
      obtain ⟨k, l, want, rfl, rfl, hk, hl, hw, hJ, ho, hB⟩ := hrel
      have hBw := hB.out.size
      by_cases hlt : k < ts.length
      · obtain ⟨A', cap', e', -, -, r'⟩ := h0.out.below hB.out
        cases e'
        obtain ⟨b1, o1, rfl, _, x1⟩ := r' (by omega)
        have d1 : wr.cell? ⟨b1, o1 + k, none⟩ = some (.string (str ts[k])) := x1 k _ (strs_at hlt)
        have htk := ht.out ts[k] (List.getElem_mem hlt)
        clear r' x1
        generalize ts[k] = t at *
        cases hc : cln t
        · have hq : ∀ w, Calls Tryd.prog 20 #[.string (str t)] w fun e w' => e = .returned (.tuple #[.string ⟨#[]⟩, .iface 32 (.int .i64 2)]) ∧ w' = w := fun w => quote_no (str t) w (by rw [str_size]; unfold maxLen; omega) hc
          replace hq := Lib.hid hq
          go_wp2_with fail
          refine (hq.out _).mono ?_
          rintro e w2 ⟨rfl, rfl⟩
          go_wp2
          go_roundw
          case rel => exact ⟨k + 1, l, want, rfl, by go_num, by omega, by omega, by omega, hJ, ho, hB⟩
          case measure => simp [intOf]; omega
        · have hq : ∀ w, Calls Tryd.prog 20 #[.string (str t)] w fun e w' => e = .returned (.tuple #[.string (str (quote t)), .nilIface]) ∧ Below w.heap.size w w' := fun w => quote_ok (str t) w (by rw [str_size]; omega) hc
          replace hq := Lib.hid hq
          have hts := str_size t
          by_cases h4 : 400 < t.length
          · have hd : decide ((400 : Int) < ((str t).size : Int)) = true := by rw [decide_eq_true_iff]; omega
            replace hts := Lib.hid hts
            go_wp2_with fail
            refine (hq.out _).mono ?_
            rintro e w2 ⟨rfl, hb2⟩
            have hB2 := Lib.hid (Below.next hB.out hBw hb2)
            have ho2 := Lib.hid (own_below ho.out hb2)
            clear hb2
            go_wp2
            go_roundw
            case rel => exact ⟨k + 1, l, want, rfl, by go_num, by omega, by omega, by omega, hJ, ho2, hB2⟩
            case measure => simp [intOf]; omega
          · have hd : decide ((400 : Int) < ((str t).size : Int)) = false := by rw [decide_eq_false_iff_not]; omega
            replace hts := Lib.hid hts
            go_wp2_with fail
            refine (hq.out _).mono ?_
            rintro e w2 ⟨rfl, hb2⟩
            have hB2 := Lib.hid (Below.next hB.out hBw hb2)
            have ho2 := Lib.hid (own_below ho.out hb2)
            have hBw2 := hB2.out.size
            clear hb2
            have htok : ∀ w, Calls Tryd.prog 12 #[.string (str t)] w fun e w' => e = .returned (.bool (isTok t)) ∧ w' = w := fun w => token_any (str t) w (by rw [str_size]; unfold maxLen; omega)
            replace htok := Lib.hid htok
            go_upto_if 42 with (first | (go_at_call 12; refine (htok.out _).mono ?_; rintro e w3 ⟨rfl, rfl⟩))
            go_cut [9] (fun q wx => q = .string (str (elem t)) ∧ wx = w3)
            case first =>
              cases hk9 : isTok t
              · have hel := Lib.hid (show elem t = quote t by unfold elem; rw [hk9]; rfl)
                go_wp2_with fail
                go_meet
                exact ⟨by rw [hel.out], rfl⟩
              · have hel := Lib.hid (show elem t = t by unfold elem; rw [hk9]; rfl)
                go_wp2_with fail
                go_meet
                exact ⟨by rw [hel.out], rfl⟩
            case rest =>
              obtain ⟨rfl, rfl⟩ := hcut
              go_upto_if 47 with (fail)
              go_cut [11] (fun kv wx => (∃ z : Int, 0 ≤ z ∧ z ≤ 255 ∧ kv = .int .u8 z) ∧ wx = wc)
              case first =>
                by_cases hm2 : k < zs.length
                · obtain ⟨A', cap', e', -, -, r'⟩ := h1.out.below hB2.out
                  cases e'
                  obtain ⟨b2, o2, rfl, _, x2⟩ := r' (by omega)
                  have d2 : wc.cell? ⟨b2, o2 + k, none⟩ = some (.int .u8 zs[k]) := x2 k _ (bytes_at hm2)
                  have hzk := Lib.hid (hz.out zs[k] (List.getElem_mem hm2))
                  clear r' x2
                  generalize zs[k] = z at *
                  go_wp2_with fail
                  go_meet
                  exact ⟨⟨z, hzk.out.1, hzk.out.2, rfl⟩, rfl⟩
                · go_wp2_with fail
                  go_meet
                  exact ⟨⟨0, by omega, by omega, rfl⟩, rfl⟩
              case rest =>
                obtain ⟨⟨z, hz0, hz1, rfl⟩, rfl⟩ := hcut
                go_upto_region 15 with (fail)
                go_cut [5] (fun sv wx => (∃ n m, sv = .string (str (l ++ (pre n ++ elem t ++ sep m)))) ∧ Below wc.heap.size wc wx)
                case first =>
                  have hel := elem_length t
                  have hes : (str (elem t)).size ≤ 802 := by rw [str_size]; omega
                  have hls : (str l).size ≤ 12000 := by rw [str_size]; omega
                  obtain ⟨n, hP⟩ := pre_at z hz0
                  obtain ⟨m, hS⟩ := sep_at z hz0
                  have hpn := pre_length n
                  have hsm := sep_length m
                  rw [← str_size] at hpn hsm
                  have f1 : (wc.alloc (.cells #[.string ⟨#[]⟩, .string ⟨#[32]⟩, .string ⟨#[9]⟩, .string ⟨#[32, 9, 32]⟩] 9)).drew.cell? ⟨wc.heap.size, (z % 4).toNat, none⟩ = some (.string (str (pre n))) := ((Blk.new wc _ _).cell _).trans hP
                  have f2 : ((wc.alloc (.cells #[.string ⟨#[]⟩, .string ⟨#[32]⟩, .string ⟨#[9]⟩, .string ⟨#[32, 9, 32]⟩] 9)).alloc (.cells #[.string ⟨#[44]⟩, .string ⟨#[32, 44]⟩, .string ⟨#[44, 44, 32, 44]⟩, .string ⟨#[9, 44]⟩] 9)).drew.cell? ⟨wc.heap.size, (z % 4).toNat, none⟩ = some (.string (str (pre n))) := (((Blk.new wc _ _).alloc _).cell _).trans hP
                  have f3 : ((wc.alloc (.cells #[.string ⟨#[44]⟩, .string ⟨#[32, 44]⟩, .string ⟨#[44, 44, 32, 44]⟩, .string ⟨#[9, 44]⟩] 9)).alloc (.cells #[.string ⟨#[]⟩, .string ⟨#[32]⟩, .string ⟨#[9]⟩, .string ⟨#[32, 9, 32]⟩] 9)).drew.cell? ⟨wc.heap.size + 1, (z % 4).toNat, none⟩ = some (.string (str (pre n))) := by
                    have h := ((Blk.new (wc.alloc (.cells #[.string ⟨#[44]⟩, .string ⟨#[32, 44]⟩, .string ⟨#[44, 44, 32, 44]⟩, .string ⟨#[9, 44]⟩] 9)) 9 #[.string ⟨#[]⟩, .string ⟨#[32]⟩, .string ⟨#[9]⟩, .string ⟨#[32, 9, 32]⟩]).cell (z % 4).toNat).trans hP
                    rw [alloc_size] at h; exact h
                  have g1 : (wc.alloc (.cells #[.string ⟨#[44]⟩, .string ⟨#[32, 44]⟩, .string ⟨#[44, 44, 32, 44]⟩, .string ⟨#[9, 44]⟩] 9)).drew.cell? ⟨wc.heap.size, (z / 4 % 4).toNat, none⟩ = some (.string (str (sep m))) := ((Blk.new wc _ _).cell _).trans hS
                  have g2 : ((wc.alloc (.cells #[.string ⟨#[44]⟩, .string ⟨#[32, 44]⟩, .string ⟨#[44, 44, 32, 44]⟩, .string ⟨#[9, 44]⟩] 9)).alloc (.cells #[.string ⟨#[]⟩, .string ⟨#[32]⟩, .string ⟨#[9]⟩, .string ⟨#[32, 9, 32]⟩] 9)).drew.cell? ⟨wc.heap.size, (z / 4 % 4).toNat, none⟩ = some (.string (str (sep m))) := (((Blk.new wc _ _).alloc _).cell _).trans hS
                  have g3 : ((wc.alloc (.cells #[.string ⟨#[]⟩, .string ⟨#[32]⟩, .string ⟨#[9]⟩, .string ⟨#[32, 9, 32]⟩] 9)).alloc (.cells #[.string ⟨#[44]⟩, .string ⟨#[32, 44]⟩, .string ⟨#[44, 44, 32, 44]⟩, .string ⟨#[9, 44]⟩] 9)).drew.cell? ⟨wc.heap.size + 1, (z / 4 % 4).toNat, none⟩ = some (.string (str (sep m))) := by
                    have h := ((Blk.new (wc.alloc (.cells #[.string ⟨#[]⟩, .string ⟨#[32]⟩, .string ⟨#[9]⟩, .string ⟨#[32, 9, 32]⟩] 9)) 9 #[.string ⟨#[44]⟩, .string ⟨#[32, 44]⟩, .string ⟨#[44, 44, 32, 44]⟩, .string ⟨#[9, 44]⟩]).cell (z / 4 % 4).toNat).trans hS
                    rw [alloc_size] at h; exact h
                  have b1 : z % 4 < 4 := by omega
                  have b2 : z / 4 % 4 < 4 := by omega
                  have b3 : 0 ≤ z % 4 := by omega
                  have b4 : 0 ≤ z / 4 % 4 := by omega
                  have e1 : z.tmod 4 = z % 4 := Int.tmod_eq_emod_of_nonneg hz0
                  have e2 : (z.tdiv 4).tmod 4 = z / 4 % 4 := by rw [Int.tmod_eq_emod_of_nonneg (Int.tdiv_nonneg hz0 (by decide)), Int.tdiv_eq_ediv_of_nonneg hz0]
                  have hjoin := Lib.hid (join_eq l (elem t) (pre n) (sep m))
                  have hnm : Hid (∃ n' m', l ++ (pre n ++ elem t ++ sep m) = l ++ (pre n' ++ elem t ++ sep m')) := Lib.hid ⟨n, m, rfl⟩
                  generalize l ++ (pre n ++ elem t ++ sep m) = L at hjoin hnm ⊢
                  generalize str (pre n) = p at *
                  generalize str (sep m) = q at *
                  clear hts hq htok hd hel hP hS
                  go_wp2_with fail
                  go_region
                  all_goals
                    go_wp2_with fail
                    go_meet
                    obtain ⟨n', m', hL⟩ := hnm.out
                    exact ⟨⟨n', m', by rw [← hL, hjoin.out]⟩, two_new _ _ _⟩
                case rest =>
                  obtain ⟨⟨n, m, rfl⟩, hb3⟩ := hcut
                  rename_i wd
                  have hB3 := Lib.hid (Below.next hB2.out hBw2 hb3)
                  have ho3 := Lib.hid (own_below ho2.out hb3)
                  have hBw3 := hB3.out.size
                  clear hb3
                  have hJ3 := Lib.hid (hJ.out.step n m hc)
                  have hL3 : (l ++ (pre n ++ elem t ++ sep m)).length ≤ 1000 * (k + 1) := by
                    have h1 := pre_length n; have h2 := sep_length m; have h3 := elem_length t
                    simp only [List.length_append]; omega
                  generalize l ++ (pre n ++ elem t ++ sep m) = L at *
                  go_wp2_with (at_builtin; refine push_str _ _ rfl rfl rfl ho3.out rfl rfl (by omega) hBw3 ?_; intro v2 w2 ho2 hb2; replace ho2 := Lib.hid ho2; have hB4 := Lib.hid (hB3.out.trans hb2); clear hb2)
                  go_roundw
                  case rel =>
                    exact ⟨k + 1, L, want ++ [elem t], rfl, by go_num, by omega, by omega, by rw [List.length_append]; simp; omega, hJ3, Lib.hid (by rw [strs_snoc]; simpa using ho2.out), hB4⟩
                  case measure => simp [intOf]; omega
      · have hLl := Lib.hid hJ.out.list
        have hlist := fun w => list_any (str l) w (by rw [str_size]; omega)
        rw [bs_str, hLl.out] at hlist
        replace hlist := Lib.hid hlist
        go_wp2_with fail
        refine (hlist.out _).mono ?_
        rintro e w2 ⟨v, rfl, hv, hb2⟩
        rw [show errV (errO (some want)) = .nilIface from rfl]
        have hR1 : Rd w2 1 v want.length (strs want) := Rd.own hv
        have hR2 : Rd w2 1 u6 want.length (strs want) := (Rd.own ho.out).below hb2
        have hB2 := Lib.hid (Below.next hB.out hBw hb2)
        have hfin := Lib.hid (hb1.out.trans (hB2.out.mono hb1.out.size))
        replace hR1 := Lib.hid hR1
        replace hR2 := Lib.hid hR2
        clear hv hb2
        go_wp2_with fail
        refine (texts_any (l1 := want) (l2 := want) _ hR1.out hR2.out (by unfold maxLen; omega)).mono ?_
        rintro e w3 ⟨rfl, nd, rfl⟩
        rw [show decide (want = want) = true from decide_eq_true rfl]
        go_wp2
        go_ret
        exact ⟨rfl, below_drewN hfin.out _⟩
end Go.Proofs.YtjcgognngeagiaaDoor
