/-
  The walk of WholePaths.
-/
import Derived.Test.YtpfpjcfacbfjaaaGreatDoorGWb
import Derived.IntWalk
namespace Go.Proofs.YtpfpjcfacbfjaaaGreatDoor
open Go.Shelf Go.RowKit Go.Lib Go.Sort Rg Syn Ti Wp
set_option maxRecDepth 100000 in
set_option maxHeartbeats 16000000 in
theorem wpaths_walk (w : World) (a0 a1 a2 a3 a4 : Nat) (zs : List Int) (vz : Value) (dr : Int) (key : Nm) (hR : Rd w 1 vz zs.length (zs.map fun z => Value.int .u8 z)) (hz : ∀ z ∈ zs, 0 ≤ z ∧ z ≤ 255) (hzl : zs.length ≤ maxLen) (hd0 : 0 ≤ dr) (hd1 : dr ≤ 255) (hkl : key.length ≤ maxLen) (hw : a0 < 256 ∧ a1 < 256 ∧ a2 < 256 ∧ a3 < 256 ∧ a4 < 256) :
    Calls Tryz.prog 3 #[.agg #[.int .u8 (a0 : Int), .int .u8 (a1 : Int), .int .u8 (a2 : Int), .int .u8 (a3 : Int), .int .u8 (a4 : Int)], vz, .int .u8 dr, .string (str key)] w fun e w' => e = .returned (.bool true) ∧ Below w.heap.size w w' := by
  obtain ⟨A, cap, rfl, hcap, -, -⟩ := id hR
  have Haw := Lib.hid (fun W => wawake_any W)
  have HR := Lib.hid hR
  have Hz := Lib.hid hz
  have Hw := Lib.hid hw
  have hsz : (str key).size = key.length := str_size key
  clear hR hz hw
  have hzl2 : zs.length ≤ 9223372036854775807 := hzl
  have hkl2 : key.length ≤ 9223372036854775807 := hkl
  clear hzl hkl
  have Hwz := Lib.hid (show w.heap.size < (w.alloc (.cells #[.int .u8 (a0 : Int), .int .u8 (a1 : Int), .int .u8 (a2 : Int), .int .u8 (a3 : Int), .int .u8 (a4 : Int)] 22)).heap.size by rw [talloc_size]; omega)
  have HBl := Lib.hid (Blk.new w 22 #[.int .u8 (a0 : Int), .int .u8 (a1 : Int), .int .u8 (a2 : Int), .int .u8 (a3 : Int), .int .u8 (a4 : Int)])
  have HB0 := Lib.hid ((Below.refl w.heap.size w).alloc (Nat.le_refl _) (.cells #[.int .u8 (a0 : Int), .int .u8 (a1 : Int), .int .u8 (a2 : Int), .int .u8 (a3 : Int), .int .u8 (a4 : Int)] 22))
  go_enter Tryz.func3, Tryz.ntmps3
  go_upto_region 1 with fail
  generalize w.alloc (.cells #[.int .u8 (a0 : Int), .int .u8 (a1 : Int), .int .u8 (a2 : Int), .int .u8 (a3 : Int), .int .u8 (a4 : Int)] 22) = w1 at *
  by_cases hz60 : 60 < zs.length
  · go_wp2_with fail
    refine (Haw.out _).mono ?_
    rintro e w2 ⟨rfl, hb2⟩
    have HB2 := Lib.hid (Below.next HB0.out HB0.out.size hb2)
    clear hb2
    go_wp2_with fail
    go_ret
    exact ⟨rfl, HB2.out⟩
  by_cases hk200 : 200 < key.length
  · go_wp2_with fail
    refine (Haw.out _).mono ?_
    rintro e w2 ⟨rfl, hb2⟩
    have HB2 := Lib.hid (Below.next HB0.out HB0.out.size hb2)
    clear hb2
    go_wp2_with fail
    go_ret
    exact ⟨rfl, HB2.out⟩
  go_wp2_with fail
  refine (Haw.out _).mono ?_
  rintro e w2 ⟨rfl, hb2⟩
  have HB2 := Lib.hid (Below.next HB0.out HB0.out.size hb2)
  have HBl2 := Lib.hid (HBl.out.below hb2)
  have Hlo := Lib.hid (show w.heap.size < w2.heap.size from Nat.lt_of_lt_of_le Hwz.out hb2.size)
  clear hb2 HB0 HBl Hwz Haw
  -- the ring, the checks, the names
  have hnw := new_any w2 w2.heap.size (Nat.le_refl _)
  obtain ⟨loc, hloc⟩ : ∃ loc, w2.heap.size = loc := ⟨_, rfl⟩
  rw [hloc] at hnw
  rw [hloc] at Hlo
  have Hloc := Lib.hid hloc
  clear hloc
  go_wp2_with fail
  refine hnw.mono ?_
  rintro e w3 ⟨rfl, hr3, hb3⟩
  have hnh := hnew_any NM w3
  have HR3 := Lib.hid hr3
  have HB3 : Hid (Below loc w2 w3) := hb3
  clear hnw hr3 hb3
  go_wp2_with fail
  refine hnh.mono ?_
  rintro e w4 ⟨c, m1, m2, rfl, hh4, hm4, hb4⟩
  have hloc3 : Hid (loc ≤ w3.heap.size) := by have := HB3.out.size; rw [Hloc.out] at this; exact this
  have HR4 := Lib.hid (HR3.out.below hb4)
  have HH4 := Lib.hid hh4
  have Hm := Lib.hid (And.intro (Nat.le_trans hloc3.out hm4.1) (Nat.le_trans hloc3.out hm4.2))
  have HB4 : Hid (Below loc w2 w4) := Lib.hid (HB3.out.trans (hb4.mono hloc3.out))
  have hsh := wshields_any w4
  obtain ⟨gs, hgs⟩ : ∃ gs, w4.heap.size = gs := ⟨_, rfl⟩
  rw [hgs] at hsh
  have Hgs := Lib.hid hgs
  clear hnh hh4 hm4 hb4 HR3 HB3 hgs
  go_wp2_with fail
  refine hsh.mono ?_
  rintro e w5 ⟨rfl, ho5, hb5⟩
  have hloc4 : Hid (loc ≤ w4.heap.size) := by have := HB4.out.size; rw [Hloc.out] at this; exact this
  have hb5' : Below w4.heap.size w4 w5 := by rw [Hgs.out]; exact hb5
  have HB5 : Hid (Below loc w2 w5) := Lib.hid (HB4.out.trans (hb5'.mono hloc4.out))
  have h15 : Hid (L1 w5 loc c m1 m2 0 (.slice (some ⟨gs, 0, none⟩) 5 5) (.slice none 0 0) (.slice none 0 0) (.slice none 0 0) (nds [a0, a1, a2, a3, a4] 0) (nam [a0, a1, a2, a3, a4] 0) (fun _ => (0, 0))) :=
    ⟨HR4.out.below hb5', HH4.out.below hb5', ho5.base (by rw [← Hgs.out]; exact hloc4.out), own_nil _ _ _ _, (fun k hk => by cases hk), (fun k hk => by cases hk)⟩
  clear hsh ho5 hb5 hb5' HR4 HH4 HB4 hloc3 hloc4 Hgs
  generalize hws : [a0, a1, a2, a3, a4] = ws at *
  have Hws := Lib.hid hws
  clear hws
  go_wp2_with fail
  go_loopw [12, 79] (fun va i wr => ∃ (k n : Nat) (v1 v2 : Value) (S : Nm → St2), i = .int .i64 (k : Int) ∧ k ≤ 5 ∧ n ≤ k ∧ Hid (L1 wr loc c m1 m2 n (.slice (some ⟨gs, 0, none⟩) 5 5) va v1 v2 (nds ws k) (nam ws k) S) ∧ Hid (StOk S (nam ws k)) ∧ Hid (Below loc w2 wr)) (fun _ i _ => 5 - (intOf i).toNat)
  case atStart => exact ⟨0, 0, _, _, _, rfl, by omega, by omega, h15, StOk.start, HB5⟩
  case round =>
    clear h15 HB5
    obtain ⟨k, n, v1, v2, S, rfl, hk, hn, hL, hS, hB⟩ := hrel
    by_cases hlt : k < 5
    · have hkN : k < NM.length := hlt
      obtain ⟨A', c', e', -, -, r'⟩ := Rd.own hL.out.sh
      cases e'
      obtain ⟨g, of, eg, _, x1⟩ := r' (by decide)
      cases eg
      have t0 : wr.cell? ⟨gs, 0 + k, none⟩ = some (.string (str NM[k])) := x1 k _ (strs_at hkN)
      rw [Nat.zero_add] at t0
      have u0 : wr.cell? ⟨w.heap.size, k, none⟩ = some (.int .u8 ((ws.getD k 0 : Nat) : Int)) := by
        rw [World.cell?_of_block (a := ⟨w.heap.size, k, none⟩) (hB.out.block w.heap.size Hlo.out), HBl2.out.cell k, ← Hws.out]
        rcases k with _ | _ | _ | _ | _ | k
        · rfl
        · rfl
        · rfl
        · rfl
        · rfl
        · omega
      have hab : ws.getD k 0 < 256 := by
        rw [← Hws.out]
        obtain ⟨h0, h1, h2, h3, h4⟩ := Hw.out
        rcases k with _ | _ | _ | _ | _ | k
        · exact h0
        · exact h1
        · exact h2
        · exact h3
        · exact h4
        · omega
      have HN := Lib.hid (show NM[k] = NM.getD k [] by rw [List.getD_eq_getElem?_getD, List.getElem?_eq_getElem hkN]; rfl)
      clear x1 r'
      generalize hx : NM[k] = x at *
      generalize ha : ws.getD k 0 = a at *
      have k1 : (0 : Int) ≤ (k : Int) := by omega
      have k2 : (k : Int) < 5 := by omega
      have hlz : loc ≤ wr.heap.size := by have := hB.out.size; rw [Hloc.out] at this; exact this
      by_cases h4 : a % 4 = 0
      · have q1 : ((a : Int) % 4 == 0) = true := by rw [beq_iff_eq]; omega
        have e1' := Lib.hid (nds_no (ws := ws) (k := k) (by rw [ha]; exact h4))
        have e2' := Lib.hid (nam_no (ws := ws) (k := k) (by rw [ha]; exact h4))
        clear ha hx hab h4
        go_wp2_with fail
        go_roundw
        case rel => exact ⟨k + 1, n, v1, v2, S, by go_num, by omega, by omega, by rw [e1'.out, e2'.out]; exact hL, by rw [e2'.out]; exact hS, hB⟩
        case measure => simp [intOf]; omega
      · have q1 : ((a : Int) % 4 == 0) = false := by rw [beq_eq_false_iff_ne]; omega
        have e1' := Lib.hid (nds_yes (ws := ws) (k := k) (by rw [ha]; exact h4))
        have e2' := Lib.hid (nam_yes (ws := ws) (k := k) (by rw [ha]; exact h4))
        have hgd := nds_good ws (k := k) hk
        have hln := nds_len ws (k := k) hk
        have hxN : x ∈ NM := by rw [← hx]; exact List.getElem_mem hkN
        have hxl := NM_len hxN
        have hxn : x ∉ ascOf (nds ws k) := fun h => by
          have h2 := nds_new (ws := ws) (k := k) hlt (by rw [ha]; exact h4)
          rw [← HN.out] at h2
          exact h2 (hgd.mem.1 h)
        have hnl : (nam ws k).length ≤ 5 := by unfold nam; rw [List.length_map]; omega
        have hadd : Calls Tryz.prog 8 #[.pointer (some ⟨loc, 0, none⟩), .string (str x), .int .i64 ((a : Int) % 4)] wr _ := add_yesN wr loc loc (a % 4) v1 v2 _ _ x hL.out.ring hgd.asc (by rw [hgd.len]; omega) (by have := hgd.plen; omega) hlz (by omega) (by omega) (by omega) (by omega) hxn
        have Hadd := Lib.hid hadd
        have HxN := Lib.hid hxN
        have Hxl := Lib.hid (show x.length ≤ maxLen by rw [hxl]; decide)
        rw [ha] at e1'
        rw [← HN.out] at e1' e2'
        clear ha hx h4 hgd hxn hadd hxN hxl hln
        go_wp2_with fail
        refine Hadd.out.mono ?_
        rintro e w6 ⟨rfl, hk6, v1', v2', hr6, hn6⟩
        have h6 := Lib.hid (hL.out.added hk6 (L' := nds ws (k + 1)) (by rw [e1'.out, ascOf_snoc, ptsOf_snoc]; exact hr6) hn6)
        have hb6 := Lib.hid (hB.out.trans (hL.out.ring.frame hlz hk6))
        have hz6 : loc ≤ w6.heap.size := by have := hb6.out.size; rw [Hloc.out] at this; exact this
        clear hk6 hr6 hn6 Hadd hL hB hlz u0 t0
        go_wp2_with (at_builtin; refine pushG_str _ _ rfl rfl rfl (own_below h6.out.all ((Below.refl w6.heap.size w6).alloc (Nat.le_refl _) _)) rfl rfl (by omega) hz6 ?_; intro v8 w8 ho8 hg8 hat8; have h8 := Lib.hid ((h6.out.below ((Below.refl w6.heap.size w6).alloc (Nat.le_refl _) _)).pushed hg8 ho8 hat8); have hb8 := Lib.hid ((hb6.out.alloc hz6 _).trans (below_grown (own_below h6.out.all ((Below.refl w6.heap.size w6).alloc (Nat.le_refl _) _)) hg8 (by rw [talloc_size]; omega))); clear ho8 hg8 hat8)
        have hz8 : loc ≤ w8.heap.size := by have := hb8.out.size; rw [Hloc.out] at this; exact this
        refine (report_yes w8 c m1 m2 n NM S (fun _ => false) x Hxl.out HxN.out (by unfold maxLen; omega) (hS.out x).2.1 (by have := (hS.out x).2.2; omega) h8.out.hc).mono ?_
        rintro e w9 ⟨⟨r, rfl⟩, hh9, hk9⟩
        have h9 := Lib.hid (h8.out.reported hh9 hk9)
        have hb9 := Lib.hid (hb8.out.trans (hk9.toBelow hz8 (fun k e => by rw [e]; exact Hm.out.1)))
        clear hh9 hk9 h8 hb8 hz8 h6 hb6
        go_wp2_with fail
        go_roundw
        case rel => exact ⟨k + 1, n + 1, v1', v2', _, by go_num, by omega, by omega, by rw [e2'.out]; exact h9, by rw [e2'.out]; exact hS.out.new x true, hb9⟩
        case measure => simp [intOf]; omega
    · have hk5 : k = 5 := by omega
      subst hk5
      have hBz := Lib.hid (fun W (hb : Below loc w2 W) => (show Below w.heap.size w W from HB2.out.trans (hb.mono (Nat.le_of_lt Hlo.out))))
      have Hhid := Lib.hid hlt
      clear hlt hk HBl2 Hw Hws
      have hzz : ¬ 60 < zs.length := hz60
      go_wp2_with fail
      go_loopw [108] (fun i wr => ∃ (k n : Nat) (S : Nm → St2), i = .int .i64 (k : Int) ∧ k ≤ zs.length ∧ n ≤ 5 + k ∧ Hid (L1 wr loc c m1 m2 n (.slice (some ⟨gs, 0, none⟩) 5 5) u12 v1 v2 (nds ws 5) (nam ws 5) S) ∧ Hid (StOk S (nam ws 5)) ∧ Hid (Below loc w2 wr)) (fun i _ => zs.length - (intOf i).toNat)
      case atStart => exact ⟨0, n, S, rfl, by omega, by omega, hL, hS, hB⟩
      case round =>
        clear hL hS hB hn
        obtain ⟨k, n, S, rfl, hk, hn, hL, hS, hB⟩ := hrel
        by_cases hlt : k < zs.length
        · obtain ⟨A', c', e', -, -, r'⟩ := HR.out.below (hBz.out _ hB.out)
          cases e'
          obtain ⟨g, of, rfl, _, x1⟩ := r' (by omega)
          have t0 : wr.cell? ⟨g, of + k, none⟩ = some (.int .u8 zs[k]) := x1 k _ (by simp [hlt])
          have hzk := Hz.out _ (List.getElem_mem hlt)
          obtain ⟨j, hj, hj5⟩ : ∃ j : Nat, zs[k] % 5 = (j : Int) ∧ j < 5 := ⟨(zs[k] % 5).toNat, by omega, by omega⟩
          have hjN : j < NM.length := hj5
          have hlq : loc ≤ wr.heap.size := by have := hB.out.size; rw [Hloc.out] at this; exact this
          have hsh := wshields_any wr
          have hxN : NM[j] ∈ NM := List.getElem_mem hjN
          clear x1 r'
          generalize zs[k] = z at *
          have k1 : (0 : Int) ≤ (k : Int) := by omega
          have k2 : (k : Int) < (zs.length : Int) := by omega
          have j1 : (0 : Int) ≤ (j : Int) := by omega
          have j2 : (j : Int) < 5 := by omega
          go_wp2_with fail
          refine hsh.mono ?_
          rintro e w6 ⟨rfl, ho6, hb6⟩
          obtain ⟨A', c', e', -, -, r'⟩ := Rd.own ho6
          cases e'
          obtain ⟨gq, oq, eg, _, x1⟩ := r' (by decide)
          cases eg
          have t1 : w6.cell? ⟨wr.heap.size, 0 + j, none⟩ = some (.string (str NM[j])) := x1 j _ (strs_at hjN)
          rw [Nat.zero_add] at t1
          have h6 := Lib.hid (hL.out.below hb6)
          have hb6' := Lib.hid (hB.out.trans (hb6.mono hlq))
          have hl6 : loc ≤ w6.heap.size := by have := hb6'.out.size; rw [Hloc.out] at this; exact this
          generalize NM[j] = x at *
          have Hxl := Lib.hid (show x.length ≤ maxLen by rw [NM_len hxN]; decide)
          have HxN := Lib.hid hxN
          have hgd := nds_good ws (k := 5) (Nat.le_refl _)
          have hln := nds_len ws (k := 5) (Nat.le_refl _)
          have hon := owners_any w6 loc loc v1 v2 _ _ key 5 h6.out.ring (srt_srt _) hgd.sub (by rw [hgd.len]; omega) (by have := hgd.plen; omega) (by omega) (by decide)
          clear hsh ho6 hb6 x1 r' t0 hL hB hgd hln hxN
          go_wp2_with fail
          refine hon.mono ?_
          rintro e w7 ⟨o, rfl, ho7, hb7⟩
          have h7 := Lib.hid (h6.out.below hb7)
          have hb7' := Lib.hid (hb6'.out.trans (hb7.mono hl6))
          have hl7 : loc ≤ w7.heap.size := Nat.le_trans hl6 hb7.size
          have hoo := own_nil' ho7
          clear hon ho7 hb7 h6 hb6' hl6 t1
          rcases hoo with ⟨rfl, -, -⟩ | ⟨go, co, rfl⟩
          · go_wp2_with fail
            refine ⟨?_, ?measure⟩
            · repeat apply Exists.intro
              refine ⟨?rel, ?eqq⟩
              case eqq => rfl
              case rel => exact ⟨k + 1, n, S, by go_num, by omega, by omega, h7, hS, hb7'⟩
            case measure => simp [intOf]; omega
          · have hst := state_any w7 c m1 m2 n NM S (fun _ => false) x Hxl.out h7.out.hc
            by_cases hs0 : (S x).1 = 0
            · rw [hs0] at hst
              go_wp2_with fail
              refine hst.mono ?_
              rintro e w7 ⟨rfl, rfl⟩
              go_wp2_with fail
              refine ⟨?_, ?measure⟩
              · repeat apply Exists.intro
                refine ⟨?rel, ?eqq⟩
                case eqq => rfl
                case rel => exact ⟨k + 1, n, S, by go_num, by omega, by omega, h7, hS, hb7'⟩
              case measure => simp [intOf]; omega
            · have Hs0 := Lib.hid hs0
              have s1 : ((S x).1 == 0) = false := beq_eq_false_iff_ne.2 hs0
              have s2 : ((S x).1 != 0) = true := by rw [bne, s1]; rfl
              generalize (S x).1 = sx at hst s1 s2
              clear hs0
              go_wp2_with fail
              refine hst.mono ?_
              rintro e w7 ⟨rfl, rfl⟩
              clear hst hj hzk j1 j2 hj5 hjN
              by_cases hz8 : 128 ≤ z
              · have z1 : decide (128 ≤ z) = true := decide_eq_true hz8
                go_wp2_with fail
                refine (report_yes w7 c m1 m2 n NM S (fun _ => false) x Hxl.out HxN.out (by unfold maxLen; omega) (hS.out x).2.1 (by have := (hS.out x).2.2; omega) h7.out.hc).mono ?_
                rintro e w9 ⟨⟨r, rfl⟩, hh9, hk9⟩
                have h9 := Lib.hid (h7.out.reported hh9 hk9)
                have hb9 := Lib.hid (hb7'.out.trans (hk9.toBelow hl7 (fun k e => by rw [e]; exact Hm.out.1)))
                clear hh9 hk9 h7 hb7' s1 s2 z1 hz8 k1 k2
                go_wp2_with fail
                refine ⟨?_, ?measure⟩
                · repeat apply Exists.intro
                  refine ⟨?rel, ?eqq⟩
                  case eqq => rfl
                  case rel => exact ⟨k + 1, n + 1, upd S x (rep (S x) true), by go_num, by omega, by omega, h9, hS.out.old x Hs0.out true, hb9⟩
                case measure => simp [intOf]; omega
              · have z1 : decide (128 ≤ z) = false := decide_eq_false hz8
                go_wp2_with fail
                refine (report_no w7 c m1 m2 n NM S (fun _ => false) x Hxl.out HxN.out (by unfold maxLen; omega) (hS.out x).2.1 (by have := (hS.out x).2.2; omega) h7.out.hc).mono ?_
                rintro e w9 ⟨⟨r, rfl⟩, hh9, hk9⟩
                have h9 := Lib.hid (h7.out.reported hh9 hk9)
                have hb9 := Lib.hid (hb7'.out.trans (hk9.toBelow hl7 (fun k e => by rw [e]; exact Hm.out.1)))
                clear hh9 hk9 h7 hb7' s1 s2 z1 hz8 k1 k2
                go_wp2_with fail
                refine ⟨?_, ?measure⟩
                · repeat apply Exists.intro
                  refine ⟨?rel, ?eqq⟩
                  case eqq => rfl
                  case rel => exact ⟨k + 1, n + 1, upd S x (rep (S x) false), by go_num, by omega, by omega, h9, hS.out.old x Hs0.out false, hb9⟩
                case measure => simp [intOf]; omega
        · have hke : ¬ k < zs.length := hlt
          have hup := up_any wr c m1 m2 n NM S (fun _ => false) hL.out.hc NM_nodup NM_pw NM_short
          have hlq : loc ≤ wr.heap.size := by have := hB.out.size; rw [Hloc.out] at this; exact this
          have Hn65 := Lib.hid (show n < maxLen by unfold maxLen; omega)
          clear hk
          go_wp2_with fail
          refine hup.mono ?_
          rintro e w10 ⟨vu, rfl, hou, hbu⟩
          have H10 := Lib.hid (hL.out.below hbu)
          have HB10 := Lib.hid (hB.out.trans (hbu.mono hlq))
          have hUn : (NM.filter (isUp S (fun _ => false))).Nodup := NM_nodup.sublist List.filter_sublist
          have hUs : ∀ x ∈ NM.filter (isUp S (fun _ => false)), x ∈ own5 ws key := fun x hx => own5_mem.2 (((hS.out x).1).1 (by
            have h2 := (List.mem_filter.1 hx).2
            unfold isUp at h2
            rw [Bool.and_eq_true, decide_eq_true_eq] at h2
            rw [h2.1]; decide))
          have hUl : (NM.filter (isUp S (fun _ => false))).length ≤ 5 := List.length_filter_le _ _
          have HUf := Lib.hid (isUp_wo S)
          generalize hUe : NM.filter (isUp S (fun _ => false)) = U at *
          have HUe := Lib.hid hUe
          have HUn := Lib.hid hUn
          have HUs := Lib.hid hUs
          have hOl : (own5 ws key).length ≤ 5 := by rw [own5_len]; exact nds_len ws (Nat.le_refl _)
          have hCl := Lib.hid (ordU_up (own5_nodup ws key) hUn hUs)
          have hgd := Lib.hid (nds_good ws (k := 5) (Nat.le_refl _))
          have hkey : key.length ≤ 1000000 := by omega
          have HEd := Lib.hid (fun W (U' : List Nm) vu' i (hb : Below w10.heap.size w10 W) (hu : Rd W 1 vu' U'.length (strs U')) (hl : U'.length ≤ 1000) => (show Calls Tryz.prog 13 #[.string ⟨#[101, 49]⟩, .pointer (some ⟨loc, 0, none⟩), vu', .string (str key), .slice none 0 0, .int .i64 i] W fun e w' => e = .returned (edW U' (own5 ws key) i) ∧ Below W.heap.size W w' from edge_wp W loc loc v1 v2 vu' (nds ws 5) key U' i (H10.out.ring.below hb) hgd.out (nds_len ws (Nat.le_refl _)) hkey hu hl (own5_e1 ws key)))
          have HOw := Lib.hid (fun W (hb : Below w10.heap.size w10 W) => (show Calls Tryz.prog 10 #[.pointer (some ⟨loc, 0, none⟩), .string (str key), .int .i64 5] W fun e w' => ∃ o, e = .returned o ∧ Own w' W.heap.size 9 1 o (own5 ws key).length (strs (own5 ws key)) ∧ Below W.heap.size W w' from by
            have := owners_any W loc loc v1 v2 _ _ key 5 (H10.out.ring.below hb) (srt_srt _) hgd.out.sub (by rw [hgd.out.len]; have := nds_len ws (k := 5) (Nat.le_refl _); omega) (by have := hgd.out.plen; have := nds_len ws (k := 5) (Nat.le_refl _); omega) hkey (by decide)
            rw [hgd.out.owners_all _ 5 (by have := nds_len ws (k := 5) (Nat.le_refl _); omega)] at this
            exact this))
          have HON := Lib.hid (fun x (hx : x ∈ own5 ws key) => nam_mem (k := 5) (Nat.le_refl _) (own5_mem.1 hx))
          have HOn := Lib.hid (own5_nodup ws key)
          have HOm := Lib.hid (fun x => own5_mem (ws := ws) (key := key) (x := x))
          have HOf := Lib.hid (own5_less ws key)
          have Hkey := Lib.hid hkey
          have Hfin := Lib.hid (fun W (hb : Below w10.heap.size w10 W) => hBz.out W (HB10.out.trans (hb.mono (by have := HB10.out.size; rw [Hloc.out] at this; exact this))))
          have HOe := Lib.hid (show own (ptsOf (nds ws 5)) (Sk.hash 255 key) = own5 ws key from rfl)
          generalize hOO : own5 ws key = O at *
          obtain ⟨AU, cU, rfl, hcU, -, -⟩ := Rd.own hou
          have HUr := Lib.hid (Rd.own hou)
          have Hhid2 := Lib.hid (And.intro hke hzz)
          clear hup hou hbu hL hB hn hlq hUe hUn hUs hkey hke hzz HR Hz Hhid hzl2 hz60
          go_wp2_with fail
          go_loopw [19, 138] (fun vt i wr => ∃ k : Nat, i = .int .i64 (k : Int) ∧ k ≤ U.length ∧ Hid (Own wr w10.heap.size 9 1 vt k (strs ((ordU U O).take k))) ∧ Hid (Below w10.heap.size w10 wr)) (fun _ i _ => U.length + 1 - (intOf i).toNat)
          case atStart => exact ⟨0, rfl, by omega, own_nil _ _ _ _, Below.refl _ _⟩
          case round =>
            obtain ⟨k, rfl, hk, hT, hB⟩ := hrel
            have hed := HEd.out wr U (.slice AU U.length cU) (k : Int) hB.out (HUr.out.below hB.out) (by omega)
            have k0 : (0 : Int) ≤ (k : Int) := by omega
            have k1 : (k : Int) < (U.length : Int) + 1 := by omega
            have k5 : (U.length : Int) + 1 ≤ 9223372036854775807 := by omega
            by_cases hlt : k < U.length
            · have hkC : k < (ordU U O).length := by rw [hCl.out]; exact hlt
              rw [edW_at hkC] at hed
              have k2 : ((k : Int) == (U.length : Int)) = false := by rw [beq_eq_false_iff_ne]; omega
              have hxO : (ordU U O)[k] ∈ O := (List.mem_filter.1 (show (ordU U O)[k] ∈ O.filter _ from List.getElem_mem hkC)).1
              have hxU : (ordU U O)[k] ∈ U := by
                have := (List.mem_filter.1 (show (ordU U O)[k] ∈ O.filter _ from List.getElem_mem hkC)).2
                simpa using this
              have hxN := HON.out _ hxO
              have hnb := not_before (ordU_nodup (U := U) HOn.out) hkC
              have htk := Lib.hid (List.take_succ_eq_append_getElem hkC)
              have htl : ((ordU U O).take k).length = k := by rw [List.length_take]; omega
              generalize (ordU U O)[k] = x at *
              have Htk := Lib.hid htk
              have HxN := Lib.hid hxN
              have HxU := Lib.hid hxU
              have Hnb := Lib.hid hnb
              generalize hTk : (ordU U O).take k = T at *
              clear hxO hxU hxN hnb htk hkC
              go_wp2_with fail
              refine hed.mono ?_
              rintro e w11 ⟨rfl, hb11⟩
              have hB11 := Lib.hid (Below.next hB.out hB.out.size hb11)
              have hT11 := Lib.hid (own_below hT.out hb11)
              obtain ⟨AT, cT, rfl, hcT, -, -⟩ := Rd.own hT11.out
              clear hed hb11 hB hT
              go_wp2_with fail
              go_loopw [159] (fun i wq => ∃ j : Nat, i = .int .i64 (j : Int) ∧ j ≤ k ∧ wq = w11) (fun i _ => k - (intOf i).toNat)
              case atStart => exact ⟨0, rfl, by omega, rfl⟩
              case round =>
                obtain ⟨j, rfl, hj, rfl⟩ := hrel
                by_cases hjk : j < k
                · obtain ⟨A', c', e', -, -, r'⟩ := Rd.own hT11.out
                  cases e'
                  obtain ⟨g, of, rfl, _, x1⟩ := r' (by omega)
                  have hjT : j < T.length := by omega
                  have t0 : wr.cell? ⟨g, of + j, none⟩ = some (.string (str T[j])) := x1 j _ (strs_at hjT)
                  have q1 := str_ne (show ¬ T[j] = x from fun e => Hnb.out (e ▸ List.getElem_mem hjT))
                  have j1 : (0 : Int) ≤ (j : Int) := by omega
                  have j2 : (j : Int) < (k : Int) := by omega
                  clear x1 r'
                  generalize T[j] = y at *
                  go_wp2_with fail
                  go_roundw
                  case rel => exact ⟨j + 1, by go_num, by omega, by first | rfl | trivial⟩
                  case measure => simp [intOf]; omega
                · have hjk2 : ¬ (j : Int) < (k : Int) := by omega
                  clear hj
                  go_wp2_with fail
                  go_loopw [25, 169] (fun f i wq => ∃ j : Nat, f = .bool (decide (x ∈ U.take j)) ∧ i = .int .i64 (j : Int) ∧ j ≤ U.length ∧ wq = wr) (fun _ i _ => U.length - (intOf i).toNat)
                  case atStart => exact ⟨0, by simp, rfl, by omega, rfl⟩
                  case round =>
                    obtain ⟨j, rfl, rfl, hj, rfl⟩ := hrel
                    by_cases hju : j < U.length
                    · obtain ⟨A', c', e', -, -, r'⟩ := HUr.out.below hB11.out
                      cases e'
                      obtain ⟨g, of, rfl, _, x1⟩ := r' (by omega)
                      have t0 : wr.cell? ⟨g, of + j, none⟩ = some (.string (str U[j])) := x1 j _ (strs_at hju)
                      have hms := mem_take_succ (x := x) hju
                      have j1 : (0 : Int) ≤ (j : Int) := by omega
                      have j2 : (j : Int) < (U.length : Int) := by omega
                      clear x1 r'
                      generalize U[j] = y at *
                      by_cases hm : x ∈ U.take j
                      · have hn := Lib.hid (show decide (x ∈ U.take (j + 1)) = true from decide_eq_true (hms.2 (Or.inl hm)))
                        rw [decide_eq_true hm]
                        clear hm hms
                        go_wp2_with fail
                        go_roundw
                        case rel => exact ⟨j + 1, by rw [hn.out], by go_num, by omega, by first | rfl | trivial⟩
                        case measure => simp [intOf]; omega
                      · rw [decide_eq_false hm]
                        by_cases hy : y = x
                        · have q1 := str_eq hy
                          have hn := Lib.hid (show decide (x ∈ U.take (j + 1)) = true from decide_eq_true (hms.2 (Or.inr hy.symm)))
                          clear hm hms hy
                          go_wp2_with fail
                          go_roundw
                          case rel => exact ⟨j + 1, by rw [hn.out], by go_num, by omega, by first | rfl | trivial⟩
                          case measure => simp [intOf]; omega
                        · have q1 := str_ne hy
                          have hn := Lib.hid (show decide (x ∈ U.take (j + 1)) = false from decide_eq_false (fun h => (hms.1 h).elim hm (fun e => hy e.symm)))
                          clear hm hms hy
                          go_wp2_with fail
                          go_roundw
                          case rel => exact ⟨j + 1, by rw [hn.out], by go_num, by omega, by first | rfl | trivial⟩
                          case measure => simp [intOf]; omega
                    · have hju2 : ¬ (j : Int) < (U.length : Int) := by omega
                      rw [List.take_of_length_le (by omega), decide_eq_true HxU.out]
                      have hz11 : w10.heap.size ≤ wr.heap.size := hB11.out.size
                      clear hj
                      go_wp2_with (at_builtin; refine push_str _ _ rfl rfl rfl hT11.out rfl rfl (by omega) hz11 ?_; intro v8 w8 ho8 hb8; replace ho8 := Lib.hid ho8; have hB8 := Lib.hid (hB11.out.trans hb8); clear hb8)
                      refine (wsh1 HxN.out w8).mono ?_
                      rintro e w12 ⟨rfl, hb12⟩
                      have hB12 := Lib.hid (Below.next hB8.out hB8.out.size hb12)
                      have hT12 := Lib.hid (own_below ho8.out hb12)
                      clear hb12 hB8 ho8 hB11 hT11
                      go_wp2_with fail
                      refine (wsh2 w12).mono ?_
                      rintro e w13 ⟨rfl, hb13⟩
                      have hB13 := Lib.hid (Below.next hB12.out hB12.out.size hb13)
                      have hT13 := Lib.hid (own_below hT12.out hb13)
                      clear hb13 hB12 hT12
                      go_wp2_with fail
                      refine (wvia2 HxN.out w13).mono ?_
                      rintro e w14 ⟨rfl, hb14⟩
                      have hB14 := Lib.hid (Below.next hB13.out hB13.out.size hb14)
                      have hT14 := Lib.hid (own_below hT13.out hb14)
                      clear hb14 hB13 hT13
                      have hrv := wreadvia_any HxN.out w14
                      generalize via [e1, x] = V at *
                      go_wp2_with fail
                      refine hrv.mono ?_
                      rintro e w15 ⟨v, rfl, hov, hb15⟩
                      have hB15 := Lib.hid (Below.next hB14.out hB14.out.size hb15)
                      have hT15 := Lib.hid (own_below hT14.out hb15)
                      have htx := wtx w15 v (Rd.own hov)
                      clear hb15 hB14 hT14 hrv hov
                      go_wp2_with fail
                      refine htx.mono ?_
                      rintro e w16 ⟨rfl, hb16⟩
                      have hB16 := Lib.hid (Below.next hB15.out hB15.out.size hb16)
                      have hT16 := Lib.hid (own_below hT15.out hb16)
                      clear hb16 hB15 hT15 htx
                      go_wp2_with fail
                      refine (wchk HxN.out w16).mono ?_
                      rintro e w17 ⟨rfl, hb17⟩
                      have hB17 := Lib.hid (Below.next hB16.out hB16.out.size hb17)
                      have hT17 := Lib.hid (own_below hT16.out hb17)
                      clear hb17 hB16 hT16
                      go_wp2_with fail
                      go_roundw
                      case rel => exact ⟨k + 1, by go_num, by omega, by rw [Htk.out.out, strs_snoc]; exact hT17, hB17⟩
                      case measure => simp [intOf]; omega
            · have hkU : k = U.length := by omega
              rw [edW_org (hkU.trans hCl.out.symm)] at hed
              have k2 : ((k : Int) == (U.length : Int)) = true := by rw [beq_iff_eq]; omega
              rw [List.take_of_length_le (by rw [hCl.out]; omega)] at hT
              have HkU := Lib.hid hkU
              clear hk hlt hkU
              go_wp2_with fail
              refine hed.mono ?_
              rintro e w11 ⟨rfl, hb11⟩
              have hB11 := Lib.hid (Below.next hB.out hB.out.size hb11)
              have hT11 := Lib.hid (own_below hT.out hb11)
              clear hed hb11 hB hT
              have he2 : edW U O ((U.length : Int) + 1) = _ := edW_past (U := U) (O := O) (i := U.length + 1) (by rw [hCl.out]; omega)
              have hed2 := HEd.out w11 U (.slice AU U.length cU) ((U.length : Int) + 1) hB11.out (HUr.out.below hB11.out) (by omega)
              rw [he2] at hed2
              have hTr : Hid (Rd w11 1 u19 (ordU U O).length (strs (ordU U O))) := by have := Rd.own hT11.out; rwa [HkU.out.trans hCl.out.symm] at this
              clear hT11 he2
              go_wp2_with fail
              refine hed2.mono ?_
              rintro e w12 ⟨rfl, hb12⟩
              have hB12 := Lib.hid (Below.next hB11.out hB11.out.size hb12)
              have hTr2 := Lib.hid (hTr.out.below hb12)
              clear hed2 hb12 hTr hB11
              have how := HOw.out w12 hB12.out
              go_wp2_with fail
              refine how.mono ?_
              rintro e w13 ⟨o, rfl, ho13, hb13⟩
              have hB13 := Lib.hid (Below.next hB12.out hB12.out.size hb13)
              have hTr3 := Lib.hid (hTr2.out.below hb13)
              have HO13 := Lib.hid (Rd.own ho13)
              obtain ⟨Ao, co, rfl, hco, -, -⟩ := Rd.own ho13
              have HB13 := Lib.hid (fun W (hb : Below w13.heap.size w13 W) => Below.next hB13.out hB13.out.size hb)
              clear how ho13 hb13 hB12 hTr2
              go_wp2_with fail
              go_loopw [35, 250] (fun vo i wq => ∃ k : Nat, i = .int .i64 (k : Int) ∧ k ≤ O.length ∧ Hid (Own wq w13.heap.size 9 1 vo (ordU U (O.take k)).length (strs (ordU U (O.take k)))) ∧ Hid (Below w13.heap.size w13 wq)) (fun _ i _ => O.length - (intOf i).toNat)
              case atStart => exact ⟨0, rfl, by omega, own_nil _ _ _ _, Below.refl _ _⟩
              case round =>
                obtain ⟨k, rfl, hk, hT, hB⟩ := hrel
                by_cases hlt : k < O.length
                · obtain ⟨A', c', e', -, -, r'⟩ := HO13.out.below hB.out
                  cases e'
                  obtain ⟨g, of, rfl, _, x1⟩ := r' (by omega)
                  have t0 : wr.cell? ⟨g, of + k, none⟩ = some (.string (str O[k])) := x1 k _ (strs_at hlt)
                  have Hmore := Lib.hid (more_all (U := U) hlt)
                  have hl5 : (ordU U (O.take k)).length ≤ 5 := by have := ordU_len U (O.take k); rw [List.length_take] at this; omega
                  have hml := Lib.hid (fun j => more_len (ordU U (O.take k)) U O[k] j)
                  have h0 := more_zero (ordU U (O.take k)) U O[k]
                  rw [← h0] at hT
                  have k1 : (0 : Int) ≤ (k : Int) := by omega
                  have k2 : (k : Int) < (O.length : Int) := by omega
                  clear x1 r' h0
                  generalize O[k] = x at *
                  generalize ordU U (O.take k) = l at *
                  go_wp2_with fail
                  go_loopw [35, 256] (fun vo i wq => ∃ j : Nat, i = .int .i64 (j : Int) ∧ j ≤ U.length ∧ Hid (Own wq w13.heap.size 9 1 vo (more l U x j).length (strs (more l U x j))) ∧ Hid (Below w13.heap.size w13 wq)) (fun _ i _ => U.length - (intOf i).toNat)
                  case atStart => exact ⟨0, rfl, by omega, hT, hB⟩
                  case round =>
                    clear hT hB t0
                    obtain ⟨j, rfl, hj, hT, hB⟩ := hrel
                    by_cases hju : j < U.length
                    · obtain ⟨A', c', e', -, -, r'⟩ := HUr.out.below (HB13.out _ hB.out)
                      cases e'
                      obtain ⟨g2, of2, rfl, _, x1⟩ := r' (by omega)
                      have t0 : wr.cell? ⟨g2, of2 + j, none⟩ = some (.string (str U[j])) := x1 j _ (strs_at hju)
                      have j1 : (0 : Int) ≤ (j : Int) := by omega
                      have j2 : (j : Int) < (U.length : Int) := by omega
                      have hm6 := hml.out j
                      by_cases hy : U[j] = x
                      · have hh := Lib.hid (more_hit (l := l) HUn.out hju hy)
                        rw [hy] at t0
                        have q1 := str_eq (rfl : x = x)
                        have hz : w13.heap.size ≤ wr.heap.size := hB.out.size
                        clear x1 r' hy
                        generalize more l U x j = M at *
                        go_wp2_with (at_builtin; refine push_str _ _ rfl rfl rfl hT.out rfl rfl (by omega) hz ?_; intro v8 w8 ho8 hb8; replace ho8 := Lib.hid ho8; have hB8 := Lib.hid (hB.out.trans hb8); clear hb8)
                        go_roundw
                        case rel => exact ⟨j + 1, by go_num, by omega, by rw [hh.out, strs_snoc, List.length_append, List.length_singleton]; exact ho8, hB8⟩
                        case measure => simp [intOf]; omega
                      · have hh := Lib.hid (more_miss (l := l) hju hy)
                        have q1 := str_ne hy
                        clear x1 r'
                        generalize U[j] = y at *
                        generalize more l U x j = M at *
                        clear hy
                        go_wp2_with fail
                        go_roundw
                        case rel => exact ⟨j + 1, by go_num, by omega, by rw [hh.out]; exact hT, hB⟩
                        case measure => simp [intOf]; omega
                    · have hju2 : ¬ (j : Int) < (U.length : Int) := by omega
                      have hje : j = U.length := by omega
                      rw [hje, Hmore.out] at hT
                      clear hj
                      go_wp2_with fail
                      go_roundw
                      case rel => exact ⟨k + 1, by go_num, by omega, hT, hB⟩
                      case measure => simp [intOf]; omega
                · have hlt2 : ¬ (k : Int) < (O.length : Int) := by omega
                  rw [List.take_of_length_le (by omega)] at hT
                  clear hk
                  have hCO := Lib.hid (Rd.own hT.out)
                  have hsm := wsame wr _ u19 (ordU U O) (Rd.own hT.out) (hTr3.out.below hB.out) (by have := hCl.out; omega)
                  obtain ⟨AC, cC, rfl, hcC, -, -⟩ := Rd.own hT.out
                  go_wp2_with fail
                  refine hsm.mono ?_
                  rintro e w14 ⟨rfl, hb14⟩
                  have hB14 := Lib.hid (HB13.out _ (Below.next hB.out hB.out.size hb14))
                  have hC14 := Lib.hid (hCO.out.below hb14)
                  obtain ⟨AA, cA, rfl, hcA, -, -⟩ := Rd.own H10.out.all
                  clear hsm hb14 hT hB hCO hTr3
                  by_cases hN0 : (nam ws 5).length = 0
                  · have hU0 : U.length = 0 := by
                      rcases Nat.eq_zero_or_pos U.length with h | h
                      · exact h
                      · have h2 := (HOm.out _).1 (HUs.out _ (List.getElem_mem h))
                        rw [List.eq_nil_of_length_eq_zero hN0] at h2
                        cases h2
                    have n1 : (((nam ws 5).length : Int) == 0) = true := by rw [beq_iff_eq]; omega
                    have n2 : ((U.length : Int) == 0) = true := by rw [beq_iff_eq]; omega
                    clear hN0 hU0
                    go_wp2_with fail
                    go_ret
                    exact ⟨rfl, Hfin.out _ hB14.out⟩
                  · have n1 : (((nam ws 5).length : Int) == 0) = false := by rw [beq_eq_false_iff_ne]; omega
                    have hnp : 0 < (nam ws 5).length := Nat.pos_of_ne_zero hN0
                    have hn0 : (0 : Int) < ((nam ws 5).length : Int) := Int.ofNat_lt.2 hnp
                    obtain ⟨j, hj, hjn⟩ : ∃ j : Nat, dr % ((nam ws 5).length : Int) = (j : Int) ∧ j < (nam ws 5).length := ⟨(dr % ((nam ws 5).length : Int)).toNat, (Int.toNat_of_nonneg (Int.emod_nonneg dr (by omega))).symm, by have h1 := Int.emod_lt_of_pos dr hn0; have h2 := Int.emod_nonneg dr (b := ((nam ws 5).length : Int)) (by omega); omega⟩
                    have h14 := H10.out.below hB14.out
                    obtain ⟨A', c', e', -, -, r'⟩ := Rd.own h14.all
                    cases e'
                    obtain ⟨g, of, rfl, _, x1⟩ := r' (by omega)
                    have t0 : w14.cell? ⟨g, of + j, none⟩ = some (.string (str (nam ws 5)[j])) := x1 j _ (strs_at hjn)
                    have hgN : (nam ws 5)[j] ∈ nam ws 5 := List.getElem_mem hjn
                    have j1 : (0 : Int) ≤ (j : Int) := by omega
                    have j2 : (j : Int) < ((nam ws 5).length : Int) := by omega
                    have n0 : ((nam ws 5).length : Int) ≠ 0 := by omega
                    generalize (nam ws 5)[j] = gn at *
                    have HgN := Lib.hid hgN
                    have hgM := nam_mem (k := 5) (Nat.le_refl _) hgN
                    have hdr := drain_any w14 c m1 m2 n NM S (fun _ => false) gn (by rw [NM_len hgM]; decide) Hn65.out h14.hc
                    have H14 := Lib.hid h14
                    have H10a := Lib.hid (Own.lt h14.all (k := g) rfl)
                    clear x1 r' hgN hgM h14 hnp hn0 hN0
                    go_wp2_with fail
                    refine hdr.mono ?_
                    rintro e w15 ⟨⟨r, rfl⟩, hh15, hk15⟩
                    obtain ⟨es2, cl2, g2⟩ := H14.out.hc.map2
                    have hl14 : Below loc w2 w14 := HB10.out.trans (hB14.out.mono (by have := HB10.out.size; rw [Hloc.out] at this; exact this))
                    have hz14 : loc ≤ w14.heap.size := by have := hl14.size; rw [Hloc.out] at this; exact this
                    have hl15 := Lib.hid (hl14.trans (hk15.toBelow hz14 (fun k e => by rw [e]; exact Hm.out.2)))
                    have hz15 : loc ≤ w15.heap.size := Nat.le_trans hz14 hk15.size
                    have HR15 := Lib.hid (H14.out.ring.map g2 hk15)
                    have HC15 := Lib.hid (Rd.map hC14.out g2 hk15)
                    have HH15 := Lib.hid hh15
                    have Hz15 := Lib.hid hz15
                    have HUg := Lib.hid (HUf.out gn)
                    generalize hDd : upd (fun _ => false) gn true = D at *
                    have HEd15 := Lib.hid (fun W (U' : List Nm) vu' i (hb : Below w15.heap.size w15 W) (hu : Rd W 1 vu' U'.length (strs U')) (hl : U'.length ≤ 1000) => (show Calls Tryz.prog 13 #[.string ⟨#[101, 49]⟩, .pointer (some ⟨loc, 0, none⟩), vu', .string (str key), .slice none 0 0, .int .i64 i] W fun e w' => e = .returned (edW U' (own (ptsOf (nds ws 5)) (Sk.hash 255 key)) i) ∧ Below W.heap.size W w' from edge_wp W loc loc v1 v2 vu' (nds ws 5) key U' i (HR15.out.below hb) hgd.out (nds_len ws (Nat.le_refl _)) Hkey.out hu hl (own5_e1 ws key)))
                    rw [show own (ptsOf (nds ws 5)) (Sk.hash 255 key) = O from HOe.out] at HEd15
                    have HUp15 := Lib.hid (fun W (hb : Below w15.heap.size w15 W) => up_any W c m1 m2 (n + 1) NM S D (HH15.out.below hb) NM_nodup NM_pw NM_short)
                    have Hfin15 := Lib.hid (fun W (hb : Below w15.heap.size w15 W) => hBz.out W (hl15.out.trans (hb.mono Hz15.out)))
                    have hCl5 : (ordU U O).length ≤ 5 := by have := hCl.out; omega
                    have HCe : Hid (ordU (wo gn (ordU U O)) (wo gn O) = wo gn (ordU U O)) := ordU_left gn
                    have HWn : Hid ((wo gn (ordU U O)).Nodup) := (ordU_nodup (U := U) HOn.out).sublist List.filter_sublist
                    have HCn := Lib.hid hCl5
                    have HEw := Lib.hid (fun k (h : k < (wo gn (ordU U O)).length) => edW_wo (U := U) (O := O) h)
                    have HUl5 := Lib.hid (wo_len gn U)
                    have hWl := wo_len gn (ordU U O)
                    clear hdr hh15 hk15 g2 hl14 hz14 hz15 hC14 t0 hB14 hl15 H14
                    generalize ordU U O = C at *
                    go_wp2_with fail
                    go_loopw [41, 292] (fun vr i wq => ∃ k : Nat, i = .int .i64 (k : Int) ∧ k ≤ C.length ∧ Hid (Own wq w15.heap.size 9 1 vr (wo gn (C.take k)).length (strs (wo gn (C.take k)))) ∧ Hid (Below w15.heap.size w15 wq)) (fun _ i _ => C.length - (intOf i).toNat)
                    case atStart => exact ⟨0, rfl, by omega, own_nil _ _ _ _, Below.refl _ _⟩
                    case round =>
                      obtain ⟨k, rfl, hk, hT, hB⟩ := hrel
                      by_cases hlt : k < C.length
                      · obtain ⟨A', c', e', -, -, r'⟩ := HC15.out.below hB.out
                        cases e'
                        obtain ⟨g3, of3, rfl, _, x1⟩ := r' (by omega)
                        have t0 : wr.cell? ⟨g3, of3 + k, none⟩ = some (.string (str C[k])) := x1 k _ (strs_at hlt)
                        have hwt := wo_take (g := gn) hlt
                        have hl5 : (wo gn (C.take k)).length ≤ 5 := by have := wo_len gn (C.take k); rw [List.length_take] at this; omega
                        have k1 : (0 : Int) ≤ (k : Int) := by omega
                        have k2 : (k : Int) < (C.length : Int) := by omega
                        have hz : w15.heap.size ≤ wr.heap.size := hB.out.size
                        clear x1 r'
                        generalize C[k] = y at *
                        generalize wo gn (C.take k) = M at *
                        by_cases hy : y = gn
                        · rw [if_pos hy, List.append_nil] at hwt
                          have hh := Lib.hid hwt
                          have q1 := str_eq hy
                          clear hwt hy
                          go_wp2_with fail
                          go_roundw
                          case rel => exact ⟨k + 1, by go_num, by omega, by rw [hh.out]; exact hT, hB⟩
                          case measure => simp [intOf]; omega
                        · rw [if_neg hy] at hwt
                          have hh := Lib.hid hwt
                          have q1 := str_ne hy
                          clear hwt hy
                          go_wp2_with (at_builtin; refine push_str _ _ rfl rfl rfl hT.out rfl rfl (by omega) hz ?_; intro v8 w8 ho8 hb8; replace ho8 := Lib.hid ho8; have hB8 := Lib.hid (hB.out.trans hb8); clear hb8)
                          go_roundw
                          case rel => exact ⟨k + 1, by go_num, by omega, by rw [hh.out, strs_snoc, List.length_append, List.length_singleton]; exact ho8, hB8⟩
                          case measure => simp [intOf]; omega
                      · have hlt2 : ¬ (k : Int) < (C.length : Int) := by omega
                        rw [List.take_of_length_le (by omega)] at hT
                        clear hk
                        have HR16 := Lib.hid (Rd.own hT.out)
                        obtain ⟨AR, cR, rfl, hcR, -, -⟩ := Rd.own hT.out
                        have hR5 : (wo gn C).length ≤ 5 := by omega
                        have hPl := wo_len gn O
                        generalize wo gn C = R at *
                        go_wp2_with fail
                        go_loopw [306] (fun i wq => ∃ k : Nat, i = .int .i64 (k : Int) ∧ k ≤ R.length ∧ Hid (Own wq w15.heap.size 9 1 (.slice AR R.length cR) R.length (strs R)) ∧ Hid (Below w15.heap.size w15 wq)) (fun i _ => R.length - (intOf i).toNat)
                        case atStart => exact ⟨0, rfl, by omega, hT, hB⟩
                        case round =>
                          clear hT hB HR16
                          obtain ⟨k, rfl, hk, hT, hB⟩ := hrel
                          by_cases hlt : k < R.length
                          · obtain ⟨A', c', e', -, -, r'⟩ := Rd.own hT.out
                            cases e'
                            obtain ⟨g4, of4, rfl, _, x1⟩ := r' (by omega)
                            have t0 : wr.cell? ⟨g4, of4 + k, none⟩ = some (.string (str R[k])) := x1 k _ (strs_at hlt)
                            have hup := HUp15.out wr hB.out
                            rw [HUg.out] at hup
                            have hew := HEw.out k hlt
                            have hw5 := HUl5.out
                            have k1 : (0 : Int) ≤ (k : Int) := by omega
                            have k2 : (k : Int) < (R.length : Int) := by omega
                            have hw6 : (wo gn U).length ≤ 1000 := by omega
                            have q1 := str_eq (rfl : R[k] = R[k])
                            clear x1 r'
                            generalize R[k] = y at *
                            go_wp2_with fail
                            refine hup.mono ?_
                            rintro e w17 ⟨v, rfl, ho17, hb17⟩
                            have hB17 := Lib.hid (Below.next hB.out hB.out.size hb17)
                            have hT17 := Lib.hid (own_below hT.out hb17)
                            have hed := HEd15.out w17 (wo gn U) v (k : Int) hB17.out (Rd.own ho17) hw6
                            rw [hew] at hed
                            clear hup ho17 hb17 hB hT t0 hew
                            go_wp2_with fail
                            refine hed.mono ?_
                            rintro e w18 ⟨rfl, hb18⟩
                            have hB18 := Lib.hid (Below.next hB17.out hB17.out.size hb18)
                            have hT18 := Lib.hid (own_below hT17.out hb18)
                            clear hed hb18 hB17 hT17
                            go_wp2_with fail
                            go_roundw
                            case rel => exact ⟨k + 1, by go_num, by omega, hT18, hB18⟩
                            case measure => simp [intOf]; omega
                          · have hlt2 : ¬ (k : Int) < (R.length : Int) := by omega
                            have hrg := HR15.out.below hB.out
                            have hrem := wrem_any wr loc v1 v2 (nds ws 5) gn hrg hgd.out (nds_len ws (Nat.le_refl _)) HgN.out
                            have hzr : loc ≤ wr.heap.size := Nat.le_trans Hz15.out hB.out.size
                            have Hrg := Lib.hid hrg
                            clear hk hrg
                            go_wp2_with fail
                            refine hrem.mono ?_
                            rintro e w19 ⟨rfl, hk19, v1', v2', hr19⟩
                            have hT19 : Hid (Own w19 w15.heap.size 9 1 (.slice AR R.length cR) R.length (strs R)) := hT.out.kp (fun k hk' hF => by
                              rcases hF with rfl | hF | hF
                              · exact Own.ne hT.out Hrg.out.blk (by decide) hk'
                              · have h1 := Own.lt HR15.out.nodes hF
                                have h2 := (World.ownsRow.lt hT.out k hk').1
                                omega
                              · exact Own.apart hT.out Hrg.out.points (by decide) hk' hF) hk19
                            have hf19 := (Hfin15.out wr hB.out).trans ((Hrg.out.frame hzr hk19).mono (Nat.le_of_lt Hlo.out))
                            have Hfin19 := Lib.hid (fun W (hb : Below w19.heap.size w19 W) => Below.next hf19 hf19.size hb)
                            have hgo := good_off hgd.out gn
                            have hgl : (woN gn (nds ws 5)).length ≤ 5 := Nat.le_trans (woN_len _ _) (nds_len ws (Nat.le_refl _))
                            have how := owners_any w19 loc loc v1' v2' _ _ key 5 hr19 (srt_srt _) hgo.sub (by rw [hgo.len]; omega) (by have := hgo.plen; omega) Hkey.out (by decide)
                            rw [hgo.owners_all _ 5 (by omega), show own (ptsOf (woN gn (nds ws 5))) (Sk.hash 255 key) = wo gn O from HOf.out gn] at how
                            clear hrem hk19 hr19 hf19 hgo hgl hT hB Hrg hzr
                            have hP5 : (wo gn O).length ≤ 5 := by omega
                            generalize wo gn O = P at *
                            go_wp2_with fail
                            refine how.mono ?_
                            rintro e w20 ⟨o, rfl, ho20, hb20⟩
                            have hT20 := Lib.hid (own_below hT19.out hb20)
                            have Hfin20 := Lib.hid (fun W (hb : Below w20.heap.size w20 W) => Hfin19.out W (Below.next hb20 hb20.size hb))
                            have HO20 := Lib.hid (Rd.own ho20)
                            obtain ⟨Aq, cq, rfl, hcq, -, -⟩ := Rd.own ho20
                            clear how ho20 hb20 hT19
                            go_wp2_with fail
                            go_loopw [48, 336] (fun vo i wq => ∃ k : Nat, i = .int .i64 (k : Int) ∧ k ≤ P.length ∧ Hid (Own wq w20.heap.size 9 1 vo (ordU R (P.take k)).length (strs (ordU R (P.take k)))) ∧ Hid (Below w20.heap.size w20 wq)) (fun _ i _ => P.length - (intOf i).toNat)
                            case atStart => exact ⟨0, rfl, by omega, own_nil _ _ _ _, Below.refl _ _⟩
                            case round =>
                              obtain ⟨k, rfl, hk, hT, hB⟩ := hrel
                              by_cases hlt : k < P.length
                              · obtain ⟨A', c', e', -, -, r'⟩ := HO20.out.below hB.out
                                cases e'
                                obtain ⟨g, of, rfl, _, x1⟩ := r' (by omega)
                                have t0 : wr.cell? ⟨g, of + k, none⟩ = some (.string (str P[k])) := x1 k _ (strs_at hlt)
                                have Hmore := Lib.hid (more_all (U := R) hlt)
                                have hl5 : (ordU R (P.take k)).length ≤ 5 := by have := ordU_len R (P.take k); rw [List.length_take] at this; omega
                                have hml := Lib.hid (fun j => more_len (ordU R (P.take k)) R P[k] j)
                                have h0 := more_zero (ordU R (P.take k)) R P[k]
                                rw [← h0] at hT
                                have k1 : (0 : Int) ≤ (k : Int) := by omega
                                have k2 : (k : Int) < (P.length : Int) := by omega
                                clear x1 r' h0
                                generalize P[k] = x at *
                                generalize ordU R (P.take k) = l at *
                                go_wp2_with fail
                                go_loopw [48, 342] (fun vo i wq => ∃ j : Nat, i = .int .i64 (j : Int) ∧ j ≤ R.length ∧ Hid (Own wq w20.heap.size 9 1 vo (more l R x j).length (strs (more l R x j))) ∧ Hid (Below w20.heap.size w20 wq)) (fun _ i _ => R.length - (intOf i).toNat)
                                case atStart => exact ⟨0, rfl, by omega, hT, hB⟩
                                case round =>
                                  clear hT hB t0
                                  obtain ⟨j, rfl, hj, hT, hB⟩ := hrel
                                  by_cases hju : j < R.length
                                  · obtain ⟨A', c', e', -, -, r'⟩ := (Rd.own hT20.out).below hB.out
                                    cases e'
                                    obtain ⟨g2, of2, rfl, _, x1⟩ := r' (by omega)
                                    have t0 : wr.cell? ⟨g2, of2 + j, none⟩ = some (.string (str R[j])) := x1 j _ (strs_at hju)
                                    have j1 : (0 : Int) ≤ (j : Int) := by omega
                                    have j2 : (j : Int) < (R.length : Int) := by omega
                                    have hm6 := hml.out j
                                    by_cases hy : R[j] = x
                                    · have hh := Lib.hid (more_hit (l := l) HWn.out hju hy)
                                      rw [hy] at t0
                                      have q1 := str_eq (rfl : x = x)
                                      have hz : w20.heap.size ≤ wr.heap.size := hB.out.size
                                      clear x1 r' hy
                                      generalize more l R x j = M at *
                                      go_wp2_with (at_builtin; refine push_str _ _ rfl rfl rfl hT.out rfl rfl (by omega) hz ?_; intro v8 w8 ho8 hb8; replace ho8 := Lib.hid ho8; have hB8 := Lib.hid (hB.out.trans hb8); clear hb8)
                                      go_roundw
                                      case rel => exact ⟨j + 1, by go_num, by omega, by rw [hh.out, strs_snoc, List.length_append, List.length_singleton]; exact ho8, hB8⟩
                                      case measure => simp [intOf]; omega
                                    · have hh := Lib.hid (more_miss (l := l) hju hy)
                                      have q1 := str_ne hy
                                      clear x1 r'
                                      generalize R[j] = y at *
                                      generalize more l R x j = M at *
                                      clear hy
                                      go_wp2_with fail
                                      go_roundw
                                      case rel => exact ⟨j + 1, by go_num, by omega, by rw [hh.out]; exact hT, hB⟩
                                      case measure => simp [intOf]; omega
                                  · have hju2 : ¬ (j : Int) < (R.length : Int) := by omega
                                    have hje : j = R.length := by omega
                                    rw [hje, Hmore.out] at hT
                                    clear hj
                                    go_wp2_with fail
                                    go_roundw
                                    case rel => exact ⟨k + 1, by go_num, by omega, hT, hB⟩
                                    case measure => simp [intOf]; omega
                              · have hlt2 : ¬ (k : Int) < (P.length : Int) := by omega
                                rw [List.take_of_length_le (by omega)] at hT
                                clear hk
                                rw [HCe.out] at hT
                                have hsm := wsame wr _ (.slice AR R.length cR) R (Rd.own hT.out) ((Rd.own hT20.out).below hB.out) (by omega)
                                have hBf := Lib.hid hB.out
                                obtain ⟨AL, cL, rfl, hcL, -, -⟩ := Rd.own hT.out
                                go_wp2_with fail
                                refine hsm.mono ?_
                                rintro e w21 ⟨rfl, hb21⟩
                                have hF := Lib.hid (Hfin20.out _ (Below.next hBf.out hBf.out.size hb21))
                                clear hsm hb21
                                go_wp2_with fail
                                go_ret
                                exact ⟨rfl, hF.out⟩
end Go.Proofs.YtpfpjcfacbfjaaaGreatDoor
