/-
  Layer 7: the document's Last.
-/
import Derived.Test.YtbegpdhkjfdjbaaDoorCLast
import Derived.Test.YtbegpdhkjfdjbaaDoorCRLine
namespace Go.Proofs.YtbegpdhkjfdjbaaDoor
open Go.RowKit Syn Ck

namespace Ck
/-- What the document's Last leaves. -/
def RLastR (w : World) (l : List (List UInt8 × List UInt8)) (e : Ending) (w' : World) : Prop :=
  ∃ o, e = .returned (.tuple #[o, .bool (okL l && fitL l)]) ∧ ((okL l && fitL l) = true → OwnM w' w.heap.size o (lastB l)) ∧ Below w.heap.size w w'
theorem RLastR.bad {w w' : World} {l : List (List UInt8 × List UInt8)} (h : (okL l && fitL l) = false) (hb : Below w.heap.size w w') : RLastR w l (.returned (.tuple #[.slice none 0 0, .bool false])) w' :=
  ⟨.slice none 0 0, by rw [h], (fun e => by rw [h] at e; cases e), hb⟩
theorem RLastR.good {w w' : World} {l : List (List UInt8 × List UInt8)} {o : Value} {b : Bool} (h : (okL l && fitL l) = b) (ho : OwnM w' w.heap.size o (lastB l)) (hb : Below w.heap.size w w') : RLastR w l (.returned (.tuple #[o, .bool b])) w' :=
  ⟨o, by rw [h], fun _ => ho, hb⟩
end Ck
set_option maxRecDepth 100000 in
set_option maxHeartbeats 16000000 in
theorem rlast_any (l : List (List UInt8 × List UInt8)) (v : Value) (w : World) (hR : Rd w 2 v l.length (prs l)) (hs : ∀ p ∈ l, p.1.length ≤ 100000 ∧ p.2.length ≤ 100000) (hm : l.length ≤ 100) :
    Calls Tryd.prog 26 #[v] w (RLastR w l) := by
  obtain ⟨A, cap, rfl, hcap, -, -⟩ := id hR
  replace hR := Lib.hid hR
  replace hs := Lib.hid hs
  go_enter Tryd.func26, Tryd.ntmps26
  go_wp2
  go_loopw [4, 5] (fun t i wr => ∃ k : Nat, i = .int .i64 (k : Int) ∧ k ≤ l.length ∧ t = .string (str (txt (l.take k))) ∧ Hid (okL (l.take k) = true) ∧ Hid (Below w.heap.size w wr)) (fun _ i _ => l.length - (intOf i).toNat)
  case atStart => exact ⟨0, rfl, by omega, rfl, Lib.hid rfl, Below.refl _ _⟩
  case round =>
    obtain ⟨k, rfl, hk, rfl, hok, hB⟩ := hrel
    have hBs := hB.out.size
    have hlx := txt_len (l.take k) hok.out
    rw [List.length_take, Nat.min_eq_left hk] at hlx
    by_cases hlt : k < l.length
    · obtain ⟨A', cap', e', -, -, r'⟩ := hR.out
      cases e'
      obtain ⟨b1, o1, rfl, hb1, x1⟩ := r' (by omega)
      have hd : Hid (∀ w', Below w.heap.size w w' → w'.cell? ⟨b1, o1 + k * 2, none⟩ = some (.string (str l[k].1)) ∧ w'.cell? ⟨b1, o1 + k * 2 + 1, none⟩ = some (.string (str l[k].2))) :=
        Lib.hid (fun w' hb => ⟨by rw [hb.cell (p := ⟨b1, o1 + k * 2, none⟩) hb1]; exact x1 _ _ (prs_at0 hlt), by rw [hb.cell (p := ⟨b1, o1 + k * 2 + 1, none⟩) hb1]; exact x1 _ _ (prs_at1 hlt)⟩)
      obtain ⟨d1, -⟩ := hd.out wr hB.out
      have hsz := hs.out l[k] (List.getElem_mem hlt)
      have hokT := okL_take hlt
      have hokN := okL_no hlt
      have htx := txt_take hlt
      rw [hok.out, Bool.true_and] at hokT
      generalize l[k] = p at *
      obtain ⟨nm, vl⟩ := p
      simp only at d1 hd hsz
      clear x1 r'
      have hokI := okF_iff nm vl
      have hN := r2name_any (str nm) wr (by rw [str_size]; omega)
      have hV := fun w => r2value_any (str vl) w (by rw [str_size]; omega)
      rw [bs_str] at hN
      simp only [bs_str] at hV
      have hO := fun w => rforbidden_any (nmV nm) w
      have hnl := nmV_len nm
      replace hV := Lib.hid hV
      replace hO := Lib.hid hO
      replace htx := Lib.hid htx
      replace hokT := Lib.hid hokT
      have hbad : ¬ okF (nm, vl) = true → (okL l && fitL l) = false := fun h => by rw [hokN (by simpa using h)]; rfl
      rw [hokI] at hbad
      replace hbad := Lib.hid hbad
      clear hokN
      by_cases k1 : nmE nm = 0
      · have hO0 := hO.out
        have q1 : ((nmE nm : Int) != 0) = false := by rw [k1]; rfl
        by_cases k2 : vlE vl = 0
        · have q2 : ((vlE vl : Int) != 0) = false := by rw [k2]; rfl
          by_cases k4 : vlV vl = vl
          · have hV3 := hV.out
            rw [k4] at hV3
            clear hV
            have hV := Lib.hid hV3
            clear hV3
            have qs := str_eq (a := vl) (b := vl) rfl
            cases k3 : forb (nmV nm) with
            | true =>
              have hb9 := Lib.hid (hbad.out (fun h => by rw [h.2.2.2] at k3; cases k3))
              rw [k3] at hO0
              clear hO
              have hO := Lib.hid hO0
              clear hO0
              replace k1 := Lib.hid k1
              replace k2 := Lib.hid k2
              replace k3 := Lib.hid k3
              replace k4 := Lib.hid k4
              replace hN := Lib.hid hN
              clear hbad hokI
              generalize nmE nm = n1 at *
              generalize vlE vl = n2 at *
              generalize str (nmV nm) = s1 at *
              generalize str vl = s2 at *
              go_wp2_with fail
              refine hN.out.mono ?_
              rintro e w3 ⟨rfl, hb3⟩
              have hB3 := Lib.hid (Below.next hB.out hBs hb3)
              obtain ⟨-, d3⟩ := hd.out w3 hB3.out
              clear hb3
              go_wp2_with fail
              refine (hV.out _).mono ?_
              rintro e w5 ⟨rfl, hb5⟩
              have hB5 := Lib.hid (Below.next hB3.out hB3.out.size hb5)
              obtain ⟨-, d5⟩ := hd.out w5 hB5.out
              clear hb5 d3
              go_wp2_with fail
              refine (hO.out _).mono ?_
              rintro e w6 ⟨rfl, hb6⟩
              have hB6 := Lib.hid (Below.next hB5.out hB5.out.size hb6)
              clear hb6
              go_wp2
              go_ret2
              exact RLastR.bad hb9.out hB6.out
            | false =>
              have hof : okF (nm, vl) = true := hokI.2 ⟨k1, k2, k4, k3⟩
              have hok2 := Lib.hid (hokT.out.trans hof)
              rw [k3] at hO0
              clear hO
              have hO := Lib.hid hO0
              clear hO0
              have hfl := fl_len hof
              have e : str (txt (l.take k)) ++ (str (nmV nm) ++ (⟨#[58, 32]⟩ : ByteArray) ++ str vl ++ (⟨#[13, 10]⟩ : ByteArray)) = str (txt (l.take (k + 1))) := by
                rw [show (⟨#[58, 32]⟩ : ByteArray) = str [58, 32] from rfl, show (⟨#[13, 10]⟩ : ByteArray) = str [13, 10] from rfl, str_append, str_append, str_append, str_append, htx.out]
                rfl
              have z1 : (str (nmV nm)).size ≤ 64 := by rw [str_size]; exact hnl
              have z2 : (str vl).size ≤ 100000 := by rw [str_size]; exact hsz.2
              have z3 : (str (txt (l.take k))).size ≤ 1000000 := by rw [str_size]; omega
              replace e := Lib.hid e
              replace hof := Lib.hid hof
              replace k1 := Lib.hid k1
              replace k2 := Lib.hid k2
              replace k3 := Lib.hid k3
              replace k4 := Lib.hid k4
              replace hN := Lib.hid hN
              clear hbad hokI
              generalize nmE nm = n1 at *
              generalize vlE vl = n2 at *
              generalize str (nmV nm) = s1 at *
              generalize str vl = s2 at *
              generalize str (txt (l.take k)) = s3 at *
              go_wp2_with fail
              refine hN.out.mono ?_
              rintro e w3 ⟨rfl, hb3⟩
              have hB3 := Lib.hid (Below.next hB.out hBs hb3)
              obtain ⟨-, d3⟩ := hd.out w3 hB3.out
              clear hb3
              go_wp2_with fail
              refine (hV.out _).mono ?_
              rintro e w5 ⟨rfl, hb5⟩
              have hB5 := Lib.hid (Below.next hB3.out hB3.out.size hb5)
              obtain ⟨-, d5⟩ := hd.out w5 hB5.out
              clear hb5 d3
              go_wp2_with fail
              refine (hO.out _).mono ?_
              rintro e w6 ⟨rfl, hb6⟩
              have hB6 := Lib.hid (Below.next hB5.out hB5.out.size hb6)
              clear hb6
              go_wp2
              go_roundw
              case rel => exact ⟨k + 1, by go_num, by omega, by rw [← e.out], hok2, hB6⟩
              case measure => simp only [intOf]; omega
          · have hb9 := Lib.hid (hbad.out (fun h => k4 h.2.2.1))
            have qs := str_ne k4
            replace k1 := Lib.hid k1
            replace k2 := Lib.hid k2
            replace k4 := Lib.hid k4
            replace hN := Lib.hid hN
            clear hbad hokI hO0 hO
            generalize nmE nm = n1 at *
            generalize vlE vl = n2 at *
            generalize str (nmV nm) = s1 at *
            generalize str (vlV vl) = s3 at *
            generalize str vl = s2 at *
            go_wp2_with fail
            refine hN.out.mono ?_
            rintro e w3 ⟨rfl, hb3⟩
            have hB3 := Lib.hid (Below.next hB.out hBs hb3)
            obtain ⟨-, d3⟩ := hd.out w3 hB3.out
            clear hb3
            go_wp2_with fail
            refine (hV.out _).mono ?_
            rintro e w5 ⟨rfl, hb5⟩
            have hB5 := Lib.hid (Below.next hB3.out hB3.out.size hb5)
            obtain ⟨-, d5⟩ := hd.out w5 hB5.out
            clear hb5 d3
            go_wp2
            go_ret2
            exact RLastR.bad hb9.out hB5.out
        · have hb9 := Lib.hid (hbad.out (fun h => k2 h.2.1))
          have q2 : ((vlE vl : Int) != 0) = true := by rw [bne_iff_ne]; exact k2
          replace k1 := Lib.hid k1
          replace k2 := Lib.hid k2
          replace hN := Lib.hid hN
          clear hbad hokI hO0 hO
          generalize nmE nm = n1 at *
          generalize vlE vl = n2 at *
          generalize str (nmV nm) = s1 at *
          generalize str (vlV vl) = s3 at *
          generalize str vl = s2 at *
          go_wp2_with fail
          refine hN.out.mono ?_
          rintro e w3 ⟨rfl, hb3⟩
          have hB3 := Lib.hid (Below.next hB.out hBs hb3)
          obtain ⟨-, d3⟩ := hd.out w3 hB3.out
          clear hb3
          go_wp2_with fail
          refine (hV.out _).mono ?_
          rintro e w5 ⟨rfl, hb5⟩
          have hB5 := Lib.hid (Below.next hB3.out hB3.out.size hb5)
          clear hb5 d3
          go_wp2
          go_ret2
          exact RLastR.bad hb9.out hB5.out
      · have hb9 := Lib.hid (hbad.out (fun h => k1 h.1))
        have q1 : ((nmE nm : Int) != 0) = true := by rw [bne_iff_ne]; exact k1
        replace k1 := Lib.hid k1
        replace hN := Lib.hid hN
        clear hbad hokI hO
        generalize nmE nm = n1 at *
        generalize vlE vl = n2 at *
        generalize str (nmV nm) = s1 at *
        generalize str (vlV vl) = s3 at *
        generalize str vl = s2 at *
        go_wp2_with fail
        refine hN.out.mono ?_
        rintro e w3 ⟨rfl, hb3⟩
        have hB3 := Lib.hid (Below.next hB.out hBs hb3)
        obtain ⟨-, d3⟩ := hd.out w3 hB3.out
        clear hb3
        go_wp2_with fail
        refine (hV.out _).mono ?_
        rintro e w5 ⟨rfl, hb5⟩
        have hB5 := Lib.hid (Below.next hB3.out hB3.out.size hb5)
        clear hb5 d3
        go_wp2
        go_ret2
        exact RLastR.bad hb9.out hB5.out
    · obtain rfl : k = l.length := by omega
      rw [List.take_length] at hok hlx ⊢
      obtain ⟨T, hT⟩ : ∃ T, txt l ++ [13, 10] = T := ⟨_, rfl⟩
      have hTl : T.length = (txt l).length + 2 := by rw [← hT]; simp
      have hTb : T.length ≤ 300000 := by omega
      have hlast : lastB l = [48, 13, 10] ++ T := by unfold lastB; rw [hT]
      have hfit : (okL l && fitL l) = (decide (T.length ≤ 8192) && decide (l.length ≤ 64)) := by rw [hok.out, Bool.true_and]; unfold fitL; rw [hTl]
      have e1 : str (txt l) ++ (⟨#[13, 10]⟩ : ByteArray) = str T := by rw [← hT, ← str_append]; rfl
      have z0 : (str (txt l)).size ≤ 1000000 := by rw [str_size]; omega
      have z1 : (str T).size = T.length := str_size T
      have kc := Lib.run_convert_string_bytes (P := Tryd.prog) wr 9 30 5 ((⟨#[48, 13, 10]⟩ : ByteArray) ++ str T) Tryd.underlying9 Tryd.underlying30 Tryd.underlying5
      have hcv := (OwnM.conv wr ([48, 13, 10] ++ T)).base hBs
      have hcb := Below.next hB.out hBs (conv_below wr ([48, 13, 10] ++ T))
      have e3 : str ([48, 13, 10] ++ T) = (⟨#[48, 13, 10]⟩ : ByteArray) ++ str T := by rw [← str_append]; rfl
      have e4 : ([48, 13, 10] ++ T).length = 3 + T.length := by simp; omega
      have e5 : ((⟨#[48, 13, 10]⟩ : ByteArray) ++ str T).size = 3 + T.length := by rw [← e3, str_size, e4]
      rw [e5] at kc
      rw [e3, e4] at hcv
      replace e5 := Lib.hid e5
      rw [e3] at hcb
      replace hT := Lib.hid hT
      replace hTl := Lib.hid hTl
      replace hlast := Lib.hid hlast
      replace hfit := Lib.hid hfit
      replace e3 := Lib.hid e3
      replace e4 := Lib.hid e4
      replace hcv := Lib.hid hcv
      replace hcb := Lib.hid hcb
      generalize str (txt l) = s1 at *
      generalize str T = sT at *
      by_cases h8 : T.length ≤ 8192
      · by_cases h6 : l.length ≤ 64
        · have hres := Lib.hid (show (okL l && fitL l) = true by rw [hfit.out, decide_eq_true h8, decide_eq_true h6]; rfl)
          have q6 : (l.length : Int) ≤ 64 := by omega
          have q8 : (T.length : Int) ≤ 8192 := by omega
          go_wp2
          go_ret2
          exact RLastR.good hres.out (by rw [hlast.out]; exact hcv.out) hcb.out
        · have hres := Lib.hid (show (okL l && fitL l) = false by rw [hfit.out, decide_eq_false h6, Bool.and_false])
          have q6 : ¬ (l.length : Int) ≤ 64 := by omega
          have q8 : (T.length : Int) ≤ 8192 := by omega
          go_wp2
          go_ret2
          exact RLastR.good hres.out (by rw [hlast.out]; exact hcv.out) hcb.out
      · have hres := Lib.hid (show (okL l && fitL l) = false by rw [hfit.out, decide_eq_false h8, Bool.false_and])
        have q8 : ¬ (T.length : Int) ≤ 8192 := by omega
        go_wp2
        go_ret2
        exact RLastR.good hres.out (by rw [hlast.out]; exact hcv.out) hcb.out
end Go.Proofs.YtbegpdhkjfdjbaaDoor
