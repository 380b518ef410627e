/-
  Layer 7: Last.
-/
import Derived.Test.YtbegpdhkjfdjbaaDoorCLastS
import Derived.Test.YtbegpdhkjfdjbaaDoorCBld
import Derived.Test.YtbegpdhkjfdjbaaDoorCField
import Derived.Test.YtbegpdhkjfdjbaaDoorCStp
namespace Go.Proofs.YtbegpdhkjfdjbaaDoor
open Go.RowKit Syn Ck

namespace Ck
/-- What Last leaves. -/
def LastR (w : World) (l : List (List UInt8 × List UInt8)) (e : Ending) (w' : World) : Prop :=
  ∃ o, e = .returned (.tuple #[o, errV (if (okL l && fitL l) = true then 0 else 34)]) ∧ OwnM w' w.heap.size o (if (okL l && fitL l) = true then lastB l else []) ∧ Below w.heap.size w w'
theorem LastR.bad {w w' : World} {l : List (List UInt8 × List UInt8)} (h : (okL l && fitL l) = false) (hb : Below w.heap.size w w') : LastR w l (.returned (.tuple #[.slice none 0 0, .iface 46 (.int .i64 34)])) w' :=
  ⟨.slice none 0 0, by rw [h]; rfl, by rw [h]; exact .inl ⟨rfl, rfl⟩, hb⟩
theorem LastR.good {w w' : World} {l : List (List UInt8 × List UInt8)} {o : Value} (h : (okL l && fitL l) = true) (ho : OwnM w' w.heap.size o (lastB l)) (hb : Below w.heap.size w w') : LastR w l (.returned (.tuple #[o, .nilIface])) w' :=
  ⟨o, by rw [h]; rfl, by rw [h]; exact ho, hb⟩
theorem okF_iff (n v : List UInt8) : okF (n, v) = true ↔ nmE n = 0 ∧ vlE v = 0 ∧ vlV v = v ∧ forb (nmV n) = false := by
  unfold okF; simp [Bool.and_eq_true]
theorem Bld.below {w w' : World} {B b : Nat} {l : List UInt8} (h : Bld w B b l) (hb : Below w.heap.size w w') : Bld w' B b l := by
  have : ∀ p, Lib.BuilderAt 78 5 B b p (Lib.byteCells l) w → Lib.BuilderAt 78 5 B b p (Lib.byteCells l) w' := fun p ⟨h1, v, h2, h3, h4⟩ => ⟨h1, v, (hb.block b (Blk.lt (t := 78) (cs := #[p, v]) h2)).trans h2, own_below h3 hb, h4⟩
  exact h.imp (this _) (this _)
theorem Bld.drew {w : World} {B b : Nat} {l : List UInt8} (h : Bld w B b l) : Bld w.drew B b l := h
end Ck
set_option maxRecDepth 100000 in
set_option maxHeartbeats 16000000 in
theorem last_any (l : List (List UInt8 × List UInt8)) (v : Value) (w : World) (hR : Rd w 2 v l.length (prs l)) (hs : ∀ p ∈ l, p.1.length ≤ 100000 ∧ p.2.length ≤ 100000) (hm : l.length ≤ 140737488355328) :
    Calls Tryd.prog 27 #[v] w (LastR w l) := by
  obtain ⟨A, cap, rfl, hcap, -, -⟩ := id hR
  by_cases h64 : 64 < l.length
  · have hf : (okL l && fitL l) = false := by unfold fitL; rw [decide_eq_false (p := l.length ≤ 64) (by omega)]; simp
    replace hR := Lib.hid hR
    replace hs := Lib.hid hs
    replace hf := Lib.hid hf
    go_enter Tryd.func27, Tryd.ntmps27
    go_wp2
    go_ret2
    exact LastR.bad hf.out (Below.refl _ _)
  · have hBw := Bld.new w
    have hB0 := (Below.refl w.heap.size w).alloc (Nat.le_refl _) (.cells #[.pointer none, .slice none 0 0] 78)
    replace hR := Lib.hid hR
    replace hs := Lib.hid hs
    replace hBw := Lib.hid hBw
    replace hB0 := Lib.hid hB0
    go_enter Tryd.func27, Tryd.ntmps27
    go_wp2
    go_loopw [16] (fun i wr => ∃ k : Nat, i = .int .i64 (k : Int) ∧ k ≤ l.length ∧ Hid (okL (l.take k) = true) ∧ Hid (Bld wr w.heap.size w.heap.size (txt (l.take k))) ∧ Hid (Below w.heap.size w wr)) (fun i _ => l.length - (intOf i).toNat)
    case atStart => exact ⟨0, rfl, by omega, Lib.hid rfl, hBw, hB0⟩
    case round =>
      clear hBw hB0
      obtain ⟨k, rfl, hk, hok, hbl, hB⟩ := hrel
      have hBs := hB.out.size
      by_cases hlt : k < l.length
      · obtain ⟨A', cap', e', -, -, r'⟩ := hR.out.below hB.out
        cases e'
        obtain ⟨b1, o1, rfl, hb1, x1⟩ := r' (by omega)
        have d1 : wr.cell? ⟨b1, o1 + k * 2, none⟩ = some (.string (str l[k].1)) := x1 _ _ (prs_at0 hlt)
        have d2 : wr.cell? ⟨b1, o1 + k * 2 + 1, none⟩ = some (.string (str l[k].2)) := x1 _ _ (prs_at1 hlt)
        have hsz := hs.out l[k] (List.getElem_mem hlt)
        have hokT := okL_take hlt
        have hokN := okL_no hlt
        have htx := txt_take hlt
        rw [hok.out, Bool.true_and] at hokT
        have hlx := txt_len (l.take k) hok.out
        rw [List.length_take, Nat.min_eq_left hk] at hlx
        generalize l[k] = p at *
        obtain ⟨nm, vl⟩ := p
        simp only at d1 d2 hsz
        clear x1 r'
        have hokI := okF_iff nm vl
        have hN := fname_any (str nm) (wr.alloc (.cells #[.string (str nm), .string (str vl)] 64)) (by rw [str_size]; omega)
        have hV := fun w => fvalue_any (str vl) w (by rw [str_size]; omega)
        rw [bs_str] at hN
        simp only [bs_str] at hV
        have hO := fun w => forbidden_any (nmV nm) w
        have hnl := nmV_len nm
        have hA1 := hB.out.alloc hBs (.cells #[.string (str nm), .string (str vl)] 64)
        have hbl1 := hbl.out.below ((Below.refl _ _).alloc (Nat.le_refl _) (.cells #[.string (str nm), .string (str vl)] 64))
        have hF1 := Blk.new wr 64 #[.string (str nm), .string (str vl)]
        replace hA1 := Lib.hid hA1
        replace hbl1 := Lib.hid hbl1
        replace hF1 := Lib.hid hF1
        replace hV := Lib.hid hV
        replace hO := Lib.hid hO
        replace htx := Lib.hid htx
        replace hokT := Lib.hid hokT
        have hbad : ¬ okF (nm, vl) = true → (okL l && fitL l) = false := fun h => by rw [hokN (by simpa using h)]; rfl
        rw [hokI] at hbad
        replace hbad := Lib.hid hbad
        clear hokN
        by_cases k1 : nmE nm = 0
        · rw [k1, errV_zero] at hN
          by_cases k3 : forb (nmV nm) = true
          · have hb9 := hbad.out (fun h => by rw [h.2.2.2] at k3; cases k3)
            have hO3 : ∀ w, Calls Tryd.prog 40 #[.string (str (nmV nm))] w fun e w' => e = .returned (.bool true) ∧ w' = w := by rw [← k3]; exact hO.out
            clear hO
            have hO := Lib.hid hO3
            clear hO3
            replace hb9 := Lib.hid hb9
            replace k1 := Lib.hid k1
            replace k3 := Lib.hid k3
            replace hN := Lib.hid hN
            clear hbad hokI
            generalize str (nmV nm) = s1 at *
            go_wp2_with fail
            refine hN.out.mono ?_
            rintro e w3 ⟨rfl, hb3⟩
            have hB3 := Lib.hid (Below.next hA1.out hA1.out.size hb3)
            have hF3 := hF1.out.below hb3
            have d3 := hF3.cell 1
            replace hF3 := Lib.hid hF3
            have hbl3 := Lib.hid (hbl1.out.below hb3)
            clear hb3
            go_wp2_with fail
            refine (hO.out _).mono ?_
            rintro e w4 ⟨rfl, rfl⟩
            go_wp2
            go_ret2
            exact LastR.bad hb9.out hB3.out
          · rw [Bool.not_eq_true] at k3
            have hO3 : ∀ w, Calls Tryd.prog 40 #[.string (str (nmV nm))] w fun e w' => e = .returned (.bool false) ∧ w' = w := by rw [← k3]; exact hO.out
            clear hO
            have hO := Lib.hid hO3
            clear hO3
            by_cases k2 : vlE vl = 0
            · by_cases k4 : vlV vl = vl
              · have hof : okF (nm, vl) = true := hokI.2 ⟨k1, k2, k4, k3⟩
                have hV3 := hV.out
                rw [k2, errV_zero, k4] at hV3
                clear hV
                have hV := Lib.hid hV3
                clear hV3
                have hok2 := Lib.hid (hokT.out.trans hof)
                have qs := str_eq (a := vl) (b := vl) rfl
                have hW : ∀ w', Bld w' w.heap.size w.heap.size (txt (l.take k)) → w.heap.size ≤ w'.heap.size → Calls Tryd.prog 42 #[.pointer (some ⟨w.heap.size, 0, none⟩), .string (str (nmV nm) ++ ⟨#[58, 32]⟩ ++ str vl ++ ⟨#[13, 10]⟩)] w' fun e w'' =>
                    e = .returned (.tuple #[.int .i64 ((fl (nm, vl)).length : Int), .nilIface]) ∧ Bld w'' w.heap.size w.heap.size (txt (l.take (k + 1))) ∧ Below w.heap.size w' w'' := fun w' hb hl => by
                  have e : str (nmV nm) ++ (⟨#[58, 32]⟩ : ByteArray) ++ str vl ++ (⟨#[13, 10]⟩ : ByteArray) = str (fl (nm, vl)) := by
                    rw [show (⟨#[58, 32]⟩ : ByteArray) = str [58, 32] from rfl, show (⟨#[13, 10]⟩ : ByteArray) = str [13, 10] from rfl, str_append, str_append, str_append]
                    rfl
                  rw [e, htx.out]
                  have hfl := fl_len hof
                  exact bwrite_any hb (by omega) hl
                have z1 : (str (nmV nm)).size ≤ 64 := by rw [str_size]; exact hnl
                have z2 : (str vl).size ≤ 100000 := by rw [str_size]; exact hsz.2
                replace hW := Lib.hid hW
                replace hof := Lib.hid hof
                replace k1 := Lib.hid k1
                replace k2 := Lib.hid k2
                replace k3 := Lib.hid k3
                replace k4 := Lib.hid k4
                replace hN := Lib.hid hN
                clear hbad hokI
                generalize str (nmV nm) = s1 at *
                generalize str vl = s2 at *
                go_wp2_with fail
                refine hN.out.mono ?_
                rintro e w3 ⟨rfl, hb3⟩
                have hB3 := Lib.hid (Below.next hA1.out hA1.out.size hb3)
                have hF3 := hF1.out.below hb3
                have d3 := hF3.cell 1
                replace hF3 := Lib.hid hF3
                have hbl3 := Lib.hid (hbl1.out.below hb3)
                clear hb3
                go_wp2_with fail
                refine (hO.out _).mono ?_
                rintro e w4 ⟨rfl, rfl⟩
                go_wp2_with fail
                refine (hV.out _).mono ?_
                rintro e w5 ⟨rfl, hb5⟩
                have hB5 := Lib.hid (Below.next hB3.out hB3.out.size hb5)
                have hF5 := hF3.out.below hb5
                have d5 := hF5.cell 1
                have hbl5 := Lib.hid (hbl3.out.below hb5)
                clear hb5 d3
                go_wp2_with fail
                refine (hW.out _ hbl5.out hB5.out.size).mono ?_
                rintro e w6 ⟨rfl, hbl6, hb6⟩
                have hB6 := Lib.hid (hB5.out.trans hb6)
                replace hbl6 := Lib.hid hbl6
                go_wp2
                go_roundw
                case rel => exact ⟨k + 1, by go_num, by omega, hok2, hbl6, hB6⟩
                case measure => simp only [intOf]; omega
              · have hb9 := hbad.out (fun h => k4 h.2.2.1)
                have hV3 := hV.out
                rw [k2, errV_zero] at hV3
                clear hV
                have hV := Lib.hid hV3
                clear hV3
                have qs := str_ne k4
                replace hb9 := Lib.hid hb9
                replace k1 := Lib.hid k1
                replace k2 := Lib.hid k2
                replace k3 := Lib.hid k3
                replace k4 := Lib.hid k4
                replace hN := Lib.hid hN
                clear hbad hokI
                generalize str (nmV nm) = s1 at *
                generalize str (vlV vl) = s3 at *
                generalize str vl = s2 at *
                go_wp2_with fail
                refine hN.out.mono ?_
                rintro e w3 ⟨rfl, hb3⟩
                have hB3 := Lib.hid (Below.next hA1.out hA1.out.size hb3)
                have hF3 := hF1.out.below hb3
                have d3 := hF3.cell 1
                replace hF3 := Lib.hid hF3
                have hbl3 := Lib.hid (hbl1.out.below hb3)
                clear hb3
                go_wp2_with fail
                refine (hO.out _).mono ?_
                rintro e w4 ⟨rfl, rfl⟩
                go_wp2_with fail
                refine (hV.out _).mono ?_
                rintro e w5 ⟨rfl, hb5⟩
                have hB5 := Lib.hid (Below.next hB3.out hB3.out.size hb5)
                have hF5 := hF3.out.below hb5
                have d5 := hF5.cell 1
                have hbl5 := Lib.hid (hbl3.out.below hb5)
                clear hb5 d3
                go_wp2
                go_ret2
                exact LastR.bad hb9.out hB5.out
            · have hb9 := hbad.out (fun h => k2 h.2.1)
              have hV3 := hV.out
              rw [errV_ne k2] at hV3
              clear hV
              have hV := Lib.hid hV3
              clear hV3
              replace hb9 := Lib.hid hb9
              replace k1 := Lib.hid k1
              replace k2 := Lib.hid k2
              replace k3 := Lib.hid k3
              replace hN := Lib.hid hN
              clear hbad hokI
              generalize vlE vl = n2 at *
              generalize str (nmV nm) = s1 at *
              generalize str (vlV vl) = s3 at *
              generalize str vl = s2 at *
              go_wp2_with fail
              refine hN.out.mono ?_
              rintro e w3 ⟨rfl, hb3⟩
              have hB3 := Lib.hid (Below.next hA1.out hA1.out.size hb3)
              have hF3 := hF1.out.below hb3
              have d3 := hF3.cell 1
              replace hF3 := Lib.hid hF3
              have hbl3 := Lib.hid (hbl1.out.below hb3)
              clear hb3
              go_wp2_with fail
              refine (hO.out _).mono ?_
              rintro e w4 ⟨rfl, rfl⟩
              go_wp2_with fail
              refine (hV.out _).mono ?_
              rintro e w5 ⟨rfl, hb5⟩
              have hB5 := Lib.hid (Below.next hB3.out hB3.out.size hb5)
              have hF5 := hF3.out.below hb5
              have d5 := hF5.cell 1
              have hbl5 := Lib.hid (hbl3.out.below hb5)
              clear hb5 d3
              go_wp2
              go_ret2
              exact LastR.bad hb9.out hB5.out
        · have hb9 := hbad.out (fun h => k1 h.1)
          rw [errV_ne k1] at hN
          replace hb9 := Lib.hid hb9
          replace k1 := Lib.hid k1
          replace hN := Lib.hid hN
          clear hbad hokI
          generalize nmE nm = n1 at *
          generalize str (nmV nm) = s1 at *
          go_wp2_with fail
          refine hN.out.mono ?_
          rintro e w3 ⟨rfl, hb3⟩
          have hB3 := Lib.hid (Below.next hA1.out hA1.out.size hb3)
          clear hb3
          go_wp2
          go_ret2
          exact LastR.bad hb9.out hB3.out
      · obtain rfl : k = l.length := by omega
        rw [List.take_length] at hok hbl
        have hlx := txt_len l hok.out
        have hW := bwrite_any (s := [13, 10]) hbl.out (by simp; omega) hBs
        obtain ⟨T, hT⟩ : ∃ T, txt l ++ [13, 10] = T := ⟨_, rfl⟩
        have hTl : T.length = (txt l).length + 2 := by rw [← hT]; simp
        have hfit : fitL l = decide (T.length ≤ 8192) := by unfold fitL; rw [hTl, decide_eq_true (p := l.length ≤ 64) (by omega), Bool.and_true]
        have hlast : lastB l = [48, 13, 10] ++ T := by unfold lastB; rw [hT]
        rw [hT] at hW
        rw [show str [13, 10] = (⟨#[13, 10]⟩ : ByteArray) from rfl] at hW
        replace hW := Lib.hid hW
        replace hT := Lib.hid hT
        have hTb : T.length ≤ 200000 := by omega
        replace hTl := Lib.hid hTl
        replace hlast := Lib.hid hlast
        go_wp2_with fail
        refine hW.out.mono ?_
        rintro e w3 ⟨rfl, hbl3, hb3⟩
        have hL := Lib.hid (blen_any hbl3)
        have hB3 := Lib.hid (hB.out.trans hb3)
        by_cases hf : T.length ≤ 8192
        · have hres : Hid ((okL l && fitL l) = true) := Lib.hid (by rw [hok.out, hfit, decide_eq_true hf]; rfl)
          have hS := Lib.hid (bstring_any hbl3 hB3.out.size)
          replace hbl3 := Lib.hid hbl3
          replace hfit := Lib.hid hfit
          have kc := fun (w : World) (s : ByteArray) => Lib.run_convert_string_bytes (P := Tryd.prog) w 9 30 5 s Tryd.underlying9 Tryd.underlying30 Tryd.underlying5
          have z1 : (str T).size ≤ 8192 := by rw [str_size]; exact hf
          have hcv := fun w => OwnM.conv w ([48, 13, 10] ++ T)
          have hcb := fun w => conv_below w ([48, 13, 10] ++ T)
          have e3 : str ([48, 13, 10] ++ T) = (⟨#[48, 13, 10]⟩ : ByteArray) ++ str T := by rw [← str_append]; rfl
          rw [e3] at hcv hcb
          have e4 : ([48, 13, 10] ++ T).length = 3 + (str T).size := by simp [str_size]; omega
          rw [e4] at hcv
          replace hcv := Lib.hid hcv
          replace hcb := Lib.hid hcb
          replace e3 := Lib.hid e3
          replace e4 := Lib.hid e4
          generalize str T = sT at *
          go_wp2_with fail
          refine hL.out.mono ?_
          rintro e w4 ⟨rfl, rfl⟩
          go_wp2_with fail
          refine hS.out.mono ?_
          rintro e w5 ⟨rfl, hb5⟩
          have hB5 := Lib.hid (hB3.out.trans hb5)
          go_wp2
          go_ret2
          exact LastR.good hres.out (by rw [hlast.out]; exact (hcv.out w5).base hB5.out.size) (Below.next hB5.out hB5.out.size (hcb.out w5))
        · have hres : Hid ((okL l && fitL l) = false) := Lib.hid (by rw [hok.out, hfit, decide_eq_false hf]; rfl)
          replace hbl3 := Lib.hid hbl3
          replace hfit := Lib.hid hfit
          go_wp2_with fail
          refine hL.out.mono ?_
          rintro e w4 ⟨rfl, rfl⟩
          go_wp2
          go_ret2
          exact LastR.bad hres.out hB3.out
end Go.Proofs.YtbegpdhkjfdjbaaDoor
