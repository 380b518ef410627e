/-
  Layer 5: header lines.
-/
import Derived.Test.YtemlnmelicnneaaDoorHHeader
import Derived.Deep.DeepCutAuto
namespace Go.Proofs.YtemlnmelicnneaaDoor
open Go.RowKit Syn Fr Hd Ck

namespace Hd
/-- The first error of header lines. -/
def hdsE : List (List UInt8) → Int
  | [] => 0
  | l :: r => if hdE l = 0 then hdsE r else hdE l
theorem hdsE_drop : ∀ {L : List (List UInt8)} {k : Nat}, (L.take k).all (fun l => decide (hdE l = 0)) = true → hdsE L = hdsE (L.drop k)
  | _, 0, _ => rfl
  | [], k + 1, _ => rfl
  | l :: r, k + 1, h => by
    rw [List.take_succ_cons, List.all_cons, Bool.and_eq_true, decide_eq_true_eq] at h
    rw [hdsE, if_pos h.1, hdsE_drop h.2, List.drop_succ_cons]
def HdsR (w : World) (L : List (List UInt8)) (e : Ending) (w' : World) : Prop :=
  ((hdsE L ≠ 0 ∧ e = .returned (.tuple #[.slice none 0 0, .iface 59 (.int .i64 (hdsE L))])) ∨ (hdsE L = 0 ∧ ∃ o, e = .returned (.tuple #[o, .nilIface]) ∧ Own w' w.heap.size 86 2 o (L.map hdV).length (prs (L.map hdV)))) ∧ Below w.heap.size w w'
theorem HdsR.bad {w w' : World} {L : List (List UInt8)} {n : Int} (h : hdsE L = n) (h0 : n ≠ 0) (hb : Below w.heap.size w w') : HdsR w L (.returned (.tuple #[.slice none 0 0, .iface 59 (.int .i64 n)])) w' :=
  ⟨.inl ⟨by rw [h]; exact h0, by rw [h]⟩, hb⟩
theorem HdsR.good {w w' : World} {L : List (List UInt8)} {o : Value} (h : hdsE L = 0) (ho : Own w' w.heap.size 86 2 o (L.map hdV).length (prs (L.map hdV))) (hb : Below w.heap.size w w') : HdsR w L (.returned (.tuple #[o, .nilIface])) w' :=
  ⟨.inr ⟨h, o, rfl, ho⟩, hb⟩
end Hd
set_option maxRecDepth 100000 in
set_option maxHeartbeats 8000000 in
theorem headers_any (L : List (List UInt8)) (v : Value) (w : World) (hR : Rd w 1 v L.length (strs L)) (hs : ∀ l ∈ L, l.length ≤ 1000000) (hm : L.length ≤ 1000) :
    Calls Tryd.prog 46 #[v] w (HdsR w L) := by
  obtain ⟨A, cap, rfl, hcap, -, -⟩ := id hR
  replace hR := Lib.hid hR
  replace hs := Lib.hid hs
  go_enter Tryd.func46, Tryd.ntmps46
  go_wp2
  go_loopw [4, 11] (fun o i wr => ∃ k : Nat, i = .int .i64 (k : Int) ∧ k ≤ L.length ∧ Hid ((L.take k).all (fun l => decide (hdE l = 0)) = true) ∧ Hid (Own wr w.heap.size 86 2 o k (prs ((L.take k).map hdV))) ∧ Hid (Below w.heap.size w wr)) (fun _ i _ => L.length - (intOf i).toNat)
  case atStart => exact ⟨0, rfl, by omega, Lib.hid rfl, Lib.hid (own_nil _ _ _ _), Lib.hid (Below.refl _ _)⟩
  case round =>
    obtain ⟨k, rfl, hk, hall, ho, hB⟩ := hrel
    have hBw := hB.out.size
    obtain ⟨Ao, co, rfl, -⟩ := Rd.own ho.out
    by_cases hlt : k < L.length
    · obtain ⟨A', cap', e', -, -, r'⟩ := hR.out.below hB.out
      cases e'
      obtain ⟨b1, o1, rfl, _, x1⟩ := r' (by omega)
      have d1 : wr.cell? ⟨b1, o1 + k, none⟩ = some (.string (str L[k])) := x1 _ _ (strs_at hlt)
      have hsh := hs.out L[k] (List.getElem_mem hlt)
      have hdr := hdsE_drop hall.out
      rw [List.drop_eq_getElem_cons hlt, hdsE] at hdr
      have htk : (L.take (k + 1)).map hdV = (L.take k).map hdV ++ [hdV L[k]] := by rw [List.take_succ_eq_append_getElem hlt, List.map_append]; rfl
      have hal2 : hdE L[k] = 0 → (L.take (k + 1)).all (fun l => decide (hdE l = 0)) = true := fun h => by
        rw [List.take_succ_eq_append_getElem hlt, List.all_append, hall.out]; simp [h]
      clear x1 r'
      have hH := fun w => header_any (str L[k]) w (by rw [str_size]; exact hsh)
      simp only [bs_str] at hH
      generalize L[k] = l at *
      have hpr := Lib.hid (prs_snoc ((L.take k).map hdV) (hdV l))
      replace hsh := Lib.hid hsh
      by_cases he : hdE l = 0
      · rw [he, errV_zero] at hH
        have hal3 := Lib.hid (hal2 he)
        replace hH := Lib.hid hH
        replace he := Lib.hid he
        replace htk := Lib.hid htk
        clear hdr hal2
        generalize str l = sl at *
        generalize hdV l = p at *
        obtain ⟨n, vv⟩ := p
        go_wp2_with fail
        refine (hH.out _).mono ?_
        rintro e w2 ⟨rfl, hb2⟩
        have hB2' := Below.next hB.out hBw hb2
        have ho2 := Lib.hid (own_below (own_below ho.out hb2) ((Below.refl w2.heap.size w2).alloc (Nat.le_refl _) (.cells #[.string (str n), .string (str vv)] 86)))
        have hB3 := hB2'.alloc hB2'.size (.cells #[.string (str n), .string (str vv)] 86)
        have hBs3 := hB3.size
        clear hb2 hB2'
        go_upto_region 8 with (fail)
        have hK3 := Blk.new w2 86 #[.string (str n), .string (str vv)]
        generalize w2.alloc (.cells #[.string (str n), .string (str vv)] 86) = w3 at *
        have f0 := hK3.cell 0
        have f1 := hK3.cell 1
        replace hB3 := Lib.hid hB3
        replace hK3 := Lib.hid hK3
        go_wp2_with (at_builtin; go_loud (refine push_pair 33 86 Tryd.underlying33 infoCF _ _ rfl rfl rfl ho2.out rfl rfl rfl (by omega) hBs3 ?_); intro v7 w7 ho7 hb7; have hB7 := Lib.hid (hB3.out.trans hb7); replace ho7 := Lib.hid ho7; clear hb7)
        go_roundw
        case rel => exact ⟨k + 1, by go_num, by omega, hal3, Lib.hid (by rw [htk.out, hpr.out]; exact ho7.out), hB7⟩
        case measure => simp only [intOf]; omega
      · rw [if_neg he] at hdr
        rw [herr_ne he] at hH
        have hbad := Lib.hid (fun (w' : World) (hb : Below w.heap.size w w') => HdsR.bad hdr he hb)
        replace hH := Lib.hid hH
        replace he := Lib.hid he
        clear hdr hal2 htk hpr
        generalize str l = sl at *
        generalize hdV l = p at *
        generalize hdE l = ne at *
        obtain ⟨n, vv⟩ := p
        go_wp2_with fail
        refine (hH.out _).mono ?_
        rintro e w2 ⟨rfl, hb2⟩
        have hB2' := Below.next hB.out hBw hb2
        have hB3 := Lib.hid (hB2'.alloc hB2'.size (.cells #[.string (str n), .string (str vv)] 86))
        clear hb2 hB2'
        go_wp2
        go_ret2
        exact hbad.out _ hB3.out
    · obtain rfl : k = L.length := by omega
      rw [List.take_length] at ho hall
      have hz := Lib.hid (show hdsE L = 0 by
        have := hdsE_drop (L := L) (k := L.length) (by rw [List.take_length]; exact hall.out)
        rw [this, List.drop_length]; rfl)
      have hlm : (L.map hdV).length = L.length := List.length_map ..
      replace hlm := Lib.hid hlm
      go_wp2
      go_ret2
      exact HdsR.good hz.out (by rw [hlm.out]; exact ho.out) hB.out
end Go.Proofs.YtemlnmelicnneaaDoor
