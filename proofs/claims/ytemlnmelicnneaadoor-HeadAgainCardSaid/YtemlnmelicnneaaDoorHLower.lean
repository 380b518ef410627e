/-
  The law's lower.
-/
import Derived.Test.YtemlnmelicnneaaDoorHAll
import Derived.Test.YtemlnmelicnneaaDoorHConv
import Derived.Test.YtemlnmelicnneaaDoorStepR
import Derived.Deep.RegionHeld3
namespace Go.Proofs.YtemlnmelicnneaaDoor
open Go.RowKit Syn Fr

namespace Hd
def lwr (p : List UInt8 × List UInt8) : List UInt8 × List UInt8 := (Syn.lower p.1, p.2)
theorem low_S {w w' : World} {b i1 i2 : Nat} {u1 u2 : Value} (hlt : Hid (b < w.heap.size)) (h1 : Hid (w.cell? ⟨b, i1, none⟩ = some u1)) (h2 : Hid (w.cell? ⟨b, i2, none⟩ = some u2)) (hb : Below w.heap.size w w') :
    Below w.heap.size w w' ∧ w'.cell? ⟨b, i1, none⟩ = some u1 ∧ w'.cell? ⟨b, i2, none⟩ = some u2 :=
  ⟨hb, by rw [hb.cell (p := ⟨b, i1, none⟩) hlt.out]; exact h1.out, by rw [hb.cell (p := ⟨b, i2, none⟩) hlt.out]; exact h2.out⟩
theorem rd_pair (w : World) (u1 u2 : Value) (t : TypeId) : Rd (w.alloc (.cells #[u1, u2] t)) 2 (.slice (some ⟨w.heap.size, 0, none⟩) 1 1) 1 [u1, u2] :=
  ⟨_, _, rfl, Nat.le_refl _, rfl, fun _ => ⟨w.heap.size, 0, rfl, by rw [alloc_size']; omega, fun j u hu => by
    rw [Nat.zero_add, (Blk.new w t #[u1, u2]).cell j]; simpa using hu⟩⟩
theorem pair_one (a b : ByteArray) : ∀ u ∈ [Value.string a, Value.string b], u.oneCell' = true := by
  intro u hu
  simp only [List.mem_cons, List.not_mem_nil, or_false] at hu
  rcases hu with rfl | rfl <;> rfl
end Hd
open Hd
set_option maxRecDepth 100000 in
set_option maxHeartbeats 8000000 in
theorem hlower_any (l : List (List UInt8 × List UInt8)) (v : Value) (w : World) (hs : ∀ p ∈ l, p.1.length ≤ 1000000 ∧ p.2.length ≤ 1000000) (hm : l.length ≤ 1000) (hR : Rd w 2 v l.length (prs l)) :
    Calls Tryd.prog 22 #[v] w fun e w' => ∃ o, e = .returned o ∧ Own w' w.heap.size 62 2 o l.length (prs (l.map lwr)) ∧ Below w.heap.size w w' := by
  obtain ⟨A, cap, rfl, hcap, -, -⟩ := id hR
  replace hR := Lib.hid hR
  replace hs := Lib.hid hs
  go_enter Tryd.func22, Tryd.ntmps22
  go_wp2
  go_loopw [3, 4] (fun o i wr => ∃ k : Nat, i = .int .i64 (k : Int) ∧ k ≤ l.length ∧ Hid (Own wr w.heap.size 62 2 o k (prs ((l.take k).map lwr))) ∧ Hid (Below w.heap.size w wr)) (fun _ i _ => l.length - (intOf i).toNat)
  case atStart => exact ⟨0, rfl, by omega, Lib.hid (own_nil _ _ _ _), Lib.hid (Below.refl _ _)⟩
  case round =>
    obtain ⟨k, rfl, hk, ho, hB⟩ := hrel
    have hBs := hB.out.size
    obtain ⟨Ao, co, rfl, -⟩ := Rd.own ho.out
    by_cases hlt : k < l.length
    · obtain ⟨A', cap', e', -, -, r'⟩ := id hR.out
      cases e'
      obtain ⟨b1, o1, rfl, hbl, x1⟩ := r' (by omega)
      have c1 : Hid (w.cell? ⟨b1, o1 + k * 2, none⟩ = some (.string (str l[k].1))) := Lib.hid (x1 _ _ (prs_at0 hlt))
      have c2 : Hid (w.cell? ⟨b1, o1 + k * 2 + 1, none⟩ = some (.string (str l[k].2))) := Lib.hid (x1 _ _ (prs_at1 hlt))
      have hsh := hs.out l[k] (List.getElem_mem hlt)
      have htk : (l.take (k + 1)).map lwr = (l.take k).map lwr ++ [lwr l[k]] := by rw [List.take_succ_eq_append_getElem hlt, List.map_append]; rfl
      clear x1 r'
      generalize l[k] = p at *
      obtain ⟨n, vv⟩ := p
      simp only at c1 c2 hsh htk
      have hLw := Lib.hid (fun w => rlower_any (str n) w (by rw [str_size]; exact hsh.1))
      rw [bs_str] at hLw
      have hpr : Hid (prs ((l.take k).map lwr ++ [lwr (n, vv)]) = prs ((l.take k).map lwr) ++ [.string (str (Syn.lower n)), .string (str vv)]) := Lib.hid (prs_snoc ((l.take k).map lwr) (lwr (n, vv)))
      have hone := Lib.hid (pair_one (str (Syn.lower n)) (str vv))
      have hbl2 := Lib.hid hbl
      replace hsh := Lib.hid hsh
      replace htk := Lib.hid htk
      clear hbl
      generalize str (Syn.lower n) = sl at *
      have hst := low_S hbl2 c1 c2 hB.out
      go_wp2_with fail
      go_region_held3 (fun w' => Below w.heap.size w w' ∧ w'.cell? ⟨b1, o1 + k * 2, none⟩ = some (.string (str n)) ∧ w'.cell? ⟨b1, o1 + k * 2 + 1, none⟩ = some (.string (str vv)))
        (first | exact hst | assumption | exact low_S hbl2 c1 c2 hB.out.drew | exact low_S hbl2 c1 c2 hB9 | exact low_S hbl2 c1 c2 hB9.drew | exact low_S hbl2 c1 c2 hB8 | exact low_S hbl2 c1 c2 hB8.drew | exact low_S hbl2 c1 c2 (hB8.alloc hB8.size _) | exact low_S hbl2 c1 c2 (hB8.alloc hB8.size _).drew)
        (first
          | (go_at_call 25; refine (hLw.out _).mono ?_; rintro e w6 ⟨rfl, hb6⟩; (first | have hb7 := below_of_drew hb6 | have hb7 := hb6); have hB8 := Below.next hB.out hBs hb7)
          | (refine stepR_push (n := k) (m := 1) (c := 1) (xs := prs ((l.take k).map lwr)) (news := [.string sl, .string (str vv)]) (B := w.heap.size) 22 62 (.agg #[.string ⟨#[]⟩, .string ⟨#[]⟩]) 2 32 _ _ (by rfl) (by rfl) Tryd.underlying22 infoR2b rfl (by decide) (by decide) (by kernel_rfl) (own_below (own_below ho.out hb7) ((Below.refl _ _).alloc (Nat.le_refl _) _)) (by kernel_rfl) (rd_pair _ _ _ _) hone.out (by omega) (hB8.alloc hB8.size _).size ?_; intro v7 w7 ho7 hg7; have hB9 := (hB8.alloc hB8.size (.cells #[.string sl, .string (str vv)] 62)).trans (below_grown (own_below (own_below ho.out hb7) ((Below.refl _ _).alloc (Nat.le_refl _) _)) hg7 (hB8.alloc hB8.size _).size)))
      all_goals
        replace ho7 := Lib.hid ho7
        replace hB9 := Lib.hid hB9
        go_wp2
        go_roundw
        case rel => exact ⟨k + 1, by go_num, by omega, Lib.hid (by rw [htk.out, hpr.out]; exact ho7.out), hB9⟩
        case measure => simp only [intOf]; omega
    · obtain rfl : k = l.length := by omega
      rw [List.take_length] at ho
      go_wp2
      go_ret
      exact ⟨_, rfl, ho.out, hB.out⟩
end Go.Proofs.YtemlnmelicnneaaDoor
