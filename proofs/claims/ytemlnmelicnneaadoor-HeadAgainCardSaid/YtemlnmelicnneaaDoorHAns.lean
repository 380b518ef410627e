/-
  Layer 5: the fixed example, and the walk of HeadAnswers.
-/
import Derived.Test.YtemlnmelicnneaaDoorHRResp
import Derived.Test.YtemlnmelicnneaaDoorHConv
import Derived.Test.YtemlnmelicnneaaDoorHFits
namespace Go.Proofs.YtemlnmelicnneaaDoor
open Go.RowKit Syn Hd Ck

namespace Hd
def awk : List UInt8 := [72, 84, 84, 80, 47, 49, 46, 49, 32, 50, 48, 52, 32, 78, 111, 32, 67, 111, 110, 116, 101, 110, 116, 13, 10, 13, 10]
theorem awk_e : wrE 204 [] = 0 := by decide
theorem awk_b : wrB 204 [] = awk := by decide
end Hd
set_option maxRecDepth 100000 in
set_option maxHeartbeats 4000000 in
theorem hawake_any (w : World) (hT : Tab10 w) : Calls Tryd.prog 9 #[] w fun e w' => e = .returned (.bool true) ∧ Below w.heap.size w w' := by
  have hW := wresp_any 204 (by decide) (by decide) [] (.slice none 0 0) w (Rd.nil w 2) (by simp) (by simp) hT
  unfold WrR at hW
  rw [awk_e, awk_b, errV_zero] at hW
  replace hW := Lib.hid hW
  go_enter Tryd.func9, Tryd.ntmps9
  go_wp2_with fail
  refine hW.out.mono ?_
  rintro e w1 ⟨o, rfl, ho, hb⟩
  obtain ⟨A, c, rfl, -⟩ := id ho.rd
  have hcv := run_rd_str ho.rd
  have q : ((str awk).toList == [72, 84, 84, 80, 47, 49, 46, 49, 32, 50, 48, 52, 32, 78, 111, 32, 67, 111, 110, 116, 101, 110, 116, 13, 10, 13, 10]) = true := by rw [str_toList]; rfl
  generalize str awk = sx at *
  replace ho := Lib.hid ho
  replace hb := Lib.hid hb
  go_wp2
  go_ret
  exact ⟨rfl, hb.out⟩
theorem ans_more {w4 w' w'' : World} {G B : Nat} {t : TypeId} {cs : Array Value} {A : Option Addr} {c : Nat} {l : List UInt8} {i : Nat} {u : Value} (hK : Hid (Blk w4 G t cs)) (hc : Hid (cs[i]? = some u)) (ho : Hid (OwnM w4 B (.slice A l.length c) l)) (hb : Below w4.heap.size w4 w') (hb' : Below w'.heap.size w' w'') :
    Below w4.heap.size w4 w'' ∧ w''.cell? ⟨G, i, none⟩ = some u ∧ (convert 27 9 (.slice A l.length c)).run Tryd.prog w'' = Result.ok (Value.string (str l)) w'' := by
  have h := Below.next hb hb.size hb'
  exact ⟨h, by rw [(hK.out.below h).cell i]; exact hc.out, run_rd_str (ho.out.below h).rd⟩
set_option maxRecDepth 100000 in
set_option maxHeartbeats 16000000 in
theorem answers_walk (l : List (List UInt8 × List UInt8)) (z : Int) (v : Value) (w : World) (hz1 : -9223372036854775808 ≤ z) (hz2 : z ≤ 9223372036854775807) (hR : Rd w 2 v l.length (prs l)) (hbig : ∀ p ∈ l, p.1.length ≤ 140737488355328 ∧ p.2.length ≤ 140737488355328) (hlm : l.length ≤ 140737488355328) (hT : Tab10 w) :
    Calls Tryd.prog 3 #[.agg #[.int .i64 z, v]] w fun e w' => e = .returned (.bool true) ∧ Below w.heap.size w w' := by
  obtain ⟨A, cap, rfl, hcap, -, -⟩ := id hR
  obtain ⟨G, hG⟩ : ∃ G, w.heap.size = G := ⟨_, rfl⟩
  have hFt := Lib.hid (fun w (h : Rd w 2 (.slice A l.length cap) l.length (prs l)) => hfits_any l _ w h hbig hlm)
  replace hR := Lib.hid hR
  replace hbig := Lib.hid hbig
  have hAw := Lib.hid (fun w' (hb : Below w.heap.size w w') => hawake_any w' (hT.below hb))
  replace hT := Lib.hid hT
  go_enter Tryd.func3, Tryd.ntmps3
  go_wp2_with fail
  have hA := Blk.new w 24 #[.int .i64 z, .slice A l.length cap]
  have hB0 := (Below.refl w.heap.size w).alloc (Nat.le_refl _) (.cells #[.int .i64 z, .slice A l.length cap] 24)
  rw [hG] at hA
  generalize w.alloc (.cells #[.int .i64 z, .slice A l.length cap] 24) = w0 at *
  refine (hAw.out _ hB0).mono ?_
  rintro e w1 ⟨rfl, hb1⟩
  have hA1 := hA.below hb1
  have hB1 := Lib.hid (Below.next hB0 hB0.size hb1)
  have hR1 := Lib.hid (hR.out.below hB1.out)
  have c0 : w1.cell? ⟨G, 0, none⟩ = some (.int .i64 z) := hA1.cell 0
  have c1 : w1.cell? ⟨G, 1, none⟩ = some (.slice A l.length cap) := hA1.cell 1
  replace hA1 := Lib.hid hA1
  clear hb1 hA hB0
  go_wp2_with fail
  refine (hFt.out _ hR1.out).mono ?_
  rintro e w2 ⟨b, rfl, hfew, nd, rfl⟩
  have hB1n := Lib.hid (below_drewN hB1.out nd)
  cases b
  · clear hfew
    go_wp2_with fail
    refine (hAw.out _ hB1n.out).mono ?_
    rintro e w3 ⟨rfl, hb3⟩
    have hB3 := Lib.hid (Below.next hB1n.out hB1n.out.size hb3)
    clear hb3
    go_wp2
    go_ret
    exact ⟨rfl, hB3.out⟩
  · obtain ⟨h80, hbk⟩ := hfew rfl
    have hs : ∀ p ∈ l, p.1.length ≤ 1000000 ∧ p.2.length ≤ 1000000 := fun p hp => by have := bulk_mem hp; omega
    have hRs := Lib.hid (fun w h => response_any l z (.slice A l.length cap) w (by omega) h)
    have hWr := Lib.hid (fun v w h hT => wresp_any z hz1 hz2 l v w h hs (by omega) hT)
    have hRw := Lib.hid (fun w h => rwresp_any z hz1 hz2 l (.slice A l.length cap) w h hs (by omega))
    have hNm := Lib.hid (fun w => num_any (wrE z l) w)
    have hRe := Lib.hid (fun w => reason_any z hz1 hz2 w)
    have hRr := Lib.hid (fun w => rreason_any z hz1 hz2 w)
    have hnn := beq_self_eq_true (wrE z l)
    clear hfew
    replace hs := Lib.hid hs
    generalize hen : wrE z l = en at *
    generalize hwb : wrB z l = wb at *
    replace hen := Lib.hid hen
    replace hwb := Lib.hid hwb
    go_wp2_with fail
    refine (hRs.out _ (hR1.out.drewN nd)).mono ?_
    rintro e w3 ⟨o, rfl, hR3, hb3⟩
    obtain ⟨B, cap', rfl, -, -, -⟩ := id hR3
    have hb3' : Below w1.heap.size w1 w3 := ⟨hb3.os, hb3.tape, hb3.output, hb3.size, hb3.block⟩
    have hA3 := hA1.out.below hb3'
    have hB3 := Below.next hB1.out hB1.out.size hb3'
    have c3 : w3.cell? ⟨G, 0, none⟩ = some (.int .i64 z) := hA3.cell 0
    have c4 : w3.cell? ⟨G, 1, none⟩ = some (.slice A l.length cap) := hA3.cell 1
    replace hA3 := Lib.hid hA3
    replace hB3 := Lib.hid hB3
    clear hb3 hb3' c0 c1
    go_wp2_with fail
    have hx := hWr.out _ _ hR3 (hT.out.below hB3.out)
    unfold WrR at hx
    rw [hen.out, hwb.out] at hx
    refine hx.mono ?_
    clear hx
    rintro e w4 ⟨o4, rfl, ho4, hb4⟩
    obtain ⟨A4, c4', rfl, -⟩ := id ho4.rd
    have hA4 := hA3.out.below hb4
    have hB4 := Lib.hid (Below.next hB3.out hB3.out.size hb4)
    have d3 : w4.cell? ⟨G, 0, none⟩ = some (.int .i64 z) := hA4.cell 0
    have d4 : w4.cell? ⟨G, 1, none⟩ = some (.slice A l.length cap) := hA4.cell 1
    have hR4 := Lib.hid (hR.out.below hB4.out)
    replace hA4 := Lib.hid hA4
    replace ho4 := Lib.hid ho4
    clear hb4 hR3 c3 c4
    generalize hev : errV en = ev at *
    replace hev := Lib.hid hev
    go_wp2_with fail
    refine (hRw.out _ hR4.out).mono ?_
    rintro e w5 ⟨rfl, hb5⟩
    have hA5 := Lib.hid (hA4.out.below hb5)
    have ho5 := Lib.hid (ho4.out.below hb5)
    have hB5 := Lib.hid (Below.next hB4.out hB4.out.size hb5)
    have e3 := hA5.out.cell 0
    have hcs : Hid ((#[Value.int .i64 z, Value.slice A l.length cap] : Array Value)[0]? = some (.int .i64 z)) := Lib.hid rfl
    have hst := ans_more hA5 hcs ho5 (Below.refl _ _) (Below.refl _ _)
    clear hb5 d3 d4
    go_wp2_with fail
    go_region_held3 (fun w' => Below w5.heap.size w5 w' ∧ w'.cell? ⟨G, 0, none⟩ = some (.int .i64 z) ∧ (convert 27 9 (.slice A4 wb.length c4')).run Tryd.prog w' = Result.ok (Value.string (str wb)) w')
      (first | exact hst | assumption | exact ans_more hA5 hcs ho5 (Below.refl _ _) (Below.refl _ _).drew | exact ans_more hA5 hcs ho5 (And.left (by assumption)) (Below.refl _ _).drew | exact ans_more hA5 hcs ho5 (Below.refl _ _) hb7 | exact ans_more hA5 hcs ho5 (And.left (by assumption)) hb7)
      (first | (go_at_call 14; refine (hNm.out _).mono ?_; rintro e w6 ⟨rfl, hb6⟩; have hb7 := hb6) | (go_at_call 15; refine (hRe.out _).mono ?_; rintro e w6 ⟨rfl, hb6⟩; have hb7 := hb6) | (go_at_call 16; refine (hRr.out _).mono ?_; rintro e w6 ⟨rfl, hb6⟩; first | have hb7 := below_of_drew hb6 | have hb7 := hb6))
    all_goals
      go_wp2
      go_ret
      exact ⟨rfl, Below.next hB5.out hB5.out.size (And.left (by assumption))⟩
end Go.Proofs.YtemlnmelicnneaaDoor
