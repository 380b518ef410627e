/-
  The walk of FramingAgrees.
-/
import Derived.Test.YtodgkppjabhhlaaDoorFAgrees
import Derived.Test.YtodgkppjabhhlaaDoorFAmb
import Derived.Test.YtodgkppjabhhlaaDoorFReqWalk
import Derived.Deep.RegionHeld3
import Derived.Deep.DrawnRows
import Derived.Deep.DeepCutAuto
namespace Go.Proofs.YtodgkppjabhhlaaDoor
open Go.RowKit Syn Fr
attribute [local go_sem ↓] Go.wp_at_zero Go.wp_at_succ

/-- What the law's last region reads. -/
def AgrAt (w0 : World) (q g : Nat) (m t : ByteArray) (B : Option Addr) (cap : Nat) (L : List (Bytes × Bytes)) (a b : Value) (w' : World) : Prop :=
  Below w0.heap.size w0 w' ∧ Rd w' 2 (.slice B L.length cap) L.length (prs L) ∧ w'.cell? ⟨q, 0, none⟩ = some (.string m) ∧ w'.cell? ⟨q, 1, none⟩ = some (.string t) ∧ w'.cell? ⟨q, 2, none⟩ = some (.slice B L.length cap) ∧
    w'.cell? ⟨g, 0, none⟩ = some a ∧ w'.cell? ⟨g, 1, none⟩ = some b
theorem AgrAt.below {w0 w' w'' : World} {q g : Nat} {m t : ByteArray} {B : Option Addr} {cap : Nat} {L : List (Bytes × Bytes)} {a b : Value} (h : AgrAt w0 q g m t B cap L a b w') (hq : q < w0.heap.size) (h4 : g < w0.heap.size) (hb : Below w'.heap.size w' w'') : AgrAt w0 q g m t B cap L a b w'' := by
  have hs := h.1.size
  have lq : q < w'.heap.size := by omega
  have l4 : g < w'.heap.size := by omega
  obtain ⟨hB, hR, c0, c1, c2, c3, c4⟩ := h
  exact ⟨hB.trans (hb.mono hs), hR.below hb, (hb.cell (p := ⟨q, 0, none⟩) lq).trans c0, (hb.cell (p := ⟨q, 1, none⟩) lq).trans c1, (hb.cell (p := ⟨q, 2, none⟩) lq).trans c2, (hb.cell (p := ⟨g, 0, none⟩) l4).trans c3, (hb.cell (p := ⟨g, 1, none⟩) l4).trans c4⟩
theorem AgrAt.rd {w0 w' : World} {q g : Nat} {m t : ByteArray} {B : Option Addr} {cap : Nat} {L : List (Bytes × Bytes)} {a b : Value} (h : AgrAt w0 q g m t B cap L a b w') : Rd w' 2 (.slice B L.length cap) L.length (prs L) := h.2.1
set_option maxRecDepth 100000 in
set_option maxHeartbeats 16000000 in
theorem agrees_walk (L : List (Bytes × Bytes)) (m t : ByteArray) (v : Value) (w : World) (hR : Rd w 2 v L.length (prs L)) (hbig : ∀ p ∈ L, p.1.length ≤ 140737488355328 ∧ p.2.length ≤ 140737488355328) (hlm : L.length ≤ 140737488355328) :
    Calls Tryd.prog 9 #[.agg #[.string m, .string t, v]] w fun e w' => e = .returned (.bool true) ∧ Below w.heap.size w w' := by
  obtain ⟨A, cap, rfl, hcap, -, -⟩ := id hR
  obtain ⟨G, hG⟩ : ∃ G, w.heap.size = G := ⟨_, rfl⟩
  have hFt := Lib.hid (fun w (h : Rd w 2 (.slice A L.length cap) L.length (prs L)) => fits_any L _ w h hbig hlm)
  replace hR := Lib.hid hR
  replace hbig := Lib.hid hbig
  go_enter Tryd.func9, Tryd.ntmps9
  go_wp2_with fail
  have hA := Blk.new w 24 #[.string m, .string t, .slice A L.length cap]
  have hB0 := (Below.refl w.heap.size w).alloc (Nat.le_refl _) (.cells #[.string m, .string t, .slice A L.length cap] 24)
  rw [hG] at hA
  generalize w.alloc (.cells #[.string m, .string t, .slice A L.length cap] 24) = w0 at *
  refine (fawake_any _).mono ?_
  rintro e w1 ⟨rfl, hb1⟩
  have hA1 := hA.below hb1
  have hR1 := Lib.hid (hR.out.below (hB0.trans (hb1.mono hB0.size)))
  have hB1 := Lib.hid (Below.next hB0 hB0.size hb1)
  have c0 : w1.cell? ⟨G, 0, none⟩ = some (.string m) := hA1.cell 0
  have c1 : w1.cell? ⟨G, 1, none⟩ = some (.string t) := hA1.cell 1
  have c2 : w1.cell? ⟨G, 2, none⟩ = some (.slice A L.length cap) := hA1.cell 2
  replace hA1 := Lib.hid hA1
  clear hb1 hA hB0
  go_wp2_with fail
  refine (hFt.out _ hR1.out).mono ?_
  rintro e w2 ⟨b, rfl, hfew, nd, rfl⟩
  cases b
  · clear hfew
    go_wp2_with fail
    refine (fawake_any _).mono ?_
    rintro e w3 ⟨rfl, hb3⟩
    have hB3 := Lib.hid (Below.next (below_drewN hB1.out nd) hB1.out.size hb3)
    clear hb3
    go_wp2
    go_ret
    exact ⟨rfl, hB3.out⟩
  · have hF := Lib.hid (hfew rfl)
    have hl : L.length ≤ 100 := hF.out.len
    have hRq := Lib.hid (fun w h => request_any L (.string m) (.string t) (.slice A L.length cap) w ⟨_, rfl⟩ ⟨_, rfl⟩ hl h)
    have hag := agrees_of L
    have hOf : ∀ w B cap', Rd w 2 (.slice B L.length cap') L.length (prs L) → Calls Tryd.prog 13 #[.agg #[.string m, .string t, .slice B L.length cap']] w fun e w' => e = .returned (.tuple #[.agg #[.int .i64 ((frame 1 L).1.1 : Int), .int .i64 ((frame 1 L).1.2 : Int)], errV (frame 1 L).2]) ∧ Below w.heap.size w w' := fun w B cap' h => of_request L m t B cap' w hF.out h
    have hCl : ∀ B cap' (f : Bool) w, Rd w 2 (.slice B L.length cap') L.length (prs L) → Calls Tryd.prog 26 #[.agg #[.string m, .string t, .slice B L.length cap'], .bool f] w fun e w' => e = .returned (.agg #[.int .i64 ((lenient L f).1 : Int), .int .i64 ((lenient L f).2 : Int)]) ∧ Below w.heap.size w w' := fun B cap' f w h => lenient_any L m t B cap' f w hF.out h
    have hAm := fun w B cap' h => ambiguous_any L m t B cap' w hF.out h
    clear hfew
    replace hOf := Lib.hid hOf
    replace hRq := Lib.hid hRq
    replace hCl := Lib.hid hCl
    go_wp2_with fail
    refine (hRq.out _ (hR1.out.drewN nd)).mono ?_
    rintro e w3 ⟨o, rfl, hR3, hb3⟩
    obtain ⟨B, cap', rfl, -, -, -⟩ := id hR3
    have hb3' : Below w1.heap.size w1 w3 := ⟨hb3.os, hb3.tape, hb3.output, hb3.size, hb3.block⟩
    have hQ := Blk.new w3 36 #[.string m, .string t, .slice B L.length cap']
    have hB3 := Below.next hB1.out hB1.out.size hb3'
    have hB4 := hB3.alloc hB3.size (.cells #[.string m, .string t, .slice B L.length cap'] 36)
    have hR5 := hR3.below ((Below.refl w3.heap.size w3).alloc (Nat.le_refl _) (.cells #[.string m, .string t, .slice B L.length cap'] 36))
    replace hB4 := Lib.hid hB4
    replace hQ := Lib.hid hQ
    replace hR5 := Lib.hid hR5
    clear hb3 hb3' hB3 hR3 c0 c1 c2 hA1 hR1 hB1
    go_wp2_with fail
    refine (hOf.out _ _ _ hR5.out).mono ?_
    rintro e w4 ⟨rfl, hb4⟩
    rcases hag with ⟨hf, c, he⟩ | ⟨he, ham, h0, h1, h2, h3, h4⟩
    · have hBz := Below.next hB4.out hB4.out.size hb4
      have hBy := Lib.hid (hBz.alloc hBz.size (.cells #[.int .i64 0, .int .i64 0] 28))
      clear hb4 hBz
      rw [hf, he]
      go_wp2
      go_ret
      exact ⟨rfl, hBy.out⟩
    · rw [he]
      rw [ham] at hAm
      replace hCl := Lib.hid (fun B cap' f w h => (hCl.out B cap' f w h).mono (fun e w' hh => (show e = .returned (.agg #[.int .i64 ((frame 1 L).1.1 : Int), .int .i64 ((frame 1 L).1.2 : Int)]) ∧ Below w.heap.size w w' by
        obtain ⟨h5, h6⟩ := hh
        refine ⟨?_, h6⟩
        rw [h5, h0 f])))
      replace hAm := Lib.hid hAm
      clear he ham h0 hOf
      have hBz := Below.next hB4.out hB4.out.size hb4
      generalize ((frame 1 L).1.1 : Int) = a at *
      generalize ((frame 1 L).1.2 : Int) = b at *
      have hq1 := beq_self_eq_true a
      have hq2 := beq_self_eq_true b
      have hK := Blk.new w4 28 #[.int .i64 a, .int .i64 b]
      have hBy := hBz.alloc hBz.size (.cells #[.int .i64 a, .int .i64 b] 28)
      have hqx := (hQ.out.below hb4).alloc (.cells #[.int .i64 a, .int .i64 b] 28)
      have hRx := (hR5.out.below hb4).below ((Below.refl w4.heap.size w4).alloc (Nat.le_refl _) (.cells #[.int .i64 a, .int .i64 b] 28))
      replace hBy := Lib.hid hBy
      clear hb4 hBz hQ hR5 hB4 hRq
      go_upto_region 7 with (fail)
      generalize w4.alloc (.cells #[.int .i64 a, .int .i64 b] 28) = wx at *
      have hql := hqx.lt
      have h4l := hK.lt
      have hT : AgrAt wx w3.heap.size w4.heap.size m t B cap' L (.int .i64 a) (.int .i64 b) wx := ⟨Below.refl _ _, hRx, hqx.cell 0, hqx.cell 1, hqx.cell 2, hK.cell 0, hK.cell 1⟩
      clear hqx hK hRx
      go_wp2_with fail
      go_region_held3 (fun w' => Below wx.heap.size wx w' ∧ Rd w' 2 (.slice B L.length cap') L.length (prs L) ∧ w'.cell? ⟨w3.heap.size, 0, none⟩ = some (.string m) ∧ w'.cell? ⟨w3.heap.size, 1, none⟩ = some (.string t) ∧ w'.cell? ⟨w3.heap.size, 2, none⟩ = some (.slice B L.length cap') ∧ w'.cell? ⟨w4.heap.size, 0, none⟩ = some (.int .i64 a) ∧ w'.cell? ⟨w4.heap.size, 1, none⟩ = some (.int .i64 b))
        (first | exact hT | exact AgrAt.below hT hql h4l (Below.refl _ _).drew | exact AgrAt.below (by assumption) hql h4l (by assumption))
        (first | (go_at_call 26; refine (hCl.out _ _ _ _ (AgrAt.rd (w0 := wx) (q := w3.heap.size) (g := w4.heap.size) (m := m) (t := t) (a := .int .i64 a) (b := .int .i64 b) (by assumption))).mono ?_; rintro e w6 ⟨rfl, hb6⟩) | (go_at_call 27; refine (hAm.out _ _ _ (AgrAt.rd (w0 := wx) (q := w3.heap.size) (g := w4.heap.size) (m := m) (t := t) (a := .int .i64 a) (b := .int .i64 b) (by assumption))).mono ?_; rintro e w6 ⟨rfl, hb6⟩))
      all_goals
        have hH : AgrAt wx w3.heap.size w4.heap.size m t B cap' L (.int .i64 a) (.int .i64 b) w6 := by assumption
        have hBz := Lib.hid (Below.next hBy.out hBy.out.size hH.1)
        clear hH hT
        go_wp2
        go_ret
        exact ⟨rfl, hBz.out⟩
end Go.Proofs.YtodgkppjabhhlaaDoor
