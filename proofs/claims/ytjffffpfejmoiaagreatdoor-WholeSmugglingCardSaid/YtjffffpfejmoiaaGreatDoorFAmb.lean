/-
  The code's Ambiguous.
-/
import Derived.Test.YtjffffpfejmoiaaGreatDoorFLen
import Derived.Deep.RegionHeld3
import Derived.Deep.DrawnRows
namespace Go.Proofs.YtjffffpfejmoiaaGreatDoor
open Go.RowKit Syn Fr
attribute [local go_sem ↓] Go.wp_at_zero Go.wp_at_succ

/-- Do the careless readers differ? -/
def amb (L : List (Bytes × Bytes)) : Bool := (lenN (allV L cl)).isSome && chk (allV L te)
theorem lenient_two (L : List (Bytes × Bytes)) : (amb L = false ∧ lenient L true = lenient L false) ∨ (amb L = true ∧ ∃ n, lenient L true = (2, n) ∧ lenient L false = (3, 0)) := by
  unfold amb lenient lenientOf
  cases lenN (allV L cl) with
  | none => left; exact ⟨rfl, rfl⟩
  | some n =>
    cases chk (allV L te)
    · left; exact ⟨rfl, rfl⟩
    · right; exact ⟨rfl, n, rfl, rfl⟩
/-- A request that stands in a block. -/
def ReqAt (w0 : World) (G : Nat) (m t : ByteArray) (A : Option Addr) (cap : Nat) (L : List (Bytes × Bytes)) (w' : World) : Prop :=
  Below w0.heap.size w0 w' ∧ Rd w' 2 (.slice A L.length cap) L.length (prs L) ∧ w'.cell? ⟨G, 0, none⟩ = some (.string m) ∧ w'.cell? ⟨G, 1, none⟩ = some (.string t) ∧ w'.cell? ⟨G, 2, none⟩ = some (.slice A L.length cap)
theorem ReqAt.below {w0 w' w'' : World} {G : Nat} {m t : ByteArray} {A : Option Addr} {cap : Nat} {L : List (Bytes × Bytes)} (h : ReqAt w0 G m t A cap L w') (hG : G < w0.heap.size) (hb : Below w'.heap.size w' w'') : ReqAt w0 G m t A cap L w'' := by
  have hs := h.1.size
  have hl : G < w'.heap.size := by omega
  exact ⟨h.1.trans (hb.mono hs), h.2.1.below hb, (hb.cell (p := ⟨G, 0, none⟩) hl).trans h.2.2.1, (hb.cell (p := ⟨G, 1, none⟩) hl).trans h.2.2.2.1, (hb.cell (p := ⟨G, 2, none⟩) hl).trans h.2.2.2.2⟩
theorem ReqAt.rd {w0 w' : World} {G : Nat} {m t : ByteArray} {A : Option Addr} {cap : Nat} {L : List (Bytes × Bytes)} (h : ReqAt w0 G m t A cap L w') : Rd w' 2 (.slice A L.length cap) L.length (prs L) := h.2.1
set_option maxRecDepth 100000 in
set_option maxHeartbeats 16000000 in
theorem ambiguous_any (L : List (Bytes × Bytes)) (m t : ByteArray) (A : Option Addr) (cap : Nat) (w : World) (hF : Few L) (hR : Rd w 2 (.slice A L.length cap) L.length (prs L)) :
    Calls Tryz.prog 8 #[.agg #[.string m, .string t, .slice A L.length cap]] w fun e w' => e = .returned (.bool (amb L)) ∧ Below w.heap.size w w' := by
  obtain ⟨G, hG⟩ : ∃ G, w.heap.size = G := ⟨_, rfl⟩
  have hC : ∀ (f : Bool) w, Rd w 2 (.slice A L.length cap) L.length (prs L) → Calls Tryz.prog 29 #[.agg #[.string m, .string t, .slice A L.length cap], .bool f] w fun e w' => e = .returned (.agg #[.int .i64 ((lenient L f).1 : Int), .int .i64 ((lenient L f).2 : Int)]) ∧ Below w.heap.size w w' := fun f w h => lenient_any L m t A cap f w hF h
  have hlt : (amb L = false ∧ (((lenient L true).1 : Int) == ((lenient L false).1 : Int)) = true ∧ (((lenient L true).2 : Int) == ((lenient L false).2 : Int)) = true) ∨ (amb L = true ∧ (((lenient L true).1 : Int) == ((lenient L false).1 : Int)) = false) := by
    rcases lenient_two L with ⟨h1, h2⟩ | ⟨h1, n, h2, h3⟩
    · exact .inl ⟨h1, by rw [h2]; exact beq_self_eq_true _, by rw [h2]; exact beq_self_eq_true _⟩
    · exact .inr ⟨h1, by rw [h2, h3]; rfl⟩
  obtain ⟨am, ha⟩ : ∃ a, a = amb L := ⟨_, rfl⟩
  rw [← ha] at hlt ⊢
  clear ha
  obtain ⟨av, hav⟩ : ∃ av : Bool → Int, av = fun f => ((lenient L f).1 : Int) := ⟨_, rfl⟩
  obtain ⟨bv, hbv⟩ : ∃ bv : Bool → Int, bv = fun f => ((lenient L f).2 : Int) := ⟨_, rfl⟩
  replace hC : ∀ (f : Bool) w, Rd w 2 (.slice A L.length cap) L.length (prs L) → Calls Tryz.prog 29 #[.agg #[.string m, .string t, .slice A L.length cap], .bool f] w fun e w' => e = .returned (.agg #[.int .i64 (av f), .int .i64 (bv f)]) ∧ Below w.heap.size w w' := fun f w h => by rw [hav, hbv]; exact hC f w h
  replace hlt : (am = false ∧ (av true == av false) = true ∧ (bv true == bv false) = true) ∨ (am = true ∧ (av true == av false) = false) := by rw [hav, hbv]; exact hlt
  clear hav hbv
  replace hC := Lib.hid hC
  replace hlt := Lib.hid hlt
  replace hR := Lib.hid hR
  go_enter Tryz.func8, Tryz.ntmps8
  go_wp2_with fail
  have hX := Blk.new w 30 #[.string m, .string t, .slice A L.length cap]
  have hB0 := (Below.refl w.heap.size w).alloc (Nat.le_refl _) (.cells #[.string m, .string t, .slice A L.length cap] 30)
  have hGl : G < (w.alloc (.cells #[.string m, .string t, .slice A L.length cap] 30)).heap.size := by rw [alloc_size']; omega
  rw [hG] at hX
  generalize w.alloc (.cells #[.string m, .string t, .slice A L.length cap] 30) = w2 at *
  have hS : ReqAt w2 G m t A cap L w2 := ⟨Below.refl _ _, hR.out.below hB0, hX.cell 0, hX.cell 1, hX.cell 2⟩
  have d0 : w2.cell? ⟨G, 0, none⟩ = some (.string m) := hX.cell 0
  have d1 : w2.cell? ⟨G, 1, none⟩ = some (.string t) := hX.cell 1
  have d2 : w2.cell? ⟨G, 2, none⟩ = some (.slice A L.length cap) := hX.cell 2
  replace hB0 := Lib.hid hB0
  clear hX
  rcases hlt.out with ⟨h1, h2, h3⟩ | ⟨h1, h2⟩
  · subst h1
    go_region_held3 (fun w' => Below w2.heap.size w2 w' ∧ Rd w' 2 (.slice A L.length cap) L.length (prs L) ∧ w'.cell? ⟨G, 0, none⟩ = some (.string m) ∧ w'.cell? ⟨G, 1, none⟩ = some (.string t) ∧ w'.cell? ⟨G, 2, none⟩ = some (.slice A L.length cap))
      (first | exact hS | exact ReqAt.below hS hGl (Below.refl _ _).drew | exact ReqAt.below (by assumption) hGl (by assumption))
      (first | (go_at_call 29; refine (hC.out _ _ (ReqAt.rd (w0 := w2) (G := G) (m := m) (t := t) (by assumption))).mono ?_; rintro e w6 ⟨rfl, hb6⟩))
    all_goals
      have hH : ReqAt w2 G m t A cap L w6 := by assumption
      have hBz := Lib.hid (Below.next hB0.out hB0.out.size hH.1)
      clear hH hS d0 d1 d2
      go_wp2
      go_ret
      exact ⟨rfl, hBz.out⟩
  · subst h1
    go_region_held3 (fun w' => Below w2.heap.size w2 w' ∧ Rd w' 2 (.slice A L.length cap) L.length (prs L) ∧ w'.cell? ⟨G, 0, none⟩ = some (.string m) ∧ w'.cell? ⟨G, 1, none⟩ = some (.string t) ∧ w'.cell? ⟨G, 2, none⟩ = some (.slice A L.length cap))
      (first | exact hS | exact ReqAt.below hS hGl (Below.refl _ _).drew | exact ReqAt.below (by assumption) hGl (by assumption))
      (first | (go_at_call 29; refine (hC.out _ _ (ReqAt.rd (w0 := w2) (G := G) (m := m) (t := t) (by assumption))).mono ?_; rintro e w6 ⟨rfl, hb6⟩))
    all_goals
      have hH : ReqAt w2 G m t A cap L w6 := by assumption
      have hBz := Lib.hid (Below.next hB0.out hB0.out.size hH.1)
      clear hH hS d0 d1 d2
      go_wp2
      go_ret
      exact ⟨rfl, hBz.out⟩
end Go.Proofs.YtjffffpfejmoiaaGreatDoor
