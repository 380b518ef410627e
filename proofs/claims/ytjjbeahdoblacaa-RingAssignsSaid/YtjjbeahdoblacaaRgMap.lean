/-
  Layer 31: Assign, over a map that the call owns.
-/
import Derived.Test.YtjjbeahdoblacaaRgName
import Derived.Test.YtjjbeahdoblacaaRgUse
import Derived.Maps.Own
import Derived.Maps.OwnOps
namespace Go.Proofs.Ytjjbeahdoblacaa
open Go.Shelf Go.RowKit Go.Lib Go.Sort Rg
theorem keyS : Go.Maps.Keyed Try.prog 9 := Go.Maps.string_keyed Try.underlying9
/-- Block b is a map of at most n entries that reads as D. -/
abbrev OwnsM (w : World) (b n : Nat) (D : DataW Unit) : Prop := w.ownsMap Try.prog 9 (plainElem Try.prog 3) b n D
theorem OwnsM.below {w w' : World} {b n : Nat} {D : DataW Unit} (h : OwnsM w b n D) (hb : Below w.heap.size w w') : OwnsM w' b n D :=
  World.ownsMap.kept (row := Option.none) h ⟨hb.os, hb.tape, hb.output, hb.size, fun i hi _ => hb.block i hi⟩ (by simp)
/-- What it holds at a name. -/
def ldOf (D : DataW Unit) (x : Nm) : Int := match D.atKey (.string x) (.lit (.int .i64 0)) with
  | .lit (.int .i64 c) => c
  | _ => 0
theorem look_at {w : World} {b n : Nat} {D : DataW Unit} (h : OwnsM w b n D) (x : Nm) (hx : x.length ≤ maxLen) : (Instr.lookup 50 (.map (some b)) (.string (str x)) false).run Try.prog w = .ok (.int .i64 (ldOf D x)) w := by
  obtain ⟨c, hrun, hat, _⟩ := World.ownsMap.lookup_int h keyS (t := 50) (e := 3) (q := .i64) Try.underlying50 Try.underlying3 (by kernel_rfl) (key := .string (str x)) (kl := .string x) (Go.WideMaps.keyOf_string_mk Try.underlying9 (by rw [str_size]; exact hx))
  rw [hrun]
  unfold ldOf
  rw [hat]
theorem upd_at {w : World} {b n : Nat} {D : DataW Unit} (h : OwnsM w b n D) (x : Nm) (hx : x.length ≤ maxLen) (hn : n < maxLen) (c : Int) (hc : (Lit.int .i64 c).wf = true) : ∃ w', (Instr.mapUpdate 50 (.map (some b)) (.string (str x)) (.int .i64 c)).run Try.prog w = .ok () w' ∧ (∃ D', OwnsM w' b (n + 1) D') ∧ Kp (fun k => k = b) w w' := by
  obtain ⟨w', hrun, h1, hg⟩ := World.ownsMap.update h keyS (t := 50) (e := 3) Try.underlying50 hn (key := .string (str x)) (val := .int .i64 c) (kl := .string x) (Go.WideMaps.keyOf_string_mk Try.underlying9 (by rw [str_size]; exact hx)) (plainElem_int Try.underlying3 hc)
  exact ⟨w', hrun, ⟨_, h1⟩, (Kp.refl _ _).grown hg (fun k e _ => (Option.some.inj e).symm)⟩
namespace Rg
/-- The first whose load is below the limit. -/
def asg (O : List Nm) (f : Nm → Int) (m : Int) : Option Nm := O.find? fun x => decide (f x < m)
def asgS (o : Option Nm) : Nm := o.getD []
def asgE (o : Option Nm) : Int := if o.isSome then 0 else 10
theorem asg_none {O : List Nm} {f : Nm → Int} {m : Int} {k : Nat} (h : k < O.length) (h1 : (O.take k).find? (fun x => decide (f x < m)) = none) (h2 : ¬ f O[k] < m) : (O.take (k + 1)).find? (fun x => decide (f x < m)) = none := by
  rw [List.take_succ_eq_append_getElem h, List.find?_append, h1]
  simp [h2]
theorem asg_some {O : List Nm} {f : Nm → Int} {m : Int} {k : Nat} (h : k < O.length) (h1 : (O.take k).find? (fun x => decide (f x < m)) = none) (h2 : f O[k] < m) : asg O f m = some O[k] := by
  have e : O = O.take k ++ O[k] :: O.drop (k + 1) := by rw [List.getElem_cons_drop, List.take_append_drop]
  unfold asg
  have : (O.take k ++ O[k] :: O.drop (k + 1)).find? (fun x => decide (f x < m)) = some O[k] := by
    rw [List.find?_append, h1, List.find?_cons_of_pos (by simpa using h2)]; rfl
  rwa [← e] at this
end Rg
set_option maxHeartbeats 4000000 in
theorem assign_any (w : World) (B l b n : Nat) (v1 v2 : Value) (L : List Nd) (D : DataW Unit) (key : Nm) (most : Int) (hr : Ring2 w B l v1 v2 (ascOf L) (ptsOf L)) (hg : Rg.Good L) (hL0 : 0 < L.length) (hL : L.length ≤ 100) (hkey : key.length ≤ 1000000) (hnm : ∀ y ∈ L, y.1.length ≤ maxLen) (hM : OwnsM w b n D) :
    Calls Try.prog 21 #[.pointer (some ⟨l, 0, none⟩), .string (str key), .map (some b), .int .i64 most] w fun e w' => e = .returned (.tuple #[.string (str (asgS (asg (own (ptsOf L) (Sk.hash 255 key)) (ldOf D) most))), errV (asgE (asg (own (ptsOf L) (Sk.hash 255 key)) (ldOf D) most))]) ∧ Below w.heap.size w w' := by
  have hon := owners_any w B l v1 v2 (ascOf L) (ptsOf L) key (L.length : Int) hr (srt_srt _) hg.sub (by rw [hg.len]; omega) (by have := hg.plen; omega) hkey (by omega)
  rw [hg.owners_all _ _ (Int.le_refl _), hg.own_len] at hon
  have hom := Lib.hid (fun x (hx : x ∈ own (ptsOf L) (Sk.hash 255 key)) => (show x.length ≤ maxLen from by
    obtain ⟨y, hy, e⟩ := List.mem_map.1 (hg.own_mem.1 hx)
    rw [← e]; exact hnm y hy))
  have hol := Lib.hid (hg.own_len (Sk.hash 255 key))
  have hal := hg.len
  obtain ⟨A1, c1, rfl, hc1, -, -⟩ := Rd.own hr.nodes
  have c0 : w.cell? ⟨l, 0, none⟩ = some (.slice A1 L.length c1) := by rw [← hal]; exact hr.blk.cell 0
  have hlt := hr.blk.lt
  have g1 : ((L.length : Int) == 0) = false := beq_eq_false_iff_ne.2 (by omega)
  have g2 : ¬ L.length = 0 := by omega
  clear hr hg hnm hal hc1
  generalize own (ptsOf L) (Sk.hash 255 key) = O at *
  go_enter Try.func21, Try.ntmps21
  go_wp2_with fail
  refine hon.mono ?_
  rintro e w1 ⟨o, rfl, ho, hb1⟩
  have hM1 := Lib.hid (hM.below hb1)
  have hO := Lib.hid (Rd.own ho)
  have hB1 := Lib.hid hb1
  obtain ⟨A2, c2, rfl, hc2, -, -⟩ := Rd.own ho
  clear hon ho hb1 hM c0 g1 g2
  go_wp2_with fail
  go_loopw [32] (fun i wr => ∃ k : Nat, i = .int .i64 (k : Int) ∧ k ≤ L.length ∧ wr = w1 ∧ Hid ((O.take k).find? (fun x => decide (ldOf D x < most)) = none)) (fun i _ => L.length - (intOf i).toNat)
  case atStart => exact ⟨0, rfl, by omega, rfl, by simp [Hid]⟩
  case round =>
    obtain ⟨k, rfl, hk, rfl, hf⟩ := hrel
    by_cases hlt2 : k < L.length
    · obtain ⟨A', c', e', -, -, r'⟩ := hO.out
      cases e'
      obtain ⟨g, of, rfl, _, x1⟩ := r' (by omega)
      have hkO : k < O.length := by rw [hol.out]; exact hlt2
      have t0 : wr.cell? ⟨g, of + k, none⟩ = some (.string (str O[k])) := x1 k _ (strs_at hkO)
      have hlk := look_at hM1.out O[k] (hom.out _ (List.getElem_mem hkO))
      have g1 : (0 : Int) ≤ (k : Int) := by omega
      have g2 : (k : Int) < (L.length : Int) := by omega
      by_cases hlo : ldOf D O[k] < most
      · have hs := Lib.hid (asg_some hkO hf.out hlo)
        have d1 : decide (ldOf D O[k] < most) = true := decide_eq_true hlo
        clear x1 r' hf
        generalize hx : O[k] = x at *
        generalize ldOf D x = c at *
        clear hx
        go_wp2_with fail
        go_ret2
        exact ⟨by rw [hs.out]; rfl, hB1.out⟩
      · have hn := Lib.hid (asg_none hkO hf.out hlo)
        have d1 : decide (ldOf D O[k] < most) = false := decide_eq_false hlo
        clear x1 r' hf
        generalize hx : O[k] = x at *
        generalize hc : ldOf D x = c at *
        clear hx hc
        go_wp2_with fail
        go_roundw
        case rel => exact ⟨k + 1, by go_num, by omega, by first | rfl | trivial, hn.out⟩
        case measure => simp [intOf]; omega
    · have hn : Hid (asg O (ldOf D) most = none) := by
        have := hf.out
        rw [List.take_of_length_le (by rw [hol.out]; omega)] at this
        exact this
      clear hf
      go_wp2_with fail
      go_ret2
      exact ⟨by rw [hn.out]; rfl, hB1.out⟩
end Go.Proofs.Ytjjbeahdoblacaa
