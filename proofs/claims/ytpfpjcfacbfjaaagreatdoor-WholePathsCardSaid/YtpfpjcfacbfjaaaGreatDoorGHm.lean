/-
  Several texts in one: WMem, WHealth.
-/
import Derived.Test.YtpfpjcfacbfjaaaGreatDoorRgPlain
import Derived.Test.YtpfpjcfacbfjaaaGreatDoorKp
import Derived.Maps.Own
import Derived.Maps.OwnOps
import Derived.Maps.OwnSet
import Derived.Maps.RangeWalk
import Derived.Deep.RegionHeld3
import Derived.Deep.RegionLaw
import Derived.Deep.CutRange
import Derived.IntWalk
/-
  Layer 32: the checks of the nodes in memory; what is kept beside a ring.
-/
namespace Go.Proofs.YtpfpjcfacbfjaaaGreatDoor
open Go.Shelf Go.RowKit Go.Lib Go.Sort Rg
theorem keyS : Go.Maps.Keyed Tryz.prog 9 := Go.Maps.string_keyed Tryz.underlying9
theorem keyS_of (x : Nm) (hx : x.length ≤ maxLen) : keyOf Tryz.prog 9 (.string (str x)) = some (.string x) := Go.WideMaps.keyOf_string_mk Tryz.underlying9 (by rw [str_size]; exact hx)
/-- A node's state and its run. -/
abbrev St2 := Int × Int
def stD (s : St2) : DataW Unit := .agg [.lit (.int .i64 s.1), .lit (.int .i64 s.2)]
def stV (s : St2) : Value := .agg #[.int .i64 s.1, .int .i64 s.2]
/-- How a state reads. -/
def Rst : Value → Option (DataW Unit × List MemPlace)
  | .agg cs => match cs.toList with
    | [.int .i64 a, .int .i64 b] => some (stD (a, b), [])
    | _ => none
  | _ => none
theorem Rst_mk (s : St2) : Rst (stV s) = some (stD s, []) := rfl
theorem Rst_inv {v : Value} {z : DataW Unit × List MemPlace} (h : Rst v = some z) : ∃ s : St2, v = stV s ∧ z = (stD s, []) := by
  unfold Rst at h
  split at h
  · next cs =>
    split at h
    · next a b e =>
      refine ⟨(a, b), ?_, (Option.some.inj h).symm⟩
      have : cs = #[.int .i64 a, .int .i64 b] := Array.toList_inj.1 e
      rw [this]; rfl
    · cases h
  · cases h
theorem stD_inj {s t : St2} (h : stD s = stD t) : s = t := by
  unfold stD at h
  simp only [DataW.agg.injEq, List.cons.injEq, DataW.lit.injEq, Lit.int.injEq, true_and, and_true] at h
  exact Prod.ext h.1 h.2
/-- A map's block is no owned row. -/
theorem Own.notMap {w : World} {B sz n g : Nat} {e : TypeId} {v : Value} {xs : List Value} {es : Array MapEntry} {cl : Nat} (h : Own w B e sz v n xs) (hb : w.heap[g]? = some (.map es cl)) : v.ownBlock ≠ some g := by
  intro hk
  rcases h.2 with ⟨rfl, _⟩ | ⟨g', cap, cur, rfl, _, hg, _⟩
  · cases hk
  · simp only [Value.ownBlock, Option.some.injEq] at hk
    subst hk
    rw [hb] at hg
    cases hg
theorem Blk.notMap {w : World} {g : Nat} {t : TypeId} {cs : Array Value} {es : Array MapEntry} {cl : Nat} (h : Blk w g t cs) {m : Nat} (hb : w.heap[m]? = some (.map es cl)) : g ≠ m := by
  rintro rfl
  unfold Blk at h
  rw [hb] at h
  cases h
/-- What reads stays while a map turns. -/
theorem Rd.map {w w' : World} {n m : Nat} {v : Value} {xs : List Value} {es : Array MapEntry} {cl : Nat} (h : Rd w 1 v n xs) (hb : w.heap[m]? = some (.map es cl)) (hk : Kp (fun k => k = m) w w') : Rd w' 1 v n xs := by
  obtain ⟨A, cap, e, hc, hl, h⟩ := h
  refine ⟨A, cap, e, hc, hl, fun hn => ?_⟩
  obtain ⟨b, off, e1, hlt, hx⟩ := h hn
  refine ⟨b, off, e1, Nat.lt_of_lt_of_le hlt hk.size, fun j u hu => ?_⟩
  have hne : b ≠ m := by
    rintro rfl
    have := hx j u hu
    simp [World.cell?, hb] at this
  rw [hk.cell (p := ⟨b, off + j, none⟩) hlt hne]; exact hx j u hu
theorem ownsMap_kp {F : Nat → Prop} {w w' : World} {k : TypeId} {R : Value → Option (DataW Unit × List MemPlace)} {b n : Nat} {D : DataW Unit} (h : w.ownsMap Tryz.prog k R b n D) (hb : ¬ F b) (hk : Kp F w w') : w'.ownsMap Tryz.prog k R b n D := by
  have hlt := h.lt
  obtain ⟨es, cl, hg, r⟩ := h
  exact ⟨es, cl, (hk.block b hlt hb).trans hg, r⟩
theorem ownsMap_map {w : World} {k : TypeId} {R : Value → Option (DataW Unit × List MemPlace)} {b n : Nat} {D : DataW Unit} (h : w.ownsMap Tryz.prog k R b n D) : ∃ es cl, w.heap[b]? = some (.map es cl) := by
  obtain ⟨es, cl, hg, _⟩ := h
  exact ⟨es, cl, hg⟩
/-- The checks at c (rise 1, fall 2): S = the states, Dr = who is drained; K = who may be in the table. -/
structure HC (w : World) (c m1 m2 n : Nat) (K : List Nm) (S : Nm → St2) (Dr : Nm → Bool) : Prop where
  blk : Blk w c 56 #[.int .i64 1, .int .i64 2, .map (some m1), .map (some m2)]
  nd : ∃ D : DataW Unit, w.ownsMap Tryz.prog 9 Rst m1 n D ∧ (∀ x : Nm, D.atKey (.string x) (stD (0, 0)) = stD (S x)) ∧ (∀ x : Nm, Go.Maps.has D (.string x) = true → x ∈ K)
  ne : m2 ≠ m1
  dr : ∃ D : DataW Unit, w.ownsMap Tryz.prog 9 (plainElem Tryz.prog 4) m2 n D ∧ ∀ x : Nm, D.atKey (.string x) (.lit (.bool false)) = .lit (.bool (Dr x))
section
variable {w w' : World} {c m1 m2 n : Nat} {K : List Nm} {S : Nm → St2} {Dr : Nm → Bool}
theorem HC.kp {F : Nat → Prop} (h : HC w c m1 m2 n K S Dr) (hc : ¬ F c) (h1 : ¬ F m1) (h2 : ¬ F m2) (hk : Kp F w w') : HC w' c m1 m2 n K S Dr := by
  obtain ⟨D1, d1, e1⟩ := h.nd
  obtain ⟨D2, d2, e2⟩ := h.dr
  exact ⟨h.blk.kp hc hk, ⟨D1, ownsMap_kp d1 h1 hk, e1⟩, h.ne, ⟨D2, ownsMap_kp d2 h2 hk, e2⟩⟩
theorem HC.below (h : HC w c m1 m2 n K S Dr) (hb : Below w.heap.size w w') : HC w' c m1 m2 n K S Dr :=
  h.kp (F := fun _ => False) id id id ((Kp.refl _ w).below hb)
theorem HC.mono {n' : Nat} (h : HC w c m1 m2 n K S Dr) (hn : n ≤ n') : HC w c m1 m2 n' K S Dr := by
  obtain ⟨D1, d1, e1⟩ := h.nd
  obtain ⟨D2, d2, e2⟩ := h.dr
  exact ⟨h.blk, ⟨D1, d1.mono hn, e1⟩, h.ne, ⟨D2, d2.mono hn, e2⟩⟩
theorem HC.map1 (h : HC w c m1 m2 n K S Dr) : ∃ es cl, w.heap[m1]? = some (.map es cl) := by
  obtain ⟨D, d, _⟩ := h.nd; exact ownsMap_map d
theorem HC.map2 (h : HC w c m1 m2 n K S Dr) : ∃ es cl, w.heap[m2]? = some (.map es cl) := by
  obtain ⟨D, d, _⟩ := h.dr; exact ownsMap_map d
theorem Own.map {B sz m : Nat} {e : TypeId} {v : Value} {xs : List Value} {es : Array MapEntry} {cl k : Nat} (h : Own w B e sz v k xs) (hb : w.heap[m]? = some (.map es cl)) (hk : Kp (fun k => k = m) w w') : Own w' B e sz v k xs :=
  h.kp (fun k hk' e => Own.notMap h hb (by rw [hk', e])) hk
/-- The state of one node turns. -/
def upd {α : Type} (S : Nm → α) (x : Nm) (v : α) : Nm → α := fun y => if y = x then v else S y
end
end Go.Proofs.YtpfpjcfacbfjaaaGreatDoor
/-
  Layer 32: New, State, Report of the checks.
-/
namespace Go.Proofs.YtpfpjcfacbfjaaaGreatDoor
open Go.Shelf Go.RowKit Go.Lib Go.Sort Rg
theorem KLs (x : Nm) : WideAt.IsKeyLit (.string x) := by unfold WideAt.IsKeyLit; trivial
theorem plainB_inv {P : Program} {e : TypeId} (he : P.underlying e = some .bool) {v : Value} {z : DataW Unit × List MemPlace} (h : plainElem P e v = some z) : ∃ b, v = .bool b ∧ z = (.lit (.bool b), []) := by
  unfold plainElem at h
  rw [he] at h
  cases v <;> simp at h
  subst h
  exact ⟨_, rfl, rfl⟩
theorem hnew_any (K : List Nm) (w : World) : Calls Tryz.prog 6 #[.int .i64 1, .int .i64 2] w fun e w' => ∃ c m1 m2, e = .returned (.tuple #[.pointer (some ⟨c, 0, none⟩), .nilIface]) ∧ HC w' c m1 m2 0 K (fun _ => (0, 0)) (fun _ => false) ∧ (w.heap.size ≤ m1 ∧ w.heap.size ≤ m2) ∧ Below w.heap.size w w' := by
  have hmm := @run_makeMap Tryz.prog
  have hm2 := fun o => (show ((w.alloc (.map #[] 0)).alloc (.map #[] 0)).alloc o |>.ownsMap Tryz.prog 9 (plainElem Tryz.prog 4) (w.heap.size + 1) 0 (DataW.map (H := Unit) []) from by
    have := (World.ownsMap_made (w.alloc (.map #[] 0)) Tryz.prog 9 (plainElem (H := Unit) Tryz.prog 4)).alloc o
    rwa [show (w.alloc (.map #[] 0)).heap.size = w.heap.size + 1 by simp] at this)
  go_enter Tryz.func6, Tryz.ntmps6
  go_wp2_with fail
  go_ret2
  refine ⟨_, _, _, rfl, ⟨by have := Blk.new ((w.alloc (.map #[] 0)).alloc (.map #[] 0)) 56 #[.int .i64 1, .int .i64 2, .map (some w.heap.size), .map (some (w.heap.size + 1))]; rwa [show ((w.alloc (.map #[] 0)).alloc (.map #[] 0)).heap.size = w.heap.size + 1 + 1 by simp] at this, ⟨_, ((World.ownsMap_made w _ _ _).alloc _).alloc _, fun _ => rfl, fun _ h => by cases h⟩, by omega, ⟨_, hm2 _, fun _ => rfl⟩⟩, ⟨Nat.le_refl _, Nat.le_succ _⟩, (((Below.refl _ _).alloc (Nat.le_refl _) _).alloc (by simp) _).alloc (by simp; omega) _⟩
/-- The state of a node, looked up. -/
theorem stlook {w : World} {c m1 m2 n : Nat} {K : List Nm} {S : Nm → St2} {Dr : Nm → Bool} (h : HC w c m1 m2 n K S Dr) (x : Nm) (hx : x.length ≤ maxLen) : (Instr.lookup 53 (.map (some m1)) (.string (str x)) false).run Tryz.prog w = .ok (stV (S x)) w := by
  obtain ⟨D, d, e, -⟩ := h.nd
  obtain ⟨v, ps, hrun, hv⟩ := d.lookup keyS (t := 53) (e := 67) Tryz.underlying53 (z := stV (0, 0)) (by kernel_rfl) (Rst_mk (0, 0)) (keyS_of x hx)
  obtain ⟨s, rfl, hs⟩ := Rst_inv hv
  rw [hrun]
  have : stD s = stD (S x) := by rw [← e x]; exact (congrArg Prod.fst hs).symm
  rw [stD_inj this]
/-- Who is drained, looked up. -/
theorem drlook {w : World} {c m1 m2 n : Nat} {K : List Nm} {S : Nm → St2} {Dr : Nm → Bool} (h : HC w c m1 m2 n K S Dr) (x : Nm) (hx : x.length ≤ maxLen) : (Instr.lookup 54 (.map (some m2)) (.string (str x)) false).run Tryz.prog w = .ok (.bool (Dr x)) w := by
  obtain ⟨D, d, e⟩ := h.dr
  obtain ⟨v, ps, hrun, hv⟩ := d.lookup keyS (t := 54) (e := 4) Tryz.underlying54 (z := .bool false) (by kernel_rfl) (plainElem_bool Tryz.underlying4 false) (keyS_of x hx)
  rw [e x] at hv
  rw [hrun]
  obtain ⟨b, rfl, hb⟩ := plainB_inv Tryz.underlying4 hv
  simp only [Prod.mk.injEq, DataW.lit.injEq, Lit.bool.injEq] at hb
  rw [hb.1]
/-- A state set. -/
theorem stset {w : World} {c m1 m2 n : Nat} {K : List Nm} {S : Nm → St2} {Dr : Nm → Bool} (h : HC w c m1 m2 n K S Dr) (hn : n < maxLen) (x : Nm) (hx : x.length ≤ maxLen) (hK : x ∈ K) (s : St2) : ∃ w', (Instr.mapUpdate 53 (.map (some m1)) (.string (str x)) (stV s)).run Tryz.prog w = .ok () w' ∧ HC w' c m1 m2 (n + 1) K (upd S x s) Dr ∧ Kp (fun k => k = m1) w w' := by
  obtain ⟨D, d, e, hk⟩ := h.nd
  obtain ⟨D2, d2, e2⟩ := h.dr
  obtain ⟨w', hrun, h1, hg⟩ := d.update keyS (t := 53) (e := 67) Tryz.underlying53 hn (key := .string (str x)) (val := stV s) (keyS_of x hx) (Rst_mk s)
  have hkp : Kp (fun k => k = m1) w w' := (Kp.refl _ _).grown hg (fun k e _ => (Option.some.inj e).symm)
  obtain ⟨es1, cl1, g1⟩ := ownsMap_map d
  obtain ⟨es2, cl2, g2⟩ := ownsMap_map d2
  refine ⟨w', hrun, ⟨h.blk.kp (F := fun k => k = m1) (Blk.notMap h.blk g1) hkp, ⟨_, h1, fun y => ?_, fun y hy => ?_⟩, h.ne, ⟨D2, (ownsMap_kp d2 h.ne hkp).mono (Nat.le_succ _), e2⟩⟩, hkp⟩
  · unfold upd
    by_cases hy : y = x
    · subst hy
      rw [if_pos rfl, Go.Maps.atKey_put_same d.isMap (by exact KLs y)]
    · rw [if_neg hy, Go.Maps.atKey_put_other (fun e => hy (by injection e))]
      exact e y
  · by_cases hyx : y = x
    · rw [hyx]; exact hK
    · rw [Go.Maps.has_put_other (fun e => hyx (by injection e))] at hy
      exact hk y hy
/-- What a report makes of a state (rise 1, fall 2). -/
def rep (s : St2) (ok : Bool) : St2 := if ok then (1, 0) else if s.1 = 0 ∨ s.1 = 2 ∨ 1 ≤ s.2 then (2, 0) else (s.1, s.2 + 1)
set_option maxRecDepth 100000 in
theorem state_any (w : World) (c m1 m2 n : Nat) (K : List Nm) (S : Nm → St2) (Dr : Nm → Bool) (x : Nm) (hx : x.length ≤ maxLen) (h : HC w c m1 m2 n K S Dr) : Calls Tryz.prog 11 #[.pointer (some ⟨c, 0, none⟩), .string (str x)] w fun e w' => e = .returned (.int .i64 (S x).1) ∧ w' = w := by
  have hlk := stlook h x hx
  obtain ⟨a, b, hab⟩ : ∃ a b, S x = (a, b) := ⟨_, _, rfl⟩
  rw [hab] at hlk ⊢
  replace hlk : _ = Result.ok (Value.agg #[.int .i64 a, .int .i64 b]) w := hlk
  have c2 : w.cell? ⟨c, 2, none⟩ = some (.map (some m1)) := h.blk.cell 2
  have hlt := h.blk.lt
  have hfd : ∀ w : World, (Instr.field 67 (.agg #[.int .i64 a, .int .i64 b]) 0).run Tryz.prog w = .ok (.int .i64 a) w := fun _ => by kernel_rfl
  clear h hab hx
  go_enter Tryz.func11, Tryz.ntmps11
  go_wp2_with fail
  go_ret
  exact ⟨rfl, rfl⟩
/-- What holds behind a store into the table, in each of the worlds in which it may come. -/
def After (w : World) (c m1 m2 n : Nat) (K : List Nm) (S : Nm → St2) (Dr : Nm → Bool) (x : Nm) (s : St2) (T : Nat) (U : World) : Prop := Hid (HC U c m1 m2 (n + 1) K (upd S x s) Dr ∧ Kp (fun k => k = m1) w U) ∧ U.cell? ⟨c, 2, none⟩ = some (.map (some m1)) ∧ U.cell? ⟨T, 0, none⟩ = some (.int .i64 s.1) ∧ U.cell? ⟨T, 1, none⟩ = some (.int .i64 s.2)
theorem sets3 {w wc : World} {c m1 m2 n : Nat} {K : List Nm} {S : Nm → St2} {Dr : Nm → Bool} (h : HC wc c m1 m2 n K S Dr ∧ Kp (fun k => k = m1) w wc) (hn : n < maxLen) (x : Nm) (hx : x.length ≤ maxLen) (hK : x ∈ K) (a b : Int) (W : World) (hW : Below wc.heap.size wc W) (T : Nat) (hT : W.cell? ⟨T, 0, none⟩ = some (.int .i64 a)) (hT1 : W.cell? ⟨T, 1, none⟩ = some (.int .i64 b)) :
    ∃ U, (Instr.mapUpdate 53 (.map (some m1)) (.string (str x)) (.agg #[.int .i64 a, .int .i64 b])).run Tryz.prog W = .ok () U ∧ After w c m1 m2 n K S Dr x (a, b) T U := by
  have hW2 := h.1.below hW
  obtain ⟨U, h1, h2, h3⟩ := stset hW2 hn x hx hK (a, b)
  refine ⟨U, h1, ⟨h2, (h.2.below hW).trans h3⟩, h2.blk.cell 2, ?_⟩
  obtain ⟨es, cl, hm⟩ := hW2.map1
  have hne : T ≠ m1 := by
    rintro rfl
    simp [World.cell?, hm] at hT
  have hlt : T < W.heap.size := by
    rcases Nat.lt_or_ge T W.heap.size with h | h
    · exact h
    · simp [World.cell?, Array.getElem?_eq_none h] at hT
  rw [h3.cell (p := ⟨T, 0, none⟩) hlt hne, h3.cell (p := ⟨T, 1, none⟩) hlt hne]; exact ⟨hT, hT1⟩
theorem rdrew {w w' : World} {c m1 m2 n : Nat} {K : List Nm} {S : Nm → St2} {Dr : Nm → Bool} {u0 u1 u2 : Value} (h : Hid (HC w' c m1 m2 n K S Dr ∧ Kp (fun k => k = m1) w w') ∧ w'.cell? ⟨c, 0, none⟩ = some u0 ∧ w'.cell? ⟨c, 1, none⟩ = some u1 ∧ w'.cell? ⟨c, 2, none⟩ = some u2) :
    Hid (HC w'.drew c m1 m2 n K S Dr ∧ Kp (fun k => k = m1) w w'.drew) ∧ w'.drew.cell? ⟨c, 0, none⟩ = some u0 ∧ w'.drew.cell? ⟨c, 1, none⟩ = some u1 ∧ w'.drew.cell? ⟨c, 2, none⟩ = some u2 :=
  ⟨⟨h.1.out.1.below ((Below.refl _ _).drew), h.1.out.2.drew⟩, h.2⟩
set_option maxRecDepth 100000 in
set_option maxHeartbeats 2000000 in
theorem report_yes (w : World) (c m1 m2 n : Nat) (K : List Nm) (S : Nm → St2) (Dr : Nm → Bool) (x : Nm) (hx : x.length ≤ maxLen) (hK : x ∈ K) (hn : n < maxLen) (h0 : 0 ≤ (S x).2) (h9 : (S x).2 ≤ 1000) (h : HC w c m1 m2 n K S Dr) : Calls Tryz.prog 9 #[.pointer (some ⟨c, 0, none⟩), .string (str x), .bool true] w fun e w' => (∃ r, e = .returned r) ∧ HC w' c m1 m2 (n + 1) K (upd S x (rep (S x) true)) Dr ∧ Kp (fun k => k = m1) w w' := by
  have hlk := Lib.hid (fun W (hb : HC W c m1 m2 n K S Dr) => stlook hb x hx)
  have hs9 := Lib.hid (fun wc h a b W hW T hT hT1 => sets3 (w := w) (wc := wc) (c := c) (m1 := m1) (m2 := m2) (S := S) (Dr := Dr) h hn x hx hK a b W hW T hT hT1)
  have c0 : w.cell? ⟨c, 0, none⟩ = some (.int .i64 1) := h.blk.cell 0
  have c1 : w.cell? ⟨c, 1, none⟩ = some (.int .i64 2) := h.blk.cell 1
  have c2 : w.cell? ⟨c, 2, none⟩ = some (.map (some m1)) := h.blk.cell 2
  have hS : Hid (HC w c m1 m2 n K S Dr ∧ Kp (fun k => k = m1) w w) ∧ w.cell? ⟨c, 0, none⟩ = some (.int .i64 1) ∧ w.cell? ⟨c, 1, none⟩ = some (.int .i64 2) ∧ w.cell? ⟨c, 2, none⟩ = some (.map (some m1)) := ⟨⟨h, Kp.refl _ _⟩, c0, c1, c2⟩
  have hcs := Lib.hid h.blk.lt
  clear h hn hK hx
  go_enter Tryz.func9, Tryz.ntmps9
  go_upto_region 3 with fail
  go_cut [7, 8] from 3 (fun c7 c8 wx => c7 = .int .i64 2 ∧ c8 = .int .i64 2 ∧ Hid (HC wx c m1 m2 n K S Dr ∧ Kp (fun k => k = m1) w wx) ∧ wx.cell? ⟨c, 0, none⟩ = some (.int .i64 1) ∧ wx.cell? ⟨c, 1, none⟩ = some (.int .i64 2) ∧ wx.cell? ⟨c, 2, none⟩ = some (.map (some m1)))
  case first =>
    go_region_held3 (fun w' => Hid (HC w' c m1 m2 n K S Dr ∧ Kp (fun k => k = m1) w w') ∧ w'.cell? ⟨c, 0, none⟩ = some (.int .i64 1) ∧ w'.cell? ⟨c, 1, none⟩ = some (.int .i64 2) ∧ w'.cell? ⟨c, 2, none⟩ = some (.map (some m1)))
      (first | exact hS | exact rdrew hS | exact rdrew (by assumption))
      (fail)
    all_goals
      rename_i hHeld
      go_wp2_with fail
      go_meet
      exact ⟨rfl, rfl, hHeld⟩
  case rest =>
    obtain ⟨rfl, rfl, hS2, d0, d1, d2⟩ := hcut
    have hT := And.intro hS2 (And.intro d0 (And.intro d1 d2))
    clear hS c0 c1 c2
    go_upto_region 5 with fail
    go_cut [7, 8] from 5 (fun c7 c8 wx => c7 = .int .i64 1 ∧ c8 = .int .i64 1 ∧ Hid (HC wx c m1 m2 n K S Dr ∧ Kp (fun k => k = m1) w wx) ∧ wx.cell? ⟨c, 0, none⟩ = some (.int .i64 1) ∧ wx.cell? ⟨c, 1, none⟩ = some (.int .i64 2) ∧ wx.cell? ⟨c, 2, none⟩ = some (.map (some m1)))
    case first =>
      go_region_held3 (fun w' => Hid (HC w' c m1 m2 n K S Dr ∧ Kp (fun k => k = m1) w w') ∧ w'.cell? ⟨c, 0, none⟩ = some (.int .i64 1) ∧ w'.cell? ⟨c, 1, none⟩ = some (.int .i64 2) ∧ w'.cell? ⟨c, 2, none⟩ = some (.map (some m1)))
        (first | exact hT | exact rdrew hT | exact rdrew (by assumption))
        (fail)
      all_goals
        rename_i hHeld
        go_wp2_with fail
        go_meet
        exact ⟨rfl, rfl, hHeld⟩
    case rest =>
      obtain ⟨rfl, rfl, hS3, e0, e1, e2⟩ := hcut
      clear hT hS2 d0 d1 d2
      have hl := hlk.out _ hS3.out.1
      have hg := hS3.out.1.blk.lt
      obtain ⟨a, b, hab⟩ : ∃ a b, S x = (a, b) := ⟨_, _, rfl⟩
      rw [hab] at hl h0 h9
      replace hl : _ = Result.ok (Value.agg #[.int .i64 a, .int .i64 b]) _ := hl
      replace h0 : 0 ≤ b := h0
      replace h9 : b ≤ 1000 := h9
      have g3 : ¬ b + 1 < 1 := by omega
      have hrep := Lib.hid (show rep (S x) true = (1, 0) from rfl)
      clear hab
      by_cases ha0 : a = 0
      · subst ha0
        have hBW := (Below.refl wc.heap.size wc).alloc (Nat.le_refl _) (.cells #[.int .i64 1, .int .i64 0] 67)
        have t0 : (wc.alloc (.cells #[.int .i64 1, .int .i64 0] 67)).cell? ⟨wc.heap.size, 0, none⟩ = some (.int .i64 1) := (Blk.new wc _ _).cell 0
        have t1 : (wc.alloc (.cells #[.int .i64 1, .int .i64 0] 67)).cell? ⟨wc.heap.size, 1, none⟩ = some (.int .i64 0) := (Blk.new wc _ _).cell 1
        have t2 : (wc.alloc (.cells #[.int .i64 1, .int .i64 0] 67)).cell? ⟨c, 2, none⟩ = some (.map (some m1)) := (hS3.out.1.blk.below hBW).cell 2
        have hA := And.intro t2 (And.intro t0 t1)
        obtain ⟨U0, q0, r0⟩ := hs9.out wc hS3.out 1 0 _ hBW _ t0 t1
        obtain ⟨U1, q1, r1⟩ := hs9.out wc hS3.out 1 0 _ hBW.drew _ t0 t1
        obtain ⟨U2, q2, r2⟩ := hs9.out wc hS3.out 1 0 _ hBW.drew.drew _ t0 t1
        clear hBW t0 t1 t2
        go_upto_region 12 with fail
        go_region_held3 (fun w' => w'.cell? ⟨c, 2, none⟩ = some (.map (some m1)) ∧ w'.cell? ⟨wc.heap.size, 0, none⟩ = some (.int .i64 1) ∧ w'.cell? ⟨wc.heap.size, 1, none⟩ = some (.int .i64 0)) (first | exact hA | exact r0.2 | exact r1.2 | exact r2.2) (fail)
        all_goals
          clear q0 q1 q2 hl
          go_wp2_with fail
          go_ret
          rw [hrep.out]
          exact ⟨⟨_, rfl⟩, (by first | exact r0.1.out | exact r1.1.out | exact r2.1.out)⟩
      · by_cases ha1 : a = 1
        · subst ha1
          have hBW := (Below.refl wc.heap.size wc).alloc (Nat.le_refl _) (.cells #[.int .i64 1, .int .i64 0] 67)
          have t0 : (wc.alloc (.cells #[.int .i64 1, .int .i64 0] 67)).cell? ⟨wc.heap.size, 0, none⟩ = some (.int .i64 1) := (Blk.new wc _ _).cell 0
          have t1 : (wc.alloc (.cells #[.int .i64 1, .int .i64 0] 67)).cell? ⟨wc.heap.size, 1, none⟩ = some (.int .i64 0) := (Blk.new wc _ _).cell 1
          have t2 : (wc.alloc (.cells #[.int .i64 1, .int .i64 0] 67)).cell? ⟨c, 2, none⟩ = some (.map (some m1)) := (hS3.out.1.blk.below hBW).cell 2
          have hA := And.intro t2 (And.intro t0 t1)
          obtain ⟨U0, q0, r0⟩ := hs9.out wc hS3.out 1 0 _ hBW _ t0 t1
          obtain ⟨U1, q1, r1⟩ := hs9.out wc hS3.out 1 0 _ hBW.drew _ t0 t1
          obtain ⟨U2, q2, r2⟩ := hs9.out wc hS3.out 1 0 _ hBW.drew.drew _ t0 t1
          clear hBW t0 t1 t2
          go_upto_region 12 with fail
          go_region_held3 (fun w' => w'.cell? ⟨c, 2, none⟩ = some (.map (some m1)) ∧ w'.cell? ⟨wc.heap.size, 0, none⟩ = some (.int .i64 1) ∧ w'.cell? ⟨wc.heap.size, 1, none⟩ = some (.int .i64 0)) (first | exact hA | exact r0.2 | exact r1.2 | exact r2.2) (fail)
          all_goals
            clear q0 q1 q2 hl
            go_wp2_with fail
            go_ret
            rw [hrep.out]
            exact ⟨⟨_, rfl⟩, (by first | exact r0.1.out | exact r1.1.out | exact r2.1.out)⟩
        · have g1 : (a == 0) = false := beq_eq_false_iff_ne.2 ha0
          have g2 : (a == 1) = false := beq_eq_false_iff_ne.2 ha1
          have hBW := (Below.refl wc.heap.size wc).alloc (Nat.le_refl _) (.cells #[.int .i64 1, .int .i64 0] 67)
          have t0 : (wc.alloc (.cells #[.int .i64 1, .int .i64 0] 67)).cell? ⟨wc.heap.size, 0, none⟩ = some (.int .i64 1) := (Blk.new wc _ _).cell 0
          have t1 : (wc.alloc (.cells #[.int .i64 1, .int .i64 0] 67)).cell? ⟨wc.heap.size, 1, none⟩ = some (.int .i64 0) := (Blk.new wc _ _).cell 1
          have t2 : (wc.alloc (.cells #[.int .i64 1, .int .i64 0] 67)).cell? ⟨c, 2, none⟩ = some (.map (some m1)) := (hS3.out.1.blk.below hBW).cell 2
          have hA := And.intro t2 (And.intro t0 t1)
          obtain ⟨U0, q0, r0⟩ := hs9.out wc hS3.out 1 0 _ hBW _ t0 t1
          obtain ⟨U1, q1, r1⟩ := hs9.out wc hS3.out 1 0 _ hBW.drew _ t0 t1
          obtain ⟨U2, q2, r2⟩ := hs9.out wc hS3.out 1 0 _ hBW.drew.drew _ t0 t1
          clear hBW t0 t1 t2
          go_upto_region 12 with fail
          go_region_held3 (fun w' => w'.cell? ⟨c, 2, none⟩ = some (.map (some m1)) ∧ w'.cell? ⟨wc.heap.size, 0, none⟩ = some (.int .i64 1) ∧ w'.cell? ⟨wc.heap.size, 1, none⟩ = some (.int .i64 0)) (first | exact hA | exact r0.2 | exact r1.2 | exact r2.2) (fail)
          all_goals
            clear q0 q1 q2 hl
            go_wp2_with fail
            go_ret
            rw [hrep.out]
            exact ⟨⟨_, rfl⟩, (by first | exact r0.1.out | exact r1.1.out | exact r2.1.out)⟩
set_option maxRecDepth 100000 in
set_option maxHeartbeats 2000000 in
theorem report_no (w : World) (c m1 m2 n : Nat) (K : List Nm) (S : Nm → St2) (Dr : Nm → Bool) (x : Nm) (hx : x.length ≤ maxLen) (hK : x ∈ K) (hn : n < maxLen) (h0 : 0 ≤ (S x).2) (h9 : (S x).2 ≤ 1000) (h : HC w c m1 m2 n K S Dr) : Calls Tryz.prog 9 #[.pointer (some ⟨c, 0, none⟩), .string (str x), .bool false] w fun e w' => (∃ r, e = .returned r) ∧ HC w' c m1 m2 (n + 1) K (upd S x (rep (S x) false)) Dr ∧ Kp (fun k => k = m1) w w' := by
  have hlk := Lib.hid (fun W (hb : HC W c m1 m2 n K S Dr) => stlook hb x hx)
  have hs9 := Lib.hid (fun wc h a b W hW T hT hT1 => sets3 (w := w) (wc := wc) (c := c) (m1 := m1) (m2 := m2) (S := S) (Dr := Dr) h hn x hx hK a b W hW T hT hT1)
  have c0 : w.cell? ⟨c, 0, none⟩ = some (.int .i64 1) := h.blk.cell 0
  have c1 : w.cell? ⟨c, 1, none⟩ = some (.int .i64 2) := h.blk.cell 1
  have c2 : w.cell? ⟨c, 2, none⟩ = some (.map (some m1)) := h.blk.cell 2
  have hS : Hid (HC w c m1 m2 n K S Dr ∧ Kp (fun k => k = m1) w w) ∧ w.cell? ⟨c, 0, none⟩ = some (.int .i64 1) ∧ w.cell? ⟨c, 1, none⟩ = some (.int .i64 2) ∧ w.cell? ⟨c, 2, none⟩ = some (.map (some m1)) := ⟨⟨h, Kp.refl _ _⟩, c0, c1, c2⟩
  have hcs := Lib.hid h.blk.lt
  clear h hn hK hx
  go_enter Tryz.func9, Tryz.ntmps9
  go_upto_region 3 with fail
  go_cut [7, 8] from 3 (fun c7 c8 wx => c7 = .int .i64 2 ∧ c8 = .int .i64 2 ∧ Hid (HC wx c m1 m2 n K S Dr ∧ Kp (fun k => k = m1) w wx) ∧ wx.cell? ⟨c, 0, none⟩ = some (.int .i64 1) ∧ wx.cell? ⟨c, 1, none⟩ = some (.int .i64 2) ∧ wx.cell? ⟨c, 2, none⟩ = some (.map (some m1)))
  case first =>
    go_region_held3 (fun w' => Hid (HC w' c m1 m2 n K S Dr ∧ Kp (fun k => k = m1) w w') ∧ w'.cell? ⟨c, 0, none⟩ = some (.int .i64 1) ∧ w'.cell? ⟨c, 1, none⟩ = some (.int .i64 2) ∧ w'.cell? ⟨c, 2, none⟩ = some (.map (some m1)))
      (first | exact hS | exact rdrew hS | exact rdrew (by assumption))
      (fail)
    all_goals
      rename_i hHeld
      go_wp2_with fail
      go_meet
      exact ⟨rfl, rfl, hHeld⟩
  case rest =>
    obtain ⟨rfl, rfl, hS2, d0, d1, d2⟩ := hcut
    clear hS c0 c1 c2
    have hS3 := hS2
    have hl := hlk.out _ hS3.out.1
    have hg := hS3.out.1.blk.lt
    obtain ⟨a, b, hab⟩ : ∃ a b, S x = (a, b) := ⟨_, _, rfl⟩
    rw [hab] at hl h0 h9
    replace hl : _ = Result.ok (Value.agg #[.int .i64 a, .int .i64 b]) _ := hl
    replace h0 : 0 ≤ b := h0
    replace h9 : b ≤ 1000 := h9
    by_cases ha0 : a = 0
    · have hrep := Lib.hid (show rep (S x) false = (2, 0) by rw [hab]; unfold rep; rw [if_neg (by decide), if_pos (Or.inl ha0)])
      clear hab
      subst ha0
      have hBW := (Below.refl wc.heap.size wc).alloc (Nat.le_refl _) (.cells #[.int .i64 2, .int .i64 0] 67)
      have t0 : (wc.alloc (.cells #[.int .i64 2, .int .i64 0] 67)).cell? ⟨wc.heap.size, 0, none⟩ = some (.int .i64 2) := (Blk.new wc _ _).cell 0
      have t1 : (wc.alloc (.cells #[.int .i64 2, .int .i64 0] 67)).cell? ⟨wc.heap.size, 1, none⟩ = some (.int .i64 0) := (Blk.new wc _ _).cell 1
      have t2 : (wc.alloc (.cells #[.int .i64 2, .int .i64 0] 67)).cell? ⟨c, 2, none⟩ = some (.map (some m1)) := (hS3.out.1.blk.below hBW).cell 2
      have hA := And.intro t2 (And.intro t0 t1)
      obtain ⟨U0, q0, r0⟩ := hs9.out wc hS3.out 2 0 _ hBW _ t0 t1
      obtain ⟨U1, q1, r1⟩ := hs9.out wc hS3.out 2 0 _ hBW.drew _ t0 t1
      obtain ⟨U2, q2, r2⟩ := hs9.out wc hS3.out 2 0 _ hBW.drew.drew _ t0 t1
      clear hBW t0 t1 t2
      go_upto_region 12 with fail
      go_region_held3 (fun w' => w'.cell? ⟨c, 2, none⟩ = some (.map (some m1)) ∧ w'.cell? ⟨wc.heap.size, 0, none⟩ = some (.int .i64 2) ∧ w'.cell? ⟨wc.heap.size, 1, none⟩ = some (.int .i64 0)) (first | exact hA | exact r0.2 | exact r1.2 | exact r2.2) (fail)
      all_goals
        clear q0 q1 q2 hl
        go_wp2_with fail
        go_ret
        rw [hrep.out]
        exact ⟨⟨_, rfl⟩, (by first | exact r0.1.out | exact r1.1.out | exact r2.1.out)⟩
    · by_cases ha1 : a = 2
      · have hrep := Lib.hid (show rep (S x) false = (2, 0) by rw [hab]; unfold rep; rw [if_neg (by decide), if_pos (Or.inr (Or.inl ha1))])
        clear hab
        subst ha1
        have hBW := (Below.refl wc.heap.size wc).alloc (Nat.le_refl _) (.cells #[.int .i64 2, .int .i64 0] 67)
        have t0 : (wc.alloc (.cells #[.int .i64 2, .int .i64 0] 67)).cell? ⟨wc.heap.size, 0, none⟩ = some (.int .i64 2) := (Blk.new wc _ _).cell 0
        have t1 : (wc.alloc (.cells #[.int .i64 2, .int .i64 0] 67)).cell? ⟨wc.heap.size, 1, none⟩ = some (.int .i64 0) := (Blk.new wc _ _).cell 1
        have t2 : (wc.alloc (.cells #[.int .i64 2, .int .i64 0] 67)).cell? ⟨c, 2, none⟩ = some (.map (some m1)) := (hS3.out.1.blk.below hBW).cell 2
        have hA := And.intro t2 (And.intro t0 t1)
        obtain ⟨U0, q0, r0⟩ := hs9.out wc hS3.out 2 0 _ hBW _ t0 t1
        obtain ⟨U1, q1, r1⟩ := hs9.out wc hS3.out 2 0 _ hBW.drew _ t0 t1
        obtain ⟨U2, q2, r2⟩ := hs9.out wc hS3.out 2 0 _ hBW.drew.drew _ t0 t1
        clear hBW t0 t1 t2
        go_upto_region 12 with fail
        go_region_held3 (fun w' => w'.cell? ⟨c, 2, none⟩ = some (.map (some m1)) ∧ w'.cell? ⟨wc.heap.size, 0, none⟩ = some (.int .i64 2) ∧ w'.cell? ⟨wc.heap.size, 1, none⟩ = some (.int .i64 0)) (first | exact hA | exact r0.2 | exact r1.2 | exact r2.2) (fail)
        all_goals
          clear q0 q1 q2 hl
          go_wp2_with fail
          go_ret
          rw [hrep.out]
          exact ⟨⟨_, rfl⟩, (by first | exact r0.1.out | exact r1.1.out | exact r2.1.out)⟩
      · have g1 : (a == 0) = false := beq_eq_false_iff_ne.2 ha0
        have g2 : (a == 2) = false := beq_eq_false_iff_ne.2 ha1
        by_cases hb : 1 ≤ b
        · have hrep := Lib.hid (show rep (S x) false = (2, 0) by rw [hab]; unfold rep; rw [if_neg (by decide), if_pos (Or.inr (Or.inr hb))])
          have g3 : ¬ b + 1 < 2 := by omega
          clear hab
          have hBW := (Below.refl wc.heap.size wc).alloc (Nat.le_refl _) (.cells #[.int .i64 2, .int .i64 0] 67)
          have t0 : (wc.alloc (.cells #[.int .i64 2, .int .i64 0] 67)).cell? ⟨wc.heap.size, 0, none⟩ = some (.int .i64 2) := (Blk.new wc _ _).cell 0
          have t1 : (wc.alloc (.cells #[.int .i64 2, .int .i64 0] 67)).cell? ⟨wc.heap.size, 1, none⟩ = some (.int .i64 0) := (Blk.new wc _ _).cell 1
          have t2 : (wc.alloc (.cells #[.int .i64 2, .int .i64 0] 67)).cell? ⟨c, 2, none⟩ = some (.map (some m1)) := (hS3.out.1.blk.below hBW).cell 2
          have hA := And.intro t2 (And.intro t0 t1)
          obtain ⟨U0, q0, r0⟩ := hs9.out wc hS3.out 2 0 _ hBW _ t0 t1
          obtain ⟨U1, q1, r1⟩ := hs9.out wc hS3.out 2 0 _ hBW.drew _ t0 t1
          obtain ⟨U2, q2, r2⟩ := hs9.out wc hS3.out 2 0 _ hBW.drew.drew _ t0 t1
          clear hBW t0 t1 t2
          go_upto_region 12 with fail
          go_region_held3 (fun w' => w'.cell? ⟨c, 2, none⟩ = some (.map (some m1)) ∧ w'.cell? ⟨wc.heap.size, 0, none⟩ = some (.int .i64 2) ∧ w'.cell? ⟨wc.heap.size, 1, none⟩ = some (.int .i64 0)) (first | exact hA | exact r0.2 | exact r1.2 | exact r2.2) (fail)
          all_goals
            clear q0 q1 q2 hl
            go_wp2_with fail
            go_ret
            rw [hrep.out]
            exact ⟨⟨_, rfl⟩, (by first | exact r0.1.out | exact r1.1.out | exact r2.1.out)⟩
        · have hb0 : b = 0 := by omega
          have hrep := Lib.hid (show rep (S x) false = (a, 1) by rw [hab, hb0]; unfold rep; rw [if_neg (by decide), if_neg (by rintro (h | h | h); exact ha0 h; exact ha1 h; exact absurd h (show ¬ (1 : Int) ≤ 0 by decide))]; rfl)
          clear hab hb
          subst hb0
          have hBW := (Below.refl wc.heap.size wc).alloc (Nat.le_refl _) (.cells #[.int .i64 a, .int .i64 1] 67)
          have t0 : (wc.alloc (.cells #[.int .i64 a, .int .i64 1] 67)).cell? ⟨wc.heap.size, 0, none⟩ = some (.int .i64 a) := (Blk.new wc _ _).cell 0
          have t1 : (wc.alloc (.cells #[.int .i64 a, .int .i64 1] 67)).cell? ⟨wc.heap.size, 1, none⟩ = some (.int .i64 1) := (Blk.new wc _ _).cell 1
          have t2 : (wc.alloc (.cells #[.int .i64 a, .int .i64 1] 67)).cell? ⟨c, 2, none⟩ = some (.map (some m1)) := (hS3.out.1.blk.below hBW).cell 2
          have hA := And.intro t2 (And.intro t0 t1)
          obtain ⟨U0, q0, r0⟩ := hs9.out wc hS3.out a 1 _ hBW _ t0 t1
          obtain ⟨U1, q1, r1⟩ := hs9.out wc hS3.out a 1 _ hBW.drew _ t0 t1
          obtain ⟨U2, q2, r2⟩ := hs9.out wc hS3.out a 1 _ hBW.drew.drew _ t0 t1
          clear hBW t0 t1 t2
          go_upto_region 12 with fail
          go_region_held3 (fun w' => w'.cell? ⟨c, 2, none⟩ = some (.map (some m1)) ∧ w'.cell? ⟨wc.heap.size, 0, none⟩ = some (.int .i64 a) ∧ w'.cell? ⟨wc.heap.size, 1, none⟩ = some (.int .i64 1)) (first | exact hA | exact r0.2 | exact r1.2 | exact r2.2) (fail)
          all_goals
            clear q0 q1 q2 hl
            go_wp2_with fail
            go_ret
            rw [hrep.out]
            exact ⟨⟨_, rfl⟩, (by first | exact r0.1.out | exact r1.1.out | exact r2.1.out)⟩
end Go.Proofs.YtpfpjcfacbfjaaaGreatDoor
