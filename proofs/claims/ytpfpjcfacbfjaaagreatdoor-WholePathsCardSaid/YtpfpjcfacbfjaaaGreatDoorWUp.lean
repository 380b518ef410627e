/-
  Layer 32: Drain and Up of the checks.
-/
import Derived.Test.YtpfpjcfacbfjaaaGreatDoorGHm
import Derived.Test.YtpfpjcfacbfjaaaGreatDoorShelfSo
import Derived.Test.YtpfpjcfacbfjaaaGreatDoorRgOwn
import Derived.Sort.KeysCollected
import Derived.Sort.OwnSorted
namespace Go.Proofs.YtpfpjcfacbfjaaaGreatDoor
open Go.Shelf Go.RowKit Go.Lib Go.Sort Rg
set_option maxRecDepth 100000 in
set_option maxHeartbeats 2000000 in
theorem drain_any (w : World) (c m1 m2 n : Nat) (K : List Nm) (S : Nm → St2) (Dr : Nm → Bool) (x : Nm) (hx : x.length ≤ maxLen) (hn : n < maxLen) (h : HC w c m1 m2 n K S Dr) : Calls Tryz.prog 19 #[.pointer (some ⟨c, 0, none⟩), .string (str x), .bool true] w fun e w' => (∃ r, e = .returned r) ∧ HC w' c m1 m2 (n + 1) K S (upd Dr x true) ∧ Kp (fun k => k = m2) w w' := by
  have hkx := keyS_of x hx
  have hblk := Lib.hid h.blk
  have hnd := Lib.hid h.nd
  have hne := Lib.hid h.ne
  obtain ⟨es1, cl1, g1⟩ := h.map1
  obtain ⟨es2, cl2, g2⟩ := h.map2
  have hb2 := Lib.hid (Blk.notMap h.blk g2)
  obtain ⟨D, d, e⟩ := h.dr
  have c3 : w.cell? ⟨c, 3, none⟩ = some (.map (some m2)) := h.blk.cell 3
  have hlt := h.blk.lt
  have He := Lib.hid e
  have hnn := Lib.hid hn
  clear h hx e g1 g2 hn
  go_enter Tryz.func19, Tryz.ntmps19
  go_wp2_with (first
    | (at_delete; refine wpList_delete_own _ rfl _ _ 54 9 rfl 4 keyS Tryz.underlying54 (plainElem Tryz.prog 4) m2 n D rfl d _ (.string x) rfl hkx ?_; intro w1 d1 ht1; have hk1 : Kp (fun k => k = m2) w w1 := (Kp.refl _ _).grown ht1.grown (fun k e _ => (Option.some.inj e).symm); have hb1 := hblk.out.kp (F := fun k => k = m2) hb2.out hk1; have c4 : w1.cell? ⟨c, 3, none⟩ = some (.map (some m2)) := hb1.cell 3; have hlt1 := hb1.lt; replace hb1 := Lib.hid hb1; replace hk1 := Lib.hid hk1; replace ht1 := Lib.hid ht1)
    | (at_mapUpdate; refine wpList_mapUpdate_own _ rfl _ _ _ 54 rfl 9 4 keyS Tryz.underlying54 (plainElem Tryz.prog 4) m2 n (D.del (.string x)) rfl d1 hnn.out _ _ (.string x) rfl rfl hkx (.lit (.bool true)) [] (plainElem_bool Tryz.underlying4 true) ?_; intro w2 d2 hg2; replace hg2 := Lib.hid hg2)
    | fail)
  refine bodyPost_end (results_none rfl _ _ _) rfl ?_
  have hk : Kp (fun k => k = m2) w w2 := hk1.out.trans ((Kp.refl _ _).grown hg2.out (fun k e _ => (Option.some.inj e).symm))
  obtain ⟨D1, q1, q2⟩ := hnd.out
  refine ⟨⟨_, rfl⟩, ⟨hblk.out.kp (F := fun k => k = m2) hb2.out hk, ⟨D1, (ownsMap_kp q1 (fun e => hne.out e.symm) hk).mono (Nat.le_succ _), q2⟩, hne.out, ⟨_, d2, fun y => ?_⟩⟩, hk⟩
  unfold upd
  by_cases hy : y = x
  · subst hy
    rw [if_pos rfl, Go.Maps.atKey_put_same d1.isMap (KLs y)]
  · rw [if_neg hy, Go.Maps.atKey_put_other (fun e => hy (by injection e)), Go.Maps.atKey_del_other (fun e => hy (by injection e))]
    exact He.out y
/-- Who is up: the state Healthy, not drained. -/
def isUp (S : Nm → St2) (Dr : Nm → Bool) (x : Nm) : Bool := decide ((S x).1 = 1) && !Dr x
/-- Collected so far. -/
def UpR (D : DataW Unit) (p : Nm → Bool) (left : Lit → Bool) (ss : List Nm) : Prop := ss.Nodup ∧ ∀ x, x ∈ ss ↔ (Go.Maps.has D (.string x) = true ∧ left (.string x) = false ∧ p x = true)
section
variable {D : DataW Unit} {p : Nm → Bool} {left : Lit → Bool} {ss : List Nm}
theorem UpR.start : UpR D p (Go.Maps.has D) [] := ⟨List.nodup_nil, fun x => by
  constructor
  · intro h; cases h
  · rintro ⟨h1, h2, -⟩; rw [h1] at h2; cases h2⟩
theorem same_str (x y : Nm) : (Lit.string y).sameKey (.string x) = decide (y = x) := by
  by_cases h : y = x
  · subst h; rw [decide_eq_true rfl]; exact WideAt.sameKey_self (KLs y)
  · rw [decide_eq_false h]; exact Go.Maps.sameKey_ne (fun e => h (by injection e))
theorem UpR.yes (h : UpR D p left ss) {x : Nm} (hl : left (.string x) = true) (hh : Go.Maps.has D (.string x) = true) (hp : p x = true) : UpR D p (fun z => left z && !z.sameKey (.string x)) (ss ++ [x]) := by
  refine ⟨?_, fun y => ?_⟩
  · rw [List.nodup_append]
    refine ⟨h.1, by simp, fun a ha b hb e => ?_⟩
    rw [List.mem_singleton] at hb
    subst hb; subst e
    have := ((h.2 a).1 ha).2.1
    rw [hl] at this; cases this
  · rw [List.mem_append, List.mem_singleton, h.2 y]
    simp only [same_str]
    by_cases hy : y = x
    · subst hy; simp [hh, hp]
    · simp [hy]
theorem UpR.no (h : UpR D p left ss) {x : Nm} (hp : p x = false) : UpR D p (fun z => left z && !z.sameKey (.string x)) ss := by
  refine ⟨h.1, fun y => ?_⟩
  rw [h.2 y]
  simp only [same_str]
  by_cases hy : y = x
  · subst hy; simp [hp]
  · simp [hy]
theorem UpR.sub {K : List Nm} (h : UpR D p left ss) (hk : ∀ x, Go.Maps.has D (.string x) = true → x ∈ K) : ss.length ≤ K.length := nodup_le h.1 (fun x hx => hk x ((h.2 x).1 hx).1)
theorem UpR.done {K : List Nm} (h : UpR D p left ss) (hl : ∀ kl, left kl = false) (hk : ∀ x, Go.Maps.has D (.string x) = true → x ∈ K) (hp : ∀ x, p x = true → Go.Maps.has D (.string x) = true) (hn : K.Nodup) (hs : K.Pairwise (fun a b => leB a b = true)) : ss.mergeSort leB = K.filter p := by
  have hperm : ss.Perm (K.filter p) := by
    refine (List.perm_ext_iff_of_nodup h.1 (hn.sublist List.filter_sublist)).2 fun x => ?_
    rw [h.2 x, List.mem_filter]
    exact ⟨fun hh => ⟨hk x hh.1, hh.2.2⟩, fun hh => ⟨hp x hh.2, hl _, hh.2⟩⟩
  rw [mergeSort_of_perm hperm]
  exact List.mergeSort_of_pairwise (hs.sublist List.filter_sublist)
end
theorem iterNe {k : TypeId} {R : Value → Option (DataW Unit × List MemPlace)} {w : World} {b r n : Nat} {D : DataW Unit} {left : Lit → Bool} {cnt B sz m : Nat} {e : TypeId} {v : Value} {xs : List Value} (h : Own w B e sz v m xs) (hr : w.ranges Tryz.prog k R b r n D left cnt) : v.ownBlock ≠ some r := by
  obtain ⟨es, clock, since, seen, c0, _, _, _, _, hg, _⟩ := hr
  intro hk
  rcases h.2 with ⟨rfl, _⟩ | ⟨g', cap, cur, rfl, _, hg', _⟩
  · cases hk
  · simp only [Value.ownBlock, Option.some.injEq] at hk
    subst hk
    rw [hg] at hg'
    cases hg'
theorem ranges_below {k : TypeId} {R : Value → Option (DataW Unit × List MemPlace)} {w w' : World} {b r n B : Nat} {D : DataW Unit} {left : Lit → Bool} {cnt : Nat} (hr : w.ranges Tryz.prog k R b r n D left cnt) (hb : b < B) (hB : r < B) (h : Below B w w') : w'.ranges Tryz.prog k R b r n D left cnt := by
  have h1 := hr.owns.lt
  have h2 := hr.lt
  obtain ⟨es, clock, since, seen, c0, g1, F, hs, hD, g2, rest⟩ := hr
  exact ⟨es, clock, since, seen, c0, (h.block b hb).trans g1, F, hs, hD, (h.block r hB).trans g2, rest⟩
/-- A slice of texts, sorted in place. -/
theorem sort_strs (w : World) (B : Nat) (v : Value) (ss : List Nm) (h : Own w B 9 1 v ss.length (strs ss)) (hl : ss.length ≤ 1000000) (hB : B ≤ w.heap.size) :
    Calls Tryz.prog 29 #[v] w fun e w' => (∃ r, e = .returned r) ∧ Own w' B 9 1 v (ss.mergeSort leB).length (strs (ss.mergeSort leB)) ∧ Below B w w' := by
  have hlen : (ss.mergeSort leB).length = ss.length := List.length_mergeSort ss
  rcases h.2 with ⟨rfl, h0⟩ | ⟨g, cap, cur, rfl, hbase, hb, h1, h2, h3, h4⟩
  · have hs0 : ss = [] := List.eq_nil_of_length_eq_zero h0
    subst hs0
    refine (Any.slices_Sort_string_none Tryz.lays190 none 0 w).mono ?_
    rintro e w' ⟨rfl, rfl⟩
    rw [hlen]
    rw [show ([] : List Nm).mergeSort leB = [] from List.eq_nil_of_length_eq_zero hlen]
    exact ⟨⟨_, rfl⟩, own_nil _ _ _ _, Below.refl _ _⟩
  · have hH : Go.Sort.Holds encStr w g 0 ss.toArray := holds_of_block hb (by simpa [strs, encStr, str] using h4)
    have hgl : g < w.heap.size := (Array.getElem?_eq_some_iff.1 hb).1
    refine (Any.slices_Sort_string Tryz.lays190 g 0 cap ss w hH hgl (by omega)).mono ?_
    rintro e w' ⟨rfl, n, os, rfl⟩
    refine ⟨⟨_, rfl⟩, ?_, (Below.refl _ _).grown (grownBy_sorted _) hB (fun j hj => by cases hj; exact hbase)⟩
    have := ownsRow_sorted (n := n) (os := os) (ts := ss.mergeSort leB) hlen hbase hb h1 h2 h3
    rw [hlen]
    simpa [strs, encStr, str] using this
set_option maxRecDepth 100000 in
set_option maxHeartbeats 4000000 in
theorem up_any (w : World) (c m1 m2 n : Nat) (K : List Nm) (S : Nm → St2) (Dr : Nm → Bool) (h : HC w c m1 m2 n K S Dr) (hn : K.Nodup) (hs : K.Pairwise (fun a b => leB a b = true)) (hK : K.length ≤ 1000) :
    Calls Tryz.prog 12 #[.pointer (some ⟨c, 0, none⟩)] w fun e w' => ∃ v, e = .returned v ∧ Own w' w.heap.size 9 1 v (K.filter (isUp S Dr)).length (strs (K.filter (isUp S Dr))) ∧ Below w.heap.size w w' := by
  obtain ⟨D, d, he, hk⟩ := h.nd
  have c2 : w.cell? ⟨c, 2, none⟩ = some (.map (some m1)) := h.blk.cell 2
  have hlt := h.blk.lt
  have hm1 := d.lt
  have HC0 := Lib.hid (fun W (hb : Below w.heap.size w W) => h.below hb)
  have Hdl := Lib.hid (fun W x (hx : x.length ≤ maxLen) (hb : Below w.heap.size w W) => drlook (h.below hb) x hx)
  have He := Lib.hid he
  have Hk := Lib.hid hk
  have Hn := Lib.hid (And.intro hn (And.intro hs hK))
  clear h he hk hn hs hK
  go_enter Tryz.func12, Tryz.ntmps12
  go_wp2_with (first
    | (at_range; refine wpList_range_own _ rfl _ 53 rfl 9 67 keyS Tryz.underlying53 Rst m1 n D rfl d ?_; intro w0 hrg0 hg0 hs0)
    | fail)
  go_frame
  have hB0 : Below w.heap.size w w0 := (Below.refl _ _).grown hg0 (Nat.le_refl _) (fun j hj => by cases hj)
  have HB0 := Lib.hid hB0
  have Hrg0 := Lib.hid hrg0
  have Hs0 := Lib.hid hs0
  clear hrg0 hg0 hs0 hB0 d
  go_loopw [3] (fun v wr => ∃ (left : Lit → Bool) (cnt : Nat) (ss : List Nm), Hid (wr.ranges Tryz.prog 9 Rst m1 w.heap.size n D left cnt) ∧ Hid (Own wr (w.heap.size + 1) 9 1 v ss.length (strs ss)) ∧ Hid (UpR D (isUp S Dr) left ss) ∧ Hid (Below w.heap.size w wr))
    (fun _ wr => wr.rangeLeft m1 w.heap.size)
  case atStart => exact ⟨_, _, [], Hrg0, Lib.hid (own_nil _ _ _ _), Lib.hid UpR.start, HB0⟩
  case round =>
    obtain ⟨left, cnt, ss, hrg, hrow, hC, hnx⟩ := hrel
    have hrg' := hrg.out
    go_wp2_with (first
      | (at_next; refine wpList_next_ranges _ rfl _ rfl 9 keyS Rst (fun x : Nm => .string (str x)) (fun s : St2 => .agg #[.int .i64 s.1, .int .i64 s.2]) (fun key kl hk => by obtain ⟨x, hx, _⟩ := Maps.keyOf_str Tryz.underlying9 hk; exact ⟨x, hx⟩) (fun v y hv => by obtain ⟨s, rfl, _⟩ := Rst_inv hv; exact ⟨s, rfl⟩) m1 w.heap.size n _ _ _ rfl hrg' ?_ ?_)
      | fail)
    · intro hc0 hl0
      have hlr := hrg'.lt
      have hsl := hC.out.sub Hk.out
      have hsrt := sort_strs wr (w.heap.size + 1) u3 ss hrow.out (by have := Hn.out.2.2; omega) (by omega)
      have hdone := Lib.hid (hC.out.done hl0 Hk.out (fun x hx => by
        rcases Bool.eq_false_or_eq_true (Go.Maps.has D (.string x)) with h | h
        · exact h
        · have h2 := (Go.Maps.atKey_of_not_has h (stD (0, 0))).symm.trans (He.out x)
          have h3 := stD_inj h2
          unfold isUp at hx
          rw [← h3] at hx
          simp at hx) Hn.out.1 Hn.out.2.1)
      clear hrg' hlr hsl hc0 hl0
      go_wp2_with fail
      refine hsrt.mono ?_
      rintro e w' ⟨⟨r, rfl⟩, hO, hb⟩
      have HO := Lib.hid hO
      have HB := Lib.hid hb
      clear hO hb hsrt
      go_wp2_with fail
      go_ret
      refine ⟨_, rfl, ?_, hnx.out.trans (HB.out.mono (Nat.le_succ _))⟩
      rw [← hdone.out]
      exact Own.base HO.out (Nat.le_succ _)
    · intro x a b kl yd yp w2 cnt2 hkey hlk hv hat hrg2 hlt2 hg2 hs2 hen
      obtain ⟨x', ex, rfl, hxl⟩ := Maps.keyOf_str Tryz.underlying9 hkey
      obtain rfl : x = x' := encStr_inj ex
      have hyd : stD (a, b) = yd := congrArg Prod.fst (Option.some.inj hv)
      have hab : S x = (a, b) := stD_inj (by rw [hyd, ← He.out x]; exact hat _)
      have hhas := Go.Maps.has_true_of_atKey hat
      have hk2 : Kp (fun k => k = w.heap.size) wr w2 := (Kp.refl _ _).grown hg2 (fun k e _ => (Option.some.inj e).symm)
      have hB2 : Below w.heap.size w w2 := hnx.out.trans (hk2.toBelow hnx.out.size (fun k e => by omega))
      have hro2 : Own w2 (w.heap.size + 1) 9 1 u3 ss.length (strs ss) := hrow.out.kp (fun k hk e => iterNe hrow.out hrg' (by rw [hk, e])) hk2
      have hro3 := own_below hro2 ((Below.refl w2.heap.size w2).alloc (Nat.le_refl _) (.cells #[.int .i64 a, .int .i64 b] 67))
      have hB3 := hB2.alloc hB2.size (.cells #[.int .i64 a, .int .i64 b] 67)
      have hrg3 := hrg2.alloc (.cells #[.int .i64 a, .int .i64 b] 67)
      have hbz : w.heap.size + 1 ≤ (w2.alloc (.cells #[.int .i64 a, .int .i64 b] 67)).heap.size := by have := hrg3.lt; omega
      have hdl := Hdl.out _ x hxl hB3
      have c3 : (w2.alloc (.cells #[.int .i64 a, .int .i64 b] 67)).cell? ⟨c, 3, none⟩ = some (.map (some m2)) := (HC0.out _ hB3).blk.cell 3
      have hss := hC.out.sub Hk.out
      have hss2 : ss.length ≤ 1000 := Nat.le_trans hss Hn.out.2.2
      have Hrg3 := Lib.hid hrg3
      have HB3 := Lib.hid hB3
      have Hm : Hid (m1 < w.heap.size + 1) := Nat.lt_succ_of_lt hm1
      have hlow := Lib.hid (And.intro hrg'.left_eq hlt2)
      clear hkey hv hat hyd hk2 hB2 hro2 hB3 hrg3 hg2 hs2 hrg2 hss hrg' ex hlt2
      by_cases ha : a = 1
      · subst ha
        cases hd : Dr x
        · rw [hd] at hdl
          have hC2 := Lib.hid (hC.out.yes hlk hhas (show isUp S Dr x = true by unfold isUp; rw [hab, hd]; rfl))
          clear hlk hhas hab hd
          go_upto_region 8 with fail
          generalize w2.alloc (.cells #[.int .i64 1, .int .i64 b] 67) = W3 at *
          go_wp2_with (at_builtin; refine push_str _ _ rfl rfl rfl hro3 rfl rfl (by omega) hbz ?_; intro v8 w8 ho8 hb8; replace ho8 := Lib.hid ho8; have hb8' := Lib.hid hb8; clear hb8)
          have hrgN := ranges_below Hrg3.out Hm.out (Nat.lt_succ_self _) hb8'.out
          go_roundw
          case rel => exact ⟨_, cnt2, ss ++ [x], Lib.hid hrgN, by rw [strs_snoc, List.length_append, List.length_singleton]; exact ho8, hC2, Lib.hid (HB3.out.trans (hb8'.out.mono (Nat.le_succ _)))⟩
          case measure => rw [hrgN.left_eq, hlow.out.1]; exact hlow.out.2
        · rw [hd] at hdl
          have hC2 := Lib.hid (hC.out.no (show isUp S Dr x = false by unfold isUp; rw [hd]; simp))
          clear hlk hhas hab hd
          have Hro3 := Lib.hid hro3
          clear hro3 hbz
          go_wp2_with fail
          go_roundw
          case rel => exact ⟨_, cnt2, ss, Hrg3, Hro3, hC2, HB3⟩
          case measure => rw [Hrg3.out.left_eq, hlow.out.1]; exact hlow.out.2
      · have g1 : (a == 1) = false := beq_eq_false_iff_ne.2 ha
        have hC2 := Lib.hid (hC.out.no (show isUp S Dr x = false by unfold isUp; rw [hab]; simp [ha]))
        clear hlk hhas hab hdl ha
        have Hro3 := Lib.hid hro3
        clear hro3 hbz
        go_wp2_with fail
        go_roundw
        case rel => exact ⟨_, cnt2, ss, Hrg3, Hro3, hC2, HB3⟩
        case measure => rw [Hrg3.out.left_eq, hlow.out.1]; exact hlow.out.2
end Go.Proofs.YtpfpjcfacbfjaaaGreatDoor
