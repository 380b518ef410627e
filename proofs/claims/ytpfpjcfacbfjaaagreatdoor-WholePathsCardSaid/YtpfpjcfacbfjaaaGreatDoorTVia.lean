/-
  Layer 33: Via, ReadVia and the law's awake.
-/
import Derived.Test.YtpfpjcfacbfjaaaGreatDoorTCheck
import Derived.Test.YtpfpjcfacbfjaaaGreatDoorGLow
import Derived.Test.YtpfpjcfacbfjaaaGreatDoorShelfJoin
namespace Go.Proofs.YtpfpjcfacbfjaaaGreatDoor
open Go.RowKit Ti

/-- What strings.Builder's contracts ask of the program. -/
theorem builder_extra : Builder.Extra Tryz.prog Tryz.lays156_ren where
  sizeBuilder := by kernel_rfl
  liesBuilder := by kernel_rfl
  t5 := by kernel_rfl
  a5 := fun w => by kernel_rfl
  z5 := fun w => by kernel_rfl
  v5 := fun w => by kernel_rfl
  infoByte := by kernel_rfl
  cellsByte := by kernel_rfl
  sizeByte := by kernel_rfl
  neB5 := by decide +kernel
namespace Ti
def pre : Bytes := [113, 117, 97, 121, 32]
/-- The text of a path. -/
def via (l : List Bytes) : Bytes := Lib.join (l.map (pre ++ ·)) [44, 32]
/-- The name of an element of this network. -/
def nameOf (x : Bytes) : Option Bytes := if Lib.hasPrefix x pre = true ∧ Lib.trimPrefix x pre ≠ [] ∧ (Lib.trimPrefix x pre).any Syn.blank = false then some (Lib.trimPrefix x pre) else none
def readV (L : List Bytes) : List Bytes := L.filterMap nameOf
theorem readV_take {L : List Bytes} {k : Nat} (h : k < L.length) : readV (L.take (k + 1)) = readV (L.take k) ++ (match nameOf L[k] with | some n => [n] | none => []) := by
  unfold readV
  rw [List.take_succ_eq_append_getElem h, List.filterMap_append]
  congr 1
  cases hn : nameOf L[k] <;> simp [hn]
theorem readV_len (L : List Bytes) : (readV L).length ≤ L.length := List.length_filterMap_le _ _
end Ti
theorem own_two {w : World} {B n : Nat} {t : TypeId} {v : Value} {xs : List Value} (h : Own w B t 1 v n xs) :
    (v = .slice none 0 0 ∧ n = 0 ∧ xs = []) ∨ (∃ b c, v = .slice (some ⟨b, 0, none⟩) n c ∧ n ≤ c ∧ xs.length = n ∧ b < w.heap.size ∧ ∀ j u, xs[j]? = some u → w.cell? ⟨b, j, none⟩ = some u) := by
  have hl := h.1
  rcases id h with ⟨-, ⟨rfl, rfl⟩ | ⟨g, cap, cur, rfl, hg, hh, hnc, hr⟩⟩
  · left; exact ⟨rfl, rfl, List.eq_nil_of_length_eq_zero (by simpa using hl)⟩
  · right
    refine ⟨g, cap, rfl, hnc, by simpa using hl, ?_, fun j u hu => ?_⟩
    · rcases Nat.lt_or_ge g w.heap.size with h | h
      · exact h
      · rw [Array.getElem?_eq_none h] at hh; cases hh
    · have := World.ownsRow.cells h (g := g) rfl j u hu
      have e : (⟨g, 0, none⟩ : Addr).add j = ⟨g, j, none⟩ := by unfold Addr.add; split <;> simp_all
      rwa [e] at this
theorem join_any (L : List Bytes) (v : Value) (B : Nat) (w : World) (h : Own w B 9 1 v L.length (strs L)) (hn : L.length ≤ 1000000) (hl : (Lib.join L [44, 32]).length ≤ 140737488355328) :
    Calls Tryz.prog 36 #[v, .string ⟨#[44, 32]⟩] w fun e w' => e = .returned (.string (str (Lib.join L [44, 32]))) ∧ Below w.heap.size w w' := by
  rcases own_two h with ⟨rfl, h0, -⟩ | ⟨b, c, rfl, hc, hxl, hbl, hcell⟩
  · obtain rfl : L = [] := List.eq_nil_of_length_eq_zero h0
    refine (Any.strings_Join_none Tryz.lays156 builder_extra none 0 ⟨#[44, 32]⟩ w).mono ?_
    rintro e w' ⟨rfl, rfl⟩
    exact ⟨rfl, Below.refl _ _⟩
  · have hlen : (L.map str).length = L.length := List.length_map ..
    have hmm : (L.map str).map (·.data.toList) = L := by rw [List.map_map]; conv => rhs; rw [← List.map_id L]
                                                         rfl
    have := Any.strings_Join Tryz.lays156 builder_extra b 0 c (L.map str) ⟨#[44, 32]⟩ w (fun j x hx => by
      rw [Nat.zero_add]
      refine hcell j _ ?_
      rw [List.getElem?_map] at hx
      unfold strs
      rw [List.getElem?_map]
      cases hj : L[j]? with
      | none => rw [hj] at hx; cases hx
      | some y => rw [hj] at hx; rw [← Option.some.inj hx]; rfl) hbl (by omega) (by omega) (by rw [hmm]; exact hl)
    rw [hlen, hmm] at this
    exact this
set_option maxRecDepth 100000 in
set_option maxHeartbeats 4000000 in
theorem via_any (l : List Bytes) (A : Option Addr) (cap : Nat) (w : World) (hR : Rd w 1 (.slice A l.length cap) l.length (strs l)) (hm : l.length ≤ 1000000) (hs : ∀ x ∈ l, x.length ≤ 1000000000) (hl : (via l).length ≤ 140737488355328) :
    Calls Tryz.prog 16 #[.slice A l.length cap] w fun e w' => e = .returned (.string (str (via l))) ∧ Below w.heap.size w w' := by
  obtain ⟨A', c', e', hcap, -, -⟩ := id hR
  cases e'
  replace hs := Lib.hid hs
  replace hR := Lib.hid hR
  replace hl := Lib.hid hl
  go_enter Tryz.func16, Tryz.ntmps16
  go_wp2
  go_loopw [3, 8] (fun o i wr => ∃ k : Nat, i = .int .i64 (k : Int) ∧ k ≤ l.length ∧ Hid (Own wr w.heap.size 9 1 o k (strs ((l.take k).map (pre ++ ·)))) ∧ Hid (Below w.heap.size w wr)) (fun _ i _ => l.length - (intOf i).toNat)
  case atStart => exact ⟨0, rfl, by omega, Lib.hid (own_nil _ _ _ _), Lib.hid (Below.refl _ _)⟩
  case round =>
    obtain ⟨k, rfl, hk, ho, hB⟩ := hrel
    have hBw := hB.out.size
    by_cases hlt : k < l.length
    · obtain ⟨A', c', e', -, -, r'⟩ := hR.out.below hB.out
      cases e'
      obtain ⟨b1, o1, rfl, _, x1⟩ := r' (by omega)
      have d1 : wr.cell? ⟨b1, o1 + k, none⟩ = some (.string (str l[k])) := x1 k _ (strs_at hlt)
      have hsz := hs.out l[k] (List.getElem_mem hlt)
      have hst := Lib.hid (show (l.take (k + 1)).map (pre ++ ·) = (l.take k).map (pre ++ ·) ++ [pre ++ l[k]] by rw [List.take_succ_eq_append_getElem hlt, List.map_append]; rfl)
      clear x1 r'
      generalize l[k] = x at *
      have hq := Lib.hid (str_append pre x)
      have hz2 : (⟨#[113, 117, 97, 121, 32]⟩ : ByteArray).size + (str x).size ≤ 9223372036854775807 := by rw [str_size]; show 5 + _ ≤ _; omega
      go_wp2_with (at_builtin; refine push_str _ _ rfl rfl rfl ho.out rfl rfl (by omega) hBw ?_; intro v2 w2 ho2 hb2; replace ho2 := Lib.hid ho2; have hB2 := Lib.hid (hB.out.trans hb2); clear hb2)
      go_roundw
      case rel => exact ⟨k + 1, by go_num, by omega, Lib.hid (by rw [hst.out, strs_snoc, ← hq.out]; exact ho2.out), hB2⟩
      case measure => simp [intOf]; omega
    · obtain rfl : k = l.length := by omega
      rw [List.take_length] at ho
      have hJ := Lib.hid (join_any (l.map (pre ++ ·)) _ _ wr (by rw [List.length_map]; exact ho.out) (by rw [List.length_map]; omega) hl.out)
      go_wp2_with fail
      refine hJ.out.mono ?_
      rintro e w2 ⟨rfl, hb2⟩
      have hB2 := Lib.hid (Below.next hB.out hBw hb2)
      clear hb2
      go_wp2
      go_ret
      exact ⟨rfl, hB2.out⟩
theorem vlist_len {x : List UInt8} {l : List (List UInt8)} (h : Syn.list x = some l) : l.length ≤ x.length + 1 := by
  unfold Syn.list at h
  cases hp : Syn.parts 44 x with
  | none => rw [hp] at h; cases h
  | some p =>
    rw [hp] at h
    have e : full p = l := by injection h
    have h1 := parts_len (s := str x) (by rw [bs_str]; exact hp)
    rw [str_size] at h1
    rw [← e]; exact Nat.le_trans (List.length_filter_le _ _) h1
theorem cutprefix_any (x : Bytes) (w : World) :
    Calls Tryz.prog 34 #[.string (str x), .string ⟨#[113, 117, 97, 121, 32]⟩] w fun e w' => e = .returned (.tuple #[.string (str (Lib.trimPrefix x pre)), .bool (Lib.hasPrefix x pre)]) ∧ w' = w :=
  Any.strings_CutPrefix Tryz.lays103 (str x) ⟨#[113, 117, 97, 121, 32]⟩ w
set_option maxRecDepth 100000 in
set_option maxHeartbeats 8000000 in
theorem readvia_of (s : ByteArray) (w : World) (hsz : s.size ≤ 1000000)
    (hC : ∀ L, Syn.list (bs s) = some L → ∀ x ∈ L, Lib.hasPrefix x pre = true → Lib.trimPrefix x pre ≠ [] → ∀ w, Calls Tryz.prog 35 #[.string (str (Lib.trimPrefix x pre)), .string ⟨#[32, 9]⟩] w fun e w' => e = .returned (.bool ((Lib.trimPrefix x pre).any Syn.blank)) ∧ Below w.heap.size w w') :
    Calls Tryz.prog 15 #[.string s] w fun e w' => ∃ v, e = .returned (.tuple #[v, errV (errO (Syn.list (bs s)))]) ∧ PartsOut w' w.heap.size v ((Syn.list (bs s)).map readV) ∧ Below w.heap.size w w' := by
  have hli : ∀ w, Calls Tryz.prog 33 #[.string s] w fun e w' => ∃ v, e = .returned (.tuple #[v, errV (errO (Syn.list (bs s)))]) ∧ PartsOut w' w.heap.size v (Syn.list (bs s)) ∧ Below w.heap.size w w' := fun w => list_any s w (by omega)
  have hlen : ∀ L, Syn.list (bs s) = some L → L.length ≤ 1000001 := fun L h => by have := vlist_len h; rw [bs_length] at this; omega
  cases hL : Syn.list (bs s) with
  | none =>
    rw [hL] at hli
    replace hli := Lib.hid hli
    clear hC hlen
    go_enter Tryz.func15, Tryz.ntmps15
    go_wp2_with fail
    refine (hli.out _).mono ?_
    rintro e w1 ⟨v, rfl, hv, hb⟩
    replace hb := Lib.hid hb
    clear hv
    rw [show errV (errO (none : Option (List Bytes))) = .iface 52 (.int .i64 2) from rfl]
    go_wp2
    go_ret2
    exact ⟨_, rfl, rfl, hb.out⟩
  | some L =>
    rw [hL] at hli
    replace hC := Lib.hid (hC L hL)
    have hlen := hlen L hL
    replace hli := Lib.hid hli
    replace hL := Lib.hid hL
    go_enter Tryz.func15, Tryz.ntmps15
    go_wp2_with fail
    refine (hli.out _).mono ?_
    rintro e w1 ⟨v, rfl, hv, hb1⟩
    rw [show errV (errO (some L)) = .nilIface from rfl]
    have hv2 : Own w1 w.heap.size 9 1 v L.length (strs L) := hv
    clear hv
    obtain ⟨A, cap, rfl, -, -, -⟩ : Rd w1 1 v L.length (strs L) := Rd.own hv2
    replace hv2 := Lib.hid hv2
    replace hb1 := Lib.hid hb1
    have hw1 := hb1.out.size
    go_wp2
    go_loopw [6, 21] (fun o i wr => ∃ k : Nat, i = .int .i64 (k : Int) ∧ k ≤ L.length ∧ Hid (Own wr w1.heap.size 9 1 o (readV (L.take k)).length (strs (readV (L.take k)))) ∧ Hid (Below w1.heap.size w1 wr)) (fun _ i _ => L.length - (intOf i).toNat)
    case atStart => exact ⟨0, rfl, by omega, Lib.hid (own_nil _ _ _ _), Lib.hid (Below.refl _ _)⟩
    case round =>
      obtain ⟨k, rfl, hk, ho, hB⟩ := hrel
      have hBw := hB.out.size
      by_cases hlt : k < L.length
      · obtain ⟨A', c', e', -, -, r'⟩ := (Rd.own hv2.out).below hB.out
        cases e'
        obtain ⟨b1, o1, rfl, _, x1⟩ := r' (by omega)
        have d1 : wr.cell? ⟨b1, o1 + k, none⟩ = some (.string (str L[k])) := x1 k _ (strs_at hlt)
        have hst := readV_take hlt
        have hrl := readV_len (L.take k)
        rw [List.length_take] at hrl
        have hCk := hC.out L[k] (List.getElem_mem hlt)
        clear x1 r'
        generalize L[k] = x at *
        have hCut := Lib.hid (fun w => cutprefix_any x w)
        have hna : nameOf x = if Lib.hasPrefix x pre = true ∧ Lib.trimPrefix x pre ≠ [] ∧ (Lib.trimPrefix x pre).any Syn.blank = false then some (Lib.trimPrefix x pre) else none := rfl
        generalize Lib.trimPrefix x pre = n at *
        generalize Lib.hasPrefix x pre = p at *
        cases p
        · rw [hna, if_neg (by simp)] at hst
          replace hst := Lib.hid (show _ = readV (L.take k) from hst.trans (List.append_nil _))
          clear hna hCk
          go_wp2_with fail
          refine (hCut.out _).mono ?_
          rintro e w2 ⟨rfl, rfl⟩
          go_wp2
          go_roundw
          case rel => exact ⟨k + 1, by go_num, by omega, Lib.hid (by rw [hst.out]; exact ho.out), hB⟩
          case measure => simp [intOf]; omega
        · by_cases hn : n = []
          · rw [hna, if_neg (by simp [hn])] at hst
            replace hst := Lib.hid (show _ = readV (L.take k) from hst.trans (List.append_nil _))
            have q1 : (str n).toList.isEmpty = true := by rw [str_toList, hn]; rfl
            clear hna hCk
            replace hn := Lib.hid hn
            go_wp2_with fail
            refine (hCut.out _).mono ?_
            rintro e w2 ⟨rfl, rfl⟩
            go_wp2
            go_roundw
            case rel => exact ⟨k + 1, by go_num, by omega, Lib.hid (by rw [hst.out]; exact ho.out), hB⟩
            case measure => simp [intOf]; omega
          · have q1 : (str n).toList.isEmpty = false := by rw [str_toList]; cases n with | nil => exact absurd rfl hn | cons a r => rfl
            have hC2 := Lib.hid (hCk rfl hn)
            clear hCk
            cases hbl : n.any Syn.blank
            · rw [hna, if_pos ⟨rfl, hn, hbl⟩] at hst
              rw [hbl] at hC2
              replace hst := Lib.hid hst
              replace hn := Lib.hid hn
              clear hna hbl
              go_wp2_with fail
              refine (hCut.out _).mono ?_
              rintro e w2 ⟨rfl, rfl⟩
              go_wp2_with fail
              refine (hC2.out _).mono ?_
              rintro e w3 ⟨rfl, hb3⟩
              have hB3 := Lib.hid (Below.next hB.out hBw hb3)
              have ho3 := Lib.hid (own_below ho.out hb3)
              have hB3s := hB3.out.size
              clear hb3 d1
              go_wp2_with (at_builtin; refine push_str _ _ rfl rfl rfl ho3.out rfl rfl (by omega) hB3s ?_; intro v4 w4 ho4 hb4; replace ho4 := Lib.hid ho4; have hB4 := Lib.hid (hB3.out.trans hb4); clear hb4)
              go_roundw
              case rel => exact ⟨k + 1, by go_num, by omega, Lib.hid (by rw [hst.out, List.length_append, strs_snoc]; exact ho4.out), hB4⟩
              case measure => simp [intOf]; omega
            · rw [hna, if_neg (by simp [hbl])] at hst
              replace hst := Lib.hid (show _ = readV (L.take k) from hst.trans (List.append_nil _))
              rw [hbl] at hC2
              replace hn := Lib.hid hn
              clear hna hbl
              go_wp2_with fail
              refine (hCut.out _).mono ?_
              rintro e w2 ⟨rfl, rfl⟩
              go_wp2_with fail
              refine (hC2.out _).mono ?_
              rintro e w3 ⟨rfl, hb3⟩
              have hB3 := Lib.hid (Below.next hB.out hBw hb3)
              have ho3 := Lib.hid (own_below ho.out hb3)
              clear hb3 d1
              go_wp2
              go_roundw
              case rel => exact ⟨k + 1, by go_num, by omega, Lib.hid (by rw [hst.out]; exact ho3.out), hB3⟩
              case measure => simp [intOf]; omega
      · obtain rfl : k = L.length := by omega
        rw [List.take_length] at ho
        have hown := Lib.hid (own_mono ho.out hw1)
        have hBf := Lib.hid (Below.next hb1.out hw1 hB.out)
        go_wp2
        go_ret2
        exact ⟨_, rfl, hown.out, hBf.out⟩
end Go.Proofs.YtpfpjcfacbfjaaaGreatDoor
