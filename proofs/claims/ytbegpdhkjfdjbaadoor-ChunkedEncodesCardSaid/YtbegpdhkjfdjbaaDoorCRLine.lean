/-
  Layer 7: a trailer line in the document.
-/
import Derived.Test.YtbegpdhkjfdjbaaDoorCStp
namespace Go.Proofs.YtbegpdhkjfdjbaaDoor
open Go.RowKit Syn Ck

namespace Ck
theorem forbs_at {k : Nat} (hk : k < 7) : ∃ x, forbiddens[k]? = some x ∧ (strs forbiddens)[k]? = some (.string (str x)) := by
  have hl : forbiddens.length = 7 := rfl
  have hk' : k < forbiddens.length := by omega
  exact ⟨forbiddens[k], List.getElem?_eq_getElem hk', strs_at hk'⟩
theorem forb_yes {n x : List UInt8} {k : Nat} (h : forbiddens[k]? = some x) (e : x = n) : forb n = true := by
  unfold forb; rw [decide_eq_true_eq, ← e]; exact List.mem_of_getElem? h
theorem forb_step {n x : List UInt8} {k : Nat} (h : forbiddens[k]? = some x) (e : x ≠ n) (hn : n ∉ forbiddens.take k) : n ∉ forbiddens.take (k + 1) := by
  obtain ⟨hk, hx⟩ := List.getElem?_eq_some_iff.1 h
  rw [List.take_succ_eq_append_getElem hk, List.mem_append, List.mem_singleton, hx]
  rintro (h3 | h3)
  · exact hn h3
  · exact e h3.symm
end Ck
set_option maxRecDepth 100000 in
set_option maxHeartbeats 4000000 in
theorem rforbidden_any (n : List UInt8) (w : World) :
    Calls Tryd.prog 38 #[.string (str n)] w fun e w' => e = .returned (.bool (forb n)) ∧ Below w.heap.size w w' := by
  have hB0 := Lib.hid (Blk.new w 9 (strs forbiddens).toArray)
  have hbl := Lib.hid ((Below.refl w.heap.size w).alloc (Nat.le_refl _) (.cells (strs forbiddens).toArray 9))
  go_enter Tryd.func38, Tryd.ntmps38
  go_wp2
  go_loop [4] (fun i => ∃ k : Nat, i = .int .i64 (k : Int) ∧ k ≤ 7 ∧ Hid (n ∉ forbiddens.take k)) (fun i => 7 - (intOf i).toNat)
  case atStart => exact ⟨0, rfl, by omega, Lib.hid (by simp)⟩
  case round =>
    obtain ⟨k, rfl, hk, hno⟩ := hrel
    by_cases hlt : k < 7
    · obtain ⟨x, hx1, hx2⟩ := forbs_at hlt
      have d1 : (w.alloc (.cells #[.string ⟨#[97, 117, 116, 104, 111, 114, 105, 122, 97, 116, 105, 111, 110]⟩, .string ⟨#[99, 97, 99, 104, 101, 45, 99, 111, 110, 116, 114, 111, 108]⟩, .string ⟨#[99, 111, 110, 116, 101, 110, 116, 45, 108, 101, 110, 103, 116, 104]⟩, .string ⟨#[104, 111, 115, 116]⟩, .string ⟨#[115, 101, 116, 45, 99, 111, 111, 107, 105, 101]⟩, .string ⟨#[116, 114, 97, 105, 108, 101, 114]⟩, .string ⟨#[116, 114, 97, 110, 115, 102, 101, 114, 45, 101, 110, 99, 111, 100, 105, 110, 103]⟩] 9)).cell? ⟨w.heap.size, k, none⟩ = some (.string (str x)) := by
        have h := hB0.out.cell k
        rw [List.getElem?_toArray, hx2] at h
        exact h
      by_cases he : x = n
      · have hq := str_eq he
        have hin := Lib.hid (forb_yes hx1 he)
        replace he := Lib.hid he
        replace hx1 := Lib.hid hx1
        replace hx2 := Lib.hid hx2
        clear hno
        go_wp2
        go_ret
        exact ⟨by rw [hin.out]; rfl, hbl.out⟩
      · have hq := str_ne he
        have hn := Lib.hid (forb_step hx1 he hno.out)
        replace he := Lib.hid he
        replace hx1 := Lib.hid hx1
        replace hx2 := Lib.hid hx2
        clear hno
        go_wp2
        go_round
        case rel => exact ⟨k + 1, by go_num, by omega, hn⟩
        case measure => simp [intOf]; omega
    · obtain rfl : k = 7 := by omega
      have hin := Lib.hid (show forb n = false from decide_eq_false hno.out)
      go_wp2
      go_ret
      exact ⟨by rw [hin.out]; rfl, hbl.out⟩

namespace Ck
theorem fline_cut {tx : List UInt8} {k : Nat} (hk : k < tx.length) (hc : tx[k] = 58) (hn : 58 ∉ tx.take k) : tx.takeWhile (· != 58) = tx.take k ∧ tx.dropWhile (· != 58) = 58 :: tx.drop (k + 1) := by
  have e : tx = tx.take k ++ 58 :: tx.drop (k + 1) := by rw [← hc, ← List.drop_eq_getElem_cons hk, List.take_append_drop]
  have hp : ∀ x ∈ tx.take k, (x != 58) = true := fun x hx => by rw [bne_iff_ne]; rintro rfl; exact hn hx
  constructor
  · conv => lhs; rw [e]
    rw [List.takeWhile_append_of_pos hp, List.takeWhile_cons_of_neg (by decide), List.append_nil]
  · conv => lhs; rw [e]
    rw [List.dropWhile_append_of_pos hp, List.dropWhile_cons_of_neg (by decide)]
theorem dw_nil : ∀ tx : List UInt8, 58 ∉ tx → tx.dropWhile (· != 58) = []
  | [], _ => rfl
  | a :: r, h => by
    rw [List.dropWhile_cons_of_pos (by rw [bne_iff_ne]; rintro rfl; exact h (by simp))]
    exact dw_nil r (fun h2 => h (by simp [h2]))
theorem fline_no {tx : List UInt8} (hn : 58 ∉ tx) : fline tx = none := by
  have : tx.dropWhile (· != 58) = [] := dw_nil tx hn
  unfold fline
  split
  · rfl
  · rename_i v h; rw [this] at h; cases h
theorem fline_at {tx : List UInt8} {k : Nat} (hk : k < tx.length) (hc : tx[k] = 58) (hn : 58 ∉ tx.take k) :
    fline tx = if nmE (tx.take k) = 0 ∧ vlE (tx.drop (k + 1)) = 0 ∧ forb (nmV (tx.take k)) = false then some (nmV (tx.take k), vlV (tx.drop (k + 1))) else none := by
  obtain ⟨h1, h2⟩ := fline_cut hk hc hn
  have e : fline tx = match tx.dropWhile (· != 58) with
      | [] => none
      | _ :: v => if nmE (tx.takeWhile (· != 58)) = 0 ∧ vlE v = 0 ∧ forb (nmV (tx.takeWhile (· != 58))) = false then some (nmV (tx.takeWhile (· != 58)), vlV v) else none := rfl
  rw [e, h1, h2]
theorem col_step {tx : List UInt8} {k : Nat} (hk : k < tx.length) (hc : tx[k] ≠ 58) (hn : 58 ∉ tx.take k) : 58 ∉ tx.take (k + 1) := by
  rw [List.take_succ_eq_append_getElem hk, List.mem_append, List.mem_singleton]
  rintro (h | h)
  · exact hn h
  · exact hc h.symm
/-- What line returns. -/
def LineR (tx : List UInt8) (w : World) (e : Ending) (w' : World) : Prop :=
  ∃ n v : ByteArray, e = .returned (.tuple #[.agg #[.string n, .string v], .bool (fline tx).isSome]) ∧ (∀ a b, fline tx = some (a, b) → n = str a ∧ v = str b) ∧ Below w.heap.size w w'
end Ck
set_option maxRecDepth 100000 in
set_option maxHeartbeats 8000000 in
theorem rline_any (tx : List UInt8) (w : World) (hm : tx.length ≤ 8192) : Calls Tryd.prog 66 #[.string (str tx)] w (LineR tx w) := by
  have hsz := str_size tx
  have hB0 := Lib.hid (Blk.new w 63 #[.string ⟨#[]⟩, .string ⟨#[]⟩])
  have hbl := Lib.hid ((Below.refl w.heap.size w).alloc (Nat.le_refl _) (.cells #[.string ⟨#[]⟩, .string ⟨#[]⟩] 63))
  have hext : ∀ k, bs ((str tx).extract 0 k) = tx.take k := fun k => by rw [extract_str, bs_str]; rfl
  have hext2 : ∀ k, bs ((str tx).extract (k + 1) (str tx).size) = tx.drop (k + 1) := fun k => by rw [extract_str, bs_str, take_all]; rfl
  have hbs := bs_str tx
  obtain ⟨st, hst⟩ : ∃ st, str tx = st := ⟨_, rfl⟩
  have Hst := Lib.hid hst
  rw [hst] at hsz hext hext2 hbs ⊢
  clear hst
  replace hext := Lib.hid hext
  replace hext2 := Lib.hid hext2
  replace hbs := Lib.hid hbs
  have hsz2 : st.size ≤ 8192 := by omega
  replace hsz := Lib.hid hsz
  go_enter Tryd.func66, Tryd.ntmps66
  go_wp2
  go_loop [4] (fun i => ∃ k : Nat, i = .int .i64 (k : Int) ∧ k ≤ st.size ∧ Hid (58 ∉ tx.take k)) (fun i => st.size - (intOf i).toNat)
  case atStart => exact ⟨0, rfl, by omega, Lib.hid (by simp)⟩
  case round =>
    obtain ⟨k, rfl, hk, hno⟩ := hrel
    by_cases hlt : k < st.size
    · have hkt : k < tx.length := by rw [← hsz.out]; exact hlt
      have hg : st[k] = tx[k] := by
        have h := byte_at st k hlt
        rw [hbs.out, List.getElem?_eq_getElem hkt] at h
        exact (Option.some.inj h).symm
      by_cases hc : tx[k] = 58
      · have q : ((st[k].toNat : Int) == 58) = true := by rw [hg, hc]; rfl
        have hfl := fline_at hkt hc hno.out
        have hN : ∀ w, Calls Tryd.prog 30 #[.string (st.extract 0 k)] w fun e w' => e = .returned (.tuple #[.string (str (nmV (tx.take k))), .int .i64 (nmE (tx.take k))]) ∧ Below w.heap.size w w' := fun w => by
          have h := r2name_any (st.extract 0 k) w (by rw [← bs_length, hext.out, List.length_take]; omega)
          rw [hext.out] at h; exact h
        have hV : ∀ w, Calls Tryd.prog 37 #[.string (st.extract (k + 1) st.size)] w fun e w' => e = .returned (.tuple #[.string (str (vlV (tx.drop (k + 1)))), .int .i64 (vlE (tx.drop (k + 1)))]) ∧ Below w.heap.size w w' := fun w => by
          have h := r2value_any (st.extract (k + 1) st.size) w (by rw [← bs_length, hext2.out, List.length_drop]; omega)
          rw [hext2.out] at h; exact h
        have hO : ∀ w, Calls Tryd.prog 38 #[.string (str (nmV (tx.take k)))] w fun e w' => e = .returned (.bool (forb (nmV (tx.take k)))) ∧ Below w.heap.size w w' := fun w => rforbidden_any _ w
        replace hc := Lib.hid hc
        replace hg := Lib.hid hg
        replace hkt := Lib.hid hkt
        replace hno := Lib.hid hno
        generalize tx.take k = nm at *
        generalize tx.drop (k + 1) = vl at *
        by_cases k1 : nmE nm = 0
        · have q1 : (nmE nm == 0) = true := beq_iff_eq.2 k1
          by_cases k2 : vlE vl = 0
          · have q2 : (vlE vl == 0) = true := beq_iff_eq.2 k2
            have hfl2 : Hid ((fline tx).isSome = !forb (nmV nm) ∧ ∀ a b, fline tx = some (a, b) → str (nmV nm) = str a ∧ str (vlV vl) = str b) := Lib.hid (by
              rw [hfl]
              cases k3 : forb (nmV nm)
              · rw [if_pos ⟨k1, k2, rfl⟩]; exact ⟨rfl, fun a b e => by cases e; exact ⟨rfl, rfl⟩⟩
              · rw [if_neg (fun h => absurd h.2.2 (by decide))]; exact ⟨rfl, fun a b e => by cases e⟩)
            clear hfl
            replace k1 := Lib.hid k1
            replace k2 := Lib.hid k2
            generalize str (nmV nm) = s1 at *
            generalize str (vlV vl) = s2 at *
            generalize forb (nmV nm) = fb at *
            replace hN := Lib.hid hN
            replace hV := Lib.hid hV
            replace hO := Lib.hid hO
            go_wp2_with fail
            refine (hN.out _).mono ?_
            rintro e w2 ⟨rfl, hb2⟩
            have hB2 := Lib.hid (Below.next hbl.out hbl.out.size hb2)
            have hK2 := Lib.hid (hB0.out.below hb2)
            clear hb2
            go_wp2_with fail
            refine (hV.out _).mono ?_
            rintro e w3 ⟨rfl, hb3⟩
            have hB3 := Lib.hid (Below.next hB2.out hB2.out.size hb3)
            have hK3 := Lib.hid (hK2.out.below hb3)
            clear hb3
            have j0 := hK3.out.cell 0
            have j1 := hK3.out.cell 1
            have g0 := hK3.out.frozen 0
            have g1 := hK3.out.frozen 1
            go_wp2_with fail
            refine (hO.out _).mono ?_
            rintro e w4 ⟨rfl, hb4⟩
            have hB4 := Lib.hid (Below.next hB3.out hB3.out.size hb4)
            have hK4 := Lib.hid (hK3.out.below hb4)
            clear hb4 j0 j1 g0 g1
            have j0 := hK4.out.cell 0
            have j1 := hK4.out.cell 1
            have g0 := hK4.out.frozen 0
            have g1 := hK4.out.frozen 1
            go_wp2
            exact ret_blk rfl rfl rfl (hK4.out.two _ _) Tryd.underlying63 rfl (by kernel_rfl) ⟨s1, s2, by rw [hfl2.out.1]; rfl, hfl2.out.2, two_below rfl hB4.out _ _⟩
          · have q2 : (vlE vl == 0) = false := beq_eq_false_iff_ne.2 k2
            have hfl2 : Hid ((fline tx).isSome = false ∧ ∀ a b, fline tx = some (a, b) → str (nmV nm) = str a ∧ str (vlV vl) = str b) := Lib.hid (by
              rw [hfl, if_neg (fun h => k2 h.2.1)]; exact ⟨rfl, fun a b e => by cases e⟩)
            clear hfl
            replace k1 := Lib.hid k1
            replace k2 := Lib.hid k2
            generalize str (nmV nm) = s1 at *
            generalize str (vlV vl) = s2 at *
            replace hN := Lib.hid hN
            replace hV := Lib.hid hV
            replace hO := Lib.hid hO
            go_wp2_with fail
            refine (hN.out _).mono ?_
            rintro e w2 ⟨rfl, hb2⟩
            have hB2 := Lib.hid (Below.next hbl.out hbl.out.size hb2)
            have hK2 := Lib.hid (hB0.out.below hb2)
            clear hb2
            go_wp2_with fail
            refine (hV.out _).mono ?_
            rintro e w3 ⟨rfl, hb3⟩
            have hB3 := Lib.hid (Below.next hB2.out hB2.out.size hb3)
            have hK3 := Lib.hid (hK2.out.below hb3)
            clear hb3
            have j0 := hK3.out.cell 0
            have j1 := hK3.out.cell 1
            have g0 := hK3.out.frozen 0
            have g1 := hK3.out.frozen 1
            go_wp2
            exact ret_blk rfl rfl rfl (hK3.out.two _ _) Tryd.underlying63 rfl (by kernel_rfl) ⟨s1, s2, by rw [hfl2.out.1]; rfl, hfl2.out.2, two_below rfl hB3.out _ _⟩
        · have q1 : (nmE nm == 0) = false := beq_eq_false_iff_ne.2 k1
          have hfl2 : Hid ((fline tx).isSome = false ∧ ∀ a b, fline tx = some (a, b) → str (nmV nm) = str a ∧ str (vlV vl) = str b) := Lib.hid (by
            rw [hfl, if_neg (fun h => k1 h.1)]; exact ⟨rfl, fun a b e => by cases e⟩)
          clear hfl
          replace k1 := Lib.hid k1
          generalize str (nmV nm) = s1 at *
          generalize str (vlV vl) = s2 at *
          replace hN := Lib.hid hN
          replace hV := Lib.hid hV
          replace hO := Lib.hid hO
          go_wp2_with fail
          refine (hN.out _).mono ?_
          rintro e w2 ⟨rfl, hb2⟩
          have hB2 := Lib.hid (Below.next hbl.out hbl.out.size hb2)
          have hK2 := Lib.hid (hB0.out.below hb2)
          clear hb2
          go_wp2_with fail
          refine (hV.out _).mono ?_
          rintro e w3 ⟨rfl, hb3⟩
          have hB3 := Lib.hid (Below.next hB2.out hB2.out.size hb3)
          have hK3 := Lib.hid (hK2.out.below hb3)
          clear hb3
          have j0 := hK3.out.cell 0
          have j1 := hK3.out.cell 1
          have g0 := hK3.out.frozen 0
          have g1 := hK3.out.frozen 1
          go_wp2
          exact ret_blk rfl rfl rfl (hK3.out.two _ _) Tryd.underlying63 rfl (by kernel_rfl) ⟨s1, s2, by rw [hfl2.out.1]; rfl, hfl2.out.2, two_below rfl hB3.out _ _⟩
      · have q : ((st[k].toNat : Int) == 58) = false := beq_cast_false (fun e => hc (by rw [← hg]; exact UInt8.toNat_inj.1 e))
        have hn := Lib.hid (col_step hkt hc hno.out)
        replace hc := Lib.hid hc
        replace hg := Lib.hid hg
        replace hkt := Lib.hid hkt
        clear hno
        go_wp2
        go_round
        case rel => exact ⟨k + 1, by go_num, by omega, hn⟩
        case measure => simp [intOf]; omega
    · obtain rfl : k = st.size := by omega
      have hfl : Hid (fline tx = none) := Lib.hid (fline_no (by have := hno.out; rw [hsz.out, List.take_length] at this; exact this))
      go_wp2
      exact ret_blk rfl rfl rfl hB0.out Tryd.underlying63 rfl (by kernel_rfl) ⟨⟨#[]⟩, ⟨#[]⟩, by rw [hfl.out]; rfl, (fun a b e => by rw [hfl.out] at e; cases e), hbl.out⟩
end Go.Proofs.YtbegpdhkjfdjbaaDoor
