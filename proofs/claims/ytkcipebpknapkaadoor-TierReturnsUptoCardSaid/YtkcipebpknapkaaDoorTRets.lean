/-
  Layer 33: the walk of TierReturns.
-/
import Derived.Test.YtkcipebpknapkaaDoorTRet
namespace Go.Proofs.YtkcipebpknapkaaDoor
open Go.RowKit Ti

namespace Ti
theorem via_tot : ∀ a : List Bytes, (via a).length ≤ tot a + 6 * a.length := by
  intro a
  suffices h : ∀ (n : Nat) (a : List Bytes), a.length = n → (via a).length ≤ tot a + 6 * a.length from h a.length a rfl
  intro n
  induction n with
  | zero => intro a h; rw [List.eq_nil_of_length_eq_zero h]; exact Nat.zero_le _
  | succ n ih =>
    intro a h
    obtain ⟨b, x, rfl⟩ : ∃ b x, a = b ++ [x] := ⟨a.dropLast, a.getLast (by intro e; rw [e] at h; cases h), (List.dropLast_concat_getLast _).symm⟩
    have h1 := ih b (by simpa using h)
    have h2 : tot (b ++ [x]) = tot b + (1 + x.length) := by simp [tot]
    rw [via_snoc, List.length_append, List.length_append, List.length_append, List.length_append, List.length_singleton, h2]
    have h3 : (if b = [] then ([] : Bytes) else [44, 32]).length ≤ 2 := by split <;> simp
    have h4 : Ti.pre.length = 5 := rfl
    omega
theorem good_step {l : List Bytes} {k : Nat} (hk : k < l.length) (h : ∀ x ∈ l.take k, gname x = true) (h2 : gname l[k] = true) : ∀ x ∈ l.take (k + 1), gname x = true := by
  intro x hx
  rw [List.take_succ_eq_append_getElem hk] at hx
  rcases List.mem_append.1 hx with hx | hx
  · exact h x hx
  · rw [List.mem_singleton.1 hx]; exact h2
theorem byte_step {n : Bytes} {j : Nat} (hj : j < n.length) (h : (n.take j).all gb = true) (h2 : gb n[j] = true) : (n.take (j + 1)).all gb = true := by
  rw [List.take_succ_eq_append_getElem hj, List.all_append, h, List.all_cons, h2]; rfl
theorem gb_yes {c : UInt8} (h1 : ¬ c.toNat ≤ 32) (h2 : c.toNat ≠ 44) (h3 : c.toNat ≠ 34) (h4 : c.toNat ≠ 127) : gb c = true := by
  unfold gb
  simp [h1, h2, h3, h4]
end Ti

set_option maxRecDepth 100000 in
set_option maxHeartbeats 8000000 in
theorem returns_walk (l : List Bytes) (v : Value) (w : World) (hR : Rd w 1 v l.length (strs l)) (hs : ∀ x ∈ l, x.length ≤ 1048576) (hm : l.length ≤ 1048576) :
    Calls Tryd.prog 4 #[v] w fun e w' => e = .returned (.bool true) ∧ Below w.heap.size w w' := by
  obtain ⟨A, cap, rfl, hcap, -, -⟩ := id hR
  have hL : ∀ w1, Below w.heap.size w w1 → Calls Tryd.prog 7 #[.slice (some ⟨w1.heap.size, 0, none⟩) 1 1] (w1.alloc (.cells #[.slice A l.length cap] 22)) fun e w' => e = .returned (.bool (decide (2000 < addUp 0 l))) ∧ w' = w1.alloc (.cells #[.slice A l.length cap] 22) := fun w1 hb =>
    long_any l A cap w1.heap.size _ (Blk.new w1 22 #[.slice A l.length cap]) ((hR.below hb).below ((Below.refl _ _).alloc (Nat.le_refl _) _)) (by omega) fun x hx => Nat.le_trans (hs x hx) (by omega)
  have hfew := few_of hs hm
  have hb0 : Hid (Below w.heap.size w (w.alloc (.cells #[.slice A l.length cap] 22))) := Lib.hid ((Below.refl _ _).alloc (Nat.le_refl _) _)
  have hL2 := hL _ hb0.out
  rw [talloc_size] at hL2
  generalize decide (2000 < addUp 0 l) = b at *
  replace hL2 := Lib.hid hL2
  replace hL := Lib.hid hL
  replace hs := Lib.hid hs
  cases b
  · have hf := hfew rfl
    clear hfew
    have hvl : (via l).length ≤ 1000000 := by have h1 := via_tot l; have h2 := tot_len l; omega
    have hmem := Lib.hid (fun x (hx : x ∈ l) => (show x.length ≤ 2000 by have := tot_mem hx; omega))
    have hC := Lib.hid (fun w1 (hb : Below w.heap.size w w1) => via_any l A cap w1 (hR.below hb) (by have := tot_len l; omega) (fun x hx => by have := tot_mem hx; omega) (by omega))
    have hRV : Hid ((∀ x ∈ l, gname x = true) → ∀ w, Calls Tryd.prog 9 #[.string (str (via l))] w fun e w' => ∃ v, e = .returned (.tuple #[v, .nilIface]) ∧ Own w' w.heap.size 9 1 v l.length (strs l) ∧ Below w.heap.size w w') := Lib.hid (fun hg w => by
      have h := readvia_any (str (via l)) w (by rw [str_size]; exact hvl)
      rw [bs_str, list_via hg, Option.map_some, read_names hg] at h
      exact h)
    have hT := Lib.hid (fun (v1 : Value) (w1 : World) (h1 : Rd w1 1 v1 l.length (strs l)) (hb : Below w.heap.size w w1) => texts_any w1 h1 (hR.below hb) (by unfold maxLen; omega))
    clear hvl hf
    generalize str (via l) = tt at *
    replace hR := Lib.hid hR
    go_enter Tryd.func4, Tryd.ntmps4
    go_wp2_with fail
    refine (hL.out _ (Below.refl _ _)).mono ?_
    rintro e w1 ⟨rfl, rfl⟩
    go_wp2_with fail
    refine (tawake_any _).mono ?_
    rintro e w2 ⟨rfl, hb2⟩
    have hB2 := Lib.hid (Below.next hb0.out hb0.out.size hb2)
    clear hb2
    go_wp2
    go_loop [20] (fun i => ∃ k : Nat, i = .int .i64 (k : Int) ∧ k ≤ l.length ∧ Hid (∀ x ∈ l.take k, gname x = true)) (fun i => l.length - (intOf i).toNat)
    case atStart => exact ⟨0, rfl, by omega, Lib.hid (by simp)⟩
    case round =>
      obtain ⟨k, rfl, hk, hG⟩ := hrel
      by_cases hlt : k < l.length
      · obtain ⟨A', c', e', -, -, r'⟩ := hR.out.below hB2.out
        cases e'
        obtain ⟨b1, o1, rfl, _, x1⟩ := r' (by omega)
        have d1 : w2.cell? ⟨b1, o1 + k, none⟩ = some (.string (str l[k])) := x1 k _ (strs_at hlt)
        have hxm := hmem.out l[k] (List.getElem_mem hlt)
        have hst := Lib.hid (good_step hlt hG.out)
        clear x1 r'
        generalize l[k] = x at *
        by_cases hx0 : x = []
        · have q1 : (str x).toList.isEmpty = true := by rw [str_toList, hx0]; rfl
          replace hx0 := Lib.hid hx0
          go_wp2
          go_ret
          exact ⟨rfl, hB2.out⟩
        · have q1 : (str x).toList.isEmpty = false := by rw [str_toList]; cases x with | nil => exact absurd rfl hx0 | cons a r => rfl
          have hgn : Hid (x.all gb = true → gname x = true) := Lib.hid fun h => by unfold gname; rw [h]; cases x with | nil => exact absurd rfl hx0 | cons a r => rfl
          replace hx0 := Lib.hid hx0
          have hsx := str_size x
          have hbx := Lib.hid (bs_str x)
          obtain ⟨sn, hsn⟩ : ∃ sn, str x = sn := ⟨_, rfl⟩
          rw [hsn] at d1 q1 hsx hbx
          clear hsn
          go_wp2
          go_loop [28] (fun i => ∃ j : Nat, i = .int .i64 (j : Int) ∧ j ≤ sn.size ∧ Hid (((bs sn).take j).all gb = true)) (fun i => sn.size - (intOf i).toNat)
          case atStart => exact ⟨0, rfl, by omega, Lib.hid rfl⟩
          case round =>
            obtain ⟨j, rfl, hj, hA⟩ := hrel
            by_cases hjl : j < sn.size
            · obtain ⟨c, hc⟩ : ∃ c : UInt8, sn[j]'hjl = c := ⟨_, rfl⟩
              have hbl : (bs sn)[j]'(by rw [bs_length]; exact hjl) = c := hc
              have hs2 := byte_step (n := bs sn) (j := j) (by rw [bs_length]; exact hjl) hA.out
              rw [hbl] at hs2
              clear hbl
              replace hs2 := Lib.hid hs2
              by_cases h1 : c.toNat ≤ 32
              · go_wp2
                go_ret
                exact ⟨rfl, hB2.out⟩
              · by_cases h2 : c.toNat = 44
                · have i2 : ((c.toNat : Int) == 44) = true := by rw [h2]; rfl
                  replace h2 := Lib.hid h2
                  go_wp2
                  go_ret
                  exact ⟨rfl, hB2.out⟩
                · have i2 : ((c.toNat : Int) == 44) = false := beq_eq_false_iff_ne.2 (by omega)
                  by_cases h3 : c.toNat = 34
                  · have i3 : ((c.toNat : Int) == 34) = true := by rw [h3]; rfl
                    replace h2 := Lib.hid h2
                    replace h3 := Lib.hid h3
                    go_wp2
                    go_ret
                    exact ⟨rfl, hB2.out⟩
                  · have i3 : ((c.toNat : Int) == 34) = false := beq_eq_false_iff_ne.2 (by omega)
                    by_cases h4 : c.toNat = 127
                    · have i4 : ((c.toNat : Int) == 127) = true := by rw [h4]; rfl
                      replace h2 := Lib.hid h2
                      replace h3 := Lib.hid h3
                      replace h4 := Lib.hid h4
                      go_wp2
                      go_ret
                      exact ⟨rfl, hB2.out⟩
                    · have i4 : ((c.toNat : Int) == 127) = false := beq_eq_false_iff_ne.2 (by omega)
                      have hs3 := Lib.hid (hs2.out (gb_yes h1 h2 h3 h4))
                      replace h2 := Lib.hid h2
                      replace h3 := Lib.hid h3
                      replace h4 := Lib.hid h4
                      go_wp2
                      go_round
                      case rel => exact ⟨j + 1, by go_num, by omega, hs3⟩
                      case measure => simp [intOf]; omega
            · obtain rfl : j = sn.size := by omega
              have hst2 := Lib.hid (hst.out (hgn.out (by have := hA.out; rw [← bs_length, List.take_length, hbx.out] at this; exact this)))
              go_wp2
              go_round
              case rel => exact ⟨k + 1, by go_num, by omega, hst2⟩
              case measure => simp [intOf]; omega
      · obtain rfl : k = l.length := by omega
        rw [List.take_length] at hG
        go_wp2_with fail
        refine (hC.out _ hB2.out).mono ?_
        rintro e w3 ⟨rfl, hb3⟩
        have hB3 := Lib.hid (Below.next hB2.out hB2.out.size hb3)
        clear hb3
        go_wp2_with fail
        refine (hRV.out hG.out _).mono ?_
        rintro e w4 ⟨v4, rfl, hv4, hb4⟩
        have hB4 := Lib.hid (Below.next hB3.out hB3.out.size hb4)
        have hT4 := Lib.hid (hT.out v4 w4 (Rd.own hv4) hB4.out)
        clear hb4 hv4
        go_wp2_with fail
        refine hT4.out.mono ?_
        rintro e w5 ⟨rfl, n, rfl⟩
        have hB5 := Lib.hid (below_drewN hB4.out n)
        generalize w4.drewN n = wz at *
        go_wp2
        go_ret
        exact ⟨rfl, hB5.out⟩
  · go_enter Tryd.func4, Tryd.ntmps4
    go_wp2_with fail
    refine (hL.out _ (Below.refl _ _)).mono ?_
    rintro e w1 ⟨rfl, rfl⟩
    go_wp2_with fail
    refine hL2.out.mono ?_
    rintro e w2 ⟨rfl, rfl⟩
    have hB3 := Lib.hid (hb0.out.alloc hb0.out.size (.cells #[.slice A l.length cap] 22))
    go_wp2
    go_ret
    exact ⟨rfl, hB3.out⟩
end Go.Proofs.YtkcipebpknapkaaDoor
