/-
  The walk of FramingSmuggles.
-/
import Derived.Test.YtodgkppjabhhlaaDoorFSmug
import Derived.Test.YtodgkppjabhhlaaDoorFFits2
import Derived.Test.YtodgkppjabhhlaaDoorFRepWalk
import Derived.Test.YtodgkppjabhhlaaDoorFLenWalk
import Derived.Deep.DeepCutAuto
namespace Go.Proofs.YtodgkppjabhhlaaDoor
open Go.RowKit Syn Fr

theorem run_two (w : World) (c d : UInt8) :
    (convert 45 9 (Value.slice (some ⟨w.heap.size, 0, none⟩) 2 2)).run Tryd.prog (w.alloc (.cells #[.int .u8 (c.toNat : Int), .int .u8 (d.toNat : Int)] 5)) = Result.ok (Value.string (str [c, d])) (w.alloc (.cells #[.int .u8 (c.toNat : Int), .int .u8 (d.toNat : Int)] 5)) := by
  have := run_convert_bytes_arg (P := Tryd.prog) (w.alloc (.cells #[.int .u8 (c.toNat : Int), .int .u8 (d.toNat : Int)] 5)) 45 5 Tryd.underlying45 Tryd.underlying5 w.heap.size 0 2 2 [(c.toNat : Int), (d.toNat : Int)] rfl (by
    intro i hi
    rcases (show i = 0 ∨ i = 1 by omega) with rfl | rfl
    · exact (Blk.new w 5 #[.int .u8 (c.toNat : Int), .int .u8 (d.toNat : Int)]).cell 0
    · exact (Blk.new w 5 #[.int .u8 (c.toNat : Int), .int .u8 (d.toNat : Int)]).cell 1) 9 Tryd.underlying9
  rw [← strOfNums_str [c, d]]
  exact this
theorem two_bytes (y : Nat) (w : World) :
    (convert 45 9 (Value.slice (some ⟨w.heap.size, 0, none⟩) 2 2)).run Tryd.prog (w.alloc (.cells #[.int .u8 (48 + (y : Int) / 10 % 10), .int .u8 (48 + (y : Int) % 10)] 5)) = Result.ok (Value.string (str (two y))) (w.alloc (.cells #[.int .u8 (48 + (y : Int) / 10 % 10), .int .u8 (48 + (y : Int) % 10)] 5)) := by
  have h := run_two w (digc (y / 10)) (digc y)
  rw [show ((digc (y / 10)).toNat : Int) = 48 + (y : Int) / 10 % 10 by rw [digc_nat]; omega, show ((digc y).toNat : Int) = 48 + (y : Int) % 10 by rw [digc_nat]; omega] at h
  exact h
theorem prs_drop (L : List (Bytes × Bytes)) (k : Nat) : prs (L.drop k) = (prs L).drop (k * 2) := by
  induction k generalizing L with
  | zero => simp
  | succ k ih =>
    cases L with
    | nil => simp [prs]
    | cons p L =>
      rw [List.drop_succ_cons, ih, show (k + 1) * 2 = k * 2 + 2 by omega]
      have e : prs (p :: L) = .string (str p.1) :: .string (str p.2) :: prs L := by simp [prs]
      rw [e]; rfl
theorem cells_drop {w : World} {b o k : Nat} {L : List (Bytes × Bytes)} (h : ∀ j u, (prs L)[j]? = some u → w.cell? ⟨b, o + j, none⟩ = some u) : ∀ j u, (prs (L.drop k))[j]? = some u → w.cell? ((⟨b, o + k * 2, none⟩ : Addr).add j) = some u := fun j u hu => by
  rw [prs_drop, List.getElem?_drop] at hu
  have e : (⟨b, o + k * 2, none⟩ : Addr).add j = ⟨b, o + (k * 2 + j), none⟩ := by unfold Addr.add; split <;> simp_all <;> omega
  rw [e]; exact h _ u hu
theorem cells_below {w w' : World} {b o j : Nat} {u : Value} (hb : Below w.heap.size w w') (hl : b < w.heap.size) (h : w.cell? ((⟨b, o, none⟩ : Addr).add j) = some u) : w'.cell? ((⟨b, o, none⟩ : Addr).add j) = some u := by
  have e : (⟨b, o, none⟩ : Addr).add j = ⟨b, o + j, none⟩ := by unfold Addr.add; split <;> simp_all
  rw [e] at h ⊢
  exact (hb.cell (p := ⟨b, o + j, none⟩) hl).trans h
theorem cells_end {w : World} {a : Addr} {k : Nat} {L : List (Bytes × Bytes)} (h : L.length ≤ k) : ∀ j u, (prs (L.drop k))[j]? = some u → w.cell? (a.add j) = some u := fun j u hu => by
  rw [List.drop_eq_nil_of_le h] at hu
  cases hu
theorem cells_take {w : World} {b o k : Nat} {L : List (Bytes × Bytes)} (h : ∀ j u, (prs L)[j]? = some u → w.cell? ⟨b, o + j, none⟩ = some u) : ∀ j u, (prs (L.take k))[j]? = some u → w.cell? ((⟨b, o, none⟩ : Addr).add j) = some u := fun j u hu => by
  have hp : prs L = prs (L.take k) ++ prs (L.drop k) := by rw [← prs_append, List.take_append_drop]
  have hj : j < (prs (L.take k)).length := by
    rcases Nat.lt_or_ge j (prs (L.take k)).length with h1 | h1
    · exact h1
    · rw [List.getElem?_eq_none h1] at hu; cases hu
  have e : (⟨b, o, none⟩ : Addr).add j = ⟨b, o + j, none⟩ := by unfold Addr.add; split <;> simp_all
  rw [e]; exact h j u (by rw [hp, List.getElem?_append_left hj]; exact hu)
set_option maxRecDepth 100000 in
set_option maxHeartbeats 16000000 in
theorem smuggles_walk (L : List (Bytes × Bytes)) (m t : ByteArray) (v : Value) (x y : Nat) (w : World) (hx : x ≤ 255) (hy : y ≤ 65535) (hR : Rd w 2 v L.length (prs L)) (hbig : ∀ p ∈ L, p.1.length ≤ 140737488355328 ∧ p.2.length ≤ 140737488355328) (hlm : L.length ≤ 140737488355328) :
    Calls Tryd.prog 10 #[.agg #[.string m, .string t, v], .int .u8 (x : Int), .int .u16 (y : Int)] w fun e w' => e = .returned (.bool true) ∧ Below w.heap.size w w' := by
  obtain ⟨A, cap, rfl, hcap, -, -⟩ := id hR
  obtain ⟨G, hG⟩ : ∃ G, w.heap.size = G := ⟨_, rfl⟩
  have hFt := Lib.hid (fun w (h : Rd w 2 (.slice A L.length cap) L.length (prs L)) => fits_any2 L _ w h hbig hlm)
  replace hR := Lib.hid hR
  replace hbig := Lib.hid hbig
  go_enter Tryd.func10, Tryd.ntmps10
  go_wp2_with fail
  have hA := Blk.new w 24 #[.string m, .string t, .slice A L.length cap]
  have hB0 := (Below.refl w.heap.size w).alloc (Nat.le_refl _) (.cells #[.string m, .string t, .slice A L.length cap] 24)
  rw [hG] at hA
  generalize w.alloc (.cells #[.string m, .string t, .slice A L.length cap] 24) = w0 at *
  refine (fawake_any _).mono ?_
  rintro e w1 ⟨rfl, hb1⟩
  have hA1 := hA.below hb1
  have hR1 := Lib.hid (hR.out.below (hB0.trans (hb1.mono hB0.size)))
  have hB1 := Lib.hid (Below.next hB0 hB0.size hb1)
  have c0 : w1.cell? ⟨G, 0, none⟩ = some (.string m) := hA1.cell 0
  have c1 : w1.cell? ⟨G, 1, none⟩ = some (.string t) := hA1.cell 1
  have c2 : w1.cell? ⟨G, 2, none⟩ = some (.slice A L.length cap) := hA1.cell 2
  replace hA1 := Lib.hid hA1
  clear hb1 hA hB0
  go_wp2_with fail
  refine (hFt.out _ hR1.out).mono ?_
  rintro e w2 ⟨b, rfl, hfew, nd, rfl⟩
  cases b
  · clear hfew
    go_wp2_with fail
    refine (fawake_any _).mono ?_
    rintro e w3 ⟨rfl, hb3⟩
    have hB3 := Lib.hid (Below.next (below_drewN hB1.out nd) hB1.out.size hb3)
    clear hb3
    go_wp2
    go_ret
    exact ⟨rfl, hB3.out⟩
  · have hF := Lib.hid (hfew rfl).2
    have h80 := (hfew rfl).1
    have hl : L.length ≤ 100 := hF.out.len
    have hRq := Lib.hid (fun w h => request_any L (.string m) (.string t) (.slice A L.length cap) w ⟨_, rfl⟩ ⟨_, rfl⟩ hl h)
    have hsm := smuggle L y
    have hOf : ∀ w B cap', Rd w 2 (.slice B L.length cap') L.length (prs L) → Calls Tryd.prog 13 #[.agg #[.string m, .string t, .slice B L.length cap']] w fun e w' => e = .returned (.tuple #[.agg #[.int .i64 ((frame 1 L).1.1 : Int), .int .i64 ((frame 1 L).1.2 : Int)], errV (frame 1 L).2]) ∧ Below w.heap.size w w' := fun w B cap' h => of_request L m t B cap' w hF.out h
    clear hfew
    replace hOf := Lib.hid hOf
    replace hRq := Lib.hid hRq
    go_wp2_with fail
    refine (hRq.out _ (hR1.out.drewN nd)).mono ?_
    rintro e w3 ⟨o, rfl, hR3, hb3⟩
    obtain ⟨B, cap', rfl, hcap', -, -⟩ := id hR3
    have hb3' : Below w1.heap.size w1 w3 := ⟨hb3.os, hb3.tape, hb3.output, hb3.size, hb3.block⟩
    have hQ := Blk.new w3 36 #[.string m, .string t, .slice B L.length cap']
    have hB3 := Below.next hB1.out hB1.out.size hb3'
    have hw3 := hB3.size
    have hB4 := hB3.alloc hB3.size (.cells #[.string m, .string t, .slice B L.length cap'] 36)
    have hR5 := hR3.below ((Below.refl w3.heap.size w3).alloc (Nat.le_refl _) (.cells #[.string m, .string t, .slice B L.length cap'] 36))
    replace hB4 := Lib.hid hB4
    replace hQ := Lib.hid hQ
    replace hR5 := Lib.hid hR5
    clear hb3 hb3' hB3 hR3 c0 c1 c2 hA1 hR1 hB1
    go_wp2_with fail
    refine (hOf.out _ _ _ hR5.out).mono ?_
    rintro e w4 ⟨rfl, hb4⟩
    have hBz := Below.next hB4.out hB4.out.size hb4
    generalize ha : ((frame 1 L).1.1 : Int) = a at *
    generalize ((frame 1 L).1.2 : Int) = b at *
    have hBy := hBz.alloc hBz.size (.cells #[.int .i64 a, .int .i64 b] 28)
    have hK := Blk.new w4 28 #[.int .i64 a, .int .i64 b]
    have hqx := (hQ.out.below hb4).alloc (.cells #[.int .i64 a, .int .i64 b] 28)
    have hRx := (hR5.out.below hb4).below ((Below.refl w4.heap.size w4).alloc (Nat.le_refl _) (.cells #[.int .i64 a, .int .i64 b] 28))
    have hqg : w3.heap.size < w4.heap.size := hQ.out.below hb4 |>.lt
    clear hb4 hBz hQ hR5 hB4 hRq hOf
    rcases hsm with ⟨c, he⟩ | ⟨he, h1⟩ | ⟨he, h3, hpos, hsm⟩ | ⟨he, h2, hpos, hsm⟩
    · rw [he]
      replace hBy := Lib.hid hBy
      clear hK hqx hRx
      go_wp2
      go_ret
      exact ⟨rfl, hBy.out⟩
    · rw [he]
      have h1' : a = 1 := by rw [← ha, h1]; rfl
      subst h1'
      replace hBy := Lib.hid hBy
      clear hK hqx hRx
      go_wp2
      go_ret
      exact ⟨rfl, hBy.out⟩
    · rw [he]
      have h3' : a = 3 := by rw [← ha, h3]; rfl
      subst h3'
      clear ha he h3
      replace hBy := Lib.hid hBy
      go_upto_region 7 with (fail)
      generalize w4.alloc (.cells #[.int .i64 3, .int .i64 b] 28) = wx at *
      have hcv := two_bytes y wx
      have k0 : ∀ o p, ((wx.alloc o).alloc p).cell? ⟨w4.heap.size, 0, none⟩ = some (.int .i64 3) := fun o p => ((hK.alloc o).alloc p).cell 0
      have q2 : ∀ o p, ((wx.alloc o).alloc p).cell? ⟨w3.heap.size, 2, none⟩ = some (.slice B L.length cap') := fun o p => ((hqx.alloc o).alloc p).cell 2
      go_upto_region 11 with (fail)
      have hE := Blk.new (wx.alloc (.cells #[.int .u8 (48 + (y : Int) / 10 % 10), .int .u8 (48 + (y : Int) % 10)] 5)) 48 #[.string ⟨#[67, 111, 110, 116, 101, 110, 116, 45, 76, 101, 110, 103, 116, 104]⟩, .string (str (two y))]
      rw [alloc_size'] at hE
      have hq6 := (hqx.alloc (.cells #[.int .u8 (48 + (y : Int) / 10 % 10), .int .u8 (48 + (y : Int) % 10)] 5)).alloc (.cells #[.string ⟨#[67, 111, 110, 116, 101, 110, 116, 45, 76, 101, 110, 103, 116, 104]⟩, .string (str (two y))] 48)
      have hb6 := bl_aa (Below.refl wx.heap.size wx) (Nat.le_refl _) (.cells #[.int .u8 (48 + (y : Int) / 10 % 10), .int .u8 (48 + (y : Int) % 10)] 5) (.cells #[.string ⟨#[67, 111, 110, 116, 101, 110, 116, 45, 76, 101, 110, 103, 116, 104]⟩, .string (str (two y))] 48)
      have hR6 := hRx.below hb6
      have hB6 := Below.next hBy.out hBy.out.size hb6
      clear hb6 hcv k0 q2 hK hqx hRx hBy
      generalize (wx.alloc (.cells #[.int .u8 (48 + (y : Int) / 10 % 10), .int .u8 (48 + (y : Int) % 10)] 5)).alloc (.cells #[.string ⟨#[67, 111, 110, 116, 101, 110, 116, 45, 76, 101, 110, 103, 116, 104]⟩, .string (str (two y))] 48) = w6 at *
      generalize wx.heap.size + 1 = ge at *
      obtain ⟨k, hkx, hkl⟩ : ∃ k : Nat, (x : Int) % ((L.length : Int) + 1) = (k : Int) ∧ k ≤ L.length := ⟨x % (L.length + 1), by push_cast; rfl, by have := Nat.mod_lt x (show L.length + 1 > 0 by omega); omega⟩
      rw [hkx]
      clear hkx
      obtain ⟨A', c', e', -, -, r'⟩ := id hR6
      cases e'
      obtain ⟨b1, o1, rfl, hb1l, x1⟩ := r' hpos
      have hnew1 := Lib.hid (cells_take (k := k) x1)
      have hnew2 := Lib.hid (cells_drop (k := k) x1)
      have hl1 := Lib.hid (show (prs (L.take k)).length = k * 2 by rw [prs_length, List.length_take]; omega)
      have hl2 := Lib.hid (show (prs (L.drop k)).length = (L.length - k) * 2 by rw [prs_length, List.length_drop])
      have q2 : w6.cell? ⟨w3.heap.size, 2, none⟩ = some (.slice (some ⟨b1, o1, none⟩) L.length cap') := hq6.cell 2
      have hB6s := hB6.size
      replace hE := Lib.hid hE
      replace hq6 := Lib.hid hq6
      replace hR6 := Lib.hid hR6
      replace hB6 := Lib.hid hB6
      clear x1 r'
      have hkc : (k : Int) ≤ (cap' : Int) := by omega
      have hkc2 : (k : Int) ≤ (L.length : Int) := by omega
      by_cases hkk : k = cap'
      · have hlk : L.length ≤ k := by omega
        subst hkk
        have hl3 := Lib.hid (show (prs (L.drop k)).length = 0 * 2 by rw [hl2.out]; omega)
        go_wp2_with (at_builtin; first
          | (refine step_push 34 48 (.agg #[.string ⟨#[]⟩, .string ⟨#[]⟩]) 2 32 _ _ rfl rfl Tryd.underlying34 infoF2 rfl (by decide) (by decide) rfl (own_nil _ w6.heap.size _ _) rfl (news := prs (L.take k)) (ad := ⟨b1, o1, none⟩) hl1.out hnew1.out (prs_one _) (by omega) (Nat.le_refl _) ?_; intro v7 w7 ho7 hb7 hat7; clear hat7; have e0 : w7.cell? ⟨ge, 0, none⟩ = some (.string ⟨#[67, 111, 110, 116, 101, 110, 116, 45, 76, 101, 110, 103, 116, 104]⟩) := (hE.out.below hb7).cell 0; have e1 : w7.cell? ⟨ge, 1, none⟩ = some (.string (str (two y))) := (hE.out.below hb7).cell 1; replace ho7 : Own w7 w6.heap.size 48 2 v7 k (prs (L.take k)) := (by rw [Nat.zero_add] at ho7; exact ho7); have hb7s := hb7.size; replace ho7 := Lib.hid ho7; replace hb7 := Lib.hid hb7)
          | (refine push_pair 34 48 Tryd.underlying34 infoF2 _ _ rfl rfl rfl ho7.out rfl rfl rfl (by omega) hb7s ?_; intro v8 w8 ho8 hb8; have hb68 := hb7.out.trans hb8; have q8 : w8.cell? ⟨w3.heap.size, 2, none⟩ = some (.slice (some ⟨b1, o1, none⟩) L.length k) := (hq6.out.below hb68).cell 2; have hnew8 := Lib.hid (fun j u hu => cells_below hb68 hb1l (hnew2.out j u hu)); have hb8s := hb68.size; replace hb68 := Lib.hid hb68; replace ho8 := Lib.hid ho8; clear hb8)
          | (refine step_push 34 48 (.agg #[.string ⟨#[]⟩, .string ⟨#[]⟩]) 2 32 _ _ rfl rfl Tryd.underlying34 infoF2 rfl (by decide) (by decide) rfl ho8.out rfl (news := prs (L.drop k)) (ad := ⟨b1, o1, none⟩) hl3.out (cells_end hlk) (prs_one _) (by omega) hb8s ?_; intro v9 w9 ho9 hb9 hat9; clear hat9; have hb69 := hb68.out.trans hb9; replace ho9 : Own w9 w6.heap.size 48 2 v9 (k + 1) _ := ho9; obtain ⟨b9, c9, e9, -, -⟩ := Own.lies ho9 (by omega); subst e9; have hq9 := hq6.out.below hb69; have s2 := hq9.cell 2; have g2 := hq9.frozen 2; have s3 : ∀ u, (w9.setCell ⟨w3.heap.size, 2, none⟩ u).cell? ⟨w3.heap.size, 0, none⟩ = some (.string m) := (fun u => (hq9.set_ 2 u).cell 0); have s4 : ∀ u, (w9.setCell ⟨w3.heap.size, 2, none⟩ u).cell? ⟨w3.heap.size, 1, none⟩ = some (.string t) := (fun u => (hq9.set_ 2 u).cell 1); have s5 : ∀ u, (w9.setCell ⟨w3.heap.size, 2, none⟩ u).cell? ⟨w3.heap.size, 2, none⟩ = some u := (fun u => (hq9.set_ 2 u).cell 2); have hq9s := Lib.hid hq9; have hq9l := hq9.lt; clear hq9; replace ho9 := Lib.hid ho9; replace hb69 := Lib.hid hb69; clear hb9))
        clear hnew1 hnew2 hnew8 hl1 hl2 e0 e1 hE ho7 ho8 hb7 hb68 hR6
        obtain ⟨hfr, ham⟩ := hsm k
        have hN : (L.take k ++ [(CL, two y)] ++ L.drop k).length = k + 1 := by simp only [List.length_append, List.length_take, List.length_drop, List.length_cons, List.length_nil]; omega
        have hF2 := few_split hF.out h80 k (e := (CL, two y)) (by show List.length CL ≤ 100; decide) (by show List.length (two y) ≤ 100; show _ ≤ 100; exact of_decide_eq_true rfl)
        have hP : prs (L.take k ++ [(CL, two y)] ++ L.drop k) = prs (L.take k) ++ [.string (str CL), .string (str (two y))] ++ prs (L.drop k) := by rw [prs_append, prs_append]; rfl
        have hOf2 : ∀ w A cap, Rd w 2 (.slice A (k + 1) cap) (k + 1) (prs (L.take k ++ [(CL, two y)] ++ L.drop k)) → Calls Tryd.prog 13 #[.agg #[.string m, .string t, .slice A (k + 1) cap]] w fun e w' => e = .returned (.tuple #[.agg #[.int .i64 0, .int .i64 0], errV 31]) ∧ Below w.heap.size w w' := fun w A cap h => by
          have := of_request (L.take k ++ [(CL, two y)] ++ L.drop k) m t A cap w hF2 (by rw [hN]; exact h)
          rw [hN, hfr] at this
          exact this
        have hAm2 : ∀ w A cap, Rd w 2 (.slice A (k + 1) cap) (k + 1) (prs (L.take k ++ [(CL, two y)] ++ L.drop k)) → Calls Tryd.prog 27 #[.agg #[.string m, .string t, .slice A (k + 1) cap]] w fun e w' => e = .returned (.bool true) ∧ Below w.heap.size w w' := fun w A cap h => by
          have := ambiguous_any (L.take k ++ [(CL, two y)] ++ L.drop k) m t A cap w hF2 (by rw [hN]; exact h)
          rw [hN, ham] at this
          exact this
        rw [hP] at hOf2 hAm2
        have hRd := Rd.own (own_far ho9.out (p := ⟨w3.heap.size, 2, none⟩) hq6.out.lt (.slice (some ⟨b9, 0, none⟩) (k + 1) c9))
        have hqA : Blk (w9.setCell ⟨w3.heap.size, 2, none⟩ (.slice (some ⟨b9, 0, none⟩) (k + 1) c9)) w3.heap.size 36 #[.string m, .string t, .slice (some ⟨b9, 0, none⟩) (k + 1) c9] := hq9s.out.set_ 2 _
        have hBf := (Below.next hB6.out hB6s hb69.out).setCell (p := ⟨w3.heap.size, 2, none⟩) hw3 (.slice (some ⟨b9, 0, none⟩) (k + 1) c9)
        have hBfs := hBf.size
        clear hfr ham hN hF2 hP ho9 hq6 hq9s hsm hb69 hB6
        have hIs := fun w => is_any 31 31 w
        generalize errV 31 = ev31 at *
        replace hIs := Lib.hid hIs
        replace hAm2 := Lib.hid hAm2
        refine (hOf2 _ _ _ hRd).mono ?_
        rintro e w11 ⟨rfl, hb11⟩
        have hqB := hqA.below hb11
        have r0 : w11.cell? ⟨w3.heap.size, 0, none⟩ = some (.string m) := hqB.cell 0
        have r1 : w11.cell? ⟨w3.heap.size, 1, none⟩ = some (.string t) := hqB.cell 1
        have r2 : w11.cell? ⟨w3.heap.size, 2, none⟩ = some (.slice (some ⟨b9, 0, none⟩) (k + 1) c9) := hqB.cell 2
        have hRd2 := hRd.below hb11
        have hBg := Below.next hBf hBfs hb11
        have hBgs := hBg.size
        replace hRd2 := Lib.hid hRd2
        replace hBg := Lib.hid hBg
        clear hb11 hBf hRd hqA hqB hOf2 s2 g2 s3 s4 s5
        go_wp2_with fail
        refine (hIs.out _).mono ?_
        rintro e w12 ⟨rfl, rfl⟩
        go_wp2_with fail
        refine (hAm2.out _ _ _ hRd2.out).mono ?_
        rintro e w13 ⟨rfl, hb13⟩
        have hBh := Lib.hid (Below.next hBg.out hBgs hb13)
        clear hb13
        go_wp2
        go_ret
        exact ⟨rfl, hBh.out⟩
      · have hkk1 : ¬((cap' : Int) = (k : Int)) := by omega
        go_wp2_with (at_builtin; first
          | (refine step_push 34 48 (.agg #[.string ⟨#[]⟩, .string ⟨#[]⟩]) 2 32 _ _ rfl rfl Tryd.underlying34 infoF2 rfl (by decide) (by decide) rfl (own_nil _ w6.heap.size _ _) rfl (news := prs (L.take k)) (ad := ⟨b1, o1, none⟩) hl1.out hnew1.out (prs_one _) (by omega) (Nat.le_refl _) ?_; intro v7 w7 ho7 hb7 hat7; clear hat7; have e0 : w7.cell? ⟨ge, 0, none⟩ = some (.string ⟨#[67, 111, 110, 116, 101, 110, 116, 45, 76, 101, 110, 103, 116, 104]⟩) := (hE.out.below hb7).cell 0; have e1 : w7.cell? ⟨ge, 1, none⟩ = some (.string (str (two y))) := (hE.out.below hb7).cell 1; replace ho7 : Own w7 w6.heap.size 48 2 v7 k (prs (L.take k)) := (by rw [Nat.zero_add] at ho7; exact ho7); have hb7s := hb7.size; replace ho7 := Lib.hid ho7; replace hb7 := Lib.hid hb7)
          | (refine push_pair 34 48 Tryd.underlying34 infoF2 _ _ rfl rfl rfl ho7.out rfl rfl rfl (by omega) hb7s ?_; intro v8 w8 ho8 hb8; have hb68 := hb7.out.trans hb8; have q8 : w8.cell? ⟨w3.heap.size, 2, none⟩ = some (.slice (some ⟨b1, o1, none⟩) L.length cap') := (hq6.out.below hb68).cell 2; have hnew8 := Lib.hid (fun j u hu => cells_below hb68 hb1l (hnew2.out j u hu)); have hb8s := hb68.size; replace hb68 := Lib.hid hb68; replace ho8 := Lib.hid ho8; clear hb8)
          | (refine step_push 34 48 (.agg #[.string ⟨#[]⟩, .string ⟨#[]⟩]) 2 32 _ _ rfl rfl Tryd.underlying34 infoF2 rfl (by decide) (by decide) rfl ho8.out rfl (news := prs (L.drop k)) (ad := ⟨b1, o1 + k * 2, none⟩) hl2.out hnew8.out (prs_one _) (by omega) hb8s ?_; intro v9 w9 ho9 hb9 hat9; clear hat9; have hb69 := hb68.out.trans hb9; obtain ⟨b9, c9, e9, -, -⟩ := Own.lies ho9 (by omega); subst e9; have hq9 := hq6.out.below hb69; have s2 := hq9.cell 2; have g2 := hq9.frozen 2; have s3 : ∀ u, (w9.setCell ⟨w3.heap.size, 2, none⟩ u).cell? ⟨w3.heap.size, 0, none⟩ = some (.string m) := (fun u => (hq9.set_ 2 u).cell 0); have s4 : ∀ u, (w9.setCell ⟨w3.heap.size, 2, none⟩ u).cell? ⟨w3.heap.size, 1, none⟩ = some (.string t) := (fun u => (hq9.set_ 2 u).cell 1); have s5 : ∀ u, (w9.setCell ⟨w3.heap.size, 2, none⟩ u).cell? ⟨w3.heap.size, 2, none⟩ = some u := (fun u => (hq9.set_ 2 u).cell 2); have hq9s := Lib.hid hq9; have hq9l := hq9.lt; clear hq9; replace ho9 := Lib.hid ho9; replace hb69 := Lib.hid hb69; clear hb9))
        clear hnew1 hnew2 hnew8 hl1 hl2 e0 e1 hE ho7 ho8 hb7 hb68 hR6
        obtain ⟨hfr, ham⟩ := hsm k
        have hN : (L.take k ++ [(CL, two y)] ++ L.drop k).length = k + 1 + (L.length - k) := by simp only [List.length_append, List.length_take, List.length_drop, List.length_cons, List.length_nil]; omega
        have hF2 := few_split hF.out h80 k (e := (CL, two y)) (by show List.length CL ≤ 100; decide) (by show List.length (two y) ≤ 100; show _ ≤ 100; exact of_decide_eq_true rfl)
        have hP : prs (L.take k ++ [(CL, two y)] ++ L.drop k) = prs (L.take k) ++ [.string (str CL), .string (str (two y))] ++ prs (L.drop k) := by rw [prs_append, prs_append]; rfl
        have hOf2 : ∀ w A cap, Rd w 2 (.slice A (k + 1 + (L.length - k)) cap) (k + 1 + (L.length - k)) (prs (L.take k ++ [(CL, two y)] ++ L.drop k)) → Calls Tryd.prog 13 #[.agg #[.string m, .string t, .slice A (k + 1 + (L.length - k)) cap]] w fun e w' => e = .returned (.tuple #[.agg #[.int .i64 0, .int .i64 0], errV 31]) ∧ Below w.heap.size w w' := fun w A cap h => by
          have := of_request (L.take k ++ [(CL, two y)] ++ L.drop k) m t A cap w hF2 (by rw [hN]; exact h)
          rw [hN, hfr] at this
          exact this
        have hAm2 : ∀ w A cap, Rd w 2 (.slice A (k + 1 + (L.length - k)) cap) (k + 1 + (L.length - k)) (prs (L.take k ++ [(CL, two y)] ++ L.drop k)) → Calls Tryd.prog 27 #[.agg #[.string m, .string t, .slice A (k + 1 + (L.length - k)) cap]] w fun e w' => e = .returned (.bool true) ∧ Below w.heap.size w w' := fun w A cap h => by
          have := ambiguous_any (L.take k ++ [(CL, two y)] ++ L.drop k) m t A cap w hF2 (by rw [hN]; exact h)
          rw [hN, ham] at this
          exact this
        rw [hP] at hOf2 hAm2
        have hRd := Rd.own (own_far ho9.out (p := ⟨w3.heap.size, 2, none⟩) hq6.out.lt (.slice (some ⟨b9, 0, none⟩) (k + 1 + (L.length - k)) c9))
        have hqA : Blk (w9.setCell ⟨w3.heap.size, 2, none⟩ (.slice (some ⟨b9, 0, none⟩) (k + 1 + (L.length - k)) c9)) w3.heap.size 36 #[.string m, .string t, .slice (some ⟨b9, 0, none⟩) (k + 1 + (L.length - k)) c9] := hq9s.out.set_ 2 _
        have hBf := (Below.next hB6.out hB6s hb69.out).setCell (p := ⟨w3.heap.size, 2, none⟩) hw3 (.slice (some ⟨b9, 0, none⟩) (k + 1 + (L.length - k)) c9)
        have hBfs := hBf.size
        clear hfr ham hN hF2 hP ho9 hq6 hq9s hsm hb69 hB6
        have hIs := fun w => is_any 31 31 w
        generalize errV 31 = ev31 at *
        replace hIs := Lib.hid hIs
        replace hAm2 := Lib.hid hAm2
        refine (hOf2 _ _ _ hRd).mono ?_
        rintro e w11 ⟨rfl, hb11⟩
        have hqB := hqA.below hb11
        have r0 : w11.cell? ⟨w3.heap.size, 0, none⟩ = some (.string m) := hqB.cell 0
        have r1 : w11.cell? ⟨w3.heap.size, 1, none⟩ = some (.string t) := hqB.cell 1
        have r2 : w11.cell? ⟨w3.heap.size, 2, none⟩ = some (.slice (some ⟨b9, 0, none⟩) (k + 1 + (L.length - k)) c9) := hqB.cell 2
        have hRd2 := hRd.below hb11
        have hBg := Below.next hBf hBfs hb11
        have hBgs := hBg.size
        replace hRd2 := Lib.hid hRd2
        replace hBg := Lib.hid hBg
        clear hb11 hBf hRd hqA hqB hOf2 s2 g2 s3 s4 s5
        go_wp2_with fail
        refine (hIs.out _).mono ?_
        rintro e w12 ⟨rfl, rfl⟩
        go_wp2_with fail
        refine (hAm2.out _ _ _ hRd2.out).mono ?_
        rintro e w13 ⟨rfl, hb13⟩
        have hBh := Lib.hid (Below.next hBg.out hBgs hb13)
        clear hb13
        go_wp2
        go_ret
        exact ⟨rfl, hBh.out⟩

    · rw [he]
      have h3' : a = 2 := by rw [← ha, h2]; rfl
      subst h3'
      clear ha he h2
      replace hBy := Lib.hid hBy
      go_upto_region 7 with (fail)
      generalize w4.alloc (.cells #[.int .i64 2, .int .i64 b] 28) = wx at *
      have hcv := two_bytes y wx
      have k0 : ∀ o p, ((wx.alloc o).alloc p).cell? ⟨w4.heap.size, 0, none⟩ = some (.int .i64 2) := fun o p => ((hK.alloc o).alloc p).cell 0
      have q2 : ∀ o p, ((wx.alloc o).alloc p).cell? ⟨w3.heap.size, 2, none⟩ = some (.slice B L.length cap') := fun o p => ((hqx.alloc o).alloc p).cell 2
      go_upto_region 11 with (fail)
      have hE := Blk.new (wx.alloc (.cells #[.int .u8 (48 + (y : Int) / 10 % 10), .int .u8 (48 + (y : Int) % 10)] 5)) 48 #[.string ⟨#[84, 114, 97, 110, 115, 102, 101, 114, 45, 69, 110, 99, 111, 100, 105, 110, 103]⟩, .string (⟨#[99, 104, 117, 110, 107, 101, 100]⟩)]
      rw [alloc_size'] at hE
      have hq6 := (hqx.alloc (.cells #[.int .u8 (48 + (y : Int) / 10 % 10), .int .u8 (48 + (y : Int) % 10)] 5)).alloc (.cells #[.string ⟨#[84, 114, 97, 110, 115, 102, 101, 114, 45, 69, 110, 99, 111, 100, 105, 110, 103]⟩, .string (⟨#[99, 104, 117, 110, 107, 101, 100]⟩)] 48)
      have hb6 := bl_aa (Below.refl wx.heap.size wx) (Nat.le_refl _) (.cells #[.int .u8 (48 + (y : Int) / 10 % 10), .int .u8 (48 + (y : Int) % 10)] 5) (.cells #[.string ⟨#[84, 114, 97, 110, 115, 102, 101, 114, 45, 69, 110, 99, 111, 100, 105, 110, 103]⟩, .string (⟨#[99, 104, 117, 110, 107, 101, 100]⟩)] 48)
      have hR6 := hRx.below hb6
      have hB6 := Below.next hBy.out hBy.out.size hb6
      clear hb6 hcv k0 q2 hK hqx hRx hBy
      generalize (wx.alloc (.cells #[.int .u8 (48 + (y : Int) / 10 % 10), .int .u8 (48 + (y : Int) % 10)] 5)).alloc (.cells #[.string ⟨#[84, 114, 97, 110, 115, 102, 101, 114, 45, 69, 110, 99, 111, 100, 105, 110, 103]⟩, .string (⟨#[99, 104, 117, 110, 107, 101, 100]⟩)] 48) = w6 at *
      generalize wx.heap.size + 1 = ge at *
      obtain ⟨k, hkx, hkl⟩ : ∃ k : Nat, (x : Int) % ((L.length : Int) + 1) = (k : Int) ∧ k ≤ L.length := ⟨x % (L.length + 1), by push_cast; rfl, by have := Nat.mod_lt x (show L.length + 1 > 0 by omega); omega⟩
      rw [hkx]
      clear hkx
      obtain ⟨A', c', e', -, -, r'⟩ := id hR6
      cases e'
      obtain ⟨b1, o1, rfl, hb1l, x1⟩ := r' hpos
      have hnew1 := Lib.hid (cells_take (k := k) x1)
      have hnew2 := Lib.hid (cells_drop (k := k) x1)
      have hl1 := Lib.hid (show (prs (L.take k)).length = k * 2 by rw [prs_length, List.length_take]; omega)
      have hl2 := Lib.hid (show (prs (L.drop k)).length = (L.length - k) * 2 by rw [prs_length, List.length_drop])
      have q2 : w6.cell? ⟨w3.heap.size, 2, none⟩ = some (.slice (some ⟨b1, o1, none⟩) L.length cap') := hq6.cell 2
      have hB6s := hB6.size
      replace hE := Lib.hid hE
      replace hq6 := Lib.hid hq6
      replace hR6 := Lib.hid hR6
      replace hB6 := Lib.hid hB6
      clear x1 r'
      have hkc : (k : Int) ≤ (cap' : Int) := by omega
      have hkc2 : (k : Int) ≤ (L.length : Int) := by omega
      by_cases hkk : k = cap'
      · have hlk : L.length ≤ k := by omega
        subst hkk
        have hl3 := Lib.hid (show (prs (L.drop k)).length = 0 * 2 by rw [hl2.out]; omega)
        go_wp2_with (at_builtin; first
          | (refine step_push 34 48 (.agg #[.string ⟨#[]⟩, .string ⟨#[]⟩]) 2 32 _ _ rfl rfl Tryd.underlying34 infoF2 rfl (by decide) (by decide) rfl (own_nil _ w6.heap.size _ _) rfl (news := prs (L.take k)) (ad := ⟨b1, o1, none⟩) hl1.out hnew1.out (prs_one _) (by omega) (Nat.le_refl _) ?_; intro v7 w7 ho7 hb7 hat7; clear hat7; have e0 : w7.cell? ⟨ge, 0, none⟩ = some (.string ⟨#[84, 114, 97, 110, 115, 102, 101, 114, 45, 69, 110, 99, 111, 100, 105, 110, 103]⟩) := (hE.out.below hb7).cell 0; have e1 : w7.cell? ⟨ge, 1, none⟩ = some (.string (⟨#[99, 104, 117, 110, 107, 101, 100]⟩)) := (hE.out.below hb7).cell 1; replace ho7 : Own w7 w6.heap.size 48 2 v7 k (prs (L.take k)) := (by rw [Nat.zero_add] at ho7; exact ho7); have hb7s := hb7.size; replace ho7 := Lib.hid ho7; replace hb7 := Lib.hid hb7)
          | (refine push_pair 34 48 Tryd.underlying34 infoF2 _ _ rfl rfl rfl ho7.out rfl rfl rfl (by omega) hb7s ?_; intro v8 w8 ho8 hb8; have hb68 := hb7.out.trans hb8; have q8 : w8.cell? ⟨w3.heap.size, 2, none⟩ = some (.slice (some ⟨b1, o1, none⟩) L.length k) := (hq6.out.below hb68).cell 2; have hnew8 := Lib.hid (fun j u hu => cells_below hb68 hb1l (hnew2.out j u hu)); have hb8s := hb68.size; replace hb68 := Lib.hid hb68; replace ho8 := Lib.hid ho8; clear hb8)
          | (refine step_push 34 48 (.agg #[.string ⟨#[]⟩, .string ⟨#[]⟩]) 2 32 _ _ rfl rfl Tryd.underlying34 infoF2 rfl (by decide) (by decide) rfl ho8.out rfl (news := prs (L.drop k)) (ad := ⟨b1, o1, none⟩) hl3.out (cells_end hlk) (prs_one _) (by omega) hb8s ?_; intro v9 w9 ho9 hb9 hat9; clear hat9; have hb69 := hb68.out.trans hb9; replace ho9 : Own w9 w6.heap.size 48 2 v9 (k + 1) _ := ho9; obtain ⟨b9, c9, e9, -, -⟩ := Own.lies ho9 (by omega); subst e9; have hq9 := hq6.out.below hb69; have s2 := hq9.cell 2; have g2 := hq9.frozen 2; have s3 : ∀ u, (w9.setCell ⟨w3.heap.size, 2, none⟩ u).cell? ⟨w3.heap.size, 0, none⟩ = some (.string m) := (fun u => (hq9.set_ 2 u).cell 0); have s4 : ∀ u, (w9.setCell ⟨w3.heap.size, 2, none⟩ u).cell? ⟨w3.heap.size, 1, none⟩ = some (.string t) := (fun u => (hq9.set_ 2 u).cell 1); have s5 : ∀ u, (w9.setCell ⟨w3.heap.size, 2, none⟩ u).cell? ⟨w3.heap.size, 2, none⟩ = some u := (fun u => (hq9.set_ 2 u).cell 2); have hq9s := Lib.hid hq9; have hq9l := hq9.lt; clear hq9; replace ho9 := Lib.hid ho9; replace hb69 := Lib.hid hb69; clear hb9))
        clear hnew1 hnew2 hnew8 hl1 hl2 e0 e1 hE ho7 ho8 hb7 hb68 hR6
        obtain ⟨hfr, ham⟩ := hsm k
        have hN : (L.take k ++ [(TE, ch)] ++ L.drop k).length = k + 1 := by simp only [List.length_append, List.length_take, List.length_drop, List.length_cons, List.length_nil]; omega
        have hF2 := few_split hF.out h80 k (e := (TE, ch)) (by show List.length TE ≤ 100; decide) (by show List.length (ch) ≤ 100; show _ ≤ 100; exact of_decide_eq_true rfl)
        have hP : prs (L.take k ++ [(TE, ch)] ++ L.drop k) = prs (L.take k) ++ [.string (str TE), .string (str (ch))] ++ prs (L.drop k) := by rw [prs_append, prs_append]; rfl
        have hOf2 : ∀ w A cap, Rd w 2 (.slice A (k + 1) cap) (k + 1) (prs (L.take k ++ [(TE, ch)] ++ L.drop k)) → Calls Tryd.prog 13 #[.agg #[.string m, .string t, .slice A (k + 1) cap]] w fun e w' => e = .returned (.tuple #[.agg #[.int .i64 0, .int .i64 0], errV 31]) ∧ Below w.heap.size w w' := fun w A cap h => by
          have := of_request (L.take k ++ [(TE, ch)] ++ L.drop k) m t A cap w hF2 (by rw [hN]; exact h)
          rw [hN, hfr] at this
          exact this
        have hAm2 : ∀ w A cap, Rd w 2 (.slice A (k + 1) cap) (k + 1) (prs (L.take k ++ [(TE, ch)] ++ L.drop k)) → Calls Tryd.prog 27 #[.agg #[.string m, .string t, .slice A (k + 1) cap]] w fun e w' => e = .returned (.bool true) ∧ Below w.heap.size w w' := fun w A cap h => by
          have := ambiguous_any (L.take k ++ [(TE, ch)] ++ L.drop k) m t A cap w hF2 (by rw [hN]; exact h)
          rw [hN, ham] at this
          exact this
        rw [hP] at hOf2 hAm2
        have hRd := Rd.own (own_far ho9.out (p := ⟨w3.heap.size, 2, none⟩) hq6.out.lt (.slice (some ⟨b9, 0, none⟩) (k + 1) c9))
        have hqA : Blk (w9.setCell ⟨w3.heap.size, 2, none⟩ (.slice (some ⟨b9, 0, none⟩) (k + 1) c9)) w3.heap.size 36 #[.string m, .string t, .slice (some ⟨b9, 0, none⟩) (k + 1) c9] := hq9s.out.set_ 2 _
        have hBf := (Below.next hB6.out hB6s hb69.out).setCell (p := ⟨w3.heap.size, 2, none⟩) hw3 (.slice (some ⟨b9, 0, none⟩) (k + 1) c9)
        have hBfs := hBf.size
        clear hfr ham hN hF2 hP ho9 hq6 hq9s hsm hb69 hB6
        have hIs := fun w => is_any 31 31 w
        generalize errV 31 = ev31 at *
        replace hIs := Lib.hid hIs
        replace hAm2 := Lib.hid hAm2
        refine (hOf2 _ _ _ hRd).mono ?_
        rintro e w11 ⟨rfl, hb11⟩
        have hqB := hqA.below hb11
        have r0 : w11.cell? ⟨w3.heap.size, 0, none⟩ = some (.string m) := hqB.cell 0
        have r1 : w11.cell? ⟨w3.heap.size, 1, none⟩ = some (.string t) := hqB.cell 1
        have r2 : w11.cell? ⟨w3.heap.size, 2, none⟩ = some (.slice (some ⟨b9, 0, none⟩) (k + 1) c9) := hqB.cell 2
        have hRd2 := hRd.below hb11
        have hBg := Below.next hBf hBfs hb11
        have hBgs := hBg.size
        replace hRd2 := Lib.hid hRd2
        replace hBg := Lib.hid hBg
        clear hb11 hBf hRd hqA hqB hOf2 s2 g2 s3 s4 s5
        go_wp2_with fail
        refine (hIs.out _).mono ?_
        rintro e w12 ⟨rfl, rfl⟩
        go_wp2_with fail
        refine (hAm2.out _ _ _ hRd2.out).mono ?_
        rintro e w13 ⟨rfl, hb13⟩
        have hBh := Lib.hid (Below.next hBg.out hBgs hb13)
        clear hb13
        go_wp2
        go_ret
        exact ⟨rfl, hBh.out⟩
      · have hkk1 : ¬((cap' : Int) = (k : Int)) := by omega
        go_wp2_with (at_builtin; first
          | (refine step_push 34 48 (.agg #[.string ⟨#[]⟩, .string ⟨#[]⟩]) 2 32 _ _ rfl rfl Tryd.underlying34 infoF2 rfl (by decide) (by decide) rfl (own_nil _ w6.heap.size _ _) rfl (news := prs (L.take k)) (ad := ⟨b1, o1, none⟩) hl1.out hnew1.out (prs_one _) (by omega) (Nat.le_refl _) ?_; intro v7 w7 ho7 hb7 hat7; clear hat7; have e0 : w7.cell? ⟨ge, 0, none⟩ = some (.string ⟨#[84, 114, 97, 110, 115, 102, 101, 114, 45, 69, 110, 99, 111, 100, 105, 110, 103]⟩) := (hE.out.below hb7).cell 0; have e1 : w7.cell? ⟨ge, 1, none⟩ = some (.string (⟨#[99, 104, 117, 110, 107, 101, 100]⟩)) := (hE.out.below hb7).cell 1; replace ho7 : Own w7 w6.heap.size 48 2 v7 k (prs (L.take k)) := (by rw [Nat.zero_add] at ho7; exact ho7); have hb7s := hb7.size; replace ho7 := Lib.hid ho7; replace hb7 := Lib.hid hb7)
          | (refine push_pair 34 48 Tryd.underlying34 infoF2 _ _ rfl rfl rfl ho7.out rfl rfl rfl (by omega) hb7s ?_; intro v8 w8 ho8 hb8; have hb68 := hb7.out.trans hb8; have q8 : w8.cell? ⟨w3.heap.size, 2, none⟩ = some (.slice (some ⟨b1, o1, none⟩) L.length cap') := (hq6.out.below hb68).cell 2; have hnew8 := Lib.hid (fun j u hu => cells_below hb68 hb1l (hnew2.out j u hu)); have hb8s := hb68.size; replace hb68 := Lib.hid hb68; replace ho8 := Lib.hid ho8; clear hb8)
          | (refine step_push 34 48 (.agg #[.string ⟨#[]⟩, .string ⟨#[]⟩]) 2 32 _ _ rfl rfl Tryd.underlying34 infoF2 rfl (by decide) (by decide) rfl ho8.out rfl (news := prs (L.drop k)) (ad := ⟨b1, o1 + k * 2, none⟩) hl2.out hnew8.out (prs_one _) (by omega) hb8s ?_; intro v9 w9 ho9 hb9 hat9; clear hat9; have hb69 := hb68.out.trans hb9; obtain ⟨b9, c9, e9, -, -⟩ := Own.lies ho9 (by omega); subst e9; have hq9 := hq6.out.below hb69; have s2 := hq9.cell 2; have g2 := hq9.frozen 2; have s3 : ∀ u, (w9.setCell ⟨w3.heap.size, 2, none⟩ u).cell? ⟨w3.heap.size, 0, none⟩ = some (.string m) := (fun u => (hq9.set_ 2 u).cell 0); have s4 : ∀ u, (w9.setCell ⟨w3.heap.size, 2, none⟩ u).cell? ⟨w3.heap.size, 1, none⟩ = some (.string t) := (fun u => (hq9.set_ 2 u).cell 1); have s5 : ∀ u, (w9.setCell ⟨w3.heap.size, 2, none⟩ u).cell? ⟨w3.heap.size, 2, none⟩ = some u := (fun u => (hq9.set_ 2 u).cell 2); have hq9s := Lib.hid hq9; have hq9l := hq9.lt; clear hq9; replace ho9 := Lib.hid ho9; replace hb69 := Lib.hid hb69; clear hb9))
        clear hnew1 hnew2 hnew8 hl1 hl2 e0 e1 hE ho7 ho8 hb7 hb68 hR6
        obtain ⟨hfr, ham⟩ := hsm k
        have hN : (L.take k ++ [(TE, ch)] ++ L.drop k).length = k + 1 + (L.length - k) := by simp only [List.length_append, List.length_take, List.length_drop, List.length_cons, List.length_nil]; omega
        have hF2 := few_split hF.out h80 k (e := (TE, ch)) (by show List.length TE ≤ 100; decide) (by show List.length (ch) ≤ 100; show _ ≤ 100; exact of_decide_eq_true rfl)
        have hP : prs (L.take k ++ [(TE, ch)] ++ L.drop k) = prs (L.take k) ++ [.string (str TE), .string (str (ch))] ++ prs (L.drop k) := by rw [prs_append, prs_append]; rfl
        have hOf2 : ∀ w A cap, Rd w 2 (.slice A (k + 1 + (L.length - k)) cap) (k + 1 + (L.length - k)) (prs (L.take k ++ [(TE, ch)] ++ L.drop k)) → Calls Tryd.prog 13 #[.agg #[.string m, .string t, .slice A (k + 1 + (L.length - k)) cap]] w fun e w' => e = .returned (.tuple #[.agg #[.int .i64 0, .int .i64 0], errV 31]) ∧ Below w.heap.size w w' := fun w A cap h => by
          have := of_request (L.take k ++ [(TE, ch)] ++ L.drop k) m t A cap w hF2 (by rw [hN]; exact h)
          rw [hN, hfr] at this
          exact this
        have hAm2 : ∀ w A cap, Rd w 2 (.slice A (k + 1 + (L.length - k)) cap) (k + 1 + (L.length - k)) (prs (L.take k ++ [(TE, ch)] ++ L.drop k)) → Calls Tryd.prog 27 #[.agg #[.string m, .string t, .slice A (k + 1 + (L.length - k)) cap]] w fun e w' => e = .returned (.bool true) ∧ Below w.heap.size w w' := fun w A cap h => by
          have := ambiguous_any (L.take k ++ [(TE, ch)] ++ L.drop k) m t A cap w hF2 (by rw [hN]; exact h)
          rw [hN, ham] at this
          exact this
        rw [hP] at hOf2 hAm2
        have hRd := Rd.own (own_far ho9.out (p := ⟨w3.heap.size, 2, none⟩) hq6.out.lt (.slice (some ⟨b9, 0, none⟩) (k + 1 + (L.length - k)) c9))
        have hqA : Blk (w9.setCell ⟨w3.heap.size, 2, none⟩ (.slice (some ⟨b9, 0, none⟩) (k + 1 + (L.length - k)) c9)) w3.heap.size 36 #[.string m, .string t, .slice (some ⟨b9, 0, none⟩) (k + 1 + (L.length - k)) c9] := hq9s.out.set_ 2 _
        have hBf := (Below.next hB6.out hB6s hb69.out).setCell (p := ⟨w3.heap.size, 2, none⟩) hw3 (.slice (some ⟨b9, 0, none⟩) (k + 1 + (L.length - k)) c9)
        have hBfs := hBf.size
        clear hfr ham hN hF2 hP ho9 hq6 hq9s hsm hb69 hB6
        have hIs := fun w => is_any 31 31 w
        generalize errV 31 = ev31 at *
        replace hIs := Lib.hid hIs
        replace hAm2 := Lib.hid hAm2
        refine (hOf2 _ _ _ hRd).mono ?_
        rintro e w11 ⟨rfl, hb11⟩
        have hqB := hqA.below hb11
        have r0 : w11.cell? ⟨w3.heap.size, 0, none⟩ = some (.string m) := hqB.cell 0
        have r1 : w11.cell? ⟨w3.heap.size, 1, none⟩ = some (.string t) := hqB.cell 1
        have r2 : w11.cell? ⟨w3.heap.size, 2, none⟩ = some (.slice (some ⟨b9, 0, none⟩) (k + 1 + (L.length - k)) c9) := hqB.cell 2
        have hRd2 := hRd.below hb11
        have hBg := Below.next hBf hBfs hb11
        have hBgs := hBg.size
        replace hRd2 := Lib.hid hRd2
        replace hBg := Lib.hid hBg
        clear hb11 hBf hRd hqA hqB hOf2 s2 g2 s3 s4 s5
        go_wp2_with fail
        refine (hIs.out _).mono ?_
        rintro e w12 ⟨rfl, rfl⟩
        go_wp2_with fail
        refine (hAm2.out _ _ _ hRd2.out).mono ?_
        rintro e w13 ⟨rfl, hb13⟩
        have hBh := Lib.hid (Below.next hBg.out hBgs hb13)
        clear hb13
        go_wp2
        go_ret
        exact ⟨rfl, hBh.out⟩

end Go.Proofs.YtodgkppjabhhlaaDoor
