/-
  The walk of FramingRepeats.
-/
import Derived.Test.YtodgkppjabhhlaaDoorFRep
import Derived.Test.YtodgkppjabhhlaaDoorFReqWalk
namespace Go.Proofs.YtodgkppjabhhlaaDoor
open Go.RowKit Syn Fr

/-- The cells of bytes. -/
def u8i (zs : List Int) : List Value := zs.map fun z => .int .u8 z
theorem u8i_at {zs : List Int} {k : Nat} (h : k < zs.length) : (u8i zs)[k]? = some (.int .u8 zs[k]) := by simp [u8i, h]
theorem prs_append (a b : List (Bytes × Bytes)) : prs (a ++ b) = prs a ++ prs b := by simp [prs]
theorem Own.lies {w : World} {B sz n : Nat} {t : TypeId} {v : Value} {xs : List Value} (h : Own w B t sz v n xs) (hn : 0 < n) :
    ∃ b c, v = .slice (some ⟨b, 0, none⟩) n c ∧ xs.length = n * sz ∧ ∀ j u, xs[j]? = some u → w.cell? ⟨b, j, none⟩ = some u := by
  have hl := h.1
  rcases id h with ⟨-, ⟨rfl, rfl⟩ | ⟨g, cap, cur, rfl, hg, hh, hnc, hr⟩⟩
  · omega
  · refine ⟨g, cap, rfl, hl, fun j u hu => ?_⟩
    have := World.ownsRow.cells h (g := g) rfl j u hu
    have e : (⟨g, 0, none⟩ : Addr).add j = ⟨g, j, none⟩ := by unfold Addr.add; split <;> simp_all
    rwa [e] at this
theorem at_flat {w : World} {b : Nat} {xs : List Value} (h : ∀ j u, xs[j]? = some u → w.cell? ⟨b, j, none⟩ = some u) : ∀ j u, xs[j]? = some u → w.cell? ((⟨b, 0, none⟩ : Addr).add j) = some u := fun j u hu => by
  have e : (⟨b, 0, none⟩ : Addr).add j = ⟨b, j, none⟩ := by unfold Addr.add; split <;> simp_all
  rw [e]; exact h j u hu
theorem infoF2 : (Tryd.prog.info? 48).map (fun i => (i.zero, i.size, i.bytes)) = some (some (.agg #[.string ⟨#[]⟩, .string ⟨#[]⟩]), 2, 32) := by kernel_rfl
theorem prs_one (l : List (Bytes × Bytes)) : ∀ u ∈ prs l, u.oneCell' = true := by
  intro u hu
  unfold prs at hu
  rw [List.mem_flatMap] at hu
  obtain ⟨p, -, hp⟩ := hu
  simp at hp
  rcases hp with rfl | rfl <;> rfl
theorem of_empty (L : List (Bytes × Bytes)) (hF : Few L) (f : Out) (hf : frame 1 L = f) : ∀ w A cap, Rd w 2 (.slice A L.length cap) L.length (prs L) →
    Calls Tryd.prog 13 #[.agg #[.string ⟨#[]⟩, .string ⟨#[]⟩, .slice A L.length cap]] w fun e w' => e = .returned (.tuple #[.agg #[.int .i64 (f.1.1 : Int), .int .i64 (f.1.2 : Int)], errV f.2]) ∧ Below w.heap.size w w' := fun w A cap h => by
  have := of_request L ⟨#[]⟩ ⟨#[]⟩ A cap w hF h
  rw [hf] at this
  exact this
theorem few_of {L : List (Bytes × Bytes)} (hl : L.length ≤ 20) (hs : ∀ p ∈ L, p.1.length ≤ 20 ∧ p.2.length ≤ 200) : Few L := ⟨by omega, fun p hp => by have := hs p hp; omega⟩
theorem short_snoc {L : List (Bytes × Bytes)} (hs : ∀ p ∈ L, p.1.length ≤ 20 ∧ p.2.length ≤ 200) {n v : Bytes} (h1 : n.length ≤ 20) (h2 : v.length ≤ 200) : ∀ p ∈ L ++ [(n, v)], p.1.length ≤ 20 ∧ p.2.length ≤ 200 := fun p hp => by
  rw [List.mem_append, List.mem_singleton] at hp
  rcases hp with hp | rfl
  · exact hs p hp
  · exact ⟨h1, h2⟩
set_option maxRecDepth 100000 in
set_option maxHeartbeats 16000000 in
theorem repeats_walk (x y : Nat) (zs : List Int) (v : Value) (w : World) (hx : x ≤ 4294967295) (hy : y ≤ 4294967295) (hR : Rd w 1 v zs.length (u8i zs)) (hz : ∀ z ∈ zs, 0 ≤ z ∧ z ≤ 255) (hzm : zs.length ≤ 9223372036854775807) :
    Calls Tryd.prog 4 #[.int .u32 (x : Int), v, .int .u32 (y : Int)] w fun e w' => e = .returned (.bool true) ∧ Below w.heap.size w w' := by
  obtain ⟨A, cap, rfl, hcap, -, -⟩ := id hR
  replace hR := Lib.hid hR
  replace hz := Lib.hid hz
  go_enter Tryd.func4, Tryd.ntmps4
  go_wp2_with fail
  refine (fawake_any _).mono ?_
  rintro e w1 ⟨rfl, hb1⟩
  replace hb1 := Lib.hid hb1
  rcases Nat.lt_or_ge 12 zs.length with hl | hl
  · go_wp2_with fail
    refine (fawake_any _).mono ?_
    rintro e w3 ⟨rfl, hb3⟩
    have hB3 := Lib.hid (Below.next hb1.out hb1.out.size hb3)
    clear hb3
    go_wp2
    go_ret
    exact ⟨rfl, hB3.out⟩
  · obtain ⟨a, ha⟩ : ∃ a, a = x % 70000 := ⟨_, rfl⟩
    obtain ⟨b, hb⟩ : ∃ b, b = y % 70000 := ⟨_, rfl⟩
    have hxa : (x : Int) % 70000 = (a : Int) := by omega
    have hyb : (y : Int) % 70000 = (b : Int) := by omega
    have ha7 : a < 70000 := by omega
    have hb7 : b < 70000 := by omega
    have hDa := Lib.hid (fun w => digits_any a (by omega) w)
    have hDb := Lib.hid (fun w => digits_any b (by omega) w)
    have hDl := dg_len a
    have hbl := dg_len b
    clear ha hb
    go_wp2_with fail
    rw [hxa, hyb]
    clear hxa hyb
    refine (hDa.out _).mono ?_
    rintro e w2 ⟨rfl, hb2⟩
    have hB2 := Lib.hid (Below.next hb1.out hb1.out.size hb2)
    clear hb2
    go_wp2
    go_loopw [9, 11, 12] (fun l s i wr => ∃ (k m q : Nat) (L : List (Bytes × Bytes)) (val : Bytes), i = .int .i64 k ∧ k ≤ zs.length ∧ s = .string (str val) ∧ val.length ≤ 8 * k + 5 ∧ L.length ≤ k ∧ Hid (Open (dg a) val m) ∧ Hid (Lens (dg a) L q) ∧ Hid (∀ p ∈ L, p.1.length ≤ 20 ∧ p.2.length ≤ 200) ∧ Hid (Own wr w.heap.size 48 2 l L.length (prs L)) ∧ Hid (Below w.heap.size w wr)) (fun _ _ i _ => zs.length - (intOf i).toNat)
    case atStart => exact ⟨0, 0, 0, [], dg a, rfl, by omega, rfl, by omega, by simp, Lib.hid (Open.first a), Lib.hid (Lens.nil _), Lib.hid (by simp), Lib.hid (own_nil _ _ _ _), hB2⟩
    case round =>
      obtain ⟨k, m, q, L, val, rfl, hk, rfl, hvl, hLl, hO, hLn, hsh, ho, hB⟩ := hrel
      have hBw := hB.out.size
      by_cases hlt : k < zs.length
      · obtain ⟨A', cap', e', -, -, r'⟩ := hR.out.below hB.out
        cases e'
        obtain ⟨b1, o1, rfl, _, x1⟩ := r' (by omega)
        have d1 : wr.cell? ⟨b1, o1 + k, none⟩ = some (.int .u8 zs[k]) := x1 _ _ (u8i_at hlt)
        obtain ⟨hz0, hz1⟩ := hz.out zs[k] (List.getElem_mem hlt)
        clear x1 r'
        generalize zs[k] = z at *
        obtain ⟨c, rfl⟩ : ∃ c : Nat, z = (c : Int) := ⟨z.toNat, by omega⟩
        have hc : c ≤ 255 := by omega
        clear hz0 hz1
        rcases (show c % 3 = 0 ∨ c % 3 = 1 ∨ c % 3 = 2 by omega) with h3 | h3 | h3
        · have h3' : (c : Int) % 3 = 0 := by omega
          clear h3
          have hst := Lib.hid (hLn.out.push (name := cl) hO.out (.inl rfl))
          have hsh' := Lib.hid (short_snoc hsh.out (n := cl) (v := val) (by decide) (by omega))
          go_wp2_with (at_builtin; refine push_pair 34 48 Tryd.underlying34 infoF2 _ _ rfl rfl rfl ho.out rfl rfl rfl (by omega) hBw ?_; intro v7 w7 ho7 hb7; replace ho7 := Lib.hid ho7; have hB7 := Lib.hid (hB.out.trans hb7); have hB7s := hB7.out.size; clear hb7)
          refine (hDa.out _).mono ?_
          rintro e w8 ⟨rfl, hb8⟩
          have hB8 := Lib.hid (Below.next hB7.out hB7s hb8)
          have ho8 := Lib.hid (own_below ho7.out hb8)
          clear hb8 ho7
          go_wp2
          go_roundw
          case rel => exact ⟨k + 1, 0, q + (m + 1), L ++ [(cl, val)], dg a, by go_num, by omega, rfl, by omega, by simp; omega, Lib.hid (Open.first a), hst, hsh', Lib.hid (by rw [prs_append, List.length_append]; exact ho8.out), hB8⟩
          case measure => simp [intOf]; omega
        · have h3' : (c : Int) % 3 = 1 := by omega
          clear h3
          have hst := Lib.hid hO.out.comma
          have q1 := Lib.hid (str_append [44, 32] (dg a))
          have q2 := Lib.hid (str_append val ([44, 32] ++ dg a))
          have s1 : (⟨#[44, 32]⟩ : ByteArray).size + (str (dg a)).size ≤ 9223372036854775807 := by rw [str_size]; show 2 + _ ≤ _; omega
          have s2 : (str val).size + ((⟨#[44, 32]⟩ : ByteArray) ++ str (dg a)).size ≤ 9223372036854775807 := by rw [show (⟨#[44, 32]⟩ : ByteArray) = str [44, 32] from rfl, q1.out, str_size, str_size, List.length_append]; simp; omega
          go_wp2_with fail
          refine (hDa.out _).mono ?_
          rintro e w8 ⟨rfl, hb8⟩
          have hB8 := Lib.hid (Below.next hB.out hBw hb8)
          have ho8 := Lib.hid (own_below ho.out hb8)
          clear hb8 ho
          go_wp2
          go_roundw
          case rel => exact ⟨k + 1, m + 1, q, L, val ++ ([44, 32] ++ dg a), by go_num, by omega, by rw [← q2.out, ← q1.out]; rfl, by rw [List.length_append, List.length_append]; simp; omega, by omega, hst, hLn, hsh, ho8, hB8⟩
          case measure => simp [intOf]; omega
        · have h3' : (c : Int) % 3 = 2 := by omega
          clear h3
          have hst := Lib.hid hO.out.tab
          have q1 := Lib.hid (str_append [32, 44, 9] (dg a))
          have q2 := Lib.hid (str_append val ([32, 44, 9] ++ dg a))
          have s1 : (⟨#[32, 44, 9]⟩ : ByteArray).size + (str (dg a)).size ≤ 9223372036854775807 := by rw [str_size]; show 3 + _ ≤ _; omega
          have s2 : (str val).size + ((⟨#[32, 44, 9]⟩ : ByteArray) ++ str (dg a)).size ≤ 9223372036854775807 := by rw [show (⟨#[32, 44, 9]⟩ : ByteArray) = str [32, 44, 9] from rfl, q1.out, str_size, str_size, List.length_append]; simp; omega
          go_wp2_with fail
          refine (hDa.out _).mono ?_
          rintro e w8 ⟨rfl, hb8⟩
          have hB8 := Lib.hid (Below.next hB.out hBw hb8)
          have ho8 := Lib.hid (own_below ho.out hb8)
          clear hb8 ho
          go_wp2
          go_roundw
          case rel => exact ⟨k + 1, m + 1, q, L, val ++ ([32, 44, 9] ++ dg a), by go_num, by omega, by rw [← q2.out, ← q1.out]; rfl, by rw [List.length_append, List.length_append]; simp; omega, by omega, hst, hLn, hsh, ho8, hB8⟩
          case measure => simp [intOf]; omega
      · obtain rfl : k = zs.length := by omega
        have hst := Lib.hid (hLn.out.push (name := CL) hO.out (.inr rfl))
        have hsh' := Lib.hid (short_snoc hsh.out (n := CL) (v := val) (by decide) (by omega))
        clear hLn hO hsh
        have hLl2 : (L ++ [(CL, val)]).length ≤ 13 := by rw [List.length_append]; simp; omega
        have hLne := Lib.hid (show L ++ [(CL, val)] ≠ [] by simp)
        generalize hL2 : L ++ [(CL, val)] = L2 at *
        replace hL2 := Lib.hid hL2
        go_wp2_with (at_builtin; first | (refine push_pair 34 48 Tryd.underlying34 infoF2 _ _ rfl rfl rfl ho.out rfl rfl rfl (by omega) hBw ?_; intro v7 w7 ho7 hb7; replace ho7 : Own w7 w.heap.size 48 2 v7 L2.length (prs L2) := (by rw [← hL2.out, prs_append, List.length_append]; exact ho7); obtain ⟨b7, c7, e7, hxl7, hcell7⟩ := Own.lies ho7 (List.length_pos_iff.2 hLne.out); subst e7; replace ho7 := Lib.hid ho7; replace hcell7 := Lib.hid hcell7; replace hxl7 := Lib.hid hxl7; have hB7 := Lib.hid (hB.out.trans hb7); have hB7s := hB7.out.size; clear hb7) | (refine step_push 34 48 (.agg #[.string ⟨#[]⟩, .string ⟨#[]⟩]) 2 32 _ _ rfl rfl Tryd.underlying34 infoF2 rfl (by decide) (by decide) rfl (own_nil _ w7.heap.size _ _) rfl (news := prs L2) (ad := ⟨b7, 0, none⟩) hxl7.out (at_flat hcell7.out) (prs_one _) (by omega) (Nat.le_refl _) ?_; intro v8 w8 ho8 hb8 hat8; clear hat8; replace ho8 := Lib.hid ho8; replace hb8 := Lib.hid hb8))
        refine (hDb.out _).mono ?_
        rintro e w9 ⟨rfl, hb9⟩
        have hb79 := Lib.hid (Below.next hb8.out hb8.out.size hb9)
        have hb79s := hb79.out.size
        have ho9 := Lib.hid (show Own w9 w7.heap.size 48 2 v8 L2.length (prs L2) from by
          have := own_below ho8.out hb9
          rw [Nat.zero_add] at this
          exact this)
        clear hb9 hb8 ho8
        go_wp2_with (at_builtin; refine push_pair 34 48 Tryd.underlying34 infoF2 _ _ rfl rfl rfl ho9.out rfl rfl rfl (by omega) hb79s ?_; intro v10 w10 ho10 hb10; replace ho10 : Own w10 w7.heap.size 48 2 v10 (L2.length + 1) (prs (L2 ++ [(cl, dg b)])) := (by rw [prs_append]; exact ho10); obtain ⟨b10, c10, e10, -, -⟩ := Own.lies ho10 (by simp); subst e10; replace ho10 := Lib.hid ho10; have hb710 := Lib.hid (hb79.out.trans hb10); clear hb10)
        have hoL := Lib.hid (own_below ho7.out hb710.out)
        have hBa := Lib.hid (Below.next hB7.out hB7s hb710.out)
        clear ho7 hb79 ho9 hcell7
        have hFL := few_of (by omega) hsh'.out
        have hFM := few_of (L := L2 ++ [(cl, dg b)]) (by rw [List.length_append]; simp; omega) (short_snoc hsh'.out (n := cl) (v := dg b) (by decide) (by omega))
        obtain ⟨p1, p2, ev, hOL, hpe⟩ : ∃ (p1 p2 : Int) (ev : Value), (∀ w A cap, Rd w 2 (.slice A L2.length cap) L2.length (prs L2) → Calls Tryd.prog 13 #[.agg #[.string ⟨#[]⟩, .string ⟨#[]⟩, .slice A L2.length cap]] w fun e w' => e = .returned (.tuple #[.agg #[.int .i64 p1, .int .i64 p2], ev]) ∧ Below w.heap.size w w') ∧ ((65536 < a ∧ ev = errV 5) ∨ (a ≤ 65536 ∧ ev = .nilIface ∧ p1 = 2 ∧ p2 = (a : Int))) := by
          refine ⟨_, _, _, of_empty L2 hFL _ (frame_same (by omega) hst.out hLne.out), ?_⟩
          by_cases h : 65536 < a
          · rw [if_pos h]; exact .inl ⟨h, rfl⟩
          · rw [if_neg h]; exact .inr ⟨by omega, rfl, rfl, rfl⟩
        obtain ⟨r1, r2, eg, hOM, hrg⟩ : ∃ (p1 p2 : Int) (ev : Value), (∀ w A cap, Rd w 2 (.slice A (L2.length + 1) cap) (L2.length + 1) (prs (L2 ++ [(cl, dg b)])) → Calls Tryd.prog 13 #[.agg #[.string ⟨#[]⟩, .string ⟨#[]⟩, .slice A (L2.length + 1) cap]] w fun e w' => e = .returned (.tuple #[.agg #[.int .i64 p1, .int .i64 p2], ev]) ∧ Below w.heap.size w w') ∧ (a ≠ b → ev = errV 30) := by
          have hoe := of_empty (L2 ++ [(cl, dg b)]) hFM _ rfl
          rw [List.length_append] at hoe
          refine ⟨_, _, _, hoe, fun h => ?_⟩
          rw [frame_other (by omega) (by omega) h hst.out]
        replace hOL := Lib.hid hOL
        replace hOM := Lib.hid hOM
        replace hpe := Lib.hid hpe
        replace hrg := Lib.hid hrg
        clear hst hsh' hLne hxl7
        go_wp2_with fail
        refine (hOL.out _ _ _ (Rd.own hoL.out)).mono ?_
        rintro e w11 ⟨rfl, hb11⟩
        have hK := (Blk.new w11 28 #[.int .i64 p1, .int .i64 p2])
        have hBb := Below.next hBa.out hBa.out.size hb11
        have hBc := hBb.alloc hBb.size (.cells #[.int .i64 p1, .int .i64 p2] 28)
        have hoM := Lib.hid (own_below (own_below ho10.out hb11) ((Below.refl w11.heap.size w11).alloc (Nat.le_refl _) (.cells #[.int .i64 p1, .int .i64 p2] 28)))
        clear hb11 hBb hoL ho10
        replace hBc := Lib.hid hBc
        replace hK := Lib.hid hK
        go_wp2_with fail
        refine (hOM.out _ _ _ (Rd.own hoM.out)).mono ?_
        rintro e w12 ⟨rfl, hb12⟩
        have hK2 := (hK.out.below hb12).alloc (.cells #[.int .i64 r1, .int .i64 r2] 28)
        have hBd := Below.next hBc.out hBc.out.size hb12
        have hBe := Lib.hid (hBd.alloc hBd.size (.cells #[.int .i64 r1, .int .i64 r2] 28))
        have k0 : (w12.alloc (.cells #[.int .i64 r1, .int .i64 r2] 28)).cell? ⟨w11.heap.size, 0, none⟩ = some (.int .i64 p1) := hK2.cell 0
        have k1 : (w12.alloc (.cells #[.int .i64 r1, .int .i64 r2] 28)).cell? ⟨w11.heap.size, 1, none⟩ = some (.int .i64 p2) := hK2.cell 1
        clear hb12 hBd hK2 hK hoM
        rcases hpe.out with ⟨hbig, he⟩ | ⟨hbig, he, hp1, hp2⟩
        · clear hpe
          have hbig' : (65536 : Int) < (a : Int) := by omega
          rw [he]
          have hI5 := Lib.hid (fun w => is_any 5 5 w)
          generalize hev5 : errV 5 = ev5 at *
          replace hev5 := Lib.hid hev5
          by_cases hab : a = b
          · have hne1 : ((a : Int) == (b : Int)) = true := by rw [hab]; exact beq_self_eq_true _
            have hne2 : ((a : Int) != (b : Int)) = false := by rw [bne, hne1]; rfl
            go_wp2_with fail
            refine (hI5.out _).mono ?_
            rintro e w14 ⟨rfl, rfl⟩
            go_wp2
            go_ret
            exact ⟨rfl, hBe.out⟩
          · have hne1 : ((a : Int) == (b : Int)) = false := beq_false_of_ne (by omega)
            have hne2 : ((a : Int) != (b : Int)) = true := by rw [bne, hne1]; rfl
            rw [hrg.out hab]
            have hI30 := Lib.hid (fun w => is_any 30 30 w)
            generalize errV 30 = ev30 at *
            go_wp2_with fail
            refine (hI30.out _).mono ?_
            rintro e w14 ⟨rfl, rfl⟩
            go_wp2_with fail
            refine (hI5.out _).mono ?_
            rintro e w14 ⟨rfl, rfl⟩
            go_wp2
            go_ret
            exact ⟨rfl, hBe.out⟩
        · clear hpe
          subst he
          subst hp1
          subst hp2
          have hbig' : ¬ (65536 : Int) < (a : Int) := by omega
          have hbq := beq_self_eq_true ((a : Int))
          by_cases hab : a = b
          · have hne1 : ((a : Int) == (b : Int)) = true := by rw [hab]; exact beq_self_eq_true _
            have hne2 : ((a : Int) != (b : Int)) = false := by rw [bne, hne1]; rfl
            go_wp2
            go_ret
            exact ⟨rfl, hBe.out⟩
          · have hne1 : ((a : Int) == (b : Int)) = false := beq_false_of_ne (by omega)
            have hne2 : ((a : Int) != (b : Int)) = true := by rw [bne, hne1]; rfl
            rw [hrg.out hab]
            have hI30 := Lib.hid (fun w => is_any 30 30 w)
            generalize errV 30 = ev30 at *
            go_wp2_with fail
            refine (hI30.out _).mono ?_
            rintro e w14 ⟨rfl, rfl⟩
            go_wp2
            go_ret
            exact ⟨rfl, hBe.out⟩
end Go.Proofs.YtodgkppjabhhlaaDoor
