/-
  Layer 5: the walk of HeadPrefixes.
-/
import Derived.Test.YtemlnmelicnneaaDoorHPreP
import Derived.Test.YtemlnmelicnneaaDoorHAns
import Derived.Deep.DeepCutAuto
namespace Go.Proofs.YtemlnmelicnneaaDoor
open Go.RowKit Syn Hd Ck

theorem conv_fn (T : List UInt8) : ∃ (cf : World → Nat) (wf : World → World), ∀ W, (convert 9 27 (.string (str T))).run Tryd.prog W = .ok (.slice (some ⟨W.heap.size, 0, none⟩) T.length (cf W)) (wf W) ∧ Rd (wf W) 1 (.slice (some ⟨W.heap.size, 0, none⟩) T.length (cf W)) T.length (u8s T) ∧ Below W.heap.size W (wf W) :=
  ⟨fun W => grownCap W T.length 0 5, fun W => Lib.bytesWorld W 5 (str T), fun W => ⟨Lib.run_convert_string_bytes W 9 27 5 (str T) Tryd.underlying9 Tryd.underlying27 Tryd.underlying5, (OwnM.conv W T).rd, conv_below W T⟩⟩
theorem run_byte_d (w : World) (c : UInt8) :
    (convert 27 9 (Value.slice (some ⟨w.heap.size, 0, none⟩) 1 1)).run Tryd.prog (w.alloc (.cells #[.int .u8 (c.toNat : Int)] 5)).drew = Result.ok (Value.string (str [c])) (w.alloc (.cells #[.int .u8 (c.toNat : Int)] 5)).drew := by
  have := run_convert_bytes_arg (P := Tryd.prog) (w.alloc (.cells #[.int .u8 (c.toNat : Int)] 5)).drew 27 5 Tryd.underlying27 Tryd.underlying5 w.heap.size 0 1 1 [(c.toNat : Int)] rfl (by
    intro i hi
    obtain rfl : i = 0 := by omega
    exact (Blk.new w 5 #[.int .u8 (c.toNat : Int)]).cell 0) 9 Tryd.underlying9
  rw [← strOfNums_str [c]]
  exact this
theorem rq_err {b : List UInt8} {w w' : World} {e : Ending} (h : RqR w b e w') (h0 : rqE b ≠ 0) : e = .returned (.tuple #[.agg #[.string ByteArray.empty, .string ByteArray.empty, .slice none 0 0], .int .i64 0, .iface 59 (.int .i64 (rqE b))]) ∧ Below w.heap.size w w' := by
  rcases h with ⟨⟨-, h⟩ | ⟨h, -⟩, hb⟩
  · exact ⟨h, hb⟩
  · exact absurd h h0
theorem rq_ok {b : List UInt8} {w w' : World} {e : Ending} (h : RqR w b e w') (h0 : rqE b = 0) : ∃ A n c, e = .returned (.tuple #[.agg #[.string (str (rqM b)), .string (str (rqT b)), .slice A n c], .int .i64 (endF b), .nilIface]) ∧ Below w.heap.size w w' := by
  rcases h with ⟨⟨h, -⟩ | ⟨-, o, h, hr⟩, hb⟩
  · exact absurd h0 h
  · obtain ⟨A, c, rfl, -⟩ := hr
    exact ⟨A, _, c, h, hb⟩
set_option maxRecDepth 100000 in
set_option maxHeartbeats 16000000 in
theorem pre_walk (l : List UInt8) (k j : Nat) (w : World) (hk : k < 65536) (hj : j < 256) (hT : Tab10 w) (hM : MaxL w) :
    Calls Tryd.prog 6 #[.string (str l), .int .u16 (k : Int), .int .u8 (j : Int)] w fun e w' => e = .returned (.bool true) ∧ Below w.heap.size w w' := by
  have hAw := Lib.hid (fun w' (hb : Below w.heap.size w w') => hawake_any w' (hT.below hb))
  have hRq := Lib.hid (fun (b : List UInt8) (g : Nat) (c : Nat) (w' : World) (hb : Below w.heap.size w w') (hl : b.length ≤ 10000) h => rdreq_any b (some ⟨g, 0, none⟩) c w' h (by omega) (fun e => by cases e) (hM.below hb))
  replace hT := Lib.hid hT
  replace hM := Lib.hid hM
  have zx := str_size l
  obtain ⟨cf, wf, hcx⟩ := conv_fn l
  have hcx1 := fun W => (hcx W).1
  have hcx2 := Lib.hid (fun W => (hcx W).2.1)
  have hcx3 := Lib.hid (fun W => (hcx W).2.2)
  clear hcx
  obtain ⟨sx, hsx⟩ : ∃ s, str l = s := ⟨_, rfl⟩
  rw [hsx] at zx hcx1 ⊢
  replace hsx := Lib.hid hsx
  go_enter Tryd.func6, Tryd.ntmps6
  go_wp2_with fail
  refine (hAw.out _ (Below.refl _ _)).mono ?_
  rintro e w1 ⟨rfl, hb1⟩
  replace hb1 := Lib.hid hb1
  by_cases h2000 : 2000 < l.length
  · go_wp2_with fail
    refine (hAw.out _ hb1.out).mono ?_
    rintro e w2 ⟨rfl, hb2⟩
    have hB2 := Lib.hid (Below.next hb1.out hb1.out.size hb2)
    clear hb2
    go_wp2
    go_ret
    exact ⟨rfl, hB2.out⟩
  · have hB2 := Lib.hid (Below.next hb1.out hb1.out.size (hcx3.out w1))
    have hq1 := Lib.hid (hRq.out l _ _ _ hB2.out (by omega) (hcx2.out w1))
    have hB2s : w.heap.size ≤ (wf w1).heap.size := hB2.out.size
    replace hB2s := Lib.hid hB2s
    go_wp2_with fail
    refine hq1.out.mono ?_
    rintro e w3 h3
    by_cases hq : rqE l = 0
    · obtain ⟨A3, n3, c3, rfl, hb3⟩ := rq_ok h3 hq
      obtain ⟨n, hn, n4, nl, n8, -⟩ := lnE_ok (rqE_ok hq)
      rw [hn]
      have hB3 := Below.next hB2.out hB2s.out hb3
      have hB4 := Lib.hid (hB3.alloc hB3.size (.cells #[.string (str (rqM l)), .string (str (rqT l)), .slice A3 n3 c3] 46))
      obtain ⟨i, hi⟩ : ∃ i, k % n = i := ⟨_, rfl⟩
      have hin : i < n := by rw [← hi]; exact Nat.mod_lt _ (by omega)
      have hmod : (k : Int) % (n : Int) = (i : Int) := by rw [← hi]; omega
      have hmodt : (k : Int).tmod (n : Int) = (i : Int) := by rw [Int.tmod_eq_emod_of_nonneg (by omega)]; exact hmod
      have hpe := Lib.hid (pre_end (i := i) hq (by rw [hn]; omega))
      have hq0 := Lib.hid hq
      have hne := Lib.hid hn
      replace hi := Lib.hid hi
      clear h3 hb3 hB3 hq hn hq1 hB2s
      have hx1 : sx.extract 0 i = str (l.take i) := by rw [← hsx.out, extract_str, bs_str, List.drop_zero]
      have hx2 : sx.extract i n = str ((l.drop i).take (n - i)) := by rw [← hsx.out, extract_str, bs_str, List.drop_take]
      have z1 : (str (l.take i)).size = i := by rw [str_size, List.length_take]; omega
      obtain ⟨m, hm⟩ : ∃ m, n = i + m := ⟨n - i, by omega⟩
      have z2 : (str ((l.drop i).take (n - i))).size = m := by rw [str_size, List.length_take, List.length_drop]; omega
      obtain ⟨cf2, wf2, hcy⟩ := conv_fn (l.take i)
      have hcy1 := fun W => (hcy W).1
      have hcy2 := Lib.hid (fun W => (hcy W).2.1)
      have hcy3 := Lib.hid (fun W => (hcy W).2.2)
      clear hcy
      have htl : (l.take i).length = i := by rw [List.length_take]; omega
      rw [htl] at hcy1 hcy2
      obtain ⟨s1, hs1⟩ : ∃ s, str (l.take i) = s := ⟨_, rfl⟩
      obtain ⟨s2, hs2⟩ : ∃ s, str ((l.drop i).take (n - i)) = s := ⟨_, rfl⟩
      rw [hs1] at hx1 z1 hcy1
      rw [hs2] at hx2 z2
      replace hs1 := Lib.hid hs1
      replace hs2 := Lib.hid hs2
      replace htl := Lib.hid htl
      have hmle : m ≤ 2000 := by omega
      replace hm := Lib.hid hm
      generalize str (rqM l) = sm at *
      generalize str (rqT l) = stg at *
      go_upto_region 9 with (fail)
      generalize w3.alloc (.cells #[.string sm, .string stg, .slice A3 n3 c3] 46) = w4 at *
      have hB5 := Lib.hid (Below.next hB4.out hB4.out.size (hcy3.out w4))
      have hq2 := Lib.hid (hRq.out (l.take i) _ _ _ hB5.out (by rw [htl.out]; omega) (by rw [htl.out]; exact hcy2.out w4))
      rw [htl.out] at hq2
      have hB5s := Lib.hid hB5.out.size
      clear hmod hmodt
      go_wp2_with fail
      refine hq2.out.mono ?_
      rintro e w6 h6
      obtain ⟨rfl, hb6⟩ := rq_err h6 (by rw [hpe.out]; decide)
      rw [hpe.out]
      have hB6 := Below.next hB5.out hB5s.out hb6
      have hB7 := Lib.hid (hB6.alloc hB6.size (.cells #[.string ByteArray.empty, .string ByteArray.empty, .slice none 0 0] 46))
      clear h6 hb6 hB6 hq2
      have hIs : Hid (∀ w, Calls Tryd.prog 24 #[.iface 59 (.int .i64 21), .int .i64 21] w fun e w' => e = .returned (.bool true) ∧ w' = w) := Lib.hid (fun w => by
        have := is_any 21 21 w
        rw [herr_ne (by decide)] at this
        exact this)
      go_wp2_with fail
      refine (hIs.out _).mono ?_
      rintro e w8 ⟨rfl, hw8⟩
      replace hB7 : Hid (Below w.heap.size w w8) := Lib.hid (by rw [hw8]; exact hB7.out)
      clear hw8
      have hj3 : j % 3 = 0 ∨ j % 3 = 1 ∨ j % 3 = 2 := by omega
      rcases hj3 with h0 | h0 | h0
      · have hm1 : ((j : Int) % 3) = 0 := by omega
        have hm2 : (j : Int).tmod 3 = 0 := by rw [Int.tmod_eq_emod_of_nonneg (by omega)]; exact hm1
        replace h0 := Lib.hid h0
        go_upto_region 13 with (fail)
        have hB9 := Lib.hid (hB7.out.alloc hB7.out.size (.cells #[.int .u8 13, .int .u8 10, .int .u8 0] 5))
        generalize w8.alloc (.cells #[.int .u8 13, .int .u8 10, .int .u8 0] 5) = w9 at *
        have hB9s := Lib.hid hB9.out.size
        clear hm1 hm2
        have hbad := Lib.hid (ins_bad (c := 13) hq0.out hne.out hin (by decide) (fun h => absurd h.1 (by decide)))
        obtain ⟨T2, hT2⟩ : ∃ T, ins l n i 13 = T := ⟨_, rfl⟩
        rw [hT2] at hbad
        have hT2l : T2.length ≤ 10000 := by rw [← hT2, ins_len hin (by omega)]; omega
        have hst2 : s1 ++ str [13] ++ s2 = str T2 := by rw [← hT2, ← hs1.out, ← hs2.out, str_append, str_append]; rfl
        have hby1 : (convert 27 9 (Value.slice (some ⟨w9.heap.size, 0, none⟩) 1 1)).run Tryd.prog (w9.alloc (.cells #[.int .u8 13] 5)) = Result.ok (Value.string (str [13])) (w9.alloc (.cells #[.int .u8 13] 5)) := run_byte w9 13
        have hby2 : (convert 27 9 (Value.slice (some ⟨w9.heap.size, 0, none⟩) 1 1)).run Tryd.prog (w9.alloc (.cells #[.int .u8 13] 5)).drew = Result.ok (Value.string (str [13])) (w9.alloc (.cells #[.int .u8 13] 5)).drew := run_byte_d w9 13
        have bi0 : (0 : Int) ≤ (i : Int) := by omega
        have bi1 : (i : Int) ≤ (n : Int) := by omega
        have bi2 : (n : Int) ≤ (l.length : Int) := by omega
        have bi3 : (i : Int) ≤ (l.length : Int) := by omega
        have bi4 : (0 : Int) ≤ (n : Int) := by omega
        have zc : (str [13]).size = 1 := rfl
        have u1 : ¬ 9223372036854775807 < i + 1 := by omega
        have u2 : ¬ 9223372036854775807 < i + 1 + m := by omega
        obtain ⟨cf3, wf3, hcz⟩ := conv_fn T2
        have hcz1 := fun W => (hcz W).1
        have hcz2 := Lib.hid (fun W => (hcz W).2.1)
        have hcz3 := Lib.hid (fun W => (hcz W).2.2)
        clear hcz
        replace hT2 := Lib.hid hT2
        replace hT2l := Lib.hid hT2l
        generalize str [13] = sc at *
        generalize str T2 = st2 at *
        go_wp2_with fail
        have hX1 := Lib.hid (Below.next ((Below.refl w9.heap.size w9).alloc (Nat.le_refl _) (.cells #[.int .u8 13] 5)) (by rw [alloc_size']; omega) (hcz3.out (w9.alloc (.cells #[.int .u8 13] 5))))
        have hX2 := Lib.hid (Below.next ((Below.refl w9.heap.size w9).alloc (Nat.le_refl _) (.cells #[.int .u8 13] 5)).drew (by show w9.heap.size ≤ (w9.alloc (.cells #[.int .u8 13] 5)).heap.size; rw [alloc_size']; omega) (hcz3.out (w9.alloc (.cells #[.int .u8 13] 5)).drew))
        have hq31 := Lib.hid (hRq.out T2 _ _ _ (Below.next hB9.out hB9s.out hX1.out) hT2l.out (hcz2.out (w9.alloc (.cells #[.int .u8 13] 5))))
        have hq32 := Lib.hid (hRq.out T2 _ _ _ (Below.next hB9.out hB9s.out hX2.out) hT2l.out (hcz2.out (w9.alloc (.cells #[.int .u8 13] 5)).drew))
        rw [show (w9.alloc (.cells #[.int .u8 13] 5)).drew.heap.size = (w9.alloc (.cells #[.int .u8 13] 5)).heap.size from rfl] at hq32
        rw [alloc_size'] at hq31 hq32
        go_region_with (first | (go_at_call 23; (with_reducible refine hq31.out.mono ?_); rintro e w10 h10; obtain ⟨rfl, hb10⟩ := rq_err h10 hbad.out; have hb11 := Lib.hid (Below.next (Below.next hB9.out hB9s.out hX1.out) (Below.size (Below.next hB9.out hB9s.out hX1.out)) hb10)) | (go_at_call 23; (with_reducible refine hq32.out.mono ?_); rintro e w10 h10; obtain ⟨rfl, hb10⟩ := rq_err h10 hbad.out; have hb11 := Lib.hid (Below.next (Below.next hB9.out hB9s.out hX2.out) (Below.size (Below.next hB9.out hB9s.out hX2.out)) hb10)))
        all_goals
          go_wp2
          go_ret
          exact ⟨rfl, hb11.out⟩
      · have hm1 : ((j : Int) % 3) = 1 := by omega
        have hm2 : (j : Int).tmod 3 = 1 := by rw [Int.tmod_eq_emod_of_nonneg (by omega)]; exact hm1
        replace h0 := Lib.hid h0
        go_upto_region 13 with (fail)
        have hB9 := Lib.hid (hB7.out.alloc hB7.out.size (.cells #[.int .u8 13, .int .u8 10, .int .u8 0] 5))
        generalize w8.alloc (.cells #[.int .u8 13, .int .u8 10, .int .u8 0] 5) = w9 at *
        have hB9s := Lib.hid hB9.out.size
        clear hm1 hm2
        by_cases hii : i = n - 1
        · have qi : ((i : Int) == (n : Int) - 1) = true := by rw [beq_iff_eq]; omega
          replace hii := Lib.hid hii
          go_wp2
          go_ret
          exact ⟨rfl, hB9.out⟩
        · have qi : ((i : Int) == (n : Int) - 1) = false := by rw [beq_eq_false_iff_ne]; omega
          have hbad := Lib.hid (ins_bad (c := 10) hq0.out hne.out hin (by decide) (fun h => hii h.2))
          obtain ⟨T2, hT2⟩ : ∃ T, ins l n i 10 = T := ⟨_, rfl⟩
          rw [hT2] at hbad
          have hT2l : T2.length ≤ 10000 := by rw [← hT2, ins_len hin (by omega)]; omega
          have hst2 : s1 ++ str [10] ++ s2 = str T2 := by rw [← hT2, ← hs1.out, ← hs2.out, str_append, str_append]; rfl
          have hby1 : (convert 27 9 (Value.slice (some ⟨w9.heap.size, 0, none⟩) 1 1)).run Tryd.prog (w9.alloc (.cells #[.int .u8 10] 5)) = Result.ok (Value.string (str [10])) (w9.alloc (.cells #[.int .u8 10] 5)) := run_byte w9 10
          have hby2 : (convert 27 9 (Value.slice (some ⟨w9.heap.size, 0, none⟩) 1 1)).run Tryd.prog (w9.alloc (.cells #[.int .u8 10] 5)).drew = Result.ok (Value.string (str [10])) (w9.alloc (.cells #[.int .u8 10] 5)).drew := run_byte_d w9 10
          have bi0 : (0 : Int) ≤ (i : Int) := by omega
          have bi1 : (i : Int) ≤ (n : Int) := by omega
          have bi2 : (n : Int) ≤ (l.length : Int) := by omega
          have bi3 : (i : Int) ≤ (l.length : Int) := by omega
          have bi4 : (0 : Int) ≤ (n : Int) := by omega
          have zc : (str [10]).size = 1 := rfl
          have u1 : ¬ 9223372036854775807 < i + 1 := by omega
          have u2 : ¬ 9223372036854775807 < i + 1 + m := by omega
          obtain ⟨cf3, wf3, hcz⟩ := conv_fn T2
          have hcz1 := fun W => (hcz W).1
          have hcz2 := Lib.hid (fun W => (hcz W).2.1)
          have hcz3 := Lib.hid (fun W => (hcz W).2.2)
          clear hcz
          replace hT2 := Lib.hid hT2
          replace hT2l := Lib.hid hT2l
          generalize str [10] = sc at *
          generalize str T2 = st2 at *
          go_wp2_with fail
          have hX1 := Lib.hid (Below.next ((Below.refl w9.heap.size w9).alloc (Nat.le_refl _) (.cells #[.int .u8 10] 5)) (by rw [alloc_size']; omega) (hcz3.out (w9.alloc (.cells #[.int .u8 10] 5))))
          have hX2 := Lib.hid (Below.next ((Below.refl w9.heap.size w9).alloc (Nat.le_refl _) (.cells #[.int .u8 10] 5)).drew (by show w9.heap.size ≤ (w9.alloc (.cells #[.int .u8 10] 5)).heap.size; rw [alloc_size']; omega) (hcz3.out (w9.alloc (.cells #[.int .u8 10] 5)).drew))
          have hq31 := Lib.hid (hRq.out T2 _ _ _ (Below.next hB9.out hB9s.out hX1.out) hT2l.out (hcz2.out (w9.alloc (.cells #[.int .u8 10] 5))))
          have hq32 := Lib.hid (hRq.out T2 _ _ _ (Below.next hB9.out hB9s.out hX2.out) hT2l.out (hcz2.out (w9.alloc (.cells #[.int .u8 10] 5)).drew))
          rw [show (w9.alloc (.cells #[.int .u8 10] 5)).drew.heap.size = (w9.alloc (.cells #[.int .u8 10] 5)).heap.size from rfl] at hq32
          rw [alloc_size'] at hq31 hq32
          go_region_with (first | (go_at_call 23; (with_reducible refine hq31.out.mono ?_); rintro e w10 h10; obtain ⟨rfl, hb10⟩ := rq_err h10 hbad.out; have hb11 := Lib.hid (Below.next (Below.next hB9.out hB9s.out hX1.out) (Below.size (Below.next hB9.out hB9s.out hX1.out)) hb10)) | (go_at_call 23; (with_reducible refine hq32.out.mono ?_); rintro e w10 h10; obtain ⟨rfl, hb10⟩ := rq_err h10 hbad.out; have hb11 := Lib.hid (Below.next (Below.next hB9.out hB9s.out hX2.out) (Below.size (Below.next hB9.out hB9s.out hX2.out)) hb10)))
          all_goals
            go_wp2
            go_ret
            exact ⟨rfl, hb11.out⟩
      · have hm1 : ((j : Int) % 3) = 2 := by omega
        have hm2 : (j : Int).tmod 3 = 2 := by rw [Int.tmod_eq_emod_of_nonneg (by omega)]; exact hm1
        replace h0 := Lib.hid h0
        go_upto_region 13 with (fail)
        have hB9 := Lib.hid (hB7.out.alloc hB7.out.size (.cells #[.int .u8 13, .int .u8 10, .int .u8 0] 5))
        generalize w8.alloc (.cells #[.int .u8 13, .int .u8 10, .int .u8 0] 5) = w9 at *
        have hB9s := Lib.hid hB9.out.size
        clear hm1 hm2
        have hbad := Lib.hid (ins_bad (c := 0) hq0.out hne.out hin (by decide) (fun h => absurd h.1 (by decide)))
        obtain ⟨T2, hT2⟩ : ∃ T, ins l n i 0 = T := ⟨_, rfl⟩
        rw [hT2] at hbad
        have hT2l : T2.length ≤ 10000 := by rw [← hT2, ins_len hin (by omega)]; omega
        have hst2 : s1 ++ str [0] ++ s2 = str T2 := by rw [← hT2, ← hs1.out, ← hs2.out, str_append, str_append]; rfl
        have hby1 : (convert 27 9 (Value.slice (some ⟨w9.heap.size, 0, none⟩) 1 1)).run Tryd.prog (w9.alloc (.cells #[.int .u8 0] 5)) = Result.ok (Value.string (str [0])) (w9.alloc (.cells #[.int .u8 0] 5)) := run_byte w9 0
        have hby2 : (convert 27 9 (Value.slice (some ⟨w9.heap.size, 0, none⟩) 1 1)).run Tryd.prog (w9.alloc (.cells #[.int .u8 0] 5)).drew = Result.ok (Value.string (str [0])) (w9.alloc (.cells #[.int .u8 0] 5)).drew := run_byte_d w9 0
        have bi0 : (0 : Int) ≤ (i : Int) := by omega
        have bi1 : (i : Int) ≤ (n : Int) := by omega
        have bi2 : (n : Int) ≤ (l.length : Int) := by omega
        have bi3 : (i : Int) ≤ (l.length : Int) := by omega
        have bi4 : (0 : Int) ≤ (n : Int) := by omega
        have zc : (str [0]).size = 1 := rfl
        have u1 : ¬ 9223372036854775807 < i + 1 := by omega
        have u2 : ¬ 9223372036854775807 < i + 1 + m := by omega
        obtain ⟨cf3, wf3, hcz⟩ := conv_fn T2
        have hcz1 := fun W => (hcz W).1
        have hcz2 := Lib.hid (fun W => (hcz W).2.1)
        have hcz3 := Lib.hid (fun W => (hcz W).2.2)
        clear hcz
        replace hT2 := Lib.hid hT2
        replace hT2l := Lib.hid hT2l
        generalize str [0] = sc at *
        generalize str T2 = st2 at *
        go_wp2_with fail
        have hX1 := Lib.hid (Below.next ((Below.refl w9.heap.size w9).alloc (Nat.le_refl _) (.cells #[.int .u8 0] 5)) (by rw [alloc_size']; omega) (hcz3.out (w9.alloc (.cells #[.int .u8 0] 5))))
        have hX2 := Lib.hid (Below.next ((Below.refl w9.heap.size w9).alloc (Nat.le_refl _) (.cells #[.int .u8 0] 5)).drew (by show w9.heap.size ≤ (w9.alloc (.cells #[.int .u8 0] 5)).heap.size; rw [alloc_size']; omega) (hcz3.out (w9.alloc (.cells #[.int .u8 0] 5)).drew))
        have hq31 := Lib.hid (hRq.out T2 _ _ _ (Below.next hB9.out hB9s.out hX1.out) hT2l.out (hcz2.out (w9.alloc (.cells #[.int .u8 0] 5))))
        have hq32 := Lib.hid (hRq.out T2 _ _ _ (Below.next hB9.out hB9s.out hX2.out) hT2l.out (hcz2.out (w9.alloc (.cells #[.int .u8 0] 5)).drew))
        rw [show (w9.alloc (.cells #[.int .u8 0] 5)).drew.heap.size = (w9.alloc (.cells #[.int .u8 0] 5)).heap.size from rfl] at hq32
        rw [alloc_size'] at hq31 hq32
        go_region_with (first | (go_at_call 23; (with_reducible refine hq31.out.mono ?_); rintro e w10 h10; obtain ⟨rfl, hb10⟩ := rq_err h10 hbad.out; have hb11 := Lib.hid (Below.next (Below.next hB9.out hB9s.out hX1.out) (Below.size (Below.next hB9.out hB9s.out hX1.out)) hb10)) | (go_at_call 23; (with_reducible refine hq32.out.mono ?_); rintro e w10 h10; obtain ⟨rfl, hb10⟩ := rq_err h10 hbad.out; have hb11 := Lib.hid (Below.next (Below.next hB9.out hB9s.out hX2.out) (Below.size (Below.next hB9.out hB9s.out hX2.out)) hb10)))
        all_goals
          go_wp2
          go_ret
          exact ⟨rfl, hb11.out⟩
    · obtain ⟨rfl, hb3⟩ := rq_err h3 hq
      have hB3 := Below.next hB2.out hB2s.out hb3
      have hB4 := Lib.hid (hB3.alloc hB3.size (.cells #[.string ByteArray.empty, .string ByteArray.empty, .slice none 0 0] 46))
      clear h3 hb3 hB3 hq1
      generalize rqE l = q at *
      go_wp2
      go_ret
      exact ⟨rfl, hB4.out⟩
end Go.Proofs.YtemlnmelicnneaaDoor
