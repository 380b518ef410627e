/-
  Layer 7: the document's step.
-/
import Derived.Test.YtbegpdhkjfdjbaaDoorCREnd
namespace Go.Proofs.YtbegpdhkjfdjbaaDoor
open Go.RowKit Syn Ck

theorem own_irr (A : Option Addr) (n c n' c' : Nat) : (Value.slice A n c).ownBlock = (Value.slice A n' c').ownBlock := by cases A <;> rfl
set_option maxRecDepth 100000 in
set_option maxHeartbeats 16000000 in
theorem rstep_any (s : St) (h : Ok s) (h8 : s.place ≠ 8) (c : UInt8) (A : Option Addr) (cap : Nat) (w : World) (hr : Rd w 2 (.slice A s.fields.length cap) s.fields.length (prs s.fields)) :
    Calls Tryd.prog 33 #[sv s (.slice A s.fields.length cap), .int .u8 (c.toNat : Int)] w (RStp w A s.fields.length (Ck.step s c)) := by
  have hpl := h.place
  have key : s.place ≤ 1 ∨ s.place = 2 ∨ s.place = 3 ∨ s.place = 4 ∨ s.place = 5 ∨ (6 ≤ s.place ∧ s.place ≤ 7) := by omega
  have hB2 := Lib.hid (below2 w (.cells (svC s (.slice A s.fields.length cap)) 29) (.cells #[.int .i64 0, .int .i64 0, .int .i64 0, .int .i64 0, .int .i64 0, .int .i64 0, .int .i64 0, .string ⟨#[]⟩, .slice none 0 0, .int .i64 0] 29))
  have hR2 := Lib.hid (Blk.new2 w 29 (svC s (.slice A s.fields.length cap)) #[.int .i64 0, .int .i64 0, .int .i64 0, .int .i64 0, .int .i64 0, .int .i64 0, .int .i64 0, .string ⟨#[]⟩, .slice none 0 0, .int .i64 0])
  rcases key with k | k | k | k | k | k
  · have hs : Ck.step s c = sized s c := by unfold Ck.step; rw [if_pos k]
    rw [hs]
    have hI : ∀ w, Rd w 2 (.slice A s.fields.length cap) s.fields.length (prs s.fields) → Calls Tryd.prog 50 #[sv s (.slice A s.fields.length cap), .int .u8 (c.toNat : Int)] w (RStp w A s.fields.length (sized s c)) := fun w hr => (rsized_any s h k c A s.fields.length cap w).mono fun e w' ⟨h1, h2⟩ => by
      obtain ⟨k1, k2, k3, k4⟩ := sized_keep k c
      refine ⟨A, cap, by rw [h1, k4], ?_, .inl ⟨rfl, by rw [k4]⟩, h2⟩
      rw [k4]; exact hr.below h2
    generalize sized s c = s2 at *
    have hIw := hI _ (hr.below hB2.out)
    obtain ⟨pl, D, Z, L, T, lf, sc, tx, fl, bd⟩ := s
    unfold RStp at hIw
    unfold sv at hIw
    unfold svC at hIw hB2 hR2
    unfold sv svC
    dsimp only at k hIw hB2 hR2 hpl h8 ⊢
    have kk : pl = 0 ∨ pl = 1 := by omega
    generalize str tx = st at *
    generalize fl.length = nf at *
    replace hIw := Lib.hid hIw
    clear hI hs h hpl h8
    replace hr := Lib.hid hr
    rcases kk with rfl | rfl
    · go_enter Tryd.func33, Tryd.ntmps33
      go_wp2_with fail
      refine hIw.out.mono ?_
      rintro e w3 ⟨A3, cap3, rfl, hr3, hA3, hb3⟩
      have hB3 := Lib.hid (Below.next hB2.out hB2.out.size hb3)
      have hR3 := hR2.out.below hb3
      have hoff : 0 < s2.fields.length → Off (· = w.heap.size + 1) (.slice A3 s2.fields.length cap3) := fun h0 j hj e => by
        rcases hA3 with ⟨h1, h2⟩ | h1
        · subst h1
          have h3 := Rd.lt0 hr.out (by omega) j (by rw [← hj]; exact own_irr _ _ _ _ _)
          omega
        · have h3 := h1 j hj
          rw [alloc_size', alloc_size'] at h3
          omega
      have hA4 : (A3 = A ∧ s2.fields.length = nf) ∨ ∀ j, (Value.slice A3 s2.fields.length cap3).ownBlock = some j → w.heap.size ≤ j := hA3.imp id (fun h j hj => by have h3 := h j hj; rw [alloc_size', alloc_size'] at h3; omega)
      replace hA4 := Lib.hid hA4
      replace hoff := Lib.hid hoff
      clear hA3
      have y0 := hR3.cell 0
      have z0 := hR3.frozen 0
      have y1 := hR3.cell 1
      have z1 := hR3.frozen 1
      have y2 := hR3.cell 2
      have z2 := hR3.frozen 2
      have y3 := hR3.cell 3
      have z3 := hR3.frozen 3
      have y4 := hR3.cell 4
      have z4 := hR3.frozen 4
      have y5 := hR3.cell 5
      have z5 := hR3.frozen 5
      have y6 := hR3.cell 6
      have z6 := hR3.frozen 6
      have y7 := hR3.cell 7
      have z7 := hR3.frozen 7
      have y8 := hR3.cell 8
      have z8 := hR3.frozen 8
      have y9 := hR3.cell 9
      have z9 := hR3.frozen 9
      replace hR3 := Lib.hid hR3
      replace hr3 := Lib.hid hr3
      clear hb3
      generalize hfn : s2.fields.length = n2 at *
      generalize hst : str s2.text = st2 at *
      go_wp2
      have hk := kpTen (F := (· = w.heap.size + 1)) (Kp.refl (· = w.heap.size + 1) w3) (g := w.heap.size + 1) rfl
      exact ret_one rfl rfl rfl (setTen hR3.out _ _ _ _ _ _ _ _ _ _) Tryd.underlying29 rfl (by kernel_rfl) ⟨A3, cap3, by rw [hfn]; subst hst; rfl, by rw [hfn]; exact Rd.kp0 hr3.out hoff.out (hk _ _ _ _ _ _ _ _ _ _), by rw [hfn]; exact hA4.out, belowTen hB3.out (by omega) _ _ _ _ _ _ _ _ _ _⟩
    · go_enter Tryd.func33, Tryd.ntmps33
      go_wp2_with fail
      refine hIw.out.mono ?_
      rintro e w3 ⟨A3, cap3, rfl, hr3, hA3, hb3⟩
      have hB3 := Lib.hid (Below.next hB2.out hB2.out.size hb3)
      have hR3 := hR2.out.below hb3
      have hoff : 0 < s2.fields.length → Off (· = w.heap.size + 1) (.slice A3 s2.fields.length cap3) := fun h0 j hj e => by
        rcases hA3 with ⟨h1, h2⟩ | h1
        · subst h1
          have h3 := Rd.lt0 hr.out (by omega) j (by rw [← hj]; exact own_irr _ _ _ _ _)
          omega
        · have h3 := h1 j hj
          rw [alloc_size', alloc_size'] at h3
          omega
      have hA4 : (A3 = A ∧ s2.fields.length = nf) ∨ ∀ j, (Value.slice A3 s2.fields.length cap3).ownBlock = some j → w.heap.size ≤ j := hA3.imp id (fun h j hj => by have h3 := h j hj; rw [alloc_size', alloc_size'] at h3; omega)
      replace hA4 := Lib.hid hA4
      replace hoff := Lib.hid hoff
      clear hA3
      have y0 := hR3.cell 0
      have z0 := hR3.frozen 0
      have y1 := hR3.cell 1
      have z1 := hR3.frozen 1
      have y2 := hR3.cell 2
      have z2 := hR3.frozen 2
      have y3 := hR3.cell 3
      have z3 := hR3.frozen 3
      have y4 := hR3.cell 4
      have z4 := hR3.frozen 4
      have y5 := hR3.cell 5
      have z5 := hR3.frozen 5
      have y6 := hR3.cell 6
      have z6 := hR3.frozen 6
      have y7 := hR3.cell 7
      have z7 := hR3.frozen 7
      have y8 := hR3.cell 8
      have z8 := hR3.frozen 8
      have y9 := hR3.cell 9
      have z9 := hR3.frozen 9
      replace hR3 := Lib.hid hR3
      replace hr3 := Lib.hid hr3
      clear hb3
      generalize hfn : s2.fields.length = n2 at *
      generalize hst : str s2.text = st2 at *
      go_wp2
      have hk := kpTen (F := (· = w.heap.size + 1)) (Kp.refl (· = w.heap.size + 1) w3) (g := w.heap.size + 1) rfl
      exact ret_one rfl rfl rfl (setTen hR3.out _ _ _ _ _ _ _ _ _ _) Tryd.underlying29 rfl (by kernel_rfl) ⟨A3, cap3, by rw [hfn]; subst hst; rfl, by rw [hfn]; exact Rd.kp0 hr3.out hoff.out (hk _ _ _ _ _ _ _ _ _ _), by rw [hfn]; exact hA4.out, belowTen hB3.out (by omega) _ _ _ _ _ _ _ _ _ _⟩
  · obtain ⟨pl, D, Z, L, T, lf, sc, tx, fl, bd⟩ := s
    simp only at k hr
    have hbd := h.bad
    have hsz := h.size
    have hda := h.data
    have htt := h.total
    simp only at hbd hsz hda htt
    subst hbd
    subst k
    clear h hpl h8 hB2 hR2
    have Hr := Lib.hid hr
    clear hr
    by_cases k2 : c.toNat = 10
    · have q : ((c.toNat : Int) != 10) = false := by rw [k2]; rfl
      by_cases k3 : Z = 0
      · subst k3
        have hs : Hid (Ck.step ⟨2, D, 0, L, T, lf, sc, tx, fl, 0⟩ c = ⟨6, D, 0, L, T, 0, sc, tx, fl, 0⟩) := Lib.hid (by unfold Ck.step; dsimp only; rw [if_neg (by omega), if_pos rfl, if_neg (by omega), if_pos rfl])
        rw [hs.out]
        replace k2 := Lib.hid k2
        unfold RStp sv svC
        dsimp only
        generalize str tx = st at *
        go_enter Tryd.func33, Tryd.ntmps33
        go_wp2
        exact ret_one rfl rfl rfl (Blk.new2 w _ _ _) Tryd.underlying29 rfl (by kernel_rfl) ⟨A, cap, rfl, Hr.out.below (below2 _ _ _), .inl (by first | trivial | exact ⟨rfl, rfl⟩ | rfl | simp), below2 _ _ _⟩
      · have q3 : ((Z : Int) == 0) = false := beq_cast_false k3
        have hs : Hid (Ck.step ⟨2, D, Z, L, T, lf, sc, tx, fl, 0⟩ c = ⟨3, D, Z, L, T, Z, sc, tx, fl, 0⟩) := Lib.hid (by unfold Ck.step; dsimp only; rw [if_neg (by omega), if_pos rfl, if_neg (by omega), if_neg k3])
        rw [hs.out]
        replace k2 := Lib.hid k2
        replace k3 := Lib.hid k3
        unfold RStp sv svC
        dsimp only
        generalize str tx = st at *
        go_enter Tryd.func33, Tryd.ntmps33
        go_wp2
        exact ret_one rfl rfl rfl (Blk.new2 w _ _ _) Tryd.underlying29 rfl (by kernel_rfl) ⟨A, cap, rfl, Hr.out.below (below2 _ _ _), .inl (by first | trivial | exact ⟨rfl, rfl⟩ | rfl | simp), below2 _ _ _⟩
    · have q : ((c.toNat : Int) != 10) = true := by rw [bne_iff_ne]; omega
      have hs : Hid (Ck.step ⟨2, D, Z, L, T, lf, sc, tx, fl, 0⟩ c = ⟨2, D, Z, L, T, lf, sc, tx, fl, 33⟩) := Lib.hid (by unfold Ck.step; dsimp only; rw [if_neg (by omega), if_pos rfl, if_pos k2]; rfl)
      rw [hs.out]
      replace k2 := Lib.hid k2
      have hb := Lib.hid (fun w => rbad_any ⟨2, D, Z, L, T, lf, sc, tx, fl, 0⟩ A fl.length cap 33 w)
      unfold sv svC St.err at hb
      dsimp only at hb
      unfold RStp sv svC
      dsimp only
      generalize str tx = st at *
      go_enter Tryd.func33, Tryd.ntmps33
      go_wp2_with fail
      refine (hb.out _).mono ?_
      rintro e w2 ⟨rfl, rfl⟩
      go_wp2
      exact ret_one rfl rfl rfl (Blk.new4 w _ _ _ _ _) Tryd.underlying29 rfl (by kernel_rfl) ⟨A, cap, rfl, Hr.out.below (below4 _ _ _ _ _), .inl (by first | trivial | exact ⟨rfl, rfl⟩ | rfl | simp), below4 _ _ _ _ _⟩
  · obtain ⟨pl, D, Z, L, T, lf, sc, tx, fl, bd⟩ := s
    simp only at k hr
    have hbd := h.bad
    have hsz := h.size
    have hda := h.data
    have htt := h.total
    simp only at hbd hsz hda htt
    subst hbd
    subst k
    clear h hpl h8 hB2 hR2
    have Hr := Lib.hid hr
    clear hr
    have hd := hda rfl
    obtain ⟨hd1, hd2⟩ := hd
    obtain ⟨m, rfl⟩ : ∃ m, lf = m + 1 := ⟨lf - 1, by omega⟩
    clear hda
    by_cases k3 : m = 0
    · subst k3
      have hs : Hid (Ck.step ⟨3, D, Z, L, T, 0 + 1, sc, tx, fl, 0⟩ c = ⟨4, D, Z, L, T + 1, 0, sc, tx, fl, 0⟩) := Lib.hid (by unfold Ck.step; dsimp only; rw [if_neg (by omega), if_neg (by omega), if_pos rfl, if_pos rfl])
      rw [hs.out]
      unfold RStp sv svC
      dsimp only
      generalize str tx = st at *
      go_enter Tryd.func33, Tryd.ntmps33
      go_wp2
      exact ret_one rfl rfl rfl (Blk.new2 w _ _ _) Tryd.underlying29 rfl (by kernel_rfl) ⟨A, cap, rfl, Hr.out.below (below2 _ _ _), .inl (by first | trivial | exact ⟨rfl, rfl⟩ | rfl | simp), below2 _ _ _⟩
    · have q3 : ((m : Int) == 0) = false := beq_cast_false k3
      have hs : Hid (Ck.step ⟨3, D, Z, L, T, m + 1, sc, tx, fl, 0⟩ c = ⟨3, D, Z, L, T + 1, m, sc, tx, fl, 0⟩) := Lib.hid (by unfold Ck.step; dsimp only; rw [if_neg (by omega), if_neg (by omega), if_pos rfl, if_neg (by omega)]; rfl)
      rw [hs.out]
      replace k3 := Lib.hid k3
      unfold RStp sv svC
      dsimp only
      generalize str tx = st at *
      go_enter Tryd.func33, Tryd.ntmps33
      go_wp2
      exact ret_one rfl rfl rfl (Blk.new2 w _ _ _) Tryd.underlying29 rfl (by kernel_rfl) ⟨A, cap, rfl, Hr.out.below (below2 _ _ _), .inl (by first | trivial | exact ⟨rfl, rfl⟩ | rfl | simp), below2 _ _ _⟩
  · obtain ⟨pl, D, Z, L, T, lf, sc, tx, fl, bd⟩ := s
    simp only at k hr
    have hbd := h.bad
    have hsz := h.size
    have hda := h.data
    have htt := h.total
    simp only at hbd hsz hda htt
    subst hbd
    subst k
    clear h hpl h8 hB2 hR2
    have Hr := Lib.hid hr
    clear hr
    by_cases k2 : c.toNat = 13
    · have q : ((c.toNat : Int) != 13) = false := by rw [k2]; rfl
      have hs : Hid (Ck.step ⟨4, D, Z, L, T, lf, sc, tx, fl, 0⟩ c = ⟨5, D, Z, L, T, lf, sc, tx, fl, 0⟩) := Lib.hid (by unfold Ck.step; dsimp only; rw [if_neg (by omega), if_neg (by omega), if_neg (by omega), if_pos rfl, if_neg (by omega)])
      rw [hs.out]
      replace k2 := Lib.hid k2
      unfold RStp sv svC
      dsimp only
      generalize str tx = st at *
      go_enter Tryd.func33, Tryd.ntmps33
      go_wp2
      exact ret_one rfl rfl rfl (Blk.new2 w _ _ _) Tryd.underlying29 rfl (by kernel_rfl) ⟨A, cap, rfl, Hr.out.below (below2 _ _ _), .inl (by first | trivial | exact ⟨rfl, rfl⟩ | rfl | simp), below2 _ _ _⟩
    · have q : ((c.toNat : Int) != 13) = true := by rw [bne_iff_ne]; omega
      have hs : Hid (Ck.step ⟨4, D, Z, L, T, lf, sc, tx, fl, 0⟩ c = ⟨4, D, Z, L, T, lf, sc, tx, fl, 33⟩) := Lib.hid (by unfold Ck.step; dsimp only; rw [if_neg (by omega), if_neg (by omega), if_neg (by omega), if_pos rfl, if_pos k2]; rfl)
      rw [hs.out]
      replace k2 := Lib.hid k2
      have hb := Lib.hid (fun w => rbad_any ⟨4, D, Z, L, T, lf, sc, tx, fl, 0⟩ A fl.length cap 33 w)
      unfold sv svC St.err at hb
      dsimp only at hb
      unfold RStp sv svC
      dsimp only
      generalize str tx = st at *
      go_enter Tryd.func33, Tryd.ntmps33
      go_wp2_with fail
      refine (hb.out _).mono ?_
      rintro e w2 ⟨rfl, rfl⟩
      go_wp2
      exact ret_one rfl rfl rfl (Blk.new4 w _ _ _ _ _) Tryd.underlying29 rfl (by kernel_rfl) ⟨A, cap, rfl, Hr.out.below (below4 _ _ _ _ _), .inl (by first | trivial | exact ⟨rfl, rfl⟩ | rfl | simp), below4 _ _ _ _ _⟩
  · obtain ⟨pl, D, Z, L, T, lf, sc, tx, fl, bd⟩ := s
    simp only at k hr
    have hbd := h.bad
    have hsz := h.size
    have hda := h.data
    have htt := h.total
    simp only at hbd hsz hda htt
    subst hbd
    subst k
    clear h hpl h8 hB2 hR2
    have Hr := Lib.hid hr
    clear hr
    by_cases k2 : c.toNat = 10
    · have q : ((c.toNat : Int) != 10) = false := by rw [k2]; rfl
      have hs : Hid (Ck.step ⟨5, D, Z, L, T, lf, sc, tx, fl, 0⟩ c = ⟨0, 0, 0, 0, T, lf, sc, tx, fl, 0⟩) := Lib.hid (by unfold Ck.step; dsimp only; rw [if_neg (by omega), if_neg (by omega), if_neg (by omega), if_neg (by omega), if_pos rfl, if_neg (by omega)])
      rw [hs.out]
      replace k2 := Lib.hid k2
      unfold RStp sv svC
      dsimp only
      generalize str tx = st at *
      go_enter Tryd.func33, Tryd.ntmps33
      go_wp2
      exact ret_one rfl rfl rfl (Blk.new2 w _ _ _) Tryd.underlying29 rfl (by kernel_rfl) ⟨A, cap, rfl, Hr.out.below (below2 _ _ _), .inl (by first | trivial | exact ⟨rfl, rfl⟩ | rfl | simp), below2 _ _ _⟩
    · have q : ((c.toNat : Int) != 10) = true := by rw [bne_iff_ne]; omega
      have hs : Hid (Ck.step ⟨5, D, Z, L, T, lf, sc, tx, fl, 0⟩ c = ⟨5, D, Z, L, T, lf, sc, tx, fl, 33⟩) := Lib.hid (by unfold Ck.step; dsimp only; rw [if_neg (by omega), if_neg (by omega), if_neg (by omega), if_neg (by omega), if_pos rfl, if_pos k2]; rfl)
      rw [hs.out]
      replace k2 := Lib.hid k2
      have hb := Lib.hid (fun w => rbad_any ⟨5, D, Z, L, T, lf, sc, tx, fl, 0⟩ A fl.length cap 33 w)
      unfold sv svC St.err at hb
      dsimp only at hb
      unfold RStp sv svC
      dsimp only
      generalize str tx = st at *
      go_enter Tryd.func33, Tryd.ntmps33
      go_wp2_with fail
      refine (hb.out _).mono ?_
      rintro e w2 ⟨rfl, rfl⟩
      go_wp2
      exact ret_one rfl rfl rfl (Blk.new4 w _ _ _ _ _) Tryd.underlying29 rfl (by kernel_rfl) ⟨A, cap, rfl, Hr.out.below (below4 _ _ _ _ _), .inl (by first | trivial | exact ⟨rfl, rfl⟩ | rfl | simp), below4 _ _ _ _ _⟩
  · have hs : Ck.step s c = ended s c := by unfold Ck.step; rw [if_neg (by omega), if_neg (by omega), if_neg (by omega), if_neg (by omega), if_neg (by omega)]
    rw [hs]
    have hI : ∀ w, Rd w 2 (.slice A s.fields.length cap) s.fields.length (prs s.fields) → Calls Tryd.prog 52 #[sv s (.slice A s.fields.length cap), .int .u8 (c.toNat : Int)] w (RStp w A s.fields.length (ended s c)) := fun w hr => rended_any s h k c A cap w hr
    generalize ended s c = s2 at *
    have hIw := hI _ (hr.below hB2.out)
    obtain ⟨pl, D, Z, L, T, lf, sc, tx, fl, bd⟩ := s
    unfold RStp at hIw
    unfold sv at hIw
    unfold svC at hIw hB2 hR2
    unfold sv svC
    dsimp only at k hIw hB2 hR2 hpl h8 ⊢
    have kk : pl = 6 ∨ pl = 7 := by omega
    generalize str tx = st at *
    generalize fl.length = nf at *
    replace hIw := Lib.hid hIw
    clear hI hs h hpl h8
    replace hr := Lib.hid hr
    rcases kk with rfl | rfl
    · go_enter Tryd.func33, Tryd.ntmps33
      go_wp2_with fail
      refine hIw.out.mono ?_
      rintro e w3 ⟨A3, cap3, rfl, hr3, hA3, hb3⟩
      have hB3 := Lib.hid (Below.next hB2.out hB2.out.size hb3)
      have hR3 := hR2.out.below hb3
      have hoff : 0 < s2.fields.length → Off (· = w.heap.size + 1) (.slice A3 s2.fields.length cap3) := fun h0 j hj e => by
        rcases hA3 with ⟨h1, h2⟩ | h1
        · subst h1
          have h3 := Rd.lt0 hr.out (by omega) j (by rw [← hj]; exact own_irr _ _ _ _ _)
          omega
        · have h3 := h1 j hj
          rw [alloc_size', alloc_size'] at h3
          omega
      have hA4 : (A3 = A ∧ s2.fields.length = nf) ∨ ∀ j, (Value.slice A3 s2.fields.length cap3).ownBlock = some j → w.heap.size ≤ j := hA3.imp id (fun h j hj => by have h3 := h j hj; rw [alloc_size', alloc_size'] at h3; omega)
      replace hA4 := Lib.hid hA4
      replace hoff := Lib.hid hoff
      clear hA3
      have y0 := hR3.cell 0
      have z0 := hR3.frozen 0
      have y1 := hR3.cell 1
      have z1 := hR3.frozen 1
      have y2 := hR3.cell 2
      have z2 := hR3.frozen 2
      have y3 := hR3.cell 3
      have z3 := hR3.frozen 3
      have y4 := hR3.cell 4
      have z4 := hR3.frozen 4
      have y5 := hR3.cell 5
      have z5 := hR3.frozen 5
      have y6 := hR3.cell 6
      have z6 := hR3.frozen 6
      have y7 := hR3.cell 7
      have z7 := hR3.frozen 7
      have y8 := hR3.cell 8
      have z8 := hR3.frozen 8
      have y9 := hR3.cell 9
      have z9 := hR3.frozen 9
      replace hR3 := Lib.hid hR3
      replace hr3 := Lib.hid hr3
      clear hb3
      generalize hfn : s2.fields.length = n2 at *
      generalize hst : str s2.text = st2 at *
      go_wp2
      have hk := kpTen (F := (· = w.heap.size + 1)) (Kp.refl (· = w.heap.size + 1) w3) (g := w.heap.size + 1) rfl
      exact ret_one rfl rfl rfl (setTen hR3.out _ _ _ _ _ _ _ _ _ _) Tryd.underlying29 rfl (by kernel_rfl) ⟨A3, cap3, by rw [hfn]; subst hst; rfl, by rw [hfn]; exact Rd.kp0 hr3.out hoff.out (hk _ _ _ _ _ _ _ _ _ _), by rw [hfn]; exact hA4.out, belowTen hB3.out (by omega) _ _ _ _ _ _ _ _ _ _⟩
    · go_enter Tryd.func33, Tryd.ntmps33
      go_wp2_with fail
      refine hIw.out.mono ?_
      rintro e w3 ⟨A3, cap3, rfl, hr3, hA3, hb3⟩
      have hB3 := Lib.hid (Below.next hB2.out hB2.out.size hb3)
      have hR3 := hR2.out.below hb3
      have hoff : 0 < s2.fields.length → Off (· = w.heap.size + 1) (.slice A3 s2.fields.length cap3) := fun h0 j hj e => by
        rcases hA3 with ⟨h1, h2⟩ | h1
        · subst h1
          have h3 := Rd.lt0 hr.out (by omega) j (by rw [← hj]; exact own_irr _ _ _ _ _)
          omega
        · have h3 := h1 j hj
          rw [alloc_size', alloc_size'] at h3
          omega
      have hA4 : (A3 = A ∧ s2.fields.length = nf) ∨ ∀ j, (Value.slice A3 s2.fields.length cap3).ownBlock = some j → w.heap.size ≤ j := hA3.imp id (fun h j hj => by have h3 := h j hj; rw [alloc_size', alloc_size'] at h3; omega)
      replace hA4 := Lib.hid hA4
      replace hoff := Lib.hid hoff
      clear hA3
      have y0 := hR3.cell 0
      have z0 := hR3.frozen 0
      have y1 := hR3.cell 1
      have z1 := hR3.frozen 1
      have y2 := hR3.cell 2
      have z2 := hR3.frozen 2
      have y3 := hR3.cell 3
      have z3 := hR3.frozen 3
      have y4 := hR3.cell 4
      have z4 := hR3.frozen 4
      have y5 := hR3.cell 5
      have z5 := hR3.frozen 5
      have y6 := hR3.cell 6
      have z6 := hR3.frozen 6
      have y7 := hR3.cell 7
      have z7 := hR3.frozen 7
      have y8 := hR3.cell 8
      have z8 := hR3.frozen 8
      have y9 := hR3.cell 9
      have z9 := hR3.frozen 9
      replace hR3 := Lib.hid hR3
      replace hr3 := Lib.hid hr3
      clear hb3
      generalize hfn : s2.fields.length = n2 at *
      generalize hst : str s2.text = st2 at *
      go_wp2
      have hk := kpTen (F := (· = w.heap.size + 1)) (Kp.refl (· = w.heap.size + 1) w3) (g := w.heap.size + 1) rfl
      exact ret_one rfl rfl rfl (setTen hR3.out _ _ _ _ _ _ _ _ _ _) Tryd.underlying29 rfl (by kernel_rfl) ⟨A3, cap3, by rw [hfn]; subst hst; rfl, by rw [hfn]; exact Rd.kp0 hr3.out hoff.out (hk _ _ _ _ _ _ _ _ _ _), by rw [hfn]; exact hA4.out, belowTen hB3.out (by omega) _ _ _ _ _ _ _ _ _ _⟩
end Go.Proofs.YtbegpdhkjfdjbaaDoor

