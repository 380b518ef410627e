/-
  Layer 31: Owners, Owner, Nodes.
-/
import Derived.Test.YtpfpjcfacbfjaaaGreatDoorRgRing
import Derived.IntWalk
namespace Go.Proofs.YtpfpjcfacbfjaaaGreatDoor
open Go.Shelf Go.RowKit Go.Lib Go.Sort Rg
attribute [local go_sem ↓] Go.wp_at_zero Go.wp_at_succ

namespace Rg
/-- The names in the order of a hash, with repetitions. -/
def nms (Q : List Pt) (h : Int) : List Nm := (rot Q h).map (·.2)
theorem nms_len (Q : List Pt) (h : Int) : (nms Q h).length = Q.length := by unfold nms; rw [List.length_map, rot_len]
theorem own_eq (Q : List Pt) (h : Int) : own Q h = ddp (nms Q h) := rfl
theorem nms_take {Q : List Pt} (hs : Srt Q) {h : Int} {k : Nat} (hk : k < Q.length) : ddp ((nms Q h).take (k + 1)) = dstep (ddp ((nms Q h).take k)) (Q[(below Q h + k) % Q.length]'(Nat.mod_lt _ (by omega))).2 := by
  rw [List.take_succ_eq_append_getElem (by rw [nms_len]; exact hk), ddp_snoc]
  congr 1
  unfold nms
  rw [List.getElem_map, rot_at hs hk]
theorem nms_mem {Q : List Pt} {h : Int} {x : Nm} : x ∈ nms Q h ↔ ∃ p ∈ Q, p.2 = x := by
  unfold nms rot
  rw [List.mem_map]
  constructor
  · rintro ⟨p, hp, rfl⟩
    rw [List.mem_append] at hp
    rcases hp with hp | hp
    · exact ⟨p, (List.mem_filter.1 hp).1, rfl⟩
    · exact ⟨p, (List.mem_filter.1 hp).1, rfl⟩
  · rintro ⟨p, hp, rfl⟩
    refine ⟨p, ?_, rfl⟩
    rw [List.mem_append]
    by_cases hc : h ≤ p.1
    · exact .inl (List.mem_filter.2 ⟨hp, by simpa using hc⟩)
    · exact .inr (List.mem_filter.2 ⟨hp, by simpa using hc⟩)
theorem nodup_le : ∀ {l N : List Nm}, l.Nodup → (∀ x ∈ l, x ∈ N) → l.length ≤ N.length
  | [], _, _, _ => Nat.zero_le _
  | x :: r, N, hd, h => by
    have hx := h x (by simp)
    rw [List.nodup_cons] at hd
    have := nodup_le (l := r) (N := N.erase x) hd.2 (fun y hy => by
      have hne : y ≠ x := fun e => hd.1 (by rw [← e]; exact hy)
      exact (List.mem_erase_of_ne hne).2 (h y (by simp [hy])))
    rw [List.length_erase_of_mem hx] at this
    have hp : 0 < N.length := List.length_pos_of_mem hx
    rw [List.length_cons]; omega
/-- The owners of a hash, n at most. -/
def owners (N : List Nm) (Q : List Pt) (h n : Int) : List Nm := (own Q h).take (min n.toNat N.length)
theorem countP_below (Q : List Pt) (h : Int) : (List.range Q.length).countP (fun i => !decide (h ≤ (Q.getD i (0, [])).1)) = below Q h := by
  unfold below
  rw [← List.countP_eq_length_filter]
  have : ∀ (l : List Pt), (List.range l.length).countP (fun i => !decide (h ≤ (l.getD i (0, [])).1)) = l.countP (fun p => !decide (h ≤ p.1)) := by
    intro l
    induction l with
    | nil => rfl
    | cons x r ih =>
      rw [List.length_cons, List.range_succ_eq_map, List.countP_cons, List.countP_map, List.countP_cons]
      have e : (fun i => !decide (h ≤ (List.getD (x :: r) i (0, [])).1)) ∘ Nat.succ = fun i => !decide (h ≤ (List.getD r i (0, [])).1) := by
        funext i; simp
      rw [e, ih]; simp
  exact this Q
end Rg
set_option maxHeartbeats 2000000 in
theorem search_cl (W : World) (R A l g cap n i : Nat) (a h : Int) (hi : i < n) (hR : W.cell? ⟨R, 0, none⟩ = some (.pointer (some ⟨l, 0, none⟩))) (hA : W.cell? ⟨A, 0, none⟩ = some (.int .u64 a)) (hl : W.cell? ⟨l, 1, none⟩ = some (.slice (some ⟨g, 0, none⟩) n cap))
    (hp : W.cell? ⟨g, i * 2, none⟩ = some (.int .u64 h)) :
    Calls Tryz.prog 27 #[.int .i64 (i : Int), .pointer (some ⟨R, 0, none⟩), .pointer (some ⟨A, 0, none⟩)] W fun e w' => e = .returned (.bool (decide (a ≤ h))) ∧ ∃ q, w' = W.drewN q := by
  go_enter Tryz.func27, Tryz.ntmps27
  go_wp2
  go_quiet (fail)
  go_wp2
  go_ret
  exact ⟨rfl, nq, rfl⟩
/-- sort.Search over the points. -/
theorem search_pts (w : World) (B R A l : Nat) (v1 v2 : Value) (N : List Nm) (Q : List Pt) (a : Int) (hr : Ring2 w B l v1 v2 N Q) (hs : Srt Q) (hQ : Q.length ≤ 1000000) (hR : w.cell? ⟨R, 0, none⟩ = some (.pointer (some ⟨l, 0, none⟩))) (hA : w.cell? ⟨A, 0, none⟩ = some (.int .u64 a)) :
    Calls Tryz.prog 26 #[.int .i64 (Q.length : Int), .func (.func 27) #[] #[.pointer (some ⟨R, 0, none⟩), .pointer (some ⟨A, 0, none⟩)]] w fun e w' => e = .returned (.int .i64 (below Q a : Nat)) ∧ Below w.heap.size w w' := by
  have h := Any.sort_Search Tryz.los16 27 #[.pointer (some ⟨R, 0, none⟩), .pointer (some ⟨A, 0, none⟩)] Q.length (fun i => decide (a ≤ (Q.getD i (0, [])).1)) w
    (enters_of Tryz.func27 (by kernel_rfl) rfl) (by omega)
    (fun m os i hi => by
      obtain ⟨g, cap, rfl⟩ := own_some hr.points (by omega)
      have hb : Below w.heap.size w (Sort.grow (w.drewN m) os) := grown_below ⟨m, os, rfl⟩
      have e1 : (Q.getD i (0, [])).1 = Q[i].1 := by rw [List.getD_eq_getElem?_getD, List.getElem?_eq_getElem hi]; rfl
      rw [e1]
      refine (search_cl _ R A l g cap Q.length i a Q[i].1 hi ((hb.cell (p := ⟨R, 0, none⟩) (cell_lt hR)).trans hR) ((hb.cell (p := ⟨A, 0, none⟩) (cell_lt hA)).trans hA) ((hr.below hb).blk.cell 1) (own_at (hr.below hb).points (pvs_at0 hi))).mono ?_
      rintro e w' ⟨rfl, q, rfl⟩
      exact ⟨rfl, q, #[], by rw [grow_empty]⟩)
    (fun i j hij hj hp => by
      have hi : i < Q.length := by omega
      simp only [List.getD_eq_getElem?_getD, List.getElem?_eq_getElem hi, List.getElem?_eq_getElem hj, Option.getD_some, decide_eq_true_eq] at hp ⊢
      have := srt_le hs hij hj
      omega)
  rw [countP_below] at h
  refine h.mono ?_
  rintro e w' ⟨rfl, q, os, rfl⟩
  exact ⟨rfl, grown_below ⟨q, os, rfl⟩⟩
set_option maxRecDepth 100000 in
set_option maxHeartbeats 8000000 in
theorem owners_no (w : World) (p : Value) (key : ByteArray) (n : Int) (hp : p = .pointer none ∨ ((∃ a, p = .pointer (some a)) ∧ n < 1)) :
    Calls Tryz.prog 10 #[p, .string key, .int .i64 n] w fun e w' => e = .returned (.slice none 0 0) ∧ Below w.heap.size w w' := by
  rcases hp with rfl | ⟨⟨a, rfl⟩, hn⟩
  · go_enter Tryz.func10, Tryz.ntmps10
    go_wp2
    go_ret
    exact ⟨rfl, (Below.refl _ _).alloc (Nat.le_refl _) _⟩
  · go_enter Tryz.func10, Tryz.ntmps10
    go_wp2
    go_ret
    exact ⟨rfl, (Below.refl _ _).alloc (Nat.le_refl _) _⟩
set_option maxRecDepth 100000 in
set_option maxHeartbeats 8000000 in
theorem owners_long (w : World) (B l : Nat) (v1 v2 : Value) (N : List Nm) (Q : List Pt) (key : Nm) (n : Int) (hr : Ring2 w B l v1 v2 N Q) (hs : Srt Q) (hQN : ∀ p ∈ Q, p.2 ∈ N) (hN : N.length ≤ 1000) (hQ : Q.length ≤ 1000000) (hkey : key.length ≤ maxLen) (hn : 1 ≤ n) (hn2 : n ≤ 9223372036854775807) :
    Calls Tryz.prog 10 #[.pointer (some ⟨l, 0, none⟩), .string (str key), .int .i64 n] w fun e w' => ∃ o, e = .returned o ∧ Own w' w.heap.size 9 1 o (owners N Q (Sk.hash 255 key) n).length (strs (owners N Q (Sk.hash 255 key) n)) ∧ Below w.heap.size w w' := by
  have hh := fun w => hash_any 255 (str key) w (by rw [str_size]; exact hkey)
  have hh' : ∀ w, Calls Tryz.prog 23 #[.int .u64 255, .string (str key)] w fun e w' => e = .returned (.int .u64 (Sk.hash 255 key)) ∧ w = w' := hh
  have HH := Lib.hid hh'
  clear hh hh'
  generalize Sk.hash 255 key = a at *
  have hr2 := hr.below (w' := (w.alloc (.cells #[.pointer (some ⟨l, 0, none⟩)] 25)).alloc (.cells #[.int .u64 a] 60)) (((Below.refl _ _).alloc (Nat.le_refl _) _).alloc (by simp) _)
  have hb0 := Lib.hid (show Below w.heap.size w ((w.alloc (.cells #[.pointer (some ⟨l, 0, none⟩)] 25)).alloc (.cells #[.int .u64 a] 60)) from ((Below.refl _ _).alloc (Nat.le_refl _) _).alloc (by simp) _)
  have hkR := (blk_new w 25 #[.pointer (some ⟨l, 0, none⟩)]).alloc (.cells #[.int .u64 a] 60)
  have hkA := blk_new (w.alloc (.cells #[.pointer (some ⟨l, 0, none⟩)] 25)) 60 #[.int .u64 a]
  rw [show (w.alloc (.cells #[.pointer (some ⟨l, 0, none⟩)] 25)).heap.size = w.heap.size + 1 by simp] at hkA
  have c1 : w.cell? ⟨l, 1, none⟩ = some v2 := hr.blk.cell 1
  have hl0 := hr.blk.lt
  have hn1 : ¬ n < 1 := by omega
  go_enter Tryz.func10, Tryz.ntmps10
  go_wp2_with fail
  refine (HH.out _).mono ?_
  rintro e w1 ⟨rfl, rfl⟩
  go_upto_region 4 with fail
  generalize (w.alloc (.cells #[.pointer (some ⟨l, 0, none⟩)] 25)).alloc (.cells #[.int .u64 a] 60) = W2 at *
  have hBR : w.heap.size < W2.heap.size := hkR.lt
  obtain ⟨A2, c2, rfl, hc2, -, -⟩ := Rd.own hr2.points
  have hsr := search_pts W2 B w.heap.size (w.heap.size + 1) l v1 _ N Q a hr2 hs hQ (hkR.cell 0) (hkA.cell 0)
  have d1 : W2.cell? ⟨l, 1, none⟩ = some (.slice A2 Q.length c2) := hr2.blk.cell 1
  have dR : W2.cell? ⟨w.heap.size, 0, none⟩ = some (.pointer (some ⟨l, 0, none⟩)) := hkR.cell 0
  go_wp2_with fail
  refine hsr.mono ?_
  rintro e w5 ⟨rfl, hb5⟩
  have hr5 := hr2.below hb5
  have hkR5 := hkR.below hb5
  have hR5 : w.heap.size < w5.heap.size := Nat.lt_of_lt_of_le hBR hb5.size
  have hb6 := Lib.hid (hb0.out.trans (hb5.mono (Nat.le_of_lt hBR)))
  have d1 : w5.cell? ⟨l, 1, none⟩ = some (.slice A2 Q.length c2) := hr5.blk.cell 1
  have dR : w5.cell? ⟨w.heap.size, 0, none⟩ = some (.pointer (some ⟨l, 0, none⟩)) := hkR5.cell 0
  clear hsr hkR hkA c1 hl0 hr hr2 hb5 hb0 HH hBR
  have hbl : below Q a ≤ Q.length := List.length_filter_le _ _
  generalize hbq : below Q a = bl at *
  have HBQ := Lib.hid hbq
  clear hbq
  generalize hRg : w.heap.size = R at *
  have HRg := Lib.hid hRg
  clear hRg
  go_wp2_with fail
  go_loopw [9, 32] (fun o i wr => ∃ k : Nat, i = .int .i64 (k : Int) ∧ k ≤ Q.length ∧ Hid (Own wr w5.heap.size 9 1 o (ddp ((nms Q a).take k)).length (strs (ddp ((nms Q a).take k)))) ∧ Hid (Below w5.heap.size w5 wr) ∧ Hid ((ddp ((nms Q a).take k)).length < min n.toNat N.length ∨ ddp ((nms Q a).take k) = [])) (fun _ i _ => Q.length - (intOf i).toNat)
  case atStart => exact ⟨0, rfl, by omega, own_nil _ _ _ _, Below.refl _ _, Or.inr rfl⟩
  case round =>
    obtain ⟨k, rfl, hk, ho, hB, hL⟩ := hrel
    have HR := Lib.hid (hr5.below hB.out)
    have hkr := hkR5.below hB.out
    clear d1 dR
    have hRw := hkr.lt
    have hlw := HR.out.blk.lt
    by_cases hlt : k < Q.length
    · have hj : (bl + k) % Q.length < Q.length := Nat.mod_lt _ (by omega)
      obtain ⟨g, c3, he⟩ := own_some HR.out.points (by omega)
      cases he
      have d1 : wr.cell? ⟨l, 1, none⟩ = some (.slice (some ⟨g, 0, none⟩) Q.length c2) := HR.out.blk.cell 1
      have d0 : wr.cell? ⟨l, 0, none⟩ = some v1 := HR.out.blk.cell 0
      have dR : wr.cell? ⟨R, 0, none⟩ = some (.pointer (some ⟨l, 0, none⟩)) := hkr.cell 0
      have e0 : wr.cell? ⟨g, (bl + k) % Q.length * 2, none⟩ = some (.int .u64 (Q[(bl + k) % Q.length]).1) := own_at HR.out.points (pvs_at0 hj)
      have e1 : wr.cell? ⟨g, (bl + k) % Q.length * 2 + 1, none⟩ = some (.string (str (Q[(bl + k) % Q.length]).2)) := own_at HR.out.points (pvs_at1 hj)
      have htk := Lib.hid (nms_take hs (h := a) hlt)
      have hx : Hid ((Q[(bl + k) % Q.length]).2 ∈ N) := Lib.hid (hQN _ (List.getElem_mem hj))
      have HBQ' := HBQ.out
      subst HBQ'
      have hJm : Hid (((below Q a : Int) + (k : Int)).tmod (Q.length : Int) = (((below Q a + k) % Q.length : Nat) : Int)) := by
        show _ = _
        rw [Int.tmod_eq_emod_of_nonneg (by omega)]; rfl
      generalize Q[(below Q a + k) % Q.length] = pt at *
      generalize (below Q a + k) % Q.length = J at *
      obtain ⟨ph, px⟩ := pt
      simp only at e0 e1 htk hx
      generalize hbl2 : below Q a = bl at *
      have HBL := Lib.hid hbl2
      clear hbl2
      have w3 : (0 : Int) ≤ (J : Int) := by omega
      have w4 : (J : Int) < (Q.length : Int) := by omega
      have w5 : ((Q.length : Int) == 0) = false := beq_eq_false_iff_ne.2 (by omega)
      have w7 : (Q.length : Int) ≠ 0 := by omega
      have w8 : ¬ Q.length = 0 := by omega
      have w9 : (Q.length == 0) = false := beq_eq_false_iff_ne.2 (by omega)
      have w10 : Q ≠ [] := by rintro rfl; simp at hlt
      have w6 : ((bl : Int) + (k : Int)) % (Q.length : Int) = (J : Int) := by rw [← hJm.out, Int.tmod_eq_emod_of_nonneg (by omega)]
      have w1 : IntKind.i64.wrap ((bl : Int) + (k : Int)) = (bl : Int) + (k : Int) := IntWalk.i64_in _ (by omega)
      have w2 : ((bl : Int) + (k : Int)).tmod (Q.length : Int) = (J : Int) := hJm.out
      have w11 : IntKind.i64.wrap (J : Int) = (J : Int) := IntWalk.i64_in _ (by omega)
      go_upto_region 9 with fail
      go_region_held3 (fun w' => w'.cell? ⟨R, 0, none⟩ = some (.pointer (some ⟨l, 0, none⟩)) ∧ w'.cell? ⟨l, 1, none⟩ = some (.slice (some ⟨g, 0, none⟩) Q.length c2) ∧ w'.cell? ⟨g, J * 2, none⟩ = some (.int .u64 ph) ∧ w'.cell? ⟨g, J * 2 + 1, none⟩ = some (.string (str px))) (go_keep) (fail)
      rename_i hHeld
      clear hHeld w1 w2 w5 w6 w7 w8 w9 w10 w11 e0 e1 d1 dR
      have hbw : Below wr.heap.size wr (wr.alloc (.cells #[.int .u64 ph, .string (str px)] 63)).drew := ((Below.refl _ wr).alloc (Nat.le_refl _) _).drew
      have hkP : Blk (wr.alloc (.cells #[.int .u64 ph, .string (str px)] 63)).drew wr.heap.size 63 #[.int .u64 ph, .string (str px)] := blk_new wr _ _
      have ho6 := Lib.hid (own_below ho.out hbw)
      have hB6 := Lib.hid (Below.next hB.out hB.out.size hbw)
      have p1 := hkP.cell 1
      have hRk6 := hkr.below hbw
      have HR6 := Lib.hid (HR.out.below hbw)
      have q0 : (wr.alloc (.cells #[.int .u64 ph, .string (str px)] 63)).drew.cell? ⟨R, 0, none⟩ = some (.pointer (some ⟨l, 0, none⟩)) := hRk6.cell 0
      have q1 : (wr.alloc (.cells #[.int .u64 ph, .string (str px)] 63)).drew.cell? ⟨l, 0, none⟩ = some v1 := HR6.out.blk.cell 0
      have hRl : w5.heap.size ≤ (wr.alloc (.cells #[.int .u64 ph, .string (str px)] 63)).drew.heap.size := hB6.out.size
      clear ho hB hkr hbw d0
      generalize (wr.alloc (.cells #[.int .u64 ph, .string (str px)] 63)).drew = W6 at *
      generalize wr.heap.size = X at *
      have hsub : Hid (∀ x ∈ ddp ((nms Q a).take k), x ∈ N) := Lib.hid (fun x hx => by
        have h1 := List.mem_of_mem_take (ddp_mem.1 hx)
        obtain ⟨p, hp, rfl⟩ := nms_mem.1 h1
        exact hQN p hp)
      have hnd := Lib.hid (ddp_nodup ((nms Q a).take k))
      have hpre := Lib.hid (ddp_pre ((nms Q a).take (k + 1)) ((nms Q a).drop (k + 1)))
      generalize hLL : ddp ((nms Q a).take k) = L at *
      have HLL := Lib.hid hLL
      clear hLL
      have hLn : L.length ≤ N.length := nodup_le hnd.out hsub.out
      have hct := contains_nm W6 u9 L px (by omega) (Rd.own ho6.out)
      by_cases hin : px ∈ L
      · rw [decide_eq_true hin] at hct
        have hst : Hid (ddp ((nms Q a).take (k + 1)) = L) := by show _ = _; rw [htk.out]; unfold dstep; rw [if_pos hin]
        go_wp2_with (go_at_call 28; refine hct.mono ?_; rintro e w' ⟨rfl, rfl⟩)
        go_roundw
        case rel => exact ⟨k + 1, by go_num, by omega, by rw [hst.out]; exact ho6, hB6, by rw [hst.out]; exact hL⟩
        case measure => simp [intOf]; omega
      · rw [decide_eq_false hin] at hct
        have hst : Hid (ddp ((nms Q a).take (k + 1)) = L ++ [px]) := by show _ = _; rw [htk.out]; unfold dstep; rw [if_neg hin]
        have hN0 : 0 < N.length := List.length_pos_of_mem hx.out
        have hLm : L.length < min n.toNat N.length := by
          rcases hL.out with h | h
          · exact h
          · rw [h]; simp only [List.length_nil]; omega
        obtain ⟨len1, hlen1⟩ : ∃ m, m = L.length + 1 := ⟨_, rfl⟩
        have HN1 : Hid (v1 = v1) := rfl
        have hNs : Hid (strs (L ++ [px]) = strs L ++ [.string (str px)]) := strs_snoc L px
        obtain ⟨A1, c1, rfl, hc1, -, -⟩ := Rd.own HR6.out.nodes
        have hlenB : len1 ≤ 1000 := by omega
        have hlenP : 0 < len1 := by omega
        by_cases hstop : (len1 : Int) = n ∨ len1 = N.length
        · have hres : Hid (owners N Q a n = L ++ [px]) := by
            show _ = _
            unfold owners
            have hle : L.length + 1 ≤ min n.toNat N.length := hLm
            have hge : min n.toNat N.length ≤ L.length + 1 := by
              rcases hstop with h | h
              · exact Nat.le_trans (Nat.min_le_left _ _) (by omega)
              · exact Nat.le_trans (Nat.min_le_right _ _) (by omega)
            obtain ⟨t, ht⟩ := hpre.out
            rw [List.take_append_drop, hst.out] at ht
            rw [own_eq, ht, show min n.toNat N.length = (L ++ [px]).length by rw [List.length_append, List.length_singleton]; omega]
            exact List.take_left' rfl
          have y1 : Hid (((len1 : Int) == n) = true ∨ (((len1 : Int) == n) = false ∧ (len1 == N.length) = true ∧ ((len1 : Int) == (N.length : Int)) = true)) := by
            show _ ∨ _
            by_cases h1 : (len1 : Int) = n
            · exact Or.inl (by simpa using h1)
            · rcases hstop with h | h
              · exact absurd h h1
              · exact Or.inr ⟨beq_eq_false_iff_ne.2 h1, by simpa using h, by rw [h]; simp⟩
          have Hlen1 := Lib.hid hlen1
          clear hlen1 hstop
          rcases y1.out with z1 | ⟨z1, z2, z3⟩
          all_goals
            go_wp2_with fail
            refine hct.mono ?_
            rintro e w' ⟨rfl, rfl⟩
            go_wp2_with (at_builtin; refine push_str _ _ rfl rfl rfl ho6.out rfl rfl (by omega) hRl ?_; intro v8 w8 ho8 hb8; rw [← Hlen1.out] at ho8; obtain ⟨g8, c8, rfl⟩ := own_some ho8 (by omega); have hB8 := Lib.hid (hB6.out.trans hb8); have r0 := (hkR5.below hB8.out).cell 0; have r1 := (hr5.below hB8.out).blk.cell 0; replace ho8 := Lib.hid ho8; clear hb8)
            go_wp2
            go_ret
            refine ⟨_, rfl, ?_, ?_⟩
            · rw [hres.out, hNs.out, List.length_append, List.length_singleton, ← Hlen1.out]; exact Own.base ho8.out (by rw [HRg.out]; exact Nat.le_of_lt hR5)
            · rw [HRg.out]; exact hb6.out.trans (hB8.out.mono (Nat.le_of_lt hR5))
        · have z1 : ((len1 : Int) == n) = false := beq_eq_false_iff_ne.2 (fun e => hstop (Or.inl e))
          have z2 : (len1 == N.length) = false := beq_eq_false_iff_ne.2 (fun e => hstop (Or.inr e))
          have z3 : ((len1 : Int) == (N.length : Int)) = false := beq_eq_false_iff_ne.2 (by omega)
          have hL2 : Hid ((L ++ [px]).length < min n.toNat N.length ∨ L ++ [px] = []) := Or.inl (by rw [List.length_append, List.length_singleton]; omega)
          have Hlen1 := Lib.hid hlen1
          clear hlen1 hstop
          go_wp2_with fail
          refine hct.mono ?_
          rintro e w' ⟨rfl, rfl⟩
          go_wp2_with (at_builtin; refine push_str _ _ rfl rfl rfl ho6.out rfl rfl (by omega) hRl ?_; intro v8 w8 ho8 hb8; rw [← Hlen1.out] at ho8; obtain ⟨g8, c8, rfl⟩ := own_some ho8 (by omega); have hB8 := Lib.hid (hB6.out.trans hb8); have r0 := (hkR5.below hB8.out).cell 0; have r1 := (hr5.below hB8.out).blk.cell 0; replace ho8 := Lib.hid ho8; clear hb8)
          go_roundw
          case rel => exact ⟨k + 1, by go_num, by omega, by rw [hst.out, hNs.out, List.length_append, List.length_singleton, ← Hlen1.out]; exact ho8, hB8, by rw [hst.out]; exact hL2⟩
          case measure => simp [intOf]; omega
    · have hke : k = Q.length := by omega
      have hres : Hid (owners N Q a n = ddp ((nms Q a).take k)) := by
        show _ = _
        unfold owners
        rw [own_eq, hke, List.take_of_length_le (Nat.le_of_eq (nms_len Q a))]
        refine List.take_of_length_le ?_
        have := hL.out
        rw [hke, List.take_of_length_le (Nat.le_of_eq (nms_len Q a))] at this
        rcases this with h | h
        · omega
        · rw [h]; exact Nat.zero_le _
      have Hke := Lib.hid hke
      clear hke
      go_wp2
      go_ret
      refine ⟨_, rfl, ?_, ?_⟩
      · rw [hres.out]; exact Own.base ho.out (by rw [HRg.out]; exact Nat.le_of_lt hR5)
      · rw [HRg.out]; exact hb6.out.trans (hB.out.mono (Nat.le_of_lt hR5))
theorem owners_yes (w : World) (B l : Nat) (v1 v2 : Value) (N : List Nm) (Q : List Pt) (key : Nm) (n : Int) (hr : Ring2 w B l v1 v2 N Q) (hs : Srt Q) (hQN : ∀ p ∈ Q, p.2 ∈ N) (hN : N.length ≤ 1000) (hQ : Q.length ≤ 1000000) (hkey : key.length ≤ 1000000) (hn : 1 ≤ n) (hn2 : n ≤ 9223372036854775807) :
    Calls Tryz.prog 10 #[.pointer (some ⟨l, 0, none⟩), .string (str key), .int .i64 n] w fun e w' => ∃ o, e = .returned o ∧ Own w' w.heap.size 9 1 o (owners N Q (Sk.hash 255 key) n).length (strs (owners N Q (Sk.hash 255 key) n)) ∧ Below w.heap.size w w' :=
  owners_long w B l v1 v2 N Q key n hr hs hQN hN hQ (by unfold maxLen; omega) hn hn2
end Go.Proofs.YtpfpjcfacbfjaaaGreatDoor
