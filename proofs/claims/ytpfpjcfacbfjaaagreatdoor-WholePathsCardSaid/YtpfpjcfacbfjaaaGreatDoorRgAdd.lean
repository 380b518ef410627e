/-
  Layer 31: Add of a node that is new.
-/
import Derived.Test.YtpfpjcfacbfjaaaGreatDoorRgRing
namespace Go.Proofs.YtpfpjcfacbfjaaaGreatDoor
open Go.Shelf Go.RowKit Go.Lib Go.Sort Rg
attribute [local go_sem ↓] Go.wp_at_zero Go.wp_at_succ
set_option maxRecDepth 100000 in
set_option maxHeartbeats 4000000 in
theorem add_yesN (w : World) (B l n : Nat) (v1 v2 : Value) (N : List Nm) (Q : List Pt) (x : Nm) (hr : Ring2 w B l v1 v2 N Q) (hA : Asc N) (hN : N.length ≤ 1000) (hQ : Q.length ≤ 100000) (hB : B ≤ w.heap.size)
    (hx1 : 1 ≤ x.length) (hx2 : x.length ≤ 64) (hn1 : 1 ≤ n) (hn2 : n ≤ 16) (hm : x ∉ N) :
    Calls Tryz.prog 8 #[.pointer (some ⟨l, 0, none⟩), .string (str x), .int .i64 (n : Int)] w fun e w' => e = .returned .nilIface ∧ Kp (fun b => b = l ∨ v1.ownBlock = some b ∨ v2.ownBlock = some b) w w' ∧ ∃ v1' v2', Ring2 w' B l v1' v2' (insAt (pos N x) x N) (srt (Q ++ pts1 x n)) ∧ Newer w v1 v1' := by
  have c1 : w.cell? ⟨l, 0, none⟩ = some v1 := hr.blk.cell 0
  have c2 : w.cell? ⟨l, 1, none⟩ = some v2 := hr.blk.cell 1
  have hlt := hr.blk.lt
  have hsx : (str x).size = x.length := str_size x
  have s1 : 1 ≤ (str x).size := by omega
  have s2 : (str x).size ≤ 64 := by omega
  have s3 : decide (((str x).size : Int) < 1) = false := decide_eq_false (by omega)
  have s4 : decide (64 < ((str x).size : Int)) = false := decide_eq_false (by omega)
  have s5 : decide ((n : Int) < 1) = false := decide_eq_false (by omega)
  have s6 : decide (16 < (n : Int)) = false := decide_eq_false (by omega)
  have hbs := bsearch_any (w.alloc (.cells #[.pointer (some ⟨l, 0, none⟩)] 25)) v1 N x hA (by omega) (Rd.own (hr.nodes.alloc _))
  have hm' : decide (x ∈ N) = false := decide_eq_false hm
  rw [hm'] at hbs
  have Hsx := Lib.hid hsx
  clear hm' hsx
  go_enter Tryz.func8, Tryz.ntmps8
  go_wp2_with fail
  refine hbs.mono ?_
  rintro e w1 ⟨rfl, q, rfl⟩
  have hb0 : Below w.heap.size w ((w.alloc (.cells #[.pointer (some ⟨l, 0, none⟩)] 25)).drewN q) := below_drewN ((Below.refl _ _).alloc (Nat.le_refl _) _) q
  have hr1 := hr.below hb0
  have hkR : Blk ((w.alloc (.cells #[.pointer (some ⟨l, 0, none⟩)] 25)).drewN q) w.heap.size 25 #[.pointer (some ⟨l, 0, none⟩)] := blk_new w 25 #[.pointer (some ⟨l, 0, none⟩)]
  have hRs : w.heap.size < ((w.alloc (.cells #[.pointer (some ⟨l, 0, none⟩)] 25)).drewN q).heap.size := by show w.heap.size < (w.alloc _).heap.size; simp
  have hbB := Lib.hid ((Kp.refl (fun b => b = l ∨ v1.ownBlock = some b ∨ v2.ownBlock = some b) w).below hb0)
  have hBR := hB
  have hlR : l ≠ w.heap.size := by omega
  generalize (w.alloc (.cells #[.pointer (some ⟨l, 0, none⟩)] 25)).drewN q = W1 at *
  generalize w.heap.size = R at *
  clear hbs hr c1 c2 hb0 hlt hB
  have d1 : W1.cell? ⟨l, 0, none⟩ = some v1 := hr1.blk.cell 0
  have d2 : W1.cell? ⟨l, 1, none⟩ = some v2 := hr1.blk.cell 1
  have hl1 := hr1.blk.lt
  have hcR : W1.cell? ⟨R, 0, none⟩ = some (.pointer (some ⟨l, 0, none⟩)) := hkR.cell 0
  have hrR : v1.ownBlock ≠ some R := Own.ne hr1.nodes hkR (by decide)
  have hpos := pos_le N x
  have hins := fun (X : World) (hX : Below W1.heap.size W1 X) (vb : Nat) (hvb : W1.heap.size ≤ vb) (hV : Blk X vb 9 #[.string (str x)]) =>
    insert_any X B vb (pos N x) v1 N x hpos (by omega) (own_below hr1.nodes hX) hV (fun e => by have := (World.ownsRow.lt hr1.nodes _ e).2; omega) (by have := hX.size; omega)
  have HI := Lib.hid hins
  clear hins
  have hlB := hr1.base
  have hn1 := hr1.n1
  have hD := Lib.hid (fun o => (((Below.refl W1.heap.size W1).alloc (Nat.le_refl _) o).drew))
  go_upto_region 10 with fail
  go_cut [] from 10 (fun wx => Mid W1 B R l v1 v2 (insAt (pos N x) x N) Q wx)
  case first =>
    go_region_with (go_at_call 22; refine (HI.out _ (hD.out _) _ (Nat.le_refl _) (blk_new W1 _ _)).mono ?_; rintro e W3 ⟨v1', rfl, hO1, hK, hNw⟩; obtain ⟨g1, p1, rfl⟩ := own_some hO1 (by omega); have f0 := (hkR.below (hD.out _)).kp hrR hK; have f1 := f0.cell 0; replace f0 := Lib.hid f0; have f2 := (hr1.blk.below (hD.out _)).kp hn1 hK; have f3 := f2.cell 0; have f4 := f2.frozen 0; replace f2 := Lib.hid f2; replace hK := Lib.hid hK; replace hO1 := Lib.hid hO1; replace hNw := Lib.hid hNw)
    all_goals
      go_wp2_with fail
      go_meet
      obtain ⟨hm1, hm2⟩ := hr1.mid (Grew.refl W1 l v1 v2) (hD.out _) hK.out hNw.out (N' := insAt (pos N x) x N) (by rw [insAt_len]; exact hO1.out)
      exact ⟨_, v2, hm1, f0.out.far (p := ⟨l, 0, none⟩) (fun e => hlR e.symm) _, hm2⟩
  case rest =>
    obtain ⟨v1', v2', hr2, d3, hb2⟩ := hcut
    generalize hN' : insAt (pos N x) x N = N' at *
    clear hr1 HI d1 d2 hn1 hl1 hkR hcR hrR hpos hm
    have hBW := hb2.kp.size
    have HM : Hid (Mid W1 B R l v1 v2 N' (Q ++ (pts1 x n).take 0) wc) := ⟨v1', v2', by simpa using hr2, d3, hb2⟩
    have HN' := Lib.hid hN'
    have e8 : 8 * (n : Int) ≤ 128 := by omega
    have hsm : (str x).size ≤ maxLen := by unfold maxLen; omega
    clear hb2 hr2 hN' d3 hA
    go_wp2_with fail
    go_loopw [56] (fun i wr => ∃ k : Nat, i = .int .i64 (k : Int) ∧ k ≤ 8 * n ∧ Hid (Mid W1 B R l v1 v2 N' (Q ++ (pts1 x n).take k) wr)) (fun i _ => 8 * n - (intOf i).toNat)
    case atStart => exact ⟨0, rfl, by omega, HM⟩
    case round =>
      clear HM
      obtain ⟨k, rfl, hk, hM⟩ := hrel
      obtain ⟨u1, u2, hr, hkR, hbW⟩ := hM.out
      have HR := Lib.hid hr
      have hl1 := hr.blk.lt
      have hbs := Lib.hid hbW
      have hBw : B ≤ wr.heap.size := by have := hr.base; omega
      by_cases hlt : k < 8 * n
      · have d1 : wr.cell? ⟨l, 1, none⟩ = some u2 := hr.blk.cell 1
        have dR : wr.cell? ⟨R, 0, none⟩ = some (.pointer (some ⟨l, 0, none⟩)) := hkR.cell 0
        have hRw := hkR.lt
        have HkR := Lib.hid hkR
        have hPl : (Q ++ (pts1 x n).take k).length ≤ 200000 := by rw [List.length_append, List.length_take, pts1_len]; omega
        obtain ⟨A2, c2, rfl, hc2, -, -⟩ := Rd.own hr.points
        have htk := Lib.hid (pts1_take (x := x) hlt)
        have hone := Lib.hid (fun (h : Int) => pt_one h x)
        have hD := Lib.hid (fun o => (((Below.refl wr.heap.size wr).alloc (Nat.le_refl _) o).drew))
        clear hr hkR hbW hM
        generalize hP : Q ++ (pts1 x n).take k = P at *
        have HP := Lib.hid hP
        clear hP
        go_upto_region 14 with fail
        go_region_law (first
          | (refine stepR_call 23 _ _ (by rfl) (by rfl) (enters_of Tryz.func23 (by kernel_rfl) rfl) (by kernel_rfl) (hash_k k x _ (by omega) (by omega)) ?_; rintro e w5 ⟨rfl, rfl⟩; refine ⟨_, rfl, ?_⟩)
          | (refine stepR_blk 49 63 (.agg #[.int .u64 0, .string ⟨#[]⟩]) 2 24 _ _ (by rfl) (by rfl) Tryz.underlying49 infoPt rfl (by decide) (by decide) (B := B) (n := P.length) (m := 1) (c := 1) (g := wr.heap.size) (news := #[.int .u64 (Sk.hash (k : Int) x), .string (str x)]) (by kernel_rfl) (own_below HR.out.points (hD.out _)) (by kernel_rfl) (blk_new wr _ _) rfl (hone.out _) (by omega) (Nat.le_trans hBw (hD.out _).size) ?_; intro v5 w5 hO5 hg5 hat5; have hN5 := Lib.hid (newer_of hat5); clear hat5; have hK5 := (Kp.refl (fun b => (Value.slice A2 P.length c2).ownBlock = some b) _).grown hg5 (fun k hk _ => hk); obtain ⟨g5, p5, rfl⟩ := own_some hO5 (by omega); have f2 := (HR.out.blk.below (hD.out _)).kp HR.out.n2 hK5; have f3 := f2.cell 1; have f4 := f2.frozen 1; have f0 := (HkR.out.below (hD.out _)).kp (Own.ne HR.out.points HkR.out (by decide)) hK5; have f1 := f0.cell 0; replace f0 := Lib.hid f0; clear f2 hg5; replace hK5 := Lib.hid hK5; replace hO5 := Lib.hid hO5))
        all_goals
          go_wp2
          obtain ⟨hm1, hm2⟩ := HR.out.mid2 hbs.out (hD.out _) hK5.out hN5.out (Q' := P ++ [(Sk.hash (k : Int) x, x)]) (by rw [List.length_append, pvs_snoc]; exact hO5.out)
          go_roundw
          case rel => exact ⟨k + 1, by go_num, by omega, ⟨_, _, by rw [htk.out, ← List.append_assoc, HP.out]; exact hm1, f0.out.far (p := ⟨l, 1, none⟩) (fun e => hlR e.symm) _, hm2⟩⟩
          case measure => simp [intOf]; omega
      · have hke : k = 8 * n := by omega
        rw [hke, List.take_of_length_le (by rw [pts1_len]; omega)] at hr HR
        have hq2 : 2 ≤ (Q ++ pts1 x n).length := by rw [List.length_append, pts1_len]; omega
        have hq3 : (Q ++ pts1 x n).length ≤ 1000000 := by rw [List.length_append, pts1_len]; omega
        obtain ⟨g2, p2, rfl⟩ := own_some hr.points (by omega)
        have d1 : wr.cell? ⟨l, 1, none⟩ = some (.slice (some ⟨g2, 0, none⟩) (Q ++ pts1 x n).length p2) := hr.blk.cell 1
        have dR : wr.cell? ⟨R, 0, none⟩ = some (.pointer (some ⟨l, 0, none⟩)) := hkR.cell 0
        have hRg : R ≠ g2 := fun e => (Own.ne hr.points hkR (by decide)) (by rw [e]; rfl)
        have hlg : l ≠ g2 := fun e => hr.n2 (by rw [e]; rfl)
        have hs := sort_pts wr B R l g2 p2 (Q ++ pts1 x n) hq2 hq3 dR d1 hr.points hRg hlg
        have hge : ¬ k < 8 * n := hlt
        clear hr hkR hbW hM hq2 hq3
        generalize hP : Q ++ pts1 x n = P at *
        have HP := Lib.hid hP
        have Hke := Lib.hid hke
        clear hP hke
        go_wp2_with (go_at_call 24; refine hs.mono ?_; rintro e w6 ⟨rfl, hO6, hK6⟩; replace hO6 := Lib.hid hO6; replace hK6 := Lib.hid hK6)
        go_ret
        have hK7 : Kp (fun b => (Value.slice (some ⟨g2, 0, none⟩) P.length p2).ownBlock = some b) wr w6 := hK6.out.mono (fun b _ hb => by rw [hb]; rfl)
        have f2 := HR.out.blk.kp HR.out.n2 hK7
        have hO1 := Own.kp HR.out.nodes (fun k hk e => HR.out.n12 hk e) hK7
        refine ⟨rfl, ?_, u1, _, ⟨f2, HR.out.base, by rw [HN'.out]; exact hO1, ?_⟩, fun k hk => (hbs.out.n1 k hk).imp id (fun h => Nat.le_trans hbB.out.size h)⟩
        · refine hbB.out.trans (hbs.out.kp.next (fun k hk hg => ?_) hK7)
          rcases hbs.out.n2 k hg with h | h
          · exact Or.inr (Or.inr h)
          · omega
        · rw [srt_len, HP.out]; exact hO6.out
theorem add_yes (w : World) (B l n : Nat) (v1 v2 : Value) (N : List Nm) (Q : List Pt) (x : Nm) (hr : Ring2 w B l v1 v2 N Q) (hA : Asc N) (hN : N.length ≤ 1000) (hQ : Q.length ≤ 100000) (hB : B ≤ w.heap.size)
    (hx1 : 1 ≤ x.length) (hx2 : x.length ≤ 64) (hn1 : 1 ≤ n) (hn2 : n ≤ 16) (hm : x ∉ N) :
    Calls Tryz.prog 8 #[.pointer (some ⟨l, 0, none⟩), .string (str x), .int .i64 (n : Int)] w fun e w' => e = .returned .nilIface ∧ Kp (fun b => b = l ∨ v1.ownBlock = some b ∨ v2.ownBlock = some b) w w' ∧ ∃ v1' v2', Ring2 w' B l v1' v2' (insAt (pos N x) x N) (srt (Q ++ pts1 x n)) := by
  refine (add_yesN w B l n v1 v2 N Q x hr hA hN hQ hB hx1 hx2 hn1 hn2 hm).mono ?_
  rintro e w' ⟨rfl, hk, v1', v2', hr', -⟩
  exact ⟨rfl, hk, v1', v2', hr'⟩
end Go.Proofs.YtpfpjcfacbfjaaaGreatDoor
