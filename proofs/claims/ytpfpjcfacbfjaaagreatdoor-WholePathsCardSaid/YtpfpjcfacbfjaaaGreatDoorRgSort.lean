/-
  sort.Slice over points: they end in order.
-/
import Derived.Test.YtpfpjcfacbfjaaaGreatDoorRgMem
import Derived.Test.YtpfpjcfacbfjaaaGreatDoorGPdq
import Derived.Test.YtpfpjcfacbfjaaaGreatDoorShelfSrt
import Derived.Deep.RegionHeld3
import Derived.Deep.DrawnRows
namespace Go.Proofs.YtpfpjcfacbfjaaaGreatDoor
open Go.Shelf Go.RowKit Go.Lib Go.Sort Rg
attribute [local go_sem ↓] Go.wp_at_zero Go.wp_at_succ
section
variable {P : Program} {ρ : Ren} {α : Type} [Inhabited α]
/-- sort.Slice, with a comparison that may lay blocks. -/
theorem sortSlice_g (L : LaysGg.n6 P ρ) (t e : TypeId) (i ie : TypeInfo) (hi : P.info? t = some i) (hd : i.desc = .slice e) (hpk : P.packed t = false) (hie : P.info? e = some ie) (ke : Nat) (hke : ∀ w, (Extern.Rtype.kind e).run P w = .ok ke w)
    (enc : α → List Value) (k : Nat) (hk : ∀ x, (enc x).length = k) (hs1 : ie.size = k) (hagg : ∀ w, (isAgg e).run P w = .ok true w) (h1 : ∀ x, ∀ v ∈ enc x, v.oneCell' = true) (lt : α → α → Bool) (hO : SWO lt) (g : Nat) (lb : Array Value)
    (eg : ∀ args w, (callFunc g args).run P w = .ok (.enter g args) w) (blk off c : Nat) (d : Array α) (h2 : 2 ≤ d.size) (hsz : d.size < 4611686018427387904)
    (f : Nat) (hf : P.funcs.findIdx? (·.name == "internal/reflectlite" ++ ".Swapper$" ++ toString (swapperK d.size ie ke)) = some f)
    (gS : Bool) (hx : ∀ args W, (callFunc f args).run P W = ((Extern.ReflectliteSwapper.swap gS args).run P W).andThen fun v w' => .ok (.value v) w')
    (w : World) (hless : LessG P g lb enc k lt blk off d.size w) (hH : HoldsK enc k w blk off d) (hblk : blk < w.heap.size) :
    Calls P (ρ.f 6) #[.iface t (.slice (some ⟨blk, off, none⟩) d.size c), .func (.func g) #[] lb] w fun e w' =>
      e = .returned (.tuple #[]) ∧ ∃ d', PermIn 0 d.size d d' ∧ SortedIn lt 0 d.size d' ∧ SWK enc k w blk off d' w' := by
  refine Any.sort_Slice_of_pdq L t e i ie hi hd hpk hie ke hke _ d.size c hsz f hf (.func g) #[] lb w _ ?_
  have hB : sliceBound P e ie ke (some ⟨blk, off, none⟩) d.size c = #[.slice (some ⟨blk, off, none⟩) d.size c, typeHandle P e] := by
    unfold sliceBound; rw [if_neg (swapperK_gt _ _ _ h2)]
  obtain ⟨os0, hW⟩ : ∃ os0, sliceWorld P ρ t (some ⟨blk, off, none⟩) d.size c w = grow w os0 := by
    unfold sliceWorld; rw [alloc_eq_grow, alloc_eq_grow, grow_grow]; exact ⟨_, rfl⟩
  rw [hB, hW]
  have hlim : Lib.bitLen d.size < 4611686018427387904 := Nat.lt_of_le_of_lt (Lib.bitLen_le d.size 62 (by omega) (by omega)) (by omega)
  have S0 : SortIn P g lb f _ enc k lt blk off d w := ⟨hk, eg, hless, swapSwapsK_of_literal gS f hx e ie hie enc k hk hs1 hagg h1 blk off d.size c, hH, hblk, hsz⟩
  have hg : SWK enc k w blk off d (grow w os0) := swk_grown S0.start ⟨0, os0, rfl⟩
  have S := S0.on hg rfl
  refine (pdq_g (P := P) (ρ := ρ) { L with } hO (d.size + 1) 0 d.size (Lib.bitLen d.size) d _ (by omega) S (Nat.zero_le _) (Nat.le_refl _) hlim (Or.inl rfl)).mono ?_
  rintro e w' ⟨rfl, h⟩
  have hp := pdq_sorts lt hO d 0 d.size (Lib.bitLen d.size) true true (Nat.zero_le _) (Nat.le_refl _) (Or.inl rfl)
  exact ⟨rfl, _, hp.1, hp.2, swk_trans hg hblk hp.1.1 h⟩
end
/-- Behind the two loads of the comparison: two new variables that hold the points. -/
def Two (w0 : World) (p q : Pt) (a b : Value) (W : World) : Prop :=
  ∃ x y, a = .pointer (some ⟨x, 0, none⟩) ∧ b = .pointer (some ⟨y, 0, none⟩) ∧ W.cell? ⟨x, 0, none⟩ = some (.int .u64 p.1) ∧ W.cell? ⟨x, 1, none⟩ = some (.string (str p.2)) ∧ W.cell? ⟨y, 0, none⟩ = some (.int .u64 q.1) ∧ W.cell? ⟨y, 1, none⟩ = some (.string (str q.2)) ∧ Grown w0 W
theorem two_ab (w : World) (T : TypeId) (p q : Pt) : Two w p q (.pointer (some ⟨w.heap.size, 0, none⟩)) (.pointer (some ⟨w.heap.size + 1, 0, none⟩)) ((w.alloc (.cells #[.int .u64 p.1, .string (str p.2)] T)).alloc (.cells #[.int .u64 q.1, .string (str q.2)] T)).drew := by
  have b1 := (blk_new w T #[.int .u64 p.1, .string (str p.2)]).alloc (.cells #[.int .u64 q.1, .string (str q.2)] T)
  have b2 := blk_new (w.alloc (.cells #[.int .u64 p.1, .string (str p.2)] T)) T #[.int .u64 q.1, .string (str q.2)]
  rw [show (w.alloc (.cells #[.int .u64 p.1, .string (str p.2)] T)).heap.size = w.heap.size + 1 by simp] at b2
  exact ⟨_, _, rfl, rfl, b1.cell 0, b1.cell 1, b2.cell 0, b2.cell 1, grown_drewN (grown_alloc (grown_alloc (grown_refl w) _) _) 1⟩
theorem two_ba (w : World) (T : TypeId) (p q : Pt) : Two w p q (.pointer (some ⟨w.heap.size + 1, 0, none⟩)) (.pointer (some ⟨w.heap.size, 0, none⟩)) ((w.alloc (.cells #[.int .u64 q.1, .string (str q.2)] T)).alloc (.cells #[.int .u64 p.1, .string (str p.2)] T)).drew := by
  obtain ⟨x, y, hx, hy, a, b, c, d, g⟩ := two_ab w T q p
  exact ⟨y, x, hy, hx, c, d, a, b, g⟩
set_option maxRecDepth 100000 in
set_option maxHeartbeats 8000000 in
theorem less_any (w : World) (R l g n cap i j : Nat) (p q : Pt) (hi : i < n) (hj : j < n)
    (hR : w.cell? ⟨R, 0, none⟩ = some (.pointer (some ⟨l, 0, none⟩))) (hl : w.cell? ⟨l, 1, none⟩ = some (.slice (some ⟨g, 0, none⟩) n cap))
    (hp0 : w.cell? ⟨g, i * 2, none⟩ = some (.int .u64 p.1)) (hp1 : w.cell? ⟨g, i * 2 + 1, none⟩ = some (.string (str p.2))) (hq0 : w.cell? ⟨g, j * 2, none⟩ = some (.int .u64 q.1)) (hq1 : w.cell? ⟨g, j * 2 + 1, none⟩ = some (.string (str q.2))) :
    Calls Tryz.prog 25 #[.int .i64 (i : Int), .int .i64 (j : Int), .pointer (some ⟨R, 0, none⟩)] w fun e w' => e = .returned (.bool (ptLt p q)) ∧ Grown w w' := by
  obtain ⟨ph, pn⟩ := p
  obtain ⟨qh, qn⟩ := q
  simp only at hp0 hp1 hq0 hq1
  have z1 := cell_lt hR
  have z2 := cell_lt hl
  have z3 := cell_lt hp0
  have i0 : (0 : Int) ≤ (i : Int) := by omega
  have i1 : (i : Int) < (n : Int) := by omega
  have j0 : (0 : Int) ≤ (j : Int) := by omega
  have j1 : (j : Int) < (n : Int) := by omega
  go_enter Tryz.func25, Tryz.ntmps25
  go_upto_region 1 with (fail)
  go_region_held3 (fun w' => w'.cell? ⟨R, 0, none⟩ = some (.pointer (some ⟨l, 0, none⟩)) ∧ w'.cell? ⟨l, 1, none⟩ = some (.slice (some ⟨g, 0, none⟩) n cap) ∧ w'.cell? ⟨g, i * 2, none⟩ = some (.int .u64 ph) ∧ w'.cell? ⟨g, i * 2 + 1, none⟩ = some (.string (str pn)) ∧ w'.cell? ⟨g, j * 2, none⟩ = some (.int .u64 qh) ∧ w'.cell? ⟨g, j * 2 + 1, none⟩ = some (.string (str qn))) (go_keep) (fail)
  · rename_i hHeld
    clear hHeld hR hl hp0 hp1 hq0 hq1
    have hTwo := two_ab w 63 (ph, pn) (qh, qn)
    generalize World.drew _ = W at hTwo ⊢
    obtain ⟨x, y, hx, hy, cx0, cx1, cy0, cy1, hG⟩ := hTwo
    cases hx
    cases hy
    have HG := Lib.hid hG
    clear hG
    simp only at cx0 cx1 cy0 cy1
    by_cases hlt : ph < qh
    · have hr : Hid (ptLt (ph, pn) (qh, qn) = true) := by show _ = _; rw [ptLt_true]; exact Or.inl hlt
      have h1 : decide (ph < qh) = true := decide_eq_true hlt
      go_wp2
      go_ret
      exact ⟨by rw [hr.out]; rfl, HG.out⟩
    · by_cases he : ph = qh
      · subst he
        have hr : Hid (ptLt (ph, pn) (ph, qn) = decide (pn < qn)) := by show _ = _; unfold ptLt; simp
        have h1 : decide (ph < ph) = false := decide_eq_false hlt
        have h2 : (ph == ph) = true := by simp
        have hb := Lib.hid (show Op.bytesLess (str pn).toList (str qn).toList = decide (pn < qn) by rw [bytesLess_eq, str_toList, str_toList])
        go_wp2
        go_ret
        exact ⟨by rw [hr.out, ← hb.out]; rfl, HG.out⟩
      · have hr : Hid (ptLt (ph, pn) (qh, qn) = false) := by show _ = _; rw [ptLt_false]; rintro (h | ⟨h, _⟩); · exact hlt h
                                                             · exact he h
        have h1 : decide (ph < qh) = false := decide_eq_false hlt
        have h2 : (ph == qh) = false := by simpa using he
        go_wp2
        go_ret
        exact ⟨by rw [hr.out]; rfl, HG.out⟩
  · rename_i hHeld
    clear hHeld hR hl hp0 hp1 hq0 hq1
    have hTwo := two_ba w 63 (ph, pn) (qh, qn)
    generalize World.drew _ = W at hTwo ⊢
    obtain ⟨x, y, hx, hy, cx0, cx1, cy0, cy1, hG⟩ := hTwo
    cases hx
    cases hy
    have HG := Lib.hid hG
    clear hG
    simp only at cx0 cx1 cy0 cy1
    by_cases hlt : ph < qh
    · have hr : Hid (ptLt (ph, pn) (qh, qn) = true) := by show _ = _; rw [ptLt_true]; exact Or.inl hlt
      have h1 : decide (ph < qh) = true := decide_eq_true hlt
      go_wp2
      go_ret
      exact ⟨by rw [hr.out]; rfl, HG.out⟩
    · by_cases he : ph = qh
      · subst he
        have hr : Hid (ptLt (ph, pn) (ph, qn) = decide (pn < qn)) := by show _ = _; unfold ptLt; simp
        have h1 : decide (ph < ph) = false := decide_eq_false hlt
        have h2 : (ph == ph) = true := by simp
        have hb := Lib.hid (show Op.bytesLess (str pn).toList (str qn).toList = decide (pn < qn) by rw [bytesLess_eq, str_toList, str_toList])
        go_wp2
        go_ret
        exact ⟨by rw [hr.out, ← hb.out]; rfl, HG.out⟩
      · have hr : Hid (ptLt (ph, pn) (qh, qn) = false) := by show _ = _; rw [ptLt_false]; rintro (h | ⟨h, _⟩); · exact hlt h
                                                             · exact he h
        have h1 : decide (ph < qh) = false := decide_eq_false hlt
        have h2 : (ph == qh) = false := by simpa using he
        go_wp2
        go_ret
        exact ⟨by rw [hr.out]; rfl, HG.out⟩
noncomputable def tyPs : TypeInfo := (Tryz.prog.info? 49).get (by kernel_rfl)
noncomputable def tyPt : TypeInfo := (Tryz.prog.info? 63).get (by kernel_rfl)
theorem swapper_pt (n : Nat) (h2 : 2 ≤ n) : Lib.swapperK n tyPt 25 = 9 := by
  have b : tyPt.bytes = 24 := by kernel_rfl
  have c : (n == 0) = false := by simp; omega
  have d : (n == 1) = false := by simp; omega
  simp [Lib.swapperK, b, c, d]
theorem sort_pts (w : World) (B R l g cap : Nat) (Q : List Pt) (h2 : 2 ≤ Q.length) (hsz : Q.length ≤ 1000000) (hR : w.cell? ⟨R, 0, none⟩ = some (.pointer (some ⟨l, 0, none⟩))) (hl : w.cell? ⟨l, 1, none⟩ = some (.slice (some ⟨g, 0, none⟩) Q.length cap))
    (hO : Own w B 63 2 (.slice (some ⟨g, 0, none⟩) Q.length cap) Q.length (pvs Q)) (hRg : R ≠ g) (hlg : l ≠ g) :
    Calls Tryz.prog 24 #[.iface 49 (.slice (some ⟨g, 0, none⟩) Q.length cap), .func (.func 25) #[] #[.pointer (some ⟨R, 0, none⟩)]] w fun e w' =>
      e = .returned (.tuple #[]) ∧ Own w' B 63 2 (.slice (some ⟨g, 0, none⟩) Q.length cap) Q.length (pvs (srt Q)) ∧ Kp (fun b => b = g) w w' := by
  obtain ⟨hS, hB, hn, hm⟩ := own_shp hO
  have hH : HoldsK encP 2 w g 0 Q.toArray := holds_pts hS (fun j u hu => own_at hO hu)
  have hgl : g < w.heap.size := hS.lt
  have hless : LessG Tryz.prog 25 #[.pointer (some ⟨R, 0, none⟩)] encP 2 ptLt g 0 Q.toArray.size w := by
    intro W dk hW hs i j hi hj
    have hHd := hW.holds hgl hH hs
    have f0 := fun (k : Nat) (hk : k < Q.toArray.size) => (hHd.cell (i := k) (c := 0) (by omega) (by omega)).1
    have f1 := fun (k : Nat) (hk : k < Q.toArray.size) => (hHd.cell (i := k) (c := 1) (by omega) (by omega)).1
    have e0 : ∀ k, 0 + k * 2 + 0 = k * 2 := fun k => by omega
    have e1 : ∀ k, 0 + k * 2 + 1 = k * 2 + 1 := fun k => by omega
    simp only [e0, e1] at f0 f1
    exact less_any W R l g Q.length cap i j dk[i]! dk[j]! (by simpa using hi) (by simpa using hj) ((swk_cell hW (a := ⟨R, 0, none⟩) hRg (cell_lt hR)).trans hR) ((swk_cell hW (a := ⟨l, 1, none⟩) hlg (cell_lt hl)).trans hl) (f0 i hi) (f1 i hi) (f0 j hj) (f1 j hj)
  have h := sortSlice_g Tryz.laysGg6 49 63 tyPs tyPt (by kernel_rfl) (by kernel_rfl) (by kernel_rfl) (by kernel_rfl) 25 (fun _ => by kernel_rfl) encP 2 (fun _ => rfl) (by kernel_rfl) (fun _ => by kernel_rfl)
    (fun x v hv => by simp [encP] at hv; rcases hv with rfl | rfl <;> rfl) ptLt swo_pt 25 #[.pointer (some ⟨R, 0, none⟩)]
    (enters_of Tryz.func25 (by kernel_rfl) rfl) g 0 cap Q.toArray (by simpa using h2) (by simp; omega) 68 (by rw [swapper_pt _ (by simpa using h2)]; kernel_rfl) false
    (fun args W => run_callFunc_extern Tryz.func68 (by kernel_rfl) (by kernel_rfl) (by kernel_rfl) (e := Extern.ReflectliteSwapper.swap false) (by kernel_rfl) args W) w hless hH hgl
  refine h.mono ?_
  rintro e w' ⟨rfl, d', hp, hso, hW⟩
  have hsz' : d'.size = Q.toArray.size := hp.1
  have hperm : d'.toList.Perm Q := by
    have := hp.2.2
    rw [Array.extract_eq_self_of_le (by omega), Array.extract_eq_self_of_le (Nat.le_refl _)] at this
    simpa using this
  have hsrt : Srt d'.toList := by
    unfold Srt
    rw [List.pairwise_iff_getElem]
    intro i j hi hj hij
    have hi' : i < d'.size := by simpa using hi
    have hj' : j < d'.size := by simpa using hj
    have := hso i j (Nat.zero_le _) hij (by omega)
    rw [getElem!_pos d' i hi', getElem!_pos d' j hj'] at this
    simpa using this
  have he := srt_eq hsrt hperm
  refine ⟨rfl, ?_, swk_kp hW⟩
  refine own_mk (hS.swk hW) hB hn hm (by rw [pvs_len, srt_len]) ?_
  rw [← he]
  exact pts_held (hW.holds hgl hH hsz')
end Go.Proofs.YtpfpjcfacbfjaaaGreatDoor
