/-
  Layer 31: package slices over names: look up, insert, delete, copy.
-/
import Derived.Test.YtpfpjcfacbfjaaaGreatDoorRgMem
import Derived.Test.YtpfpjcfacbfjaaaGreatDoorShelfSl
namespace Go.Proofs.YtpfpjcfacbfjaaaGreatDoor
open Go.Shelf Go.RowKit Go.Lib Go.Sort Rg

namespace Rg
/-- In order, each once. -/
def Asc (N : List Nm) : Prop := N.Pairwise fun a b => a < b
/-- How many names come before one. -/
def pos (N : List Nm) (x : Nm) : Nat := (N.filter fun y => decide (y < x)).length
def insAt (k : Nat) (x : Nm) (N : List Nm) : List Nm := N.take k ++ x :: N.drop k
theorem pos_le (N : List Nm) (x : Nm) : pos N x ≤ N.length := List.length_filter_le _ _
theorem asc_lt {N : List Nm} (h : Asc N) {i j : Nat} (hij : i < j) (hj : j < N.length) : N[i]'(by omega) < N[j] := List.pairwise_iff_getElem.1 h i j (by omega) hj hij
theorem pos_iff {N : List Nm} (h : Asc N) {x : Nm} {i : Nat} (hi : i < N.length) : i < pos N x ↔ N[i] < x := by
  induction N generalizing i with
  | nil => simp at hi
  | cons y r ih =>
    have h' : Asc r := (List.pairwise_cons.1 h).2
    have h0 := (List.pairwise_cons.1 h).1
    unfold pos
    by_cases hy : y < x
    · rw [List.filter_cons_of_pos (by simpa using hy), List.length_cons]
      cases i with
      | zero => simp [hy]
      | succ i =>
        have := ih h' (i := i) (by simpa using hi)
        unfold pos at this
        rw [List.getElem_cons_succ, Nat.add_lt_add_iff_right]
        exact this
    · have e : (r.filter fun z => decide (z < x)) = [] := by
        rw [List.filter_eq_nil_iff]; intro z hz
        have := h0 z hz
        simp only [decide_eq_true_eq]
        exact fun hzx => hy (List.lt_trans this hzx)
      rw [List.filter_cons_of_neg (by simpa using hy), e]
      have hm : (y :: r)[i] ∈ y :: r := List.getElem_mem hi
      rcases List.mem_cons.1 hm with h1 | h1
      · rw [h1]; simp [hy]
      · have := h0 _ h1; simp only [List.length_nil, Nat.not_lt_zero, false_iff]; exact fun hzx => hy (List.lt_trans this hzx)
theorem pos_mem {N : List Nm} (h : Asc N) {x : Nm} : x ∈ N ↔ ∃ hk : pos N x < N.length, N[pos N x] = x := by
  constructor
  · intro hx
    obtain ⟨i, hi, rfl⟩ := List.getElem_of_mem hx
    have h1 : ¬ i < pos N N[i] := by rw [pos_iff h hi]; exact List.lt_irrefl _
    have h2 : ¬ pos N N[i] < i := fun hlt => by
      have := (pos_iff h (x := N[i]) (i := pos N N[i]) (by omega)).2 (asc_lt h hlt hi)
      omega
    have e : pos N N[i] = i := by omega
    exact ⟨by omega, by simp [e]⟩
  · rintro ⟨hk, e⟩
    rw [← e]; exact List.getElem_mem hk
theorem insAt_asc {N : List Nm} (h : Asc N) {x : Nm} (hx : x ∉ N) : Asc (insAt (pos N x) x N) := by
  unfold Asc insAt
  rw [List.pairwise_append]
  refine ⟨List.Pairwise.sublist (List.take_sublist _ _) h, ?_, ?_⟩
  · rw [List.pairwise_cons]
    refine ⟨fun y hy => ?_, List.Pairwise.sublist (List.drop_sublist _ _) h⟩
    obtain ⟨j, hj, rfl⟩ := List.getElem_of_mem hy
    rw [List.length_drop] at hj
    rw [List.getElem_drop]
    have : ¬ N[pos N x + j]'(by omega) < x := by rw [← pos_iff h (by omega)]; omega
    exact nm_total this (fun e => hx (by rw [← e]; exact List.getElem_mem _))
  · intro a ha b hb
    obtain ⟨i, hi, rfl⟩ := List.getElem_of_mem ha
    rw [List.length_take] at hi
    rw [List.getElem_take]
    have hax : N[i]'(by omega) < x := (pos_iff h (by omega)).1 (by omega)
    rcases List.mem_cons.1 hb with rfl | hb
    · exact hax
    · obtain ⟨j, hj, rfl⟩ := List.getElem_of_mem hb
      rw [List.length_drop] at hj
      rw [List.getElem_drop]
      exact asc_lt h (by omega) (by omega)
theorem insAt_perm (k : Nat) (x : Nm) (N : List Nm) : (insAt k x N).Perm (x :: N) := by
  unfold insAt
  have := List.perm_middle (a := x) (l₁ := N.take k) (l₂ := N.drop k)
  rwa [List.take_append_drop] at this
theorem insAt_len (k : Nat) (x : Nm) (N : List Nm) : (insAt k x N).length = N.length + 1 := (insAt_perm k x N).length_eq
end Rg
theorem nms_one (l : List (List UInt8)) : ∀ v ∈ strs l, v.oneCell' = true := by
  intro v hv; unfold strs at hv; rw [List.mem_map] at hv; obtain ⟨_, _, rfl⟩ := hv; rfl
section
variable {w : World} {g m : Nat} {e : TypeId}
theorem sets_in (h : Shp w g e m) {i : Nat} {vs : List Value} (hi : i + vs.length ≤ m) {j : Nat} (hj : j < vs.length) : (w.setCells g i vs).cell? ⟨g, i + j, none⟩ = some vs[j] :=
  World.cell?_setCells_in g vs i w (fun t ht => h.some (by omega)) j hj
theorem sets_out {i : Nat} {vs : List Value} {j : Nat} (hj : j < i ∨ i + vs.length ≤ j) : (w.setCells g i vs).cell? ⟨g, j, none⟩ = w.cell? ⟨g, j, none⟩ :=
  World.cell?_setCells_out g vs i w ⟨g, j, none⟩ (fun _ _ => hj)
theorem sets_kp (g : Nat) : ∀ (vs : List Value) (i : Nat) {a w : World}, Kp (fun b => b = g) a w → Kp (fun b => b = g) a (w.setCells g i vs)
  | [], _, _, _, h => h
  | v :: r, i, _, _, h => by rw [World.setCells]; exact sets_kp g r (i + 1) (h.set_ (fun _ => rfl) i v)
theorem shape_of (h : Shp w g e m) : w.shape? g = some (e, m) := by
  obtain ⟨cur, h, rfl⟩ := h
  simp [World.shape?, h]
end
/-- The row of v' is that of v, or a new one. -/
def Newer (w : World) (v v' : Value) : Prop := ∀ k, v'.ownBlock = some k → v.ownBlock = some k ∨ w.heap.size ≤ k
theorem newer_of {w : World} {v v' : Value} (h : v'.ownBlock = v.ownBlock ∨ v'.ownBlock = some w.heap.size) : Newer w v v' := by
  intro k hk
  rcases h with h | h
  · exact Or.inl (h ▸ hk)
  · exact Or.inr (Nat.le_of_eq (Option.some.inj (h.symm.trans hk)))
/-- slices.Insert of one name. -/
theorem insert_any (w : World) (B vb k : Nat) (v : Value) (N : List Nm) (x : Nm) (hk : k ≤ N.length) (hN : N.length ≤ 1000) (hO : Own w B 9 1 v N.length (strs N)) (hV : Blk w vb 9 #[.string (str x)]) (hvb : v.ownBlock ≠ some vb) (hB : B ≤ w.heap.size) :
    Calls Tryz.prog 22 #[v, .int .i64 (k : Int), .slice (some ⟨vb, 0, none⟩) 1 1] w fun e w' => ∃ v', e = .returned v' ∧ Own w' B 9 1 v' (N.length + 1) (strs (insAt k x N)) ∧ Kp (fun b => v.ownBlock = some b) w w' ∧ Newer w v v' := by
  have hvs : ∀ j u, ([Value.string (str x)] : List Value)[j]? = some u → w.cell? ⟨vb, 0 + j, none⟩ = some u := fun j u hu => by
    rw [Nat.zero_add, hV.cell j]; simpa using hu
  have h1v : ∀ u ∈ [Value.string (str x)], u.oneCell' = true := by intro u hu; rw [List.mem_singleton] at hu; subst hu; rfl
  have hlen : (strs N).length = N.length := strs_length N
  have hres : strs (insAt k x N) = (strs N).take k ++ Value.string (str x) :: (strs N).drop k := by unfold insAt strs; simp
  have hrl : (strs (insAt k x N)).length = (N.length + 1) * 1 := by rw [strs_length, insAt_len]; omega
  rcases own_nil' hO with ⟨rfl, h0, _⟩ | ⟨g, cap, rfl⟩
  · have hn : N = [] := List.eq_nil_of_length_eq_zero h0
    subst hn
    have hk0 : k = 0 := by simpa using hk
    subst hk0
    have h := Any2.slices_Insert_string_end_grow Tryz.l2s22 none 0 0 vb 0 1 1 [] [.string (str x)] w (by omega) (by omega) (by omega) (by omega) rfl rfl (fun _ => rfl) (fun a ha => by cases ha) hvs h1v
    refine h.mono ?_
    rintro e w' ⟨rfl, hw⟩
    have hge := grownCap_ge w (0 + 1) 0 9
    have hle := grownCap_le_maxLen w (0 + 1) 0 9 (by unfold maxLen; omega)
    obtain ⟨A, hA⟩ : ∃ A, A = (([] : List Value) ++ [Value.string (str x)]).toArray ++ Builtin.zeroCells (Value.string ⟨#[]⟩).cells (grownCap w (0 + 1) 0 9 - (0 + 1)) := ⟨_, rfl⟩
    have hw' : w' = w.drew.alloc (.cells A 9) := by rw [hA]; exact hw
    subst hw'
    clear hw
    have hAs : A.size = grownCap w (0 + 1) 0 9 * 1 := by
      rw [hA, Array.size_append, size_zeroCells]
      show 1 + (grownCap w (0 + 1) 0 9 - (0 + 1)) * 1 = _
      omega
    have hA0 : A[0]? = some (Value.string (str x)) := by rw [hA, Array.getElem?_append_left (by simp)]; rfl
    refine ⟨.slice (some ⟨w.heap.size, 0, none⟩) (0 + 1) (grownCap w (0 + 1) 0 9), rfl, own_mk ⟨A, heap_alloc_new w.drew _, hAs⟩ hB hge hle hrl ?_, ?_, fun k hk => Or.inr (by cases hk; exact Nat.le_refl _)⟩
    · intro j u hu
      have hj0 : j = 0 := by
        have := (List.getElem?_eq_some_iff.1 hu).1
        rw [hrl] at this; simp at this; omega
      subst hj0
      rw [hres] at hu
      have := (blk_new w.drew 9 A).cell 0
      rw [hA0] at this
      exact this.trans (by simpa using hu)
    · exact ((Kp.refl _ w).drew).alloc _
  · obtain ⟨hS, hBg, hnc, hcm⟩ := own_shp hO
    have hcm' : cap ≤ 140737488355328 ∨ True := Or.inr trivial
    have hgv : g ≠ vb := fun e => hvb (by rw [← e]; rfl)
    have hcs : ∀ j u, (strs N)[j]? = some u → w.cell? ⟨g, 0 + j, none⟩ = some u := fun j u hu => by rw [Nat.zero_add]; exact own_at hO hu
    have hmx : maxLen ≤ 9223372036854775807 := by decide
    by_cases hroom : N.length + 1 ≤ cap
    · by_cases hkn : k < N.length
      · have h := Any2.slices_Insert_string_shift Tryz.l2s22 g 0 N.length cap k vb 0 1 1 (strs N) [.string (str x)] w hkn (by omega) hroom (by omega) (fun e => hgv e.symm) hlen rfl hcs
          (fun j hj => by rw [Nat.zero_add]; exact hS.some (by omega)) (fun j hj => hS.frozen _) hvs (nms_one N) h1v 9 9 1 (cap * 1) (by unfold Blk at hV; simp [World.shape?, hV]) (shape_of hS) (by omega) (hV.frozen 0) (hV.frozen 1)
        refine h.mono ?_
        rintro e w' ⟨rfl, rfl⟩
        refine ⟨_, rfl, own_mk (((hS.drewN 1).sets g _ _).sets g _ _) hBg hroom hcm hrl ?_, ?_, fun k hk => Or.inl hk⟩
        · have hS1 : Shp w.drew g 9 (cap * 1) := hS
          have hS2 := hS1.sets g ((strs N).drop k) (0 + (k + 1))
          intro j u hu
          rw [hres] at hu
          rcases Nat.lt_trichotomy j k with hj | hj | hj
          · rw [sets_out (Or.inl (by omega)), sets_out (Or.inl (by omega))]
            rw [List.getElem?_append_left (by rw [List.length_take]; omega), List.getElem?_take_of_lt hj] at hu
            have := hcs j u hu
            rw [Nat.zero_add] at this; exact this
          · subst hj
            have := sets_in hS2 (i := 0 + j) (vs := [Value.string (str x)]) (by simp; omega) (j := 0) (by simp)
            rw [show 0 + j + 0 = j by omega] at this
            rw [this]
            rw [List.getElem?_append_right (by rw [List.length_take]; omega), List.length_take, Nat.min_eq_left (by omega)] at hu
            simpa using hu
          · rw [sets_out (Or.inr (by simp; omega))]
            rw [List.getElem?_append_right (by rw [List.length_take]; omega), List.length_take, Nat.min_eq_left (by omega), List.getElem?_cons, if_neg (by omega)] at hu
            obtain ⟨hlt, hget⟩ := List.getElem?_eq_some_iff.1 hu
            have := sets_in hS1 (i := 0 + (k + 1)) (vs := (strs N).drop k) (by rw [List.length_drop]; omega) hlt
            rw [show 0 + (k + 1) + (j - k - 1) = j by omega] at this
            rw [this, hget]
        · refine (sets_kp g _ _ (sets_kp g _ _ ((Kp.refl _ w).drew))).mono ?_
          intro b _ hb; subst hb; rfl
      · have hke : k = N.length := by omega
        subst hke
        have h := Any2.slices_Insert_string_end_room Tryz.l2s22 g 0 N.length cap vb 0 1 1 [.string (str x)] w (by omega) hroom (by omega) rfl
          (fun j hj => by have : j = 0 := by omega
                          subst this; exact hS.some (by omega)) (fun j hj => hS.frozen _) hvs h1v
        refine h.mono ?_
        rintro e w' ⟨rfl, rfl⟩
        refine ⟨_, rfl, own_mk (hS.sets g _ _) hBg hroom hcm hrl ?_, ?_, fun k hk => Or.inl hk⟩
        · intro j u hu
          rw [hres] at hu
          by_cases hj : j < N.length
          · rw [sets_out (Or.inl (by omega))]
            rw [List.getElem?_append_left (by rw [List.length_take]; omega), List.getElem?_take_of_lt hj] at hu
            have := hcs j u hu
            rw [Nat.zero_add] at this; exact this
          · have hj0 : j = N.length := by
              have := (List.getElem?_eq_some_iff.1 hu).1
              rw [← hres, hrl] at this; omega
            subst hj0
            have := sets_in hS (i := 0 + N.length) (vs := [Value.string (str x)]) (by simp; omega) (j := 0) (by simp)
            rw [show 0 + N.length + 0 = N.length by omega] at this
            rw [this]
            rw [List.getElem?_append_right (by rw [List.length_take]; omega), List.length_take, Nat.min_eq_left (by omega)] at hu
            simpa using hu
        · refine (sets_kp g _ _ (Kp.refl _ w)).mono ?_
          intro b _ hb; subst hb; rfl
    · have hge := grownCap_ge w (N.length + 1) cap 9
      have hle := grownCap_le_maxLen w (N.length + 1) cap 9 (by unfold maxLen; omega)
      by_cases hkn : k < N.length
      · have h := Any2.slices_Insert_string_grow Tryz.l2s22 g 0 N.length cap k vb 0 1 1 (strs N) [.string (str x)] w hkn (by omega) hnc (by omega) (by omega) hlen rfl hcs hvs (nms_one N) h1v
        refine h.mono ?_
        rintro e w' ⟨rfl, hw⟩
        obtain ⟨A, hA⟩ : ∃ A, A = ((strs N).take k).toArray ++ Builtin.zeroCells (Value.string ⟨#[]⟩).cells (N.length + 1 - k) ++ Builtin.zeroCells (Value.string ⟨#[]⟩).cells (grownCap w (N.length + 1) cap 9 - (N.length + 1)) := ⟨_, rfl⟩
        have hAs : A.size = grownCap w (N.length + 1) cap 9 * 1 := by
          rw [hA]; simp only [Array.size_append, size_zeroCells]; simp [Value.cells, hlen]; omega
        have hA1 : ∀ j, j < k → A[j]? = (strs N)[j]? := fun j hj => by
          rw [hA, Array.getElem?_append_left (by simp only [Array.size_append, size_zeroCells]; simp [hlen]; omega), Array.getElem?_append_left (by simp [hlen]; omega)]
          simp [List.getElem?_take_of_lt hj]
        have hS1 : Shp (w.alloc (.cells A 9)).drew w.heap.size 9 (grownCap w (N.length + 1) cap 9 * 1) := ⟨A, heap_alloc_new w _, hAs⟩
        have hb1 : Blk (w.alloc (.cells A 9)).drew w.heap.size 9 A := blk_new w _ A
        have hw' : w' = ((w.alloc (.cells A 9)).drew.setCells w.heap.size k [Value.string (str x)]).drew.setCells w.heap.size (k + 1) ((strs N).drop k) := by rw [hA]; exact hw
        subst hw'
        clear hw
        have hS2 : Shp ((w.alloc (.cells A 9)).drew.setCells w.heap.size k [Value.string (str x)]).drew w.heap.size 9 (grownCap w (N.length + 1) cap 9 * 1) := hS1.sets _ _ _
        refine ⟨.slice (some ⟨w.heap.size, 0, none⟩) (N.length + 1) (grownCap w (N.length + 1) cap 9), rfl, own_mk (hS2.sets _ _ _) hB hge hle hrl ?_, ?_, fun k hk => Or.inr (by cases hk; exact Nat.le_refl _)⟩
        · intro j u hu
          rw [hres] at hu
          rcases Nat.lt_trichotomy j k with hj | hj | hj
          · rw [sets_out (Or.inl (by omega))]
            show ((w.alloc (.cells A 9)).drew.setCells w.heap.size k [Value.string (str x)]).cell? _ = _
            rw [sets_out (Or.inl (by omega)), hb1.cell j, hA1 j hj]
            rw [List.getElem?_append_left (by rw [List.length_take]; omega), List.getElem?_take_of_lt hj] at hu
            exact hu
          · subst hj
            rw [sets_out (Or.inl (by omega))]
            show ((w.alloc (.cells A 9)).drew.setCells w.heap.size j [Value.string (str x)]).cell? _ = _
            have := sets_in hS1 (i := j) (vs := [Value.string (str x)]) (by simp; omega) (j := 0) (by simp)
            rw [Nat.add_zero] at this
            rw [this]
            rw [List.getElem?_append_right (by rw [List.length_take]; omega), List.length_take, Nat.min_eq_left (by omega)] at hu
            simpa using hu
          · rw [List.getElem?_append_right (by rw [List.length_take]; omega), List.length_take, Nat.min_eq_left (by omega), List.getElem?_cons, if_neg (by omega)] at hu
            obtain ⟨hlt, hget⟩ := List.getElem?_eq_some_iff.1 hu
            have := sets_in hS2 (i := k + 1) (vs := (strs N).drop k) (by rw [List.length_drop]; omega) hlt
            rw [show k + 1 + (j - k - 1) = j by omega] at this
            rw [this, hget]
        · have hk1 : Kp (fun b => (Value.slice (some ⟨g, 0, none⟩) N.length cap).ownBlock = some b) w (w.alloc (.cells A 9)).drew := ((Kp.refl _ w).alloc _).drew
          have hk2 := sets_kp w.heap.size [Value.string (str x)] k (Kp.refl _ (w.alloc (.cells A 9)).drew)
          have hk3 := sets_kp w.heap.size ((strs N).drop k) (k + 1) hk2.drew
          exact hk1.next (fun b hb e => by omega) hk3
      · have hke : k = N.length := by omega
        subst hke
        have h := Any2.slices_Insert_string_end_grow Tryz.l2s22 (some ⟨g, 0, none⟩) N.length cap vb 0 1 1 (strs N) [.string (str x)] w (by omega) hnc (by omega) (by omega) hlen rfl (fun h => by cases h)
          (fun a ha j u hu => by
            cases ha
            have e : (⟨g, 0, none⟩ : Addr).add j = ⟨g, 0 + j, none⟩ := by unfold Addr.add; split <;> simp_all
            rw [e]; exact hcs j u hu) hvs h1v
        refine h.mono ?_
        rintro e w' ⟨rfl, hw⟩
        obtain ⟨A, hA⟩ : ∃ A, A = (strs N ++ [Value.string (str x)]).toArray ++ Builtin.zeroCells (Value.string ⟨#[]⟩).cells (grownCap w (N.length + 1) cap 9 - (N.length + 1)) := ⟨_, rfl⟩
        have hw' : w' = w.drew.alloc (.cells A 9) := by rw [hA]; exact hw
        subst hw'
        clear hw
        have hAs : A.size = grownCap w (N.length + 1) cap 9 * 1 := by
          rw [hA]; simp only [Array.size_append, size_zeroCells]; simp [Value.cells, hlen]; omega
        refine ⟨.slice (some ⟨w.heap.size, 0, none⟩) (N.length + 1) (grownCap w (N.length + 1) cap 9), rfl, own_mk ⟨A, heap_alloc_new w.drew _, hAs⟩ hB hge hle hrl ?_, ?_, fun k hk => Or.inr (by cases hk; exact Nat.le_refl _)⟩
        · intro j u hu
          rw [hres] at hu
          have hjl : j < (strs N ++ [Value.string (str x)]).length := by
            have := (List.getElem?_eq_some_iff.1 hu).1
            rw [← hres, hrl] at this; simp [hlen]; omega
          refine ((blk_new w.drew 9 A).cell j).trans ?_
          rw [hA, Array.getElem?_append_left (by simpa using hjl)]
          rw [List.take_of_length_le (by omega), List.drop_of_length_le (by omega)] at hu
          simpa using hu
        · exact ((Kp.refl _ w).drew).alloc _
/-- slices.BinarySearch of a name. -/
theorem bsearch_any (w : World) (v : Value) (N : List Nm) (x : Nm) (hA : Asc N) (hN : N.length ≤ 100000) (hR : Rd w 1 v N.length (strs N)) :
    Calls Tryz.prog 21 #[v, .string (str x)] w fun e w' => e = .returned (.tuple #[.int .i64 (pos N x : Nat), .bool (decide (x ∈ N))]) ∧ ∃ n, w' = w.drewN n := by
  obtain ⟨A, cap, rfl, hcap, -, r⟩ := hR
  rcases Nat.eq_zero_or_pos N.length with h0 | hp
  · have hn : N = [] := List.eq_nil_of_length_eq_zero h0
    subst hn
    refine (Any2.slices_BinarySearch_string_empty Tryz.l2s26 A cap (str x) w).mono ?_
    rintro e w' ⟨rfl, rfl⟩
    exact ⟨by simp [pos], 0, rfl⟩
  · obtain ⟨b, off, rfl, _, hx⟩ := r hp
    have hless : ∀ t, (ht : t < N.length) → Op.bytesLess (str (N.getD t x)).toList (str x).toList = decide (N[t] < x) := fun t ht => by
      rw [bytesLess_eq, str_toList, str_toList, List.getD_eq_getElem?_getD, List.getElem?_eq_getElem ht]; rfl
    have hk : Lib.bsGo (fun t => Op.bytesLess (str (N.getD t x)).toList (str x).toList) N.length 0 N.length = pos N x := by
      refine Lib.bsGo_spec _ (pos N x) (fun t ht => ?_) (fun t ht => ?_) N.length 0 N.length (by omega) (Nat.zero_le _) (pos_le N x)
      · have htl : t < N.length := Nat.lt_of_lt_of_le ht (pos_le N x)
        rw [hless t htl, decide_eq_true_eq]; exact (pos_iff hA htl).1 ht
      · by_cases htl : t < N.length
        · rw [hless t htl, decide_eq_false_iff_not, ← pos_iff hA htl]; omega
        · rw [bytesLess_eq, str_toList, str_toList, List.getD_eq_getElem?_getD, List.getElem?_eq_none (by omega), decide_eq_false_iff_not]; exact List.lt_irrefl _
    refine (Any2.slices_BinarySearch_string Tryz.l2s26 b off N.length cap (fun t => str (N.getD t x)) (str x) w (by omega) (fun j hj => by
      rw [hx j _ (strs_at hj), List.getD_eq_getElem?_getD, List.getElem?_eq_getElem hj]; rfl)).mono ?_
    rintro e w' ⟨rfl, q, rfl⟩
    rw [hk]
    refine ⟨?_, q, rfl⟩
    congr 4
    refine congrArg (fun b => [Value.bool b]) ?_
    rw [decide_eq_decide, pos_mem hA]
    constructor
    · rintro ⟨hlt, e⟩
      rw [List.getD_eq_getElem?_getD, List.getElem?_eq_getElem hlt] at e
      exact ⟨hlt, str_inj e⟩
    · rintro ⟨hlt, e⟩
      refine ⟨hlt, ?_⟩
      rw [List.getD_eq_getElem?_getD, List.getElem?_eq_getElem hlt]; exact congrArg str e
theorem map_str (l : List Nm) : (l.map str).map Value.string = strs l := by unfold strs; rw [List.map_map]; rfl
/-- slices.Contains of a name. -/
theorem contains_nm (w : World) (v : Value) (l : List Nm) (x : Nm) (hl : l.length ≤ 100000) (hR : Rd w 1 v l.length (strs l)) :
    Calls Tryz.prog 28 #[v, .string (str x)] w fun e w' => e = .returned (.bool (decide (x ∈ l))) ∧ w' = w := by
  obtain ⟨A, cap, rfl, hcap, -, r⟩ := hR
  rcases Nat.eq_zero_or_pos l.length with h0 | hp
  · have hn : l = [] := List.eq_nil_of_length_eq_zero h0
    subst hn
    refine (Any.slices_Contains_string_empty Tryz.l1s110 A cap (str x) w).mono ?_
    rintro e w' ⟨rfl, rfl⟩
    exact ⟨by simp, rfl⟩
  · obtain ⟨b, off, rfl, _, hx⟩ := r hp
    refine (Any.slices_Contains_string Tryz.l1s110 b off l.length cap (l.map str) (str x) w (by simp) (by omega) (fun j hj => by
      rw [List.length_map] at hj
      rw [hx j _ (strs_at hj), List.getD_eq_getElem?_getD, List.getElem?_map, List.getElem?_eq_getElem hj]; rfl)).mono ?_
    rintro e w' ⟨rfl, rfl⟩
    refine ⟨?_, rfl⟩
    congr 2
    rw [List.take_of_length_le (by simp), Bool.eq_iff_iff, Lib.containsS_iff, decide_eq_true_eq]
    constructor
    · intro h
      obtain ⟨y, hy, e⟩ := List.mem_map.1 h
      rw [← str_inj e]; exact hy
    · exact fun h => List.mem_map.2 ⟨x, h, rfl⟩
/-- slices.Clone of names. -/
theorem clone_nm (w : World) (B : Nat) (v : Value) (l : List Nm) (hl : l.length ≤ 100000) (hO : Own w B 9 1 v l.length (strs l)) :
    Calls Tryz.prog 32 #[v] w fun e w' => ∃ o, e = .returned o ∧ Own w' w.heap.size 9 1 o l.length (strs l) ∧ Below w.heap.size w w' := by
  rcases own_nil' hO with ⟨rfl, h0, h1⟩ | ⟨g, cap, rfl⟩
  · refine (Any.slices_Clone_string_nil Tryz.l2s16 0 0 w).mono ?_
    rintro e w' ⟨rfl, rfl⟩
    rw [h0, h1]
    exact ⟨_, rfl, own_nil _ _ _ _, Below.refl _ _⟩
  · refine (Any.slices_Clone_string Tryz.l2s16 g 0 l.length cap (l.map str) w (by simp) (by omega) (fun j hj => by
      rw [List.length_map] at hj
      rw [Nat.zero_add, own_at hO (strs_at hj), List.getD_eq_getElem?_getD, List.getElem?_map, List.getElem?_eq_getElem hj]; rfl)).mono ?_
    rintro e w' ⟨o, rfl, ho, _, hb⟩
    rw [List.take_of_length_le (by simp), map_str] at ho
    exact ⟨o, rfl, ho, hb⟩
/-- slices.Delete of one name. -/
theorem delete_nm (w : World) (B g cap k : Nat) (l : List Nm) (hk : k < l.length) (hO : Own w B 9 1 (.slice (some ⟨g, 0, none⟩) l.length cap) l.length (strs l)) :
    Calls Tryz.prog 37 #[.slice (some ⟨g, 0, none⟩) l.length cap, .int .i64 (k : Int), .int .i64 ((k : Int) + 1)] w fun e w' => e = .returned (.slice (some ⟨g, 0, none⟩) (l.length - 1) cap) ∧ Own w' B 9 1 (.slice (some ⟨g, 0, none⟩) (l.length - 1) cap) (l.length - 1) (strs (l.eraseIdx k)) ∧ Kp (fun b => b = g) w w' := by
  obtain ⟨hS, hBg, hnc, hcm⟩ := own_shp hO
  have hH : Go.Sort.Holds encStr w g 0 l.toArray := fun j hj => by
    have hj' : j < l.length := by simpa using hj
    refine ⟨?_, hS.frozen _⟩
    rw [Nat.zero_add, own_at hO (strs_at hj')]
    simp [encStr, hj', str]
  have h := Any.slices_Delete_string Tryz.l2s24 g 0 cap k (k + 1) l w hH hnc (by unfold maxLen at hcm; omega) (by omega) (by omega)
  rw [show ((k + 1 : Nat) : Int) = (k : Int) + 1 by omega, show k + 1 - k = 1 by omega] at h
  refine h.mono ?_
  rintro e w' ⟨rfl, q, rfl⟩
  have hsz : (l.take k ++ l.drop (k + 1) ++ List.replicate 1 []).toArray.size = l.toArray.size := by simp; omega
  have hle : (l.eraseIdx k).length = l.length - 1 := List.length_eraseIdx_of_lt hk
  refine ⟨rfl, own_mk ((hS.ahead q).put encStr g 0 _) hBg (by omega) hcm (by rw [strs_length, hle]; omega) ?_, ?_⟩
  · intro j u hu
    have hj : j < l.length - 1 := by
      have := (List.getElem?_eq_some_iff.1 hu).1
      rwa [strs_length, hle] at this
    have := (holds_putRow encStr (Sort.ahead w q) g 0 l.toArray _ (holds_ahead encStr w q g 0 _ hH) hsz j (by rw [hsz]; simp; omega)).1
    rw [Nat.zero_add] at this
    rw [this]
    have e1 : (l.take k ++ l.drop (k + 1) ++ List.replicate 1 ([] : List UInt8)).toArray[j]! = (l.eraseIdx k)[j]'(by omega) := by
      rw [getElem!_pos _ j (by rw [hsz]; simp; omega)]
      simp only [List.eraseIdx_eq_take_drop_succ, List.getElem_toArray]
      rw [List.getElem_append_left]
    rw [e1]
    rw [strs_at (by omega)] at hu
    rw [← Option.some.inj hu]
    rfl
  · exact ⟨rfl, rfl, rfl, by simp [putRow, mapBlock, Sort.ahead], fun b hb hne => by
      unfold putRow mapBlock Sort.ahead; simp only; rw [Array.getElem?_modify, if_neg (fun e => hne e.symm)]⟩
end Go.Proofs.YtpfpjcfacbfjaaaGreatDoor
