/-
  Several texts in one: WPlain, WBeside, WAwake.
-/
import Derived.Test.YtpfpjcfacbfjaaaGreatDoorTEdgeP
import Derived.Test.YtpfpjcfacbfjaaaGreatDoorGRt
import Derived.Test.YtpfpjcfacbfjaaaGreatDoorRgMade
import Derived.Test.YtpfpjcfacbfjaaaGreatDoorGHm
import Derived.Test.YtpfpjcfacbfjaaaGreatDoorTEdge
import Derived.IntWalk
/-
  WholePaths, plain: the nodes that the weights give; the order of those that are up.
-/
namespace Go.Proofs.YtpfpjcfacbfjaaaGreatDoor
open Go.RowKit Rg Syn Ti
namespace Wp
/-- The names of the shields. -/
def NM : List Nm := [[115, 49], [115, 50], [115, 51], [115, 52], [115, 53]]
/-- The name of the edge. -/
def e1 : Nm := [101, 49]
/-- The first k shields that have a weight. -/
def nds (ws : List Nat) : Nat → List Nd
  | 0 => []
  | k + 1 => nds ws k ++ if ws.getD k 0 % 4 = 0 then [] else [(NM.getD k [], ws.getD k 0 % 4)]
def nam (ws : List Nat) (k : Nat) : List Nm := (nds ws k).map (·.1)
theorem nds_yes {ws : List Nat} {k : Nat} (h : ws.getD k 0 % 4 ≠ 0) : nds ws (k + 1) = nds ws k ++ [(NM.getD k [], ws.getD k 0 % 4)] := by
  show nds ws k ++ _ = _
  rw [if_neg h]
theorem nds_no {ws : List Nat} {k : Nat} (h : ws.getD k 0 % 4 = 0) : nds ws (k + 1) = nds ws k := by
  show nds ws k ++ _ = _
  rw [if_pos h, List.append_nil]
theorem nam_yes {ws : List Nat} {k : Nat} (h : ws.getD k 0 % 4 ≠ 0) : nam ws (k + 1) = nam ws k ++ [NM.getD k []] := by
  unfold nam; rw [nds_yes h, List.map_append]; rfl
theorem nam_no {ws : List Nat} {k : Nat} (h : ws.getD k 0 % 4 = 0) : nam ws (k + 1) = nam ws k := by
  unfold nam; rw [nds_no h]
theorem NM_nodup : NM.Nodup := by decide
theorem NM_len {x : Nm} (h : x ∈ NM) : x.length = 2 := by
  revert x; decide
theorem nam_sub (ws : List Nat) : ∀ k, k ≤ 5 → (nam ws k).Sublist (NM.take k)
  | 0, _ => List.Sublist.refl _
  | k + 1, h => by
    have ih := nam_sub ws k (by omega)
    have e : NM.take (k + 1) = NM.take k ++ [NM.getD k []] := by
      have hk : k < NM.length := by show k < 5; omega
      rw [List.take_succ_eq_append_getElem hk, List.getD_eq_getElem?_getD, List.getElem?_eq_getElem hk]; rfl
    rw [e]
    by_cases h0 : ws.getD k 0 % 4 = 0
    · rw [nam_no h0]; exact ih.trans (List.sublist_append_left _ _)
    · rw [nam_yes h0]; exact ih.append_right _
theorem nam_mem {ws : List Nat} {k : Nat} (hk : k ≤ 5) {x : Nm} (h : x ∈ nam ws k) : x ∈ NM := List.mem_of_mem_take ((nam_sub ws k hk).subset h)
theorem nds_good (ws : List Nat) {k : Nat} (hk : k ≤ 5) : Rg.Good (nds ws k) := by
  refine ⟨List.Nodup.sublist ((nam_sub ws k hk).trans (List.take_sublist _ _)) NM_nodup, ?_⟩
  clear hk
  induction k with
  | zero => intro x hx; cases hx
  | succ k ih =>
    intro x hx
    by_cases h0 : ws.getD k 0 % 4 = 0
    · rw [nds_no h0] at hx; exact ih x hx
    · rw [nds_yes h0] at hx
      rcases List.mem_append.1 hx with hx | hx
      · exact ih x hx
      · rw [List.mem_singleton] at hx; subst hx
        constructor <;> simp only <;> omega
theorem nds_len (ws : List Nat) {k : Nat} (hk : k ≤ 5) : (nds ws k).length ≤ k := by
  have h := (nam_sub ws k hk).length_le
  rw [List.length_take] at h
  unfold nam at h; rw [List.length_map] at h; omega
theorem nds_new {ws : List Nat} {k : Nat} (hk : k < 5) (h : ws.getD k 0 % 4 ≠ 0) : NM.getD k [] ∉ nam ws k := fun hm => by
  have h2 := (nds_good ws (k := k + 1) (by omega)).nd
  have e : (nds ws (k + 1)).map (·.1) = nam ws k ++ [NM.getD k []] := nam_yes h
  rw [e, List.nodup_append] at h2
  exact h2.2.2 _ hm _ (List.mem_singleton.2 rfl) rfl

section
variable {O U : List Nm}
/-- Those of a list that are on another, in its order. -/
def ordU (U l : List Nm) : List Nm := l.filter fun x => decide (x ∈ U)
theorem ordU_take {k : Nat} (h : k < O.length) : ordU U (O.take (k + 1)) = ordU U (O.take k) ++ if O[k] ∈ U then [O[k]] else [] := by
  unfold ordU
  rw [List.take_succ_eq_append_getElem h, List.filter_append]
  congr 1
  by_cases hm : O[k] ∈ U
  · rw [if_pos hm, List.filter_cons_of_pos (by simpa using hm)]; rfl
  · rw [if_neg hm, List.filter_cons_of_neg (by simpa using hm)]; rfl
theorem mem_take_succ {x : Nm} {j : Nat} (h : j < U.length) : x ∈ U.take (j + 1) ↔ x ∈ U.take j ∨ x = U[j] := by
  rw [List.take_succ_eq_append_getElem h, List.mem_append, List.mem_singleton]
theorem ordU_len (U l : List Nm) : (ordU U l).length ≤ l.length := List.length_filter_le _ _
theorem cands_ordU (hO : e1 ∉ O) : cands O U [] e1 = ordU U O := by
  unfold cands ordU
  refine List.filter_congr fun x hx => ?_
  have : x ≠ e1 := fun e => hO (e ▸ hx)
  simp [this]
theorem ordU_up (hO : O.Nodup) (hU : U.Nodup) (h : ∀ x ∈ U, x ∈ O) : (ordU U O).length = U.length := by
  refine (perm_of (List.Nodup.sublist List.filter_sublist hO) hU fun x => ?_).length_eq
  rw [List.mem_filter, decide_eq_true_eq]
  exact ⟨fun hx => hx.2, fun hx => ⟨h x hx, hx⟩⟩
theorem ordU_nodup (hO : O.Nodup) : (ordU U O).Nodup := List.Nodup.sublist List.filter_sublist hO
/-- Without one. -/
def wo (g : Nm) (l : List Nm) : List Nm := l.filter fun x => decide (x ≠ g)
theorem wo_take {g : Nm} {k : Nat} (h : k < O.length) : wo g (O.take (k + 1)) = wo g (O.take k) ++ if O[k] = g then [] else [O[k]] := take_filter h
theorem wo_len (g : Nm) (l : List Nm) : (wo g l).length ≤ l.length := List.length_filter_le _ _
theorem ordU_wo (g : Nm) : ordU (wo g U) O = wo g (ordU U O) := by
  unfold ordU wo
  rw [List.filter_filter]
  refine List.filter_congr fun x _ => ?_
  by_cases h1 : x ∈ U <;> by_cases h2 : x = g <;> simp [h1, h2]
/-- A ring without the node gives the same order of the others. -/
theorem ordU_left (g : Nm) : ordU (wo g (ordU U O)) (wo g O) = wo g (ordU U O) := by
  unfold ordU wo
  rw [List.filter_filter, List.filter_filter]
  refine List.filter_congr fun x hx => ?_
  by_cases h1 : x ∈ U <;> by_cases h2 : x = g <;> simp [h1, h2, hx]
theorem filter_wo (p : Nm → Bool) (g : Nm) : NM.filter (fun x => p x && decide (x ≠ g)) = wo g (NM.filter p) := by
  unfold wo
  rw [List.filter_filter]
  refine List.filter_congr fun x _ => ?_
  rw [Bool.and_comm]
end
/-- The owners of a key. -/
def own5 (ws : List Nat) (key : Nm) : List Nm := own (ptsOf (nds ws 5)) (Sk.hash 255 key)
theorem own5_nodup (ws : List Nat) (key : Nm) : (own5 ws key).Nodup := own_nodup _ _
theorem own5_mem {ws : List Nat} {key x : Nm} : x ∈ own5 ws key ↔ x ∈ nam ws 5 := (nds_good ws (Nat.le_refl _)).own_mem
theorem own5_len (ws : List Nat) (key : Nm) : (own5 ws key).length = (nds ws 5).length := (nds_good ws (Nat.le_refl _)).own_len _
theorem own5_e1 (ws : List Nat) (key : Nm) : e1 ∉ own5 ws key := fun h => by
  have := nam_mem (Nat.le_refl _) (own5_mem.1 h)
  revert this; decide
theorem own5_org (ws : List Nat) (key : Nm) : org ∉ own5 ws key := fun h => by
  have := NM_len (nam_mem (Nat.le_refl _) (own5_mem.1 h))
  exact absurd this (by decide)
theorem own5_less (ws : List Nat) (key g : Nm) : own (ptsOf ((nds ws 5).filter fun y => decide (y.1 ≠ g))) (Sk.hash 255 key) = wo g (own5 ws key) :=
  (own_less (fun y hy => ((nds_good ws (Nat.le_refl _)).wt y hy).1) g _).symm
end Wp
end Go.Proofs.YtpfpjcfacbfjaaaGreatDoor
/-
  The checks beside a ring.
-/
namespace Go.Proofs.YtpfpjcfacbfjaaaGreatDoor
open Go.Shelf Go.RowKit Go.Lib Go.Sort Rg
section
variable {w w' : World} {c m1 m2 n : Nat} {K : List Nm} {S : Nm → St2} {Dr : Nm → Bool}
/-- The ring turns: the checks stay. -/
theorem HC.ring {B l : Nat} {v1 v2 : Value} {N : List Nm} {Q : List Pt} (h : HC w c m1 m2 n K S Dr) (hr : Ring2 w B l v1 v2 N Q) (hk : Kp (fun b => b = l ∨ v1.ownBlock = some b ∨ v2.ownBlock = some b) w w') : HC w' c m1 m2 n K S Dr := by
  obtain ⟨_, _, g1⟩ := h.map1
  obtain ⟨_, _, g2⟩ := h.map2
  refine h.kp ?_ ?_ ?_ hk
  · rintro (rfl | e | e)
    · have := h.blk
      unfold Blk at this
      have h2 := hr.blk
      unfold Blk at h2
      rw [this] at h2
      cases h2
    · exact Own.ne hr.nodes h.blk (by decide) e
    · exact Own.ne hr.points h.blk (by decide) e
  · rintro (e | e | e)
    · exact Blk.notMap hr.blk g1 e.symm
    · exact Own.notMap hr.nodes g1 e
    · exact Own.notMap hr.points g1 e
  · rintro (e | e | e)
    · exact Blk.notMap hr.blk g2 e.symm
    · exact Own.notMap hr.nodes g2 e
    · exact Own.notMap hr.points g2 e
/-- A map turns: the ring stays. -/
theorem Ring2.map {B l m : Nat} {v1 v2 : Value} {N : List Nm} {Q : List Pt} {es : Array MapEntry} {cl : Nat} (hr : Ring2 w B l v1 v2 N Q) (hb : w.heap[m]? = some (.map es cl)) (hk : Kp (fun k => k = m) w w') : Ring2 w' B l v1 v2 N Q :=
  hr.kp hk (Blk.notMap hr.blk hb) (fun k hk' e => Own.notMap hr.nodes hb (by rw [hk', e])) (fun k hk' e => Own.notMap hr.points hb (by rw [hk', e]))
end
end Go.Proofs.YtpfpjcfacbfjaaaGreatDoor
/-
  WholePaths: shields, pathsAwake; Edge over the owners.
-/
namespace Go.Proofs.YtpfpjcfacbfjaaaGreatDoor
open Go.Shelf Go.RowKit Go.Lib Go.Sort Rg Syn Ti Wp
theorem wshields_any (w : World) : Calls Tryz.prog 7 #[] w fun e w' => e = .returned (.slice (some ⟨w.heap.size, 0, none⟩) 5 5) ∧ Own w' w.heap.size 9 1 (.slice (some ⟨w.heap.size, 0, none⟩) 5 5) NM.length (strs NM) ∧ Below w.heap.size w w' := by
  go_enter Tryz.func7, Tryz.ntmps7
  go_wp2_with fail
  go_ret
  refine ⟨rfl, ⟨rfl, .inr ⟨w.heap.size, 5, _, rfl, Nat.le_refl _, heap_alloc_new w _, by decide, by decide, rfl, rfl⟩⟩, (Below.refl _ _).alloc (Nat.le_refl _) _⟩
theorem ndup1 (a : Bytes) : ¬Dup [a] := by
  rintro ⟨i, hi, hm⟩
  rcases i with _ | i
  · simp at hm
  · simp at hi
theorem ndup2 {a b : Bytes} (h : a ≠ b) : ¬Dup [a, b] := by
  rintro ⟨i, hi, hm⟩
  rcases i with _ | _ | i
  · simp at hm
  · simp at hm; exact h hm.symm
  · exact absurd hi (by show ¬ (i + 2 < 2); omega)
theorem ndup3 {a b c : Bytes} (h : a ≠ b) (h2 : a ≠ c) (h3 : b ≠ c) : ¬Dup [a, b, c] := by
  rintro ⟨i, hi, hm⟩
  rcases i with _ | _ | _ | i
  · simp at hm
  · simp at hm; exact h hm.symm
  · simp at hm
    rcases hm with hm | hm
    · exact h2 hm.symm
    · exact h3 hm.symm
  · exact absurd hi (by show ¬ (i + 3 < 3); omega)
theorem dup3 (a b : Bytes) : Dup [a, b, b] := ⟨2, by simp, by simp⟩
theorem nbad {l : List Bytes} (h : ∀ x ∈ l, x ≠ []) (ho : ∀ i, (hi : i + 1 < l.length) → l[i] ≠ org) : ¬Bad l := by
  rintro ⟨i, hi, h1 | ⟨h1, h2⟩⟩
  · exact h _ (List.getElem_mem hi) h1
  · exact ho i h2 h1
theorem NM_facts : ∀ x ∈ NM, x ≠ [] ∧ x ≠ org ∧ e1 ≠ x := by decide
theorem atN_e1 : atN [] e1 = 0 := by
  have h : chkN ([] ++ [e1]) = 0 := chkN_ok (by decide) (ndup1 _) (nbad (by decide) (fun i hi => by simp at hi))
  unfold atN
  rw [if_pos h, if_neg (by decide)]
theorem chk_org {x : Nm} (hx : x ∈ NM) : chkN [e1, x, org] = 0 := by
  obtain ⟨h1, h2, h3⟩ := NM_facts x hx
  refine chkN_ok (by simp) (ndup3 h3 (by decide) h2) (nbad (fun y hy => ?_) (fun i hi => ?_))
  · simp only [List.mem_cons, List.not_mem_nil, or_false] at hy
    rcases hy with rfl | rfl | rfl
    · decide
    · exact h1
    · decide
  · rcases i with _ | _ | i
    · show e1 ≠ org; decide
    · exact h2
    · exact absurd hi (by show ¬ (i + 3 < 3); omega)
theorem sh_one {x : Nm} (hx : x ∈ NM) : shN [e1] x = 0 ∧ shT [e1] x = org := by
  obtain ⟨h1, h2, h3⟩ := NM_facts x hx
  have h : chkN ([e1] ++ [x]) = 0 := chkN_ok (by simp) (ndup2 h3) (nbad (fun y hy => by
    simp only [List.cons_append, List.nil_append, List.mem_cons, List.not_mem_nil, or_false] at hy
    rcases hy with rfl | rfl
    · decide
    · exact h1) (fun i hi => by
    rcases i with _ | i
    · show e1 ≠ org; decide
    · exact absurd hi (by show ¬ (i + 2 < 2); omega)))
  have ha : atN [e1] x = 0 := by unfold atN; rw [if_pos h, if_neg h2]
  have hs : shN [e1] x = 0 := by unfold shN; rw [if_pos ha]; exact chk_org hx
  exact ⟨hs, by unfold shT; rw [if_pos hs]⟩
theorem sh_two (x : Nm) : shN [e1, x] x = 17 := by
  have h : chkN ([e1, x] ++ [x]) = 17 := chkN_dup (dup3 _ _)
  have ha : atN [e1, x] x = 17 := by unfold atN; rw [if_neg (by rw [h]; decide)]; exact h
  unfold shN; rw [if_neg (by rw [ha]; decide)]; exact ha
/-- What Edge answers here. -/
def edW (U O : List Nm) (i : Int) : Value := .tuple #[.string (str (edS 0 (ordU U O) i)), errV (edE 0 (ordU U O) i)]
theorem edge_wp (w : World) (B loc : Nat) (v1 v2 vu : Value) (L : List Nd) (key : Nm) (U : List Nm) (tries : Int) (hr : Ring2 w B loc v1 v2 (ascOf L) (ptsOf L)) (hg : Rg.Good L) (hL : L.length ≤ 5) (hkey : key.length ≤ 1000000) (hU : Rd w 1 vu U.length (strs U)) (hul : U.length ≤ 1000) (hO : e1 ∉ own (ptsOf L) (Sk.hash 255 key)) :
    Calls Tryz.prog 13 #[.string ⟨#[101, 49]⟩, .pointer (some ⟨loc, 0, none⟩), vu, .string (str key), .slice none 0 0, .int .i64 tries] w fun e w' => e = .returned (edW U (own (ptsOf L) (Sk.hash 255 key)) tries) ∧ Below w.heap.size w w' := by
  have := edge_any w B loc v1 v2 vu (.slice none 0 0) L key e1 U [] tries hr hg (by omega) hkey hU (by omega) (Rd.own (own_nil w 0 9 1)) (by decide)
  rw [atN_e1, cands_ordU hO] at this
  exact this
theorem nds_one : nds [1] 5 = [([115, 49], 1)] := by decide
theorem own_one (key : Nm) : own5 [1] key = [[115, 49]] := by
  have hl := own5_len [1] key
  rw [nds_one] at hl
  obtain ⟨x, hx⟩ := List.length_eq_one_iff.1 hl
  have := own5_mem.1 (show x ∈ own5 [1] key by rw [hx]; simp)
  rw [hx, show x = [115, 49] by revert this; unfold nam; rw [nds_one]; simp]
theorem edW_one0 : edW [[115, 49]] [[115, 49]] 0 = .tuple #[.string ⟨#[115, 49]⟩, .nilIface] := rfl
theorem edW_one1 : edW [[115, 49]] [[115, 49]] 1 = .tuple #[.string ⟨#[111, 114, 105, 103, 105, 110]⟩, .nilIface] := rfl
theorem nm_list : ∀ x ∈ NM, Syn.list (via [e1, x]) = some [pre ++ e1, pre ++ x] := by decide +kernel
theorem nm_read : ∀ x ∈ NM, readV [pre ++ e1, pre ++ x] = [e1, x] := by decide +kernel
theorem nm_trim : ∀ x ∈ NM, Lib.trimPrefix (pre ++ x) pre = x ∧ x.all (fun b => decide (b.toNat < 128)) = true ∧ (via [e1, x]).length = 16 := by decide +kernel
theorem e1_trim : Lib.trimPrefix (pre ++ e1) pre = e1 := by decide +kernel
theorem wvia_any {x : Nm} (hx : x ∈ NM) (A : Option Addr) (cap : Nat) (w : World) (hR : Rd w 1 (.slice A 2 cap) 2 (strs [e1, x])) :
    Calls Tryz.prog 16 #[.slice A 2 cap] w fun e w' => e = .returned (.string (str (via [e1, x]))) ∧ Below w.heap.size w w' := by
  have hl := NM_len hx
  refine via_any [e1, x] A cap w hR (by simp) (fun y hy => ?_) (by rw [(nm_trim x hx).2.2]; decide)
  simp only [List.mem_cons, List.not_mem_nil, or_false] at hy
  rcases hy with rfl | rfl
  · decide
  · omega
theorem wreadvia_any {x : Nm} (hx : x ∈ NM) (w : World) :
    Calls Tryz.prog 15 #[.string (str (via [e1, x]))] w fun e w' => ∃ v, e = .returned (.tuple #[v, .nilIface]) ∧ Own w' w.heap.size 9 1 v 2 (strs [e1, x]) ∧ Below w.heap.size w w' := by
  have hl := NM_len hx
  have h := readvia_of (str (via [e1, x])) w (by rw [str_size, (nm_trim x hx).2.2]; decide) (fun L hL y hy _ _ w => by
    have hL2 : some L = some [pre ++ e1, pre ++ x] := hL.symm.trans (by rw [bs_str]; exact nm_list x hx)
    rw [Option.some.inj hL2] at hy
    simp only [List.mem_cons, List.not_mem_nil, or_false] at hy
    rcases hy with rfl | rfl
    · rw [e1_trim]; exact contains_ascii e1 (by decide) (by decide) w
    · rw [(nm_trim x hx).1]
      refine contains_ascii x (by omega) (fun b hb => ?_) w
      have := List.all_eq_true.1 (nm_trim x hx).2.1 b hb
      simpa using this)
  rw [bs_str, nm_list x hx, Option.map_some, nm_read x hx] at h
  exact h
set_option maxRecDepth 100000 in
set_option maxHeartbeats 4000000 in
theorem wawake_any (w : World) : Calls Tryz.prog 4 #[] w fun e w' => e = .returned (.bool true) ∧ Below w.heap.size w w' := by
  have hnw := new_any w w.heap.size (Nat.le_refl _)
  obtain ⟨l, hl⟩ : ∃ l, w.heap.size = l := ⟨_, rfl⟩
  rw [hl] at hnw ⊢
  have Hl := Lib.hid hl
  clear hl
  go_enter Tryz.func4, Tryz.ntmps4
  go_wp2_with fail
  refine hnw.mono ?_
  rintro e w1 ⟨rfl, hr1, hb1⟩
  have hz1 : l ≤ w1.heap.size := by rw [← Hl.out]; exact hb1.size
  have hadd : Calls Tryz.prog 8 #[.pointer (some ⟨l, 0, none⟩), .string ⟨#[115, 49]⟩, .int .i64 1] w1 _ := add_yes w1 l l 1 _ _ [] [] [115, 49] hr1 List.Pairwise.nil (by decide) (by decide) hz1 (by decide) (by decide) (Nat.le_refl _) (by decide) (by simp)
  have hfr := Lib.hid (fun w' hk => hb1.trans (hr1.frame hz1 (w' := w') hk))
  clear hnw hr1 hb1 hz1
  go_wp2_with fail
  refine hadd.mono ?_
  rintro e w2 ⟨rfl, hk2, v1, v2, hr2⟩
  have hr2' : Ring2 w2 l l v1 v2 (ascOf (nds [1] 5)) (ptsOf (nds [1] 5)) := by rw [nds_one]; exact hr2
  have HB2 := Lib.hid (hfr.out _ hk2)
  have hed := Lib.hid (fun W vu i (hb : Below w2.heap.size w2 W) (hu : Rd W 1 vu 1 (strs [[115, 49]])) => (show Calls Tryz.prog 13 #[.string ⟨#[101, 49]⟩, .pointer (some ⟨l, 0, none⟩), vu, .string ⟨#[107]⟩, .slice none 0 0, .int .i64 i] W fun e w' => e = .returned (edW [[115, 49]] [[115, 49]] i) ∧ Below W.heap.size W w' from by
    have := edge_wp W l l v1 v2 vu (nds [1] 5) [107] [[115, 49]] i (hr2'.below hb) (nds_good [1] (Nat.le_refl _)) (nds_len [1] (Nat.le_refl _)) (by decide) hu (by decide) (own5_e1 [1] [107])
    rw [show own (ptsOf (nds [1] 5)) (Sk.hash 255 [107]) = [[115, 49]] from own_one [107]] at this
    exact this))
  clear hadd hk2 hr2 hr2' hfr
  have r4 := rd_new w2 9 (strs [[115, 49]]) 1 rfl
  have b4 : Below w2.heap.size w2 (w2.alloc (.cells (strs [[115, 49]]).toArray 9)) := (Below.refl _ _).alloc (Nat.le_refl _) _
  have hc := hed.out _ _ 0 b4 r4
  rw [edW_one0] at hc
  have hc' : Calls Tryz.prog 13 #[.string ⟨#[101, 49]⟩, .pointer (some ⟨l, 0, none⟩), .slice (some ⟨w2.heap.size, 0, none⟩) 1 1, .string ⟨#[107]⟩, .slice none 0 0, .int .i64 0] (w2.alloc (.cells #[.string ⟨#[115, 49]⟩] 9)) _ := hc
  have B4 := Lib.hid b4
  clear hc r4 b4
  go_wp2_with fail
  refine hc'.mono ?_
  rintro e w3 ⟨rfl, hb3⟩
  have B3 : Hid (Below w2.heap.size w2 w3) := Below.next B4.out B4.out.size hb3
  clear hc' hb3
  have r5 := rd_new w3 9 (strs [[115, 49]]) 1 rfl
  have b5 : Below w2.heap.size w2 (w3.alloc (.cells (strs [[115, 49]]).toArray 9)) := B3.out.alloc B3.out.size _
  have hc := hed.out _ _ 1 b5 r5
  rw [edW_one1] at hc
  have hc' : Calls Tryz.prog 13 #[.string ⟨#[101, 49]⟩, .pointer (some ⟨l, 0, none⟩), .slice (some ⟨w3.heap.size, 0, none⟩) 1 1, .string ⟨#[107]⟩, .slice none 0 0, .int .i64 1] (w3.alloc (.cells #[.string ⟨#[115, 49]⟩] 9)) _ := hc
  have B5 := Lib.hid b5
  clear hc r5 b5
  go_wp2_with fail
  refine hc'.mono ?_
  rintro e w4 ⟨rfl, hb4⟩
  have B6 : Hid (Below w2.heap.size w2 w4) := Below.next B5.out B5.out.size hb4
  clear hc' hb4
  go_wp2_with fail
  go_ret
  exact ⟨rfl, HB2.out.trans (B6.out.mono (by have := HB2.out.size; rw [Hl.out] at this; exact this))⟩
end Go.Proofs.YtpfpjcfacbfjaaaGreatDoor
