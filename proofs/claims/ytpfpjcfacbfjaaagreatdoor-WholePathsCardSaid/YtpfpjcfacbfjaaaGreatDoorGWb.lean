/-
  Several texts in one: WLoop, WCalls, WGone.
-/
import Derived.Test.YtpfpjcfacbfjaaaGreatDoorGWp
import Derived.Test.YtpfpjcfacbfjaaaGreatDoorWUp
import Derived.Test.YtpfpjcfacbfjaaaGreatDoorGRd
import Derived.Test.YtpfpjcfacbfjaaaGreatDoorGRt
/-
  WholePaths: the ring, the checks and the slices side by side, while the shields are added and reports come.
-/
namespace Go.Proofs.YtpfpjcfacbfjaaaGreatDoor
open Go.Shelf Go.RowKit Go.Lib Go.Sort Rg Syn Ti Wp
/-- States as they come: a run of at most one. -/
def StOk (S : Nm → St2) (N : List Nm) : Prop := ∀ x, ((S x).1 ≠ 0 ↔ x ∈ N) ∧ 0 ≤ (S x).2 ∧ (S x).2 ≤ 1
theorem rep_ok (s : St2) (ok : Bool) (h0 : 0 ≤ s.2) (h1 : s.2 ≤ 1) : (rep s ok).1 ≠ 0 ∧ 0 ≤ (rep s ok).2 ∧ (rep s ok).2 ≤ 1 := by
  unfold rep
  cases ok
  · rw [if_neg (by decide)]
    split
    · exact ⟨by decide, by decide, by decide⟩
    · next h =>
      refine ⟨fun e => h (Or.inl e), by show 0 ≤ s.2 + 1; omega, ?_⟩
      have : ¬ 1 ≤ s.2 := fun e => h (Or.inr (Or.inr e))
      show s.2 + 1 ≤ 1
      omega
  · rw [if_pos rfl]; exact ⟨by decide, by decide, by decide⟩
theorem StOk.start : StOk (fun _ => (0, 0)) [] := fun x => ⟨⟨fun h => absurd rfl h, fun h => by cases h⟩, Int.le_refl _, by show (0 : Int) ≤ 1; decide⟩
theorem StOk.new {S : Nm → St2} {N : List Nm} (h : StOk S N) (x : Nm) (ok : Bool) : StOk (upd S x (rep (S x) ok)) (N ++ [x]) := fun y => by
  unfold upd
  by_cases hy : y = x
  · subst hy
    rw [if_pos rfl]
    obtain ⟨h1, h2, h3⟩ := rep_ok (S y) ok (h y).2.1 (h y).2.2
    exact ⟨⟨fun _ => by simp, fun _ => h1⟩, h2, h3⟩
  · rw [if_neg hy]
    refine ⟨?_, (h y).2⟩
    rw [(h y).1, List.mem_append, List.mem_singleton]
    exact ⟨Or.inl, fun hh => hh.resolve_right hy⟩
theorem StOk.old {S : Nm → St2} {N : List Nm} (h : StOk S N) (x : Nm) (hx : (S x).1 ≠ 0) (ok : Bool) : StOk (upd S x (rep (S x) ok)) N := fun y => by
  unfold upd
  by_cases hy : y = x
  · subst hy
    rw [if_pos rfl]
    obtain ⟨h1, h2, h3⟩ := rep_ok (S y) ok (h y).2.1 (h y).2.2
    exact ⟨⟨fun _ => (h y).1.1 hx, fun _ => h1⟩, h2, h3⟩
  · rw [if_neg hy]; exact h y
/-- The memory while the shields are added: vs = the names, va = those that have been added. -/
structure L1 (wr : World) (loc c m1 m2 n : Nat) (vs va v1 v2 : Value) (L : List Nd) (N : List Nm) (S : Nm → St2) : Prop where
  ring : Ring2 wr loc loc v1 v2 (ascOf L) (ptsOf L)
  hc : HC wr c m1 m2 n NM S (fun _ => false)
  sh : Own wr loc 9 1 vs NM.length (strs NM)
  all : Own wr loc 9 1 va N.length (strs N)
  a1 : ∀ k, v1.ownBlock = some k → vs.ownBlock ≠ some k ∧ va.ownBlock ≠ some k
  a2 : ∀ k, va.ownBlock = some k → vs.ownBlock ≠ some k
section
variable {w w' : World} {loc c m1 m2 n : Nat} {vs va v1 v2 : Value} {L : List Nd} {N : List Nm} {S : Nm → St2}
theorem L1.below (h : L1 w loc c m1 m2 n vs va v1 v2 L N S) (hb : Below w.heap.size w w') : L1 w' loc c m1 m2 n vs va v1 v2 L N S :=
  ⟨h.ring.below hb, h.hc.below hb, own_below h.sh hb, own_below h.all hb, h.a1, h.a2⟩
/-- Behind Add. -/
theorem L1.added {v1' v2' : Value} {L' : List Nd} (h : L1 w loc c m1 m2 n vs va v1 v2 L N S) (hk : Kp (fun b => b = loc ∨ v1.ownBlock = some b ∨ v2.ownBlock = some b) w w') (hr : Ring2 w' loc loc v1' v2' (ascOf L') (ptsOf L')) (hn : Newer w v1 v1') : L1 w' loc c m1 m2 n vs va v1' v2' L' N S := by
  have off : ∀ {v : Value} {M : List Nm}, Own w loc 9 1 v M.length (strs M) → (∀ k, v1.ownBlock = some k → v.ownBlock ≠ some k) → Own w' loc 9 1 v M.length (strs M) := fun {v M} ho ha => by
    refine Own.kp ho (fun k hk' hF => ?_) hk
    rcases hF with rfl | hF | hF
    · exact Own.ne ho h.ring.blk (by decide) hk'
    · exact ha k hF hk'
    · exact Own.apart ho h.ring.points (by decide) hk' hF
  refine ⟨hr, h.hc.ring h.ring hk, off h.sh (fun k hk' => (h.a1 k hk').1), off h.all (fun k hk' => (h.a1 k hk').2), fun k hk' => ?_, h.a2⟩
  rcases hn k hk' with h1 | h1
  · exact h.a1 k h1
  · exact ⟨fun e => by have := Own.lt h.sh e; omega, fun e => by have := Own.lt h.all e; omega⟩
/-- Behind append of a name. -/
theorem L1.pushed {va' : Value} {x : Nm} (h : L1 w loc c m1 m2 n vs va v1 v2 L N S) (hg : w.grownBy w' va.ownBlock) (ho : Own w' loc 9 1 va' (N.length + 1) (strs N ++ [.string (str x)])) (hat : va'.ownBlock = va.ownBlock ∨ va'.ownBlock = some w.heap.size) : L1 w' loc c m1 m2 n vs va' v1 v2 L (N ++ [x]) S := by
  have hk : Kp (fun k => va.ownBlock = some k) w w' := (Kp.refl _ _).grown hg (fun k e _ => e)
  obtain ⟨_, _, g1⟩ := h.hc.map1
  obtain ⟨_, _, g2⟩ := h.hc.map2
  refine ⟨h.ring.kp hk (Own.ne h.all h.ring.blk (by decide)) (fun k hk' e => (h.a1 k hk').2 e) (fun k hk' e => Own.apart h.all h.ring.points (by decide) e hk'),
    h.hc.kp (Own.ne h.all h.hc.blk (by decide)) (Own.notMap h.all g1) (Own.notMap h.all g2) hk, Own.kp h.sh (fun k hk' e => h.a2 k e hk') hk,
    by rw [strs_snoc, List.length_append, List.length_singleton]; exact ho, fun k hk' => ⟨(h.a1 k hk').1, ?_⟩, fun k hk' => ?_⟩
  · rcases hat with e | e
    · rw [e]; exact (h.a1 k hk').2
    · rw [e]; intro e2
      have := Own.lt h.ring.nodes hk'
      have e3 := Option.some.inj e2
      omega
  · rcases hat with e | e
    · rw [e] at hk'; exact h.a2 k hk'
    · rw [e] at hk'
      have e3 := Option.some.inj hk'
      intro e2
      have := Own.lt h.sh e2
      omega
/-- Behind a report. -/
theorem L1.reported {S' : Nm → St2} {n' : Nat} (h : L1 w loc c m1 m2 n vs va v1 v2 L N S) (hc : HC w' c m1 m2 n' NM S' (fun _ => false)) (hk : Kp (fun k => k = m1) w w') : L1 w' loc c m1 m2 n' vs va v1 v2 L N S' := by
  obtain ⟨_, _, g1⟩ := h.hc.map1
  exact ⟨h.ring.map g1 hk, hc, h.sh.map g1 hk, h.all.map g1 hk, h.a1, h.a2⟩
end
/-- append of one text, told by what it turns. -/
theorem pushG_str {ops : Array Oper} {rest : List Oper} {o : Oper} {a : Act} {Q : Exit → Act → World → Prop} {w : World} (s x : Operand)
    (hgd : o.guard = none) (ho : o.op = .call { callee := .builtin .append, args := #[s, x], argTypes := #[32, 32] })
    {B n : Nat} {v u : Value} {xs : List Value} (hs : a.eval s = v) (hown : Own (w.alloc (.cells #[u] 9)) B 9 1 v n xs) (hx : a.eval x = .slice (some ⟨w.heap.size, 0, none⟩) 1 1)
    (h1 : u.oneCell' = true) (hn : n < 10000000000) (hbase : B ≤ w.heap.size)
    (h : ∀ v' w', Own w' B 9 1 v' (n + 1) (xs ++ [u]) → (w.alloc (.cells #[u] 9)).grownBy w' v.ownBlock → (v'.ownBlock = v.ownBlock ∨ v'.ownBlock = some (w.alloc (.cells #[u] 9)).heap.size) → wpList Tryz.prog ops Q rest (a.put o.dst v') w') : wpList Tryz.prog ops Q (o :: rest) a (w.alloc (.cells #[u] 9)) := by
  cases hP : Tryz.prog.info? 9 with
  | none => have := infoStr; rw [hP] at this; cases this
  | some i =>
    have hi := infoStr
    rw [hP] at hi
    simp only [Option.map_some, Option.some.injEq, Prod.mk.injEq] at hi
    obtain ⟨hz, hsize, hbytes⟩ := hi
    refine wpList_append_own_at _ hgd s x 32 ho B 9 i (.string ⟨#[]⟩) 1 16 Tryz.underlying32 hP hz hsize hbytes rfl (by decide) v n xs hs hown ⟨w.heap.size, 0, none⟩ 1 1 [u] hx rfl (cell_one_new _ _ _) ?_ (by unfold maxLen; omega) (by omega) (by simp; omega) ?_
    · intro y hy; rw [List.mem_singleton] at hy; rw [hy]; exact h1
    · intro v' w' hown' hg _ hat
      exact h v' w' hown' hg hat
end Go.Proofs.YtpfpjcfacbfjaaaGreatDoor
/-
  WholePaths: what a shield answers, and the Via field there and back.
-/
namespace Go.Proofs.YtpfpjcfacbfjaaaGreatDoor
open Go.Shelf Go.RowKit Go.Lib Go.Sort Rg Syn Ti Wp
theorem NM_pw : NM.Pairwise (fun a b => leB a b = true) := by decide +kernel
theorem NM_short : NM.length ≤ 1000 := by decide
theorem below_alloc {W w' : World} {o : Obj} (h : Below (W.alloc o).heap.size (W.alloc o) w') : Below W.heap.size W w' :=
  Below.next ((Below.refl _ _).alloc (Nat.le_refl _) _) (by rw [talloc_size]; omega) h
theorem wsh1 {x : Nm} (hx : x ∈ NM) (W : World) : Calls Tryz.prog 14 #[.string (str x), .slice (some ⟨W.heap.size, 0, none⟩) 1 1] (W.alloc (.cells #[.string ⟨#[101, 49]⟩] 9)) fun e w' => e = .returned (.tuple #[.string ⟨#[111, 114, 105, 103, 105, 110]⟩, .nilIface]) ∧ Below W.heap.size W w' := by
  have h := shield_any [e1] x (some ⟨W.heap.size, 0, none⟩) 1 (W.alloc (.cells (strs [e1]).toArray 9)) (rd_new W 9 (strs [e1]) 1 rfl) (by decide)
  rw [(sh_one hx).1, (sh_one hx).2] at h
  exact h.mono (fun _ _ ⟨he, hb⟩ => ⟨he, below_alloc hb⟩)
theorem wsh2 {x : Nm} (W : World) : Calls Tryz.prog 14 #[.string (str x), .slice (some ⟨W.heap.size, 0, none⟩) 2 2] (W.alloc (.cells #[.string ⟨#[101, 49]⟩, .string (str x)] 9)) fun e w' => e = .returned (.tuple #[.string ⟨#[]⟩, .iface 52 (.int .i64 17)]) ∧ Below W.heap.size W w' := by
  have h := shield_any [e1, x] x (some ⟨W.heap.size, 0, none⟩) 2 (W.alloc (.cells (strs [e1, x]).toArray 9)) (rd_new W 9 (strs [e1, x]) 2 rfl) (by simp)
  have ht : shT [e1, x] x = [] := by unfold shT; rw [if_neg (by rw [sh_two]; decide)]
  rw [ht, sh_two] at h
  exact h.mono (fun _ _ ⟨he, hb⟩ => ⟨he, below_alloc hb⟩)
theorem wvia2 {x : Nm} (hx : x ∈ NM) (W : World) : Calls Tryz.prog 16 #[.slice (some ⟨W.heap.size, 0, none⟩) 2 2] (W.alloc (.cells #[.string ⟨#[101, 49]⟩, .string (str x)] 9)) fun e w' => e = .returned (.string (str (via [e1, x]))) ∧ Below W.heap.size W w' :=
  (wvia_any hx (some ⟨W.heap.size, 0, none⟩) 2 (W.alloc (.cells (strs [e1, x]).toArray 9)) (rd_new W 9 (strs [e1, x]) 2 rfl)).mono (fun _ _ ⟨he, hb⟩ => ⟨he, below_alloc hb⟩)
theorem wtx {x : Nm} (W : World) (v : Value) (h : Rd W 1 v 2 (strs [e1, x])) : Calls Tryz.prog 17 #[v, .slice (some ⟨W.heap.size, 0, none⟩) 2 2] (W.alloc (.cells #[.string ⟨#[101, 49]⟩, .string (str x)] 9)) fun e w' => e = .returned (.bool true) ∧ Below W.heap.size W w' := by
  have := texts_any (l1 := [e1, x]) (l2 := [e1, x]) (W.alloc (.cells (strs [e1, x]).toArray 9)) (h.below ((Below.refl _ _).alloc (Nat.le_refl _) _)) (rd_new W 9 (strs [e1, x]) 2 rfl) (by unfold maxLen; simp)
  rw [decide_eq_true (rfl : ([e1, x] : List Nm) = [e1, x])] at this
  exact this.mono (fun _ _ ⟨he, n, hw⟩ => ⟨he, by rw [hw]; exact below_drewN ((Below.refl _ _).alloc (Nat.le_refl _) _) n⟩)
theorem wchk {x : Nm} (hx : x ∈ NM) (W : World) : Calls Tryz.prog 18 #[.slice (some ⟨W.heap.size, 0, none⟩) 3 3] (W.alloc (.cells #[.string ⟨#[101, 49]⟩, .string (str x), .string ⟨#[111, 114, 105, 103, 105, 110]⟩] 9)) fun e w' => e = .returned .nilIface ∧ Below W.heap.size W w' := by
  have h := check_any [e1, x, org] (some ⟨W.heap.size, 0, none⟩) 3 (W.alloc (.cells (strs [e1, x, org]).toArray 9)) (rd_new W 9 (strs [e1, x, org]) 3 rfl) (by simp)
  rw [chk_org hx] at h
  exact h.mono (fun _ _ ⟨he, hw⟩ => ⟨he, by rw [hw]; exact (Below.refl _ _).alloc (Nat.le_refl _) _⟩)
/-- Texts of two slices with the same names. -/
theorem wsame (W : World) (v1 v2 : Value) (l : List Nm) (h1 : Rd W 1 v1 l.length (strs l)) (h2 : Rd W 1 v2 l.length (strs l)) (hm : l.length ≤ 1000) : Calls Tryz.prog 17 #[v1, v2] W fun e w' => e = .returned (.bool true) ∧ Below W.heap.size W w' := by
  have := texts_any W h1 h2 (by unfold maxLen; omega)
  rw [decide_eq_true (rfl : l = l)] at this
  exact this.mono (fun _ _ ⟨he, n, hw⟩ => ⟨he, by rw [hw]; exact below_drewN (Below.refl _ _) n⟩)
theorem edW_at {U O : List Nm} {i : Nat} (h : i < (ordU U O).length) : edW U O (i : Int) = .tuple #[.string (str (ordU U O)[i]), .nilIface] := by
  unfold edW
  obtain ⟨h1, h2⟩ := edS_at (c := ordU U O) (i := i) (Nat.le_of_lt h)
  rw [h1, h2, all_at h]; rfl
theorem edW_org {U O : List Nm} {i : Nat} (h : i = (ordU U O).length) : edW U O (i : Int) = .tuple #[.string ⟨#[111, 114, 105, 103, 105, 110]⟩, .nilIface] := by
  unfold edW
  subst h
  obtain ⟨h1, h2⟩ := edS_at (c := ordU U O) (i := (ordU U O).length) (Nat.le_refl _)
  rw [h1, h2, all_last]; rfl
theorem edW_past {U O : List Nm} {i : Nat} (h : (ordU U O).length < i) : edW U O (i : Int) = .tuple #[.string ⟨#[]⟩, .iface 52 (.int .i64 3)] := by
  unfold edW
  obtain ⟨h1, h2⟩ := edE_past h
  rw [h1, h2]; rfl
/-- One more name of the order, as the inner loop comes to it. -/
def more (l U : List Nm) (x : Nm) (j : Nat) : List Nm := l ++ if x ∈ U.take j then [x] else []
theorem more_zero (l U : List Nm) (x : Nm) : more l U x 0 = l := by unfold more; rw [List.take_zero, if_neg (by simp), List.append_nil]
theorem more_hit {l U : List Nm} {x : Nm} {j : Nat} (hU : U.Nodup) (h : j < U.length) (e : U[j] = x) : more l U x (j + 1) = more l U x j ++ [x] := by
  have h1 : x ∉ U.take j := by rw [← e]; exact not_before hU h
  unfold more
  rw [if_neg h1, if_pos ((mem_take_succ h).2 (Or.inr e.symm)), List.append_nil]
theorem more_miss {l U : List Nm} {x : Nm} {j : Nat} (h : j < U.length) (e : U[j] ≠ x) : more l U x (j + 1) = more l U x j := by
  unfold more
  by_cases h1 : x ∈ U.take j
  · rw [if_pos h1, if_pos ((mem_take_succ h).2 (Or.inl h1))]
  · rw [if_neg h1, if_neg (fun hh => ((mem_take_succ h).1 hh).elim h1 (fun e2 => e e2.symm))]
theorem more_all {O U : List Nm} {k : Nat} (h : k < O.length) : more (ordU U (O.take k)) U O[k] U.length = ordU U (O.take (k + 1)) := by
  unfold more
  rw [List.take_length, ordU_take h]
theorem more_len (l U : List Nm) (x : Nm) (j : Nat) : (more l U x j).length ≤ l.length + 1 := by
  unfold more
  split <;> simp
theorem isUp_wo (S : Nm → St2) (g : Nm) : NM.filter (isUp S (upd (fun _ => false) g true)) = wo g (NM.filter (isUp S (fun _ => false))) := by
  rw [← filter_wo]
  refine List.filter_congr fun x _ => ?_
  unfold isUp upd
  by_cases h : x = g
  · simp [h]
  · simp [h]
end Go.Proofs.YtpfpjcfacbfjaaaGreatDoor
/-
  WholePaths: a ring without the drained node.
-/
namespace Go.Proofs.YtpfpjcfacbfjaaaGreatDoor
open Go.Shelf Go.RowKit Go.Lib Go.Sort Rg Syn Ti Wp
/-- The ring's nodes without one. -/
def woN (g : Nm) (L : List Nd) : List Nd := L.filter fun y => decide (y.1 ≠ g)
theorem good_off {L : List Nd} (hg : Rg.Good L) (g : Nm) : Rg.Good (woN g L) := ⟨hg.nd.sublist (List.filter_sublist.map _), fun x hx => hg.wt x (List.mem_filter.1 hx).1⟩
theorem perm_off {g : Nm} {n : Nat} : ∀ {L : List Nd}, (L.map (·.1)).Nodup → (g, n) ∈ L → L.Perm ((g, n) :: woN g L)
  | x :: r, hnd, h => by
    rw [List.map_cons, List.nodup_cons] at hnd
    unfold woN
    rcases List.mem_cons.1 h with e | h
    · subst e
      have : r.filter (fun y => decide (y.1 ≠ g)) = r := List.filter_eq_self.2 (fun y hy => by
        have : y.1 ≠ g := fun e => hnd.1 (List.mem_map.2 ⟨y, hy, e⟩)
        simpa using this)
      rw [List.filter_cons_of_neg (by simp), this]
    · have hne : x.1 ≠ g := fun e => hnd.1 (List.mem_map.2 ⟨(g, n), h, e.symm⟩)
      rw [List.filter_cons_of_pos (by simpa using hne)]
      exact ((perm_off hnd.2 h).cons x).trans (List.Perm.swap ..)
theorem wrem_any (w : World) (loc : Nat) (v1 v2 : Value) (L : List Nd) (g : Nm) (hr : Ring2 w loc loc v1 v2 (ascOf L) (ptsOf L)) (hg : Rg.Good L) (hl : L.length ≤ 5) (h : g ∈ L.map (·.1)) :
    Calls Tryz.prog 20 #[.pointer (some ⟨loc, 0, none⟩), .string (str g)] w fun e w' => e = .returned (.bool true) ∧ Kp (fun b => b = loc ∨ v1.ownBlock = some b ∨ v2.ownBlock = some b) w w' ∧ ∃ v1' v2', Ring2 w' loc loc v1' v2' (ascOf (woN g L)) (ptsOf (woN g L)) := by
  have hrem := rem_yes w loc loc v1 v2 _ _ g hr hg.asc (by rw [hg.len]; omega) (by have := hg.plen; omega) (hg.mem.2 h) ((Rg.own_mem (h := 0)).1 (hg.own_mem.2 h))
  obtain ⟨y, hy, e⟩ := List.mem_map.1 h
  obtain ⟨a, n⟩ := y
  have e' : a = g := e
  subst e'
  rw [erase_names hg (good_off hg a) (perm_off hg.nd hy), offN_ptsOf hg a] at hrem
  exact hrem
theorem woN_len (g : Nm) (L : List Nd) : (woN g L).length ≤ L.length := List.length_filter_le _ _
theorem edW_wo {U O : List Nm} {g : Nm} {k : Nat} (h : k < (wo g (ordU U O)).length) : edW (wo g U) O (k : Int) = .tuple #[.string (str (wo g (ordU U O))[k]), .nilIface] := by
  have := edW_at (U := wo g U) (O := O) (i := k) (by rw [ordU_wo]; exact h)
  simp only [ordU_wo] at this
  exact this
end Go.Proofs.YtpfpjcfacbfjaaaGreatDoor
