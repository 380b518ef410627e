/-
  Layer 31: the rings of the laws, made from a list of nodes.
-/
import Derived.Test.YtpfpjcfacbfjaaaGreatDoorRgAdd
import Derived.Test.YtpfpjcfacbfjaaaGreatDoorRgAddNo
import Derived.Test.YtpfpjcfacbfjaaaGreatDoorRgName
namespace Go.Proofs.YtpfpjcfacbfjaaaGreatDoor
open Go.Shelf Go.RowKit Go.Lib Go.Sort Rg
attribute [local go_sem ↓] Go.wp_at_zero Go.wp_at_succ

namespace Rg
/-- A node: its name and its weight. -/
abbrev Nd := Nm × Nat
def insN (N : List Nm) (x : Nm) : List Nm := insAt (pos N x) x N
def ascOf (L : List Nd) : List Nm := L.foldl (fun N x => insN N x.1) []
def allPts (L : List Nd) : List Pt := L.flatMap fun x => pts1 x.1 x.2
def ptsOf (L : List Nd) : List Pt := srt (allPts L)
theorem ascOf_snoc (L : List Nd) (x : Nd) : ascOf (L ++ [x]) = insN (ascOf L) x.1 := by unfold ascOf; rw [List.foldl_append]; rfl
theorem allPts_snoc (L : List Nd) (x : Nd) : allPts (L ++ [x]) = allPts L ++ pts1 x.1 x.2 := by unfold allPts; rw [List.flatMap_append]; simp
theorem ptsOf_snoc (L : List Nd) (x : Nd) : ptsOf (L ++ [x]) = srt (ptsOf L ++ pts1 x.1 x.2) := by unfold ptsOf; rw [allPts_snoc, srt_append]
theorem fold_asc : ∀ (L : List Nd) (N : List Nm), Asc N → (N ++ L.map (·.1)).Nodup → Asc (L.foldl (fun N x => insN N x.1) N) ∧ (L.foldl (fun N x => insN N x.1) N).Perm (N ++ L.map (·.1))
  | [], N, h, _ => ⟨h, by simp⟩
  | x :: r, N, h, hd => by
    have hx : x.1 ∉ N := fun hm => by
      rw [List.nodup_append] at hd
      exact hd.2.2 x.1 hm x.1 (by simp) rfl
    have hp : (insN N x.1 ++ r.map (·.1)).Perm (N ++ (x :: r).map (·.1)) := by
      refine ((insAt_perm _ x.1 N).append_right _).trans ?_
      rw [List.map_cons]
      exact List.perm_middle.symm
    obtain ⟨h1, h2⟩ := fold_asc r (insN N x.1) (insAt_asc h hx) (hp.nodup_iff.2 hd)
    exact ⟨h1, h2.trans hp⟩
/-- Nodes with different names and right weights. -/
structure Good (L : List Nd) : Prop where
  nd : (L.map (·.1)).Nodup
  wt : ∀ x ∈ L, 1 ≤ x.2 ∧ x.2 ≤ 16
theorem Good.asc {L : List Nd} (h : Good L) : Asc (ascOf L) := (fold_asc L [] List.Pairwise.nil (by simpa using h.nd)).1
theorem Good.perm {L : List Nd} (h : Good L) : (ascOf L).Perm (L.map (·.1)) := by simpa [ascOf] using (fold_asc L [] List.Pairwise.nil (by simpa using h.nd)).2
theorem Good.len {L : List Nd} (h : Good L) : (ascOf L).length = L.length := by rw [h.perm.length_eq, List.length_map]
theorem Good.mem {L : List Nd} (h : Good L) {x : Nm} : x ∈ ascOf L ↔ x ∈ L.map (·.1) := h.perm.mem_iff
theorem Good.snoc {L : List Nd} (h : Good L) {x : Nm} {n : Nat} (hx : x ∉ L.map (·.1)) (h1 : 1 ≤ n) (h2 : n ≤ 16) : Good (L ++ [(x, n)]) := by
  refine ⟨?_, fun y hy => ?_⟩
  · rw [List.map_append, List.nodup_append]
    exact ⟨h.nd, by simp, fun a ha b hb e => hx (by simp at hb; rw [← hb, ← e]; exact ha)⟩
  · rcases List.mem_append.1 hy with hy | hy
    · exact h.wt y hy
    · rw [List.mem_singleton] at hy; subst hy; exact ⟨h1, h2⟩
theorem mem_all {L : List Nd} {p : Pt} (h : p ∈ allPts L) : p.2 ∈ L.map (·.1) := by
  unfold allPts at h
  rw [List.mem_flatMap] at h
  obtain ⟨x, hx, hp⟩ := h
  rw [pts1_mem hp]; exact List.mem_map_of_mem hx
theorem Good.sub {L : List Nd} (h : Good L) : ∀ p ∈ ptsOf L, p.2 ∈ ascOf L := fun _ hp => h.mem.2 (mem_all ((srt_perm _).subset hp))
theorem allPts_len : ∀ (L : List Nd), (∀ x ∈ L, x.2 ≤ 16) → (allPts L).length ≤ 128 * L.length
  | [], _ => by simp [allPts]
  | x :: r, h => by
    have ih := allPts_len r (fun y hy => h y (by simp [hy]))
    have e : allPts (x :: r) = pts1 x.1 x.2 ++ allPts r := rfl
    rw [e, List.length_append, pts1_len, List.length_cons]
    have := h x (by simp)
    omega
theorem Good.plen {L : List Nd} (h : Good L) : (ptsOf L).length ≤ 128 * L.length := by
  unfold ptsOf; rw [srt_len]; exact allPts_len L (fun x hx => (h.wt x hx).2)
def stepL (L : List Nd) (x : Nat × Nat) : List Nd := if nmOf x.1 ∈ L.map (·.1) then L else L ++ [(nmOf x.1, 1 + x.2 % 4)]
/-- The list that the laws make. -/
def mkL (l : List (Nat × Nat)) : List Nd := l.foldl stepL []
theorem mkL_take {l : List (Nat × Nat)} {k : Nat} (h : k < l.length) : mkL (l.take (k + 1)) = stepL (mkL (l.take k)) l[k] := by
  unfold mkL; rw [List.take_succ_eq_append_getElem h, List.foldl_append]; rfl
theorem stepL_good {L : List Nd} (h : Good L) (x : Nat × Nat) : Good (stepL L x) := by
  unfold stepL
  split
  · exact h
  · next hx => exact h.snoc hx (by omega) (by omega)
theorem fold_good : ∀ (l : List (Nat × Nat)) (L : List Nd), Good L → Good (l.foldl stepL L) ∧ (l.foldl stepL L).length ≤ L.length + l.length
  | [], L, h => ⟨h, Nat.le_refl _⟩
  | x :: r, L, h => by
    obtain ⟨h1, h2⟩ := fold_good r (stepL L x) (stepL_good h x)
    refine ⟨h1, Nat.le_trans h2 ?_⟩
    have : (stepL L x).length ≤ L.length + 1 := by unfold stepL; split <;> simp
    rw [List.length_cons]; omega
theorem mkL_good (l : List (Nat × Nat)) : Good (mkL l) := (fold_good l [] ⟨by simp, by simp⟩).1
theorem mkL_len (l : List (Nat × Nat)) : (mkL l).length ≤ l.length := by
  have := (fold_good l [] ⟨by simp, by simp⟩).2
  rw [List.length_nil, Nat.zero_add] at this
  exact this
end Rg
/-- The cells of nodes, and of the laws' own list. -/
def nvs (L : List Nd) : List Value := L.flatMap fun x => [.string (str x.1), .int .i64 (x.2 : Int)]
def pls (l : List (Nat × Nat)) : List Value := l.flatMap fun x => [.int .u8 (x.1 : Int), .int .u8 (x.2 : Int)]
theorem nvs_snoc (L : List Nd) (x : Nd) : nvs (L ++ [x]) = nvs L ++ [.string (str x.1), .int .i64 (x.2 : Int)] := by simp [nvs]
theorem two_at0 {α : Type} (f g : α → Value) : ∀ {l : List α} {k : Nat} (h : k < l.length), (l.flatMap fun x => [f x, g x])[k * 2]? = some (f l[k])
  | p :: l, 0, _ => by simp
  | p :: l, k + 1, h => by
    have := two_at0 f g (l := l) (k := k) (by simpa using h)
    rw [show (k + 1) * 2 = k * 2 + 1 + 1 from by omega]
    simpa using this
theorem two_at1 {α : Type} (f g : α → Value) : ∀ {l : List α} {k : Nat} (h : k < l.length), (l.flatMap fun x => [f x, g x])[k * 2 + 1]? = some (g l[k])
  | p :: l, 0, _ => by simp
  | p :: l, k + 1, h => by
    have := two_at1 f g (l := l) (k := k) (by simpa using h)
    rw [show (k + 1) * 2 + 1 = k * 2 + 1 + 1 + 1 from by omega]
    simpa using this
theorem nd_one (x : Nm) (n : Int) : ∀ u ∈ [Value.string (str x), .int .i64 n], u.oneCell' = true := by
  intro u hu
  rcases List.mem_cons.1 hu with rfl | hu
  · rfl
  · rw [List.mem_singleton] at hu; subst hu; rfl
theorem Ring2.kp {F : Nat → Prop} {w w' : World} {B l : Nat} {v1 v2 : Value} {N : List Nm} {Q : List Pt} (h : Ring2 w B l v1 v2 N Q) (hk : Kp F w w') (h0 : ¬ F l) (h1 : Off F v1) (h2 : Off F v2) : Ring2 w' B l v1 v2 N Q :=
  ⟨h.blk.kp h0 hk, h.base, Own.kp h.nodes h1 hk, Own.kp h.points h2 hk⟩
end Go.Proofs.YtpfpjcfacbfjaaaGreatDoor
