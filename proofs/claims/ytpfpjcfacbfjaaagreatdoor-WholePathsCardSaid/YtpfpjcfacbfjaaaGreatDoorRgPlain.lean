/-
  Layer 31, plain: points in order, the nodes in the order of a key.
-/
import Derived.Sort.LotA
import Derived.Sort.Walk0
namespace Go.Proofs.YtpfpjcfacbfjaaaGreatDoor
namespace Rg
/-- A point: its hash and its node's name. -/
abbrev Pt := Int × List UInt8
abbrev Nm := List UInt8
def ptLt (a b : Pt) : Bool := decide (a.1 < b.1) || (decide (a.1 = b.1) && decide (a.2 < b.2))
theorem ptLt_true {a b : Pt} : ptLt a b = true ↔ a.1 < b.1 ∨ (a.1 = b.1 ∧ a.2 < b.2) := by
  unfold ptLt; simp
theorem ptLt_false {a b : Pt} : ptLt a b = false ↔ ¬ (a.1 < b.1 ∨ (a.1 = b.1 ∧ a.2 < b.2)) := by
  rw [← ptLt_true]; simp
theorem pt_anti {a b : Pt} (h1 : ptLt a b = false) (h2 : ptLt b a = false) : a = b := by
  rw [ptLt_false] at h1 h2
  have e : a.1 = b.1 := by
    have := fun h => h1 (Or.inl h)
    have := fun h => h2 (Or.inl h)
    omega
  have n1 : ¬ a.2 < b.2 := fun h => h1 (Or.inr ⟨e, h⟩)
  have n2 : ¬ b.2 < a.2 := fun h => h2 (Or.inr ⟨e.symm, h⟩)
  rw [List.not_lt] at n1 n2
  exact Prod.ext e (List.le_antisymm n2 n1)
theorem nm_total {a b : Nm} (h : ¬ a < b) (hne : a ≠ b) : b < a := by
  rw [List.not_lt] at h
  rcases Classical.em (b < a) with h' | h'
  · exact h'
  · rw [List.not_lt] at h'; exact absurd (List.le_antisymm h' h) hne
theorem swo_pt : Go.Sort.SWO ptLt where
  irrefl := fun x => by rw [ptLt_false]; rintro (h | ⟨_, h⟩); · omega
                        · exact List.lt_irrefl _ h
  trans := fun x y z h1 h2 => by
    rw [ptLt_true] at h1 h2 ⊢
    rcases h1 with h1 | ⟨e1, h1⟩ <;> rcases h2 with h2 | ⟨e2, h2⟩
    · left; omega
    · left; omega
    · left; omega
    · right; exact ⟨by omega, List.lt_trans h1 h2⟩
  ntrans := fun x y z h1 h2 => by
    rw [ptLt_false] at h1 h2 ⊢
    rintro (h | ⟨e, h⟩)
    · have := fun h => h1 (Or.inl h)
      have := fun h => h2 (Or.inl h)
      omega
    · have a1 := fun h => h1 (Or.inl h)
      have a2 := fun h => h2 (Or.inl h)
      have e1 : x.1 = y.1 := by omega
      have e2 : y.1 = z.1 := by omega
      have n1 : ¬ x.2 < y.2 := fun h => h1 (Or.inr ⟨e1, h⟩)
      have n2 : ¬ y.2 < z.2 := fun h => h2 (Or.inr ⟨e2, h⟩)
      rw [List.not_lt] at n1 n2
      exact absurd h (by rw [List.not_lt]; exact List.le_trans n2 n1)
/-- In order. -/
def Srt (l : List Pt) : Prop := l.Pairwise fun a b => ptLt b a = false
theorem srt_unique : ∀ {a b : List Pt}, Srt a → Srt b → a.Perm b → a = b
  | [], b, _, _, h => (List.Perm.nil_eq h)
  | x :: r, [], _, _, h => absurd h.length_eq (by simp)
  | x :: r, y :: s, ha, hb, h => by
    unfold Srt at ha hb
    rw [List.pairwise_cons] at ha hb
    have e : x = y := by
      have m1 : x ∈ y :: s := h.subset (by simp)
      have m2 : y ∈ x :: r := h.symm.subset (by simp)
      rcases List.mem_cons.1 m1 with h1 | h1
      · exact h1
      · rcases List.mem_cons.1 m2 with h2 | h2
        · exact h2.symm
        · exact (pt_anti (ha.1 y h2) (hb.1 x h1)).symm
    subst e
    rw [srt_unique ha.2 hb.2 (List.Perm.cons_inv h)]
def ins (p : Pt) : List Pt → List Pt
  | [] => [p]
  | x :: r => if ptLt p x = true then p :: x :: r else x :: ins p r
theorem ins_perm (p : Pt) : ∀ l, (ins p l).Perm (p :: l)
  | [] => List.Perm.refl _
  | x :: r => by
    unfold ins
    split
    · exact List.Perm.refl _
    · exact ((ins_perm p r).cons x).trans (List.Perm.swap p x r)
theorem ins_srt {p : Pt} : ∀ {l : List Pt}, Srt l → Srt (ins p l)
  | [], _ => by unfold ins Srt; simp
  | x :: r, h => by
    unfold ins
    unfold Srt at h ⊢
    rw [List.pairwise_cons] at h
    split
    · next hp =>
      rw [List.pairwise_cons, List.pairwise_cons]
      refine ⟨fun y hy => ?_, h⟩
      rcases List.mem_cons.1 hy with rfl | hy
      · exact swo_pt.asymmA hp
      · cases hc : ptLt y p with
        | false => rfl
        | true => exact absurd (swo_pt.trans y p x hc hp) (by rw [h.1 y hy]; simp)
    · next hp =>
      rw [List.pairwise_cons]
      refine ⟨fun y hy => ?_, ins_srt h.2⟩
      rcases List.mem_cons.1 ((ins_perm p r).subset hy) with rfl | hy
      · simpa using hp
      · exact h.1 y hy
def srt (l : List Pt) : List Pt := l.foldl (fun a p => ins p a) []
theorem fold_ins : ∀ (l a : List Pt), Srt a → Srt (l.foldl (fun a p => ins p a) a) ∧ (l.foldl (fun a p => ins p a) a).Perm (a ++ l)
  | [], a, h => ⟨h, by simp⟩
  | p :: r, a, h => by
    obtain ⟨h1, h2⟩ := fold_ins r (ins p a) (ins_srt h)
    refine ⟨h1, h2.trans ?_⟩
    refine ((ins_perm p a).append_right r).trans ?_
    exact (List.perm_middle).symm
theorem srt_srt (l : List Pt) : Srt (srt l) := (fold_ins l [] List.Pairwise.nil).1
theorem srt_perm (l : List Pt) : (srt l).Perm l := (fold_ins l [] List.Pairwise.nil).2
theorem srt_eq {l d : List Pt} (h : Srt d) (hp : d.Perm l) : d = srt l := srt_unique h (srt_srt l) (hp.trans (srt_perm l).symm)
theorem srt_congr {l l' : List Pt} (h : l.Perm l') : srt l = srt l' := srt_eq (srt_srt l) ((srt_perm l).trans h)
theorem srt_append (a b : List Pt) : srt (srt a ++ b) = srt (a ++ b) := srt_congr ((srt_perm a).append_right b)
theorem srt_filter (f : Pt → Bool) (l : List Pt) : (srt l).filter f = srt (l.filter f) := srt_eq (List.Pairwise.filter f (srt_srt l)) ((srt_perm l).filter f)
theorem srt_len (l : List Pt) : (srt l).length = l.length := (srt_perm l).length_eq
theorem srt_snoc (l : List Pt) (p : Pt) : srt (l ++ [p]) = ins p (srt l) := by unfold srt; rw [List.foldl_append]; rfl
/-- Where an element goes: what stands ahead of it, and what behind. -/
theorem ins_split {p : Pt} {l : List Pt} {k : Nat} (h1 : ∀ j, (hj : j < l.length) → j < k → ptLt p l[j] = false) (h2 : ∀ j, (hj : j < l.length) → k ≤ j → ptLt p l[j] = true) (hk : k ≤ l.length) : ins p l = l.take k ++ p :: l.drop k := by
  induction l generalizing k with
  | nil => simp [ins]
  | cons x r ih =>
    unfold ins
    cases k with
    | zero =>
      have := h2 0 (by simp) (by omega)
      rw [if_pos (by simpa using this)]; simp
    | succ k =>
      have := h1 0 (by simp) (by omega)
      rw [if_neg (by simpa using this)]
      rw [ih (k := k) (fun j hj hk => h1 (j + 1) (by simp only [List.length_cons]; omega) (by omega)) (fun j hj hk => h2 (j + 1) (by simp only [List.length_cons]; omega) (by omega)) (by simpa using hk)]
      simp
/-- The first of each name. -/
def dstep (o : List Nm) (x : Nm) : List Nm := if x ∈ o then o else o ++ [x]
def ddp (l : List Nm) : List Nm := l.foldl dstep []
theorem ddp_snoc (l : List Nm) (x : Nm) : ddp (l ++ [x]) = dstep (ddp l) x := by unfold ddp; rw [List.foldl_append]; rfl
theorem dstep_mem {o : List Nm} {x y : Nm} : y ∈ dstep o x ↔ y ∈ o ∨ y = x := by
  unfold dstep
  split
  · next h => constructor
              · exact Or.inl
              · rintro (h' | rfl)
                · exact h'
                · exact h
  · simp
theorem fold_mem : ∀ (l o : List Nm) (y : Nm), y ∈ l.foldl dstep o ↔ y ∈ o ∨ y ∈ l
  | [], o, y => by simp
  | x :: r, o, y => by rw [List.foldl_cons, fold_mem r, dstep_mem, List.mem_cons, or_assoc]
theorem ddp_mem {l : List Nm} {y : Nm} : y ∈ ddp l ↔ y ∈ l := by unfold ddp; rw [fold_mem]; simp
theorem dstep_nodup {o : List Nm} {x : Nm} (h : o.Nodup) : (dstep o x).Nodup := by
  unfold dstep
  split
  · exact h
  · next hx =>
    rw [List.nodup_append]
    exact ⟨h, by simp, fun a ha b hb e => hx (by simp at hb; rw [← hb, ← e]; exact ha)⟩
theorem fold_nodup : ∀ (l o : List Nm), o.Nodup → (l.foldl dstep o).Nodup
  | [], _, h => h
  | x :: r, o, h => by rw [List.foldl_cons]; exact fold_nodup r _ (dstep_nodup h)
theorem ddp_nodup (l : List Nm) : (ddp l).Nodup := fold_nodup l [] List.nodup_nil
theorem dstep_pre (o : List Nm) (x : Nm) : ∃ t, dstep o x = o ++ t := by
  unfold dstep; split
  · exact ⟨[], by simp⟩
  · exact ⟨[x], rfl⟩
theorem fold_pre : ∀ (l o : List Nm), ∃ t, l.foldl dstep o = o ++ t
  | [], o => ⟨[], by simp⟩
  | x :: r, o => by
    obtain ⟨t, h⟩ := dstep_pre o x
    obtain ⟨s, h'⟩ := fold_pre r (dstep o x)
    exact ⟨t ++ s, by rw [List.foldl_cons, h', h, List.append_assoc]⟩
theorem ddp_pre (l s : List Nm) : ∃ t, ddp (l ++ s) = ddp l ++ t := by
  unfold ddp; rw [List.foldl_append]; exact fold_pre s _
theorem fold_filter (f : Nm → Bool) : ∀ (l o : List Nm), (l.foldl dstep o).filter f = (l.filter f).foldl dstep (o.filter f)
  | [], _ => rfl
  | x :: r, o => by
    rw [List.foldl_cons, fold_filter f r]
    by_cases hf : f x = true
    · rw [List.filter_cons_of_pos hf, List.foldl_cons]
      congr 1
      unfold dstep
      by_cases hx : x ∈ o
      · rw [if_pos hx, if_pos (List.mem_filter.2 ⟨hx, hf⟩)]
      · rw [if_neg hx, if_neg (fun h => hx (List.mem_filter.1 h).1), List.filter_append, List.filter_cons_of_pos hf]; rfl
    · rw [List.filter_cons_of_neg hf]
      congr 1
      unfold dstep
      split
      · rfl
      · rw [List.filter_append, List.filter_cons_of_neg hf]; simp
theorem ddp_filter (f : Nm → Bool) (l : List Nm) : (ddp l).filter f = ddp (l.filter f) := by unfold ddp; exact fold_filter f l []
/-- The points from a hash on, and then the others. -/
def rot (Q : List Pt) (h : Int) : List Pt := Q.filter (fun p => decide (h ≤ p.1)) ++ Q.filter (fun p => !decide (h ≤ p.1))
/-- The nodes in the order of a hash. -/
def own (Q : List Pt) (h : Int) : List Nm := ddp ((rot Q h).map (·.2))
theorem rot_len (Q : List Pt) (h : Int) : (rot Q h).length = Q.length := by
  unfold rot
  induction Q with
  | nil => rfl
  | cons x r ih =>
    rw [List.length_append] at ih ⊢
    by_cases hx : h ≤ x.1
    · rw [List.filter_cons_of_pos (by simpa using hx), List.filter_cons_of_neg (by simpa using hx), List.length_cons, List.length_cons]; omega
    · rw [List.filter_cons_of_neg (by simpa using hx), List.filter_cons_of_pos (by simpa using hx), List.length_cons, List.length_cons]; omega
theorem rot_filter (f : Nm → Bool) (Q : List Pt) (h : Int) : rot (Q.filter fun p => f p.2) h = (rot Q h).filter fun p => f p.2 := by
  unfold rot
  rw [List.filter_append, List.filter_filter, List.filter_filter, List.filter_filter, List.filter_filter]
  congr 1 <;> (congr 1; funext p; exact Bool.and_comm _ _)
theorem own_filter (f : Nm → Bool) (Q : List Pt) (h : Int) : own (Q.filter fun p => f p.2) h = (own Q h).filter f := by
  unfold own
  rw [rot_filter, ddp_filter, List.filter_map]; rfl
theorem srt_le {Q : List Pt} (hs : Srt Q) {i j : Nat} (hij : i ≤ j) (hj : j < Q.length) : (Q[i]'(by omega)).1 ≤ Q[j].1 := by
  rcases Nat.eq_or_lt_of_le hij with rfl | h
  · exact Int.le_refl _
  · have := List.pairwise_iff_getElem.1 hs i j (by omega) hj h
    rw [ptLt_false] at this
    have := fun h => this (Or.inl h)
    omega
/-- How many points lie below a hash. -/
def below (Q : List Pt) (h : Int) : Nat := (Q.filter fun p => !decide (h ≤ p.1)).length
theorem rot_eq {h : Int} : ∀ {Q : List Pt}, Srt Q → rot Q h = Q.drop (below Q h) ++ Q.take (below Q h)
  | [], _ => rfl
  | x :: r, hs => by
    have hs' : Srt r := (List.pairwise_cons.1 hs).2
    by_cases hx : h ≤ x.1
    · have hall : ∀ y ∈ r, h ≤ y.1 := fun y hy => by
        have := (List.pairwise_cons.1 hs).1 y hy
        rw [ptLt_false] at this
        have := fun h => this (Or.inl h)
        omega
      have e : (r.filter fun p => !decide (h ≤ p.1)) = [] := by
        rw [List.filter_eq_nil_iff]; intro y hy; simp [hall y hy]
      have e2 : (r.filter fun p => decide (h ≤ p.1)) = r := by
        rw [List.filter_eq_self]; intro y hy; simp [hall y hy]
      unfold rot below
      rw [List.filter_cons_of_pos (by simpa using hx), List.filter_cons_of_neg (by simpa using hx), e, e2]; rfl
    · have ih := rot_eq (h := h) hs'
      unfold rot below at ih ⊢
      rw [List.filter_cons_of_neg (by simpa using hx), List.filter_cons_of_pos (by simpa using hx), List.length_cons, List.drop_succ_cons, List.take_succ_cons]
      have h2 : (r.filter fun p => !decide (h ≤ p.1)) = r.take (r.filter fun p => !decide (h ≤ p.1)).length := by
        have hl : (r.filter fun p => decide (h ≤ p.1)).length = (r.drop (r.filter fun p => !decide (h ≤ p.1)).length).length := by
          have h3 := rot_len r h
          unfold rot at h3
          rw [List.length_append] at h3
          rw [List.length_drop]; omega
        exact (List.append_inj ih hl).2
      have h1 : (r.filter fun p => decide (h ≤ p.1)) = r.drop (r.filter fun p => !decide (h ≤ p.1)).length := by
        have h3 := ih
        rw [← h2] at h3
        exact (List.append_cancel_right h3)
      rw [← h2, ← h1]
theorem rot_at {Q : List Pt} (hs : Srt Q) {h : Int} {i : Nat} (hi : i < Q.length) : (rot Q h)[i]'(by rw [rot_len]; exact hi) = Q[(below Q h + i) % Q.length]'(Nat.mod_lt _ (by omega)) := by
  have hb : below Q h ≤ Q.length := List.length_filter_le _ _
  have e := rot_eq (h := h) hs
  have : (rot Q h)[i]? = Q[(below Q h + i) % Q.length]? := by
    rw [e]
    by_cases hc : below Q h + i < Q.length
    · rw [Nat.mod_eq_of_lt hc, List.getElem?_append_left (by rw [List.length_drop]; omega), List.getElem?_drop]
    · rw [List.getElem?_append_right (by rw [List.length_drop]; omega), List.length_drop, Nat.mod_eq_sub_mod (by omega), Nat.mod_eq_of_lt (by omega), List.getElem?_take_of_lt (by omega)]
      congr 1; omega
  rw [List.getElem?_eq_getElem (by rw [rot_len]; exact hi), List.getElem?_eq_getElem (Nat.mod_lt _ (by omega))] at this
  exact Option.some.inj this
theorem below_iff {Q : List Pt} (hs : Srt Q) {h : Int} {i : Nat} (hi : i < Q.length) : i < below Q h ↔ Q[i].1 < h := by
  induction Q generalizing i with
  | nil => simp at hi
  | cons x r ih =>
    have hs' : Srt r := (List.pairwise_cons.1 hs).2
    unfold below
    by_cases hx : h ≤ x.1
    · have hall : ∀ y ∈ r, h ≤ y.1 := fun y hy => by
        have := (List.pairwise_cons.1 hs).1 y hy
        rw [ptLt_false] at this
        have := fun h => this (Or.inl h)
        omega
      have e : (r.filter fun p => !decide (h ≤ p.1)) = [] := by
        rw [List.filter_eq_nil_iff]; intro y hy; simp [hall y hy]
      rw [List.filter_cons_of_neg (by simpa using hx), e]
      have hm : (x :: r)[i] ∈ x :: r := List.getElem_mem hi
      rcases List.mem_cons.1 hm with h1 | h1
      · rw [h1]; simp; omega
      · have := hall _ h1; simp; omega
    · rw [List.filter_cons_of_pos (by simpa using hx), List.length_cons]
      cases i with
      | zero => simp; omega
      | succ i =>
        have := ih hs' (i := i) (by simpa using hi)
        unfold below at this
        simp only [List.getElem_cons_succ]
        omega
end Rg
end Go.Proofs.YtpfpjcfacbfjaaaGreatDoor
