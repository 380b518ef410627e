/-
  Layer 8: an event's fields are few. Plain.
-/
import Derived.Test.YtjffffpfejmoiaaGreatDoorNFeedP
namespace Go.Proofs.YtjffffpfejmoiaaGreatDoor
open Go.RowKit Syn Hd Fr Ck
namespace Cn
theorem sized_flds (s : St) (c : UInt8) : (sized s c).fields = s.fields := by
  unfold sized
  repeat' split
  all_goals rfl
theorem ended_few {s : St} (c : UInt8) (h : s.fields.length ≤ 64) : (ended s c).fields.length ≤ 64 := by
  unfold ended
  repeat' split
  all_goals first
    | exact h
    | (show (s.fields ++ [_]).length ≤ 64; rw [List.length_append, List.length_singleton]; omega)
theorem step_few {s : St} (c : UInt8) (h : s.fields.length ≤ 64) : (Ck.step s c).fields.length ≤ 64 := by
  unfold Ck.step
  repeat' split
  all_goals first
    | (rw [sized_flds]; exact h)
    | exact h
    | exact ended_few c h
theorem wr_few : ∀ (l : List UInt8) (s : St), s.fields.length ≤ 64 → (wr s l).1.fields.length ≤ 64
  | [], s, h => h
  | c :: r, s, h => by
    unfold wr
    split
    · exact h
    · split
      · exact step_few c h
      · exact wr_few r _ (step_few c h)
structure EvF (e : Ev) : Prop where
  rf : e.rf.length ≤ 1000
  sf : e.sf.length ≤ 1000
  tr : e.tr.length ≤ 1000
theorem hEv_few {c : C} (h : hE c = 0) : EvF (hEv c) := by
  have hl : lnE c.buf = 0 := by
    unfold hE at h
    split at h
    · unfold rrE at h; split at h
      · assumption
      · exact h
    · exact rqE_ok h
  have h65 := lnE_few hl
  unfold hEv
  split
  · refine ⟨Nat.zero_le _, ?_, Nat.zero_le _⟩
    show (rrL c.buf).length ≤ 1000
    unfold rrL
    rw [List.length_map, List.length_tail]; omega
  · refine ⟨?_, Nat.zero_le _, Nat.zero_le _⟩
    show (rqL c.buf).length ≤ 1000
    unfold rqL rqF
    rw [List.length_map, List.length_map, List.length_tail]; omega
theorem evs_few {d : List UInt8} {dn : Bool} {tr : Flds} (h : tr.length ≤ 1000) : ∀ e ∈ evs d dn tr, EvF e := by
  intro e he
  unfold evs at he
  rcases List.mem_append.1 he with he | he
  · split at he
    · cases he
    · obtain rfl := List.mem_singleton.1 he
      exact ⟨Nat.zero_le _, Nat.zero_le _, Nat.zero_le _⟩
  · split at he
    · obtain rfl := List.mem_singleton.1 he
      exact ⟨Nat.zero_le _, Nat.zero_le _, h⟩
    · cases he
def Few (c : C) : Prop := c.dec.fields.length ≤ 64
theorem pC_few {c : C} (h : Few c) : Few (pC c) ∧ ∀ e ∈ pEv c, EvF e := by
  have h1 : (pTr c).length ≤ 1000 := by
    unfold pTr
    split
    · have := wr_few c.buf c.dec h; omega
    · exact Nat.zero_le _
  refine ⟨?_, evs_few h1⟩
  show (pDec c).fields.length ≤ 64
  unfold pDec
  split
  · exact wr_few c.buf c.dec h
  · exact h
theorem sC_few (c : C) : Few (sC c) := Nat.zero_le _
theorem R_few : ∀ (k : Nat) (c : C), ms c ≤ k → Few c → Few (R c).1 ∧ ∀ e ∈ (R c).2, EvF e := by
  intro k
  induction k using Nat.strongRecOn with
  | ind k ih =>
    intro c hk hf
    have hno : ∀ e ∈ ([] : List Ev), EvF e := fun e he => by cases he
    by_cases h0 : c.err = 0
    · by_cases hb : c.body = true
      · have hp := pC_few hf
        by_cases n1 : (pC c).body = true
        · rw [R_body h0 hb n1]
          exact hp
        · rw [R_done h0 hb n1]
          have hm := ms_pC hb n1
          have := ih (ms (pC c)) (by omega) (pC c) (Nat.le_refl _) hp.1
          exact ⟨this.1, fun e he => (List.mem_append.1 he).elim (hp.2 e) (this.2 e)⟩
      · by_cases hn : c.buf = []
        · rw [R_nil h0 hb hn]; exact ⟨hf, hno⟩
        · by_cases hw : wait c
          · rw [R_wait h0 hb hn hw]; exact ⟨hf, hno⟩
          · by_cases hs : sE c = 0
            · have hm := ms_sC hs
              rw [R_head h0 hb hn hw hs]
              have := ih (ms (sC c)) (by omega) (sC c) (Nat.le_refl _) (sC_few c)
              refine ⟨this.1, fun e he => ?_⟩
              rcases List.mem_cons.1 he with rfl | he
              · exact hEv_few (sE_hE hs).1
              · exact this.2 e he
            · rw [R_bad h0 hb hn hw hs]; exact ⟨hf, hno⟩
    · rw [R_err h0]; exact ⟨hf, hno⟩
theorem write_few {c : C} (h : Few c) (b : List UInt8) : Few (write c b).1 ∧ ∀ e ∈ (write c b).2, EvF e := by
  unfold write
  split
  · exact ⟨h, fun e he => by cases he⟩
  · exact R_few _ (app c b) (Nat.le_refl _) h
theorem close_few {c : C} (h : Few c) : Few (close c).1 ∧ ∀ e ∈ (close c).2, EvF e := by
  have hno : ∀ e ∈ ([] : List Ev), EvF e := fun e he => by cases he
  unfold close
  split
  · exact ⟨h, hno⟩
  · split
    · refine ⟨h, fun e he => ?_⟩
      obtain rfl := List.mem_singleton.1 he
      exact ⟨Nat.zero_le _, Nat.zero_le _, Nat.zero_le _⟩
    · split <;> exact ⟨h, hno⟩
theorem feed_few : ∀ (l : List (List UInt8)) (c : C), Few c → Few (feed c l).1 ∧ ∀ e ∈ (feed c l).2, EvF e
  | [], _, h => ⟨h, fun e he => by cases he⟩
  | b :: l, c, h => by
    have h1 := write_few h b
    have h2 := feed_few l _ h1.1
    exact ⟨h2.1, fun e he => (List.mem_append.1 he).elim (h1.2 e) (h2.2 e)⟩
theorem new_few (r : Bool) (ms : List (List UInt8)) : Few (new r ms) := Nat.zero_le _
/-- What is joined is as few. -/
theorem jadd_few {o : List Ev} {e : Ev} (ho : ∀ x ∈ o, EvF x) (he : EvF e) : ∀ x ∈ jadd o e, EvF x := by
  intro x hx
  unfold jadd at hx
  split at hx
  · rename_i y hy
    split at hx
    · rcases List.mem_append.1 hx with hx | hx
      · exact ho x (List.dropLast_sublist o |>.subset hx)
      · obtain rfl := List.mem_singleton.1 hx
        have := ho y (List.mem_of_getLast? hy)
        exact ⟨this.rf, this.sf, this.tr⟩
    · rcases List.mem_append.1 hx with hx | hx
      · exact ho x hx
      · obtain rfl := List.mem_singleton.1 hx; exact he
  · rcases List.mem_append.1 hx with hx | hx
    · exact ho x hx
    · obtain rfl := List.mem_singleton.1 hx; exact he
theorem foldl_few : ∀ (l o : List Ev), (∀ x ∈ o, EvF x) → (∀ x ∈ l, EvF x) → ∀ x ∈ l.foldl jadd o, EvF x
  | [], _, ho, _ => ho
  | e :: l, o, ho, hl => foldl_few l (jadd o e) (jadd_few ho (hl e List.mem_cons_self)) fun x hx => hl x (List.mem_cons_of_mem _ hx)
theorem joined_few {l : List Ev} (h : ∀ x ∈ l, EvF x) : ∀ x ∈ joined l, EvF x := foldl_few l [] (fun x hx => by cases hx) h
/-- How many events bytes can make. -/
def pot (c : C) : Nat := 2 * c.buf.length + (if c.body = true then 2 else 0)
theorem pData_cnt (c : C) (h : pData c ≠ []) : (pBuf c).length + 1 ≤ c.buf.length := by
  unfold pData at h
  unfold pBuf
  by_cases h4 : c.kind = 4
  · rw [if_pos h4] at h
    rw [if_pos h4]
    have := List.length_pos_iff.2 h
    show 0 + 1 ≤ _; omega
  · rw [if_neg h4] at h
    rw [if_neg h4]
    by_cases h3 : c.kind = 3
    · rw [if_pos h3] at h
      rw [if_pos h3, List.length_drop]
      have a := List.length_pos_iff.2 h
      have b := wr_data_count c.buf c.dec
      have d := wr_count c.buf c.dec
      omega
    · rw [if_neg h3] at h
      rw [if_neg h3, List.length_drop]
      have a := List.length_pos_iff.2 h
      rw [List.length_take] at a
      omega
theorem pC_cnt {c : C} (hb : c.body = true) : (pEv c).length + pot (pC c) ≤ pot c := by
  have h1 : (pEv c).length = (if pData c = [] then 0 else 1) + (if pDone c = true then 1 else 0) := by
    unfold pEv evs
    rw [List.length_append]
    congr 1
    · split <;> rfl
    · split <;> rfl
  have h2 := pBuf_le c
  have h3 := pData_cnt c
  rw [h1]
  unfold pot
  rw [if_pos hb]
  show _ + (2 * (pBuf c).length + (if (!pDone c) = true then 2 else 0)) ≤ _
  by_cases hd : pData c = []
  · rw [if_pos hd]
    cases pDone c
    · rw [if_neg (by decide), if_pos (show (!false) = true from rfl)]; omega
    · rw [if_pos rfl, if_neg (show ¬ (!true) = true by decide)]; omega
  · rw [if_neg hd]
    have := h3 hd
    cases pDone c
    · rw [if_neg (by decide), if_pos (show (!false) = true from rfl)]; omega
    · rw [if_pos rfl, if_neg (show ¬ (!true) = true by decide)]; omega
theorem R_cnt : ∀ (k : Nat) (c : C), ms c ≤ k → (R c).2.length + pot (R c).1 ≤ pot c := by
  intro k
  induction k using Nat.strongRecOn with
  | ind k ih =>
    intro c hk
    by_cases h0 : c.err = 0
    · by_cases hb : c.body = true
      · have hp := pC_cnt hb
        by_cases n1 : (pC c).body = true
        · rw [R_body h0 hb n1]
          exact hp
        · rw [R_done h0 hb n1]
          have hm := ms_pC hb n1
          have := ih (ms (pC c)) (by omega) (pC c) (Nat.le_refl _)
          show (pEv c ++ (R (pC c)).2).length + pot (R (pC c)).1 ≤ _
          rw [List.length_append]; omega
      · by_cases hn : c.buf = []
        · rw [R_nil h0 hb hn]; exact Nat.le_of_eq (Nat.zero_add _)
        · by_cases hw : wait c
          · rw [R_wait h0 hb hn hw]; exact Nat.le_of_eq (Nat.zero_add _)
          · by_cases hs : sE c = 0
            · have hm := ms_sC hs
              rw [R_head h0 hb hn hw hs]
              have := ih (ms (sC c)) (by omega) (sC c) (Nat.le_refl _)
              show ((R (sC c)).2.length + 1) + pot (R (sC c)).1 ≤ _
              have h2 : pot (sC c) + 6 ≤ pot c := by
                unfold pot
                rw [if_neg hb]
                have := hm.2
                split <;> omega
              omega
            · rw [R_bad h0 hb hn hw hs]; exact Nat.le_of_eq (Nat.zero_add _)
    · rw [R_err h0]; exact Nat.le_of_eq (Nat.zero_add _)
theorem write_cnt (c : C) (b : List UInt8) : (write c b).2.length + pot (write c b).1 ≤ pot c + 2 * b.length := by
  unfold write
  split
  · show 0 + pot c ≤ _; omega
  · have h1 := R_cnt _ (app c b) (Nat.le_refl _)
    have h2 : pot (app c b) = pot c + 2 * b.length := by
      unfold pot
      show 2 * (c.buf ++ b).length + (if c.body = true then 2 else 0) = _
      rw [List.length_append]; omega
    omega
theorem close_cnt (c : C) : (close c).2.length ≤ 1 := by
  unfold close
  split
  · exact Nat.zero_le _
  · split
    · exact Nat.le_refl _
    · split <;> exact Nat.zero_le _
theorem feed_cnt : ∀ (l : List (List UInt8)) (c : C), (feed c l).2.length + pot (feed c l).1 ≤ pot c + 2 * l.flatten.length
  | [], c => by show 0 + pot c ≤ _; omega
  | b :: l, c => by
    have h1 := write_cnt c b
    have h2 := feed_cnt l (write c b).1
    show ((write c b).2 ++ (feed (write c b).1 l).2).length + pot (feed (write c b).1 l).1 ≤ _
    rw [List.length_append, List.flatten_cons, List.length_append]
    omega
theorem pot_new (r : Bool) (ms : List (List UInt8)) : pot (new r ms) = 0 := rfl
theorem jadd_cnt (o : List Ev) (e : Ev) : (jadd o e).length ≤ o.length + 1 := by
  unfold jadd
  split
  · rename_i y hy
    split
    · rw [List.length_append, List.length_dropLast, List.length_singleton]; omega
    · rw [List.length_append, List.length_singleton]; exact Nat.le_refl _
  · rw [List.length_append, List.length_singleton]; exact Nat.le_refl _
theorem foldl_cnt : ∀ (l o : List Ev), (l.foldl jadd o).length ≤ o.length + l.length
  | [], _ => Nat.le_refl _
  | e :: l, o => by
    have h1 := foldl_cnt l (jadd o e)
    have h2 := jadd_cnt o e
    show (l.foldl jadd (jadd o e)).length ≤ o.length + (l.length + 1)
    omega
end Cn
end Go.Proofs.YtjffffpfejmoiaaGreatDoor
