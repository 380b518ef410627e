/-
  Several texts in one: NRetP, NWgtP.
-/
import Derived.Test.YtjffffpfejmoiaaGreatDoorNFmtW
import Derived.Test.YtjffffpfejmoiaaGreatDoorDJoin
/-
  Layer 8, plain: what a reader of requests tells can be given to Format.
-/
namespace Go.Proofs.YtjffffpfejmoiaaGreatDoor
open Go.RowKit Syn Hd Fr Ck
namespace Cn
theorem dsum_evs' (d : List UInt8) (dn : Bool) (tr : Flds) : dsum (evs d dn tr) = d.length := by
  unfold evs
  rw [dsum_app]
  have h1 : dsum (if d = [] then [] else [evData d]) = d.length := by
    split
    · rename_i h; subst h; rfl
    · exact dsum_one _
  have h2 : dsum (if dn = true then [evEnd tr] else []) = 0 := by split <;> rfl
  omega
theorem pC_dsum' (c : C) : dsum (pEv c) + (pBuf c).length ≤ c.buf.length := by
  unfold pEv
  rw [dsum_evs']
  unfold pData pBuf
  by_cases h4 : c.kind = 4
  · rw [if_pos h4, if_pos h4]; exact Nat.le_refl _
  · rw [if_neg h4, if_neg h4]
    by_cases h3 : c.kind = 3
    · rw [if_pos h3, if_pos h3, List.length_drop]
      have a := wr_data_count c.buf c.dec
      have b := wr_count c.buf c.dec
      omega
    · rw [if_neg h3, if_neg h3, List.length_take, List.length_drop]; omega
theorem R_dsum' : ∀ (k : Nat) (c : C), ms c ≤ k → dsum (R c).2 + (R c).1.buf.length ≤ c.buf.length := by
  intro k
  induction k using Nat.strongRecOn with
  | ind k ih =>
    intro c hk
    have h00 : dsum ([] : List Ev) = 0 := rfl
    by_cases h0 : c.err = 0
    · by_cases hb : c.body = true
      · have hp := pC_dsum' c
        by_cases n1 : (pC c).body = true
        · rw [R_body h0 hb n1]
          exact hp
        · rw [R_done h0 hb n1]
          have hm := ms_pC hb n1
          have := ih (ms (pC c)) (by omega) (pC c) (Nat.le_refl _)
          have hb2 : (pC c).buf = pBuf c := rfl
          rw [hb2] at this
          show dsum (pEv c ++ (R (pC c)).2) + (R (pC c)).1.buf.length ≤ _
          rw [dsum_app]; omega
      · by_cases hn : c.buf = []
        · rw [R_nil h0 hb hn]; show dsum [] + c.buf.length ≤ _; omega
        · by_cases hw : wait c
          · rw [R_wait h0 hb hn hw]; show dsum [] + c.buf.length ≤ _; omega
          · by_cases hs : sE c = 0
            · have hm := ms_sC hs
              rw [R_head h0 hb hn hw hs]
              have := ih (ms (sC c)) (by omega) (sC c) (Nat.le_refl _)
              have hd : (hEv c).data = [] := by unfold hEv; split <;> rfl
              show dsum (hEv c :: (R (sC c)).2) + (R (sC c)).1.buf.length ≤ _
              rw [dsum_cons, hd]
              have := hm.2
              show 0 + _ + _ ≤ _
              omega
            · rw [R_bad h0 hb hn hw hs]; show dsum [] + c.buf.length ≤ _; omega
    · rw [R_err h0]; show dsum [] + c.buf.length ≤ _; omega
theorem write_dsum' (c : C) (b : List UInt8) : dsum (write c b).2 + (write c b).1.buf.length ≤ c.buf.length + b.length := by
  unfold write
  split
  · show dsum [] + c.buf.length ≤ _
    have h00 : dsum ([] : List Ev) = 0 := rfl
    omega
  · have h := R_dsum' _ (app c b) (Nat.le_refl _)
    have e : (app c b).buf.length = c.buf.length + b.length := List.length_append
    omega
def Sml (l : Flds) : Prop := ∀ p ∈ l, p.1.length ≤ 100000 ∧ p.2.length ≤ 100000
theorem fline_sml {x : List UInt8} {f : List UInt8 × List UInt8} (h : fline x = some f) : f.1.length ≤ 100000 ∧ f.2.length ≤ 100000 := by
  unfold fline at h
  split at h
  · cases h
  · split at h
    · rename_i h1
      cases h
      exact ⟨Nat.le_trans (nmV_len _) (by decide), Nat.le_trans (vlV_len h1.2.1) (by decide)⟩
    · cases h
theorem step_sml {s : St} (c : UInt8) (h : Sml s.fields) : Sml (Ck.step s c).fields := by
  unfold Ck.step
  repeat' split
  all_goals first
    | (rw [sized_flds]; exact h)
    | exact h
    | skip
  unfold ended
  repeat' split
  all_goals first
    | exact h
    | skip
  rename_i f hf _
  intro p hp
  have hp' : p ∈ s.fields ++ [f] := hp
  rcases List.mem_append.1 hp' with hp | hp
  · exact h p hp
  · obtain rfl := List.mem_singleton.1 hp
    exact fline_sml hf
theorem wr_sml : ∀ (l : List UInt8) (s : St), Sml s.fields → Sml (wr s l).1.fields
  | [], s, h => h
  | c :: r, s, h => by
    unfold wr
    split
    · exact h
    · split
      · exact step_sml c h
      · exact wr_sml r _ (step_sml c h)
/-- As EvQ, without the data's length. -/
structure EvK (e : Ev) : Prop where
  kind : e.kind = 1 ∨ e.kind = 2 ∨ e.kind = 3
  m : e.kind = 1 → e.m ≠ []
  mt : e.m.length + e.t.length ≤ 50000
  rf : Fr.Few e.rf
  trl : e.tr.length ≤ 1000
  tr : Sml e.tr
theorem few_nil : Fr.Few ([] : Flds) := ⟨Nat.zero_le _, fun p hp => by cases hp⟩
theorem hEv_K {c : C} (hr : c.resp = false) (h : hE c = 0) : EvK (hEv c) := by
  have h1 : rqE c.buf = 0 := by unfold hE at h; rwa [if_neg (by rw [hr]; decide)] at h
  have he : hEv c = evReq (rqM c.buf) (rqT c.buf) (rqL c.buf) := by unfold hEv; rw [if_neg (by rw [hr]; decide)]
  rw [he]
  obtain ⟨n, -, -, -, -, -, -, r1, r2, -⟩ := rq_read h1
  refine ⟨.inl rfl, fun _ e => ?_, by show (rqM c.buf).length + (rqT c.buf).length ≤ _; omega, few_rq h1, Nat.zero_le _, fun p hp => by cases hp⟩
  have e' : rqM c.buf = [] := e
  have hx : rqX (lnL c.buf) = 0 := by unfold rqE at h1; rwa [if_pos (rqE_ok h1)] at h1
  have hm : mthB (rqM c.buf) = true := by
    cases hh : mthB (rqM c.buf) with
    | true => rfl
    | false =>
      unfold rqX at hx
      have hh' : mthB (rlM ((lnL c.buf).headD [])) = false := hh
      rw [if_pos hh'] at hx; cases hx
  rw [e'] at hm
  cases hm
theorem evs_K {d : List UInt8} {dn : Bool} {tr : Flds} (h : tr.length ≤ 1000) (hs : Sml tr) : ∀ e ∈ evs d dn tr, EvK e := by
  have hno : Sml [] := fun p hp => by cases hp
  intro e he
  unfold evs at he
  rcases List.mem_append.1 he with he | he
  · split at he
    · cases he
    · obtain rfl := List.mem_singleton.1 he
      exact ⟨.inr (.inl rfl), fun h => (by cases h), Nat.zero_le _, few_nil, Nat.zero_le _, hno⟩
  · split at he
    · obtain rfl := List.mem_singleton.1 he
      exact ⟨.inr (.inr rfl), fun h => (by cases h), Nat.zero_le _, few_nil, h, hs⟩
    · cases he
theorem R_K : ∀ (k : Nat) (c : C), ms c ≤ k → Few c → Sml c.dec.fields → c.resp = false → Few (R c).1 ∧ Sml (R c).1.dec.fields ∧ (R c).1.resp = false ∧ ∀ e ∈ (R c).2, EvK e := by
  intro k
  induction k using Nat.strongRecOn with
  | ind k ih =>
    intro c hk hf hs hr
    have hno : ∀ e ∈ ([] : List Ev), EvK e := fun e he => by cases he
    by_cases h0 : c.err = 0
    · by_cases hb : c.body = true
      · have h1 : (pTr c).length ≤ 1000 := by
          unfold pTr
          split
          · have := wr_few c.buf c.dec hf; omega
          · exact Nat.zero_le _
        have h2 : Sml (pTr c) := by
          unfold pTr
          split
          · exact wr_sml _ _ hs
          · intro p hp; cases hp
        have h3 : Few (pC c) := (pC_few hf).1
        have h4 : Sml (pC c).dec.fields := by
          show Sml (pDec c).fields
          unfold pDec
          split
          · exact wr_sml _ _ hs
          · exact hs
        have hp := evs_K (d := pData c) (dn := pDone c) h1 h2
        by_cases n1 : (pC c).body = true
        · rw [R_body h0 hb n1]
          exact ⟨h3, h4, hr, hp⟩
        · rw [R_done h0 hb n1]
          have hm := ms_pC hb n1
          obtain ⟨i1, i2, i3, i4⟩ := ih (ms (pC c)) (by omega) (pC c) (Nat.le_refl _) h3 h4 hr
          exact ⟨i1, i2, i3, fun e he => (List.mem_append.1 he).elim (hp e) (i4 e)⟩
      · by_cases hn : c.buf = []
        · rw [R_nil h0 hb hn]; exact ⟨hf, hs, hr, hno⟩
        · by_cases hw : wait c
          · rw [R_wait h0 hb hn hw]; exact ⟨hf, hs, hr, hno⟩
          · by_cases hse : sE c = 0
            · have hm := ms_sC hse
              rw [R_head h0 hb hn hw hse]
              obtain ⟨i1, i2, i3, i4⟩ := ih (ms (sC c)) (by omega) (sC c) (Nat.le_refl _) (sC_few c) (fun p hp => by cases hp) hr
              refine ⟨i1, i2, i3, fun e he => ?_⟩
              rcases List.mem_cons.1 he with rfl | he
              · exact hEv_K hr (sE_hE hse).1
              · exact i4 e he
            · rw [R_bad h0 hb hn hw hse]; exact ⟨hf, hs, hr, hno⟩
    · rw [R_err h0]; exact ⟨hf, hs, hr, hno⟩
theorem write_K {c : C} (hf : Few c) (hs : Sml c.dec.fields) (hr : c.resp = false) (b : List UInt8) : Few (write c b).1 ∧ Sml (write c b).1.dec.fields ∧ (write c b).1.resp = false ∧ ∀ e ∈ (write c b).2, EvK e := by
  unfold write
  split
  · exact ⟨hf, hs, hr, fun e he => by cases he⟩
  · exact R_K _ (app c b) (Nat.le_refl _) hf hs hr
theorem dsum_mem : ∀ {l : List Ev} {e : Ev}, e ∈ l → e.data.length ≤ dsum l
  | x :: l, e, h => by
    rw [dsum_cons]
    rcases List.mem_cons.1 h with rfl | h
    · omega
    · have := dsum_mem h; omega
theorem new_Q (s : List UInt8) (hs : s.length ≤ 150000) : ∀ e ∈ (write (new false []) s).2, EvQ e := fun e he => by
  obtain ⟨-, -, -, h⟩ := write_K (c := new false []) (Nat.zero_le _) (fun p hp => by cases hp) rfl s
  obtain ⟨a, b, c, d, f, g⟩ := h e he
  have h1 := write_dsum' (new false []) s
  have h2 := dsum_mem he
  have h3 : (new false []).buf.length = 0 := rfl
  exact ⟨a, b, c, d, by omega, f, g⟩
end Cn
end Go.Proofs.YtjffffpfejmoiaaGreatDoor
/-
  Layer 8, plain: how long the bytes can be that Format makes of what was read.
-/
namespace Go.Proofs.YtjffffpfejmoiaaGreatDoor
open Go.RowKit Syn Hd Fr Ck
namespace Cn
def cost (e : Ev) : Nat := if e.kind = 1 then 8192 else if e.kind = 2 then e.data.length + 14 else (Ck.txt e.tr).length + 5
def wgt (l : List Ev) : Nat := (l.map cost).sum
theorem wgt_cons (e : Ev) (l : List Ev) : wgt (e :: l) = cost e + wgt l := by simp [wgt]
theorem wgt_app (a b : List Ev) : wgt (a ++ b) = wgt a + wgt b := by simp [wgt]
theorem fev_len {s s' : FS} {e : Ev} (hk : e.kind = 1 ∨ e.kind = 2 ∨ e.kind = 3) (hd : e.data.length ≤ 150000) (h : fev s e = (0, s')) : s'.out.length ≤ s.out.length + cost e := by
  unfold fev at h
  split at h
  · cases h
  · unfold cost
    rcases hk with k1 | k2 | k3
    · rw [if_pos k1] at h ⊢
      split at h
      · rename_i h1; exact absurd (congrArg Prod.fst h) h1
      · split at h
        · rename_i h1; exact absurd (congrArg Prod.fst h) h1
        · cases h
          show (s.out ++ _).length ≤ _
          rw [List.length_append]
          have := wqB_len (m := e.m) (t := e.t) (f := e.rf)
          omega
    · rw [if_neg (by omega), if_pos k2] at h ⊢
      have hc := chk_len e.data hd
      split at h
      · cases h
        show (s.out ++ _).length ≤ _
        rw [List.length_append]; omega
      · split at h
        · cases h
        · split at h
          · cases h
          · cases h
            show (s.out ++ _).length ≤ _
            rw [List.length_append]; omega
    · rw [if_neg (by omega), if_neg (by omega)] at h ⊢
      split at h
      · split at h
        · cases h
          show (s.out ++ lastB e.tr).length ≤ _
          unfold lastB
          simp only [List.length_append, List.length_cons, List.length_nil]; omega
        · cases h
      · split at h
        · cases h
        · split at h
          · cases h
          · cases h
            show s.out.length ≤ _
            omega
theorem fmt_len : ∀ (l : List Ev) (s : FS), (∀ e ∈ l, EvQ e) → (fmt s l).1 = 0 → (fmt s l).2.out.length ≤ s.out.length + wgt l
  | [], s, _, _ => Nat.le_add_right _ _
  | e :: l, s, hq, h => by
    have hx : fmt s (e :: l) = if (fev s e).1 ≠ 0 then ((fev s e).1, s) else fmt (fev s e).2 l := rfl
    by_cases h0 : (fev s e).1 = 0
    · rw [hx, if_neg (fun h => h h0)] at h ⊢
      have h1 := fev_len (s := s) (s' := (fev s e).2) (hq e List.mem_cons_self).kind (hq e List.mem_cons_self).data (Prod.ext h0 rfl)
      have h2 := fmt_len l _ (fun x hx => hq x (List.mem_cons_of_mem _ hx)) h
      rw [wgt_cons]; omega
    · rw [hx, if_pos h0] at h
      exact absurd h h0
def Sec (s : St) : Prop := (txt s.fields).length + s.text.length ≤ 3 * s.sect
theorem fline_len {x : List UInt8} {f : List UInt8 × List UInt8} (h : fline x = some f) : (fl f).length ≤ x.length + 3 := by
  have hx : (x.takeWhile (· != 58)).length + (x.dropWhile (· != 58)).length = x.length := by
    rw [← List.length_append, List.takeWhile_append_dropWhile]
  unfold fline at h
  split at h
  · cases h
  · rename_i v hv
    split at h
    · rename_i h1
      cases h
      have a1 := (nmE_lower h1.1).2
      have a2 := (nmE_tok h1.1).2.2
      have a3 := (vlE_cln h1.2.1).2.2
      have a4 : (trim v).length ≤ v.length := trim_le v
      rw [hv, List.length_cons] at hx
      unfold fl
      simp only [List.length_append, List.length_cons, List.length_nil]
      rw [a1, a2, a3, lower_length]
      omega
    · cases h
theorem txt_app (a b : Flds) : Ck.txt (a ++ b) = Ck.txt a ++ txt b := List.flatMap_append
theorem sized_sec (s : St) (c : UInt8) : (sized s c).fields = s.fields ∧ (sized s c).text = s.text ∧ (sized s c).sect = s.sect := by
  unfold sized
  repeat' split
  all_goals exact ⟨rfl, rfl, rfl⟩
theorem ended_sec {s : St} (c : UInt8) (h : Sec s) : Sec (ended s c) ∧ (ended s c).sect ≤ s.sect + 1 := by
  unfold Sec at h ⊢
  unfold ended
  split
  · exact ⟨h, Nat.le_succ _⟩
  · split
    · exact ⟨by show (Ck.txt s.fields).length + s.text.length ≤ 3 * (s.sect + 1); omega, Nat.le_refl _⟩
    · split
      · refine ⟨?_, Nat.le_refl _⟩
        show (txt s.fields).length + (s.text ++ [c]).length ≤ 3 * (s.sect + 1)
        rw [List.length_append, List.length_singleton]; omega
      · split
        · exact ⟨by show (Ck.txt s.fields).length + s.text.length ≤ 3 * (s.sect + 1); omega, Nat.le_refl _⟩
        · split
          · exact ⟨h, Nat.le_succ _⟩
          · rename_i f hf
            split
            · exact ⟨h, Nat.le_succ _⟩
            · refine ⟨?_, Nat.le_refl _⟩
              show (Ck.txt (s.fields ++ [f])).length + ([] : List UInt8).length ≤ 3 * (s.sect + 1)
              have h1 := fline_len hf
              have h2 : Ck.txt [f] = fl f := by unfold Ck.txt; simp
              rw [txt_app, List.length_append, h2, List.length_nil]
              omega
theorem step_sec {s : St} (c : UInt8) (h : Sec s) : Sec (Ck.step s c) ∧ (Ck.step s c).sect ≤ s.sect + 1 := by
  unfold Ck.step
  split
  · obtain ⟨a, b, d⟩ := sized_sec s c
    unfold Sec
    rw [a, b, d]
    exact ⟨h, Nat.le_succ _⟩
  · split
    · repeat' split
      all_goals exact ⟨h, Nat.le_succ _⟩
    · split
      · repeat' split
        all_goals exact ⟨h, Nat.le_succ _⟩
      · split
        · repeat' split
          all_goals exact ⟨h, Nat.le_succ _⟩
        · split
          · repeat' split
            all_goals exact ⟨h, Nat.le_succ _⟩
          · exact ended_sec c h
theorem wr_sec : ∀ (l : List UInt8) (s : St), Sec s → (wr s l).1.bad = 0 → Sec (wr s l).1 ∧ (wr s l).1.sect ≤ s.sect + (wr s l).2.2
  | [], s, h, _ => ⟨h, Nat.le_refl _⟩
  | c :: r, s, h, hb => by
    by_cases h1 : s.bad ≠ 0 ∨ s.place = 8
    · rw [wr_stop h1]; exact ⟨h, Nat.le_add_right _ _⟩
    · by_cases h2 : (Ck.step s c).bad ≠ 0
      · rw [wr_bad h1 h2] at hb; exact absurd hb h2
      · rw [wr_go h1 h2] at hb ⊢
        obtain ⟨a, b⟩ := step_sec c h
        obtain ⟨a2, b2⟩ := wr_sec r _ a hb
        exact ⟨a2, by show (wr (Ck.step s c) r).1.sect ≤ s.sect + ((wr (Ck.step s c) r).2.2 + 1); omega⟩
def Pw (c : C) : Nat := (64 - c.many) * 8197 + 18 * c.buf.length + (if c.body = true then 5 + (if c.kind = 3 then 3 * c.dec.sect else 0) else 0)
def SecC (c : C) : Prop := c.body = true → c.kind = 3 → Sec c.dec
theorem evs_wgt (d : List UInt8) (dn : Bool) (tr : Flds) : wgt (evs d dn tr) ≤ 15 * d.length + (if dn = true then (txt tr).length + 5 else 0) := by
  unfold evs
  rw [wgt_app]
  have h1 : wgt (if d = [] then [] else [evData d]) ≤ 15 * d.length := by
    split
    · exact Nat.zero_le _
    · rename_i h
      have := List.length_pos_iff.2 h
      rw [wgt_cons]
      show (d.length + 14) + 0 ≤ _
      omega
  have h2 : wgt (if dn = true then [evEnd tr] else []) ≤ (if dn = true then (txt tr).length + 5 else 0) := by
    split
    · rw [wgt_cons]; exact Nat.le_refl _
    · exact Nat.le_refl _
  omega
theorem R_wgt : ∀ (k : Nat) (c : C), ms c ≤ k → SecC c → (R c).1.err = 0 → wgt (R c).2 + Pw (R c).1 ≤ Pw c := by
  intro k
  induction k using Nat.strongRecOn with
  | ind k ih =>
    intro c hk hsc he
    have h00 : wgt ([] : List Ev) = 0 := rfl
    by_cases h0 : c.err = 0
    · by_cases hb : c.body = true
      · have hpe : pErr c = 0 := by
          cases hd : pDone c with
          | true => exact (done_ext [] hd).1
          | false =>
            have n1 : (pC c).body = true := by show (!pDone c) = true; rw [hd]; rfl
            rw [R_body h0 hb n1] at he
            exact he
        have hw := evs_wgt (pData c) (pDone c) (pTr c)
        have hev : pEv c = evs (pData c) (pDone c) (pTr c) := rfl
        rw [← hev] at hw
        have hle := pBuf_le c
        have key : wgt (pEv c) + Pw (pC c) ≤ Pw c ∧ SecC (pC c) := by
          have e1 : (pC c).buf = pBuf c := rfl
          have e2 : (pC c).many = c.many := rfl
          have e3 : (pC c).kind = c.kind := rfl
          have e4 : (pC c).dec = pDec c := rfl
          have e5 : (pC c).body = !pDone c := rfl
          unfold Pw SecC
          rw [e1, e2, e3, e4, e5, if_pos hb]
          by_cases h3 : c.kind = 3
          · have h4 : ¬ c.kind = 4 := by rw [h3]; decide
            have hb0 : (wr c.dec c.buf).1.bad = 0 := by unfold pErr at hpe; rw [if_pos h3] at hpe; omega
            obtain ⟨s1, s2⟩ := wr_sec c.buf c.dec (hsc hb h3) hb0
            have c1 := wr_data_count c.buf c.dec
            have c2 := wr_count c.buf c.dec
            have e6 : pDec c = (wr c.dec c.buf).1 := by unfold pDec; rw [if_pos h3]
            have e7 : pTr c = (wr c.dec c.buf).1.fields := by unfold pTr; rw [if_pos h3]
            have e8 : pData c = (wr c.dec c.buf).2.1 := by unfold pData; rw [if_neg h4, if_pos h3]
            have e9 : (pBuf c).length = c.buf.length - (wr c.dec c.buf).2.2 := by unfold pBuf; rw [if_neg h4, if_pos h3, List.length_drop]
            refine ⟨?_, fun _ _ => by rw [e6]; exact s1⟩
            unfold Sec at s1
            rw [e7, e8] at hw
            rw [if_pos h3, if_pos h3, e6, e9]
            cases hd : pDone c with
            | true =>
              rw [hd, if_pos rfl] at hw
              rw [if_neg (show ¬ (!true) = true by decide)]
              omega
            | false =>
              rw [hd, if_neg (by decide)] at hw
              rw [if_pos (show (!false) = true from rfl)]
              omega
          · refine ⟨?_, fun _ h => absurd h h3⟩
            rw [if_neg h3, if_neg h3]
            have e7 : pTr c = [] := by unfold pTr; rw [if_neg h3]
            have ht : (Ck.txt ([] : Flds)).length = 0 := rfl
            rw [e7, ht] at hw
            have hl : (pData c).length + (pBuf c).length ≤ c.buf.length := by
              have := pC_dsum' c
              rw [show dsum (pEv c) = (pData c).length from dsum_evs' _ _ _] at this
              exact this
            cases hd : pDone c with
            | true =>
              rw [hd, if_pos rfl] at hw
              rw [if_neg (show ¬ (!true) = true by decide)]
              omega
            | false =>
              rw [hd, if_neg (by decide)] at hw
              rw [if_pos (show (!false) = true from rfl)]
              omega
        by_cases n1 : (pC c).body = true
        · rw [R_body h0 hb n1]
          exact key.1
        · rw [R_done h0 hb n1] at he ⊢
          have hm := ms_pC hb n1
          have i1 := ih (ms (pC c)) (by omega) (pC c) (Nat.le_refl _) key.2 he
          have := key.1
          show wgt (pEv c ++ (R (pC c)).2) + Pw (R (pC c)).1 ≤ _
          rw [wgt_app]; omega
      · by_cases hn : c.buf = []
        · rw [R_nil h0 hb hn]; show wgt [] + Pw c ≤ Pw c; omega
        · by_cases hwt : wait c
          · rw [R_wait h0 hb hn hwt]; show wgt [] + Pw c ≤ Pw c; omega
          · by_cases hs : sE c = 0
            · have hm := ms_sC hs
              rw [R_head h0 hb hn hwt hs] at he ⊢
              have i1 := ih (ms (sC c)) (by omega) (sC c) (Nat.le_refl _) (fun _ _ => by show (Ck.txt []).length + 0 ≤ _; exact Nat.zero_le _) he
              have hmn := (sE_hE hs).2.2.1
              have hc : cost (hEv c) = 8192 := by unfold hEv cost; split <;> rfl
              have hP : Pw (sC c) + 8192 ≤ Pw c := by
                unfold Pw
                rw [if_neg hb]
                have e1 : (sC c).many = c.many + 1 := rfl
                have e2 : (sC c).dec.sect = 0 := rfl
                rw [e1, e2]
                have h2 := hm.2
                split
                · split <;> omega
                · omega
              show wgt (hEv c :: (R (sC c)).2) + Pw (R (sC c)).1 ≤ _
              rw [wgt_cons, hc]; omega
            · rw [R_bad h0 hb hn hwt hs]; show wgt [] + Pw c ≤ Pw c; omega
    · rw [R_err h0]; show wgt [] + Pw c ≤ Pw c; omega
/-- Events of one write are few. -/
theorem R_evs : ∀ (k : Nat) (c : C), ms c ≤ k → (R c).2.length ≤ 3 * (64 - c.many) + (if c.body = true then 2 else 0) := by
  intro k
  induction k using Nat.strongRecOn with
  | ind k ih =>
    intro c hk
    by_cases h0 : c.err = 0
    · by_cases hb : c.body = true
      · have h2 : (pEv c).length ≤ 2 := by
          unfold pEv evs
          rw [List.length_append]
          have h1 : (if pData c = [] then [] else [evData (pData c)]).length ≤ 1 := by split <;> simp
          have h3 : (if pDone c = true then [evEnd (pTr c)] else []).length ≤ 1 := by split <;> simp
          omega
        rw [if_pos hb]
        by_cases n1 : (pC c).body = true
        · rw [R_body h0 hb n1]
          show (pEv c).length ≤ _
          omega
        · rw [R_done h0 hb n1]
          have hm := ms_pC hb n1
          have i1 := ih (ms (pC c)) (by omega) (pC c) (Nat.le_refl _)
          rw [if_neg n1] at i1
          have e2 : (pC c).many = c.many := rfl
          rw [e2] at i1
          show (pEv c ++ (R (pC c)).2).length ≤ _
          rw [List.length_append]; omega
      · rw [if_neg hb]
        by_cases hn : c.buf = []
        · rw [R_nil h0 hb hn]; exact Nat.zero_le _
        · by_cases hwt : wait c
          · rw [R_wait h0 hb hn hwt]; exact Nat.zero_le _
          · by_cases hs : sE c = 0
            · have hm := ms_sC hs
              rw [R_head h0 hb hn hwt hs]
              have i1 := ih (ms (sC c)) (by omega) (sC c) (Nat.le_refl _)
              have hmn := (sE_hE hs).2.2.1
              have e1 : (sC c).many = c.many + 1 := rfl
              rw [e1] at i1
              show (R (sC c)).2.length + 1 ≤ _
              split at i1 <;> omega
            · rw [R_bad h0 hb hn hwt hs]; exact Nat.zero_le _
    · rw [R_err h0]; exact Nat.zero_le _
theorem write_evs (b : List UInt8) : (write (new false []) b).2.length ≤ 192 := by
  unfold write
  split
  · exact Nat.zero_le _
  · have h := R_evs _ (app (new false []) b) (Nat.le_refl _)
    exact h
theorem new_out (s : List UInt8) (hs : s.length ≤ 9000) (he : (write (new false []) s).1.err = 0) (hf : (fmt fs0 (write (new false []) s).2).1 = 0) : (fmt fs0 (write (new false []) s).2).2.out.length ≤ 900000 := by
  have h1 := fmt_len _ fs0 (new_Q s (by omega)) hf
  have h2 : wgt (write (new false []) s).2 ≤ 64 * 8197 + 18 * s.length := by
    by_cases hb : s = []
    · subst hb
      rw [write_none]
      exact Nat.zero_le _
    · rw [write_open rfl rfl hb] at he ⊢
      have h3 := R_wgt _ (app (new false []) s) (Nat.le_refl _) (fun h => by cases h) he
      have h4 : Pw (app (new false []) s) = 64 * 8197 + 18 * s.length + 0 := rfl
      omega
  have h5 : fs0.out.length = 0 := rfl
  omega
end Cn
end Go.Proofs.YtjffffpfejmoiaaGreatDoor
