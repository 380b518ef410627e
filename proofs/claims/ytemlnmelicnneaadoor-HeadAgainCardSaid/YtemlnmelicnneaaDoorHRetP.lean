/-
  Layer 5: a request that is written is read back: the plain law.
-/
import Derived.Test.YtemlnmelicnneaaDoorHBackP
import Derived.Test.YtemlnmelicnneaaDoorHRq
import Derived.Test.YtemlnmelicnneaaDoorHRdReq
namespace Go.Proofs.YtemlnmelicnneaaDoor
open Go.RowKit Syn Fr Hd Ck

namespace Hd
theorem sp_mem (k : UInt8) : ∀ (s : List UInt8), ∀ c ∈ s, c = k ∨ ∃ x ∈ sp k s, c ∈ x
  | [], c, h => by simp at h
  | y :: r, c, h => by
    unfold sp
    by_cases hy : y = k
    · rw [if_pos hy]
      rcases List.mem_cons.1 h with rfl | h
      · exact .inl hy
      · rcases sp_mem k r c h with e | ⟨x, hx, hc⟩
        · exact .inl e
        · exact .inr ⟨x, by simp [hx], hc⟩
    · rw [if_neg hy]
      cases hs : sp k r with
      | nil => exact absurd hs (sp_pos k r)
      | cons z zs =>
        rcases List.mem_cons.1 h with rfl | h
        · exact .inr ⟨c :: z, List.mem_cons_self .., List.mem_cons_self ..⟩
        · rcases sp_mem k r c h with e | ⟨x, hx, hc⟩
          · exact .inl e
          · rw [hs] at hx
            rcases List.mem_cons.1 hx with rfl | hx
            · exact .inr ⟨_, List.mem_cons_self .., List.mem_cons_of_mem _ hc⟩
            · exact .inr ⟨x, List.mem_cons_of_mem _ hx, hc⟩
theorem host_chars {s : List UInt8} (h : hostB s = true) : ∀ c ∈ s, 45 ≤ c.toNat ∧ c.toNat ≤ 122 := by
  intro c hc
  unfold hostB at h
  rw [Bool.and_eq_true, List.all_eq_true] at h
  rcases sp_mem 46 s c hc with rfl | ⟨x, hx, hcx⟩
  · decide
  · have h1 := h.2 x hx
    unfold labB at h1
    rw [Bool.and_eq_true, List.all_eq_true] at h1
    have h2 := h1.2 c hcx
    unfold hch aln dash at h2
    simp only [Bool.or_eq_true, Bool.and_eq_true, decide_eq_true_eq] at h2
    omega
theorem low_ne {c : UInt8} {k : UInt8} (hk : k.toNat < 65) : low c = k ↔ c = k := by
  by_cases hu : 65 ≤ c.toNat ∧ c.toNat ≤ 90
  · have h1 := low_up hu.1 hu.2
    constructor
    · intro e; rw [e] at h1; omega
    · intro e; rw [e] at hu; omega
  · rw [low_no (by omega)]
theorem hch_low (c : UInt8) : hch (low c) = hch c := by
  by_cases hu : 65 ≤ c.toNat ∧ c.toNat ≤ 90
  · have h1 := low_up hu.1 hu.2
    unfold hch aln dash
    rw [h1, Bool.eq_iff_iff]
    simp only [Bool.or_eq_true, Bool.and_eq_true, decide_eq_true_eq]
    omega
  · rw [low_no (by omega)]
theorem dash_low (c : UInt8) : dash (low c) = dash c := by
  by_cases hu : 65 ≤ c.toNat ∧ c.toNat ≤ 90
  · have h1 := low_up hu.1 hu.2
    unfold dash
    rw [h1, decide_eq_decide]
    omega
  · rw [low_no (by omega)]
theorem lab_low (x : List UInt8) : labB (Syn.lower x) = labB x := by
  unfold labB
  rw [lower_length]
  have h1 : (Syn.lower x).head?.any dash = x.head?.any dash := by
    cases x with
    | nil => rfl
    | cons a r => exact dash_low a
  have h2 : (Syn.lower x).getLast?.any dash = x.getLast?.any dash := by
    unfold Syn.lower
    rw [List.getLast?_map]
    cases x.getLast? with
    | none => rfl
    | some a => exact dash_low a
  have h3 : (Syn.lower x).all hch = x.all hch := by
    unfold Syn.lower
    rw [List.all_map]
    congr 1
    funext c
    exact hch_low c
  rw [h1, h2, h3]
theorem sp_low : ∀ s : List UInt8, sp 46 (Syn.lower s) = (sp 46 s).map Syn.lower
  | [] => rfl
  | y :: r => by
    have ih := sp_low r
    show sp 46 (low y :: Syn.lower r) = _
    unfold sp
    by_cases hy : y = 46
    · rw [if_pos hy, if_pos ((low_ne (by decide)).2 hy), ih]; rfl
    · rw [if_neg hy, if_neg (fun e => hy ((low_ne (by decide)).1 e)), ih]
      cases sp 46 r with
      | nil => rfl
      | cons z zs => rfl
theorem host_low {x : List UInt8} (h : hostB x = true) : hostB (Syn.lower x) = true := by
  unfold hostB at *
  rw [lower_length, sp_low, List.all_map]
  rw [Bool.and_eq_true] at *
  refine ⟨h.1, ?_⟩
  rw [List.all_eq_true] at *
  intro y hy
  show labB (Syn.lower y) = true
  rw [lab_low]; exact h.2 y hy
theorem drop_noblank : ∀ {x : List UInt8}, (∀ c ∈ x, Syn.blank c = false) → x.dropWhile Syn.blank = x
  | [], _ => rfl
  | c :: x, h => by rw [List.dropWhile_cons, if_neg (by rw [h c (by simp)]; decide)]
theorem trim_noblank {x : List UInt8} (h : ∀ c ∈ x, Syn.blank c = false) : trim x = x := by
  unfold trim trimL
  rw [drop_noblank h, drop_noblank (fun c hc => h c (by simpa using hc)), List.reverse_reverse]
theorem host_value {x : List UInt8} (h : hostB x = true) : vlE x = 0 ∧ vlV x = x := by
  have hc := host_chars h
  have hl : x.length ≤ 100 := by
    unfold hostB at h
    rw [Bool.and_eq_true, decide_eq_true_eq] at h
    exact h.1
  have h1 : cln x = true := by
    unfold cln
    rw [List.all_eq_true]
    intro c hcx
    have := hc c hcx
    unfold ctl ctlN
    simp
    omega
  have h2 : trim x = x := trim_noblank (fun c hcx => by
    have := hc c hcx
    unfold Syn.blank
    rw [Bool.or_eq_false_iff, beq_eq_false_iff_ne, beq_eq_false_iff_ne]
    constructor
    · intro e; rw [e] at this; exact absurd this.1 (by decide)
    · intro e; rw [e] at this; exact absurd this.1 (by decide))
  have hE : vlE x = 0 := by unfold vlE; rw [h1, if_pos rfl, h2, if_neg (by omega)]
  exact ⟨hE, by unfold vlV; rw [if_pos hE, h2]⟩
theorem hostN_ok : nmE hostN = 0 ∧ nmV hostN = hostN := by decide
/-- What is known of the canonical fields of a request that is written. -/
theorem wq_fields {l : List (List UInt8 × List UInt8)} {h : List UInt8} (hok : okCs l = true) (hx : hsX l = some h) :
    wqL l = (can l).map (rep hostN h) ∧ (∀ p ∈ wqL l, okR p) ∧ hsX (wqL l) = some h ∧ rqF (wqL l) = wqL l ∧ (lns (wqL l)).length = (lns l).length ∧ (wqL l).length = l.length := by
  obtain ⟨x, hv, rfl⟩ := hsX_val hx
  have hb : hostB x = true := by
    unfold hsX at hx
    rw [hv] at hx
    cases hh : hostB x with
    | true => rfl
    | false => simp [hh] at hx
  have hL : wqL l = (can l).map (rep hostN (Syn.lower x)) := by unfold wqL; rw [hx]; rfl
  have hv2 := host_value (host_low hb)
  have hO := okR_can hok
  have hF : ∀ p ∈ wqL l, okR p := by
    intro p hp
    rw [hL] at hp
    obtain ⟨q, hq, rfl⟩ := List.mem_map.1 hp
    unfold rep
    split
    · exact ⟨hostN_ok.1, hostN_ok.2, hv2.1, hv2.2⟩
    · exact hO q hq
  have hA : ∀ r : List (List UInt8 × List UInt8), allV (r.map (rep hostN (Syn.lower x))) hostN = (allV r hostN).map (fun _ => Syn.lower x) := by
    intro r
    induction r with
    | nil => rfl
    | cons p r ih =>
      rw [List.map_cons, allV_cons, allV_cons, ih, low_host]
      by_cases hp : Syn.lower p.1 = hostN
      · rw [if_pos hp, show rep hostN (Syn.lower x) p = (hostN, Syn.lower x) from if_pos hp, if_pos low_host]; rfl
      · rw [if_neg hp, show rep hostN (Syn.lower x) p = p from if_neg hp, if_neg hp]
  have hX : hsX (wqL l) = some (Syn.lower x) := by
    rw [hL]
    have := hA (can l)
    rw [allV_can hostN hok, hv] at this
    rw [hsX_good this (host_low hb), lower_lower]
  refine ⟨hL, hF, hX, ?_, ?_, ?_⟩
  · unfold rqF
    rw [hX, hL, List.map_map]
    refine List.map_congr_left fun p _ => ?_
    show rep hostN (Syn.lower x) (rep hostN (Syn.lower x) p) = rep hostN (Syn.lower x) p
    by_cases hp : Syn.lower p.1 = hostN
    · rw [show rep hostN (Syn.lower x) p = (hostN, Syn.lower x) from if_pos hp]; exact if_pos low_host
    · rw [show rep hostN (Syn.lower x) p = p from if_neg hp]; exact if_neg hp
  · rw [hL, ← lnsR_host hok hx, lnsR_repR]
  · rw [hL, List.length_map]; exact List.length_map ..
theorem line_back {m t : List UInt8} (hm : mthB m = true) (ht : tgtB m t = true) : rlM (wqS m t) = m ∧ rlT (wqS m t) = t ∧ rlV (wqS m t) = verB ∧ wqS m t ≠ [] ∧ clr (wqS m t) := by
  have hmc : ∀ c ∈ m, 65 ≤ c.toNat ∧ c.toNat ≤ 90 := by
    unfold mthB at hm
    rw [Bool.and_eq_true, List.all_eq_true] at hm
    intro c hc
    have := hm.1 c hc
    unfold upc at this
    simpa using this
  have htc : ∀ c ∈ t, 33 ≤ c.toNat ∧ c.toNat ≤ 126 := by
    unfold tgtB at ht
    rw [Bool.and_eq_true, Bool.and_eq_true, List.all_eq_true] at ht
    intro c hc
    have := ht.1.1 c hc
    unfold vis at this
    simpa using this
  have e : wqS m t = m ++ 32 :: (t ++ 32 :: verB) := by unfold wqS verB; simp
  obtain ⟨a1, a2⟩ := take32 m (t ++ 32 :: verB) (fun c hc e => by have := hmc c hc; rw [e] at this; exact absurd this.1 (by decide))
  obtain ⟨b1, b2⟩ := take32 t verB (fun c hc e => by have := htc c hc; rw [e] at this; exact absurd this.1 (by decide))
  have eR : stR (wqS m t) = t ++ 32 :: verB := by unfold stR; rw [e, a2]; rfl
  refine ⟨by unfold rlM stD; rw [e, a1], by unfold rlT stD; rw [eR, b1], by unfold rlV; rw [eR]; unfold stR; rw [b2]; rfl, by rw [e]; simp, fun c hc => ?_⟩
  rw [e, List.mem_append, List.mem_cons, List.mem_append, List.mem_cons] at hc
  rcases hc with hc | rfl | hc | rfl | hc
  · have := hmc c hc; omega
  · decide
  · have := htc c hc; omega
  · decide
  · have : ∀ c ∈ verB, c.toNat ≠ 0 ∧ c.toNat ≠ 10 ∧ c.toNat ≠ 13 := by decide
    exact this c hc
/-- What is written is read. -/
theorem req_back {m t : List UInt8} {l : List (List UInt8 × List UInt8)} (rest : List UInt8) (h : wqE m t l = 0) :
    rqE (wqB m t l ++ rest) = 0 ∧ rqM (wqB m t l ++ rest) = m ∧ rqT (wqB m t l ++ rest) = t ∧ rqL (wqB m t l ++ rest) = wqL l ∧ endF (wqB m t l ++ rest) = ((wqB m t l).length : Int) := by
  have hB : wqB m t l = headB (wqS m t) (wqL l) := by unfold wqB; rw [if_pos h]
  have hw := h
  unfold wqE at hw
  have hlg : largeB (m.length + t.length + 10) l = false := by
    cases hh : largeB (m.length + t.length + 10) l with
    | false => rfl
    | true => rw [if_pos hh] at hw; cases hw
  rw [if_neg (by rw [hlg]; decide)] at hw
  have hm : mthB m = true := by
    cases hh : mthB m with
    | true => rfl
    | false => rw [if_pos hh] at hw; cases hw
  rw [if_neg (by rw [hm]; decide)] at hw
  have ht : tgtB m t = true := by
    cases hh : tgtB m t with
    | true => rfl
    | false => rw [if_pos hh] at hw; cases hw
  rw [if_neg (by rw [ht]; decide)] at hw
  have hok : okCs l = true := by
    cases hh : okCs l with
    | true => rfl
    | false => rw [if_pos hh] at hw; cases hw
  rw [if_neg (by rw [hok]; decide)] at hw
  obtain ⟨hv, hx⟩ : ∃ h, hsX l = some h := by
    cases hh : hsX l with
    | none => rw [if_pos hh] at hw; cases hw
    | some h => exact ⟨h, rfl⟩
  obtain ⟨hL, hO, hX, hrq, hln, hle⟩ := wq_fields hok hx
  obtain ⟨s1, s2, s3, s4, s5⟩ := line_back hm ht
  have hlines : ∀ x ∈ wqS m t :: (wqL l).map ftx, x ≠ [] ∧ clr x := by
    intro x hx
    rcases List.mem_cons.1 hx with rfl | hx
    · exact ⟨s4, s5⟩
    · obtain ⟨p, hp, rfl⟩ := List.mem_map.1 hx
      exact ftx_line (hO p hp)
  unfold largeB at hlg
  rw [Bool.or_eq_false_iff, decide_eq_false_iff_not, decide_eq_false_iff_not] at hlg
  have hlen : (headB (wqS m t) (wqL l)).length = m.length + t.length + 10 + 2 + ((lns l).length + 2) := by
    have e1 : (wqS m t).length = m.length + t.length + 10 := by unfold wqS; simp only [List.length_append, List.length_cons, List.length_nil]; omega
    unfold headB
    rw [List.length_append, List.length_append, List.length_append, e1, hln]
    rfl
  obtain ⟨t1, t2, t3⟩ := lines_txt rest hlines (by rw [← head_len, hlen]; omega) (by rw [List.length_map, hle]; omega)
  obtain ⟨f1, f2⟩ := hds_ftx hO
  rw [hB, head_txt]
  refine ⟨?_, ?_, ?_, ?_, ?_⟩
  · unfold rqE
    rw [if_pos t1, t2, rqX_cons, s1, s2, if_neg (by rw [hm]; decide), if_neg (by rw [ht]; decide), if_pos s3, if_pos f1, f2, if_neg (by rw [hX]; exact fun h => by cases h)]
  · unfold rqM
    rw [t2]; exact s1
  · unfold rqT
    rw [t2]; exact s2
  · unfold rqL
    rw [t2]
    show rqF (((wqL l).map ftx).map hdV) = _
    rw [f2]; exact hrq
  · rw [t3, head_len]
end Hd
end Go.Proofs.YtemlnmelicnneaaDoor
