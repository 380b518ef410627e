/-
  Layer 5: a request that is read can be written: the plain law.
-/
import Derived.Test.YtemlnmelicnneaaDoorHRetP
import Derived.Test.YtemlnmelicnneaaDoorHPreP
namespace Go.Proofs.YtemlnmelicnneaaDoor
open Go.RowKit Syn Fr Hd Ck

namespace Hd
theorem drop_idem {α : Type} (p : α → Bool) : ∀ l : List α, (l.dropWhile p).dropWhile p = l.dropWhile p
  | [] => rfl
  | a :: l => by
    rw [List.dropWhile_cons]
    by_cases h : p a = true
    · rw [if_pos h]; exact drop_idem p l
    · rw [if_neg h, List.dropWhile_cons, if_neg h]
theorem drop_pre {α : Type} (p : α → Bool) {x y : List α} (hx : x.dropWhile p = x) (hp : y <+: x) : y.dropWhile p = y := by
  cases y with
  | nil => rfl
  | cons a r =>
    obtain ⟨t, rfl⟩ := hp
    rw [List.cons_append, List.dropWhile_cons] at hx
    by_cases h : p a = true
    · rw [if_pos h] at hx
      have h1 := congrArg List.length hx
      have h2 := (List.dropWhile_suffix (p := p) (l := r ++ t)).length_le
      rw [List.length_cons] at h1
      omega
    · rw [List.dropWhile_cons, if_neg h]
theorem trim_trim (l : List UInt8) : trim (trim l) = trim l := by
  have hL : (trimL l).dropWhile Syn.blank = trimL l := drop_idem _ _
  have hp : trim l <+: trimL l := by
    unfold trim
    have := List.dropWhile_suffix (p := Syn.blank) (l := (trimL l).reverse)
    have h2 := List.reverse_prefix.2 this
    rwa [List.reverse_reverse] at h2
  have h1 : trimL (trim l) = trim l := drop_pre _ hL hp
  show ((trimL (trim l)).reverse.dropWhile Syn.blank).reverse = trim l
  rw [h1]
  unfold trim
  rw [List.reverse_reverse, drop_idem]
theorem trim_mem {l : List UInt8} : ∀ c ∈ trim l, c ∈ l := by
  intro c hc
  unfold trim trimL at hc
  rw [List.mem_reverse] at hc
  have h1 := (List.dropWhile_suffix (p := Syn.blank) (l := (l.dropWhile Syn.blank).reverse)).subset hc
  rw [List.mem_reverse] at h1
  exact (List.dropWhile_suffix (p := Syn.blank) (l := l)).subset h1
theorem vl_trim {v : List UInt8} (h : vlE v = 0) : vlE (vlV v) = 0 ∧ vlV (vlV v) = vlV v := by
  obtain ⟨h1, h2, h3⟩ := vlE_cln h
  rw [h3]
  have hc : cln (trim v) = true := by
    unfold cln at *
    rw [List.all_eq_true] at *
    exact fun c hc => h1 c (trim_mem c hc)
  have hE : vlE (trim v) = 0 := by unfold vlE; rw [hc, if_pos rfl, trim_trim, if_neg (by omega)]
  exact ⟨hE, by unfold vlV; rw [if_pos hE, trim_trim]⟩
/-- A field that was read. -/
theorem hd_okR {l : List UInt8} (h : hdE l = 0) : okR (hdV l) ∧ (hdV l).1.length + (hdV l).2.length + 1 ≤ l.length := by
  have hV : hdV l = (nmV (hdN l), vlV (hdR l)) := by unfold hdV; rw [if_pos h]
  rw [hV]
  unfold hdE at h
  split at h
  · cases h
  · split at h
    · cases h
    · next h1 =>
      split at h
      · cases h
      · split at h
        · cases h
        · next h3 =>
          split at h
          · cases h
          · next h4 =>
            have h3' : nmE (hdN l) = 0 := Decidable.of_not_not h3
            have h4' : vlE (hdR l) = 0 := Decidable.of_not_not h4
            obtain ⟨a1, a2⟩ := nmE_lower h3'
            obtain ⟨b1, b2⟩ := vl_trim h4'
            refine ⟨⟨a1, a2, b1, b2⟩, ?_⟩
            have e1 : (nmV (hdN l)).length = (hdN l).length := by rw [(nmE_tok h3').2.2, lower_length]
            have e2 : (vlV (hdR l)).length ≤ (hdR l).length := by rw [(vlE_cln h4').2.2]; exact trim_le _
            have e3 : (hdN l).length + 1 + (hdR l).length = l.length := by
              have hne : (l.dropWhile (· != 58)) ≠ [] := fun e => h1 (.inl (by rw [e]; rfl))
              have e4 := congrArg List.length (List.takeWhile_append_dropWhile (p := (· != 58)) (l := l))
              rw [List.length_append] at e4
              unfold hdN hdR
              rw [List.length_drop]
              have : 1 ≤ (l.dropWhile (· != 58)).length := by
                cases hd : l.dropWhile (· != 58) with
                | nil => exact absurd hd hne
                | cons a b => simp
              omega
            show (nmV (hdN l)).length + (vlV (hdR l)).length + 1 ≤ _
            omega
theorem hds_all : ∀ {L : List (List UInt8)}, hdsE L = 0 → ∀ l ∈ L, hdE l = 0
  | [], _, l, h => by simp at h
  | x :: r, h, l, hl => by
    rw [hdsE] at h
    by_cases hx : hdE x = 0
    · rw [if_pos hx] at h
      rcases List.mem_cons.1 hl with rfl | hl
      · exact hx
      · exact hds_all h l hl
    · rw [if_neg hx] at h; exact absurd h hx
theorem splitK_sum : ∀ (k : Nat) (s : List UInt8), ((Lib.splitK [13, 10] 0 k s).map (fun l => l.length + 2)).sum = s.length + 2
  | 0, s => by rw [Lib.splitK]; simp
  | k + 1, s => by
    rw [Lib.splitK]
    split
    · simp
    · next h =>
      have h1 := Lib.index_spec s [13, 10]
      have h0 : 0 ≤ Lib.index s [13, 10] := by
        rcases h1 with ⟨e, -⟩ | ⟨i, e, -⟩
        · exact absurd (by rw [e]; rfl) h
        · omega
      have h2 := Lib.index_room s [13, 10] h0
      have h3 : ([13, 10] : List UInt8).length = 2 := rfl
      rw [h3] at h2 ⊢
      rw [List.map_cons, List.sum_cons, splitK_sum k, List.length_take, List.length_drop]
      omega
theorem sp32 {l : List UInt8} (h : stR l ≠ []) : (stD l).length + 1 + (stR l).length = l.length := by
  have e := congrArg List.length (List.takeWhile_append_dropWhile (p := (· != 32)) (l := l))
  rw [List.length_append] at e
  have h1 : 1 < (l.dropWhile (· != 32)).length := by
    have := List.length_pos_iff.2 h
    unfold stR at this
    rw [List.length_drop] at this
    omega
  unfold stD stR
  rw [List.length_drop]
  omega
theorem lns_hds : ∀ {L : List (List UInt8)}, (∀ l ∈ L, hdE l = 0) → (lns (L.map hdV)).length ≤ (L.map (fun l => l.length + 2)).sum + L.length
  | [], _ => Nat.zero_le _
  | x :: r, h => by
    have h1 := (hd_okR (h x (List.mem_cons_self ..))).2
    have h2 := lns_hds (L := r) (fun l hl => h l (List.mem_cons_of_mem _ hl))
    rw [List.map_cons, List.map_cons, List.sum_cons, List.length_cons]
    unfold lns at h2 ⊢
    rw [List.flatMap_cons, List.length_append]
    have : (ln (hdV x)).length = (hdV x).1.length + (hdV x).2.length + 4 := by unfold ln; simp; omega
    omega
theorem wqL_rqF {X : List (List UInt8 × List UInt8)} (h : can X = X) : wqL X = rqF X := by unfold wqL rqF; rw [h]
/-- What is read can be written, unless it grows. -/
theorem rq_read {s : List UInt8} (h : rqE s = 0) :
    ∃ n : Nat, endF s = (n : Int) ∧ 4 ≤ n ∧ n ≤ s.length ∧ n ≤ 8192 ∧ (wqE (rqM s) (rqT s) (rqL s) = 0 ∨ (wqE (rqM s) (rqT s) (rqL s) = 5 ∧ 8128 < n)) ∧ wqL (rqL s) = rqL s ∧ ((rqM s).length ≤ 16 ∧ (rqT s).length ≤ 2048 ∧ (rqL s).length ≤ 64 ∧ (lns (rqL s)).length ≤ 10000) := by
  have hl0 := rqE_ok h
  obtain ⟨n, e, h4, hl, h8, hst⟩ := lnE_ok hl0
  have hX : rqX (lnL s) = 0 := by unfold rqE at h; rw [if_pos hl0] at h; exact h
  obtain ⟨l0, r, hL⟩ := spl_ne (s.take ((endF s).toNat - 4))
  have hL' : lnL s = l0 :: r := hL
  have hfew := lnE_few hl0
  have hsum : ((lnL s).map (fun l => l.length + 2)).sum = n - 2 := by
    unfold lnL spl
    rw [splitK_sum, List.length_take, e]
    omega
  rw [hL'] at hX hsum hfew
  rw [rqX_cons] at hX
  have hm : mthB (rlM l0) = true := by
    cases hh : mthB (rlM l0) with
    | true => rfl
    | false => rw [if_pos hh] at hX; cases hX
  rw [if_neg (by rw [hm]; decide)] at hX
  have ht : tgtB (rlM l0) (rlT l0) = true := by
    cases hh : tgtB (rlM l0) (rlT l0) with
    | true => rfl
    | false => rw [if_pos hh] at hX; cases hX
  rw [if_neg (by rw [ht]; decide)] at hX
  have hv : rlV l0 = verB := by
    by_cases hh : rlV l0 = verB
    · exact hh
    · rw [if_neg hh] at hX; cases hX
  rw [if_pos hv] at hX
  have hr : hdsE r = 0 := by
    by_cases hh : hdsE r = 0
    · exact hh
    · rw [if_neg hh] at hX; exact hX
  rw [if_pos hr] at hX
  obtain ⟨hv', hx⟩ : ∃ h, hsX (r.map hdV) = some h := by
    cases hh : hsX (r.map hdV) with
    | none => rw [if_pos hh] at hX; cases hX
    | some h => exact ⟨h, rfl⟩
  have hall := hds_all hr
  have hO : ∀ p ∈ r.map hdV, okR p := by
    intro p hp
    obtain ⟨l, hl, rfl⟩ := List.mem_map.1 hp
    exact (hd_okR (hall l hl)).1
  have okOf : ∀ {F : List (List UInt8 × List UInt8)}, (∀ p ∈ F, okR p) → okCs F = true ∧ can F = F := by
    intro F hF
    refine ⟨?_, ?_⟩
    · unfold okCs
      rw [List.all_eq_true]
      exact fun p hp => (okC_iff p.1 p.2).2 ⟨(hF p hp).1, (hF p hp).2.2⟩
    · unfold can
      conv => rhs; rw [← List.map_id F]
      exact List.map_congr_left fun p hp => by rw [(hF p hp).2.1]; rfl
  obtain ⟨ok1, can1⟩ := okOf hO
  obtain ⟨w1, w2, w3, w4, w5, w6⟩ := wq_fields ok1 hx
  have hq : rqL s = wqL (r.map hdV) := by
    rw [w1, can1]
    unfold rqL rqF
    rw [hL']
    show (r.map hdV).map (rep hostN ((hsX (r.map hdV)).getD [])) = _
    rw [hx]; rfl
  obtain ⟨ok2, can2⟩ := okOf w2
  have hw : wqL (rqL s) = rqL s := by
    rw [hq, wqL_rqF can2]
    exact w4
  have eM : rqM s = rlM l0 := by unfold rqM; rw [hL']; rfl
  have eT : rqT s = rlT l0 := by unfold rqT; rw [hL']; rfl
  have z1 : (rlM l0).length ≤ 16 := by
    unfold mthB at hm
    rw [Bool.and_eq_true, Bool.and_eq_true, decide_eq_true_eq, decide_eq_true_eq] at hm
    exact hm.2.2
  have z2 : (rlT l0).length ≤ 2048 := by
    unfold tgtB at ht
    rw [Bool.and_eq_true, Bool.and_eq_true, Bool.and_eq_true, decide_eq_true_eq, decide_eq_true_eq] at ht
    exact ht.1.2.2
  have z3 : (lns (r.map hdV)).length ≤ 10000 := by
    have h5 := lns_hds hall
    rw [List.length_cons] at hfew
    rw [List.map_cons, List.sum_cons] at hsum
    omega
  refine ⟨n, e, h4, hl, h8, ?_, hw, by rw [eM]; exact z1, by rw [eT]; exact z2, by rw [hq, w6, List.length_map]; rw [List.length_cons] at hfew; omega, by rw [hq, w5]; exact z3⟩
  rw [eM, eT, hq]
  unfold wqE
  by_cases hlg : largeB ((rlM l0).length + (rlT l0).length + 10) (wqL (r.map hdV)) = true
  · right
    rw [if_pos hlg]
    refine ⟨rfl, ?_⟩
    unfold largeB at hlg
    rw [Bool.or_eq_true, decide_eq_true_eq, decide_eq_true_eq, w5, w6, List.length_map] at hlg
    rw [List.length_cons] at hfew
    rw [List.map_cons, List.sum_cons] at hsum
    have h5 := lns_hds hall
    have hvl : verB.length = 8 := rfl
    have e2 : (rlT l0).length + 1 + (rlV l0).length = (stR l0).length := sp32 (l := stR l0) (by show rlV l0 ≠ []; rw [hv]; decide)
    have e1 : (rlM l0).length + 1 + (stR l0).length = l0.length := sp32 (l := l0) (by intro hh; rw [hh] at e2; simp at e2)
    rw [hv, hvl] at e2
    rcases hlg with hlg | hlg <;> omega
  · left
    rw [if_neg hlg, if_neg (by rw [hm]; decide), if_neg (by rw [ht]; decide), if_neg (by rw [ok2]; decide), if_neg (by rw [w3]; exact fun h => by cases h)]
theorem lns_mem {l : List (List UInt8 × List UInt8)} {p : List UInt8 × List UInt8} (h : p ∈ l) : p.1.length + p.2.length ≤ (lns l).length := by
  obtain ⟨a, b, rfl⟩ := List.append_of_mem h
  unfold lns
  rw [List.flatMap_append, List.flatMap_cons, List.length_append, List.length_append]
  have : (ln p).length = p.1.length + p.2.length + 4 := by unfold ln; simp; omega
  omega
theorem rq_same {s d : List UInt8} {n : Nat} (h : rqE s = 0) (e : endF s = (n : Int)) (hl : n ≤ d.length) (he : d.take n = s.take n) :
    rqE d = 0 ∧ endF d = (n : Int) ∧ rqM d = rqM s ∧ rqT d = rqT s ∧ rqL d = rqL s := by
  have hl0 := rqE_ok h
  obtain ⟨n', e', h4, hl', h8, hst⟩ := lnE_ok hl0
  have hn : n' = n := by omega
  subst hn
  have eD := endF_same e (by omega) hl he
  have hT : d.take ((endF d).toNat - 4) = s.take ((endF s).toNat - 4) := by
    rw [eD, e]
    have := congrArg (List.take (n' - 4)) he
    rw [List.take_take, List.take_take, show min (n' - 4) n' = n' - 4 by omega] at this
    exact this
  have hLn : lnL d = lnL s := by unfold lnL; rw [hT]
  have hlE : lnE d = 0 := by
    unfold lnE at hl0 ⊢
    rw [eD, hLn]
    rw [e] at hl0
    rw [if_neg (by omega)] at hl0 ⊢
    rw [show ((n' : Nat) : Int).toNat = n' from rfl] at hl0 ⊢
    rw [he]
    exact hl0
  refine ⟨?_, eD, by unfold rqM; rw [hLn], by unfold rqT; rw [hLn], by unfold rqL; rw [hLn]⟩
  unfold rqE at h ⊢
  rw [if_pos hlE, hLn]
  rw [if_pos hl0] at h
  exact h
end Hd
end Go.Proofs.YtemlnmelicnneaaDoor
