/-
  WholeSmuggling, plain: a request whose end is doubtful is refused.
-/
import Derived.Test.YtjffffpfejmoiaaGreatDoorFAmb
import Derived.Test.YtjffffpfejmoiaaGreatDoorGFr
import Derived.Test.YtjffffpfejmoiaaGreatDoorGPl
import Derived.Test.YtjffffpfejmoiaaGreatDoorNFeedP
namespace Go.Proofs.YtjffffpfejmoiaaGreatDoor
open Go.RowKit Syn Hd Fr Ck
theorem allV_ne {L : List (List UInt8 × List UInt8)} {n : List UInt8} (h : allV L n ≠ []) : ∃ p ∈ L, Syn.lower p.1 = Syn.lower n := by
  cases hv : allV L n with
  | nil => exact absurd hv h
  | cons v r =>
    have hm : v ∈ allV L n := by rw [hv]; exact List.mem_cons_self
    unfold allV at hm
    obtain ⟨p, hp, -⟩ := List.mem_map.1 hm
    obtain ⟨h1, h2⟩ := List.mem_filter.1 hp
    exact ⟨p, h1, of_decide_eq_true h2⟩
theorem ne_allV {L : List (List UInt8 × List UInt8)} {n : List UInt8} {p : List UInt8 × List UInt8} (hp : p ∈ L) (h : Syn.lower p.1 = Syn.lower n) : allV L n ≠ [] := fun e => by
  have hm : p.2 ∈ allV L n := by
    unfold allV
    exact List.mem_map.2 ⟨p, List.mem_filter.2 ⟨hp, decide_eq_true h⟩, rfl⟩
  rw [e] at hm; cases hm
/-- A name that stands in the fields stands in what is written. -/
theorem wqL_has {l : List (List UInt8 × List UInt8)} {n : List UInt8} (hok : okCs l = true) (hl : Syn.lower n = n) (hn : n ≠ hostN) (h : allV l n ≠ []) : allV (wqL l) n ≠ [] := by
  obtain ⟨p, hp, he⟩ := allV_ne h
  have hk : okC p = true := List.all_eq_true.1 hok p hp
  have hnm : nmE p.1 = 0 := by
    unfold okC at hk
    simp only [Bool.and_eq_true, decide_eq_true_eq] at hk
    first | exact hk.1 | exact hk.1.1
  have hv : nmV p.1 = Syn.lower p.1 := if_pos hnm
  have hq : rep hostN ((hsX l).getD []) (nmV p.1, p.2) = (n, p.2) := by
    unfold rep
    rw [hv, he, hl]
    show (if Syn.lower n = hostN then (hostN, (hsX l).getD []) else (n, p.2)) = (n, p.2)
    rw [hl, if_neg hn]
  refine ne_allV (p := (n, p.2)) ?_ rfl
  unfold wqL can
  rw [List.map_map]
  exact List.mem_map.2 ⟨p, hp, hq⟩
theorem cl_low : Syn.lower cl = cl := by decide
theorem te_low : Syn.lower te = te := by decide
theorem wqE_ok {m t : List UInt8} {l : List (List UInt8 × List UInt8)} (h : wqE m t l = 0) : okCs l = true := by
  unfold wqE at h
  split at h
  · cases h
  · split at h
    · cases h
    · split at h
      · cases h
      · split at h
        · cases h
        · rename_i h4
          simpa using h4
/-- Two ends, one frame: an error. -/
theorem smug_frame {m t : List UInt8} {l : List (List UInt8 × List UInt8)} (h : wqE m t l = 0) (ha : amb l = true) : frame 1 (wqL l) = ((0, 0), 31) := by
  unfold amb at ha
  rw [Bool.and_eq_true] at ha
  have h1 : allV l cl ≠ [] := fun e => by rw [e] at ha; cases ha.1
  have h2 : allV l te ≠ [] := fun e => by rw [e] at ha; cases ha.2
  exact frame_both (List.length_pos_iff.2 (wqL_has (wqE_ok h) cl_low (by decide) h1)) (List.length_pos_iff.2 (wqL_has (wqE_ok h) te_low (by decide) h2))
/-- It is refused, and nothing of it is passed on. -/
theorem smug_law {m t : List UInt8} {l : List (List UInt8 × List UInt8)} (rest : List UInt8) (h : wqE m t l = 0) (ha : amb l = true) :
    (Cn.write (Cn.new false []) (wqB m t l ++ rest)).1.err = 31 ∧ (Cn.write (Cn.new false []) (wqB m t l ++ rest)).2 = [] := by
  obtain ⟨h1, -, -, h4, h5⟩ := req_back rest h
  have hfr : frame 1 (rqL (wqB m t l ++ rest)) = ((0, 0), 31) := by rw [h4]; exact smug_frame h ha
  obtain ⟨n, e, h6, h7⟩ := Cn.hd_len (c := Cn.app (Cn.new false []) (wqB m t l ++ rest)) h1
  have hne : wqB m t l ++ rest ≠ [] := fun e0 => by
    have h8 : n ≤ (wqB m t l ++ rest).length := h7
    rw [e0] at h8
    have : n ≤ 0 := h8
    omega
  have hE : Cn.hE (Cn.app (Cn.new false []) (wqB m t l ++ rest)) = 0 := h1
  have hno : ¬ Cn.none_ (Cn.app (Cn.new false []) (wqB m t l ++ rest)) := fun h => by cases h.1
  have hs : Cn.sE (Cn.app (Cn.new false []) (wqB m t l ++ rest)) = 31 := by
    unfold Cn.sE
    rw [if_neg hno, if_neg (fun h => h hE), if_neg (by show ¬ 64 ≤ 0; decide)]
    show (frame 1 (rqL (wqB m t l ++ rest))).2 = 31
    rw [hfr]
  have hw : ¬ Cn.wait (Cn.app (Cn.new false []) (wqB m t l ++ rest)) := fun h => by have h2 := h.2; rw [hE] at h2; cases h2
  rw [Cn.write_open rfl rfl hne, Cn.R_bad rfl (show ¬ false = true by decide) hne hw (by rw [hs]; decide)]
  exact ⟨hs, rfl⟩
end Go.Proofs.YtjffffpfejmoiaaGreatDoor
