/-
  Layer 31: Owners of a ring of the laws'.
-/
import Derived.Test.YtpfpjcfacbfjaaaGreatDoorRgMade
namespace Go.Proofs.YtpfpjcfacbfjaaaGreatDoor
open Go.Shelf Go.RowKit Go.Lib Go.Sort Rg
namespace Rg
theorem perm_of {a b : List Nm} (ha : a.Nodup) (hb : b.Nodup) (h : ∀ x, x ∈ a ↔ x ∈ b) : a.Perm b := by
  exact (List.perm_ext_iff_of_nodup ha hb).2 h
theorem Good.own_mem {L : List Nd} (hg : Good L) {h : Int} {x : Nm} : x ∈ own (ptsOf L) h ↔ x ∈ L.map (·.1) := by
  rw [Rg.own_mem]
  constructor
  · rintro ⟨p, hp, rfl⟩; exact mem_all ((srt_perm _).subset hp)
  · intro hx
    rw [List.mem_map] at hx
    obtain ⟨y, hy, rfl⟩ := hx
    obtain ⟨p, hp⟩ := List.exists_mem_of_ne_nil _ (pts1_ne (x := y.1) (hg.wt y hy).1)
    refine ⟨p, (srt_perm _).symm.subset ?_, pts1_mem hp⟩
    exact List.mem_flatMap.2 ⟨y, hy, hp⟩
theorem Good.own_len {L : List Nd} (hg : Good L) (h : Int) : (own (ptsOf L) h).length = L.length := by
  have := (perm_of (own_nodup (ptsOf L) h) hg.nd (fun x => hg.own_mem)).length_eq
  rwa [List.length_map] at this
theorem Good.owners_eq {L : List Nd} (hg : Good L) (h n : Int) : owners (ascOf L) (ptsOf L) h n = (own (ptsOf L) h).take n.toNat := by
  unfold owners
  rw [hg.len, ← hg.own_len h]
  rcases Nat.le_total n.toNat (own (ptsOf L) h).length with hle | hle
  · rw [Nat.min_eq_left hle]
  · rw [Nat.min_eq_right hle, List.take_of_length_le (Nat.le_refl _), List.take_of_length_le hle]
theorem Good.owners_all {L : List Nd} (hg : Good L) (h n : Int) (hn : (L.length : Int) ≤ n) : owners (ascOf L) (ptsOf L) h n = own (ptsOf L) h := by
  rw [hg.owners_eq]; exact List.take_of_length_le (by rw [hg.own_len]; omega)
end Rg
/-- Owners, whatever number is asked for. -/
theorem owners_any (w : World) (B l : Nat) (v1 v2 : Value) (N : List Nm) (Q : List Pt) (key : Nm) (n : Int) (hr : Ring2 w B l v1 v2 N Q) (hs : Srt Q) (hQN : ∀ p ∈ Q, p.2 ∈ N) (hN : N.length ≤ 1000) (hQ : Q.length ≤ 1000000) (hkey : key.length ≤ 1000000) (hn2 : n ≤ 9223372036854775807) :
    Calls Tryz.prog 10 #[.pointer (some ⟨l, 0, none⟩), .string (str key), .int .i64 n] w fun e w' => ∃ o, e = .returned o ∧ Own w' w.heap.size 9 1 o (owners N Q (Sk.hash 255 key) n).length (strs (owners N Q (Sk.hash 255 key) n)) ∧ Below w.heap.size w w' := by
  by_cases hn : 1 ≤ n
  · exact owners_yes w B l v1 v2 N Q key n hr hs hQN hN hQ hkey hn hn2
  · refine (owners_no w _ (str key) n (Or.inr ⟨⟨_, rfl⟩, by omega⟩)).mono ?_
    rintro e w' ⟨rfl, hb⟩
    have : owners N Q (Sk.hash 255 key) n = [] := by unfold owners; rw [show n.toNat = 0 by omega]; simp
    rw [this]
    exact ⟨_, rfl, own_nil _ _ _ _, hb⟩
theorem rd_takeN {w : World} {A : Option Addr} {n c : Nat} {l : List (List UInt8)} (h : Rd w 1 (.slice A l.length c) l.length (strs l)) (hm : n ≤ l.length) : Rd w 1 (.slice A n c) (l.take n).length (strs (l.take n)) := by
  obtain ⟨A', c', e, hc, hl, hx⟩ := h
  cases e
  have hlt : (l.take n).length = n := by rw [List.length_take]; omega
  rw [hlt]
  refine ⟨A, c, rfl, by omega, by rw [strs_length, hlt]; omega, fun hn => ?_⟩
  obtain ⟨b, off, e1, hb, hx'⟩ := hx (by omega)
  refine ⟨b, off, e1, hb, fun j u hu => hx' j u ?_⟩
  unfold strs at hu ⊢
  rw [List.map_take] at hu
  rw [List.getElem?_take] at hu
  split at hu
  · exact hu
  · cases hu
end Go.Proofs.YtpfpjcfacbfjaaaGreatDoor
