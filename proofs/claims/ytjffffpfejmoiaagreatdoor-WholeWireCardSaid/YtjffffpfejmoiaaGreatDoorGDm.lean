import Derived.Test.YtjffffpfejmoiaaGreatDoorNStartP
namespace Go.Proofs.YtjffffpfejmoiaaGreatDoor
open Go.RowKit Syn Hd Fr Ck
namespace Cn
theorem frame_kinds {K : Nat} (hK : K = 1 ∨ K = 4) (L : List (List UInt8 × List UInt8)) (h : (frame K L).2 = 0) : ((frame K L).1.1 = 1 ∨ (frame K L).1.1 = 2 ∨ (frame K L).1.1 = 3 ∨ (frame K L).1.1 = 4) ∧ ((frame K L).1.1 = 1 → (frame K L).1.2 = 0):=by
 rcases frame_shape L with h1 | ⟨f,h1,h2⟩
 ·rw [h1 K]
  exact ⟨by rcases hK with e | e <;> simp [e],fun _ => rfl⟩
 ·rw [h1 K] at h ⊢
  rcases h2 with ⟨h3,-⟩ | h3 | ⟨n,-,h3⟩
  ·exact absurd h h3
  ·rw [h3]; exact ⟨.inr (.inr (.inl rfl)),fun e => by cases e⟩
  ·rw [h3]; exact ⟨.inr (.inl rfl),fun e => by cases e⟩
theorem hFr_kinds {c : C} (h : (hFr c).2 = 0) : ((hFr c).1.1 = 1 ∨ (hFr c).1.1 = 2 ∨ (hFr c).1.1 = 3 ∨ (hFr c).1.1 = 4) ∧ ((hFr c).1.1 = 1 → (hFr c).1.2 = 0):=by
 unfold hFr at h ⊢
 split
 ·rename_i hr
  rw [if_pos hr] at h
  unfold respF at h ⊢
  split
  ·rename_i h2; rw [if_pos h2] at h; exact absurd h h2
  ·rename_i h2
   rw [if_neg h2] at h
   split
   ·exact ⟨.inl rfl,fun _ => rfl⟩
   ·exact frame_kinds (.inr rfl) _ (Decidable.not_not.1 h2)
 ·rename_i hr
  rw [if_neg hr] at h
  exact frame_kinds (.inl rfl) _ h
end Cn
end Go.Proofs.YtjffffpfejmoiaaGreatDoor
