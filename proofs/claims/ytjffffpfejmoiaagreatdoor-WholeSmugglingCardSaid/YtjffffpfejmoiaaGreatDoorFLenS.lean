/-
  What the careless readers take. Plain Lean.
-/
import Derived.Test.YtjffffpfejmoiaaGreatDoorGHo
import Derived.Test.YtjffffpfejmoiaaGreatDoorGFr
import Derived.Test.YtjffffpfejmoiaaGreatDoorGLow
namespace Go.Proofs.YtjffffpfejmoiaaGreatDoor
open Go.RowKit Syn Fr

namespace Fr
def pick (o : Option Nat) (x : Bytes) : Option Nat := match o with | some n => some n | none => if (number x).2 = 0 then some (number x).1 else none
def stepN (o : Option Nat) (p : Bytes) : Option Nat := pick o (trim p)
/-- The first number among the pieces. -/
def lenN (V : List Bytes) : Option Nat := V.foldl (fun o v => (sp 44 v).foldl stepN o) none
def isCh (p : Bytes) : Bool := decide (Syn.lower (trim (p.takeWhile (· != 59))) = ch)
def chk (V : List Bytes) : Bool := V.any fun v => (sp 44 v).any isCh
def lenientOf (o : Option Nat) (c first : Bool) : Nat × Nat := match o with
  | some n => if first || !c then (2, n) else (3, 0)
  | none => if c then (3, 0) else (1, 0)
def lenient (L : List (Bytes × Bytes)) (first : Bool) : Nat × Nat := lenientOf (lenN (allV L cl)) (chk (allV L te)) first
def piecesOf (V : List Bytes) : List Bytes := (V.flatMap fun v => sp 44 v).map trim
def firstN : List Bytes → Option Nat
  | [] => none
  | x :: r => if (number x).2 = 0 then some (number x).1 else firstN r
def befT (t : Bytes) : Bytes := if (t.dropWhile (· != 59)).isEmpty then t else trim (t.takeWhile (· != 59))
end Fr
theorem pick_some (n : Nat) : ∀ l : List Bytes, l.foldl pick (some n) = some n
  | [] => rfl
  | _ :: r => pick_some n r
theorem first_fold : ∀ l : List Bytes, l.foldl pick none = firstN l
  | [] => rfl
  | x :: r => by
    rw [List.foldl_cons]
    unfold firstN
    by_cases h : (number x).2 = 0
    · rw [if_pos h, show pick none x = some (number x).1 from if_pos h, pick_some]
    · rw [if_neg h, show pick none x = none from if_neg h, first_fold r]
theorem lenN_first (V : List Bytes) : lenN V = firstN (piecesOf V) := by
  rw [← first_fold]
  unfold lenN piecesOf
  rw [List.foldl_map, List.foldl_flatMap]; rfl
theorem firstN_mem : ∀ {l : List Bytes} {n : Nat}, firstN l = some n → ∃ x ∈ l, number x = (n, 0)
  | x :: r, n, h => by
    unfold firstN at h
    split at h
    · next h0 => exact ⟨x, by simp, by rw [← Option.some.inj h, ← h0]⟩
    · obtain ⟨y, hy, e⟩ := firstN_mem h
      exact ⟨y, by simp [hy], e⟩
theorem number_bound {x : Bytes} (h : (number x).2 = 0) : (number x).1 < 1000000000000000 := by
  unfold number at *
  split at h
  · next hd =>
    rw [if_pos hd] at *
    split at h
    · cases h
    · next hl =>
      rw [if_neg hl]
      unfold digits at hd
      rw [Bool.and_eq_true] at hd
      exact val_lt x hd.1 (by omega)
  · cases h
theorem pick_bound {o : Option Nat} {x : Bytes} (h : ∀ n, o = some n → n < 1000000000000000) : ∀ n, pick o x = some n → n < 1000000000000000 := fun n hn => by
  unfold pick at hn
  split at hn
  · next m => exact h n hn
  · split at hn
    · next h0 => rw [← Option.some.inj hn]; exact number_bound h0
    · cases hn
theorem blank_semi {a : UInt8} (h : Syn.blank a = true) : (a != 59) = true := by
  unfold Syn.blank at h
  rw [Bool.or_eq_true, beq_iff_eq, beq_iff_eq] at h
  rcases h with h | h <;> rw [h] <;> decide
theorem dropWhile_semi : ∀ {l : Bytes}, (l.dropWhile (· != 59)) = [] ↔ ∀ a ∈ l, (a != 59) = true
  | [] => by simp
  | a :: l => by
    rw [List.dropWhile_cons]
    by_cases h : (a != 59) = true
    · rw [if_pos h, dropWhile_semi (l := l)]
      constructor
      · intro hl b hb
        rcases List.mem_cons.1 hb with rfl | hb
        · exact h
        · exact hl b hb
      · exact fun hl b hb => hl b (by simp [hb])
    · rw [if_neg h]
      constructor
      · intro hl; cases hl
      · intro hl; exact absurd (hl a (by simp)) h
theorem trim_sub {l : Bytes} : ∀ a ∈ trim l, a ∈ l := fun a h => by
  unfold trim trimL at h
  rw [List.mem_reverse] at h
  have h1 := (List.dropWhile_sublist _).subset h
  rw [List.mem_reverse] at h1
  exact (List.dropWhile_sublist _).subset h1
theorem takeWhile_all {p : UInt8 → Bool} {l r : Bytes} (h : ∀ a ∈ l, p a = true) (x : UInt8) (hx : p x = false) : (l ++ x :: r).takeWhile p = l ∧ (l ++ x :: r).dropWhile p = x :: r := by
  constructor
  · rw [List.takeWhile_append_of_pos h, List.takeWhile_cons, hx]; simp
  · rw [List.dropWhile_append_of_pos h, List.dropWhile_cons, hx]; simp
theorem drop_idem (p : UInt8 → Bool) : ∀ l : Bytes, (l.dropWhile p).dropWhile p = l.dropWhile p
  | [] => rfl
  | a :: l => by
    rw [List.dropWhile_cons]
    by_cases h : p a = true
    · rw [if_pos h]; exact drop_idem p l
    · rw [if_neg h, List.dropWhile_cons, if_neg h]
/-- Before the semicolon: the document trims first. -/
theorem bef_trim (p : Bytes) : befT (trim p) = trim (p.takeWhile (· != 59)) := by
  unfold befT
  by_cases h : p.dropWhile (· != 59) = []
  · have hall := dropWhile_semi.1 h
    have h2 : (trim p).dropWhile (· != 59) = [] := dropWhile_semi.2 fun a ha => hall a (trim_sub a ha)
    rw [h2, if_pos (show ([] : Bytes).isEmpty = true from rfl)]
    have : p.takeWhile (· != 59) = p := by
      have := List.takeWhile_append_dropWhile (p := (· != (59 : UInt8))) (l := p)
      rw [h, List.append_nil] at this; exact this
    rw [this]
  · obtain ⟨x, r, hr⟩ : ∃ x r, p.dropWhile (· != 59) = x :: r := by
      cases hd : p.dropWhile (· != 59) with
      | nil => exact absurd hd h
      | cons x r => exact ⟨x, r, rfl⟩
    obtain ⟨a, ha⟩ : ∃ a, p.takeWhile (· != 59) = a := ⟨_, rfl⟩
    have hp : p = a ++ x :: r := by rw [← ha, ← hr, List.takeWhile_append_dropWhile]
    have hx : (x != 59) = false := by
      have := List.head?_dropWhile_not (fun c : UInt8 => c != 59) p
      rw [hr] at this
      simpa using this
    have hx59 : x = 59 := by simpa using hx
    have hal : ∀ b ∈ a, (b != 59) = true := fun b hb => by
      rw [← ha] at hb
      exact List.all_eq_true.1 (List.all_takeWhile (p := (· != (59 : UInt8)))) b hb
    -- trimming keeps the semicolon
    have hL : trimL p = trimL a ++ x :: r := by
      rw [hp]
      unfold trimL
      rw [List.dropWhile_append]
      split
      · next he =>
        rw [List.isEmpty_iff.1 he, List.nil_append, List.dropWhile_cons, if_neg]
        rw [hx59]; decide
      · rfl
    have hR : ∃ r', trim p = trimL a ++ x :: r' := by
      rw [trim_eq, hL]
      unfold trimR
      rw [List.reverse_append, List.reverse_cons, List.append_assoc, List.dropWhile_append]
      split
      · next he =>
        refine ⟨[], ?_⟩
        show ((x :: (trimL a).reverse).dropWhile Syn.blank).reverse = _
        rw [List.dropWhile_cons, if_neg (by rw [hx59]; decide)]; simp
      · refine ⟨(r.reverse.dropWhile Syn.blank).reverse, ?_⟩
        simp
    obtain ⟨r', hR⟩ := hR
    have hal2 : ∀ b ∈ trimL a, (b != 59) = true := fun b hb => hal b ((List.dropWhile_sublist _).subset hb)
    obtain ⟨e1, e2⟩ := takeWhile_all (r := r') hal2 x hx
    rw [hR, e1, e2, if_neg (by simp), ha, trim_eq, trim_eq]
    congr 1
    exact drop_idem _ a
theorem isCh_bef (p : Bytes) : isCh p = decide (Syn.lower (befT (trim p)) = ch) := by unfold isCh; rw [bef_trim]
theorem chk_pieces (V : List Bytes) : chk V = (piecesOf V).any fun t => decide (Syn.lower (befT t) = ch) := by
  unfold chk piecesOf
  rw [List.any_map, List.any_flatMap]
  congr 1
  funext v
  congr 1
  funext p
  exact isCh_bef p
end Go.Proofs.YtjffffpfejmoiaaGreatDoor
