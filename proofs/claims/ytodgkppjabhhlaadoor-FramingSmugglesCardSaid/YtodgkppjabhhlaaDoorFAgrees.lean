/-
  What the strict reader accepts, the careless ones read as it does. Plain Lean.
-/
import Derived.Test.YtodgkppjabhhlaaDoorFAmb
import Derived.Test.YtodgkppjabhhlaaDoorFResp3
namespace Go.Proofs.YtodgkppjabhhlaaDoor
open Go.RowKit Syn Fr

theorem trim_quote {l : Bytes} (h : (34 : UInt8) ∈ l) : (34 : UInt8) ∈ trim l := by
  have drop : ∀ l : Bytes, (34 : UInt8) ∈ l → (34 : UInt8) ∈ l.dropWhile Syn.blank := fun l h => by
    induction l with
    | nil => exact h
    | cons a l ih =>
      rw [List.dropWhile_cons]
      split
      · next hb =>
        rcases List.mem_cons.1 h with h | h
        · rw [← h] at hb; exact absurd hb (by decide)
        · exact ih h
      · exact h
  unfold trim trimL
  rw [List.mem_reverse]
  exact drop _ (List.mem_reverse.2 (drop _ h))
theorem quote_in : ∀ (n : Nat) (r : Bytes) (q : Bool) (cur : Bytes) (out res : List Bytes), r.length ≤ n → partsGo 44 q cur out r = some res → ((34 : UInt8) ∈ cur ∨ (34 : UInt8) ∈ r ∨ ∃ x ∈ out, (34 : UInt8) ∈ x) → ∃ x ∈ res, (34 : UInt8) ∈ x
  | n, [], q, cur, out, res, _, h, hm => by
    rw [partsGo] at h
    split at h
    · cases h
    · rw [← Option.some.inj h]
      rcases hm with hm | hm | ⟨x, hx, hm⟩
      · exact ⟨trim cur, by simp, trim_quote hm⟩
      · cases hm
      · exact ⟨x, by simp [hx], hm⟩
  | 0, c :: r, q, cur, out, res, hn, _, _ => by simp at hn
  | n + 1, c :: r, q, cur, out, res, hn, h, hm => by
    rw [List.length_cons] at hn
    rw [partsGo_cons] at h
    split at h
    · match r, hn, h, hm with
      | [], _, h, _ => cases h
      | d :: r', hn, h, hm =>
        rw [List.length_cons] at hn
        refine quote_in n r' q _ out res (by omega) h ?_
        rcases hm with hm | hm | hm
        · exact .inl (by simp [hm])
        · rcases List.mem_cons.1 hm with hm | hm
          · exact .inl (by simp [← hm])
          · rcases List.mem_cons.1 hm with hm | hm
            · exact .inl (by simp [← hm])
            · exact .inr (.inl hm)
        · exact .inr (.inr hm)
    · split at h
      · refine quote_in n r _ _ out res (by omega) h ?_
        rcases hm with hm | hm | hm
        · exact .inl (by simp [hm])
        · rcases List.mem_cons.1 hm with hm | hm
          · exact .inl (by simp [← hm])
          · exact .inr (.inl hm)
        · exact .inr (.inr hm)
      · split at h
        · next hs =>
          refine quote_in n r _ _ _ res (by omega) h ?_
          rcases hm with hm | hm | ⟨x, hx, hm⟩
          · exact .inr (.inr ⟨trim cur, by simp, trim_quote hm⟩)
          · rcases List.mem_cons.1 hm with hm | hm
            · exfalso
              rw [← hm] at hs
              simp at hs
            · exact .inr (.inl hm)
          · exact .inr (.inr ⟨x, by simp [hx], hm⟩)
        · refine quote_in n r _ _ out res (by omega) h ?_
          rcases hm with hm | hm | hm
          · exact .inl (by simp [hm])
          · rcases List.mem_cons.1 hm with hm | hm
            · exact .inl (by simp [← hm])
            · exact .inr (.inl hm)
          · exact .inr (.inr hm)
theorem plain_parts : ∀ (r cur : Bytes) (out : List Bytes) (y : Bytes) (ys : List Bytes), (34 : UInt8) ∉ r → sp 44 r = y :: ys → partsGo 44 false cur out r = some (out ++ trim (cur ++ y) :: ys.map trim)
  | [], cur, out, y, ys, _, h => by
    have e : ([] : Bytes) = y ∧ [] = ys := by simpa [sp] using h
    rw [partsGo, if_neg (by decide), ← e.1, ← e.2, List.append_nil]; rfl
  | c :: r, cur, out, y, ys, hq, h => by
    have hc : c ≠ 34 := fun e => hq (by simp [e])
    have hr : (34 : UInt8) ∉ r := fun e => hq (by simp [e])
    rw [partsGo_cons, if_neg (by simp), if_neg hc]
    unfold sp at h
    split at h
    · next hs =>
      have e : ([] : Bytes) = y ∧ sp 44 r = ys := by simpa using h
      rw [if_pos (by simp [hs])]
      cases hsp : sp 44 r with
      | nil => exact absurd hsp (sp_pos 44 r)
      | cons z zs =>
        rw [plain_parts r [] _ z zs hr hsp, ← e.1, ← e.2, hsp, List.append_nil]; simp
    · next hs =>
      rw [if_neg (by simp [hs])]
      cases hsp : sp 44 r with
      | nil => exact absurd hsp (sp_pos 44 r)
      | cons z zs =>
        rw [hsp] at h
        have e : c :: z = y ∧ zs = ys := by simpa using h
        rw [plain_parts r _ _ z zs hr hsp, ← e.1, ← e.2]; simp
theorem list_full {v : Bytes} {l : List Bytes} (h : Syn.list v = some l) (hq : ∀ x ∈ l, (34 : UInt8) ∉ x) : l = full ((sp 44 v).map trim) := by
  unfold Syn.list parts at h
  split at h
  · cases hp : partsGo 44 false [] [] v with
    | none => rw [hp] at h; cases h
    | some res =>
      rw [hp] at h
      have e : full res = l := Option.some.inj h
      have hv : (34 : UInt8) ∉ v := fun hm => by
        obtain ⟨x, hx, h34⟩ := quote_in v.length v false [] [] res (Nat.le_refl _) hp (.inr (.inl hm))
        refine hq x ?_ h34
        rw [← e]
        refine List.mem_filter.2 ⟨hx, ?_⟩
        cases x with
        | nil => cases h34
        | cons a r => rfl
      cases hsp : sp 44 v with
      | nil => exact absurd hsp (sp_pos 44 v)
      | cons y ys =>
        rw [plain_parts v [] [] y ys hv hsp] at hp
        rw [← e, ← Option.some.inj hp]; rfl
  · cases h
theorem full_append (a b : List Bytes) : full (a ++ b) = full a ++ full b := by unfold full; rw [List.filter_append]
theorem elems_full : ∀ (V acc l : List Bytes), elemsGo acc V = some l → (∀ x ∈ l, (34 : UInt8) ∉ x) → l = acc ++ full (piecesOf V)
  | [], acc, l, h, _ => by rw [elemsGo] at h; rw [← Option.some.inj h]; exact (List.append_nil acc).symm
  | v :: r, acc, l, h, hq => by
    rw [elemsGo_cons] at h
    split at h
    · cases h
    · next lv hv =>
      have e := elems_full r (acc ++ lv) l h hq
      have hlv := list_full hv fun x hx => hq x (by rw [e]; simp [hx])
      have hp : piecesOf (v :: r) = (sp 44 v).map trim ++ piecesOf r := by unfold piecesOf; rw [List.flatMap_cons, List.map_append]
      rw [hp, full_append, ← hlv, ← List.append_assoc]; exact e
theorem firstN_full : ∀ l : List Bytes, firstN (full l) = firstN l
  | [] => rfl
  | x :: r => by
    by_cases h : x = []
    · subst h
      show firstN (full r) = _
      rw [firstN_full r]
      unfold firstN
      rw [if_neg (show ¬(number []).2 = 0 by decide +kernel)]
      cases r <;> rfl
    · have e : full (x :: r) = x :: full r := by
        unfold full
        rw [List.filter_cons_of_pos]
        cases x with
        | nil => exact absurd rfl h
        | cons a b => rfl
      rw [e]
      conv => lhs; unfold firstN
      conv => rhs; unfold firstN
      rw [firstN_full r]
theorem number_digits {x : Bytes} {n : Nat} (h : number x = (n, 0)) : (34 : UInt8) ∉ x ∧ x ≠ [] := by
  unfold number at h
  split at h
  · next hd =>
    unfold digits at hd
    rw [Bool.and_eq_true] at hd
    refine ⟨fun hm => ?_, fun e => ?_⟩
    · have := List.all_eq_true.1 hd.1 34 hm
      exact absurd this (by decide)
    · rw [e] at hd; exact absurd hd.2 (by decide)
  · injection h with h1 h2; cases h2
theorem low_mem {a : UInt8} {l : Bytes} (h : a ∈ l) : Syn.low a ∈ Syn.lower l := List.mem_map.2 ⟨a, h, rfl⟩
theorem ch_plain {c : Bytes} (h : Syn.lower c = ch) : (34 : UInt8) ∉ c ∧ (59 : UInt8) ∉ c ∧ c ≠ [] := by
  refine ⟨fun hm => ?_, fun hm => ?_, fun e => ?_⟩
  · have := low_mem hm; rw [h] at this; exact absurd this (by decide +kernel)
  · have := low_mem hm; rw [h] at this; exact absurd this (by decide +kernel)
  · rw [e] at h; exact absurd h (by decide +kernel)
/-- The ways in which a request is accepted. -/
theorem accepted (L : List (Bytes × Bytes)) :
    ((frame 1 L).2 ≠ 0 ∧ (frame 1 L).1 = (0, 0)) ∨ (frame 1 L = ((1, 0), 0) ∧ allV L cl = [] ∧ allV L te = []) ∨
    (frame 1 L = ((3, 0), 0) ∧ allV L cl = [] ∧ allV L te ≠ [] ∧ chk (allV L te) = true) ∨
    (∃ n, n ≤ 65536 ∧ frame 1 L = ((2, n), 0) ∧ allV L te = [] ∧ allV L cl ≠ [] ∧ lenN (allV L cl) = some n) := by
  by_cases n1 : 0 < (allV L cl).length
  · by_cases n2 : 0 < (allV L te).length
    · left; rw [frame_both n1 n2]; exact ⟨by decide, rfl⟩
    · rw [frame_cl n1 n2]
      have hne : allV L cl ≠ [] := fun e => by rw [e] at n1; simp at n1
      have hte : allV L te = [] := isEmpty_zero n2
      match he : elemsGo [] (allV L cl) with
      | none => exact .inl ⟨by decide, rfl⟩
      | some [] => exact .inl ⟨by decide, rfl⟩
      | some (x :: r) =>
        rw [frameL_cons]
        split
        · next hall =>
          unfold lengthOf
          split
          · next h0 =>
            split
            · exact .inl ⟨by decide, rfl⟩
            · refine .inr (.inr (.inr ⟨_, by omega, rfl, hte, hne, ?_⟩))
              have hx : number x = ((number x).1, 0) := by rw [← h0]
              have hq : ∀ y ∈ x :: r, (34 : UInt8) ∉ y := fun y hy => by
                have := List.all_eq_true.1 hall y hy
                rw [beq_iff_eq] at this
                rw [this]; exact (number_digits hx).1
              have := elems_full _ _ _ he hq
              rw [List.nil_append] at this
              rw [lenN_first, ← firstN_full, ← this]
              unfold firstN
              rw [if_pos h0]
          · exact .inl ⟨by decide, rfl⟩
        · exact .inl ⟨by decide, rfl⟩
  · have hcl : allV L cl = [] := isEmpty_zero n1
    by_cases n2 : 0 < (allV L te).length
    · rw [frame_te n1 n2]
      have hne : allV L te ≠ [] := fun e => by rw [e] at n2; simp at n2
      match he : elemsGo [] (allV L te) with
      | none => exact .inl ⟨by decide, rfl⟩
      | some [] => exact .inl ⟨by decide, rfl⟩
      | some [c] =>
        by_cases hc : Syn.lower c = ch
        · refine .inr (.inr (.inl ⟨if_pos hc, hcl, hne, ?_⟩))
          obtain ⟨h34, h59, hn⟩ := ch_plain hc
          have := elems_full _ _ _ he (fun y hy => by rw [List.mem_singleton] at hy; rw [hy]; exact h34)
          rw [List.nil_append] at this
          have hm : c ∈ piecesOf (allV L te) := (List.mem_filter.1 (show c ∈ full (piecesOf (allV L te)) by rw [← this]; simp)).1
          rw [chk_pieces, List.any_eq_true]
          refine ⟨c, hm, ?_⟩
          have hb : befT c = c := by
            unfold befT
            rw [dropWhile_semi.2 fun a ha => by rw [bne_iff_ne]; exact fun e => h59 (e ▸ ha), if_pos (show ([] : Bytes).isEmpty = true from rfl)]
          rw [hb]; exact decide_eq_true hc
        · rw [show frameC (some [c]) = ((0, 0), 32) from if_neg hc]
          exact .inl ⟨by decide, rfl⟩
      | some (_ :: _ :: _) => exact .inl ⟨by show (32 : Int) ≠ 0; decide, rfl⟩
    · exact .inr (.inl ⟨frame_none n1 n2, hcl, isEmpty_zero n2⟩)
theorem agrees_of (L : List (Bytes × Bytes)) :
    ((frame 1 L).1 = (0, 0) ∧ ∃ c : Int, errV (frame 1 L).2 = .iface 50 (.int .i64 c)) ∨
    (errV (frame 1 L).2 = .nilIface ∧ amb L = false ∧ (∀ f, lenient L f = (frame 1 L).1) ∧ 1 ≤ ((frame 1 L).1.1 : Int) ∧ ((frame 1 L).1.1 : Int) ≤ 3 ∧ 0 ≤ ((frame 1 L).1.2 : Int) ∧ ((frame 1 L).1.2 : Int) ≤ 65536) := by
  rcases accepted L with ⟨h, h0⟩ | ⟨h, h1, h2⟩ | ⟨h, h1, -, h2⟩ | ⟨n, hn, h, h1, -, h2⟩
  · exact .inl ⟨h0, _, by unfold errV; rw [if_neg h]⟩
  · right
    rw [h]
    refine ⟨rfl, ?_, fun f => ?_, by decide, by decide, by decide, by decide⟩
    · unfold amb; rw [h1]; rfl
    · unfold lenient; rw [h1, h2]; rfl
  · right
    rw [h]
    refine ⟨rfl, ?_, fun f => ?_, by decide, by decide, by decide, by decide⟩
    · unfold amb; rw [h1]; rfl
    · unfold lenient; rw [h1, h2]; rfl
  · right
    rw [h]
    refine ⟨rfl, ?_, fun f => ?_, by show (1 : Int) ≤ 2; decide, by show (2 : Int) ≤ 3; decide, by show (0 : Int) ≤ (n : Int); omega, by show (n : Int) ≤ 65536; omega⟩
    · unfold amb; rw [h1, h2]; rfl
    · unfold lenient; rw [h1, h2]; cases f <;> rfl
end Go.Proofs.YtodgkppjabhhlaaDoor
