/-
  The document's parts and before.
-/
import Derived.Test.YtodgkppjabhhlaaDoorFLenS
import Derived.Test.YtodgkppjabhhlaaDoorFAll
import Derived.Test.YtodgkppjabhhlaaDoorFElems
namespace Go.Proofs.YtodgkppjabhhlaaDoor
open Go.RowKit Syn Fr

set_option maxHeartbeats 2000000 in
theorem before_any (s : ByteArray) (w : World) (hs : s.size ≤ 1000000) :
    Calls Tryd.prog 34 #[.string s] w fun e w' => e = .returned (.string (str (befT (bs s)))) ∧ Below w.heap.size w w' := by
  go_enter Tryd.func34, Tryd.ntmps34
  go_wp2
  go_loop [3] (fun i => ∃ k : Nat, i = .int .i64 (k : Int) ∧ k ≤ s.size ∧ Hid (∀ a ∈ (bs s).take k, (a != 59) = true)) (fun i => s.size - (intOf i).toNat)
  case atStart => exact ⟨0, rfl, by omega, Lib.hid (by simp)⟩
  case round =>
    obtain ⟨k, rfl, hk, hno⟩ := hrel
    by_cases hlt : k < s.size
    · have hat := take_at s k hlt
      by_cases he : s[k].toNat = 59
      · have hb : ((s[k].toNat : Int) == 59) = true := u8_beq_true he
        have hc : (s[k] != 59) = false := by
          have : s[k] = 59 := u8_iff.2 he
          rw [this]; rfl
        have hT := Lib.hid (fun w => rtrim_any (s.extract 0 k) w (by rw [← bs_length, extract_str, bs_str, List.length_drop, List.length_take]; unfold maxLen; omega))
        have hx : bs (s.extract 0 k) = (bs s).take k := by rw [extract_str, bs_str, List.drop_zero]
        have hres := Lib.hid (show befT (bs s) = trim (bs (s.extract 0 k)) by
          have hd := drop_at s k hlt
          obtain ⟨e1, e2⟩ := takeWhile_all (r := (bs s).drop (k + 1)) hno.out s[k] hc
          have e : bs s = (bs s).take k ++ s[k] :: (bs s).drop (k + 1) := by
            conv => lhs; rw [← List.take_append_drop k (bs s), hd]
          unfold befT
          rw [← e] at e1 e2
          rw [e1, e2, if_neg (by simp), hx])
        clear hx hno hat
        replace he := Lib.hid he
        go_wp2_with fail
        refine (hT.out _).mono ?_
        rintro e w1 ⟨rfl, rfl⟩
        go_wp2
        go_ret
        exact ⟨by rw [hres.out]; rfl, Below.refl _ _⟩
      · have hb : ((s[k].toNat : Int) == 59) = false := beq_cast_false he
        have hn := Lib.hid (show ∀ a ∈ (bs s).take (k + 1), (a != 59) = true from fun a ha => by
          rw [hat, List.mem_append, List.mem_singleton] at ha
          rcases ha with ha | rfl
          · exact hno.out a ha
          · rw [bne_iff_ne]; intro h; exact he (u8_iff.1 h))
        clear hno hat
        replace he := Lib.hid he
        go_wp2
        go_round
        case rel => exact ⟨k + 1, by go_num, by omega, hn⟩
        case measure => simp [intOf]; omega
    · obtain rfl : k = s.size := by omega
      have hres := Lib.hid (show befT (bs s) = bs s by
        have := hno.out
        rw [take_all] at this
        unfold befT
        rw [dropWhile_semi.2 this, if_pos (show ([] : Bytes).isEmpty = true from rfl)])
      clear hno
      go_wp2
      go_ret
      exact ⟨by rw [hres.out, str_bs]; rfl, Below.refl _ _⟩
theorem pieces_take {V : List Bytes} {k : Nat} (h : k < V.length) : piecesOf (V.take (k + 1)) = piecesOf (V.take k) ++ (sp 44 V[k]).map trim := by
  unfold piecesOf
  rw [List.take_succ_eq_append_getElem h, List.flatMap_append, List.map_append]; simp
theorem pieces_len (V : List Bytes) (h : ∀ v ∈ V, v.length ≤ 5000) : (piecesOf V).length ≤ 5001 * V.length := by
  induction V with
  | nil => exact Nat.le_refl _
  | cons v V ih =>
    have h1 := ih fun x hx => h x (by simp [hx])
    have h2 := sp_length 44 v
    have h3 : v.count 44 ≤ v.length := List.count_le_length
    have h4 := h v (by simp)
    unfold piecesOf at *
    rw [List.length_map] at *
    rw [List.flatMap_cons, List.length_append, List.length_cons]
    omega
set_option maxRecDepth 100000 in
set_option maxHeartbeats 8000000 in
theorem rpieces_any (L : List (Bytes × Bytes)) (name : Bytes) (v : Value) (w : World) (hF : Few L) (hn : name.length ≤ 1000) (hR : Rd w 2 v L.length (prs L)) :
    Calls Tryd.prog 31 #[v, .string (str name)] w fun e w' => ∃ o, e = .returned o ∧ Own w' w.heap.size 9 1 o (piecesOf (allV L name)).length (strs (piecesOf (allV L name))) ∧ Below w.heap.size w w' := by
  have hA : ∀ w, Rd w 2 v L.length (prs L) → Calls Tryd.prog 43 #[v, .string (str name)] w fun e w' => ∃ o, e = .returned o ∧ Own w' w.heap.size 9 1 o (allV L name).length (strs (allV L name)) ∧ Below w.heap.size w w' := fun w h => rall_any L name v w hF hn h
  have hvl : ∀ x ∈ allV L name, x.length ≤ 5000 := fun x hx => by
    obtain ⟨p, hp, rfl⟩ := allV_mem hx
    exact (hF.short p hp).2
  have hml : (allV L name).length ≤ 100 := Nat.le_trans (allV_length L name) hF.len
  generalize allV L name = V at *
  clear hF
  replace hA := Lib.hid hA
  replace hvl := Lib.hid hvl
  obtain ⟨A, cap, rfl, hcap, -, -⟩ := id hR
  replace hR := Lib.hid hR
  go_enter Tryd.func31, Tryd.ntmps31
  go_wp2_with fail
  refine (hA.out _ hR.out).mono ?_
  rintro e w1 ⟨o, rfl, hv, hb1⟩
  obtain ⟨A2, cap2, rfl, -, -, -⟩ : Rd w1 1 o V.length (strs V) := Rd.own hv
  replace hv := Lib.hid hv
  replace hb1 := Lib.hid hb1
  have hw1 := hb1.out.size
  go_wp2
  go_loopw [5, 7, 8, 9] (fun o i p j wr => ∃ (k : Nat), i = .int .i64 (k : Int) ∧ k ≤ V.length ∧ Hid (Own wr w1.heap.size 9 1 o (piecesOf (V.take k)).length (strs (piecesOf (V.take k)))) ∧ Hid (Below w1.heap.size w1 wr)) (fun _ i _ _ _ => V.length - (intOf i).toNat)
  case atStart => exact ⟨0, rfl, by omega, Lib.hid (own_nil _ _ _ _), Lib.hid (Below.refl _ _)⟩
  case round =>
    obtain ⟨k, rfl, hk, ho, hB⟩ := hrel
    by_cases hlt : k < V.length
    · have hst := Lib.hid (pieces_take hlt)
      have hpl := Lib.hid (pieces_len (V.take k) fun v hv' => hvl.out v (List.mem_of_mem_take hv'))
      have hpl2 : (piecesOf (V.take k)).length ≤ 600000 := by have := hpl.out; rw [List.length_take] at this; omega
      have hx5 := hvl.out V[k] (List.getElem_mem hlt)
      generalize hD : piecesOf (V.take k) = D at *
      obtain ⟨x, hx⟩ : ∃ x, x = V[k] := ⟨_, rfl⟩
      have hV := Lib.hid (show (strs V)[k]? = some (.string (str x)) by rw [hx]; exact strs_at hlt)
      rw [← hx] at hst hx5
      clear hx hpl hD
      go_wp2
      go_loopw [5, 8, 9] (fun o p j wr => ∃ m : Nat, j = .int .i64 (m : Int) ∧ ((m ≤ x.length ∧ p = .string (str (spF 44 (x.take m)).2) ∧ Hid (Own wr w1.heap.size 9 1 o (D ++ (spF 44 (x.take m)).1.map trim).length (strs (D ++ (spF 44 (x.take m)).1.map trim)))) ∨ (m = x.length + 1 ∧ Hid (Own wr w1.heap.size 9 1 o (D ++ (sp 44 x).map trim).length (strs (D ++ (sp 44 x).map trim))))) ∧ Hid (Below w1.heap.size w1 wr)) (fun _ _ j _ => x.length + 1 - (intOf j).toNat)
      case atStart => exact ⟨0, rfl, .inl ⟨by omega, rfl, Lib.hid (by rw [show (D ++ (spF 44 (x.take 0)).1.map trim) = D by rw [List.take_zero]; exact List.append_nil D]; exact ho.out)⟩, hB⟩
      case round =>
        clear hB ho
        obtain ⟨m, rfl, hm, hB⟩ := hrel
        have hBw := hB.out.size
        have hvr := own_below hv.out hB.out
        obtain ⟨A3, c3, e3, -, -, r3⟩ : Rd wr 1 _ V.length (strs V) := Rd.own hvr
        cases e3
        obtain ⟨b1, o1, rfl, -, x1⟩ := r3 (by omega)
        have d1 : wr.cell? ⟨b1, o1 + k, none⟩ = some (.string (str x)) := x1 k _ hV.out
        clear x1 r3 hvr
        have hxs : (str x).size = x.length := str_size x
        rcases hm with ⟨hmx, rfl, ho⟩ | ⟨rfl, ho⟩
        · have hln := spF_len 44 (x.take m)
          rw [List.length_take] at hln
          by_cases hme : m = x.length
          · subst hme
            have hbe : ((x.length : Int) == ((str x).size : Int)) = true := by rw [hxs]; exact beq_self_eq_true _
            have hfin := Lib.hid (show D ++ (sp 44 x).map trim = (D ++ (spF 44 (x.take x.length)).1.map trim) ++ [trim (spF 44 (x.take x.length)).2] by
              rw [← spF_sp, List.take_length]; simp)
            generalize hDl : (D ++ (spF 44 (x.take x.length)).1.map trim) = D2 at *
            have hD2 : D2.length ≤ 700000 := by rw [← hDl, List.length_append, List.length_map]; omega
            clear hDl
            generalize (spF 44 (x.take x.length)).2 = cur at *
            have hT := Lib.hid (fun w => rtrim_any (str cur) w (by rw [str_size]; unfold maxLen; omega))
            rw [bs_str] at hT
            go_wp2_with fail
            refine (hT.out _).mono ?_
            rintro e w2 ⟨rfl, rfl⟩
            go_wp2_with (at_builtin; refine push_str _ _ rfl rfl rfl ho.out rfl rfl (by omega) hBw ?_; intro v2 w2 ho2 hb2; replace ho2 := Lib.hid ho2; have hB2 := Lib.hid (hB.out.trans hb2); clear hb2)
            go_roundw
            case rel => exact ⟨x.length + 1, by go_num, .inr ⟨rfl, Lib.hid (by rw [hfin.out, strs_snoc, List.length_append]; exact ho2.out)⟩, hB2⟩
            case measure => simp [intOf]
          · have hmlt : m < x.length := by omega
            have hbe : ((m : Int) == ((str x).size : Int)) = false := by rw [hxs]; exact beq_false_of_ne (by omega)
            have hms : m < (str x).size := by omega
            have hsb : (str x)[m] = x[m] := by
              have h1 := byte_at (str x) m hms
              rw [bs_str, List.getElem?_eq_getElem hmlt] at h1
              exact (Option.some.inj h1).symm
            have hnx := spF_take (c := 44) hmlt
            by_cases hc : x[m] = 44
            · have hb : (((str x)[m].toNat : Int) == 44) = true := by rw [hsb, hc]; rfl
              rw [show spS 44 (spF 44 (x.take m)) x[m] = ((spF 44 (x.take m)).1 ++ [(spF 44 (x.take m)).2], []) from if_pos hc] at hnx
              have hfin := Lib.hid (show D ++ (spF 44 (x.take (m + 1))).1.map trim = (D ++ (spF 44 (x.take m)).1.map trim) ++ [trim (spF 44 (x.take m)).2] by rw [hnx]; simp)
              have hcur := Lib.hid (show (spF 44 (x.take (m + 1))).2 = [] by rw [hnx])
              clear hnx hc hsb
              generalize hDl : (D ++ (spF 44 (x.take m)).1.map trim) = D2 at *
              have hD2 : D2.length ≤ 700000 := by rw [← hDl, List.length_append, List.length_map]; omega
              clear hDl
              generalize (spF 44 (x.take m)).2 = cur at *
              have hT := Lib.hid (fun w => rtrim_any (str cur) w (by rw [str_size]; unfold maxLen; omega))
              rw [bs_str] at hT
              go_wp2_with fail
              refine (hT.out _).mono ?_
              rintro e w2 ⟨rfl, rfl⟩
              go_wp2_with (at_builtin; refine push_str _ _ rfl rfl rfl ho.out rfl rfl (by omega) hBw ?_; intro v2 w2 ho2 hb2; replace ho2 := Lib.hid ho2; have hB2 := Lib.hid (hB.out.trans hb2); clear hb2)
              go_roundw
              case rel => exact ⟨m + 1, by go_num, .inl ⟨by omega, by rw [hcur.out]; rfl, Lib.hid (by rw [hfin.out, strs_snoc, List.length_append]; exact ho2.out)⟩, hB2⟩
              case measure => simp [intOf]; omega
            · have hb : (((str x)[m].toNat : Int) == 44) = false := by rw [hsb]; exact beq_cast_false fun h => hc (u8_iff.2 h)
              rw [show spS 44 (spF 44 (x.take m)) x[m] = ((spF 44 (x.take m)).1, (spF 44 (x.take m)).2 ++ [x[m]]) from if_neg hc] at hnx
              have hfin := Lib.hid (show D ++ (spF 44 (x.take (m + 1))).1.map trim = D ++ (spF 44 (x.take m)).1.map trim by rw [hnx])
              have hex : (str x).extract m (m + 1) = str [x[m]] := by
                rw [extract_str, bs_str]
                congr 1
                rw [List.take_succ_eq_append_getElem hmlt, List.drop_append_of_le_length (by rw [List.length_take]; omega), List.drop_eq_nil_of_le (by rw [List.length_take]; omega)]; rfl
              have hcur := Lib.hid (show (spF 44 (x.take (m + 1))).2 = (spF 44 (x.take m)).2 ++ [x[m]] by rw [hnx])
              have hap := Lib.hid (str_append (spF 44 (x.take m)).2 [x[m]])
              have hsz : (str (spF 44 (x.take m)).2).size + (str [x[m]]).size ≤ 9223372036854775807 := by rw [str_size, str_size]; simp; omega
              clear hnx hc hsb
              generalize hDl : (D ++ (spF 44 (x.take m)).1.map trim) = D2 at *
              generalize (spF 44 (x.take m)).2 = cur at *
              generalize x[m] = xm at *
              go_wp2
              go_roundw
              case rel => exact ⟨m + 1, by go_num, .inl ⟨by omega, by rw [hcur.out, ← hap.out, ← hex], Lib.hid (by rw [hfin.out]; exact ho.out)⟩, hB⟩
              case measure => simp [intOf]; omega
        · go_wp2
          go_roundw
          case rel => exact ⟨k + 1, by go_num, by omega, Lib.hid (by rw [hst.out]; exact ho.out), hB⟩
          case measure => simp [intOf]; omega
    · obtain rfl : k = V.length := by omega
      rw [List.take_length] at ho
      have hown := Lib.hid (own_mono ho.out hw1)
      have hBf := Lib.hid (Below.next hb1.out hw1 hB.out)
      go_wp2
      go_ret
      exact ⟨_, rfl, hown.out, hBf.out⟩
end Go.Proofs.YtodgkppjabhhlaaDoor
