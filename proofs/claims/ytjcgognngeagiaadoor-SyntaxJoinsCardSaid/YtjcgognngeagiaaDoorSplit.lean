/-
  Layer 1: Split, the code's.
-/
import Derived.Test.YtjcgognngeagiaaDoorParam
import Derived.Deep.DeepCutAuto
namespace Go.Proofs.YtjcgognngeagiaaDoor
open Go.RowKit Syn

/-- The cells of names and values. -/
def prs (l : List (List UInt8 × List UInt8)) : List Value := l.flatMap fun p => [.string (str p.1), .string (str p.2)]
theorem prs_length (l : List (List UInt8 × List UInt8)) : (prs l).length = l.length * 2 := by
  induction l with
  | nil => rfl
  | cons a l ih =>
    have : prs (a :: l) = [.string (str a.1), .string (str a.2)] ++ prs l := by simp [prs]
    rw [this, List.length_append, ih, List.length_cons]; simp; omega
theorem prs_snoc (l : List (List UInt8 × List UInt8)) (p : List UInt8 × List UInt8) : prs (l ++ [p]) = prs l ++ [.string (str p.1), .string (str p.2)] := by simp [prs]
def PrsOut (w : World) (B : Nat) (t : TypeId) (v : Value) : Option (List UInt8 × List (List UInt8 × List UInt8)) → Prop
  | none => v = .slice none 0 0
  | some p => Own w B t 2 v p.2.length (prs p.2)
def valS (o : Option (List UInt8 × List (List UInt8 × List UInt8))) : List UInt8 := (o.map (·.1)).getD []
theorem infoP : (Tryd.prog.info? 55).map (fun i => (i.zero, i.size, i.bytes)) = some (some (.agg #[.string ⟨#[]⟩, .string ⟨#[]⟩]), 2, 32) := by kernel_rfl
theorem infoR : (Tryd.prog.info? 54).map (fun i => (i.zero, i.size, i.bytes)) = some (some (.agg #[.string ⟨#[]⟩, .string ⟨#[]⟩]), 2, 32) := by kernel_rfl
/-- append of one pair of texts. -/
theorem push_pair (tS tE : TypeId) (ht : Tryd.prog.underlying tS = some (.slice tE)) (hi : (Tryd.prog.info? tE).map (fun i => (i.zero, i.size, i.bytes)) = some (some (.agg #[.string ⟨#[]⟩, .string ⟨#[]⟩]), 2, 32))
    {ops : Array Oper} {rest : List Oper} {o : Oper} {a : Act} {Q : Exit → Act → World → Prop} {w : World} (s x : Operand)
    (hgd : o.guard = none) (ho : o.op = .call { callee := .builtin .append, args := #[s, x], argTypes := #[tS, tS] })
    {B n : Nat} {v u1 u2 : Value} {xs : List Value} (hs : a.eval s = v) (hown : Own w B tE 2 v n xs) (hx : a.eval x = .slice (some ⟨w.heap.size, 0, none⟩) 1 1)
    (h1 : u1.oneCell' = true) (h2 : u2.oneCell' = true) (hn : n < 10000000000) (hbase : B ≤ w.heap.size)
    (h : ∀ v' w', Own w' B tE 2 v' (n + 1) (xs ++ [u1, u2]) → Below B w w' → wpList Tryd.prog ops Q rest (a.put o.dst v') w') : wpList Tryd.prog ops Q (o :: rest) a (w.alloc (.cells #[u1, u2] tE)) := by
  refine step_push tS tE (.agg #[.string ⟨#[]⟩, .string ⟨#[]⟩]) 2 32 s x hgd ho ht hi rfl (by decide) (by decide) hs (hown.alloc _) hx (news := [u1, u2]) rfl ?_ ?_ hn (by simp; omega) ?_
  · intro j u hj
    have hb := (Blk.new w tE #[u1, u2]).cell j
    have hadd : (⟨w.heap.size, 0, none⟩ : Addr).add j = ⟨w.heap.size, j, none⟩ := by unfold Addr.add; split <;> simp_all
    rw [hadd, hb]; simpa using hj
  · intro y hy
    rw [List.mem_cons, List.mem_singleton] at hy
    rcases hy with rfl | rfl
    · exact h1
    · exact h2
  · intro v' w' ho' hb _
    exact h v' w' ho' (((Below.refl B w).alloc hbase _).trans hb)
theorem param_eq (x : List UInt8) : param x = if (!(x.dropWhile (· != 61)).isEmpty) && isTok (x.takeWhile (· != 61)) then
    (if isTok ((x.dropWhile (· != 61)).drop 1) then some (Syn.lower (x.takeWhile (· != 61)), (x.dropWhile (· != 61)).drop 1) else (unq ((x.dropWhile (· != 61)).drop 1)).map fun u => (Syn.lower (x.takeWhile (· != 61)), u)) else none := by
  unfold param
  cases h : x.dropWhile (· != 61) with
  | nil => rfl
  | cons a v => rfl
theorem paramsGo_cons (acc : List (List UInt8 × List UInt8)) (x : List UInt8) (r : List (List UInt8)) : paramsGo acc (x :: r) = if x.isEmpty then paramsGo acc r else match param x with | none => none | some p => paramsGo (acc ++ [p]) r := by
  rw [paramsGo]; rfl
theorem drop_cell {r : List (List UInt8)} {k : Nat} (h : k < r.length) : r.drop k = r[k] :: r.drop (k + 1) := List.drop_eq_getElem_cons h
set_option maxRecDepth 100000 in
set_option maxHeartbeats 8000000 in
theorem split_any (s : ByteArray) (w : World) (hs : s.size ≤ 500000) :
    Calls Tryd.prog 26 #[.string s] w fun e w' => ∃ v, e = .returned (.tuple #[.string (str (valS (split (bs s)))), v, errV (errO (split (bs s)))]) ∧ PrsOut w' w.heap.size 55 v (split (bs s)) ∧ Below w.heap.size w w' := by
  have hpa : ∀ w, Calls Tryd.prog 34 #[.string s, .int .u8 59] w fun e w' => ∃ v, e = .returned (.tuple #[v, errV (errO (parts 59 (bs s)))]) ∧ PartsOut w' w.heap.size v (parts 59 (bs s)) ∧ Below w.heap.size w w' := fun w => parts_any s 59 w (by omega)
  cases hp : parts 59 (bs s) with
  | none =>
    have hl : Hid (split (bs s) = none) := Lib.hid (by unfold split; rw [hp])
    rw [hp] at hpa
    go_enter Tryd.func26, Tryd.ntmps26
    go_wp2_with fail
    refine (hpa _).mono ?_
    rintro e w1 ⟨v, rfl, hv, hb⟩
    rw [show errV (errO (none : Option (List (List UInt8)))) = .iface 32 (.int .i64 2) from rfl]
    go_wp2
    go_ret3
    exact ⟨_, by rw [hl.out]; rfl, by rw [hl.out]; rfl, hb⟩
  | some l =>
    obtain ⟨hl0, hle⟩ := parts_most hp
    obtain ⟨x, r, rfl⟩ : ∃ x r, l = x :: r := by
      cases l with
      | nil => simp at hl0
      | cons x r => exact ⟨x, r, rfl⟩
    have hl : Hid (split (bs s) = (paramsGo [] r).map fun ps => (x, ps)) := Lib.hid (by unfold split; rw [hp])
    have hln : r.length ≤ 500000 := by have := parts_len hp; simp at this; omega
    rw [hp] at hpa
    go_enter Tryd.func26, Tryd.ntmps26
    go_wp2_with fail
    refine (hpa _).mono ?_
    rintro e w1 ⟨v, rfl, hv, hb⟩
    rw [show errV (errO (some (x :: r))) = .nilIface from rfl]
    clear hpa hp
    have hR : Rd w1 1 v (r.length + 1) (strs (x :: r)) := Rd.own hv
    obtain ⟨A, cap, rfl, hcap, -, hA⟩ := id hR
    obtain ⟨b1, o1, rfl, hb1, -⟩ := hA (by omega)
    replace hb := Lib.hid hb
    replace hle := Lib.hid hle
    replace hR := Lib.hid hR
    clear hv hl0 hA
    go_upto_region 5 with (fail)
    go_cut [5, 22, 23, 24] (fun s5 v n i wx => ∃ (o2 cap2 : Nat), s5 = .slice (some ⟨b1, o1, none⟩) (r.length + 1) cap ∧ v = .slice (some ⟨b1, o2, none⟩) r.length cap2 ∧ n = .int .i64 (r.length : Int) ∧ i = .int .i64 0 ∧ r.length ≤ cap2 ∧ (0 < r.length → o2 = o1 + 1) ∧ wx = w1)
    case first =>
      go_wp2_with fail
      all_goals
        go_meet
        refine ⟨_, _, by first | rfl | (rw [‹cap = 1›]), rfl, rfl, rfl, by omega, fun h => by omega, rfl⟩
    case rest =>
      obtain ⟨o2, cap2, rfl, rfl, rfl, rfl, hcap2, ho2, rfl⟩ := hcut
      go_wp2
      go_loopw [7, 24] (fun o i wr => ∃ (k : Nat) (acc : List (List UInt8 × List UInt8)), i = .int .i64 (k : Int) ∧ k ≤ r.length ∧ acc.length ≤ k ∧ Hid (paramsGo [] r = paramsGo acc (r.drop k)) ∧ Hid (Own wr wc.heap.size 55 2 o acc.length (prs acc)) ∧ Hid (Below wc.heap.size wc wr)) (fun _ i _ => r.length - (intOf i).toNat)
      case atStart => exact ⟨0, [], rfl, by omega, by simp, rfl, own_nil _ _ _ _, Below.refl _ _⟩
      case round =>
        obtain ⟨k, acc, rfl, hk, hac, hg, ho, hB⟩ := hrel
        have hBw := hB.out.size
        by_cases hlt : k < r.length
        · have hR' := hR.out.below hB.out
          obtain ⟨A', cap', e', -, -, r'⟩ := hR'
          obtain ⟨b3, o3, e3, _, x1⟩ := r' (by omega)
          rw [e3] at e'
          cases e'
          have ho2' := ho2 (by omega)
          subst ho2'
          have d1 : wr.cell? ⟨b1, o1 + 1 + k, none⟩ = some (.string (str r[k])) := by
            have := x1 (k + 1) _ (strs_at (l := x :: r) (k := k + 1) (by simp; omega))
            rw [Nat.add_assoc, Nat.add_comm 1 k]; exact this
          have hyl := Lib.hid (hle.out r[k] (by simp))
          have hst := Lib.hid (hg.out.trans ((congrArg (paramsGo acc) (drop_cell hlt)).trans (paramsGo_cons acc r[k] (r.drop (k + 1)))))
          clear x1 r'
          generalize r[k] = y at *
          have hyn : y.length ≤ 500000 := by have := hyl.out; rw [bs_length] at this; omega
          cases hye : y.isEmpty
          · have hxe : (str y).toList.isEmpty = false := by rw [str_isEmpty]; exact hye
            have hst2 := hst.out
            rw [hye, if_neg (by decide), param_eq] at hst2
            have hC : ∀ w, Calls Tryd.prog 38 #[.string (str y), .string ⟨#[61]⟩] w fun e w' => e = .returned (cutV y 61) ∧ ∃ n, w' = w.drewN n := fun w => cut_any (str y) 61 w (by rw [str_size]; unfold maxLen; omega)
            unfold cutV at hC
            have hNl := takeWhile_le (· != 61) y
            have hVl : ((y.dropWhile (· != 61)).drop 1).length ≤ y.length := by rw [List.length_drop]; have := dropWhile_le (· != 61) y; omega
            generalize y.takeWhile (· != 61) = N at *
            generalize (y.dropWhile (· != 61)).drop 1 = V at *
            generalize (!(y.dropWhile (· != 61)).isEmpty) = OK at *
            have hT1 : ∀ w, Calls Tryd.prog 12 #[.string (str N)] w fun e w' => e = .returned (.bool (isTok N)) ∧ w' = w := fun w => token_any (str N) w (by rw [str_size]; unfold maxLen; omega)
            have hT2 : ∀ w, Calls Tryd.prog 12 #[.string (str V)] w fun e w' => e = .returned (.bool (isTok V)) ∧ w' = w := fun w => token_any (str V) w (by rw [str_size]; unfold maxLen; omega)
            have hL : ∀ w, Calls Tryd.prog 39 #[.string (str N)] w fun e w' => e = .returned (.string (str (Syn.lower N))) ∧ Below w.heap.size w w' := fun w => lower_any (str N) w (by rw [str_size]; omega)
            have hU : ∀ w, Calls Tryd.prog 21 #[.string (str V)] w fun e w' => e = .returned (unqV (unq V)) ∧ Below w.heap.size w w' := fun w => unquote_any (str V) w (by rw [str_size]; omega)
            have none_case : paramsGo [] r = none → Hid (split (bs s) = none) := fun h => Lib.hid (by rw [hl.out, h]; rfl)
            clear hst hyl hg
            replace hC := Lib.hid hC
            replace hT1 := Lib.hid hT1
            replace hT2 := Lib.hid hT2
            replace hL := Lib.hid hL
            replace hU := Lib.hid hU
            replace hNl := Lib.hid hNl
            replace hVl := Lib.hid hVl
            replace hye := Lib.hid hye
            cases OK
            · have hf := none_case (by rw [hst2]; rfl)
              clear hst2 none_case
              go_wp2_with fail
              refine (hC.out _).mono ?_
              rintro e w2 ⟨rfl, nc, rfl⟩
              go_wp2
              go_ret3
              exact ⟨_, by rw [hf.out]; rfl, by rw [hf.out]; rfl, below_drewN (Below.next hb.out hb.out.size hB.out) _⟩
            · cases ht1 : isTok N
              · have hf := none_case (by rw [hst2, ht1]; rfl)
                clear hst2 none_case
                rw [ht1] at hT1
                go_wp2_with fail
                refine (hC.out _).mono ?_
                rintro e w2 ⟨rfl, nc, rfl⟩
                go_wp2_with fail
                refine (hT1.out _).mono ?_
                rintro e w3 ⟨rfl, rfl⟩
                go_wp2
                go_ret3
                exact ⟨_, by rw [hf.out]; rfl, by rw [hf.out]; rfl, below_drewN (Below.next hb.out hb.out.size hB.out) _⟩
              · cases ht2 : isTok V
                · rw [ht1] at hT1
                  rw [ht2] at hT2
                  rw [ht1, ht2] at hst2
                  cases hu : unq V with
                  | none =>
                    have hf := none_case (by rw [hst2, hu]; rfl)
                    clear hst2 none_case
                    rw [hu, show unqV none = .tuple #[.string ⟨#[]⟩, .iface 32 (.int .i64 2)] from rfl] at hU
                    go_wp2_with fail
                    refine (hC.out _).mono ?_
                    rintro e w2 ⟨rfl, nc, rfl⟩
                    go_wp2_with fail
                    refine (hT1.out _).mono ?_
                    rintro e w3 ⟨rfl, hw3⟩
                    go_wp2_with fail
                    refine (hT2.out _).mono ?_
                    rintro e w4 ⟨rfl, hw4⟩
                    go_wp2_with fail
                    refine (hU.out _).mono ?_
                    rintro e w5 ⟨rfl, hb5⟩
                    subst hw4 hw3
                    replace hb5 := Lib.hid hb5
                    go_wp2
                    go_ret3
                    exact ⟨_, by rw [hf.out]; rfl, by rw [hf.out]; rfl, Below.next (below_drewN (Below.next hb.out hb.out.size hB.out) nc) (Nat.le_trans hb.out.size hBw) hb5.out⟩
                  | some u =>
                    have hst3 : Hid (paramsGo [] r = paramsGo (acc ++ [(Syn.lower N, u)]) (r.drop (k + 1))) := Lib.hid (by rw [hst2, hu]; rfl)
                    clear hst2 none_case
                    rw [hu, show unqV (some u) = .tuple #[.string (str u), .nilIface] from rfl] at hU
                    go_wp2_with fail
                    refine (hC.out _).mono ?_
                    rintro e w2 ⟨rfl, nc, rfl⟩
                    go_wp2_with fail
                    refine (hT1.out _).mono ?_
                    rintro e w3 ⟨rfl, hw3⟩
                    go_wp2_with fail
                    refine (hT2.out _).mono ?_
                    rintro e w4 ⟨rfl, hw4⟩
                    go_wp2_with fail
                    refine (hU.out _).mono ?_
                    rintro e w5 ⟨rfl, hb5⟩
                    subst hw4 hw3
                    have hB5 := Lib.hid (Below.next (below_drewN hB.out nc) hBw hb5)
                    have ho5 := Lib.hid (own_below (own_drewN ho.out nc) hb5)
                    have hBw5 := hB5.out.size
                    clear hb5
                    go_wp2_with fail
                    refine (hL.out _).mono ?_
                    rintro e w6 ⟨rfl, hb6⟩
                    have hB6 := Lib.hid (Below.next hB5.out hBw5 hb6)
                    have ho6 := Lib.hid (own_below ho5.out hb6)
                    have hBw6 := hB6.out.size
                    clear hb6
                    go_wp2_with (at_builtin; refine push_pair 46 55 Tryd.underlying46 infoP _ _ rfl rfl rfl ho6.out rfl rfl rfl (by omega) hBw6 ?_; intro v7 w7 ho7 hb7; replace ho7 := Lib.hid ho7; have hB7 := Lib.hid (hB6.out.trans hb7); clear hb7)
                    go_roundw
                    case rel => exact ⟨k + 1, acc ++ [(Syn.lower N, u)], by go_num, by omega, by simp; omega, hst3, Lib.hid (by rw [prs_snoc]; simpa using ho7.out), hB7⟩
                    case measure => simp [intOf]; omega
                · rw [ht1] at hT1
                  rw [ht2] at hT2
                  have hst3 : Hid (paramsGo [] r = paramsGo (acc ++ [(Syn.lower N, V)]) (r.drop (k + 1))) := Lib.hid (by rw [hst2, ht1, ht2]; rfl)
                  clear hst2 none_case
                  go_wp2_with fail
                  refine (hC.out _).mono ?_
                  rintro e w2 ⟨rfl, nc, rfl⟩
                  go_wp2_with fail
                  refine (hT1.out _).mono ?_
                  rintro e w3 ⟨rfl, hw3⟩
                  go_wp2_with fail
                  refine (hT2.out _).mono ?_
                  rintro e w4 ⟨rfl, hw4⟩
                  subst hw4 hw3
                  have hB5 := Lib.hid (below_drewN hB.out nc)
                  have ho5 := Lib.hid (own_drewN ho.out nc)
                  have hBw5 : wc.heap.size ≤ (wr.drewN nc).heap.size := hBw
                  go_wp2_with fail
                  refine (hL.out _).mono ?_
                  rintro e w6 ⟨rfl, hb6⟩
                  have hB6 := Lib.hid (Below.next hB5.out hBw5 hb6)
                  have ho6 := Lib.hid (own_below ho5.out hb6)
                  have hBw6 := hB6.out.size
                  clear hb6
                  go_wp2_with (at_builtin; refine push_pair 46 55 Tryd.underlying46 infoP _ _ rfl rfl rfl ho6.out rfl rfl rfl (by omega) hBw6 ?_; intro v7 w7 ho7 hb7; replace ho7 := Lib.hid ho7; have hB7 := Lib.hid (hB6.out.trans hb7); clear hb7)
                  go_roundw
                  case rel => exact ⟨k + 1, acc ++ [(Syn.lower N, V)], by go_num, by omega, by simp; omega, hst3, Lib.hid (by rw [prs_snoc]; simpa using ho7.out), hB7⟩
                  case measure => simp [intOf]; omega
          · have hxe : (str y).toList.isEmpty = true := by rw [str_isEmpty]; exact hye
            have hst2 := hst.out
            rw [hye, if_pos rfl] at hst2
            replace hst2 := Lib.hid hst2
            clear hst hye hyl
            go_wp2
            go_roundw
            case rel => exact ⟨k + 1, acc, by go_num, by omega, by omega, hst2, ho, hB⟩
            case measure => simp [intOf]; omega
        · obtain rfl : k = r.length := by omega
          have hR' := hR.out.below hB.out
          obtain ⟨A', cap', e', -, -, r'⟩ := hR'
          obtain ⟨b3, o3, e3, _, x1⟩ := r' (by omega)
          rw [e3] at e'
          cases e'
          have d1 : wr.cell? ⟨b1, o1, none⟩ = some (.string (str x)) := x1 0 _ rfl
          have hf : Hid (split (bs s) = some (x, acc)) := Lib.hid (by rw [hl.out, hg.out, List.drop_length]; rfl)
          have hown := Lib.hid (own_mono ho.out hb.out.size)
          clear x1 r' hg
          go_wp2
          go_ret3
          exact ⟨_, by rw [hf.out]; rfl, by rw [hf.out]; exact hown.out, Below.next hb.out hb.out.size hB.out⟩
end Go.Proofs.YtjcgognngeagiaaDoor
