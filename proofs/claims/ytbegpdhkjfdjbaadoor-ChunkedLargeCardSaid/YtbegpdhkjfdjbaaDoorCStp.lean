/-
  Layer 7: a line after the last chunk in the decoder.
-/
import Derived.Test.YtbegpdhkjfdjbaaDoorCEnd
import Derived.Test.YtbegpdhkjfdjbaaDoorPairs
import Derived.Test.YtbegpdhkjfdjbaaDoorCut
namespace Go.Proofs.YtbegpdhkjfdjbaaDoor
open Go.RowKit Syn Ck

section
variable {P : Program}
/-- append of the m elements of a block onto an owned row: which block may have turned. -/
theorem step_pushG {ops : Array Oper} {rest : List Oper} {o : Oper} {a : Act} {Q : Exit → Act → World → Prop} {w : World} (t e : TypeId) (z : Value) (size bytes : Nat) (s x : Operand)
    (hgd : o.guard = none) (ho : o.op = .call { callee := .builtin .append, args := #[s, x], argTypes := #[t, t] })
    (ht : P.underlying t = some (.slice e)) (hi : (P.info? e).map (fun i => (i.zero, i.size, i.bytes)) = some (some z, size, bytes)) (hzs : z.cells.size = size) (hsz : 0 < size) (hby : bytes ≤ 1000)
    {n m c : Nat} {v : Value} {xs news : List Value} {ad : Addr} (hs : a.eval s = v) (hown : Own w 0 e size v n xs) (hx : a.eval x = .slice (some ad) m c) (hl : news.length = m * size)
    (hnews : ∀ j u, news[j]? = some u → w.cell? (ad.add j) = some u) (h1 : ∀ u ∈ news, u.oneCell' = true) (hn : n + m ≤ 10000000000)
    (h : ∀ v' w', Own w' 0 e size v' (n + m) (xs ++ news) → w.grownBy w' v.ownBlock → (v'.ownBlock = v.ownBlock ∨ v'.ownBlock = some w.heap.size) → wpList P ops Q rest (a.put o.dst v') w') : wpList P ops Q (o :: rest) a w := by
  cases hP : P.info? e with
  | none => rw [hP] at hi; cases hi
  | some i =>
    rw [hP] at hi
    simp only [Option.map_some, Option.some.injEq, Prod.mk.injEq] at hi
    obtain ⟨hz, hsize, hbytes⟩ := hi
    have hbb : (n + m) * bytes ≤ 140737488355328 := Nat.le_trans (Nat.mul_le_mul hn hby) (by decide)
    refine wpList_append_own_at w hgd s x t ho 0 e i z size bytes ht hP hz hsize hbytes hzs hsz v n xs hs hown ad m c news hx hl hnews h1 (by unfold maxLen; omega) hbb (Nat.zero_le _) ?_
    intro v' w' hown' hg _ hat
    exact h v' w' hown' hg hat
end
/-- append of one byte. -/
theorem pushG_u8 {ops : Array Oper} {rest : List Oper} {o : Oper} {a : Act} {Q : Exit → Act → World → Prop} {w : World} (s x : Operand)
    (hgd : o.guard = none) (ho : o.op = .call { callee := .builtin .append, args := #[s, x], argTypes := #[30, 30] })
    {n : Nat} {v u : Value} {xs : List Value} (hs : a.eval s = v) (hown : Own w 0 5 1 v n xs) (hx : a.eval x = .slice (some ⟨w.heap.size, 0, none⟩) 1 1)
    (h1 : u.oneCell' = true) (hn : n < 10000000000)
    (h : ∀ v' w', Own w' 0 5 1 v' (n + 1) (xs ++ [u]) → (w.alloc (.cells #[u] 5)).grownBy w' v.ownBlock → (v'.ownBlock = v.ownBlock ∨ v'.ownBlock = some (w.heap.size + 1)) → wpList Tryd.prog ops Q rest (a.put o.dst v') w') : wpList Tryd.prog ops Q (o :: rest) a (w.alloc (.cells #[u] 5)) := by
  refine step_pushG 30 5 (.int .u8 0) 1 1 s x hgd ho Tryd.underlying30 infoU8 rfl (by decide) (by decide) hs (hown.alloc _) hx (news := [u]) rfl (cell_one_new _ _ _) ?_ hn ?_
  · intro y hy; rw [List.mem_singleton] at hy; rw [hy]; exact h1
  · intro v' w' ho' hb hat
    exact h v' w' ho' hb (by rwa [alloc_size'] at hat)
/-- append of one pair of texts. -/
theorem pushG_pair (tS tE : TypeId) (ht : Tryd.prog.underlying tS = some (.slice tE)) (hi : (Tryd.prog.info? tE).map (fun i => (i.zero, i.size, i.bytes)) = some (some (.agg #[.string ⟨#[]⟩, .string ⟨#[]⟩]), 2, 32))
    {ops : Array Oper} {rest : List Oper} {o : Oper} {a : Act} {Q : Exit → Act → World → Prop} {w : World} (s x : Operand)
    (hgd : o.guard = none) (ho : o.op = .call { callee := .builtin .append, args := #[s, x], argTypes := #[tS, tS] })
    {n : Nat} {v u1 u2 : Value} {xs : List Value} (hs : a.eval s = v) (hown : Own w 0 tE 2 v n xs) (hx : a.eval x = .slice (some ⟨w.heap.size, 0, none⟩) 1 1)
    (h1 : u1.oneCell' = true) (h2 : u2.oneCell' = true) (hn : n < 10000000000)
    (h : ∀ v' w', Own w' 0 tE 2 v' (n + 1) (xs ++ [u1, u2]) → (w.alloc (.cells #[u1, u2] tE)).grownBy w' v.ownBlock → (v'.ownBlock = v.ownBlock ∨ v'.ownBlock = some (w.heap.size + 1)) → wpList Tryd.prog ops Q rest (a.put o.dst v') w') : wpList Tryd.prog ops Q (o :: rest) a (w.alloc (.cells #[u1, u2] tE)) := by
  refine step_pushG tS tE (.agg #[.string ⟨#[]⟩, .string ⟨#[]⟩]) 2 32 s x hgd ho ht hi rfl (by decide) (by decide) hs (hown.alloc _) hx (news := [u1, u2]) rfl ?_ ?_ hn ?_
  · intro j u hj
    have hb := (Blk.new w tE #[u1, u2]).cell j
    have hadd : (⟨w.heap.size, 0, none⟩ : Addr).add j = ⟨w.heap.size, j, none⟩ := by unfold Addr.add; split <;> simp_all
    rw [hadd, hb]; simpa using hj
  · intro y hy
    rw [List.mem_cons, List.mem_singleton] at hy
    rcases hy with rfl | rfl
    · exact h1
    · exact h2
  · intro v' w' ho' hb hat
    exact h v' w' ho' hb (by rwa [alloc_size'] at hat)
theorem infoCF : (Tryd.prog.info? 64).map (fun i => (i.zero, i.size, i.bytes)) = some (some (.agg #[.string ⟨#[]⟩, .string ⟨#[]⟩]), 2, 32) := by kernel_rfl

namespace Ck
theorem errV_ne {n : Int} (h : n ≠ 0) : errV n = .iface 46 (.int .i64 n) := by unfold errV; rw [if_neg h]
/-- The end of a line after the last chunk: its error, and the fields then. -/
def endB (tx : List UInt8) (fl : List (List UInt8 × List UInt8)) : Nat := if tx = [] then 0 else match fline tx with | none => 34 | some _ => if fl.length = 64 then 34 else 0
def endF (tx : List UInt8) (fl : List (List UInt8 × List UInt8)) : List (List UInt8 × List UInt8) := if tx = [] then fl else match fline tx with | none => fl | some f => fl ++ [f]
/-- What ended() leaves. -/
def EndR (F : Nat → Prop) (g : Nat) (w : World) (l d z t tr : Int) (tx : List UInt8) (fl : List (List UInt8 × List UInt8)) (e : Ending) (w' : World) : Prop :=
  e = .returned (errV (endB tx fl)) ∧ Kp F w w' ∧ ∃ p vt' vf', Blk w' g 68 (cells p l d z t vt' false tr vf' .nilIface) ∧
    (endB tx fl ≠ 0 → p ≠ 7) ∧ (endB tx fl = 0 → p = (if tx = [] then 7 else 6) ∧ Own w' 0 5 1 vt' 0 [] ∧ Own w' 0 64 2 vf' (endF tx fl).length (prs (endF tx fl)) ∧
      (∀ k, vt'.ownBlock = some k → F k) ∧ (∀ k, vf'.ownBlock = some k → F k ∨ w.heap.size ≤ k))
end Ck
set_option maxRecDepth 100000 in
set_option maxHeartbeats 8000000 in
theorem dended_any {g : Nat} {w : World} {F : Nat → Prop} (tx : List UInt8) (fl : List (List UInt8 × List UInt8)) (vt vf : Value) (l d z t tr : Int) (hb : Blk w g 68 (cells 6 l d z t vt false tr vf .nilIface))
    (hF : F g) (hFt : ∀ k, vt.ownBlock = some k → F k) (hFf : ∀ k, vf.ownBlock = some k → F k) (ht : Own w 0 5 1 vt tx.length (u8s tx)) (hf : Own w 0 64 2 vf fl.length (prs fl))
    (hm : tx.length ≤ 8192) (hm2 : fl.length ≤ 64) :
    Calls Tryd.prog 64 #[.pointer (some ⟨g, 0, none⟩)] w (EndR F g w l d z t tr tx fl) := by
  have hr := run_own_str ht
  obtain ⟨A, cap, rfl, hcap, -, -⟩ := Rd.own ht
  obtain ⟨A2, cap2, rfl, hcap2, -, -⟩ := Rd.own hf
  have c0 := hb.cell 0
  have c5 := hb.cell 5
  have c8 := hb.cell 8
  have f0 := hb.frozen 0
  have f5 := hb.frozen 5
  have f8 := hb.frozen 8
  simp only [cells] at c0 c5 c8
  have Hb := Lib.hid hb
  have Ht := Lib.hid ht
  have Hf := Lib.hid hf
  replace hFt := Lib.hid hFt
  replace hFf := Lib.hid hFf
  replace hF := Lib.hid hF
  clear hb ht hf
  by_cases k0 : tx = []
  · subst k0
    have hq : (((List.length (α := UInt8) []) : Int) == 0) = true := rfl
    have hE := Lib.hid (show endB [] fl = 0 from rfl)
    have hE2 := Lib.hid (show endF [] fl = fl from rfl)
    clear hr
    go_enter Tryd.func64, Tryd.ntmps64
    go_wp2
    go_ret
    have hk := (Kp.refl F w).set_ (fun _ => hF.out) 0 (.int .i64 7)
    have hk2 := (Kp.refl (· = g) w).set_ (fun _ => rfl) 0 (.int .i64 7)
    refine ⟨rfl, hk, 7, _, _, Hb.out.set_ 0 (.int .i64 7), fun e => absurd hE.out e, fun _ => ⟨rfl, Ht.out.kp (fun k hj e => ?_) hk2, ?_, hFt.out, fun k hk => .inl (hFf.out k hk)⟩⟩
    · subst e; exact Ht.out.ne Hb.out (by decide) hj
    · rw [hE2.out]; exact Hf.out.kp (fun k hj e => by subst e; exact Hf.out.ne Hb.out (by decide) hj) hk2
  · have hq : ((tx.length : Int) == 0) = false := beq_cast_false (fun e => k0 (List.eq_nil_of_length_eq_zero e))
    have hlen := takeWhile_le (· != 58) tx
    have hlen2 := dropWhile_le (· != 58) tx
    have hC : ∀ w, Calls Tryd.prog 77 #[.string (str tx), .string ⟨#[58]⟩] w fun e w' => e = .returned (cutV tx 58) ∧ ∃ n, w' = w.drewN n := fun w => cut_any (str tx) 58 w (by unfold maxLen; rw [str_size]; omega)
    have hN : ∀ w, Calls Tryd.prog 39 #[.string (str (tx.takeWhile (· != 58)))] w fun e w' => e = .returned (.tuple #[.string (str (nmV (tx.takeWhile (· != 58)))), errV (nmE (tx.takeWhile (· != 58)))]) ∧ Below w.heap.size w w' := fun w => fname_any (str _) w (by rw [str_size]; omega)
    have hV : ∀ w, Calls Tryd.prog 41 #[.string (str ((tx.dropWhile (· != 58)).drop 1))] w fun e w' => e = .returned (.tuple #[.string (str (vlV ((tx.dropWhile (· != 58)).drop 1))), errV (vlE ((tx.dropWhile (· != 58)).drop 1))]) ∧ Below w.heap.size w w' := fun w => fvalue_any (str _) w (by rw [str_size, List.length_drop]; omega)
    have hB : endB tx fl = match fline tx with | none => 34 | some _ => if fl.length = 64 then 34 else 0 := by unfold endB; rw [if_neg k0]
    have hB2 : endF tx fl = match fline tx with | none => fl | some f => fl ++ [f] := by unfold endF; rw [if_neg k0]
    have hp : (if tx = [] then (7 : Int) else 6) = 6 := if_neg k0
    have hfl : fline tx = match tx.dropWhile (· != 58) with
      | [] => none
      | _ :: v => if nmE (tx.takeWhile (· != 58)) = 0 ∧ vlE v = 0 ∧ forb (nmV (tx.takeWhile (· != 58))) = false then some (nmV (tx.takeWhile (· != 58)), vlV v) else none := rfl
    replace k0 := Lib.hid k0
    unfold cutV at hC
    generalize str tx = sx at *
    generalize tx.takeWhile (· != 58) = nm at *
    cases htd : tx.dropWhile (· != 58) with
    | nil =>
      rw [htd] at hC hV hfl
      have hE : Hid (endB tx fl = 34) := Lib.hid (by rw [hB, hfl])
      clear hB hB2 hfl htd
      generalize errV (nmE nm) = e1 at *
      generalize str (nmV nm) = s1 at *
      generalize errV (vlE (List.drop 1 [])) = e2 at *
      generalize str (vlV (List.drop 1 [])) = s2 at *
      generalize str (List.drop 1 []) = s3 at *
      generalize str nm = s4 at *
      replace hC := Lib.hid hC
      replace hN := Lib.hid hN
      replace hV := Lib.hid hV
      go_enter Tryd.func64, Tryd.ntmps64
      go_wp2_with fail
      refine (hC.out _).mono ?_
      rintro e w1 ⟨rfl, n1, rfl⟩
      go_wp2_with fail
      refine (hN.out _).mono ?_
      rintro e w2 ⟨rfl, hb2⟩
      have hB2 := Lib.hid (show Below w.heap.size w w2 from (below_drewN (Below.refl _ _) n1).trans hb2)
      clear hb2
      go_wp2_with fail
      refine (hV.out _).mono ?_
      rintro e w3 ⟨rfl, hb3⟩
      have hB3 := Lib.hid (Below.next hB2.out hB2.out.size hb3)
      clear hb3 hB2
      have Hb3 := Lib.hid (Hb.out.below hB3.out)
      have Hf3 := Lib.hid (own_below Hf.out hB3.out)
      clear c0 c5 c8 f0 f5 f8 hr
      have c5 := Hb3.out.cell 5
      have c8 := Hb3.out.cell 8
      have f5 := Hb3.out.frozen 5
      have f8 := Hb3.out.frozen 8
      simp only [cells] at c5 c8
      go_wp2
      go_ret
      exact ⟨by rw [hE.out]; rfl, Kp.below (Kp.refl F w) hB3.out, 6, _, _, Hb3.out, fun _ => by decide, fun e => absurd e (by rw [hE.out]; decide)⟩
    | cons x v =>
      rw [htd] at hC hV hfl
      simp only [List.drop_succ_cons, List.drop_zero] at hC hV
      clear htd
      by_cases k1 : nmE nm = 0
      · rw [k1, errV_zero] at hN
        by_cases k2 : vlE v = 0
        · rw [k2, errV_zero] at hV
          have hO : ∀ w, Calls Tryd.prog 40 #[.string (str (nmV nm))] w fun e w' => e = .returned (.bool (forb (nmV nm))) ∧ w' = w := fun w => forbidden_any (nmV nm) w
          cases k3 : forb (nmV nm)
          · replace hfl := hfl.trans (if_pos ⟨k1, k2, k3⟩)
            rw [k3] at hO
            have hpr := prs_snoc fl (nmV nm, vlV v)
            by_cases k4 : fl.length = 64
            · have q4 : ((fl.length : Int) == 64) = true := beq_cast_true k4
              have hE : Hid (endB tx fl = 34) := Lib.hid (by rw [hB, hfl]; exact if_pos k4)
              clear hB hB2 hfl hpr
              replace k4 := Lib.hid k4
              replace k1 := Lib.hid k1
              replace k2 := Lib.hid k2
              replace k3 := Lib.hid k3
              generalize str (nmV nm) = s1 at *
              generalize str (vlV v) = s2 at *
              generalize str v = s3 at *
              generalize str nm = s4 at *
              replace hC := Lib.hid hC
              replace hN := Lib.hid hN
              replace hV := Lib.hid hV
              replace hO := Lib.hid hO
              go_enter Tryd.func64, Tryd.ntmps64
              go_wp2_with fail
              refine (hC.out _).mono ?_
              rintro e w1 ⟨rfl, n1, rfl⟩
              go_wp2_with fail
              refine (hN.out _).mono ?_
              rintro e w2 ⟨rfl, hb2⟩
              have hB2 := Lib.hid (show Below w.heap.size w w2 from (below_drewN (Below.refl _ _) n1).trans hb2)
              clear hb2
              go_wp2_with fail
              refine (hV.out _).mono ?_
              rintro e w3 ⟨rfl, hb3⟩
              have hB3 := Lib.hid (Below.next hB2.out hB2.out.size hb3)
              clear hb3 hB2
              have Hb3 := Lib.hid (Hb.out.below hB3.out)
              have Hf3 := Lib.hid (own_below Hf.out hB3.out)
              clear c0 c5 c8 f0 f5 f8 hr
              have c5 := Hb3.out.cell 5
              have c8 := Hb3.out.cell 8
              have f5 := Hb3.out.frozen 5
              have f8 := Hb3.out.frozen 8
              simp only [cells] at c5 c8
              go_wp2_with fail
              refine (hO.out _).mono ?_
              rintro e w4 ⟨rfl, rfl⟩
              go_wp2
              go_ret
              exact ⟨by rw [hE.out]; rfl, Kp.below (Kp.refl F w) hB3.out, 6, _, _, Hb3.out, fun _ => by decide, fun e => absurd e (by rw [hE.out]; decide)⟩
            · have q4 : ((fl.length : Int) == 64) = false := beq_cast_false k4
              have hE : Hid (endB tx fl = 0) := Lib.hid (by rw [hB, hfl]; exact if_neg k4)
              have hE2 : Hid (endF tx fl = fl ++ [(nmV nm, vlV v)]) := Lib.hid (by rw [hB2, hfl])
              clear hB hB2 hfl
              simp only at hpr
              have hl : (fl ++ [(nmV nm, vlV v)]).length = fl.length + 1 := by simp
              replace k4 := Lib.hid k4
              replace k1 := Lib.hid k1
              replace k2 := Lib.hid k2
              replace k3 := Lib.hid k3
              generalize fl ++ [(nmV nm, vlV v)] = fl2 at *
              replace hpr := Lib.hid hpr
              replace hl := Lib.hid hl
              generalize str (nmV nm) = s1 at *
              generalize str (vlV v) = s2 at *
              generalize str v = s3 at *
              generalize str nm = s4 at *
              replace hC := Lib.hid hC
              replace hN := Lib.hid hN
              replace hV := Lib.hid hV
              replace hO := Lib.hid hO
              go_enter Tryd.func64, Tryd.ntmps64
              go_wp2_with fail
              refine (hC.out _).mono ?_
              rintro e w1 ⟨rfl, n1, rfl⟩
              go_wp2_with fail
              refine (hN.out _).mono ?_
              rintro e w2 ⟨rfl, hb2⟩
              have hB2 := Lib.hid (show Below w.heap.size w w2 from (below_drewN (Below.refl _ _) n1).trans hb2)
              clear hb2
              go_wp2_with fail
              refine (hV.out _).mono ?_
              rintro e w3 ⟨rfl, hb3⟩
              have hB3 := Lib.hid (Below.next hB2.out hB2.out.size hb3)
              clear hb3 hB2
              have Hb3 := Lib.hid (Hb.out.below hB3.out)
              have Hf3 := Lib.hid (own_below Hf.out hB3.out)
              clear c0 c5 c8 f0 f5 f8 hr
              have c5 := Hb3.out.cell 5
              have c8 := Hb3.out.cell 8
              have f5 := Hb3.out.frozen 5
              have f8 := Hb3.out.frozen 8
              simp only [cells] at c5 c8
              go_wp2_with fail
              refine (hO.out _).mono ?_
              rintro e w4 ⟨rfl, rfl⟩
              go_wp2_with (at_builtin; refine pushG_pair (v := Value.slice A2 fl.length cap2) (n := fl.length) (xs := prs fl) 42 64 Tryd.underlying42 infoCF _ _ rfl rfl rfl Hf3.out rfl rfl rfl (by omega) ?_; intro v5 w5 ho5 hg5 hat5; obtain ⟨A5, cap5, rfl, -, -, -⟩ := Rd.own ho5; have hK5 := Lib.hid (((Kp.refl (fun k => (Value.slice A2 fl.length cap2).ownBlock = some k) w4).alloc _).grown hg5 (fun k hk _ => hk)); have Hb5 := Lib.hid (Hb3.out.kp (Own.ne Hf3.out Hb3.out (by decide)) hK5.out); replace ho5 := Lib.hid ho5; replace hat5 := Lib.hid hat5; clear hg5 c5 c8 f5 f8; have c5 := Hb5.out.cell 5; have c8 := Hb5.out.cell 8; have f5 := Hb5.out.frozen 5; have f8 := Hb5.out.frozen 8; simp only [cells] at c5 c8)
              go_ret
              have hk := (((Kp.below (Kp.refl F w) hB3.out).next (fun k _ hk => hFf.out k hk) hK5.out).set_ (g := g) (fun _ => hF.out) 8 (.slice A5 (fl.length + 1) cap5)).set_ (g := g) (fun _ => hF.out) 5 (.slice none 0 0)
              have hk2 := ((Kp.refl (· = g) w5).set_ (fun _ => rfl) 8 (.slice A5 (fl.length + 1) cap5)).set_ (fun _ => rfl) 5 (.slice none 0 0)
              refine ⟨by rw [hE.out]; rfl, hk, 6, _, _, (Hb5.out.set_ 8 _).set_ 5 (.slice none 0 0), fun e => absurd hE.out e, fun _ => ⟨hp.symm, own_nil _ _ _ _, ?_, fun k hk => (by cases hk), fun k hk => ?_⟩⟩
              · rw [hE2.out, hl.out, hpr.out]
                exact ho5.out.kp (fun k hj e => by subst e; exact ho5.out.ne Hb5.out (by decide) hj) hk2
              · rcases hat5.out with h | h
                · exact .inl (hFf.out k (by rw [← h]; exact hk))
                · rw [h] at hk
                  injection hk with hk
                  have := hB3.out.size
                  exact .inr (by omega)
          · replace hfl := hfl.trans (if_neg (fun h => by rw [k3] at h; exact absurd h.2.2 (by decide)))
            rw [k3] at hO
            have hE : Hid (endB tx fl = 34) := Lib.hid (by rw [hB, hfl])
            clear hB hB2 hfl
            replace k1 := Lib.hid k1
            replace k2 := Lib.hid k2
            replace k3 := Lib.hid k3
            generalize str (nmV nm) = s1 at *
            generalize str (vlV v) = s2 at *
            generalize str v = s3 at *
            generalize str nm = s4 at *
            replace hC := Lib.hid hC
            replace hN := Lib.hid hN
            replace hV := Lib.hid hV
            replace hO := Lib.hid hO
            go_enter Tryd.func64, Tryd.ntmps64
            go_wp2_with fail
            refine (hC.out _).mono ?_
            rintro e w1 ⟨rfl, n1, rfl⟩
            go_wp2_with fail
            refine (hN.out _).mono ?_
            rintro e w2 ⟨rfl, hb2⟩
            have hB2 := Lib.hid (show Below w.heap.size w w2 from (below_drewN (Below.refl _ _) n1).trans hb2)
            clear hb2
            go_wp2_with fail
            refine (hV.out _).mono ?_
            rintro e w3 ⟨rfl, hb3⟩
            have hB3 := Lib.hid (Below.next hB2.out hB2.out.size hb3)
            clear hb3 hB2
            have Hb3 := Lib.hid (Hb.out.below hB3.out)
            have Hf3 := Lib.hid (own_below Hf.out hB3.out)
            clear c0 c5 c8 f0 f5 f8 hr
            have c5 := Hb3.out.cell 5
            have c8 := Hb3.out.cell 8
            have f5 := Hb3.out.frozen 5
            have f8 := Hb3.out.frozen 8
            simp only [cells] at c5 c8
            go_wp2_with fail
            refine (hO.out _).mono ?_
            rintro e w4 ⟨rfl, rfl⟩
            go_wp2
            go_ret
            exact ⟨by rw [hE.out]; rfl, Kp.below (Kp.refl F w) hB3.out, 6, _, _, Hb3.out, fun _ => by decide, fun e => absurd e (by rw [hE.out]; decide)⟩
        · rw [errV_ne k2] at hV
          replace hfl := hfl.trans (if_neg (fun h => k2 h.2.1))
          have hE : Hid (endB tx fl = 34) := Lib.hid (by rw [hB, hfl])
          clear hB hB2 hfl
          replace k1 := Lib.hid k1
          replace k2 := Lib.hid k2
          generalize str (nmV nm) = s1 at *
          generalize str (vlV v) = s2 at *
          generalize str v = s3 at *
          generalize str nm = s4 at *
          generalize vlE v = n2 at *
          replace hC := Lib.hid hC
          replace hN := Lib.hid hN
          replace hV := Lib.hid hV
          go_enter Tryd.func64, Tryd.ntmps64
          go_wp2_with fail
          refine (hC.out _).mono ?_
          rintro e w1 ⟨rfl, n1, rfl⟩
          go_wp2_with fail
          refine (hN.out _).mono ?_
          rintro e w2 ⟨rfl, hb2⟩
          have hB2 := Lib.hid (show Below w.heap.size w w2 from (below_drewN (Below.refl _ _) n1).trans hb2)
          clear hb2
          go_wp2_with fail
          refine (hV.out _).mono ?_
          rintro e w3 ⟨rfl, hb3⟩
          have hB3 := Lib.hid (Below.next hB2.out hB2.out.size hb3)
          clear hb3 hB2
          have Hb3 := Lib.hid (Hb.out.below hB3.out)
          have Hf3 := Lib.hid (own_below Hf.out hB3.out)
          clear c0 c5 c8 f0 f5 f8 hr
          have c5 := Hb3.out.cell 5
          have c8 := Hb3.out.cell 8
          have f5 := Hb3.out.frozen 5
          have f8 := Hb3.out.frozen 8
          simp only [cells] at c5 c8
          go_wp2
          go_ret
          exact ⟨by rw [hE.out]; rfl, Kp.below (Kp.refl F w) hB3.out, 6, _, _, Hb3.out, fun _ => by decide, fun e => absurd e (by rw [hE.out]; decide)⟩
      · rw [errV_ne k1] at hN
        replace hfl := hfl.trans (if_neg (fun h => k1 h.1))
        have hE : Hid (endB tx fl = 34) := Lib.hid (by rw [hB, hfl])
        clear hB hB2 hfl
        replace k1 := Lib.hid k1
        generalize nmE nm = n1 at *
        generalize str (nmV nm) = s1 at *
        generalize str (vlV v) = s2 at *
        generalize errV (vlE v) = e2 at *
        generalize str v = s3 at *
        generalize str nm = s4 at *
        replace hC := Lib.hid hC
        replace hN := Lib.hid hN
        replace hV := Lib.hid hV
        go_enter Tryd.func64, Tryd.ntmps64
        go_wp2_with fail
        refine (hC.out _).mono ?_
        rintro e w1 ⟨rfl, n1, rfl⟩
        go_wp2_with fail
        refine (hN.out _).mono ?_
        rintro e w2 ⟨rfl, hb2⟩
        have hB2 := Lib.hid (show Below w.heap.size w w2 from (below_drewN (Below.refl _ _) n1).trans hb2)
        clear hb2
        go_wp2_with fail
        refine (hV.out _).mono ?_
        rintro e w3 ⟨rfl, hb3⟩
        have hB3 := Lib.hid (Below.next hB2.out hB2.out.size hb3)
        clear hb3 hB2
        have Hb3 := Lib.hid (Hb.out.below hB3.out)
        have Hf3 := Lib.hid (own_below Hf.out hB3.out)
        clear c0 c5 c8 f0 f5 f8 hr
        have c5 := Hb3.out.cell 5
        have c8 := Hb3.out.cell 8
        have f5 := Hb3.out.frozen 5
        have f8 := Hb3.out.frozen 8
        simp only [cells] at c5 c8
        go_wp2
        go_ret
        exact ⟨by rw [hE.out]; rfl, Kp.below (Kp.refl F w) hB3.out, 6, _, _, Hb3.out, fun _ => by decide, fun e => absurd e (by rw [hE.out]; decide)⟩
end Go.Proofs.YtbegpdhkjfdjbaaDoor
