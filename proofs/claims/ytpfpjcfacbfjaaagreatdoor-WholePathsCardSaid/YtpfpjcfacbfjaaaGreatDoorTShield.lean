/-
  Layer 33: at and Shield, the code's and the document's.
-/
import Derived.Test.YtpfpjcfacbfjaaaGreatDoorTAwake
import Derived.Laws.AppendOwnNone
namespace Go.Proofs.YtpfpjcfacbfjaaaGreatDoor
open Go.RowKit Ti

/-- append of the m texts of a block onto an owned row, with the machine's own bound. -/
theorem step_push16 {ops : Array Oper} {rest : List Oper} {o : Oper} {a : Act} {Q : Exit → Act → World → Prop} {w : World} (s x : Operand)
    (hgd : o.guard = none) (ho : o.op = .call { callee := .builtin .append, args := #[s, x], argTypes := #[32, 32] })
    {B n m c : Nat} {v : Value} {xs news : List Value} {ad : Addr} (hs : a.eval s = v) (hown : Own w B 9 1 v n xs) (hx : a.eval x = .slice (some ad) m c) (hl : news.length = m)
    (hnews : ∀ j u, news[j]? = some u → w.cell? (ad.add j) = some u) (h1 : ∀ u ∈ news, u.oneCell' = true) (hn : (n + m) * 16 ≤ 140737488355328) (hbase : B ≤ w.heap.size)
    (h : ∀ v' w', Own w' B 9 1 v' (n + m) (xs ++ news) → Below B w w' → wpList Tryz.prog ops Q rest (a.put o.dst v') w') : wpList Tryz.prog ops Q (o :: rest) a w := by
  have hi := infoStr
  cases hP : Tryz.prog.info? 9 with
  | none => rw [hP] at hi; cases hi
  | some i =>
    rw [hP] at hi
    simp only [Option.map_some, Option.some.injEq, Prod.mk.injEq] at hi
    obtain ⟨hz, hsize, hbytes⟩ := hi
    refine wpList_append_own_at w hgd s x 32 ho B 9 i (.string ⟨#[]⟩) 1 16 Tryz.underlying32 hP hz hsize hbytes rfl (by decide) v n xs hs hown ad m c news hx (by omega) hnews h1 (by unfold maxLen; omega) hn hbase ?_
    intro v' w' hown' hg _ _
    exact h v' w' hown' (below_grown hown hg hbase)
theorem strs_one (l : List Bytes) : ∀ u ∈ strs l, u.oneCell' = true := by
  intro u hu
  unfold strs at hu
  rw [List.mem_map] at hu
  obtain ⟨x, -, rfl⟩ := hu
  rfl
theorem strs_app (a b : List Bytes) : strs (a ++ b) = strs a ++ strs b := by simp [strs]
theorem own_made0 (w : World) : Own (w.alloc (.cells #[] 9)) w.heap.size 9 1 (.slice (some ⟨w.heap.size, 0, none⟩) 0 0) 0 [] := World.ownsRow_made w #[] 0 (Nat.le_refl _) (Nat.zero_le _) rfl
theorem add0 (b j : Nat) : (⟨b, 0, none⟩ : Addr).add j = ⟨b, j, none⟩ := by unfold Addr.add; split <;> simp_all
theorem addo (b o j : Nat) : (⟨b, o, none⟩ : Addr).add j = ⟨b, o + j, none⟩ := by unfold Addr.add; split <;> simp_all
set_option maxRecDepth 100000 in
set_option maxHeartbeats 4000000 in
theorem clone_any (l : List Bytes) (A : Option Addr) (cap : Nat) (w : World) (hR : Rd w 1 (.slice A l.length cap) l.length (strs l)) (hm : l.length * 16 ≤ 140737488355328) :
    Calls Tryz.prog 32 #[.slice A l.length cap] w fun e w' => ∃ v, e = .returned v ∧ Own w' w.heap.size 9 1 v l.length (strs l) ∧ Below w.heap.size w w' := by
  obtain ⟨A', c', e', hcap, hl, hr⟩ := id hR
  cases e'
  have q22 : ∀ (w : World) (a : Option Addr) (n c n' c' : Nat), (binOp .eql 32 (.slice a n c) (.slice none n' c')).run Tryz.prog w = .ok (.bool a.isNone) w := fun w a n c n' c' => Lib.run_eql_slice_nil w _ _ a n c n' c' Tryz.underlying32
  cases A with
  | none =>
    have h0 : l.length = 0 := by
      rcases Nat.eq_zero_or_pos l.length with h | h
      · exact h
      · obtain ⟨b, o, e, -⟩ := hr h; cases e
    have hl0 : l = [] := List.eq_nil_of_length_eq_zero h0
    subst hl0
    clear hR hr
    go_enter Tryz.func32, Tryz.ntmps32
    go_wp2
    go_ret
    exact ⟨_, rfl, own_nil _ _ _ _, Below.refl _ _⟩
  | some ad =>
    have hcells : ∀ j u, (strs l)[j]? = some u → (w.alloc (.cells #[] 9)).cell? (ad.add j) = some u := fun j u hu => by
      have hlt : 0 < l.length := by
        rcases Nat.eq_zero_or_pos l.length with h | h
        · have : (strs l).length = 0 := by rw [strs_length]; exact h
          rw [List.getElem?_eq_none (by omega)] at hu; cases hu
        · exact h
      obtain ⟨b, o, e, hb, hx⟩ := hr hlt
      rw [Option.some.inj e, addo]
      exact (((Below.refl w.heap.size w).alloc (Nat.le_refl _) (.cells #[] 9)).cell (p := ⟨b, o + j, none⟩) hb).trans (hx j u hu)
    have hbs : w.heap.size ≤ (w.alloc (.cells #[] 9)).heap.size := by rw [talloc_size]; omega
    replace hcells := Lib.hid hcells
    clear hR hr
    go_enter Tryz.func32, Tryz.ntmps32
    go_wp2_with (at_builtin; refine step_push16 _ _ rfl rfl rfl (own_made0 w) rfl (news := strs l) (ad := ad) (by rw [strs_length]) hcells.out (strs_one l) (by omega) hbs ?_; intro v2 w2 ho2 hb2; replace ho2 := Lib.hid ho2; replace hb2 := Lib.hid hb2)
    go_ret
    exact ⟨_, rfl, by have := ho2.out; rwa [Nat.zero_add] at this, ((Below.refl w.heap.size w).alloc (Nat.le_refl _) _).trans hb2.out⟩
namespace Ti
noncomputable def atN (l : List Bytes) (self : Bytes) : Int := if chkN (l ++ [self]) = 0 then (if self = org then 8 else 0) else chkN (l ++ [self])
end Ti
set_option maxRecDepth 100000 in
set_option maxHeartbeats 4000000 in
theorem at_any (l : List Bytes) (self : Bytes) (A : Option Addr) (cap : Nat) (w : World) (hR : Rd w 1 (.slice A l.length cap) l.length (strs l)) (hm : l.length * 16 + 1000 ≤ 140737488355328) :
    Calls Tryz.prog 30 #[.slice A l.length cap, .string (str self)] w fun e w' => e = .returned (errV (atN l self)) ∧ Below w.heap.size w w' := by
  have hC := Lib.hid (clone_any l A cap w hR (by omega))
  have hK : ∀ w B c, Rd w 1 (.slice B (l.length + 1) c) (l.length + 1) (strs (l ++ [self])) → Calls Tryz.prog 18 #[.slice B (l.length + 1) c] w fun e w' => e = .returned (errV (chkN (l ++ [self]))) ∧ w' = w := fun w B c h => by
    have hl : (l ++ [self]).length = l.length + 1 := by simp
    have := check_any (l ++ [self]) B c w (by rw [hl]; exact h) (by omega)
    rw [hl] at this
    exact this
  have hat : (∃ z : Int, errV (chkN (l ++ [self])) = .iface 52 (.int .i64 z) ∧ errV (atN l self) = .iface 52 (.int .i64 z)) ∨ (errV (chkN (l ++ [self])) = .nilIface ∧ self = org ∧ errV (atN l self) = .iface 52 (.int .i64 8)) ∨ (errV (chkN (l ++ [self])) = .nilIface ∧ self ≠ org ∧ errV (atN l self) = .nilIface) := by
    unfold atN
    by_cases h : chkN (l ++ [self]) = 0
    · rw [if_pos h, h]
      by_cases ho : self = org
      · rw [if_pos ho]; exact .inr (.inl ⟨rfl, ho, rfl⟩)
      · rw [if_neg ho]; exact .inr (.inr ⟨rfl, ho, rfl⟩)
    · rw [if_neg h]
      exact .inl ⟨chkN (l ++ [self]), by unfold errV; rw [if_neg h], by unfold errV; rw [if_neg h]⟩
  generalize errV (chkN (l ++ [self])) = ev at *
  generalize errV (atN l self) = ea at *
  replace hK := Lib.hid hK
  clear hR
  go_enter Tryz.func30, Tryz.ntmps30
  go_wp2_with fail
  refine hC.out.mono ?_
  rintro e w1 ⟨v, rfl, hv, hb1⟩
  have hb1s := hb1.size
  replace hv := Lib.hid hv
  replace hb1 := Lib.hid hb1
  have hbs : w.heap.size ≤ (w1.alloc (.cells #[.string (str self)] 9)).heap.size := by rw [talloc_size]; omega
  go_wp2_with (at_builtin; refine step_push16 _ _ rfl rfl rfl (hv.out.alloc _) rfl (news := [.string (str self)]) (ad := ⟨w1.heap.size, 0, none⟩) rfl (cell_one_new _ _ _) (strs_one [self]) (by omega) hbs ?_; intro v2 w2 ho2 hb2; have hRd := Rd.own ho2; obtain ⟨B2, c2, e2, -, -, -⟩ := id hRd; subst e2; have hb3 := Lib.hid ((hb1.out.alloc hb1s _).trans hb2); replace hRd := Lib.hid hRd; clear ho2 hb2)
  refine (hK.out _ _ _ (by have := hRd.out; rw [strs_app]; exact this)).mono ?_
  rintro e w3 ⟨rfl, rfl⟩
  rcases hat with ⟨z, rfl, rfl⟩ | ⟨rfl, ho, rfl⟩ | ⟨rfl, ho, rfl⟩
  · go_wp2
    go_ret
    exact ⟨rfl, hb3.out⟩
  · have q2 : ((str self).toList == [111, 114, 105, 103, 105, 110]) = true := by rw [str_toList, ho]; rfl
    replace ho := Lib.hid ho
    go_wp2
    go_ret
    exact ⟨rfl, hb3.out⟩
  · have q2 : ((str self).toList == [111, 114, 105, 103, 105, 110]) = false := by rw [str_toList, beq_eq_false_iff_ne]; exact ho
    replace ho := Lib.hid ho
    go_wp2
    go_ret
    exact ⟨rfl, hb3.out⟩
namespace Ti
noncomputable def shN (l : List Bytes) (self : Bytes) : Int := if atN l self = 0 then chkN (l ++ [self, org]) else atN l self
open Classical in
noncomputable def shT (l : List Bytes) (self : Bytes) : Bytes := if shN l self = 0 then org else []
end Ti
theorem errV_cases (z : Int) : (z = 0 ∧ errV z = .nilIface) ∨ (z ≠ 0 ∧ errV z = .iface 52 (.int .i64 z)) := by
  by_cases h : z = 0
  · exact .inl ⟨h, by rw [h]; rfl⟩
  · exact .inr ⟨h, by unfold errV; rw [if_neg h]⟩
theorem cells_two (w : World) (x y : Value) : ∀ j u, [x, y][j]? = some u → (w.alloc (.cells #[x, y] 9)).cell? ((⟨w.heap.size, 0, none⟩ : Addr).add j) = some u := fun j u hu => by
  rw [add0, (Blk.new w 9 #[x, y]).cell j]
  simpa using hu
set_option maxRecDepth 100000 in
set_option maxHeartbeats 4000000 in
theorem shield_any (l : List Bytes) (self : Bytes) (A : Option Addr) (cap : Nat) (w : World) (hR : Rd w 1 (.slice A l.length cap) l.length (strs l)) (hm : l.length * 16 + 1000 ≤ 140737488355328) :
    Calls Tryz.prog 14 #[.string (str self), .slice A l.length cap] w fun e w' => e = .returned (.tuple #[.string (str (shT l self)), errV (shN l self)]) ∧ Below w.heap.size w w' := by
  have hA := Lib.hid (at_any l self A cap w hR hm)
  have hC := Lib.hid (fun w1 (hb : Below w.heap.size w w1) => clone_any l A cap w1 (hR.below hb) (by omega))
  have hK : ∀ w B c, Rd w 1 (.slice B (l.length + 2) c) (l.length + 2) (strs (l ++ [self, org])) → Calls Tryz.prog 18 #[.slice B (l.length + 2) c] w fun e w' => e = .returned (errV (chkN (l ++ [self, org]))) ∧ w' = w := fun w B c h => by
    have hl : (l ++ [self, org]).length = l.length + 2 := by simp
    have := check_any (l ++ [self, org]) B c w (by rw [hl]; exact h) (by omega)
    rw [hl] at this
    exact this
  have hsn : shN l self = if atN l self = 0 then chkN (l ++ [self, org]) else atN l self := rfl
  have hst : shT l self = if shN l self = 0 then org else [] := by
    unfold shT
    by_cases h : shN l self = 0
    · rw [if_pos h]
    · rw [if_neg h]
  generalize shT l self = tt at *
  generalize shN l self = sn at *
  generalize atN l self = an at *
  generalize chkN (l ++ [self, org]) = cn at *
  replace hK := Lib.hid hK
  clear hR
  rcases errV_cases an with ⟨h0, ha⟩ | ⟨h0, ha⟩
  · rw [if_pos h0] at hsn
    rw [ha] at hA
    subst hsn
    rcases errV_cases sn with ⟨h1, hc⟩ | ⟨h1, hc⟩
    · rw [if_pos h1] at hst
      rw [hc] at hK ⊢
      subst hst
      clear h0 h1 ha hc
      go_enter Tryz.func14, Tryz.ntmps14
      go_wp2_with fail
      refine hA.out.mono ?_
      rintro e w1 ⟨rfl, hb1⟩
      replace hb1 := Lib.hid hb1
      go_wp2_with fail
      refine (hC.out _ hb1.out).mono ?_
      rintro e w5 ⟨v, rfl, hv, hb5⟩
      have hbb := Below.next hb1.out hb1.out.size hb5
      have hbbs := hbb.size
      have hv' : Own w5 w.heap.size 9 1 v l.length (strs l) := own_mono hv hb1.out.size
      replace hv := Lib.hid hv'
      replace hbb := Lib.hid hbb
      clear hb5 hv'
      have hbs : w.heap.size ≤ (w5.alloc (.cells #[.string (str self), .string ⟨#[111, 114, 105, 103, 105, 110]⟩] 9)).heap.size := by rw [talloc_size]; omega
      go_wp2_with (at_builtin; refine step_push16 _ _ rfl rfl rfl (hv.out.alloc _) rfl (news := [.string (str self), .string ⟨#[111, 114, 105, 103, 105, 110]⟩]) (ad := ⟨w5.heap.size, 0, none⟩) rfl (cells_two _ _ _) (strs_one [self, org]) (by omega) hbs ?_; intro v2 w2 ho2 hb2; have hRd := Rd.own ho2; obtain ⟨B2, c2, e2, -, -, -⟩ := id hRd; subst e2; have hb3 := Lib.hid ((hbb.out.alloc hbbs _).trans hb2); replace hRd := Lib.hid hRd; clear ho2 hb2)
      refine (hK.out _ _ _ (by have := hRd.out; rw [strs_app]; exact this)).mono ?_
      rintro e w3 ⟨rfl, rfl⟩
      go_wp2
      go_ret2
      exact ⟨rfl, hb3.out⟩
    · rw [if_neg h1] at hst
      rw [hc] at hK ⊢
      subst hst
      clear h0 h1 ha hc
      go_enter Tryz.func14, Tryz.ntmps14
      go_wp2_with fail
      refine hA.out.mono ?_
      rintro e w1 ⟨rfl, hb1⟩
      replace hb1 := Lib.hid hb1
      go_wp2_with fail
      refine (hC.out _ hb1.out).mono ?_
      rintro e w5 ⟨v, rfl, hv, hb5⟩
      have hbb := Below.next hb1.out hb1.out.size hb5
      have hbbs := hbb.size
      have hv' : Own w5 w.heap.size 9 1 v l.length (strs l) := own_mono hv hb1.out.size
      replace hv := Lib.hid hv'
      replace hbb := Lib.hid hbb
      clear hb5 hv'
      have hbs : w.heap.size ≤ (w5.alloc (.cells #[.string (str self), .string ⟨#[111, 114, 105, 103, 105, 110]⟩] 9)).heap.size := by rw [talloc_size]; omega
      go_wp2_with (at_builtin; refine step_push16 _ _ rfl rfl rfl (hv.out.alloc _) rfl (news := [.string (str self), .string ⟨#[111, 114, 105, 103, 105, 110]⟩]) (ad := ⟨w5.heap.size, 0, none⟩) rfl (cells_two _ _ _) (strs_one [self, org]) (by omega) hbs ?_; intro v2 w2 ho2 hb2; have hRd := Rd.own ho2; obtain ⟨B2, c2, e2, -, -, -⟩ := id hRd; subst e2; have hb3 := Lib.hid ((hbb.out.alloc hbbs _).trans hb2); replace hRd := Lib.hid hRd; clear ho2 hb2)
      refine (hK.out _ _ _ (by have := hRd.out; rw [strs_app]; exact this)).mono ?_
      rintro e w3 ⟨rfl, rfl⟩
      go_wp2
      go_ret2
      exact ⟨rfl, hb3.out⟩
  · rw [if_neg h0] at hsn
    rw [ha] at hA
    subst hsn
    rw [if_neg h0] at hst
    subst hst
    rw [ha]
    clear hK hC h0 ha
    go_enter Tryz.func14, Tryz.ntmps14
    go_wp2_with fail
    refine hA.out.mono ?_
    rintro e w1 ⟨rfl, hb1⟩
    replace hb1 := Lib.hid hb1
    go_wp2
    go_ret2
    exact ⟨rfl, hb1.out⟩
end Go.Proofs.YtpfpjcfacbfjaaaGreatDoor
