/-
  The reference's parameter.
-/
import Derived.Test.YtjcgognngeagiaaDoorCut
import Derived.Test.YtjcgognngeagiaaDoorRUnq
import Derived.Test.YtjcgognngeagiaaDoorLow
import Derived.Laws.ResultCell
import Derived.Laws.Rows
namespace Go.Proofs.YtjcgognngeagiaaDoor
open Go.RowKit Syn

/-- A name and a value. -/
def pairV (p : List UInt8 × List UInt8) : Value := .agg #[.string (str p.1), .string (str p.2)]
def paramV (o : Option (List UInt8 × List UInt8)) : Value := .tuple #[pairV (o.getD ([], [])), .bool o.isSome]
theorem tw_go {s : ByteArray} {k : Nat} (h : ((bs s).take k).all (· != 61) = true) (he : k = s.size ∨ ∃ hk : k < s.size, s[k].toNat = 61) :
    (bs s).takeWhile (· != 61) = (bs s).take k ∧ (bs s).dropWhile (· != 61) = (bs s).drop k := by
  have h1 : ∀ l r : List UInt8, l.all (· != 61) = true → (r = [] ∨ ∃ x, r = 61 :: x) → (l ++ r).takeWhile (· != 61) = l ∧ (l ++ r).dropWhile (· != 61) = r := by
    intro l
    induction l with
    | nil =>
      rintro r _ (rfl | ⟨x, rfl⟩)
      · exact ⟨rfl, rfl⟩
      · exact ⟨rfl, rfl⟩
    | cons a l ih =>
      intro r hl hr
      rw [List.all_cons, Bool.and_eq_true] at hl
      have := ih r hl.2 hr
      rw [List.cons_append, List.takeWhile_cons, if_pos hl.1, List.dropWhile_cons, if_pos hl.1, this.1, this.2]
      exact ⟨rfl, rfl⟩
  have h2 := h1 ((bs s).take k) ((bs s).drop k) h ?_
  · rwa [List.take_append_drop] at h2
  · rcases he with rfl | ⟨hk, hc⟩
    · left; exact drop_all s
    · right; rw [drop_at s k hk, show s[k] = 61 from u8_iff.2 hc]; exact ⟨_, rfl⟩
/-- A struct that lies in its own block, handed back by value. -/
theorem ret_blk {P : Program} {fn : Func} {p u : Tmp} {ty t : TypeId} {R : Ending → World → Prop} {a : Act} {w : World} {g : Nat} {cs : Array Value} {d : TypeDesc} (h : fn.results = #[.cell p ty, .tmp u])
    (hd0 : a.defers = []) (hp : a.tmps.getD p undef = .pointer (some ⟨g, 0, none⟩)) (hb : Blk w g t cs) (hu : P.underlying ty = some d) (hd : (match d with | .struct _ | .array _ _ => true | _ => false) = true)
    (hi : (P.info? ty).map (·.size) = some cs.size) (hR : R (.returned (.tuple #[.agg cs, a.tmps.getD u undef])) w) : bodyPost P fn R .ret a w := by
  refine bodyPost_ret ?_ hd0 hR
  rw [results_cell_tmp h, hp]
  simp [asAddr, Result.andThen, run_loadVar_row w g t ty cs (0, 0) d hb hu hd hi]
theorem two_below {w w1 : World} {G : Nat} (hG : w.heap.size = G) (h : Below G w w1) (a b : Value) : Below w.heap.size w ((w1.setCell ⟨G, 0, none⟩ a).setCell ⟨G, 1, none⟩ b) := by
  rw [hG]; exact (h.setCell (p := ⟨G, 0, none⟩) (Nat.le_refl _) a).setCell (p := ⟨G, 1, none⟩) (Nat.le_refl _) b
theorem Blk.two {w : World} {g : Nat} {t : TypeId} {x y : Value} (h : Blk w g t #[x, y]) (a b : Value) : Blk ((w.setCell ⟨g, 0, none⟩ a).setCell ⟨g, 1, none⟩ b) g t #[a, b] := (h.set_ 0 a).set_ 1 b
set_option maxRecDepth 100000 in
set_option maxHeartbeats 4000000 in
theorem paramref_any (s : ByteArray) (w : World) (hs : s.size ≤ 1000000) :
    Calls Tryd.prog 40 #[.string s] w fun e w' => e = .returned (paramV (param (bs s))) ∧ Below w.heap.size w w' := by
  obtain ⟨G, hG⟩ : ∃ G, w.heap.size = G := ⟨_, rfl⟩
  go_enter Tryd.func40, Tryd.ntmps40
  go_wp2
  have hK := Blk.new w 54 #[.string ⟨#[]⟩, .string ⟨#[]⟩]
  rw [hG] at hK
  have hb0 := (Below.refl G w).alloc (by omega) (.cells #[.string ⟨#[]⟩, .string ⟨#[]⟩] 54)
  generalize w.alloc (.cells #[.string ⟨#[]⟩, .string ⟨#[]⟩] 54) = w0 at *
  have c0 : w0.cell? ⟨G, 0, none⟩ = some (.string ⟨#[]⟩) := hK.cell 0
  have c1 : w0.cell? ⟨G, 1, none⟩ = some (.string ⟨#[]⟩) := hK.cell 1
  have f0 := hK.frozen 0
  have f1 := hK.frozen 1
  replace hK := Lib.hid hK
  replace hb0 := Lib.hid hb0
  go_loop [4] (fun i => ∃ k : Nat, i = .int .i64 (k : Int) ∧ k ≤ s.size ∧ Hid (((bs s).take k).all (· != 61) = true)) (fun i => s.size - (intOf i).toNat)
  case atStart => exact ⟨0, rfl, by omega, rfl⟩
  case round =>
    obtain ⟨k, rfl, hk, ha⟩ := hrel
    by_cases hlt : k < s.size
    · by_cases h61 : s[k].toNat = 61
      · have hb : ((s[k].toNat : Int) != 61) = false := by simp; omega
        have hb2 : ((k : Int) == (s.size : Int)) = false := by simp; omega
        have htw := tw_go ha.out (.inr ⟨hlt, h61⟩)
        have e1 : s.extract 0 k = str ((bs s).take k) := by rw [extract_str]; rfl
        have e2 : s.extract (k + 1) s.size = str ((bs s).drop (k + 1)) := by rw [extract_str, take_all]
        have hp : param (bs s) = if isTok (bs (s.extract 0 k)) then (if isTok (bs (s.extract (k + 1) s.size)) then some (Syn.lower (bs (s.extract 0 k)), bs (s.extract (k + 1) s.size)) else (unq (bs (s.extract (k + 1) s.size))).map fun u => (Syn.lower (bs (s.extract 0 k)), u)) else none := by
          unfold param
          rw [htw.1, htw.2, drop_at s k hlt, e1, e2, bs_str, bs_str]
        have l1 := extract_le s 0 k
        have l2 := extract_le s (k + 1) s.size
        replace hp := Lib.hid hp
        replace l1 := Lib.hid l1
        replace l2 := Lib.hid l2
        clear htw h61 e1 e2
        have l3 := l1.out
        have l4 := l2.out
        generalize hnm : s.extract 0 k = nm at *
        generalize hvl : s.extract (k + 1) s.size = vl at *
        have hT1 := Lib.hid (fun w => rtoken_any nm w (by unfold maxLen; omega))
        have hT2 := Lib.hid (fun w => rtoken_any vl w (by unfold maxLen; omega))
        have hL := Lib.hid (fun w => rlower_any nm w (by omega))
        have hU := Lib.hid (fun w => runquote_any vl w (by omega))
        clear l3 l4
        go_wp2_with fail
        refine (hT1.out _).mono ?_
        rintro e w1 ⟨rfl, rfl⟩
        cases ht1 : isTok (bs nm)
        · have hp2 := hp.out
          rw [ht1, if_neg (by decide)] at hp2
          replace hp2 := Lib.hid hp2
          go_wp2
          refine ret_blk rfl rfl rfl (hK.out.two _ _) Tryd.underlying54 rfl (by kernel_rfl) ⟨by rw [hp2.out]; rfl, two_below hG hb0.out _ _⟩
        · have hp2 := hp.out
          rw [ht1, if_pos rfl] at hp2
          clear hp
          replace hp2 := Lib.hid hp2
          go_wp2_with fail
          refine (hT2.out _).mono ?_
          rintro e w2 ⟨rfl, rfl⟩
          cases ht2 : isTok (bs vl)
          · have hp3 := hp2.out
            rw [ht2, if_neg (by decide)] at hp3
            clear hp2
            replace hp3 := Lib.hid hp3
            go_wp2_with fail
            refine (hU.out _).mono ?_
            rintro e w3 ⟨rfl, rfl⟩
            cases hu : unq (bs vl) with
            | none =>
              have hp4 := hp3.out
              rw [hu] at hp4
              clear hp3
              replace hp4 := Lib.hid hp4
              rw [show unqR none = .tuple #[.string ⟨#[]⟩, .bool false] from rfl]
              go_wp2
              refine ret_blk rfl rfl rfl (hK.out.two _ _) Tryd.underlying54 rfl (by kernel_rfl) ⟨by rw [hp4.out]; rfl, two_below hG hb0.out _ _⟩
            | some u =>
              have hp4 := hp3.out
              rw [hu] at hp4
              clear hp3
              replace hp4 := Lib.hid hp4
              rw [show unqR (some u) = .tuple #[.string (str u), .bool true] from rfl]
              go_wp2_with fail
              refine (hL.out _).mono ?_
              rintro e w4 ⟨rfl, hb4⟩
              have hG3 : G < w3.heap.size := hK.out.lt
              have hb5 := Lib.hid (hb0.out.trans (hb4.mono (Nat.le_of_lt hG3)))
              have hK4 := hK.out.below hb4
              replace hb4 := Lib.hid hb4
              have d0 : w4.cell? ⟨G, 0, none⟩ = some (.string ⟨#[]⟩) := hK4.cell 0
              have d1 : w4.cell? ⟨G, 1, none⟩ = some (.string ⟨#[]⟩) := hK4.cell 1
              have g0 := hK4.frozen 0
              have g1 := hK4.frozen 1
              replace hK4 := Lib.hid hK4
              go_wp2
              refine ret_blk rfl rfl rfl (hK4.out.two _ _) Tryd.underlying54 rfl (by kernel_rfl) ⟨by rw [hp4.out]; rfl, two_below hG hb5.out _ _⟩
          · have hp3 := hp2.out
            rw [ht2, if_pos rfl] at hp3
            clear hp2
            replace hp3 := Lib.hid hp3
            go_wp2_with fail
            refine (hL.out _).mono ?_
            rintro e w4 ⟨rfl, hb4⟩
            have hG3 : G < w2.heap.size := hK.out.lt
            have hb5 := Lib.hid (hb0.out.trans (hb4.mono (Nat.le_of_lt hG3)))
            have hK4 := hK.out.below hb4
            replace hb4 := Lib.hid hb4
            have d0 : w4.cell? ⟨G, 0, none⟩ = some (.string ⟨#[]⟩) := hK4.cell 0
            have d1 : w4.cell? ⟨G, 1, none⟩ = some (.string ⟨#[]⟩) := hK4.cell 1
            have g0 := hK4.frozen 0
            have g1 := hK4.frozen 1
            replace hK4 := Lib.hid hK4
            go_wp2
            refine ret_blk rfl rfl rfl (hK4.out.two _ _) Tryd.underlying54 rfl (by kernel_rfl) ⟨by rw [hp3.out]; show _ = Ending.returned (.tuple #[.agg #[_, .string (str (bs vl))], _]); rw [str_bs]; rfl, two_below hG hb5.out _ _⟩
      · have hb : ((s[k].toNat : Int) != 61) = true := by simp; omega
        have hn : Hid (((bs s).take (k + 1)).all (· != 61) = true) := Lib.hid (by
          rw [take_at s k hlt, List.all_append, ha.out]
          have : s[k] ≠ 61 := fun h => h61 (u8_iff.1 h)
          simp [this])
        clear h61
        go_wp2
        go_round
        case rel => exact ⟨k + 1, by go_num, by omega, hn⟩
        case measure => simp [intOf]; omega
    · obtain rfl : k = s.size := by omega
      have htw := tw_go ha.out (.inl rfl)
      rw [drop_all] at htw
      have hp : Hid (param (bs s) = none) := Lib.hid (by unfold param; rw [htw.2])
      clear htw
      go_wp2
      refine ret_blk rfl rfl rfl (hK.out.two _ _) Tryd.underlying54 rfl (by kernel_rfl) ⟨by rw [hp.out]; rfl, (hb0.out.setCell (Nat.le_refl _) _).setCell (Nat.le_refl _) _⟩
end Go.Proofs.YtjcgognngeagiaaDoor
