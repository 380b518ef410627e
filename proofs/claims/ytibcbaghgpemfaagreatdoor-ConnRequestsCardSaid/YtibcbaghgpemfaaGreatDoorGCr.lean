import Derived.Test.YtibcbaghgpemfaaGreatDoorGCk
import Derived.Laws.Tables
import Derived.Test.YtibcbaghgpemfaaGreatDoorGByt
import Derived.Deep.RegionHeld3
import Derived.Deep.RegionLaw
import Derived.Deep.DrawnRows
import Derived.Deep.DeepCutAuto
namespace Go.Proofs.YtibcbaghgpemfaaGreatDoor
open Go.RowKit Syn Ck
theorem ret_oneC {P : Program} {fn : Func} {p : Tmp} {ty t : TypeId} {R : Ending → World → Prop} {a : Act} {w : World} {g : Nat} {cs : Array Value} {d : TypeDesc} (h : fn.results = #[.cell p ty])
  (hd0 : a.defers = []) (hp : a.tmps.getD p undef = .pointer (some ⟨g,0,none⟩)) (hb : Blk w g t cs) (hu : P.underlying ty = some d) (hd : (match d with | .struct _ | .array _ _ => true | _ => false) = true)
  (hi : (P.info? ty).map (·.size) = some cs.size) (hR : R (.returned (.agg cs)) w) : bodyPost P fn R .ret a w :=
 bodyPost_ret (results_cell_row h a.tmps w g t cs (0,0) d hp hb hu hd hi) hd0 hR
theorem Blk.new2 (w : World) (t : TypeId) (a b : Array Value) : Blk ((w.alloc (.cells a t)).alloc (.cells b t)) (w.heap.size + 1) t b:=by
 have h:=Blk.new (w.alloc (.cells a t)) t b; rwa [alloc_size'] at h
theorem below2 (w : World) (A B : Obj) : Below w.heap.size w ((w.alloc A).alloc B):=((Below.refl _ w).alloc (Nat.le_refl _) A).alloc (by rw [alloc_size']; omega) B
theorem below4 (w : World) (A B C D : Obj) : Below w.heap.size w ((((w.alloc A).alloc B).alloc C).alloc D) :=
 ((below2 w A B).alloc (by rw [alloc_size',alloc_size']; omega) C).alloc (by rw [alloc_size',alloc_size',alloc_size']; omega) D
theorem Blk.new4 (w : World) (t : TypeId) (a b c d : Array Value) : Blk ((((w.alloc (.cells a t)).alloc (.cells b t)).alloc (.cells c t)).alloc (.cells d t)) (w.heap.size + 1) t b:=((Blk.new2 w t a b).alloc _).alloc _
namespace Ck
def svC (s : St) (vf : Value) : Array Value:=#[.int .i64 s.place,.int .i64 s.digits,.int .i64 s.number,.int .i64 s.line,.int .i64 s.total,.int .i64 s.left,.int .i64 s.sect,.string (str s.text),vf,.int .i64 s.bad]
def sv (s : St) (vf : Value) : Value:=.agg (svC s vf)
end Ck
set_option maxHeartbeats 4000000 in
theorem rbad_any (s : St) (A : Option Addr) (n cap : Nat) (e : Nat) (w : World) :
  Calls Tryz.prog 211 #[sv s (.slice A n cap),.int .i64 (e : Int)] w fun r w' => r = .returned (sv (s.err e) (.slice A n cap)) ∧
   w' = (w.alloc (.cells (svC (s.err e) (.slice A n cap)) 215)).alloc (.cells (svC (s.err e) (.slice A n cap)) 215):=by
 obtain ⟨pl,D,Z,L,T,lf,sc,tx,fl,bd⟩:=s
 unfold sv svC St.err
 dsimp only
 generalize str tx = st at *; go_enter Tryz.func211,Tryz.ntmps211
 go_wp2; exact ret_oneC rfl rfl rfl (Blk.new2 w _ _ _) Tryz.underlying215 rfl (by kernel_rfl) ⟨rfl,rfl⟩
set_option maxRecDepth 100000 in
set_option maxHeartbeats 8000000 in
theorem rsized_any (s : St) (h : Ok s) (hp : s.place ≤ 1) (c : UInt8) (A : Option Addr) (n cap : Nat) (w : World) :
  Calls Tryz.prog 210 #[sv s (.slice A n cap),.int .u8 (c.toNat : Int)] w fun e w' => e = .returned (sv (sized s c) (.slice A n cap)) ∧ Below w.heap.size w w':=by
 have hl:=h.line; have hdg:=h.digits; have hz:=h.size (by omega); have hbd:=h.bad; have hd : ∀ w,_:=hex_any c
 obtain ⟨pl,D,Z,L,T,lf,sc,tx,fl,bd⟩:=s
 simp only at hp hl hdg hz hbd ⊢
 subst hbd; clear h; have key : (c.toNat = 13 ∧ 0 < D) ∨ (¬ (c.toNat = 13 ∧ 0 < D) ∧ L = 256) ∨ (¬ (c.toNat = 13 ∧ 0 < D) ∧ L < 256):=by omega
 have kp : pl = 0 ∨ pl = 1:=by omega
 rcases key with ⟨k1,k2⟩ | ⟨k1,k2⟩ | ⟨k1,k2⟩
 ·have q : ((c.toNat : Int) == 13) = true:=beq_cast_true k1
  have hs : Hid (sized ⟨pl,D,Z,L,T,lf,sc,tx,fl,0⟩ c = ⟨2,D,Z,L,T,lf,sc,tx,fl,0⟩):=Hj (by unfold sized; rw [if_pos ⟨k1,k2⟩])
  rw [hs.out]
  generalize hexI c = hx at *; replace hd:=Hj hd; replace k1:=Hj k1; unfold sv svC
  dsimp only
  generalize str tx = st at *; go_enter Tryz.func210,Tryz.ntmps210
  go_wp2_with fail
  refine (hd.out _).mono ?_
  rintro e w2 ⟨rfl,rfl⟩
  go_wp2; exact ret_oneC rfl rfl rfl (Blk.new2 w _ _ _) Tryz.underlying215 rfl (by kernel_rfl) ⟨rfl,below2 _ _ _⟩
 ·subst k2
  have k3 : c.toNat ≠ 13 ∨ (c.toNat = 13 ∧ D = 0):=by omega
  rcases k3 with k3 | ⟨k3,k4⟩
  ·have q : ((c.toNat : Int) == 13) = false:=beq_cast_false k3
   have hs : Hid (sized ⟨pl,D,Z,256,T,lf,sc,tx,fl,0⟩ c = ⟨pl,D,Z,256,T,lf,sc,tx,fl,33⟩):=Hj (by unfold sized; rw [if_neg k1]; rfl)
   rw [hs.out]
   generalize hexI c = hx at *; replace hd:=Hj hd; replace k1:=Hj k1; replace k3:=Hj k3; have hb:=Hj (fun w => rbad_any ⟨pl,D,Z,256,T,lf,sc,tx,fl,0⟩ A n cap 33 w); unfold sv svC St.err at hb
   dsimp only at hb
   unfold sv svC
   dsimp only
   generalize str tx = st at *; go_enter Tryz.func210,Tryz.ntmps210
   go_wp2_with fail
   refine (hd.out _).mono ?_
   rintro e w2 ⟨rfl,rfl⟩
   go_wp2_with fail
   refine (hb.out _).mono ?_
   rintro e w2 ⟨rfl,rfl⟩
   go_wp2; exact ret_oneC rfl rfl rfl (Blk.new4 w _ _ _ _ _) Tryz.underlying215 rfl (by kernel_rfl) ⟨rfl,below4 _ _ _ _ _⟩
  ·have q : ((c.toNat : Int) == 13) = true:=beq_cast_true k3
   subst k4; have hs : Hid (sized ⟨pl,0,Z,256,T,lf,sc,tx,fl,0⟩ c = ⟨pl,0,Z,256,T,lf,sc,tx,fl,33⟩):=Hj (by unfold sized; rw [if_neg k1]; rfl)
   rw [hs.out]
   generalize hexI c = hx at *; replace hd:=Hj hd; replace k1:=Hj k1; replace k3:=Hj k3; have hb:=Hj (fun w => rbad_any ⟨pl,0,Z,256,T,lf,sc,tx,fl,0⟩ A n cap 33 w); unfold sv svC St.err at hb
   dsimp only at hb
   unfold sv svC
   dsimp only
   generalize str tx = st at *; go_enter Tryz.func210,Tryz.ntmps210
   go_wp2_with fail
   refine (hd.out _).mono ?_
   rintro e w2 ⟨rfl,rfl⟩
   go_wp2_with fail
   refine (hb.out _).mono ?_
   rintro e w2 ⟨rfl,rfl⟩
   go_wp2; exact ret_oneC rfl rfl rfl (Blk.new4 w _ _ _ _ _) Tryz.underlying215 rfl (by kernel_rfl) ⟨rfl,below4 _ _ _ _ _⟩
 ·have kl : L ≠ 256:=by omega
  have q9 : ((L : Int) == 256) = false:=beq_cast_false kl
  rcases kp with rfl | rfl
  ·have k3 : c.toNat ≠ 13 ∨ (c.toNat = 13 ∧ D = 0):=by omega
   rcases k3 with k3 | ⟨k3,k4⟩
   ·have q : ((c.toNat : Int) == 13) = false:=beq_cast_false k3
    by_cases k5 : c.toNat = 59
    ·have q2 : ((c.toNat : Int) == 59) = true:=beq_cast_true k5
     by_cases k6 : 0 < D
     ·have q6 : (0 : Int) < D:=by omega
      have hs : Hid (sized ⟨0,D,Z,L,T,lf,sc,tx,fl,0⟩ c = ⟨1,D,Z,L + 1,T,lf,sc,tx,fl,0⟩):=Hj (by unfold sized; dsimp only; rw [if_neg k1,if_neg kl,if_neg (by decide)]; rw [if_pos ⟨k5,k6⟩])
      rw [hs.out]
      generalize hexI c = hx at *; replace hd:=Hj hd; replace k1:=Hj k1; replace k3:=Hj k3; replace k5:=Hj k5; replace kl:=Hj kl; unfold sv svC
      dsimp only
      generalize str tx = st at *; go_enter Tryz.func210,Tryz.ntmps210
      go_wp2_with fail
      refine (hd.out _).mono ?_
      rintro e w2 ⟨rfl,rfl⟩
      go_wp2; exact ret_oneC rfl rfl rfl (Blk.new2 w _ _ _) Tryz.underlying215 rfl (by kernel_rfl) ⟨rfl,below2 _ _ _⟩
     ·obtain rfl : D = 0:=by omega
      have hx : hexv c = none:=by unfold hexv; rw [k5]; rfl
      rw [hexI_none hx] at hd
      have hs : Hid (sized ⟨0,0,Z,L,T,lf,sc,tx,fl,0⟩ c = ⟨0,0,Z,L,T,lf,sc,tx,fl,33⟩):=Hj (by unfold sized; dsimp only; rw [if_neg k1,if_neg kl,if_neg (by decide)]; rw [if_neg (by omega),hx]; rfl)
      rw [hs.out]
      replace hd:=Hj hd; replace hx:=Hj hx; replace k1:=Hj k1; replace k3:=Hj k3; replace k5:=Hj k5; replace kl:=Hj kl; have hb:=Hj (fun w => rbad_any ⟨0,0,Z,L,T,lf,sc,tx,fl,0⟩ A n cap 33 w); unfold sv svC St.err at hb
      dsimp only at hb
      unfold sv svC
      dsimp only
      generalize str tx = st at *; go_enter Tryz.func210,Tryz.ntmps210
      go_wp2_with fail
      refine (hd.out _).mono ?_
      rintro e w2 ⟨rfl,rfl⟩
      go_wp2_with fail
      refine (hb.out _).mono ?_
      rintro e w2 ⟨rfl,rfl⟩
      go_wp2; exact ret_oneC rfl rfl rfl (Blk.new4 w _ _ _ _ _) Tryz.underlying215 rfl (by kernel_rfl) ⟨rfl,below4 _ _ _ _ _⟩
    ·have q2 : ((c.toNat : Int) == 59) = false:=beq_cast_false k5
     cases hx : hexv c with
     | none =>
      rw [hexI_none hx] at hd
      have hs : Hid (sized ⟨0,D,Z,L,T,lf,sc,tx,fl,0⟩ c = ⟨0,D,Z,L,T,lf,sc,tx,fl,33⟩):=Hj (by unfold sized; dsimp only; rw [if_neg k1,if_neg kl,if_neg (by decide)]; rw [if_neg (by omega),hx]; rfl)
      rw [hs.out]
      replace hd:=Hj hd; replace hx:=Hj hx; replace k1:=Hj k1; replace k3:=Hj k3; replace k5:=Hj k5; replace kl:=Hj kl; have hb:=Hj (fun w => rbad_any ⟨0,D,Z,L,T,lf,sc,tx,fl,0⟩ A n cap 33 w); unfold sv svC St.err at hb
      dsimp only at hb
      unfold sv svC
      dsimp only
      generalize str tx = st at *; go_enter Tryz.func210,Tryz.ntmps210
      go_wp2_with fail
      refine (hd.out _).mono ?_
      rintro e w2 ⟨rfl,rfl⟩
      go_wp2_with fail
      refine (hb.out _).mono ?_
      rintro e w2 ⟨rfl,rfl⟩
      go_wp2; exact ret_oneC rfl rfl rfl (Blk.new4 w _ _ _ _ _) Tryz.underlying215 rfl (by kernel_rfl) ⟨rfl,below4 _ _ _ _ _⟩
     | some m =>
      rw [hexI_some hx] at hd
      have hn:=hexv_lt hx; by_cases k7 : D = 8
      ·subst k7
       have hs : Hid (sized ⟨0,8,Z,L,T,lf,sc,tx,fl,0⟩ c = ⟨0,8,Z,L,T,lf,sc,tx,fl,33⟩):=Hj (by unfold sized; dsimp only; rw [if_neg k1,if_neg kl,if_neg (by decide)]; rw [if_neg (by omega),hx]; rfl)
       rw [hs.out]
       replace hd:=Hj hd; replace hx:=Hj hx; replace k1:=Hj k1; replace k3:=Hj k3; replace k5:=Hj k5; replace kl:=Hj kl; have hb:=Hj (fun w => rbad_any ⟨0,8,Z,L,T,lf,sc,tx,fl,0⟩ A n cap 33 w); unfold sv svC St.err at hb
       dsimp only at hb
       unfold sv svC
       dsimp only
       generalize str tx = st at *; go_enter Tryz.func210,Tryz.ntmps210
       go_wp2_with fail
       refine (hd.out _).mono ?_
       rintro e w2 ⟨rfl,rfl⟩
       go_wp2_with fail
       refine (hb.out _).mono ?_
       rintro e w2 ⟨rfl,rfl⟩
       go_wp2; exact ret_oneC rfl rfl rfl (Blk.new4 w _ _ _ _ _) Tryz.underlying215 rfl (by kernel_rfl) ⟨rfl,below4 _ _ _ _ _⟩
      ·have q8 : ((D : Int) == 8) = false:=beq_cast_false k7
       by_cases k9 : 65536 < T + (16 * Z + m)
       ·have k10 : (65536 : Int) < T + (16 * Z + m):=by omega
        have hs : Hid (sized ⟨0,D,Z,L,T,lf,sc,tx,fl,0⟩ c = ⟨0,D + 1,16 * Z + m,L,T,lf,sc,tx,fl,5⟩):=Hj (by unfold sized; dsimp only; rw [if_neg k1,if_neg kl,if_neg (by decide)]; rw [if_neg (by omega),hx]; show (if D = 8 then _ else if 65536 < T + (16 * Z + m) then _ else _) = _; rw [if_neg k7,if_pos k9])
        rw [hs.out]
        replace hd:=Hj hd; replace hx:=Hj hx; replace k1:=Hj k1; replace k3:=Hj k3; replace k5:=Hj k5; replace k7:=Hj k7; replace k9:=Hj k9; replace kl:=Hj kl; have hb:=Hj (fun w => rbad_any ⟨0,D + 1,16 * Z + m,L,T,lf,sc,tx,fl,0⟩ A n cap 5 w); unfold sv svC St.err at hb
        dsimp only at hb
        unfold sv svC
        dsimp only
        generalize str tx = st at *; go_enter Tryz.func210,Tryz.ntmps210
        go_wp2_with fail
        refine (hd.out _).mono ?_
        rintro e w2 ⟨rfl,rfl⟩
        go_wp2_with fail
        refine (hb.out _).mono ?_
        rintro e w2 ⟨rfl,rfl⟩
        go_wp2; exact ret_oneC rfl rfl rfl (Blk.new4 w _ _ _ _ _) Tryz.underlying215 rfl (by kernel_rfl) ⟨rfl,below4 _ _ _ _ _⟩
       ·have k10 : ¬ (65536 : Int) < T + (16 * Z + m):=by omega
        have hs : Hid (sized ⟨0,D,Z,L,T,lf,sc,tx,fl,0⟩ c = ⟨0,D + 1,16 * Z + m,L + 1,T,lf,sc,tx,fl,0⟩):=Hj (by unfold sized; dsimp only; rw [if_neg k1,if_neg kl,if_neg (by decide)]; rw [if_neg (by omega),hx]; show (if D = 8 then _ else if 65536 < T + (16 * Z + m) then _ else _) = _; rw [if_neg k7,if_neg k9])
        rw [hs.out]
        replace hd:=Hj hd; replace hx:=Hj hx; replace k1:=Hj k1; replace k3:=Hj k3; replace k5:=Hj k5; replace k7:=Hj k7; replace k9:=Hj k9; replace kl:=Hj kl; unfold sv svC
        dsimp only
        generalize str tx = st at *; go_enter Tryz.func210,Tryz.ntmps210
        go_wp2_with fail
        refine (hd.out _).mono ?_
        rintro e w2 ⟨rfl,rfl⟩
        go_wp2; exact ret_oneC rfl rfl rfl (Blk.new2 w _ _ _) Tryz.underlying215 rfl (by kernel_rfl) ⟨rfl,below2 _ _ _⟩
   ·have q : ((c.toNat : Int) == 13) = true:=beq_cast_true k3
    subst k4; have hx : hexv c = none:=by unfold hexv; rw [k3]; rfl
    have q2 : ((c.toNat : Int) == 59) = false:=beq_cast_false (show c.toNat ≠ 59 by omega)
    rw [hexI_none hx] at hd
    have hs : Hid (sized ⟨0,0,Z,L,T,lf,sc,tx,fl,0⟩ c = ⟨0,0,Z,L,T,lf,sc,tx,fl,33⟩):=Hj (by unfold sized; dsimp only; rw [if_neg k1,if_neg kl,if_neg (by decide)]; rw [if_neg (by omega),hx]; rfl)
    rw [hs.out]
    replace hd:=Hj hd; replace hx:=Hj hx; replace k1:=Hj k1; replace k3:=Hj k3; replace kl:=Hj kl; have hb:=Hj (fun w => rbad_any ⟨0,0,Z,L,T,lf,sc,tx,fl,0⟩ A n cap 33 w); unfold sv svC St.err at hb
    dsimp only at hb
    unfold sv svC
    dsimp only
    generalize str tx = st at *; go_enter Tryz.func210,Tryz.ntmps210
    go_wp2_with fail
    refine (hd.out _).mono ?_
    rintro e w2 ⟨rfl,rfl⟩
    go_wp2_with fail
    refine (hb.out _).mono ?_
    rintro e w2 ⟨rfl,rfl⟩
    go_wp2; exact ret_oneC rfl rfl rfl (Blk.new4 w _ _ _ _ _) Tryz.underlying215 rfl (by kernel_rfl) ⟨rfl,below4 _ _ _ _ _⟩
  ·have k3 : c.toNat ≠ 13 ∨ (c.toNat = 13 ∧ D = 0):=by omega
   rcases k3 with k3 | ⟨k3,k4⟩
   ·have q : ((c.toNat : Int) == 13) = false:=beq_cast_false k3
    have key : c.toNat < 32 ∧ c.toNat ≠ 9 ∨ c.toNat = 9 ∨ c.toNat = 127 ∨ (32 ≤ c.toNat ∧ c.toNat ≠ 127):=by omega
    rcases key with hc | hc | hc | hc
    ·have hx : ctl c = true:=by unfold ctl ctlN; simp [hc.1,hc.2]
     have q3 : ((c.toNat : Int) != 9) = true:=by rw [bne_iff_ne]; omega
     have q5 : (c.toNat : Int) < 32:=by omega
     have hs : Hid (sized ⟨1,D,Z,L,T,lf,sc,tx,fl,0⟩ c = ⟨1,D,Z,L,T,lf,sc,tx,fl,33⟩):=Hj (by unfold sized; dsimp only; rw [if_neg k1,if_neg kl,if_pos rfl,hx]; rfl)
     rw [hs.out]
     generalize hexI c = hy at *; replace hd:=Hj hd; replace hx:=Hj hx; replace k1:=Hj k1; replace k3:=Hj k3; replace kl:=Hj kl; have hb:=Hj (fun w => rbad_any ⟨1,D,Z,L,T,lf,sc,tx,fl,0⟩ A n cap 33 w); unfold sv svC St.err at hb
     dsimp only at hb
     unfold sv svC
     dsimp only
     generalize str tx = st at *; go_enter Tryz.func210,Tryz.ntmps210
     go_wp2_with fail
     refine (hd.out _).mono ?_
     rintro e w2 ⟨rfl,rfl⟩
     go_wp2_with fail
     refine (hb.out _).mono ?_
     rintro e w2 ⟨rfl,rfl⟩
     go_wp2; exact ret_oneC rfl rfl rfl (Blk.new4 w _ _ _ _ _) Tryz.underlying215 rfl (by kernel_rfl) ⟨rfl,below4 _ _ _ _ _⟩
    ·have hx : ctl c = false:=by unfold ctl ctlN; simp [hc]
     have q3 : ((c.toNat : Int) != 9) = false:=by rw [hc]; rfl
     have q5 : (c.toNat : Int) < 32:=by omega
     have q4 : ((c.toNat : Int) == 127) = false:=beq_cast_false (show c.toNat ≠ 127 by omega)
     have hs : Hid (sized ⟨1,D,Z,L,T,lf,sc,tx,fl,0⟩ c = ⟨1,D,Z,L + 1,T,lf,sc,tx,fl,0⟩):=Hj (by unfold sized; dsimp only; rw [if_neg k1,if_neg kl,if_pos rfl,hx]; rfl)
     rw [hs.out]
     generalize hexI c = hy at *; replace hd:=Hj hd; replace hx:=Hj hx; replace k1:=Hj k1; replace k3:=Hj k3; replace kl:=Hj kl; replace hc:=Hj hc; unfold sv svC
     dsimp only
     generalize str tx = st at *; go_enter Tryz.func210,Tryz.ntmps210
     go_wp2_with fail
     refine (hd.out _).mono ?_
     rintro e w2 ⟨rfl,rfl⟩
     go_wp2; exact ret_oneC rfl rfl rfl (Blk.new2 w _ _ _) Tryz.underlying215 rfl (by kernel_rfl) ⟨rfl,below2 _ _ _⟩
    ·have hx : ctl c = true:=by unfold ctl ctlN; simp [hc]
     have q4 : ((c.toNat : Int) == 127) = true:=beq_cast_true hc
     have q5 : ¬ (c.toNat : Int) < 32:=by omega
     have hs : Hid (sized ⟨1,D,Z,L,T,lf,sc,tx,fl,0⟩ c = ⟨1,D,Z,L,T,lf,sc,tx,fl,33⟩):=Hj (by unfold sized; dsimp only; rw [if_neg k1,if_neg kl,if_pos rfl,hx]; rfl)
     rw [hs.out]
     generalize hexI c = hy at *; replace hd:=Hj hd; replace hx:=Hj hx; replace k1:=Hj k1; replace k3:=Hj k3; replace kl:=Hj kl; replace hc:=Hj hc; have hb:=Hj (fun w => rbad_any ⟨1,D,Z,L,T,lf,sc,tx,fl,0⟩ A n cap 33 w); unfold sv svC St.err at hb
     dsimp only at hb
     unfold sv svC
     dsimp only
     generalize str tx = st at *; go_enter Tryz.func210,Tryz.ntmps210
     go_wp2_with fail
     refine (hd.out _).mono ?_
     rintro e w2 ⟨rfl,rfl⟩
     go_wp2_with fail
     refine (hb.out _).mono ?_
     rintro e w2 ⟨rfl,rfl⟩
     go_wp2; exact ret_oneC rfl rfl rfl (Blk.new4 w _ _ _ _ _) Tryz.underlying215 rfl (by kernel_rfl) ⟨rfl,below4 _ _ _ _ _⟩
    ·have hx : ctl c = false:=by unfold ctl ctlN; simp; omega
     have q4 : ((c.toNat : Int) == 127) = false:=beq_cast_false hc.2
     have q5 : ¬ (c.toNat : Int) < 32:=by omega
     have hs : Hid (sized ⟨1,D,Z,L,T,lf,sc,tx,fl,0⟩ c = ⟨1,D,Z,L + 1,T,lf,sc,tx,fl,0⟩):=Hj (by unfold sized; dsimp only; rw [if_neg k1,if_neg kl,if_pos rfl,hx]; rfl)
     rw [hs.out]
     generalize hexI c = hy at *; replace hd:=Hj hd; replace hx:=Hj hx; replace k1:=Hj k1; replace k3:=Hj k3; replace kl:=Hj kl; unfold sv svC
     dsimp only
     generalize str tx = st at *; go_enter Tryz.func210,Tryz.ntmps210
     go_wp2_with fail
     refine (hd.out _).mono ?_
     rintro e w2 ⟨rfl,rfl⟩
     go_wp2; exact ret_oneC rfl rfl rfl (Blk.new2 w _ _ _) Tryz.underlying215 rfl (by kernel_rfl) ⟨rfl,below2 _ _ _⟩
   ·have q : ((c.toNat : Int) == 13) = true:=beq_cast_true k3
    subst k4; have hx : ctl c = true:=by unfold ctl; rw [k3]; rfl
    have q3 : ((c.toNat : Int) != 9) = true:=by rw [bne_iff_ne]; omega
    have q5 : (c.toNat : Int) < 32:=by omega
    have hs : Hid (sized ⟨1,0,Z,L,T,lf,sc,tx,fl,0⟩ c = ⟨1,0,Z,L,T,lf,sc,tx,fl,33⟩):=Hj (by unfold sized; dsimp only; rw [if_neg k1,if_neg kl,if_pos rfl,hx]; rfl)
    rw [hs.out]
    generalize hexI c = hy at *; replace hd:=Hj hd; replace hx:=Hj hx; replace k1:=Hj k1; replace k3:=Hj k3; replace kl:=Hj kl; have hb:=Hj (fun w => rbad_any ⟨1,0,Z,L,T,lf,sc,tx,fl,0⟩ A n cap 33 w); unfold sv svC St.err at hb
    dsimp only at hb
    unfold sv svC
    dsimp only
    generalize str tx = st at *; go_enter Tryz.func210,Tryz.ntmps210
    go_wp2_with fail
    refine (hd.out _).mono ?_
    rintro e w2 ⟨rfl,rfl⟩
    go_wp2_with fail
    refine (hb.out _).mono ?_
    rintro e w2 ⟨rfl,rfl⟩
    go_wp2; exact ret_oneC rfl rfl rfl (Blk.new4 w _ _ _ _ _) Tryz.underlying215 rfl (by kernel_rfl) ⟨rfl,below4 _ _ _ _ _⟩
end Go.Proofs.YtibcbaghgpemfaaGreatDoor
namespace Go.Proofs.YtibcbaghgpemfaaGreatDoor
open Go.RowKit Syn Ck
namespace Ck
theorem forbs_at {k : Nat} (hk : k < 7) : ∃ x,forbiddens[k]? = some x ∧ (strs forbiddens)[k]? = some (.string (str x)):=by
 have hl : forbiddens.length = 7:=rfl
 have hk' : k < forbiddens.length:=by omega
 exact ⟨forbiddens[k],List.getElem?_eq_getElem hk',strs_at hk'⟩
theorem forb_yes {n x : List UInt8} {k : Nat} (h : forbiddens[k]? = some x) (e : x = n) : forb n = true:=by
 unfold forb; rw [decide_eq_true_eq,← e]; exact List.mem_of_getElem? h
theorem forb_step {n x : List UInt8} {k : Nat} (h : forbiddens[k]? = some x) (e : x ≠ n) (hn : n ∉ forbiddens.take k) : n ∉ forbiddens.take (k + 1):=by
 obtain ⟨hk,hx⟩:=List.getElem?_eq_some_iff.1 h
 rw [List.take_succ_eq_append_getElem hk,List.mem_append,List.mem_singleton,hx]
 rintro (h3 | h3)
 ·exact hn h3
 ·exact e h3.symm
end Ck
set_option maxRecDepth 100000 in
set_option maxHeartbeats 4000000 in
theorem rforbidden_any (n : List UInt8) (w : World) :
  Calls Tryz.prog 219 #[.string (str n)] w fun e w' => e = .returned (.bool (forb n)) ∧ Below w.heap.size w w':=by
 have hB0:=Hj (Blk.new w 9 (strs forbiddens).toArray); have hbl:=Hj ((Below.refl w.heap.size w).alloc (Nat.le_refl _) (.cells (strs forbiddens).toArray 9)); go_enter Tryz.func219,Tryz.ntmps219
 go_wp2; go_loop [4] (fun i => ∃ k : Nat,i = .int .i64 (k : Int) ∧ k ≤ 7 ∧ Hid (n ∉ forbiddens.take k)) (fun i => 7 - (intOf i).toNat)
 case atStart => exact ⟨0,rfl,by omega,Hj (by simp)⟩
 case round =>
  obtain ⟨k,rfl,hk,hno⟩:=hrel
  by_cases hlt : k < 7
  ·obtain ⟨x,hx1,hx2⟩:=forbs_at hlt
   have d1 : (w.alloc (.cells #[.string ⟨#[97,117,116,104,111,114,105,122,97,116,105,111,110]⟩,.string ⟨#[99,97,99,104,101,45,99,111,110,116,114,111,108]⟩,.string ⟨#[99,111,110,116,101,110,116,45,108,101,110,103,116,104]⟩,.string ⟨#[104,111,115,116]⟩,.string ⟨#[115,101,116,45,99,111,111,107,105,101]⟩,.string ⟨#[116,114,97,105,108,101,114]⟩,.string ⟨#[116,114,97,110,115,102,101,114,45,101,110,99,111,100,105,110,103]⟩] 9)).cell? ⟨w.heap.size,k,none⟩ = some (.string (str x)):=by
    have h:=hB0.out.cell k; rw [List.getElem?_toArray,hx2] at h
    exact h
   by_cases he : x = n
   ·have hq:=str_eq he
    have hin:=Hj (forb_yes hx1 he); replace he:=Hj he; replace hx1:=Hj hx1; replace hx2:=Hj hx2; clear hno; go_wp2; go_ret; exact ⟨by rw [hin.out]; rfl,hbl.out⟩
   ·have hq:=str_ne he
    have hn:=Hj (forb_step hx1 he hno.out); replace he:=Hj he; replace hx1:=Hj hx1; replace hx2:=Hj hx2; clear hno; go_wp2; go_round
    case rel => exact ⟨k + 1,by go_num,by omega,hn⟩
    case measure => simp [intOf]; omega
  ·obtain rfl : k = 7:=by omega
   have hin:=Hj (show forb n = false from decide_eq_false hno.out); go_wp2; go_ret; exact ⟨by rw [hin.out]; rfl,hbl.out⟩
namespace Ck
theorem fline_cut {tx : List UInt8} {k : Nat} (hk : k < tx.length) (hc : tx[k] = 58) (hn : 58 ∉ tx.take k) : tx.takeWhile (· != 58) = tx.take k ∧ tx.dropWhile (· != 58) = 58 :: tx.drop (k + 1):=by
 have e : tx = tx.take k ++ 58 :: tx.drop (k + 1):=by rw [← hc,← List.drop_eq_getElem_cons hk,List.take_append_drop]
 have hp : ∀ x ∈ tx.take k,(x != 58) = true:=fun x hx => by rw [bne_iff_ne]; rintro rfl; exact hn hx
 constructor
 ·conv => lhs; rw [e]
  rw [List.takeWhile_append_of_pos hp,List.takeWhile_cons_of_neg (by decide),List.append_nil]
 ·conv => lhs; rw [e]
  rw [List.dropWhile_append_of_pos hp,List.dropWhile_cons_of_neg (by decide)]
theorem dw_nil : ∀ tx : List UInt8,58 ∉ tx → tx.dropWhile (· != 58) = []
 | [],_ => rfl
 | a :: r,h => by
  rw [List.dropWhile_cons_of_pos (by rw [bne_iff_ne]; rintro rfl; exact h (by simp))]
  exact dw_nil r (fun h2 => h (by simp [h2]))
theorem fline_no {tx : List UInt8} (hn : 58 ∉ tx) : fline tx = none:=by
 have : tx.dropWhile (· != 58) = []:=dw_nil tx hn
 unfold fline
 split
 ·rfl
 ·rename_i v h; rw [this] at h; cases h
theorem fline_at {tx : List UInt8} {k : Nat} (hk : k < tx.length) (hc : tx[k] = 58) (hn : 58 ∉ tx.take k) :
  fline tx = if nmE (tx.take k) = 0 ∧ vlE (tx.drop (k + 1)) = 0 ∧ forb (nmV (tx.take k)) = false then some (nmV (tx.take k),vlV (tx.drop (k + 1))) else none:=by
 obtain ⟨h1,h2⟩:=fline_cut hk hc hn
 have e : fline tx = match tx.dropWhile (· != 58) with
   | [] => none
   | _ :: v => if nmE (tx.takeWhile (· != 58)) = 0 ∧ vlE v = 0 ∧ forb (nmV (tx.takeWhile (· != 58))) = false then some (nmV (tx.takeWhile (· != 58)),vlV v) else none:=rfl
 rw [e,h1,h2]
theorem col_step {tx : List UInt8} {k : Nat} (hk : k < tx.length) (hc : tx[k] ≠ 58) (hn : 58 ∉ tx.take k) : 58 ∉ tx.take (k + 1):=by
 rw [List.take_succ_eq_append_getElem hk,List.mem_append,List.mem_singleton]
 rintro (h | h)
 ·exact hn h
 ·exact hc h.symm
def LineR (tx : List UInt8) (w : World) (e : Ending) (w' : World) : Prop :=
 ∃ n v : ByteArray,e = .returned (.tuple #[.agg #[.string n,.string v],.bool (fline tx).isSome]) ∧ (∀ a b,fline tx = some (a,b) → n = str a ∧ v = str b) ∧ Below w.heap.size w w'
end Ck
set_option maxRecDepth 100000 in
set_option maxHeartbeats 8000000 in
theorem rline_any (tx : List UInt8) (w : World) (hm : tx.length ≤ 8192) : Calls Tryz.prog 218 #[.string (str tx)] w (LineR tx w):=by
 have hsz:=str_size tx; have hB0:=Hj (Blk.new w 170 #[.string ⟨#[]⟩,.string ⟨#[]⟩]); have hbl:=Hj ((Below.refl w.heap.size w).alloc (Nat.le_refl _) (.cells #[.string ⟨#[]⟩,.string ⟨#[]⟩] 170)); have hext : ∀ k,bs ((str tx).extract 0 k) = tx.take k:=fun k => by rw [extract_str,bs_str]; rfl
 have hext2 : ∀ k,bs ((str tx).extract (k + 1) (str tx).size) = tx.drop (k + 1):=fun k => by rw [extract_str,bs_str,take_all]; rfl
 have hbs:=bs_str tx; obtain ⟨st,hst⟩ : ∃ st,str tx = st:=⟨_,rfl⟩
 have Hst:=Hj hst; rw [hst] at hsz hext hext2 hbs ⊢
 clear hst; replace hext:=Hj hext; replace hext2:=Hj hext2; replace hbs:=Hj hbs; have hsz2 : st.size ≤ 8192:=by omega
 replace hsz:=Hj hsz; go_enter Tryz.func218,Tryz.ntmps218
 go_wp2; go_loop [4] (fun i => ∃ k : Nat,i = .int .i64 (k : Int) ∧ k ≤ st.size ∧ Hid (58 ∉ tx.take k)) (fun i => st.size - (intOf i).toNat)
 case atStart => exact ⟨0,rfl,by omega,Hj (by simp)⟩
 case round =>
  obtain ⟨k,rfl,hk,hno⟩:=hrel
  by_cases hlt : k < st.size
  ·have hkt : k < tx.length:=by rw [← hsz.out]; exact hlt
   have hg : st[k] = tx[k]:=by
    have h:=byte_at st k hlt; rw [hbs.out,List.getElem?_eq_getElem hkt] at h
    exact (Option.some.inj h).symm
   by_cases hc : tx[k] = 58
   ·have q : ((st[k].toNat : Int) == 58) = true:=by rw [hg,hc]; rfl
    have hfl:=fline_at hkt hc hno.out; have hN : ∀ w,Calls Tryz.prog 110 #[.string (st.extract 0 k)] w fun e w' => e = .returned (.tuple #[.string (str (nmV (tx.take k))),.int .i64 (nmE (tx.take k))]) ∧ Below w.heap.size w w':=fun w => by
     have h:=r2name_any (st.extract 0 k) w (by rw [← bs_length,hext.out,List.length_take]; omega)
     rw [hext.out] at h; exact h
    have hV : ∀ w,Calls Tryz.prog 111 #[.string (st.extract (k + 1) st.size)] w fun e w' => e = .returned (.tuple #[.string (str (vlV (tx.drop (k + 1)))),.int .i64 (vlE (tx.drop (k + 1)))]) ∧ Below w.heap.size w w':=fun w => by
     have h:=r2value_any (st.extract (k + 1) st.size) w (by rw [← bs_length,hext2.out,List.length_drop]; omega)
     rw [hext2.out] at h; exact h
    have hO : ∀ w,Calls Tryz.prog 219 #[.string (str (nmV (tx.take k)))] w fun e w' => e = .returned (.bool (forb (nmV (tx.take k)))) ∧ Below w.heap.size w w':=fun w => rforbidden_any _ w
    replace hc:=Hj hc; replace hg:=Hj hg; replace hkt:=Hj hkt; replace hno:=Hj hno; generalize tx.take k = nm at *; generalize tx.drop (k + 1) = vl at *; by_cases k1 : nmE nm = 0
    ·have q1 : (nmE nm == 0) = true:=beq_iff_eq.2 k1
     by_cases k2 : vlE vl = 0
     ·have q2 : (vlE vl == 0) = true:=beq_iff_eq.2 k2
      have hfl2 : Hid ((fline tx).isSome = !forb (nmV nm) ∧ ∀ a b,fline tx = some (a,b) → str (nmV nm) = str a ∧ str (vlV vl) = str b):=Hj (by
       rw [hfl]
       cases k3 : forb (nmV nm)
       ·rw [if_pos ⟨k1,k2,rfl⟩]; exact ⟨rfl,fun a b e => by cases e; exact ⟨rfl,rfl⟩⟩
       ·rw [if_neg (fun h => absurd h.2.2 (by decide))]; exact ⟨rfl,fun a b e => by cases e⟩)
      clear hfl; replace k1:=Hj k1; replace k2:=Hj k2; generalize str (nmV nm) = s1 at *; generalize str (vlV vl) = s2 at *; generalize forb (nmV nm) = fb at *; replace hN:=Hj hN; replace hV:=Hj hV; replace hO:=Hj hO; go_wp2_with fail
      refine (hN.out _).mono ?_
      rintro e w2 ⟨rfl,hb2⟩
      have hB2:=Hj (Below.next hbl.out hbl.out.size hb2); have hK2:=Hj (hB0.out.below hb2); clear hb2; go_wp2_with fail
      refine (hV.out _).mono ?_
      rintro e w3 ⟨rfl,hb3⟩
      have hB3:=Hj (Below.next hB2.out hB2.out.size hb3); have hK3:=Hj (hK2.out.below hb3); clear hb3; have j0:=hK3.out.cell 0; have j1:=hK3.out.cell 1; have g0:=hK3.out.frozen 0; have g1:=hK3.out.frozen 1; go_wp2_with fail
      refine (hO.out _).mono ?_
      rintro e w4 ⟨rfl,hb4⟩
      have hB4:=Hj (Below.next hB3.out hB3.out.size hb4); have hK4:=Hj (hK3.out.below hb4); clear hb4 j0 j1 g0 g1; have j0:=hK4.out.cell 0; have j1:=hK4.out.cell 1; have g0:=hK4.out.frozen 0; have g1:=hK4.out.frozen 1; go_wp2; exact ret_blk rfl rfl rfl (hK4.out.two _ _) Tryz.underlying170 rfl (by kernel_rfl) ⟨s1,s2,by rw [hfl2.out.1]; rfl,hfl2.out.2,two_below rfl hB4.out _ _⟩
     ·have q2 : (vlE vl == 0) = false:=beq_eq_false_iff_ne.2 k2
      have hfl2 : Hid ((fline tx).isSome = false ∧ ∀ a b,fline tx = some (a,b) → str (nmV nm) = str a ∧ str (vlV vl) = str b):=Hj (by
       rw [hfl,if_neg (fun h => k2 h.2.1)]; exact ⟨rfl,fun a b e => by cases e⟩)
      clear hfl; replace k1:=Hj k1; replace k2:=Hj k2; generalize str (nmV nm) = s1 at *; generalize str (vlV vl) = s2 at *; replace hN:=Hj hN; replace hV:=Hj hV; replace hO:=Hj hO; go_wp2_with fail
      refine (hN.out _).mono ?_
      rintro e w2 ⟨rfl,hb2⟩
      have hB2:=Hj (Below.next hbl.out hbl.out.size hb2); have hK2:=Hj (hB0.out.below hb2); clear hb2; go_wp2_with fail
      refine (hV.out _).mono ?_
      rintro e w3 ⟨rfl,hb3⟩
      have hB3:=Hj (Below.next hB2.out hB2.out.size hb3); have hK3:=Hj (hK2.out.below hb3); clear hb3; have j0:=hK3.out.cell 0; have j1:=hK3.out.cell 1; have g0:=hK3.out.frozen 0; have g1:=hK3.out.frozen 1; go_wp2; exact ret_blk rfl rfl rfl (hK3.out.two _ _) Tryz.underlying170 rfl (by kernel_rfl) ⟨s1,s2,by rw [hfl2.out.1]; rfl,hfl2.out.2,two_below rfl hB3.out _ _⟩
    ·have q1 : (nmE nm == 0) = false:=beq_eq_false_iff_ne.2 k1
     have hfl2 : Hid ((fline tx).isSome = false ∧ ∀ a b,fline tx = some (a,b) → str (nmV nm) = str a ∧ str (vlV vl) = str b):=Hj (by
      rw [hfl,if_neg (fun h => k1 h.1)]; exact ⟨rfl,fun a b e => by cases e⟩)
     clear hfl; replace k1:=Hj k1; generalize str (nmV nm) = s1 at *; generalize str (vlV vl) = s2 at *; replace hN:=Hj hN; replace hV:=Hj hV; replace hO:=Hj hO; go_wp2_with fail
     refine (hN.out _).mono ?_
     rintro e w2 ⟨rfl,hb2⟩
     have hB2:=Hj (Below.next hbl.out hbl.out.size hb2); have hK2:=Hj (hB0.out.below hb2); clear hb2; go_wp2_with fail
     refine (hV.out _).mono ?_
     rintro e w3 ⟨rfl,hb3⟩
     have hB3:=Hj (Below.next hB2.out hB2.out.size hb3); have hK3:=Hj (hK2.out.below hb3); clear hb3; have j0:=hK3.out.cell 0; have j1:=hK3.out.cell 1; have g0:=hK3.out.frozen 0; have g1:=hK3.out.frozen 1; go_wp2; exact ret_blk rfl rfl rfl (hK3.out.two _ _) Tryz.underlying170 rfl (by kernel_rfl) ⟨s1,s2,by rw [hfl2.out.1]; rfl,hfl2.out.2,two_below rfl hB3.out _ _⟩
   ·have q : ((st[k].toNat : Int) == 58) = false:=beq_cast_false (fun e => hc (by rw [← hg]; exact UInt8.toNat_inj.1 e))
    have hn:=Hj (col_step hkt hc hno.out); replace hc:=Hj hc; replace hg:=Hj hg; replace hkt:=Hj hkt; clear hno; go_wp2; go_round
    case rel => exact ⟨k + 1,by go_num,by omega,hn⟩
    case measure => simp [intOf]; omega
  ·obtain rfl : k = st.size:=by omega
   have hfl : Hid (fline tx = none):=Hj (fline_no (by have:=hno.out; rw [hsz.out,List.take_length] at this; exact this))
   go_wp2; exact ret_blk rfl rfl rfl hB0.out Tryz.underlying170 rfl (by kernel_rfl) ⟨⟨#[]⟩,⟨#[]⟩,by rw [hfl.out]; rfl,(fun a b e => by rw [hfl.out] at e; cases e),hbl.out⟩
end Go.Proofs.YtibcbaghgpemfaaGreatDoor
namespace Go.Proofs.YtibcbaghgpemfaaGreatDoor
open Go.RowKit Syn Ck
section
variable {P : Program}
end
theorem infoR2 : (Tryz.prog.info? 170).map (fun i => (i.zero,i.size,i.bytes)) = some (some (.agg #[.string ⟨#[]⟩,.string ⟨#[]⟩]),2,32):=by kernel_rfl
namespace Ck
def C8 (G : Nat) (w : World) : Value:=(w.cell? ⟨G,8,none⟩).getD undef
theorem C8.of {G : Nat} {w : World} {v : Value} (h : w.cell? ⟨G,8,none⟩ = some v) : w.cell? ⟨G,8,none⟩ = some (C8 G w):=by unfold C8; rw [h]; rfl
theorem C8.eq {G : Nat} {w : World} {v : Value} (h : w.cell? ⟨G,8,none⟩ = some v) : C8 G w = v:=by unfold C8; rw [h]; rfl
def SK (G g5 : Nat) (a b : Value) (w' : World) : Prop:=w'.cell? ⟨G,8,none⟩ = some (C8 G w') ∧ w'.cell? ⟨g5,0,none⟩ = some a ∧ w'.cell? ⟨g5,1,none⟩ = some b
theorem SK.drew {G g5 : Nat} {a b : Value} {w' : World} (h : SK G g5 a b w') : SK G g5 a b w'.drew:=h
theorem SK.next {G g5 B : Nat} {a b : Value} {w' w'' : World} (h : SK G g5 a b w') (hG : G < B) (h5 : g5 < B) (hb : Below B w' w'') : SK G g5 a b w'' :=
 ⟨C8.of ((hb.cell (p:=⟨G,8,none⟩) hG).trans h.1),by rw [hb.cell (p:=⟨g5,0,none⟩) h5]; exact h.2.1,by rw [hb.cell (p:=⟨g5,1,none⟩) h5]; exact h.2.2⟩
theorem SK.alloc {G g5 : Nat} {a b : Value} {w' : World} (h : SK G g5 a b w') (o : Obj) : SK G g5 a b (w'.alloc o) :=
 h.next (B:=w'.heap.size) (cell_lt h.1) (cell_lt h.2.1) ((Below.refl _ _).alloc (Nat.le_refl _) o)
theorem SK.set {G g5 : Nat} {t : TypeId} {cs : Array Value} {a b : Value} {w' : World} (h : SK G g5 a b w') (hG : g5 ≠ G) (hb : Blk w' G t cs) (hc : 8 < cs.size) (u : Value) : SK G g5 a b (w'.setCell ⟨G,8,none⟩ u):=by
 have e : ∀ j,(w'.setCell ⟨G,8,none⟩ u).cell? ⟨g5,j,none⟩ = w'.cell? ⟨g5,j,none⟩:=fun j => World.cell?_of_block (Below.heap_setCell w' ⟨G,8,none⟩ u g5 hG)
 refine ⟨C8.of (v:=u) ?_,by rw [e]; exact h.2.1,by rw [e]; exact h.2.2⟩
 rw [(hb.set_ 8 u).cell 8]
 simp [hc]
theorem Rd.two {w : World} {g : Nat} {t : TypeId} {a b : Value} (h : Blk w g t #[a,b]) : Rd w 2 (.slice (some ⟨g,0,none⟩) 1 1) 1 [a,b] :=
 ⟨_,_,rfl,Nat.le_refl _,rfl,fun _ => ⟨g,0,rfl,h.lt,fun j u hu => by rw [Nat.zero_add,h.cell j]; simpa using hu⟩⟩
theorem Blk.grown {w w' : World} {g : Nat} {t : TypeId} {cs : Array Value} {row : Option Nat} (h : Blk w g t cs) (hg : w.grownBy w' row) (hne : some g ≠ row) : Blk w' g t cs:=(hg.block g h.lt hne).trans h
theorem setTen {w : World} {g : Nat} {t : TypeId} {o0 o1 o2 o3 o4 o5 o6 o7 o8 o9 : Value} (h : Blk w g t #[o0,o1,o2,o3,o4,o5,o6,o7,o8,o9]) (a0 a1 a2 a3 a4 a5 a6 a7 a8 a9 : Value) :
  Blk ((((((((((w.setCell ⟨g,0,none⟩ a0).setCell ⟨g,1,none⟩ a1).setCell ⟨g,2,none⟩ a2).setCell ⟨g,3,none⟩ a3).setCell ⟨g,4,none⟩ a4).setCell ⟨g,5,none⟩ a5).setCell ⟨g,6,none⟩ a6).setCell ⟨g,7,none⟩ a7).setCell ⟨g,8,none⟩ a8).setCell ⟨g,9,none⟩ a9) g t #[a0,a1,a2,a3,a4,a5,a6,a7,a8,a9]:=by
 have h0 : Blk _ g t #[a0,o1,o2,o3,o4,o5,o6,o7,o8,o9]:=h.set_ 0 a0
 have h1 : Blk _ g t #[a0,a1,o2,o3,o4,o5,o6,o7,o8,o9]:=h0.set_ 1 a1
 have h2 : Blk _ g t #[a0,a1,a2,o3,o4,o5,o6,o7,o8,o9]:=h1.set_ 2 a2
 have h3 : Blk _ g t #[a0,a1,a2,a3,o4,o5,o6,o7,o8,o9]:=h2.set_ 3 a3
 have h4 : Blk _ g t #[a0,a1,a2,a3,a4,o5,o6,o7,o8,o9]:=h3.set_ 4 a4
 have h5 : Blk _ g t #[a0,a1,a2,a3,a4,a5,o6,o7,o8,o9]:=h4.set_ 5 a5
 have h6 : Blk _ g t #[a0,a1,a2,a3,a4,a5,a6,o7,o8,o9]:=h5.set_ 6 a6
 have h7 : Blk _ g t #[a0,a1,a2,a3,a4,a5,a6,a7,o8,o9]:=h6.set_ 7 a7
 have h8 : Blk _ g t #[a0,a1,a2,a3,a4,a5,a6,a7,a8,o9]:=h7.set_ 8 a8
 have h9 : Blk _ g t #[a0,a1,a2,a3,a4,a5,a6,a7,a8,a9]:=h8.set_ 9 a9
 exact h9
theorem below_l3 {B : Nat} {w0 w : World} (h : Below B w0 w) (hB : B ≤ w.heap.size) (X Y Z : Obj) : Below B w0 (((w.alloc X).alloc Y).alloc Z) :=
 ((h.alloc hB X).alloc (by rw [alloc_size']; omega) Y).alloc (by rw [alloc_size',alloc_size']; omega) Z
theorem belowTen {B : Nat} {w0 w : World} {g : Nat} (h : Below B w0 w) (hg : B ≤ g) (a0 a1 a2 a3 a4 a5 a6 a7 a8 a9 : Value) :
  Below B w0 ((((((((((w.setCell ⟨g,0,none⟩ a0).setCell ⟨g,1,none⟩ a1).setCell ⟨g,2,none⟩ a2).setCell ⟨g,3,none⟩ a3).setCell ⟨g,4,none⟩ a4).setCell ⟨g,5,none⟩ a5).setCell ⟨g,6,none⟩ a6).setCell ⟨g,7,none⟩ a7).setCell ⟨g,8,none⟩ a8).setCell ⟨g,9,none⟩ a9) :=
 (((((((((h.setCell (p:=⟨g,0,none⟩) hg a0).setCell (p:=⟨g,1,none⟩) hg a1).setCell (p:=⟨g,2,none⟩) hg a2).setCell (p:=⟨g,3,none⟩) hg a3).setCell (p:=⟨g,4,none⟩) hg a4).setCell (p:=⟨g,5,none⟩) hg a5).setCell (p:=⟨g,6,none⟩) hg a6).setCell (p:=⟨g,7,none⟩) hg a7).setCell (p:=⟨g,8,none⟩) hg a8).setCell (p:=⟨g,9,none⟩) hg a9
theorem kpTen {F : Nat → Prop} {a w : World} {g : Nat} (h : Kp F a w) (hg : F g) (a0 a1 a2 a3 a4 a5 a6 a7 a8 a9 : Value) :
  Kp F a ((((((((((w.setCell ⟨g,0,none⟩ a0).setCell ⟨g,1,none⟩ a1).setCell ⟨g,2,none⟩ a2).setCell ⟨g,3,none⟩ a3).setCell ⟨g,4,none⟩ a4).setCell ⟨g,5,none⟩ a5).setCell ⟨g,6,none⟩ a6).setCell ⟨g,7,none⟩ a7).setCell ⟨g,8,none⟩ a8).setCell ⟨g,9,none⟩ a9) :=
 (((((((((h.set_ (fun _ => hg) 0 a0).set_ (fun _ => hg) 1 a1).set_ (fun _ => hg) 2 a2).set_ (fun _ => hg) 3 a3).set_ (fun _ => hg) 4 a4).set_ (fun _ => hg) 5 a5).set_ (fun _ => hg) 6 a6).set_ (fun _ => hg) 7 a7).set_ (fun _ => hg) 8 a8).set_ (fun _ => hg) 9 a9
def RStp (w : World) (A0 : Option Addr) (n0 : Nat) (s : St) (e : Ending) (w' : World) : Prop :=
 ∃ (A : Option Addr) (cap : Nat),e = .returned (sv s (.slice A s.fields.length cap)) ∧ Rd w' 2 (.slice A s.fields.length cap) s.fields.length (prs s.fields) ∧
  ((A = A0 ∧ s.fields.length = n0) ∨ ∀ j,(Value.slice A s.fields.length cap).ownBlock = some j → w.heap.size ≤ j) ∧ Below w.heap.size w w'
theorem Rd.kp0 {F : Nat → Prop} {a w : World} {sz n : Nat} {v : Value} {xs : List Value} (h : Rd a sz v n xs) (hF : 0 < n → Off F v) (hk : Kp F a w) : Rd w sz v n xs:=by
 rcases Nat.eq_zero_or_pos n with h0 | h0
 ·obtain ⟨A,cap,e,hc,hl,h⟩:=h
  exact ⟨A,cap,e,hc,hl,fun hn => by omega⟩
 ·exact Rd.kp h (hF h0) hk
theorem Rd.lt0 {w : World} {sz n : Nat} {v : Value} {xs : List Value} (h : Rd w sz v n xs) (hn : 0 < n) : ∀ j,v.ownBlock = some j → j < w.heap.size:=by
 obtain ⟨A,cap,rfl,hc,hl,h⟩:=h
 obtain ⟨b,o,rfl,hb,-⟩:=h hn
 intro j hj; have : b = j:=Option.some.inj hj
 omega
end Ck
set_option maxRecDepth 100000 in
set_option maxHeartbeats 16000000 in
theorem rended_any (s : St) (h : Ok s) (hp : 6 ≤ s.place ∧ s.place ≤ 7) (c : UInt8) (A : Option Addr) (cap : Nat) (w : World) (hr : Rd w 2 (.slice A s.fields.length cap) s.fields.length (prs s.fields)) :
  Calls Tryz.prog 212 #[sv s (.slice A s.fields.length cap),.int .u8 (c.toNat : Int)] w (RStp w A s.fields.length (ended s c)):=by
 have hsc:=h.sect; have htx:=h.text; have hfl:=h.fields; have hbd:=h.bad; obtain ⟨pl,D,Z,L,T,lf,sc,tx,fl,bd⟩:=s
 simp only at hp hsc htx hfl hbd hr ⊢
 subst hbd; clear h; have Hr:=Hj hr; clear hr; by_cases k1 : sc = 8192
 ·have q1 : ((sc : Int) == 8192) = true:=beq_cast_true k1
  subst k1; have hs : Hid (ended ⟨pl,D,Z,L,T,lf,8192,tx,fl,0⟩ c = ⟨pl,D,Z,L,T,lf,8192,tx,fl,34⟩):=Hj (by unfold ended; rw [if_pos (.inl rfl)]; rfl)
  rw [hs.out]
  have hb:=Hj (fun w => rbad_any ⟨pl,D,Z,L,T,lf,8192,tx,fl,0⟩ A fl.length cap 34 w); unfold sv svC St.err at hb
  unfold RStp sv svC
  dsimp only at hb ⊢
  generalize str tx = st at *; go_enter Tryz.func212,Tryz.ntmps212
  go_wp2_with fail
  refine (hb.out _).mono ?_
  rintro e w2 ⟨rfl,rfl⟩
  go_wp2; exact ret_oneC rfl rfl rfl (Blk.new4 w _ _ _ _ _) Tryz.underlying215 rfl (by kernel_rfl) ⟨A,cap,rfl,Hr.out.below (below4 _ _ _ _ _),.inl (by first | trivial | exact ⟨rfl,rfl⟩ | rfl | simp),below4 _ _ _ _ _⟩
 ·have q1 : ((sc : Int) == 8192) = false:=beq_cast_false k1
  have hsl : sc < 8192:=by omega
  by_cases k2 : c.toNat = 0
  ·have q2 : ((c.toNat : Int) == 0) = true:=beq_cast_true k2
   have hs : Hid (ended ⟨pl,D,Z,L,T,lf,sc,tx,fl,0⟩ c = ⟨pl,D,Z,L,T,lf,sc,tx,fl,34⟩):=Hj (by unfold ended; rw [if_pos (.inr (.inl k2))]; rfl)
   rw [hs.out]
   replace k1:=Hj k1; replace k2:=Hj k2; have hb:=Hj (fun w => rbad_any ⟨pl,D,Z,L,T,lf,sc,tx,fl,0⟩ A fl.length cap 34 w); unfold sv svC St.err at hb
   unfold RStp sv svC
   dsimp only at hb ⊢
   generalize str tx = st at *; go_enter Tryz.func212,Tryz.ntmps212
   go_wp2_with fail
   refine (hb.out _).mono ?_
   rintro e w2 ⟨rfl,rfl⟩
   go_wp2; exact ret_oneC rfl rfl rfl (Blk.new4 w _ _ _ _ _) Tryz.underlying215 rfl (by kernel_rfl) ⟨A,cap,rfl,Hr.out.below (below4 _ _ _ _ _),.inl (by first | trivial | exact ⟨rfl,rfl⟩ | rfl | simp),below4 _ _ _ _ _⟩
  ·have q2 : ((c.toNat : Int) == 0) = false:=beq_cast_false k2
   have hw : pl = 7 ∨ pl = 6:=by omega
   rcases hw with rfl | rfl
   ·by_cases k3 : c.toNat = 10
    ·have q3 : ((c.toNat : Int) == 10) = true:=beq_cast_true k3
     have q5 : ((c.toNat : Int) != 10) = false:=by rw [k3]; rfl
     have q4 : ((c.toNat : Int) == 13) = false:=beq_cast_false (show c.toNat ≠ 13 by omega)
     have n1 : ¬ (sc = 8192 ∨ c.toNat = 0 ∨ (decide (c.toNat = 10) != decide (7 = 7)) = true):=by
      rintro (e | e | e)
      ·exact k1 e
      ·exact k2 e
      ·rw [decide_eq_true k3] at e; exact absurd e (by decide)
     have n2 : c.toNat ≠ 13:=by omega
     by_cases k0 : tx = []
     ·subst k0
      have hs : Hid (ended ⟨7,D,Z,L,T,lf,sc,[],fl,0⟩ c = ⟨8,D,Z,L,T,lf,sc + 1,[],fl,0⟩):=Hj (by unfold ended; rw [if_neg n1,if_neg n2,if_neg (by omega),if_pos rfl])
      rw [hs.out]
      replace k1:=Hj k1; replace k2:=Hj k2; replace k3:=Hj k3; replace n1:=Hj n1; replace n2:=Hj n2; have q6 : (str []).toList.isEmpty = true:=by rw [str_toList]; rfl
      unfold RStp sv svC
      dsimp only
      generalize str [] = st at *; go_enter Tryz.func212,Tryz.ntmps212
      go_wp2; exact ret_oneC rfl rfl rfl (Blk.new2 w _ _ _) Tryz.underlying215 rfl (by kernel_rfl) ⟨A,cap,rfl,Hr.out.below (below2 _ _ _),.inl (by first | trivial | exact ⟨rfl,rfl⟩ | rfl | simp),below2 _ _ _⟩
     ·have q6 : (str tx).toList.isEmpty = false:=by rw [str_toList]; cases tx with | nil => exact absurd rfl k0 | cons a r => rfl
      have hs : ended ⟨7,D,Z,L,T,lf,sc,tx,fl,0⟩ c = match fline tx with
       | none => ⟨7,D,Z,L,T,lf,sc,tx,fl,34⟩
       | some f => if fl.length = 64 then ⟨7,D,Z,L,T,lf,sc,tx,fl,34⟩ else ⟨6,D,Z,L,T,lf,sc + 1,[],fl ++ [f],0⟩:=by
       unfold ended
       rw [if_neg n1,if_neg n2,if_neg (by omega),if_neg k0]
       cases fline tx <;> rfl
      have hL:=rline_any tx; replace hL : ∀ w,Calls Tryz.prog 218 #[.string (str tx)] w (LineR tx w):=fun w => hL w (by omega)
      unfold LineR at hL
      have hb:=fun w => rbad_any ⟨7,D,Z,L,T,lf,sc,tx,fl,0⟩ A fl.length cap 34 w
      unfold sv svC St.err at hb
      dsimp only at hb
      replace k0:=Hj k0; replace k1:=Hj k1; replace k2:=Hj k2; replace k3:=Hj k3; replace n1:=Hj n1; replace n2:=Hj n2; have hB2:=Hj (below2 w (.cells (svC ⟨7,D,Z,L,T,lf,sc,tx,fl,0⟩ (.slice A fl.length cap)) 215) (.cells #[.int .i64 0,.int .i64 0,.int .i64 0,.int .i64 0,.int .i64 0,.int .i64 0,.int .i64 0,.string ⟨#[]⟩,.slice none 0 0,.int .i64 0] 215)); have hS2:=Hj ((Blk.new w 215 (svC ⟨7,D,Z,L,T,lf,sc,tx,fl,0⟩ (.slice A fl.length cap))).alloc (.cells #[.int .i64 0,.int .i64 0,.int .i64 0,.int .i64 0,.int .i64 0,.int .i64 0,.int .i64 0,.string ⟨#[]⟩,.slice none 0 0,.int .i64 0] 215)); have hR2:=Hj (Blk.new2 w 215 (svC ⟨7,D,Z,L,T,lf,sc,tx,fl,0⟩ (.slice A fl.length cap)) #[.int .i64 0,.int .i64 0,.int .i64 0,.int .i64 0,.int .i64 0,.int .i64 0,.int .i64 0,.string ⟨#[]⟩,.slice none 0 0,.int .i64 0]); unfold svC at hB2 hS2 hR2
      dsimp only at hB2 hS2 hR2
      cases hfl2 : fline tx with
      | none =>
       rw [hfl2] at hs hL
       rw [hs]
       replace hs:=Hj hs; unfold RStp sv svC
       dsimp only
       generalize str tx = st at *; replace hL:=Hj hL; replace hb:=Hj hb; go_enter Tryz.func212,Tryz.ntmps212
       go_wp2_with fail
       refine (hL.out _).mono ?_
       rintro e w2 ⟨nn,vv,rfl,hnv,hb2⟩
       have hB3:=Hj (Below.next hB2.out hB2.out.size hb2); have hS3:=Hj (hS2.out.below hb2); have hR3:=Hj (hR2.out.below hb2); have hsz : w.heap.size + 2 ≤ w2.heap.size:=by have h:=hb2.size; rw [alloc_size',alloc_size'] at h; omega
       clear hb2; have hS4:=hS3.out.alloc (.cells #[.string nn,.string vv] 170); have hR4:=((hR3.out.alloc (.cells #[.string nn,.string vv] 170)).alloc (.cells #[.int .i64 7,.int .i64 D,.int .i64 Z,.int .i64 L,.int .i64 T,.int .i64 lf,.int .i64 sc,.string st,.slice A fl.length cap,.int .i64 34] 215)).alloc (.cells #[.int .i64 7,.int .i64 D,.int .i64 Z,.int .i64 L,.int .i64 T,.int .i64 lf,.int .i64 sc,.string st,.slice A fl.length cap,.int .i64 34] 215); have sc0:=hS4.cell 0; have sc1:=hS4.cell 1; have sc2:=hS4.cell 2; have sc3:=hS4.cell 3; have sc4:=hS4.cell 4; have sc5:=hS4.cell 5; have sc6:=hS4.cell 6; have sc7:=hS4.cell 7; have sc8:=hS4.cell 8; have sc9:=hS4.cell 9; have rc0:=hR4.cell 0; have rc1:=hR4.cell 1; have rc2:=hR4.cell 2; have rc3:=hR4.cell 3; have rc4:=hR4.cell 4; have rc5:=hR4.cell 5; have rc6:=hR4.cell 6; have rc7:=hR4.cell 7; have rc8:=hR4.cell 8; have rc9:=hR4.cell 9; have rf0:=hR4.frozen 0; have rf1:=hR4.frozen 1; have rf2:=hR4.frozen 2; have rf3:=hR4.frozen 3; have rf4:=hR4.frozen 4; have rf5:=hR4.frozen 5; have rf6:=hR4.frozen 6; have rf7:=hR4.frozen 7; have rf8:=hR4.frozen 8; have rf9:=hR4.frozen 9; replace hS4:=Hj hS4; replace hR4:=Hj hR4; go_wp2_with fail
       refine (hb.out _).mono ?_
       rintro e w3 ⟨rfl,rfl⟩
       go_wp2; exact ret_oneC rfl rfl rfl (setTen hR4.out _ _ _ _ _ _ _ _ _ _) Tryz.underlying215 rfl (by kernel_rfl) ⟨A,cap,rfl,Hr.out.below (belowTen (below_l3 hB3.out (by omega) _ _ _) (by omega) _ _ _ _ _ _ _ _ _ _),.inl (by first | trivial | exact ⟨rfl,rfl⟩ | rfl | simp),belowTen (below_l3 hB3.out (by omega) _ _ _) (by omega) _ _ _ _ _ _ _ _ _ _⟩
      | some f =>
       obtain ⟨fa,fb⟩:=f
       rw [hfl2] at hs hL
       by_cases k4 : fl.length = 64
       ·have q7 : ((fl.length : Int) == 64) = true:=beq_cast_true k4
        replace hs:=hs.trans (if_pos k4); rw [hs]
        replace hs:=Hj hs; replace k4:=Hj k4; unfold RStp sv svC
        dsimp only
        generalize str tx = st at *; replace hL:=Hj hL; replace hb:=Hj hb; go_enter Tryz.func212,Tryz.ntmps212
        go_wp2_with fail
        refine (hL.out _).mono ?_
        rintro e w2 ⟨nn,vv,rfl,hnv,hb2⟩
        have hB3:=Hj (Below.next hB2.out hB2.out.size hb2); have hS3:=Hj (hS2.out.below hb2); have hR3:=Hj (hR2.out.below hb2); have hsz : w.heap.size + 2 ≤ w2.heap.size:=by have h:=hb2.size; rw [alloc_size',alloc_size'] at h; omega
        clear hb2; have hS4:=hS3.out.alloc (.cells #[.string nn,.string vv] 170); have hR4:=((hR3.out.alloc (.cells #[.string nn,.string vv] 170)).alloc (.cells #[.int .i64 7,.int .i64 D,.int .i64 Z,.int .i64 L,.int .i64 T,.int .i64 lf,.int .i64 sc,.string st,.slice A fl.length cap,.int .i64 34] 215)).alloc (.cells #[.int .i64 7,.int .i64 D,.int .i64 Z,.int .i64 L,.int .i64 T,.int .i64 lf,.int .i64 sc,.string st,.slice A fl.length cap,.int .i64 34] 215); have sc0:=hS4.cell 0; have sc1:=hS4.cell 1; have sc2:=hS4.cell 2; have sc3:=hS4.cell 3; have sc4:=hS4.cell 4; have sc5:=hS4.cell 5; have sc6:=hS4.cell 6; have sc7:=hS4.cell 7; have sc8:=hS4.cell 8; have sc9:=hS4.cell 9; have rc0:=hR4.cell 0; have rc1:=hR4.cell 1; have rc2:=hR4.cell 2; have rc3:=hR4.cell 3; have rc4:=hR4.cell 4; have rc5:=hR4.cell 5; have rc6:=hR4.cell 6; have rc7:=hR4.cell 7; have rc8:=hR4.cell 8; have rc9:=hR4.cell 9; have rf0:=hR4.frozen 0; have rf1:=hR4.frozen 1; have rf2:=hR4.frozen 2; have rf3:=hR4.frozen 3; have rf4:=hR4.frozen 4; have rf5:=hR4.frozen 5; have rf6:=hR4.frozen 6; have rf7:=hR4.frozen 7; have rf8:=hR4.frozen 8; have rf9:=hR4.frozen 9; replace hS4:=Hj hS4; replace hR4:=Hj hR4; go_wp2_with fail
        refine (hb.out _).mono ?_
        rintro e w3 ⟨rfl,rfl⟩
        go_wp2; exact ret_oneC rfl rfl rfl (setTen hR4.out _ _ _ _ _ _ _ _ _ _) Tryz.underlying215 rfl (by kernel_rfl) ⟨A,cap,rfl,Hr.out.below (belowTen (below_l3 hB3.out (by omega) _ _ _) (by omega) _ _ _ _ _ _ _ _ _ _),.inl (by first | trivial | exact ⟨rfl,rfl⟩ | rfl | simp),belowTen (below_l3 hB3.out (by omega) _ _ _) (by omega) _ _ _ _ _ _ _ _ _ _⟩
       ·have q7 : ((fl.length : Int) == 64) = false:=beq_cast_false k4
        replace hs:=hs.trans (if_neg k4); rw [hs]
        replace hs:=Hj hs; replace k4:=Hj k4; unfold RStp sv svC
        dsimp only
        generalize str tx = st at *; replace hL:=Hj hL; replace hb:=Hj hb; go_enter Tryz.func212,Tryz.ntmps212
        go_wp2_with fail
        refine (hL.out _).mono ?_
        rintro e w2 ⟨nn,vv,rfl,hnv,hb2⟩
        have hB3:=Hj (Below.next hB2.out hB2.out.size hb2); have hS3:=Hj (hS2.out.below hb2); have hR3:=Hj (hR2.out.below hb2); have hsz : w.heap.size + 2 ≤ w2.heap.size:=by have h:=hb2.size; rw [alloc_size',alloc_size'] at h; omega
        clear hb2; obtain ⟨rfl,rfl⟩:=hnv _ _ rfl
        have hF4:=Blk.new w2 170 #[.string (str fa),.string (str fb)]; have hB4:=hB3.out.alloc hB3.out.size (.cells #[.string (str fa),.string (str fb)] 170); have hS4:=hS3.out.alloc (.cells #[.string (str fa),.string (str fb)] 170); have hR4:=hR3.out.alloc (.cells #[.string (str fa),.string (str fb)] 170); have hw3s:=alloc_size' w2 (.cells #[.string (str fa),.string (str fb)] 170); have c8:=hS4.cell 8; go_wp2; clear c8; generalize w2.alloc (.cells #[.string (str fa),.string (str fb)] 170) = w3 at *; have hHr3:=Hr.out.below hB4; have hG5 : w.heap.size < w2.heap.size:=by omega
        have hprs:=Hj (prs_snoc fl (fa,fb)); have L : SK w.heap.size w2.heap.size (.string (str fa)) (.string (str fb)) w3:=⟨C8.of (hS4.cell 8),hF4.cell 0,hF4.cell 1⟩
        have hC3 : C8 w.heap.size w3 = .slice A fl.length cap:=C8.eq (hS4.cell 8)
        have hC3d : C8 w.heap.size w3.drew = .slice A fl.length cap:=C8.eq (hS4.cell 8)
        have hE0:=World.ownsRow_made (base:=w3.heap.size) (size:=2) (e:=170) w3 #[] 0 (Nat.le_refl _) (Nat.zero_le _) rfl; generalize w2.heap.size = g5 at *; generalize str fa = sfa at *; generalize str fb = sfb at *; have c8:=hS4.cell 8; have b1 : ∀ X,Below (g5 + 1) w3 (w3.alloc X):=fun X => (Below.refl _ _).alloc (by omega) X
        have b2 : ∀ X Y,Below (g5 + 1) w3 ((w3.alloc X).alloc Y):=fun X Y => (b1 X).alloc (by rw [alloc_size']; omega) Y
        have c8a : ∀ X,(w3.alloc X).cell? ⟨w.heap.size,8,none⟩ = some (.slice A fl.length cap):=fun X => by rw [(b1 X).cell (p:=⟨w.heap.size,8,none⟩) (by show w.heap.size < _; omega)]; exact c8
        have c8b : ∀ X Y,((w3.alloc X).alloc Y).cell? ⟨w.heap.size,8,none⟩ = some (.slice A fl.length cap):=fun X Y => by rw [(b2 X Y).cell (p:=⟨w.heap.size,8,none⟩) (by show w.heap.size < _; omega)]; exact c8
        have hsX : ∀ X,(w3.alloc X).heap.size = g5 + 2:=fun X => by rw [alloc_size',hw3s]
        have hE1 : ∀ X,Own ((w3.alloc X).alloc (.cells #[] 170)) (g5 + 1) 170 2 (.slice (some ⟨g5 + 2,0,none⟩) 0 0) 0 []:=fun X => by
         have h:=World.ownsRow_made (base:=g5 + 1) (size:=2) (e:=170) (w3.alloc X) #[] 0 (by rw [hsX]; omega) (Nat.zero_le _) rfl
         rw [hsX] at h; exact h
        have hPa:=(Blk.new w3 170 #[.string sfa,.string sfb]).alloc (.cells #[] 170); have hPb:=Blk.new (w3.alloc (.cells #[] 170)) 170 #[.string sfa,.string sfb]; have hR1 : ∀ X,Rd (w3.alloc X) 2 (.slice A fl.length cap) fl.length (prs fl):=fun X => hHr3.below ((Below.refl _ _).alloc (Nat.le_refl _) X)
        have hR2' : ∀ X Y,Rd ((w3.alloc X).alloc Y) 2 (.slice A fl.length cap) fl.length (prs fl):=fun X Y => (hR1 X).below ((Below.refl _ _).alloc (Nat.le_refl _) Y)
        rw [hw3s] at hE0 hPa
        rw [hsX] at hPb
        have hl8 : ∀ w5,Below (g5 + 1) w3 w5 → Blk w5 w.heap.size 215 _:=fun w5 hb => (hb.block w.heap.size (by omega)).trans hS4
        have hl9 : ∀ w5,Below (g5 + 1) w3 w5 → Blk w5 (w.heap.size + 1) 215 _:=fun w5 hb => (hb.block (w.heap.size + 1) (by omega)).trans hR4
        have hE0d : Own ((w3.alloc (.cells #[] 170)).drew) (g5 + 1) 170 2 (.slice (some ⟨g5 + 1,0,none⟩) 0 0) 0 []:=hE0
        have hE0e : ∀ X,Own (((w3.alloc (.cells #[] 170)).alloc X).drew) (g5 + 1) 170 2 (.slice (some ⟨g5 + 1,0,none⟩) 0 0) 0 []:=fun X => World.ownsRow.alloc hE0 X
        have hE1d : ∀ X,Own (((w3.alloc X).alloc (.cells #[] 170)).drew) (g5 + 1) 170 2 (.slice (some ⟨g5 + 2,0,none⟩) 0 0) 0 []:=fun X => hE1 X
        have hPad:=hPa.drew; have hPbd:=hPb.drew; have hR1d : ∀ X,Rd ((w3.alloc X).drew) 2 (.slice A fl.length cap) fl.length (prs fl):=fun X => hR1 X
        have hR2d : ∀ X Y,Rd (((w3.alloc X).alloc Y).drew) 2 (.slice A fl.length cap) fl.length (prs fl):=fun X Y => hR2' X Y
        have b1d : ∀ X,Below (g5 + 1) w3 ((w3.alloc X).drew):=fun X => (b1 X).drew
        have b2d : ∀ X Y,Below (g5 + 1) w3 (((w3.alloc X).alloc Y).drew):=fun X Y => (b2 X Y).drew
        replace hE0d:=Hj hE0d; replace hE0e:=Hj hE0e; replace hE1d:=Hj hE1d; replace hPad:=Hj hPad; replace hPbd:=Hj hPbd; replace hR1d:=Hj hR1d; replace hR2d:=Hj hR2d; replace b1d:=Hj b1d; replace b2d:=Hj b2d; clear hE0 hE1 hPa hPb hR1 hR2' b1 b2; have hF5 : ∀ w5,Below (g5 + 1) w3 w5 → Blk w5 g5 170 #[.string sfa,.string sfb]:=fun w5 hb => (hb.block g5 (by omega)).trans hF4
        have e0:=hF4.cell 0; have e1:=hF4.cell 1; have e0a : ∀ X,(w3.alloc X).cell? ⟨g5,0,none⟩ = some (.string sfa):=fun X => (hF5 _ (b1d.out X)).cell 0
        have e1a : ∀ X,(w3.alloc X).cell? ⟨g5,1,none⟩ = some (.string sfb):=fun X => (hF5 _ (b1d.out X)).cell 1
        have e0b : ∀ X Y,((w3.alloc X).alloc Y).cell? ⟨g5,0,none⟩ = some (.string sfa):=fun X Y => (hF5 _ (b2d.out X Y)).cell 0
        have e1b : ∀ X Y,((w3.alloc X).alloc Y).cell? ⟨g5,1,none⟩ = some (.string sfb):=fun X Y => (hF5 _ (b2d.out X Y)).cell 1
        replace hF5:=Hj hF5; replace hl8:=Hj hl8; replace hl9:=Hj hl9; replace hS4:=Hj hS4; replace hF4:=Hj hF4; replace hR4:=Hj hR4; replace hB4:=Hj hB4; replace hHr3:=Hj hHr3; have hone2 : ∀ u ∈ [Value.string sfa,Value.string sfb],u.oneCell' = true:=prs_one [(bs sfa,bs sfb)] |> fun h => by simpa [prs,str_bs] using h
        go_region_law
         (first
          | (refine stepR_push (A:=A) (n:=0) (m:=fl.length) (c:=cap) (xs:=[]) (news:=prs fl) (B:=g5 + 1) (v:=.slice (some ⟨g5 + 1,0,none⟩) 0 0) 60 170 (.agg #[.string ⟨#[]⟩,.string ⟨#[]⟩]) 2 32 _ _ (by rfl) (by rfl) Tryz.underlying60 infoR2 (by rfl) (by decide) (by decide) (by rfl) (by exact hE0d.out) (by rfl) (by exact hR1d.out _) (prs_one _) (by omega) (by simp; omega) ?_; intro v4 w4 ho4 hg4; have hW4 : Below (g5 + 1) w3 w4:=(b1d.out _).trans (below_grown hE0d.out hg4 (by simp; omega)); have u0:=(hF5.out w4 hW4).cell 0; have u1:=(hF5.out w4 hW4).cell 1; clear hg4)
          | (refine stepR_push (A:=A) (n:=0) (m:=fl.length) (c:=cap) (xs:=[]) (news:=prs fl) (B:=g5 + 1) (v:=.slice (some ⟨g5 + 1,0,none⟩) 0 0) 60 170 (.agg #[.string ⟨#[]⟩,.string ⟨#[]⟩]) 2 32 _ _ (by rfl) (by rfl) Tryz.underlying60 infoR2 (by rfl) (by decide) (by decide) (by rfl) (by exact hE0e.out _) (by rfl) (by exact hR2d.out _ _) (prs_one _) (by omega) (by simp; omega) ?_; intro v4 w4 ho4 hg4; have hW4 : Below (g5 + 1) w3 w4:=(b2d.out _ _).trans (below_grown (hE0e.out _) hg4 (by simp; omega)); have hP4:=Hj (Rd.two (Ck.Blk.grown hPbd.out hg4 (by simp [Value.ownBlock]))); have u0:=(hF5.out w4 hW4).cell 0; have u1:=(hF5.out w4 hW4).cell 1; clear hg4)
          | (refine stepR_push (A:=A) (n:=0) (m:=fl.length) (c:=cap) (xs:=[]) (news:=prs fl) (B:=g5 + 1) (v:=.slice (some ⟨g5 + 2,0,none⟩) 0 0) 60 170 (.agg #[.string ⟨#[]⟩,.string ⟨#[]⟩]) 2 32 _ _ (by rfl) (by rfl) Tryz.underlying60 infoR2 (by rfl) (by decide) (by decide) (by rfl) (by exact hE1d.out _) (by rfl) (by exact hR2d.out _ _) (prs_one _) (by omega) (by simp; omega) ?_; intro v4 w4 ho4 hg4; have hW4 : Below (g5 + 1) w3 w4:=(b2d.out _ _).trans (below_grown (hE1d.out _) hg4 (by simp; omega)); have hP4:=Hj (Rd.two (Ck.Blk.grown hPad.out hg4 (by simp [Value.ownBlock]))); have u0:=(hF5.out w4 hW4).cell 0; have u1:=(hF5.out w4 hW4).cell 1; clear hg4)
          | (refine stepR_push (n:=0 + fl.length) (m:=1) (c:=1) (xs:=[] ++ prs fl) (news:=[.string sfa,.string sfb]) (B:=g5 + 1) 60 170 (.agg #[.string ⟨#[]⟩,.string ⟨#[]⟩]) 2 32 _ _ (by rfl) (by rfl) Tryz.underlying60 infoR2 (by rfl) (by decide) (by decide) (by rfl) (by first | exact ho4 | exact World.ownsRow.alloc ho4 _) (by rfl) (by first | exact hP4.out | exact Rd.two (Blk.new w4 _ _)) hone2 (by omega) (by have:=hW4.size; simp; omega) ?_; intro v5 w5 ho5 hg5; obtain ⟨A5,cap5,rfl,hc5,-,-⟩:=Rd.own ho5; have hW5 : Below (g5 + 1) w3 w5:=(by have:=hW4.size; first | exact hW4.trans (below_grown ho4 hg5 (by omega)) | exact (hW4.alloc (by omega) _).trans (below_grown (World.ownsRow.alloc ho4 _) hg5 (by simp; omega))); have c8v:=(hl8.out w5 hW5).cell 8; have f8v:=(hl8.out w5 hW5).frozen 8; clear hg5)
        )
        all_goals (
         have hb8:=hl8.out w5 hW5; have hb9:=hl9.out w5 hW5; have x0:=hb8.cell 0; have y0:=hb9.cell 0; have z0:=hb9.frozen 0; have x1:=hb8.cell 1; have y1:=hb9.cell 1; have z1:=hb9.frozen 1; have x2:=hb8.cell 2; have y2:=hb9.cell 2; have z2:=hb9.frozen 2; have x3:=hb8.cell 3; have y3:=hb9.cell 3; have z3:=hb9.frozen 3; have x4:=hb8.cell 4; have y4:=hb9.cell 4; have z4:=hb9.frozen 4; have x5:=hb8.cell 5; have y5:=hb9.cell 5; have z5:=hb9.frozen 5; have x6:=hb8.cell 6; have y6:=hb9.cell 6; have z6:=hb9.frozen 6; have x7:=hb8.cell 7; have y7:=hb9.cell 7; have z7:=hb9.frozen 7; have x8:=hb8.cell 8; have y8:=hb9.cell 8; have z8:=hb9.frozen 8; have x9:=hb8.cell 9; have y9:=hb9.cell 9; have z9:=hb9.frozen 9; have xf0:=hb8.frozen 0; have xf6:=hb8.frozen 6; have xf7:=hb8.frozen 7; replace hb8:=Hj hb8; replace hb9:=Hj hb9; replace ho5:=Hj ho5; replace hW5:=Hj hW5; clear c8v f8v; go_wp2; have hlen : (fl ++ [(fa,fb)]).length = fl.length + 1:=by simp
         have ho6 : Own w5 (g5 + 1) 170 2 (.slice A5 (fl.length + 1) cap5) (fl.length + 1) (prs (fl ++ [(fa,fb)])):=by
          have h:=ho5.out; rw [Nat.zero_add,List.nil_append] at h
          rw [hprs.out]
          exact h
         have hk4:=((((Kp.refl (fun j => j = w.heap.size ∨ j = w.heap.size + 1) w5).set_ (g:=w.heap.size) (fun _ => .inl rfl) 8 (.slice A5 (fl.length + 1) cap5)).set_ (g:=w.heap.size) (fun _ => .inl rfl) 0 (.int .i64 6)).set_ (g:=w.heap.size) (fun _ => .inl rfl) 7 (.string ⟨#[]⟩)).set_ (g:=w.heap.size) (fun _ => .inl rfl) 6 (.int .i64 (sc + 1 : Int)); have hoff : Off (fun j => j = w.heap.size ∨ j = w.heap.size + 1) (.slice A5 (fl.length + 1) cap5):=fun j hj e => by
          have h1:=(World.ownsRow.lt ho6 j hj).1; rcases e with e | e <;> omega
         have hbl:=(((((hB4.out.trans (hW5.out.mono (by omega))).setCell (p:=⟨w.heap.size,8,none⟩) (Nat.le_refl _) (.slice A5 (fl.length + 1) cap5)).setCell (p:=⟨w.heap.size,0,none⟩) (Nat.le_refl _) (.int .i64 6)).setCell (p:=⟨w.heap.size,7,none⟩) (Nat.le_refl _) (.string ⟨#[]⟩)).setCell (p:=⟨w.heap.size,6,none⟩) (Nat.le_refl _) (.int .i64 (sc + 1 : Int))); have hf9:=(((hb9.out.far (p:=⟨w.heap.size,8,none⟩) (by simp) (.slice A5 (fl.length + 1) cap5)).far (p:=⟨w.heap.size,0,none⟩) (by simp) (.int .i64 6)).far (p:=⟨w.heap.size,7,none⟩) (by simp) (.string ⟨#[]⟩)).far (p:=⟨w.heap.size,6,none⟩) (by simp) (.int .i64 (sc + 1 : Int)); exact ret_oneC rfl rfl rfl (setTen hf9 _ _ _ _ _ _ _ _ _ _) Tryz.underlying215 rfl (by kernel_rfl)
          ⟨A5,cap5,by rw [hlen]; rfl,by rw [hlen]; exact Rd.own (Own.kp ho6 hoff (kpTen hk4 (.inr rfl) _ _ _ _ _ _ _ _ _ _)),.inr (fun j hj => by rw [hlen] at hj; have h1:=(World.ownsRow.lt ho6 j hj).1; omega),belowTen hbl (by omega) _ _ _ _ _ _ _ _ _ _⟩)
    ·have q3 : ((c.toNat : Int) == 10) = false:=beq_cast_false k3
     have hs : Hid (ended ⟨7,D,Z,L,T,lf,sc,tx,fl,0⟩ c = ⟨7,D,Z,L,T,lf,sc,tx,fl,34⟩):=Hj (by unfold ended; rw [if_pos (.inr (.inr (by rw [decide_eq_false k3]; rfl)))]; rfl)
     rw [hs.out]
     replace k1:=Hj k1; replace k2:=Hj k2; replace k3:=Hj k3; have hb:=Hj (fun w => rbad_any ⟨7,D,Z,L,T,lf,sc,tx,fl,0⟩ A fl.length cap 34 w); unfold sv svC St.err at hb
     unfold RStp sv svC
     dsimp only at hb ⊢
     generalize str tx = st at *; go_enter Tryz.func212,Tryz.ntmps212
     go_wp2_with fail
     refine (hb.out _).mono ?_
     rintro e w2 ⟨rfl,rfl⟩
     go_wp2; exact ret_oneC rfl rfl rfl (Blk.new4 w _ _ _ _ _) Tryz.underlying215 rfl (by kernel_rfl) ⟨A,cap,rfl,Hr.out.below (below4 _ _ _ _ _),.inl (by first | trivial | exact ⟨rfl,rfl⟩ | rfl | simp),below4 _ _ _ _ _⟩
   ·by_cases k3 : c.toNat = 10
    ·have q3 : ((c.toNat : Int) == 10) = true:=beq_cast_true k3
     have hs : Hid (ended ⟨6,D,Z,L,T,lf,sc,tx,fl,0⟩ c = ⟨6,D,Z,L,T,lf,sc,tx,fl,34⟩):=Hj (by unfold ended; rw [if_pos (.inr (.inr (by rw [decide_eq_true k3]; rfl)))]; rfl)
     rw [hs.out]
     replace k1:=Hj k1; replace k2:=Hj k2; replace k3:=Hj k3; have hb:=Hj (fun w => rbad_any ⟨6,D,Z,L,T,lf,sc,tx,fl,0⟩ A fl.length cap 34 w); unfold sv svC St.err at hb
     unfold RStp sv svC
     dsimp only at hb ⊢
     generalize str tx = st at *; go_enter Tryz.func212,Tryz.ntmps212
     go_wp2_with fail
     refine (hb.out _).mono ?_
     rintro e w2 ⟨rfl,rfl⟩
     go_wp2; exact ret_oneC rfl rfl rfl (Blk.new4 w _ _ _ _ _) Tryz.underlying215 rfl (by kernel_rfl) ⟨A,cap,rfl,Hr.out.below (below4 _ _ _ _ _),.inl (by first | trivial | exact ⟨rfl,rfl⟩ | rfl | simp),below4 _ _ _ _ _⟩
    ·have q3 : ((c.toNat : Int) == 10) = false:=beq_cast_false k3
     have q5 : ((c.toNat : Int) != 10) = true:=by rw [bne_iff_ne]; omega
     have n1 : ¬ (sc = 8192 ∨ c.toNat = 0 ∨ (decide (c.toNat = 10) != decide (6 = 7)) = true):=by
      rintro (e | e | e)
      ·exact k1 e
      ·exact k2 e
      ·rw [decide_eq_false k3] at e; exact absurd e (by decide)
     by_cases k4 : c.toNat = 13
     ·have q4 : ((c.toNat : Int) == 13) = true:=beq_cast_true k4
      have hs : Hid (ended ⟨6,D,Z,L,T,lf,sc,tx,fl,0⟩ c = ⟨7,D,Z,L,T,lf,sc + 1,tx,fl,0⟩):=Hj (by unfold ended; rw [if_neg n1,if_pos k4])
      rw [hs.out]
      replace k1:=Hj k1; replace k2:=Hj k2; replace k3:=Hj k3; replace k4:=Hj k4; replace n1:=Hj n1; unfold RStp sv svC
      dsimp only
      generalize str tx = st at *; go_enter Tryz.func212,Tryz.ntmps212
      go_wp2; exact ret_oneC rfl rfl rfl (Blk.new2 w _ _ _) Tryz.underlying215 rfl (by kernel_rfl) ⟨A,cap,rfl,Hr.out.below (below2 _ _ _),.inl (by first | trivial | exact ⟨rfl,rfl⟩ | rfl | simp),below2 _ _ _⟩
     ·have q4 : ((c.toNat : Int) == 13) = false:=beq_cast_false k4
      have hs : Hid (ended ⟨6,D,Z,L,T,lf,sc,tx,fl,0⟩ c = ⟨6,D,Z,L,T,lf,sc + 1,tx ++ [c],fl,0⟩):=Hj (by unfold ended; rw [if_neg n1,if_neg k4,if_pos k3])
      rw [hs.out]
      replace k1:=Hj k1; replace k2:=Hj k2; replace k3:=Hj k3; replace k4:=Hj k4; replace n1:=Hj n1; have hap:=Hj (str_append tx [c]); have hz1:=str_size tx; have hz2:=str_size [c]; have hcv : ∀ X Y : Obj,(convert 23 9 (Value.slice (some ⟨w.heap.size + 1 + 1,0,none⟩) 1 1)).run Tryz.prog (((w.alloc X).alloc Y).alloc (.cells #[.int .u8 (c.toNat : Int)] 5)) = Result.ok (Value.string (str [c])) (((w.alloc X).alloc Y).alloc (.cells #[.int .u8 (c.toNat : Int)] 5)):=fun X Y => by
       have h:=run_byte ((w.alloc X).alloc Y) c; rw [alloc_size',alloc_size'] at h
       exact h
      unfold RStp sv svC
      dsimp only
      go_enter Tryz.func212,Tryz.ntmps212
      go_wp2; exact ret_oneC rfl rfl rfl ((Blk.new2 w _ _ _).alloc _) Tryz.underlying215 rfl (by kernel_rfl) ⟨A,cap,by rw [← hap.out]; rfl,Hr.out.below ((below2 _ _ _).alloc (by rw [alloc_size',alloc_size']; omega) _),.inl (by first | trivial | exact ⟨rfl,rfl⟩ | rfl | simp),(below2 _ _ _).alloc (by rw [alloc_size',alloc_size']; omega) _⟩
end Go.Proofs.YtibcbaghgpemfaaGreatDoor
namespace Go.Proofs.YtibcbaghgpemfaaGreatDoor
open Go.RowKit Syn Ck
theorem own_irr (A : Option Addr) (n c n' c' : Nat) : (Value.slice A n c).ownBlock = (Value.slice A n' c').ownBlock:=by cases A <;> rfl
set_option maxRecDepth 100000 in
set_option maxHeartbeats 16000000 in
theorem rstep_any (s : St) (h : Ok s) (h8 : s.place ≠ 8) (c : UInt8) (A : Option Addr) (cap : Nat) (w : World) (hr : Rd w 2 (.slice A s.fields.length cap) s.fields.length (prs s.fields)) :
  Calls Tryz.prog 199 #[sv s (.slice A s.fields.length cap),.int .u8 (c.toNat : Int)] w (RStp w A s.fields.length (Ck.step s c)):=by
 have hpl:=h.place; have key : s.place ≤ 1 ∨ s.place = 2 ∨ s.place = 3 ∨ s.place = 4 ∨ s.place = 5 ∨ (6 ≤ s.place ∧ s.place ≤ 7):=by omega
 have hB2:=Hj (below2 w (.cells (svC s (.slice A s.fields.length cap)) 215) (.cells #[.int .i64 0,.int .i64 0,.int .i64 0,.int .i64 0,.int .i64 0,.int .i64 0,.int .i64 0,.string ⟨#[]⟩,.slice none 0 0,.int .i64 0] 215)); have hR2:=Hj (Blk.new2 w 215 (svC s (.slice A s.fields.length cap)) #[.int .i64 0,.int .i64 0,.int .i64 0,.int .i64 0,.int .i64 0,.int .i64 0,.int .i64 0,.string ⟨#[]⟩,.slice none 0 0,.int .i64 0]); rcases key with k | k | k | k | k | k
 ·have hs : Ck.step s c = sized s c:=by unfold Ck.step; rw [if_pos k]
  rw [hs]
  have hI : ∀ w,Rd w 2 (.slice A s.fields.length cap) s.fields.length (prs s.fields) → Calls Tryz.prog 210 #[sv s (.slice A s.fields.length cap),.int .u8 (c.toNat : Int)] w (RStp w A s.fields.length (sized s c)):=fun w hr => (rsized_any s h k c A s.fields.length cap w).mono fun e w' ⟨h1,h2⟩ => by
   obtain ⟨k1,k2,k3,k4⟩:=sized_keep k c
   refine ⟨A,cap,by rw [h1,k4],?_,.inl ⟨rfl,by rw [k4]⟩,h2⟩
   rw [k4]; exact hr.below h2
  generalize sized s c = s2 at *; have hIw:=hI _ (hr.below hB2.out); obtain ⟨pl,D,Z,L,T,lf,sc,tx,fl,bd⟩:=s
  unfold RStp at hIw
  unfold sv at hIw
  unfold svC at hIw hB2 hR2
  unfold sv svC
  dsimp only at k hIw hB2 hR2 hpl h8 ⊢
  have kk : pl = 0 ∨ pl = 1:=by omega
  generalize str tx = st at *; generalize fl.length = nf at *; replace hIw:=Hj hIw; clear hI hs h hpl h8; replace hr:=Hj hr; rcases kk with rfl | rfl
  ·go_enter Tryz.func199,Tryz.ntmps199
   go_wp2_with fail
   refine hIw.out.mono ?_
   rintro e w3 ⟨A3,cap3,rfl,hr3,hA3,hb3⟩
   have hB3:=Hj (Below.next hB2.out hB2.out.size hb3); have hR3:=hR2.out.below hb3; have hoff : 0 < s2.fields.length → Off (· = w.heap.size + 1) (.slice A3 s2.fields.length cap3):=fun h0 j hj e => by
    rcases hA3 with ⟨h1,h2⟩ | h1
    ·subst h1
     have h3:=Rd.lt0 hr.out (by omega) j (by rw [← hj]; exact own_irr _ _ _ _ _)
     omega
    ·have h3:=h1 j hj
     rw [alloc_size',alloc_size'] at h3
     omega
   have hA4 : (A3 = A ∧ s2.fields.length = nf) ∨ ∀ j,(Value.slice A3 s2.fields.length cap3).ownBlock = some j → w.heap.size ≤ j:=hA3.imp id (fun h j hj => by have h3:=h j hj; rw [alloc_size',alloc_size'] at h3; omega)
   replace hA4:=Hj hA4; replace hoff:=Hj hoff; clear hA3; have y0:=hR3.cell 0; have z0:=hR3.frozen 0; have y1:=hR3.cell 1; have z1:=hR3.frozen 1; have y2:=hR3.cell 2; have z2:=hR3.frozen 2; have y3:=hR3.cell 3; have z3:=hR3.frozen 3; have y4:=hR3.cell 4; have z4:=hR3.frozen 4; have y5:=hR3.cell 5; have z5:=hR3.frozen 5; have y6:=hR3.cell 6; have z6:=hR3.frozen 6; have y7:=hR3.cell 7; have z7:=hR3.frozen 7; have y8:=hR3.cell 8; have z8:=hR3.frozen 8; have y9:=hR3.cell 9; have z9:=hR3.frozen 9; replace hR3:=Hj hR3; replace hr3:=Hj hr3; clear hb3; generalize hfn : s2.fields.length = n2 at *; generalize hst : str s2.text = st2 at *; go_wp2; have hk:=kpTen (F:=(· = w.heap.size + 1)) (Kp.refl (· = w.heap.size + 1) w3) (g:=w.heap.size + 1) rfl; exact ret_oneC rfl rfl rfl (setTen hR3.out _ _ _ _ _ _ _ _ _ _) Tryz.underlying215 rfl (by kernel_rfl) ⟨A3,cap3,by rw [hfn]; subst hst; rfl,by rw [hfn]; exact Rd.kp0 hr3.out hoff.out (hk _ _ _ _ _ _ _ _ _ _),by rw [hfn]; exact hA4.out,belowTen hB3.out (by omega) _ _ _ _ _ _ _ _ _ _⟩
  ·go_enter Tryz.func199,Tryz.ntmps199
   go_wp2_with fail
   refine hIw.out.mono ?_
   rintro e w3 ⟨A3,cap3,rfl,hr3,hA3,hb3⟩
   have hB3:=Hj (Below.next hB2.out hB2.out.size hb3); have hR3:=hR2.out.below hb3; have hoff : 0 < s2.fields.length → Off (· = w.heap.size + 1) (.slice A3 s2.fields.length cap3):=fun h0 j hj e => by
    rcases hA3 with ⟨h1,h2⟩ | h1
    ·subst h1
     have h3:=Rd.lt0 hr.out (by omega) j (by rw [← hj]; exact own_irr _ _ _ _ _)
     omega
    ·have h3:=h1 j hj
     rw [alloc_size',alloc_size'] at h3
     omega
   have hA4 : (A3 = A ∧ s2.fields.length = nf) ∨ ∀ j,(Value.slice A3 s2.fields.length cap3).ownBlock = some j → w.heap.size ≤ j:=hA3.imp id (fun h j hj => by have h3:=h j hj; rw [alloc_size',alloc_size'] at h3; omega)
   replace hA4:=Hj hA4; replace hoff:=Hj hoff; clear hA3; have y0:=hR3.cell 0; have z0:=hR3.frozen 0; have y1:=hR3.cell 1; have z1:=hR3.frozen 1; have y2:=hR3.cell 2; have z2:=hR3.frozen 2; have y3:=hR3.cell 3; have z3:=hR3.frozen 3; have y4:=hR3.cell 4; have z4:=hR3.frozen 4; have y5:=hR3.cell 5; have z5:=hR3.frozen 5; have y6:=hR3.cell 6; have z6:=hR3.frozen 6; have y7:=hR3.cell 7; have z7:=hR3.frozen 7; have y8:=hR3.cell 8; have z8:=hR3.frozen 8; have y9:=hR3.cell 9; have z9:=hR3.frozen 9; replace hR3:=Hj hR3; replace hr3:=Hj hr3; clear hb3; generalize hfn : s2.fields.length = n2 at *; generalize hst : str s2.text = st2 at *; go_wp2; have hk:=kpTen (F:=(· = w.heap.size + 1)) (Kp.refl (· = w.heap.size + 1) w3) (g:=w.heap.size + 1) rfl; exact ret_oneC rfl rfl rfl (setTen hR3.out _ _ _ _ _ _ _ _ _ _) Tryz.underlying215 rfl (by kernel_rfl) ⟨A3,cap3,by rw [hfn]; subst hst; rfl,by rw [hfn]; exact Rd.kp0 hr3.out hoff.out (hk _ _ _ _ _ _ _ _ _ _),by rw [hfn]; exact hA4.out,belowTen hB3.out (by omega) _ _ _ _ _ _ _ _ _ _⟩
 ·obtain ⟨pl,D,Z,L,T,lf,sc,tx,fl,bd⟩:=s
  simp only at k hr
  have hbd:=h.bad; have hsz:=h.size; have hda:=h.data; have htt:=h.total; simp only at hbd hsz hda htt
  subst hbd; subst k; clear h hpl h8 hB2 hR2; have Hr:=Hj hr; clear hr; by_cases k2 : c.toNat = 10
  ·have q : ((c.toNat : Int) != 10) = false:=by rw [k2]; rfl
   by_cases k3 : Z = 0
   ·subst k3
    have hs : Hid (Ck.step ⟨2,D,0,L,T,lf,sc,tx,fl,0⟩ c = ⟨6,D,0,L,T,0,sc,tx,fl,0⟩):=Hj (by unfold Ck.step; dsimp only; rw [if_neg (by omega),if_pos rfl,if_neg (by omega),if_pos rfl])
    rw [hs.out]
    replace k2:=Hj k2; unfold RStp sv svC
    dsimp only
    generalize str tx = st at *; go_enter Tryz.func199,Tryz.ntmps199
    go_wp2; exact ret_oneC rfl rfl rfl (Blk.new2 w _ _ _) Tryz.underlying215 rfl (by kernel_rfl) ⟨A,cap,rfl,Hr.out.below (below2 _ _ _),.inl (by first | trivial | exact ⟨rfl,rfl⟩ | rfl | simp),below2 _ _ _⟩
   ·have q3 : ((Z : Int) == 0) = false:=beq_cast_false k3
    have hs : Hid (Ck.step ⟨2,D,Z,L,T,lf,sc,tx,fl,0⟩ c = ⟨3,D,Z,L,T,Z,sc,tx,fl,0⟩):=Hj (by unfold Ck.step; dsimp only; rw [if_neg (by omega),if_pos rfl,if_neg (by omega),if_neg k3])
    rw [hs.out]
    replace k2:=Hj k2; replace k3:=Hj k3; unfold RStp sv svC
    dsimp only
    generalize str tx = st at *; go_enter Tryz.func199,Tryz.ntmps199
    go_wp2; exact ret_oneC rfl rfl rfl (Blk.new2 w _ _ _) Tryz.underlying215 rfl (by kernel_rfl) ⟨A,cap,rfl,Hr.out.below (below2 _ _ _),.inl (by first | trivial | exact ⟨rfl,rfl⟩ | rfl | simp),below2 _ _ _⟩
  ·have q : ((c.toNat : Int) != 10) = true:=by rw [bne_iff_ne]; omega
   have hs : Hid (Ck.step ⟨2,D,Z,L,T,lf,sc,tx,fl,0⟩ c = ⟨2,D,Z,L,T,lf,sc,tx,fl,33⟩):=Hj (by unfold Ck.step; dsimp only; rw [if_neg (by omega),if_pos rfl,if_pos k2]; rfl)
   rw [hs.out]
   replace k2:=Hj k2; have hb:=Hj (fun w => rbad_any ⟨2,D,Z,L,T,lf,sc,tx,fl,0⟩ A fl.length cap 33 w); unfold sv svC St.err at hb
   dsimp only at hb
   unfold RStp sv svC
   dsimp only
   generalize str tx = st at *; go_enter Tryz.func199,Tryz.ntmps199
   go_wp2_with fail
   refine (hb.out _).mono ?_
   rintro e w2 ⟨rfl,rfl⟩
   go_wp2; exact ret_oneC rfl rfl rfl (Blk.new4 w _ _ _ _ _) Tryz.underlying215 rfl (by kernel_rfl) ⟨A,cap,rfl,Hr.out.below (below4 _ _ _ _ _),.inl (by first | trivial | exact ⟨rfl,rfl⟩ | rfl | simp),below4 _ _ _ _ _⟩
 ·obtain ⟨pl,D,Z,L,T,lf,sc,tx,fl,bd⟩:=s
  simp only at k hr
  have hbd:=h.bad; have hsz:=h.size; have hda:=h.data; have htt:=h.total; simp only at hbd hsz hda htt
  subst hbd; subst k; clear h hpl h8 hB2 hR2; have Hr:=Hj hr; clear hr; have hd:=hda rfl; obtain ⟨hd1,hd2⟩:=hd
  obtain ⟨m,rfl⟩ : ∃ m,lf = m + 1:=⟨lf - 1,by omega⟩
  clear hda; by_cases k3 : m = 0
  ·subst k3
   have hs : Hid (Ck.step ⟨3,D,Z,L,T,0 + 1,sc,tx,fl,0⟩ c = ⟨4,D,Z,L,T + 1,0,sc,tx,fl,0⟩):=Hj (by unfold Ck.step; dsimp only; rw [if_neg (by omega),if_neg (by omega),if_pos rfl,if_pos rfl])
   rw [hs.out]
   unfold RStp sv svC
   dsimp only
   generalize str tx = st at *; go_enter Tryz.func199,Tryz.ntmps199
   go_wp2; exact ret_oneC rfl rfl rfl (Blk.new2 w _ _ _) Tryz.underlying215 rfl (by kernel_rfl) ⟨A,cap,rfl,Hr.out.below (below2 _ _ _),.inl (by first | trivial | exact ⟨rfl,rfl⟩ | rfl | simp),below2 _ _ _⟩
  ·have q3 : ((m : Int) == 0) = false:=beq_cast_false k3
   have hs : Hid (Ck.step ⟨3,D,Z,L,T,m + 1,sc,tx,fl,0⟩ c = ⟨3,D,Z,L,T + 1,m,sc,tx,fl,0⟩):=Hj (by unfold Ck.step; dsimp only; rw [if_neg (by omega),if_neg (by omega),if_pos rfl,if_neg (by omega)]; rfl)
   rw [hs.out]
   replace k3:=Hj k3; unfold RStp sv svC
   dsimp only
   generalize str tx = st at *; go_enter Tryz.func199,Tryz.ntmps199
   go_wp2; exact ret_oneC rfl rfl rfl (Blk.new2 w _ _ _) Tryz.underlying215 rfl (by kernel_rfl) ⟨A,cap,rfl,Hr.out.below (below2 _ _ _),.inl (by first | trivial | exact ⟨rfl,rfl⟩ | rfl | simp),below2 _ _ _⟩
 ·obtain ⟨pl,D,Z,L,T,lf,sc,tx,fl,bd⟩:=s
  simp only at k hr
  have hbd:=h.bad; have hsz:=h.size; have hda:=h.data; have htt:=h.total; simp only at hbd hsz hda htt
  subst hbd; subst k; clear h hpl h8 hB2 hR2; have Hr:=Hj hr; clear hr; by_cases k2 : c.toNat = 13
  ·have q : ((c.toNat : Int) != 13) = false:=by rw [k2]; rfl
   have hs : Hid (Ck.step ⟨4,D,Z,L,T,lf,sc,tx,fl,0⟩ c = ⟨5,D,Z,L,T,lf,sc,tx,fl,0⟩):=Hj (by unfold Ck.step; dsimp only; rw [if_neg (by omega),if_neg (by omega),if_neg (by omega),if_pos rfl,if_neg (by omega)])
   rw [hs.out]
   replace k2:=Hj k2; unfold RStp sv svC
   dsimp only
   generalize str tx = st at *; go_enter Tryz.func199,Tryz.ntmps199
   go_wp2; exact ret_oneC rfl rfl rfl (Blk.new2 w _ _ _) Tryz.underlying215 rfl (by kernel_rfl) ⟨A,cap,rfl,Hr.out.below (below2 _ _ _),.inl (by first | trivial | exact ⟨rfl,rfl⟩ | rfl | simp),below2 _ _ _⟩
  ·have q : ((c.toNat : Int) != 13) = true:=by rw [bne_iff_ne]; omega
   have hs : Hid (Ck.step ⟨4,D,Z,L,T,lf,sc,tx,fl,0⟩ c = ⟨4,D,Z,L,T,lf,sc,tx,fl,33⟩):=Hj (by unfold Ck.step; dsimp only; rw [if_neg (by omega),if_neg (by omega),if_neg (by omega),if_pos rfl,if_pos k2]; rfl)
   rw [hs.out]
   replace k2:=Hj k2; have hb:=Hj (fun w => rbad_any ⟨4,D,Z,L,T,lf,sc,tx,fl,0⟩ A fl.length cap 33 w); unfold sv svC St.err at hb
   dsimp only at hb
   unfold RStp sv svC
   dsimp only
   generalize str tx = st at *; go_enter Tryz.func199,Tryz.ntmps199
   go_wp2_with fail
   refine (hb.out _).mono ?_
   rintro e w2 ⟨rfl,rfl⟩
   go_wp2; exact ret_oneC rfl rfl rfl (Blk.new4 w _ _ _ _ _) Tryz.underlying215 rfl (by kernel_rfl) ⟨A,cap,rfl,Hr.out.below (below4 _ _ _ _ _),.inl (by first | trivial | exact ⟨rfl,rfl⟩ | rfl | simp),below4 _ _ _ _ _⟩
 ·obtain ⟨pl,D,Z,L,T,lf,sc,tx,fl,bd⟩:=s
  simp only at k hr
  have hbd:=h.bad; have hsz:=h.size; have hda:=h.data; have htt:=h.total; simp only at hbd hsz hda htt
  subst hbd; subst k; clear h hpl h8 hB2 hR2; have Hr:=Hj hr; clear hr; by_cases k2 : c.toNat = 10
  ·have q : ((c.toNat : Int) != 10) = false:=by rw [k2]; rfl
   have hs : Hid (Ck.step ⟨5,D,Z,L,T,lf,sc,tx,fl,0⟩ c = ⟨0,0,0,0,T,lf,sc,tx,fl,0⟩):=Hj (by unfold Ck.step; dsimp only; rw [if_neg (by omega),if_neg (by omega),if_neg (by omega),if_neg (by omega),if_pos rfl,if_neg (by omega)])
   rw [hs.out]
   replace k2:=Hj k2; unfold RStp sv svC
   dsimp only
   generalize str tx = st at *; go_enter Tryz.func199,Tryz.ntmps199
   go_wp2; exact ret_oneC rfl rfl rfl (Blk.new2 w _ _ _) Tryz.underlying215 rfl (by kernel_rfl) ⟨A,cap,rfl,Hr.out.below (below2 _ _ _),.inl (by first | trivial | exact ⟨rfl,rfl⟩ | rfl | simp),below2 _ _ _⟩
  ·have q : ((c.toNat : Int) != 10) = true:=by rw [bne_iff_ne]; omega
   have hs : Hid (Ck.step ⟨5,D,Z,L,T,lf,sc,tx,fl,0⟩ c = ⟨5,D,Z,L,T,lf,sc,tx,fl,33⟩):=Hj (by unfold Ck.step; dsimp only; rw [if_neg (by omega),if_neg (by omega),if_neg (by omega),if_neg (by omega),if_pos rfl,if_pos k2]; rfl)
   rw [hs.out]
   replace k2:=Hj k2; have hb:=Hj (fun w => rbad_any ⟨5,D,Z,L,T,lf,sc,tx,fl,0⟩ A fl.length cap 33 w); unfold sv svC St.err at hb
   dsimp only at hb
   unfold RStp sv svC
   dsimp only
   generalize str tx = st at *; go_enter Tryz.func199,Tryz.ntmps199
   go_wp2_with fail
   refine (hb.out _).mono ?_
   rintro e w2 ⟨rfl,rfl⟩
   go_wp2; exact ret_oneC rfl rfl rfl (Blk.new4 w _ _ _ _ _) Tryz.underlying215 rfl (by kernel_rfl) ⟨A,cap,rfl,Hr.out.below (below4 _ _ _ _ _),.inl (by first | trivial | exact ⟨rfl,rfl⟩ | rfl | simp),below4 _ _ _ _ _⟩
 ·have hs : Ck.step s c = ended s c:=by unfold Ck.step; rw [if_neg (by omega),if_neg (by omega),if_neg (by omega),if_neg (by omega),if_neg (by omega)]
  rw [hs]
  have hI : ∀ w,Rd w 2 (.slice A s.fields.length cap) s.fields.length (prs s.fields) → Calls Tryz.prog 212 #[sv s (.slice A s.fields.length cap),.int .u8 (c.toNat : Int)] w (RStp w A s.fields.length (ended s c)):=fun w hr => rended_any s h k c A cap w hr
  generalize ended s c = s2 at *; have hIw:=hI _ (hr.below hB2.out); obtain ⟨pl,D,Z,L,T,lf,sc,tx,fl,bd⟩:=s
  unfold RStp at hIw
  unfold sv at hIw
  unfold svC at hIw hB2 hR2
  unfold sv svC
  dsimp only at k hIw hB2 hR2 hpl h8 ⊢
  have kk : pl = 6 ∨ pl = 7:=by omega
  generalize str tx = st at *; generalize fl.length = nf at *; replace hIw:=Hj hIw; clear hI hs h hpl h8; replace hr:=Hj hr; rcases kk with rfl | rfl
  ·go_enter Tryz.func199,Tryz.ntmps199
   go_wp2_with fail
   refine hIw.out.mono ?_
   rintro e w3 ⟨A3,cap3,rfl,hr3,hA3,hb3⟩
   have hB3:=Hj (Below.next hB2.out hB2.out.size hb3); have hR3:=hR2.out.below hb3; have hoff : 0 < s2.fields.length → Off (· = w.heap.size + 1) (.slice A3 s2.fields.length cap3):=fun h0 j hj e => by
    rcases hA3 with ⟨h1,h2⟩ | h1
    ·subst h1
     have h3:=Rd.lt0 hr.out (by omega) j (by rw [← hj]; exact own_irr _ _ _ _ _)
     omega
    ·have h3:=h1 j hj
     rw [alloc_size',alloc_size'] at h3
     omega
   have hA4 : (A3 = A ∧ s2.fields.length = nf) ∨ ∀ j,(Value.slice A3 s2.fields.length cap3).ownBlock = some j → w.heap.size ≤ j:=hA3.imp id (fun h j hj => by have h3:=h j hj; rw [alloc_size',alloc_size'] at h3; omega)
   replace hA4:=Hj hA4; replace hoff:=Hj hoff; clear hA3; have y0:=hR3.cell 0; have z0:=hR3.frozen 0; have y1:=hR3.cell 1; have z1:=hR3.frozen 1; have y2:=hR3.cell 2; have z2:=hR3.frozen 2; have y3:=hR3.cell 3; have z3:=hR3.frozen 3; have y4:=hR3.cell 4; have z4:=hR3.frozen 4; have y5:=hR3.cell 5; have z5:=hR3.frozen 5; have y6:=hR3.cell 6; have z6:=hR3.frozen 6; have y7:=hR3.cell 7; have z7:=hR3.frozen 7; have y8:=hR3.cell 8; have z8:=hR3.frozen 8; have y9:=hR3.cell 9; have z9:=hR3.frozen 9; replace hR3:=Hj hR3; replace hr3:=Hj hr3; clear hb3; generalize hfn : s2.fields.length = n2 at *; generalize hst : str s2.text = st2 at *; go_wp2; have hk:=kpTen (F:=(· = w.heap.size + 1)) (Kp.refl (· = w.heap.size + 1) w3) (g:=w.heap.size + 1) rfl; exact ret_oneC rfl rfl rfl (setTen hR3.out _ _ _ _ _ _ _ _ _ _) Tryz.underlying215 rfl (by kernel_rfl) ⟨A3,cap3,by rw [hfn]; subst hst; rfl,by rw [hfn]; exact Rd.kp0 hr3.out hoff.out (hk _ _ _ _ _ _ _ _ _ _),by rw [hfn]; exact hA4.out,belowTen hB3.out (by omega) _ _ _ _ _ _ _ _ _ _⟩
  ·go_enter Tryz.func199,Tryz.ntmps199
   go_wp2_with fail
   refine hIw.out.mono ?_
   rintro e w3 ⟨A3,cap3,rfl,hr3,hA3,hb3⟩
   have hB3:=Hj (Below.next hB2.out hB2.out.size hb3); have hR3:=hR2.out.below hb3; have hoff : 0 < s2.fields.length → Off (· = w.heap.size + 1) (.slice A3 s2.fields.length cap3):=fun h0 j hj e => by
    rcases hA3 with ⟨h1,h2⟩ | h1
    ·subst h1
     have h3:=Rd.lt0 hr.out (by omega) j (by rw [← hj]; exact own_irr _ _ _ _ _)
     omega
    ·have h3:=h1 j hj
     rw [alloc_size',alloc_size'] at h3
     omega
   have hA4 : (A3 = A ∧ s2.fields.length = nf) ∨ ∀ j,(Value.slice A3 s2.fields.length cap3).ownBlock = some j → w.heap.size ≤ j:=hA3.imp id (fun h j hj => by have h3:=h j hj; rw [alloc_size',alloc_size'] at h3; omega)
   replace hA4:=Hj hA4; replace hoff:=Hj hoff; clear hA3; have y0:=hR3.cell 0; have z0:=hR3.frozen 0; have y1:=hR3.cell 1; have z1:=hR3.frozen 1; have y2:=hR3.cell 2; have z2:=hR3.frozen 2; have y3:=hR3.cell 3; have z3:=hR3.frozen 3; have y4:=hR3.cell 4; have z4:=hR3.frozen 4; have y5:=hR3.cell 5; have z5:=hR3.frozen 5; have y6:=hR3.cell 6; have z6:=hR3.frozen 6; have y7:=hR3.cell 7; have z7:=hR3.frozen 7; have y8:=hR3.cell 8; have z8:=hR3.frozen 8; have y9:=hR3.cell 9; have z9:=hR3.frozen 9; replace hR3:=Hj hR3; replace hr3:=Hj hr3; clear hb3; generalize hfn : s2.fields.length = n2 at *; generalize hst : str s2.text = st2 at *; go_wp2; have hk:=kpTen (F:=(· = w.heap.size + 1)) (Kp.refl (· = w.heap.size + 1) w3) (g:=w.heap.size + 1) rfl; exact ret_oneC rfl rfl rfl (setTen hR3.out _ _ _ _ _ _ _ _ _ _) Tryz.underlying215 rfl (by kernel_rfl) ⟨A3,cap3,by rw [hfn]; subst hst; rfl,by rw [hfn]; exact Rd.kp0 hr3.out hoff.out (hk _ _ _ _ _ _ _ _ _ _),by rw [hfn]; exact hA4.out,belowTen hB3.out (by omega) _ _ _ _ _ _ _ _ _ _⟩
end Go.Proofs.YtibcbaghgpemfaaGreatDoor
namespace Go.Proofs.YtibcbaghgpemfaaGreatDoor
open Go.RowKit Syn Ck
theorem ret_ctt {P : Program} {fn : Func} {p u1 u2 : Tmp} {ty t : TypeId} {R : Ending → World → Prop} {a : Act} {w : World} {g : Nat} {cs : Array Value} {d : TypeDesc} (h : fn.results = #[.cell p ty,.tmp u1,.tmp u2])
  (hd0 : a.defers = []) (hp : a.tmps.getD p undef = .pointer (some ⟨g,0,none⟩)) (hb : Blk w g t cs) (hu : P.underlying ty = some d) (hd : (match d with | .struct _ | .array _ _ => true | _ => false) = true)
  (hi : (P.info? ty).map (·.size) = some cs.size) (hR : R (.returned (.tuple #[.agg cs,a.tmps.getD u1 undef,a.tmps.getD u2 undef])) w) : bodyPost P fn R .ret a w:=by
 refine bodyPost_ret ?_ hd0 hR
 have e : (results fn a.tmps).run P w =
   ((asAddr (a.tmps.getD p undef)).run P w).andThen fun x w₁ => ((loadVar ty x).run P w₁).andThen fun v w₂ => .ok (.tuple #[v,a.tmps.getD u1 undef,a.tmps.getD u2 undef]) w₂:=by
  simp only [results,h]
  simp [Sem.run_bind,Result.andThen]
 rw [e,hp]
 simp [asAddr,Result.andThen,run_loadVar_row w g t ty cs (0,0) d hb hu hd hi]
set_option maxHeartbeats 1000000 in
theorem rdone_any (s : St) (A : Option Addr) (n cap : Nat) (w : World) :
  Calls Tryz.prog 175 #[sv s (.slice A n cap)] w fun e w' => e = .returned (.bool (decide (s.place = 8))) ∧ w' = w.alloc (.cells (svC s (.slice A n cap)) 215):=by
 obtain ⟨pl,D,Z,L,T,lf,sc,tx,fl,bd⟩:=s
 unfold sv svC
 dsimp only
 generalize str tx = st at *; by_cases h : pl = 8
 ·subst h
  go_enter Tryz.func175,Tryz.ntmps175
  go_wp2; go_ret; exact ⟨rfl,rfl⟩
 ·rw [decide_eq_false h]
  have q : ((pl : Int) == 8) = false:=beq_cast_false h
  replace h:=Hj h; go_enter Tryz.func175,Tryz.ntmps175
  go_wp2; go_ret; exact ⟨rfl,rfl⟩
theorem pushB_u8 {ops : Array Oper} {rest : List Oper} {o : Oper} {a : Act} {Q : Exit → Act → World → Prop} {w : World} (s x : Operand)
  (hgd : o.guard = none) (ho : o.op = .call { callee:=.builtin .append,args:=#[s,x],argTypes:=#[23,23] })
  {n B : Nat} {v u : Value} {xs : List Value} (hs : a.eval s = v) (hown : Own w B 5 1 v n xs) (hx : a.eval x = .slice (some ⟨w.heap.size,0,none⟩) 1 1)
  (h1 : u.oneCell' = true) (hn : n < 10000000000) (hB : B ≤ w.heap.size)
  (h : ∀ v' w',Own w' B 5 1 v' (n + 1) (xs ++ [u]) → (w.alloc (.cells #[u] 5)).grownBy w' v.ownBlock → (v'.ownBlock = v.ownBlock ∨ v'.ownBlock = some (w.heap.size + 1)) → wpList Tryz.prog ops Q rest (a.put o.dst v') w') : wpList Tryz.prog ops Q (o :: rest) a (w.alloc (.cells #[u] 5)):=by
 refine step_pushB 23 5 (.int .u8 0) 1 1 s x hgd ho Tryz.underlying23 infoU8 rfl (by decide) (by decide) hs (hown.alloc _) hx (news:=[u]) rfl (cell_one_new _ _ _) ?_ hn (by rw [alloc_size']; omega) ?_
 ·intro y hy; rw [List.mem_singleton] at hy; rw [hy]; exact h1
 ·intro v' w' ho' hb hat
  exact h v' w' ho' hb (by rwa [alloc_size'] at hat)
namespace Ck
theorem off_alloc {w5 : World} {X : Obj} {A1 A2 : Option Addr} {n1 n2 c1 c2 : Nat} {xs : List Value} (hR : Rd w5 2 (.slice A1 n1 c1) n1 xs)
  (h : (A2 = A1 ∧ n2 = n1) ∨ ∀ j,(Value.slice A2 n2 c2).ownBlock = some j → ((w5.alloc X).drew).heap.size ≤ j) : 0 < n2 → Off (· = w5.heap.size) (.slice A2 n2 c2):=fun h0 j hj e => by
 rcases h with ⟨h1,h2⟩ | h1
 ·subst h1
  have h3:=Rd.lt0 hR (by omega) j (by rw [← hj]; exact own_irr _ _ _ _ _)
  omega
 ·have h3:=h1 j hj
  have h4 : ((w5.alloc X).drew).heap.size = w5.heap.size + 1:=alloc_size' _ _
  rw [h4] at h3
  omega
theorem off_keep {w5 W' : World} {F : Nat → Prop} {A1 A2 : Option Addr} {n1 n2 c1 c2 : Nat} (hO : 0 < n1 → Off F (.slice A1 n1 c1)) (hF : ∀ j,F j → j < w5.heap.size) (hs : w5.heap.size ≤ W'.heap.size)
  (h : (A2 = A1 ∧ n2 = n1) ∨ ∀ j,(Value.slice A2 n2 c2).ownBlock = some j → W'.heap.size ≤ j) : 0 < n2 → Off F (.slice A2 n2 c2):=fun h0 j hj e => by
 rcases h with ⟨h1,h2⟩ | h1
 ·subst h1
  exact hO (by omega) j (by rw [← hj]; exact own_irr _ _ _ _ _) e
 ·have h3:=h1 j hj
  have:=hF j e
  omega
theorem wr_one3 {s s1 : St} {l out : List UInt8} {k : Nat} (h : Ck.wr s (l.take k) = (s1,out,k)) (h3 : s1.place = 3) (hb : s1.bad = 0) (hk : k < l.length) (hs : (Ck.step s1 l[k]).bad = 0) :
  Ck.wr s (l.take (k + 1)) = (Ck.step s1 l[k],out ++ [l[k]],k + 1):=by
 rw [List.take_succ_eq_append_getElem hk,wr_append,h]
 simp only
 rw [wr_go (by omega) (by omega),if_pos h3]
 simp [Ck.wr]
theorem wr_all {s s1 : St} {l out : List UInt8} {k : Nat} (h : Ck.wr s (l.take k) = (s1,out,k)) (hs : s1.bad ≠ 0 ∨ s1.place = 8) : Ck.wr s l = (s1,out,k):=by
 have:=wr_append (l.take k) (l.drop k) s
 rw [List.take_append_drop,h] at this
 simp only at this
 rw [wr_stop hs] at this
 rw [this]
 simp
def zC : Array Value:=#[.int .i64 0,.int .i64 0,.int .i64 0,.int .i64 0,.int .i64 0,.int .i64 0,.int .i64 0,.string ⟨#[]⟩,.slice none 0 0,.int .i64 0]
def RWr (G : Nat → Prop) (w : World) (s : St) (l : List UInt8) (e : Ending) (w' : World) : Prop :=
 ∃ (A : Option Addr) (cap : Nat) (vo : Value),e = .returned (.tuple #[sv (Ck.wr s l).1 (.slice A (Ck.wr s l).1.fields.length cap),vo,.int .i64 ((Ck.wr s l).2.2 : Int)]) ∧
  Rd w' 2 (.slice A (Ck.wr s l).1.fields.length cap) (Ck.wr s l).1.fields.length (prs (Ck.wr s l).1.fields) ∧ Own w' w.heap.size 5 1 vo (Ck.wr s l).2.1.length (u8s (Ck.wr s l).2.1) ∧ Below w.heap.size w w' ∧ (0 < (Ck.wr s l).1.fields.length → Off G (.slice A (Ck.wr s l).1.fields.length cap))
def RWI (G : Nat → Prop) (w : World) (s : St) (l : List UInt8) (b i : Value) (wx : World) : Prop :=
 ∃ (k : Nat) (s1 : St) (out : List UInt8) (A1 : Option Addr) (c1 : Nat),i = .int .i64 (k : Int) ∧ k ≤ l.length ∧ out.length ≤ k ∧ Hid (Ck.wr s (l.take k) = (s1,out,k)) ∧ Hid (s1.bad = 0 → Ok s1) ∧
  Hid (Blk wx w.heap.size 215 (svC s1 (.slice A1 s1.fields.length c1))) ∧ Hid (Blk wx (w.heap.size + 1) 215 zC) ∧
  Hid (Rd wx 2 (.slice A1 s1.fields.length c1) s1.fields.length (prs s1.fields)) ∧ Hid (0 < s1.fields.length → Off (fun j => j = w.heap.size ∨ j = w.heap.size + 1 ∨ b.ownBlock = some j ∨ G j) (.slice A1 s1.fields.length c1)) ∧
  Hid (Own wx (w.heap.size + 2) 5 1 b out.length (u8s out)) ∧ Hid (Below w.heap.size w wx)
end Ck
set_option maxRecDepth 100000 in
set_option maxHeartbeats 16000000 in
theorem rwrite_any (G : Nat → Prop) (s : St) (h : s.bad = 0 → Ok s) (l : List UInt8) (A : Option Addr) (cap : Nat) (B : Option Addr) (bc : Nat) (W0 : World) (hr : Rd W0 2 (.slice A s.fields.length cap) s.fields.length (prs s.fields)) (hb : Rd W0 1 (.slice B l.length bc) l.length (u8s l)) (hm : l.length ≤ 1000000000) (hGl : ∀ j,G j → j < W0.heap.size) (hOG : 0 < s.fields.length → Off G (.slice A s.fields.length cap)) :
  Calls Tryz.prog 174 #[sv s (.slice A s.fields.length cap),.slice B l.length bc] W0 (RWr G W0 s l):=by
 have hB2:=below2 W0 (.cells (svC s (.slice A s.fields.length cap)) 215) (.cells zC 215); have hS2:=(Blk.new W0 215 (svC s (.slice A s.fields.length cap))).alloc (.cells zC 215); have hZ2:=Blk.new2 W0 215 (svC s (.slice A s.fields.length cap)) zC; have hst : RWI G W0 s l (.slice none 0 0) (.int .i64 0) ((W0.alloc (.cells (svC s (.slice A s.fields.length cap)) 215)).alloc (.cells zC 215)):=by
  refine ⟨0,s,[],A,cap,rfl,Nat.zero_le _,Nat.le_refl _,Hj rfl,Hj h,Hj hS2,Hj hZ2,Hj (hr.below hB2),Hj (fun h0 j hj e => ?_),Hj (own_nil _ _ _ _),Hj hB2⟩
  have h1:=Rd.lt0 hr h0 j hj; rcases e with e | e | e | e
  ·omega
  ·omega
  ·cases e
  ·exact hOG h0 j hj e
 clear hS2 hZ2 hr hB2 hOG; replace hGl:=Hj hGl; replace hb:=Hj hb; obtain ⟨pl,D,Z,L,T,lf,sc,tx,fl,bd⟩:=s
 unfold sv
 unfold svC at hst ⊢
 dsimp only at hst ⊢
 have hz : zC = #[.int .i64 0,.int .i64 0,.int .i64 0,.int .i64 0,.int .i64 0,.int .i64 0,.int .i64 0,.string ⟨#[]⟩,.slice none 0 0,.int .i64 0]:=rfl
 rw [hz] at hst
 clear hz; obtain ⟨s0,hs0⟩ : ∃ s0,(⟨pl,D,Z,L,T,lf,sc,tx,fl,bd⟩ : St) = s0:=⟨_,rfl⟩
 rw [hs0] at hst h ⊢
 generalize str tx = st at *; generalize fl.length = nf at *; clear hs0; go_enter Tryz.func174,Tryz.ntmps174
 go_wp2; go_loopw [7,8] (fun b i wx => RWI G W0 s0 l b i wx) (fun _ i _ => l.length - (intOf i).toNat)
 case atStart => exact hst
 case round =>
  clear hst; obtain ⟨k,s1,out,A1,c1,rfl,hk,hol,hrun,hok,hS,hZ,hR,hO,hOw,hB⟩:=hrel
  have hZl:=hZ.out.lt; by_cases hlt : k < l.length
  ·obtain ⟨B',c',e',-,-,r'⟩:=hb.out.below hB.out
   cases e'; obtain ⟨b1,o1,rfl,hbl,x1⟩:=r' (by omega)
   have d1 : wr.cell? ⟨b1,o1 + k,none⟩ = some (.int .u8 (l[k].toNat : Int)):=x1 k _ (u8s_at hlt)
   have hb1 : b1 < W0.heap.size:=by
    obtain ⟨B2,c2,e2,-,-,r2⟩:=hb.out
    cases e2
    obtain ⟨b2,o2,e3,hb2,-⟩:=r2 (by omega)
    cases e3; exact hb2
   by_cases hbd : s1.bad = 0
   ·by_cases h8 : s1.place = 8
    ·have hall:=Hj (wr_all hrun.out (.inr h8))
     have hdn:=fun w => rdone_any s1 A1 s1.fields.length c1 w
     rw [decide_eq_true h8] at hdn
     have hSs:=hS.out; have hZs:=hZ.out; obtain ⟨p1,D1,Z1,L1,T1,lf1,sc1,tx1,fl1,bb1⟩:=s1
     unfold sv at hdn
     unfold svC at hdn hSs
     unfold zC at hZs
     simp only at hbd hSs hdn hR hO
     subst hbd; replace hdn:=Hj hdn; have s0:=hSs.cell 0; have s1:=hSs.cell 1; have s2:=hSs.cell 2; have s3:=hSs.cell 3; have s4:=hSs.cell 4; have s5:=hSs.cell 5; have s6:=hSs.cell 6; have s7:=hSs.cell 7; have s8:=hSs.cell 8; have s9:=hSs.cell 9; replace h8:=Hj h8; clear x1 r' d1; go_wp2_with fail
     refine (hdn.out _).mono ?_
     rintro e w5 ⟨rfl,hw5⟩
     have hb5 : Below wr.heap.size wr w5:=by rw [hw5]; exact (Below.refl _ _).alloc (Nat.le_refl _) _
     clear hw5; have hS5:=hSs.below hb5; have hZ5:=hZs.below hb5; have hR5:=hR.out.below hb5; have hO5:=own_below hOw.out hb5; have hB5:=Below.next hB.out hB.out.size hb5; clear s0 s1 s2 s3 s4 s5 s6 s7 s8 s9; have s0:=hS5.cell 0; have s1:=hS5.cell 1; have s2:=hS5.cell 2; have s3:=hS5.cell 3; have s4:=hS5.cell 4; have s5:=hS5.cell 5; have s6:=hS5.cell 6; have s7:=hS5.cell 7; have s8:=hS5.cell 8; have s9:=hS5.cell 9; have z0:=hZ5.cell 0; have y0:=hZ5.frozen 0; have z1:=hZ5.cell 1; have y1:=hZ5.frozen 1; have z2:=hZ5.cell 2; have y2:=hZ5.frozen 2; have z3:=hZ5.cell 3; have y3:=hZ5.frozen 3; have z4:=hZ5.cell 4; have y4:=hZ5.frozen 4; have z5:=hZ5.cell 5; have y5:=hZ5.frozen 5; have z6:=hZ5.cell 6; have y6:=hZ5.frozen 6; have z7:=hZ5.cell 7; have y7:=hZ5.frozen 7; have z8:=hZ5.cell 8; have y8:=hZ5.frozen 8; have z9:=hZ5.cell 9; have y9:=hZ5.frozen 9; replace hS5:=Hj hS5; replace hZ5:=Hj hZ5; replace hR5:=Hj hR5; replace hO5:=Hj hO5; replace hB5:=Hj hB5; clear hb5; go_wp2; have hk:=kpTen (F:=(· = W0.heap.size + 1)) (Kp.refl (· = W0.heap.size + 1) w5) (g:=W0.heap.size + 1) rfl; exact ret_ctt rfl rfl rfl (setTen hZ5.out _ _ _ _ _ _ _ _ _ _) Tryz.underlying215 rfl (by kernel_rfl) ⟨A1,c1,_,by rw [hall.out]; rfl,by rw [hall.out]; exact Rd.kp0 hR5.out (fun h0 j hj e => hO.out h0 j hj (.inr (.inl e))) (hk _ _ _ _ _ _ _ _ _ _),by rw [hall.out]; exact Own.base (Own.kp hO5.out (fun j hj e => by have:=(World.ownsRow.lt hO5.out j hj).1; omega) (hk _ _ _ _ _ _ _ _ _ _)) (by omega),belowTen hB5.out (by omega) _ _ _ _ _ _ _ _ _ _,by rw [hall.out]; exact fun h0 j hj e => hO.out h0 j hj (.inr (.inr (.inr e)))⟩
    ·have hok1:=hok.out hbd
     have hdn:=fun w => rdone_any s1 A1 s1.fields.length c1 w
     rw [decide_eq_false h8] at hdn
     have hSt:=fun w (h : Rd w 2 (.slice A1 s1.fields.length c1) s1.fields.length (prs s1.fields)) => rstep_any s1 hok1 h8 l[k] A1 c1 w h
     have hone:=fun h3 => wr_one hrun.out h3 h8 hbd hlt
     have hone3:=fun h3 => wr_one3 hrun.out h3 hbd hlt
     have hfl:=wr_fail hrun.out h8 hbd hlt; have hok2:=ok_step hok1 l[k]; have hSs:=hS.out; have hZs:=hZ.out; have hd0 : ∀ w',Below W0.heap.size W0 w' → w'.cell? ⟨b1,o1 + k,none⟩ = some (.int .u8 (l[k].toNat : Int)):=fun w' hb' => by
      have h1:=hB.out.cell (p:=⟨b1,o1 + k,none⟩) hb1; rw [hb'.cell (p:=⟨b1,o1 + k,none⟩) hb1,← h1]; exact d1
     obtain ⟨p1,D1,Z1,L1,T1,lf1,sc1,tx1,fl1,bb1⟩:=s1
     simp only at hbd h8 hone hone3 hok2 hfl hdn hR hO hSt
     subst hbd; unfold RStp at hSt
     unfold sv at hdn hSt
     unfold svC at hdn hSs hSt
     unfold zC at hZs
     simp only at hdn hSs hSt
     generalize Ck.step ⟨p1,D1,Z1,L1,T1,lf1,sc1,tx1,fl1,0⟩ l[k] = s2 at *; generalize l[k] = c at *; replace hdn:=Hj hdn; replace hSt:=Hj hSt; replace hone:=Hj hone; replace hone3:=Hj hone3; replace hfl:=Hj hfl; replace hok2:=Hj hok2; replace hok1:=Hj hok1; replace hd0:=Hj hd0; have q0:=hSs.cell 0; have q1:=hSs.cell 1; have q2:=hSs.cell 2; have q3:=hSs.cell 3; have q4:=hSs.cell 4; have q5:=hSs.cell 5; have q6:=hSs.cell 6; have q7:=hSs.cell 7; have q8:=hSs.cell 8; have q9:=hSs.cell 9; replace h8:=Hj h8; clear x1 r' d1; go_wp2_with fail
     refine (hdn.out _).mono ?_
     rintro e w5 ⟨rfl,hw5⟩
     have hb5 : Below wr.heap.size wr w5:=by rw [hw5]; exact (Below.refl _ _).alloc (Nat.le_refl _) _
     clear hw5; have hS5:=hSs.below hb5; have hZ5:=hZs.below hb5; have hR5:=hR.out.below hb5; have hO5:=own_below hOw.out hb5; have hB5:=Below.next hB.out hB.out.size hb5; have hL5:=hS5.lt; have hL6':=hZ5.lt; have hd5:=hd0.out w5 hB5; have hown5:=fun j (hj : u7.ownBlock = some j) => hO5.lt hj
     clear q0 q1 q2 q3 q4 q5 q6 q7 q8 q9; have q0:=hS5.cell 0; have q1:=hS5.cell 1; have q2:=hS5.cell 2; have q3:=hS5.cell 3; have q4:=hS5.cell 4; have q5:=hS5.cell 5; have q6:=hS5.cell 6; have q7:=hS5.cell 7; have q8:=hS5.cell 8; have q9:=hS5.cell 9; have hK : ∀ w',Below w5.heap.size w5 w' → (Below w5.heap.size w5 w' ∧ w'.cell? ⟨W0.heap.size,0,none⟩ = some (.int .i64 (p1 : Int)) ∧ w'.cell? ⟨W0.heap.size,1,none⟩ = some (.int .i64 (D1 : Int)) ∧ w'.cell? ⟨W0.heap.size,2,none⟩ = some (.int .i64 (Z1 : Int)) ∧ w'.cell? ⟨W0.heap.size,3,none⟩ = some (.int .i64 (L1 : Int)) ∧ w'.cell? ⟨W0.heap.size,4,none⟩ = some (.int .i64 (T1 : Int)) ∧ w'.cell? ⟨W0.heap.size,5,none⟩ = some (.int .i64 (lf1 : Int)) ∧ w'.cell? ⟨W0.heap.size,6,none⟩ = some (.int .i64 (sc1 : Int)) ∧ w'.cell? ⟨W0.heap.size,7,none⟩ = some (.string (str tx1)) ∧ w'.cell? ⟨W0.heap.size,8,none⟩ = some (.slice A1 fl1.length c1) ∧ w'.cell? ⟨W0.heap.size,9,none⟩ = some (.int .i64 ((0 : Nat) : Int)) ∧ w'.cell? ⟨b1,o1 + k,none⟩ = some (.int .u8 (c.toNat : Int))):=fun w' hb' => ⟨hb',(hS5.below hb').cell 0,(hS5.below hb').cell 1,(hS5.below hb').cell 2,(hS5.below hb').cell 3,(hS5.below hb').cell 4,(hS5.below hb').cell 5,(hS5.below hb').cell 6,(hS5.below hb').cell 7,(hS5.below hb').cell 8,(hS5.below hb').cell 9,hd0.out w' (Below.next hB5 hB5.size hb')⟩
     replace hK:=Hj hK; replace hS5:=Hj hS5; replace hZ5:=Hj hZ5; replace hR5:=Hj hR5; replace hO5:=Hj hO5; replace hB5:=Hj hB5; have hF5 : ∀ j,(j = W0.heap.size ∨ j = W0.heap.size + 1 ∨ u7.ownBlock = some j ∨ G j) → j < w5.heap.size:=fun j e => by
      rcases e with e | e | e | e
      ·omega
      ·omega
      ·exact hown5 j e
      ·have:=hGl.out j e; have:=hB5.out.size; omega
     replace hF5:=Hj hF5; clear hown5; clear hb5; go_upto_region 7 with (fail)
     go_cut [9] (fun v9 wx => ∃ (g9 : Nat) (A2 : Option Addr) (c2 : Nat),v9 = .pointer (some ⟨g9,0,none⟩) ∧ w5.heap.size ≤ g9 ∧ Blk wx g9 215 (svC s2 (.slice A2 s2.fields.length c2)) ∧ Rd wx 2 (.slice A2 s2.fields.length c2) s2.fields.length (prs s2.fields) ∧
       (0 < s2.fields.length → Off (fun j => j = W0.heap.size ∨ j = W0.heap.size + 1 ∨ u7.ownBlock = some j ∨ G j) (.slice A2 s2.fields.length c2)) ∧ Below w5.heap.size w5 wx)
     case first =>
      go_wp2_with fail
      go_region_held3 (fun w' => Below w5.heap.size w5 w' ∧ w'.cell? ⟨W0.heap.size,0,none⟩ = some (.int .i64 (p1 : Int)) ∧ w'.cell? ⟨W0.heap.size,1,none⟩ = some (.int .i64 (D1 : Int)) ∧ w'.cell? ⟨W0.heap.size,2,none⟩ = some (.int .i64 (Z1 : Int)) ∧ w'.cell? ⟨W0.heap.size,3,none⟩ = some (.int .i64 (L1 : Int)) ∧ w'.cell? ⟨W0.heap.size,4,none⟩ = some (.int .i64 (T1 : Int)) ∧ w'.cell? ⟨W0.heap.size,5,none⟩ = some (.int .i64 (lf1 : Int)) ∧ w'.cell? ⟨W0.heap.size,6,none⟩ = some (.int .i64 (sc1 : Int)) ∧ w'.cell? ⟨W0.heap.size,7,none⟩ = some (.string (str tx1)) ∧ w'.cell? ⟨W0.heap.size,8,none⟩ = some (.slice A1 fl1.length c1) ∧ w'.cell? ⟨W0.heap.size,9,none⟩ = some (.int .i64 ((0 : Nat) : Int)) ∧ w'.cell? ⟨b1,o1 + k,none⟩ = some (.int .u8 (c.toNat : Int)))
       (first | exact hK.out _ (by first | with_reducible exact Below.refl _ _ | with_reducible exact (Below.refl _ _).drew | with_reducible exact (Below.refl _ _).alloc (Nat.le_refl _) _ | with_reducible exact ((Below.refl _ _).alloc (Nat.le_refl _) _).drew | with_reducible exact ((Below.refl _ _).drew).alloc (Nat.le_refl _) _ | with_reducible exact belowTen (by with_reducible assumption) (Nat.le_refl _) _ _ _ _ _ _ _ _ _ _ | with_reducible exact Below.alloc (by with_reducible assumption) (Below.size (by with_reducible assumption)) _ | with_reducible assumption))
       (first | (go_at_call 199; refine (hSt.out _ (hR5.out.below (by first | with_reducible exact Below.refl _ _ | with_reducible exact (Below.refl _ _).drew | with_reducible exact (Below.refl _ _).alloc (Nat.le_refl _) _ | with_reducible exact ((Below.refl _ _).alloc (Nat.le_refl _) _).drew | with_reducible exact ((Below.refl _ _).drew).alloc (Nat.le_refl _) _ | with_reducible exact belowTen (by with_reducible assumption) (Nat.le_refl _) _ _ _ _ _ _ _ _ _ _ | with_reducible exact Below.alloc (by with_reducible assumption) (Below.size (by with_reducible assumption)) _ | with_reducible assumption))).mono ?_; rintro e w6 ⟨A2,c2,rfl,hr2,hA2,hb6⟩; have hL6:=Below.next (B:=w5.heap.size) (a:=w5) (by first | with_reducible exact Below.refl _ _ | with_reducible exact (Below.refl _ _).drew | with_reducible exact (Below.refl _ _).alloc (Nat.le_refl _) _ | with_reducible exact ((Below.refl _ _).alloc (Nat.le_refl _) _).drew | with_reducible exact ((Below.refl _ _).drew).alloc (Nat.le_refl _) _ | with_reducible exact belowTen (by with_reducible assumption) (Nat.le_refl _) _ _ _ _ _ _ _ _ _ _ | with_reducible exact Below.alloc (by with_reducible assumption) (Below.size (by with_reducible assumption)) _ | with_reducible assumption) (by simp) hb6; have hs6:=hL6.size; (try have p1b:=Blk.below (show Blk ((w5.alloc (.cells #[.int .i64 0,.int .i64 0,.int .i64 0,.int .i64 0,.int .i64 0,.int .i64 0,.int .i64 0,.string ⟨#[]⟩,.slice none 0 0,.int .i64 0] 215)).drew) w5.heap.size 215 #[.int .i64 0,.int .i64 0,.int .i64 0,.int .i64 0,.int .i64 0,.int .i64 0,.int .i64 0,.string ⟨#[]⟩,.slice none 0 0,.int .i64 0] from Blk.new w5 _ _) hb6); (try have m0:=p1b.cell 0); (try have r0:=p1b.frozen 0); (try have m1:=p1b.cell 1); (try have r1:=p1b.frozen 1); (try have m2:=p1b.cell 2); (try have r2:=p1b.frozen 2); (try have m3:=p1b.cell 3); (try have r3:=p1b.frozen 3); (try have m4:=p1b.cell 4); (try have r4:=p1b.frozen 4); (try have m5:=p1b.cell 5); (try have r5:=p1b.frozen 5); (try have m6:=p1b.cell 6); (try have r6:=p1b.frozen 6); (try have m7:=p1b.cell 7); (try have r7:=p1b.frozen 7); (try have m8:=p1b.cell 8); (try have r8:=p1b.frozen 8); (try have m9:=p1b.cell 9); (try have r9:=p1b.frozen 9);  have hoff2:=off_keep (F:=fun j => j = W0.heap.size ∨ j = W0.heap.size + 1 ∨ u7.ownBlock = some j ∨ G j) (w5:=w5) hO.out hF5.out (Below.size (B:=w5.heap.size) (w:=w5) (by first | with_reducible exact Below.refl _ _ | with_reducible exact (Below.refl _ _).drew | with_reducible exact (Below.refl _ _).alloc (Nat.le_refl _) _ | with_reducible exact ((Below.refl _ _).alloc (Nat.le_refl _) _).drew | with_reducible exact ((Below.refl _ _).drew).alloc (Nat.le_refl _) _ | with_reducible exact belowTen (by with_reducible assumption) (Nat.le_refl _) _ _ _ _ _ _ _ _ _ _ | with_reducible exact Below.alloc (by with_reducible assumption) (Below.size (by with_reducible assumption)) _ | with_reducible assumption)) hA2; (try have hoff1:=off_alloc hR5.out hA2); clear hA2 hb6))
      all_goals
       go_wp2_with fail
       go_meet; refine ⟨_,A2,c2,rfl,?_,?_,?_,hoff2,?_⟩
       ·first | exact Nat.le_refl _ | exact hs6
       ·unfold svC; first | with_reducible exact Blk.new w6 _ _ | with_reducible exact setTen p1b _ _ _ _ _ _ _ _ _ _
       ·have hk6:=kpTen (F:=(· = w5.heap.size)) (Kp.refl (· = w5.heap.size) w6) (g:=w5.heap.size) rfl
        first | exact Rd.kp0 hr2 hoff1 (hk6 _ _ _ _ _ _ _ _ _ _) | exact Rd.below hr2 ((Below.refl w6.heap.size w6).alloc (Nat.le_refl _) _)
       ·first | with_reducible exact hL6.alloc hs6 _ | with_reducible exact belowTen hL6 (Nat.le_refl _) _ _ _ _ _ _ _ _ _ _
     case rest =>
      obtain ⟨g9,A2,c2,rfl,hg9,hb9,hr2,hoff2,hBx⟩:=hcut
      rename World => wx
      have hSx:=hS5.out.below hBx; have hZx:=hZ5.out.below hBx; have hOx:=own_below hO5.out hBx; have hBy:=Below.next hB5.out hB5.out.size hBx; have hg9l:=hb9.lt; have hpl2 : (p1 = 3 ∨ p1 ≠ 3):=Decidable.em _
      obtain ⟨p2,D2,Z2,L2,T2,lf2,sc2,tx2,fl2,bb2⟩:=s2
      unfold svC at hb9
      simp only at hone hone3 hfl hok2 hb9 hr2 hoff2
      have e0:=hb9.cell 0; have e1:=hb9.cell 1; have e2:=hb9.cell 2; have e3:=hb9.cell 3; have e4:=hb9.cell 4; have e5:=hb9.cell 5; have e6:=hb9.cell 6; have e7:=hb9.cell 7; have e8:=hb9.cell 8; have e9:=hb9.cell 9; have z0:=hZx.cell 0; have y0:=hZx.frozen 0; have z1:=hZx.cell 1; have y1:=hZx.frozen 1; have z2:=hZx.cell 2; have y2:=hZx.frozen 2; have z3:=hZx.cell 3; have y3:=hZx.frozen 3; have z4:=hZx.cell 4; have y4:=hZx.frozen 4; have z5:=hZx.cell 5; have y5:=hZx.frozen 5; have z6:=hZx.cell 6; have y6:=hZx.frozen 6; have z7:=hZx.cell 7; have y7:=hZx.frozen 7; have z8:=hZx.cell 8; have y8:=hZx.frozen 8; have z9:=hZx.cell 9; have y9:=hZx.frozen 9; have q0:=hSx.cell 0; have o0:=hSx.frozen 0; have q1:=hSx.cell 1; have o1:=hSx.frozen 1; have q2:=hSx.cell 2; have o2:=hSx.frozen 2; have q3:=hSx.cell 3; have o3:=hSx.frozen 3; have q4:=hSx.cell 4; have o4:=hSx.frozen 4; have q5:=hSx.cell 5; have o5:=hSx.frozen 5; have q6:=hSx.cell 6; have o6:=hSx.frozen 6; have q7:=hSx.cell 7; have o7:=hSx.frozen 7; have q8:=hSx.cell 8; have o8:=hSx.frozen 8; have q9:=hSx.cell 9; have o9:=hSx.frozen 9; replace hSx:=Hj hSx; replace hZx:=Hj hZx; replace hOx:=Hj hOx; replace hBy:=Hj hBy; replace hb9:=Hj hb9; replace hr2:=Hj hr2; replace hoff2:=Hj hoff2; replace hBx:=Hj hBx; by_cases hbb : bb2 = 0
      ·have qb : ((bb2 : Int) != 0) = false:=by rw [hbb]; rfl
       have hkG:=kpTen (F:=(· = W0.heap.size)) (Kp.refl (· = W0.heap.size) wx) (g:=W0.heap.size) rfl; rcases hpl2 with rfl | h3
       ·have hru:=hone3.out rfl hbb
        have hok3:=hok2.out hbb; replace hbb:=Hj hbb; replace hru:=Hj hru; replace hok3:=Hj hok3; clear hkG; obtain ⟨Au,cu,rfl,-,-,-⟩:=Rd.own hOx.out
        have hBs:=hBy.out.size; have hsx:=hBx.out.size; have hAuG : ∀ j,(Value.slice Au out.length cu).ownBlock = some j → W0.heap.size + 2 ≤ j ∧ j < w5.heap.size:=fun j hj => ⟨(World.ownsRow.lt hOx.out j hj).1,hF5.out j (.inr (.inr (.inl hj)))⟩
        replace hAuG:=Hj hAuG; clear e0 z0 y0 q0 o0 e1 z1 y1 q1 o1 e2 z2 y2 q2 o2 e3 z3 y3 q3 o3 e4 z4 y4 q4 o4 e5 z5 y5 q5 o5 e6 z6 y6 q6 o6 e7 z7 y7 q7 o7 e8 z8 y8 q8 o8 e9 z9 y9 q9 o9; have e0:=hb9.out.cell 0; have e1:=hb9.out.cell 1; have e2:=hb9.out.cell 2; have e3:=hb9.out.cell 3; have e4:=hb9.out.cell 4; have e5:=hb9.out.cell 5; have e6:=hb9.out.cell 6; have e7:=hb9.out.cell 7; have e8:=hb9.out.cell 8; have e9:=hb9.out.cell 9; have qp:=hSx.out.cell 0; have dx:=hd0.out wx hBy.out
        go_wp2_with (at_builtin; go_loud (refine pushB_u8 (v:=Value.slice Au out.length cu) (n:=out.length) (xs:=u8s out) (B:=W0.heap.size + 2) _ _ rfl rfl rfl hOx.out rfl rfl (by omega) (by omega) ?_); intro v8 w8 ho8 hg8 hat8; obtain ⟨A8,c8,rfl,-,-,-⟩:=Rd.own ho8; have hk8:=Hj (((Kp.refl (fun j => (Value.slice Au out.length cu).ownBlock = some j) wx).alloc _).grown hg8 (fun j hj _ => hj)); have hS8:=Hj (hSx.out.kp (fun e => by have:=hAuG.out _ e; omega) hk8.out); have hZ8:=Hj (hZx.out.kp (fun e => by have:=hAuG.out _ e; omega) hk8.out); have hb98:=Hj (hb9.out.kp (fun e => by have:=hAuG.out _ e; omega) hk8.out); replace ho8:=Hj ho8; replace hat8:=Hj hat8; clear hg8 qp e0 e1 e2 e3 e4 e5 e6 e7 e8 e9; have e0:=hb98.out.cell 0; have q0:=hS8.out.cell 0; have o0:=hS8.out.frozen 0; have e1:=hb98.out.cell 1; have q1:=hS8.out.cell 1; have o1:=hS8.out.frozen 1; have e2:=hb98.out.cell 2; have q2:=hS8.out.cell 2; have o2:=hS8.out.frozen 2; have e3:=hb98.out.cell 3; have q3:=hS8.out.cell 3; have o3:=hS8.out.frozen 3; have e4:=hb98.out.cell 4; have q4:=hS8.out.cell 4; have o4:=hS8.out.frozen 4; have e5:=hb98.out.cell 5; have q5:=hS8.out.cell 5; have o5:=hS8.out.frozen 5; have e6:=hb98.out.cell 6; have q6:=hS8.out.cell 6; have o6:=hS8.out.frozen 6; have e7:=hb98.out.cell 7; have q7:=hS8.out.cell 7; have o7:=hS8.out.frozen 7; have e8:=hb98.out.cell 8; have q8:=hS8.out.cell 8; have o8:=hS8.out.frozen 8; have e9:=hb98.out.cell 9; have q9:=hS8.out.cell 9; have o9:=hS8.out.frozen 9; skip)
        have hkG:=kpTen (F:=(· = W0.heap.size)) (Kp.refl (· = W0.heap.size) w8) (g:=W0.heap.size) rfl; go_roundw
        case rel =>
         refine ⟨k + 1,⟨p2,D2,Z2,L2,T2,lf2,sc2,tx2,fl2,bb2⟩,out ++ [c],A2,c2,by go_num,by omega,by rw [List.length_append,List.length_singleton]; omega,hru,Hj (fun _ => hok3.out),?_,?_,?_,?_,?_,?_⟩
         ·exact Hj (setTen hS8.out _ _ _ _ _ _ _ _ _ _)
         ·exact Hj (Blk.kp hZ8.out (fun e => by omega) (hkG _ _ _ _ _ _ _ _ _ _))
         ·refine Hj (Rd.kp0 (Rd.kp0 hr2.out (fun h0 j hj e => hoff2.out h0 j hj (.inr (.inr (.inl e)))) hk8.out) (fun h0 j hj e => hoff2.out h0 j hj (.inl e)) (hkG _ _ _ _ _ _ _ _ _ _))
         ·refine Hj (fun h0 j hj e => ?_)
          rcases e with e | e | e | e
          ·exact hoff2.out h0 j hj (.inl e)
          ·exact hoff2.out h0 j hj (.inr (.inl e))
          rotate_left
          ·exact hoff2.out h0 j hj (.inr (.inr (.inr e)))
          ·rcases hat8.out with h1 | h1
           ·exact hoff2.out h0 j hj (.inr (.inr (.inl (by rw [← h1]; exact e))))
           ·rw [h1] at e; injection e with e
            have:=Rd.lt0 hr2.out h0 j hj
            omega
         ·rw [u8s_snoc,List.length_append,List.length_singleton]
          exact Hj (Own.kp ho8.out (fun j hj e => by have:=(World.ownsRow.lt ho8.out j hj).1; omega) (hkG _ _ _ _ _ _ _ _ _ _))
         ·exact Hj (belowTen (hBy.out.trans (hk8.out.toBelow (by omega) (fun j e => by have:=hAuG.out j e; omega))) (Nat.le_refl _) _ _ _ _ _ _ _ _ _ _)
        case measure => simp only [intOf]; omega
       ·have q3 : ((p1 : Int) == 3) = false:=beq_cast_false h3
        have hru:=hone.out h3 hbb; have hok3:=hok2.out hbb; replace hbb:=Hj hbb; replace h3:=Hj h3; replace hru:=Hj hru; replace hok3:=Hj hok3; go_wp2; go_roundw
        case rel =>
         refine ⟨k + 1,⟨p2,D2,Z2,L2,T2,lf2,sc2,tx2,fl2,bb2⟩,out,A2,c2,by go_num,by omega,by omega,hru,Hj (fun _ => hok3.out),?_,?_,?_,?_,?_,?_⟩
         ·exact Hj (setTen hSx.out _ _ _ _ _ _ _ _ _ _)
         ·exact Hj (Blk.kp hZx.out (fun e => by omega) (hkG _ _ _ _ _ _ _ _ _ _))
         ·exact Hj (Rd.kp0 hr2.out (fun h0 j hj e => hoff2.out h0 j hj (.inl e)) (hkG _ _ _ _ _ _ _ _ _ _))
         ·exact hoff2
         ·exact Hj (Own.kp hOx.out (fun j hj e => by have:=(World.ownsRow.lt hOx.out j hj).1; omega) (hkG _ _ _ _ _ _ _ _ _ _))
         ·exact Hj (belowTen hBy.out (Nat.le_refl _) _ _ _ _ _ _ _ _ _ _)
        case measure => simp only [intOf]; omega
      ·have qb : ((bb2 : Int) != 0) = true:=by rw [bne_iff_ne]; omega
       have hall:=Hj (hfl.out hbb); replace hbb:=Hj hbb; go_wp2; have hk:=kpTen (F:=(· = W0.heap.size + 1)) (Kp.refl (· = W0.heap.size + 1) wx) (g:=W0.heap.size + 1) rfl; exact ret_ctt rfl rfl rfl (setTen hZx.out _ _ _ _ _ _ _ _ _ _) Tryz.underlying215 rfl (by kernel_rfl) ⟨A2,c2,_,by rw [hall.out]; rfl,by rw [hall.out]; exact Rd.kp0 hr2.out (fun h0 j hj e => hoff2.out h0 j hj (.inr (.inl e))) (hk _ _ _ _ _ _ _ _ _ _),by rw [hall.out]; exact Own.base (Own.kp hOx.out (fun j hj e => by have:=(World.ownsRow.lt hOx.out j hj).1; omega) (hk _ _ _ _ _ _ _ _ _ _)) (by omega),belowTen hBy.out (by omega) _ _ _ _ _ _ _ _ _ _,by rw [hall.out]; exact fun h0 j hj e => hoff2.out h0 j hj (.inr (.inr (.inr e)))⟩
   ·have hall:=Hj (wr_all hrun.out (.inl hbd))
    have hSs:=hS.out; have hZs:=hZ.out; obtain ⟨p1,D1,Z1,L1,T1,lf1,sc1,tx1,fl1,bb1⟩:=s1
    unfold svC at hSs
    unfold zC at hZs
    simp only at hbd hSs hR hO
    have qb : ((bb1 : Int) != 0) = true:=by rw [bne_iff_ne]; omega
    have s0:=hSs.cell 0; have s1:=hSs.cell 1; have s2:=hSs.cell 2; have s3:=hSs.cell 3; have s4:=hSs.cell 4; have s5:=hSs.cell 5; have s6:=hSs.cell 6; have s7:=hSs.cell 7; have s8:=hSs.cell 8; have s9:=hSs.cell 9; have z0:=hZs.cell 0; have y0:=hZs.frozen 0; have z1:=hZs.cell 1; have y1:=hZs.frozen 1; have z2:=hZs.cell 2; have y2:=hZs.frozen 2; have z3:=hZs.cell 3; have y3:=hZs.frozen 3; have z4:=hZs.cell 4; have y4:=hZs.frozen 4; have z5:=hZs.cell 5; have y5:=hZs.frozen 5; have z6:=hZs.cell 6; have y6:=hZs.frozen 6; have z7:=hZs.cell 7; have y7:=hZs.frozen 7; have z8:=hZs.cell 8; have y8:=hZs.frozen 8; have z9:=hZs.cell 9; have y9:=hZs.frozen 9; replace hbd:=Hj hbd; replace hSs:=Hj hSs; replace hZs:=Hj hZs; clear x1 r' d1; go_wp2; have hk:=kpTen (F:=(· = W0.heap.size + 1)) (Kp.refl (· = W0.heap.size + 1) wr) (g:=W0.heap.size + 1) rfl; exact ret_ctt rfl rfl rfl (setTen hZs.out _ _ _ _ _ _ _ _ _ _) Tryz.underlying215 rfl (by kernel_rfl) ⟨A1,c1,_,by rw [hall.out]; rfl,by rw [hall.out]; exact Rd.kp0 hR.out (fun h0 j hj e => hO.out h0 j hj (.inr (.inl e))) (hk _ _ _ _ _ _ _ _ _ _),by rw [hall.out]; exact Own.base (Own.kp hOw.out (fun j hj e => by have:=(World.ownsRow.lt hOw.out j hj).1; omega) (hk _ _ _ _ _ _ _ _ _ _)) (by omega),belowTen hB.out (by omega) _ _ _ _ _ _ _ _ _ _,by rw [hall.out]; exact fun h0 j hj e => hO.out h0 j hj (.inr (.inr (.inr e)))⟩
  ·obtain rfl : k = l.length:=by omega
   rw [List.take_length] at hrun
   have hall:=hrun; have hSs:=hS.out; have hZs:=hZ.out; obtain ⟨p1,D1,Z1,L1,T1,lf1,sc1,tx1,fl1,bb1⟩:=s1
   unfold svC at hSs
   unfold zC at hZs
   simp only at hSs hR hO
   have s0:=hSs.cell 0; have s1:=hSs.cell 1; have s2:=hSs.cell 2; have s3:=hSs.cell 3; have s4:=hSs.cell 4; have s5:=hSs.cell 5; have s6:=hSs.cell 6; have s7:=hSs.cell 7; have s8:=hSs.cell 8; have s9:=hSs.cell 9; have z0:=hZs.cell 0; have y0:=hZs.frozen 0; have z1:=hZs.cell 1; have y1:=hZs.frozen 1; have z2:=hZs.cell 2; have y2:=hZs.frozen 2; have z3:=hZs.cell 3; have y3:=hZs.frozen 3; have z4:=hZs.cell 4; have y4:=hZs.frozen 4; have z5:=hZs.cell 5; have y5:=hZs.frozen 5; have z6:=hZs.cell 6; have y6:=hZs.frozen 6; have z7:=hZs.cell 7; have y7:=hZs.frozen 7; have z8:=hZs.cell 8; have y8:=hZs.frozen 8; have z9:=hZs.cell 9; have y9:=hZs.frozen 9; replace hSs:=Hj hSs; replace hZs:=Hj hZs; go_wp2; have hk:=kpTen (F:=(· = W0.heap.size + 1)) (Kp.refl (· = W0.heap.size + 1) wr) (g:=W0.heap.size + 1) rfl; exact ret_ctt rfl rfl rfl (setTen hZs.out _ _ _ _ _ _ _ _ _ _) Tryz.underlying215 rfl (by kernel_rfl) ⟨A1,c1,_,by rw [hall.out]; rfl,by rw [hall.out]; exact Rd.kp0 hR.out (fun h0 j hj e => hO.out h0 j hj (.inr (.inl e))) (hk _ _ _ _ _ _ _ _ _ _),by rw [hall.out]; exact Own.base (Own.kp hOw.out (fun j hj e => by have:=(World.ownsRow.lt hOw.out j hj).1; omega) (hk _ _ _ _ _ _ _ _ _ _)) (by omega),belowTen hB.out (by omega) _ _ _ _ _ _ _ _ _ _,by rw [hall.out]; exact fun h0 j hj e => hO.out h0 j hj (.inr (.inr (.inr e)))⟩
end Go.Proofs.YtibcbaghgpemfaaGreatDoor
