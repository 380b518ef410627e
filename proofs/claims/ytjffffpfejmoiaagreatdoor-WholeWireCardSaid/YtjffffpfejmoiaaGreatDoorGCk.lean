import Derived.Test.YtjffffpfejmoiaaGreatDoorGByt
import Derived.Test.YtjffffpfejmoiaaGreatDoorGLow
import Derived.Lib.SlBytesConst
import Derived.Lib.SmallJoins
namespace Go.Proofs.YtjffffpfejmoiaaGreatDoor
open Go.RowKit Syn Ck
namespace Ck
def cells (p l d z t : Int) (vt : Value) (ca : Bool) (tr : Int) (vf ev : Value) : Array Value :=
 #[.int .i64 p,.int .i64 l,.int .i64 d,.int .i64 z,.int .i64 t,vt,.bool ca,.int .i64 tr,vf,ev]
def cp : Nat → Int
 | 0 => 0
 | 1 => 2
 | 2 => 1
 | 3 => 3
 | 4 => 4
 | 5 => 5
 | 6 => 6
 | 7 => 6
 | _ => 7
theorem cp_le {p : Nat} (h : p ≤ 7) : cp p ≠ 7:=by
 rcases p with _ | _ | _ | _ | _ | _ | _ | _ | p <;> first | decide | omega
end Ck
namespace Ck
def hexI (c : UInt8) : Int:=match hexv c with | none => -1 | some n => (n : Int)
theorem hexI_none {c : UInt8} (h : hexv c = none) : hexI c = -1:=by unfold hexI; rw [h]
theorem hexI_some {c : UInt8} {n : Nat} (h : hexv c = some n) : hexI c = (n : Int):=by unfold hexI; rw [h]
end Ck
set_option maxHeartbeats 2000000 in
theorem digit_any (c : UInt8) (w : World) :
  Calls Tryz.prog 126 #[.int .u8 (c.toNat : Int)] w fun e w' => e = .returned (.int .i64 (hexI c)) ∧ w' = w:=by
 have key : (48 ≤ c.toNat ∧ c.toNat ≤ 57) ∨ (97 ≤ c.toNat ∧ c.toNat ≤ 102) ∨ (65 ≤ c.toNat ∧ c.toNat ≤ 70) ∨ c.toNat < 48 ∨ (57 < c.toNat ∧ c.toNat < 65) ∨ (70 < c.toNat ∧ c.toNat < 97) ∨ 102 < c.toNat:=by omega
 have hc:=c.toNat_lt; rcases key with h | h | h | h | h | h | h
 ·have e:=Hj (show hexv c = some (c.toNat - 48) by unfold hexv; rw [if_pos h])
  have e2 : hexI c = (c.toNat : Int) - 48:=by rw [hexI_some e.out]; omega
  obtain ⟨h1,h2⟩:=h
  rw [e2]; clear e2
  go_enter Tryz.func126,Tryz.ntmps126
  go_wp2; go_ret; exact ⟨by first | rfl | exact congrArg (fun z => Ending.returned (.int .i64 z)) (by omega),rfl⟩
 ·have e:=Hj (show hexv c = some (c.toNat - 87) by unfold hexv; rw [if_neg (by omega),if_pos h])
  have e2 : hexI c = (c.toNat : Int) - 87:=by rw [hexI_some e.out]; omega
  obtain ⟨h1,h2⟩:=h
  rw [e2]; clear e2
  go_enter Tryz.func126,Tryz.ntmps126
  go_wp2; go_ret; exact ⟨by first | rfl | exact congrArg (fun z => Ending.returned (.int .i64 z)) (by omega),rfl⟩
 ·have e:=Hj (show hexv c = some (c.toNat - 55) by unfold hexv; rw [if_neg (by omega),if_neg (by omega),if_pos h])
  have e2 : hexI c = (c.toNat : Int) - 55:=by rw [hexI_some e.out]; omega
  obtain ⟨h1,h2⟩:=h
  rw [e2]; clear e2
  go_enter Tryz.func126,Tryz.ntmps126
  go_wp2; go_ret; exact ⟨by first | rfl | exact congrArg (fun z => Ending.returned (.int .i64 z)) (by omega),rfl⟩
 ·have e:=Hj (show hexv c = none by unfold hexv; rw [if_neg (by omega),if_neg (by omega),if_neg (by omega)])
  have e2 : hexI c = -1:=hexI_none e.out
  rw [e2]; clear e2
  go_enter Tryz.func126,Tryz.ntmps126
  go_wp2; go_ret; exact ⟨by first | rfl | exact congrArg (fun z => Ending.returned (.int .i64 z)) (by omega),rfl⟩
 ·have e:=Hj (show hexv c = none by unfold hexv; rw [if_neg (by omega),if_neg (by omega),if_neg (by omega)])
  have e2 : hexI c = -1:=hexI_none e.out
  obtain ⟨h1,h2⟩:=h
  rw [e2]; clear e2
  go_enter Tryz.func126,Tryz.ntmps126
  go_wp2; go_ret; exact ⟨by first | rfl | exact congrArg (fun z => Ending.returned (.int .i64 z)) (by omega),rfl⟩
 ·have e:=Hj (show hexv c = none by unfold hexv; rw [if_neg (by omega),if_neg (by omega),if_neg (by omega)])
  have e2 : hexI c = -1:=hexI_none e.out
  obtain ⟨h1,h2⟩:=h
  rw [e2]; clear e2
  go_enter Tryz.func126,Tryz.ntmps126
  go_wp2; go_ret; exact ⟨by first | rfl | exact congrArg (fun z => Ending.returned (.int .i64 z)) (by omega),rfl⟩
 ·have e:=Hj (show hexv c = none by unfold hexv; rw [if_neg (by omega),if_neg (by omega),if_neg (by omega)])
  have e2 : hexI c = -1:=hexI_none e.out
  rw [e2]; clear e2
  go_enter Tryz.func126,Tryz.ntmps126
  go_wp2; go_ret; exact ⟨by first | rfl | exact congrArg (fun z => Ending.returned (.int .i64 z)) (by omega),rfl⟩
set_option maxHeartbeats 1000000 in
theorem ckcontrol_any (c : UInt8) (w : World) :
  Calls Tryz.prog 125 #[.int .u8 (c.toNat : Int)] w fun e w' => e = .returned (.bool (ctl c)) ∧ w' = w:=by
 have key : c.toNat < 32 ∧ c.toNat ≠ 9 ∨ c.toNat = 9 ∨ c.toNat = 127 ∨ (32 ≤ c.toNat ∧ c.toNat ≠ 127):=by omega
 rcases key with h | h | h | h
 ·have e : ctl c = true:=by unfold ctl ctlN; simp [h.1,h.2]
  rw [e]; clear e
  have h0:=h.1; have h1 : ((c.toNat : Int) != 9) = true:=by rw [bne_iff_ne]; have:=h.2; omega
  clear h; go_enter Tryz.func125,Tryz.ntmps125
  go_wp2; go_ret; exact ⟨rfl,rfl⟩
 ·have e : ctl c = false:=by unfold ctl ctlN; simp [h]
  rw [e]; clear e
  have h1 : (c.toNat : Int) = 9:=by omega
  go_enter Tryz.func125,Tryz.ntmps125
  go_wp2; go_ret; exact ⟨rfl,rfl⟩
 ·have e : ctl c = true:=by unfold ctl ctlN; simp [h]
  rw [e]; clear e
  have h1:=beq_cast_false (show c.toNat ≠ 9 by omega); have h2:=beq_cast_true h; go_enter Tryz.func125,Tryz.ntmps125
  go_wp2; go_ret; exact ⟨rfl,rfl⟩
 ·have e : ctl c = false:=by unfold ctl ctlN; simp; omega
  rw [e]; clear e
  have h0:=h.1; have h1:=beq_cast_false h.2; have h2 : ((c.toNat : Int) == 127) = false:=h1
  go_enter Tryz.func125,Tryz.ntmps125
  go_wp2; go_ret; exact ⟨rfl,rfl⟩
set_option maxHeartbeats 4000000 in
theorem forbidden_any (n : List UInt8) (w : World) :
  Calls Tryz.prog 66 #[.string (str n)] w fun e w' => e = .returned (.bool (forb n)) ∧ w' = w:=by
 have no : ∀ x : List UInt8,n ≠ x → ((str n).toList == x) = false:=fun x h => by rw [str_toList]; exact beq_eq_false_iff_ne.2 h
 by_cases h0 : n = [97,117,116,104,111,114,105,122,97,116,105,111,110]
 ·have e : forb n = true:=by rw [h0]; decide
  have q0 : ((str n).toList == [97,117,116,104,111,114,105,122,97,116,105,111,110]) = true:=by rw [str_toList,h0]; decide
  rw [e]
  generalize str n = s at *; clear e no h0; go_enter Tryz.func66,Tryz.ntmps66
  go_wp2; go_ret; exact ⟨rfl,rfl⟩
 have q0 : ((str n).toList == [97,117,116,104,111,114,105,122,97,116,105,111,110]) = false:=no _ h0
 by_cases h1 : n = [99,97,99,104,101,45,99,111,110,116,114,111,108]
 ·have e : forb n = true:=by rw [h1]; decide
  have q1 : ((str n).toList == [99,97,99,104,101,45,99,111,110,116,114,111,108]) = true:=by rw [str_toList,h1]; decide
  rw [e]
  generalize str n = s at *; clear e no h1; go_enter Tryz.func66,Tryz.ntmps66
  go_wp2; go_ret; exact ⟨rfl,rfl⟩
 have q1 : ((str n).toList == [99,97,99,104,101,45,99,111,110,116,114,111,108]) = false:=no _ h1
 by_cases h2 : n = [99,111,110,116,101,110,116,45,108,101,110,103,116,104]
 ·have e : forb n = true:=by rw [h2]; decide
  have q2 : ((str n).toList == [99,111,110,116,101,110,116,45,108,101,110,103,116,104]) = true:=by rw [str_toList,h2]; decide
  rw [e]
  generalize str n = s at *; clear e no h2; go_enter Tryz.func66,Tryz.ntmps66
  go_wp2; go_ret; exact ⟨rfl,rfl⟩
 have q2 : ((str n).toList == [99,111,110,116,101,110,116,45,108,101,110,103,116,104]) = false:=no _ h2
 by_cases h3 : n = [104,111,115,116]
 ·have e : forb n = true:=by rw [h3]; decide
  have q3 : ((str n).toList == [104,111,115,116]) = true:=by rw [str_toList,h3]; decide
  rw [e]
  generalize str n = s at *; clear e no h3; go_enter Tryz.func66,Tryz.ntmps66
  go_wp2; go_ret; exact ⟨rfl,rfl⟩
 have q3 : ((str n).toList == [104,111,115,116]) = false:=no _ h3
 by_cases h4 : n = [115,101,116,45,99,111,111,107,105,101]
 ·have e : forb n = true:=by rw [h4]; decide
  have q4 : ((str n).toList == [115,101,116,45,99,111,111,107,105,101]) = true:=by rw [str_toList,h4]; decide
  rw [e]
  generalize str n = s at *; clear e no h4; go_enter Tryz.func66,Tryz.ntmps66
  go_wp2; go_ret; exact ⟨rfl,rfl⟩
 have q4 : ((str n).toList == [115,101,116,45,99,111,111,107,105,101]) = false:=no _ h4
 by_cases h5 : n = [116,114,97,105,108,101,114]
 ·have e : forb n = true:=by rw [h5]; decide
  have q5 : ((str n).toList == [116,114,97,105,108,101,114]) = true:=by rw [str_toList,h5]; decide
  rw [e]
  generalize str n = s at *; clear e no h5; go_enter Tryz.func66,Tryz.ntmps66
  go_wp2; go_ret; exact ⟨rfl,rfl⟩
 have q5 : ((str n).toList == [116,114,97,105,108,101,114]) = false:=no _ h5
 by_cases h6 : n = [116,114,97,110,115,102,101,114,45,101,110,99,111,100,105,110,103]
 ·have e : forb n = true:=by rw [h6]; decide
  have q6 : ((str n).toList == [116,114,97,110,115,102,101,114,45,101,110,99,111,100,105,110,103]) = true:=by rw [str_toList,h6]; decide
  rw [e]
  generalize str n = s at *; clear e no h6; go_enter Tryz.func66,Tryz.ntmps66
  go_wp2; go_ret; exact ⟨rfl,rfl⟩
 have q6 : ((str n).toList == [116,114,97,110,115,102,101,114,45,101,110,99,111,100,105,110,103]) = false:=no _ h6
 have e : forb n = false:=by
  unfold forb
  rw [decide_eq_false_iff_not]
  intro hm; simp only [forbiddens,List.mem_cons,List.not_mem_nil,or_false] at hm
  rcases hm with h | h | h | h | h | h | h
  ·exact h0 h
  ·exact h1 h
  ·exact h2 h
  ·exact h3 h
  ·exact h4 h
  ·exact h5 h
  ·exact h6 h
 rw [e]
 generalize str n = s at *; clear e no h0 h1 h2 h3 h4 h5 h6; go_enter Tryz.func66,Tryz.ntmps66
 go_wp2; go_ret; exact ⟨rfl,rfl⟩
end Go.Proofs.YtjffffpfejmoiaaGreatDoor
namespace Go.Proofs.YtjffffpfejmoiaaGreatDoor
open Go.RowKit Syn Ck
namespace Ck
def Fits (s : St) (p l d z t : Int) : Prop :=
 p = cp s.place ∧ (s.place ≤ 2 → l = s.line ∧ d = s.digits ∧ z = s.number ∧ t = s.total) ∧ (s.place = 3 → z = s.left ∧ t = s.total + s.left) ∧ (s.place = 4 ∨ s.place = 5 → z = 0 ∧ t = s.total)
def Aft (g : Nat) (w w' : World) (s : St) (vt : Value) (ca : Bool) (tr : Int) (vf : Value) : Prop :=
 Kp (· = g) w w' ∧ ∃ p l d z t,Blk w' g 137 (cells p l d z t vt ca tr vf .nilIface) ∧ p ≠ 7 ∧ (s.bad = 0 → Fits s p l d z t)
end Ck
set_option maxHeartbeats 4000000 in
theorem inline_any {g : Nat} {w : World} (s : St) (h : Ok s) (hp : s.place ≤ 1) (c : UInt8) {p l d z t : Int} (hf : Fits s p l d z t) (vt vf : Value) (ca : Bool) (tr : Int) (hb : Blk w g 137 (cells p l d z t vt ca tr vf .nilIface)) :
  Calls Tryz.prog 103 #[.pointer (some ⟨g,0,none⟩),.int .u8 (c.toNat : Int)] w fun e w' => e = .returned (errV (sized s c).bad) ∧ Aft g w w' (sized s c) vt ca tr vf:=by
 obtain ⟨hf1,hf2,-,-⟩:=hf
 obtain ⟨rfl,rfl,rfl,rfl⟩:=hf2 (by omega)
 subst hf1; have hl:=h.line; have hdg:=h.digits; have hz:=h.size (by omega); have hbd:=h.bad; have c0:=hb.cell 0; have c1:=hb.cell 1; have c2:=hb.cell 2; have c3:=hb.cell 3; have c4:=hb.cell 4; have f0:=hb.frozen 0; have f1:=hb.frozen 1; have f2:=hb.frozen 2; have f3:=hb.frozen 3; have f4:=hb.frozen 4; simp only [cells] at c0 c1 c2 c3 c4
 have Hb:=Hj hb; clear hb; obtain ⟨pl,D,Z,L,T,lf,sc,tx,fl,bd⟩:=s
 simp only at hp hl hdg hz hbd c0 c1 c2 c3 c4 Hb ⊢
 subst hbd; clear h; have h8 : D ≠ 8 → D < 8:=fun e => by omega
 have key : (c.toNat = 13 ∧ 0 < D) ∨ (¬ (c.toNat = 13 ∧ 0 < D) ∧ L = 256) ∨ (¬ (c.toNat = 13 ∧ 0 < D) ∧ L < 256):=by omega
 have kp : pl = 0 ∨ pl = 1:=by omega
 rcases key with ⟨k1,k2⟩ | ⟨k1,k2⟩ | ⟨k1,k2⟩
 ·have q : ((c.toNat : Int) == 13) = true:=beq_cast_true k1
  have hs : Hid (sized ⟨pl,D,Z,L,T,lf,sc,tx,fl,0⟩ c = ⟨2,D,Z,L,T,lf,sc,tx,fl,0⟩):=Hj (by unfold sized; dsimp only; rw [if_pos ⟨k1,k2⟩])
  rw [hs.out]
  replace k1:=Hj k1; go_enter Tryz.func103,Tryz.ntmps103
  go_wp2; go_ret; exact ⟨rfl,((Kp.refl (· = g) w).set_ (fun _ => rfl) 0 (.int .i64 1)),1,L,D,Z,T,(Hb.out.set_ 0 (.int .i64 1)),by decide,fun _ => ⟨rfl,fun _ => ⟨rfl,rfl,rfl,rfl⟩,fun e => absurd e (by simp),fun e => absurd e (by simp)⟩⟩
 ·subst k2
  have k3 : c.toNat ≠ 13 ∨ (c.toNat = 13 ∧ D = 0):=by omega
  rcases k3 with k3 | ⟨k3,k4⟩
  ·have q : ((c.toNat : Int) == 13) = false:=beq_cast_false k3
   have hs : Hid (sized ⟨pl,D,Z,256,T,lf,sc,tx,fl,0⟩ c = ⟨pl,D,Z,256,T,lf,sc,tx,fl,33⟩):=Hj (by unfold sized; dsimp only; rw [if_neg k1]; rfl)
   rw [hs.out]
   have hcp:=Hj (cp_le (p:=pl) (by omega)); replace k1:=Hj k1; replace k3:=Hj k3; go_enter Tryz.func103,Tryz.ntmps103
   go_wp2; go_ret; exact ⟨rfl,(Kp.refl (· = g) w),_,_,_,_,_,Hb.out,hcp.out,fun e => absurd e (by simp)⟩
  ·have q : ((c.toNat : Int) == 13) = true:=beq_cast_true k3
   subst k4; have hs : Hid (sized ⟨pl,0,Z,256,T,lf,sc,tx,fl,0⟩ c = ⟨pl,0,Z,256,T,lf,sc,tx,fl,33⟩):=Hj (by unfold sized; dsimp only; rw [if_neg k1]; rfl)
   rw [hs.out]
   have hcp:=Hj (cp_le (p:=pl) (by omega)); replace k1:=Hj k1; replace k3:=Hj k3; go_enter Tryz.func103,Tryz.ntmps103
   go_wp2; go_ret; exact ⟨rfl,(Kp.refl (· = g) w),_,_,_,_,_,Hb.out,hcp.out,fun e => absurd e (by simp)⟩
 ·have kl : L ≠ 256:=by omega
  rcases kp with rfl | rfl
  ·rw [show cp 0 = 0 from rfl] at c0 Hb
   have k3 : c.toNat ≠ 13 ∨ (c.toNat = 13 ∧ D = 0):=by omega
   rcases k3 with k3 | ⟨k3,k4⟩
   ·have q : ((c.toNat : Int) == 13) = false:=beq_cast_false k3
    by_cases k5 : c.toNat = 59
    ·have q2 : ((c.toNat : Int) == 59) = true:=beq_cast_true k5
     by_cases k6 : 0 < D
     ·clear h8
      have hs : Hid (sized ⟨0,D,Z,L,T,lf,sc,tx,fl,0⟩ c = ⟨1,D,Z,L + 1,T,lf,sc,tx,fl,0⟩):=Hj (by unfold sized; dsimp only; rw [if_neg k1,if_neg kl,if_neg (by decide)]; rw [if_pos ⟨k5,k6⟩])
      rw [hs.out]
      replace k1:=Hj k1; replace k3:=Hj k3; replace k5:=Hj k5; go_enter Tryz.func103,Tryz.ntmps103
      go_wp2; go_ret; exact ⟨rfl,(((Kp.refl (· = g) w).set_ (fun _ => rfl) 1 (.int .i64 (L + 1 : Int))).set_ (fun _ => rfl) 0 (.int .i64 2)),2,(L + 1 : Nat),D,Z,T,((Hb.out.set_ 1 (.int .i64 (L + 1 : Int))).set_ 0 (.int .i64 2)),by decide,fun _ => ⟨rfl,fun _ => ⟨rfl,rfl,rfl,rfl⟩,fun e => absurd e (by simp),fun e => absurd e (by simp)⟩⟩
     ·obtain rfl : D = 0:=by omega
      have hx : hexv c = none:=by unfold hexv; rw [k5]; rfl
      have hd : ∀ w,_:=digit_any c
      rw [hexI_none hx] at hd
      have hs : Hid (sized ⟨0,0,Z,L,T,lf,sc,tx,fl,0⟩ c = ⟨0,0,Z,L,T,lf,sc,tx,fl,33⟩):=Hj (by unfold sized; dsimp only; rw [if_neg k1,if_neg kl,if_neg (by decide)]; rw [if_neg (by omega),hx]; rfl)
      rw [hs.out]
      replace hd:=Hj hd; replace hx:=Hj hx; replace k1:=Hj k1; replace k3:=Hj k3; replace k5:=Hj k5; go_enter Tryz.func103,Tryz.ntmps103
      go_wp2_with fail
      refine (hd.out _).mono ?_
      rintro e w2 ⟨rfl,rfl⟩
      go_wp2; go_ret; exact ⟨rfl,((Kp.refl (· = g) w).set_ (fun _ => rfl) 1 (.int .i64 (L + 1 : Int))),_,_,_,_,_,(Hb.out.set_ 1 (.int .i64 (L + 1 : Int))),by decide,fun e => absurd e (by simp)⟩
    ·have q2 : ((c.toNat : Int) == 59) = false:=beq_cast_false k5
     have hd : ∀ w,_:=digit_any c
     cases hx : hexv c with
     | none =>
      rw [hexI_none hx] at hd
      have hs : Hid (sized ⟨0,D,Z,L,T,lf,sc,tx,fl,0⟩ c = ⟨0,D,Z,L,T,lf,sc,tx,fl,33⟩):=Hj (by unfold sized; dsimp only; rw [if_neg k1,if_neg kl,if_neg (by decide)]; rw [if_neg (by omega),hx]; rfl)
      rw [hs.out]
      replace hd:=Hj hd; replace hx:=Hj hx; replace k1:=Hj k1; replace k3:=Hj k3; replace k5:=Hj k5; go_enter Tryz.func103,Tryz.ntmps103
      go_wp2_with fail
      refine (hd.out _).mono ?_
      rintro e w2 ⟨rfl,rfl⟩
      go_wp2; go_ret; exact ⟨rfl,((Kp.refl (· = g) w).set_ (fun _ => rfl) 1 (.int .i64 (L + 1 : Int))),_,_,_,_,_,(Hb.out.set_ 1 (.int .i64 (L + 1 : Int))),by decide,fun e => absurd e (by simp)⟩
     | some n =>
      rw [hexI_some hx] at hd
      have hn:=hexv_lt hx; by_cases k7 : D = 8
      ·subst k7
       have hs : Hid (sized ⟨0,8,Z,L,T,lf,sc,tx,fl,0⟩ c = ⟨0,8,Z,L,T,lf,sc,tx,fl,33⟩):=Hj (by unfold sized; dsimp only; rw [if_neg k1,if_neg kl,if_neg (by decide)]; rw [if_neg (by omega),hx]; rfl)
       rw [hs.out]
       replace hd:=Hj hd; replace hx:=Hj hx; replace k1:=Hj k1; replace k3:=Hj k3; replace k5:=Hj k5; go_enter Tryz.func103,Tryz.ntmps103
       go_wp2_with fail
       refine (hd.out _).mono ?_
       rintro e w2 ⟨rfl,rfl⟩
       go_wp2; go_ret; exact ⟨rfl,((Kp.refl (· = g) w).set_ (fun _ => rfl) 1 (.int .i64 (L + 1 : Int))),_,_,_,_,_,(Hb.out.set_ 1 (.int .i64 (L + 1 : Int))),by decide,fun e => absurd e (by simp)⟩
      ·have q8 : ((D : Int) == 8) = false:=beq_cast_false k7
       by_cases k9 : 65536 < T + (16 * Z + n)
       ·have k10 : (65536 : Int) < T + (16 * Z + n):=by omega
        have hs : Hid (sized ⟨0,D,Z,L,T,lf,sc,tx,fl,0⟩ c = ⟨0,D + 1,16 * Z + n,L,T,lf,sc,tx,fl,5⟩):=Hj (by unfold sized; dsimp only; rw [if_neg k1,if_neg kl,if_neg (by decide)]; rw [if_neg (by omega),hx]; show (if D = 8 then _ else if 65536 < T + (16 * Z + n) then _ else _) = _; rw [if_neg k7,if_pos k9])
        rw [hs.out]
        replace hd:=Hj hd; replace hx:=Hj hx; replace k1:=Hj k1; replace k3:=Hj k3; replace k5:=Hj k5; replace k7:=Hj k7; replace k9:=Hj k9; go_enter Tryz.func103,Tryz.ntmps103
        go_wp2_with fail
        refine (hd.out _).mono ?_
        rintro e w2 ⟨rfl,rfl⟩
        go_wp2; go_region
        go_wp2; go_ret; exact ⟨rfl,((((Kp.refl (· = g) w).set_ (fun _ => rfl) 1 (.int .i64 (L + 1 : Int))).set_ (fun _ => rfl) 2 (.int .i64 (D + 1 : Int))).set_ (fun _ => rfl) 3 (.int .i64 (16 * Z + n : Int))).drew,_,_,_,_,_,(((Hb.out.set_ 1 (.int .i64 (L + 1 : Int))).set_ 2 (.int .i64 (D + 1 : Int))).set_ 3 (.int .i64 (16 * Z + n : Int))).drew,by decide,fun e => absurd e (by simp)⟩
       ·have k10 : ¬ (65536 : Int) < T + (16 * Z + n):=by omega
        have hs : Hid (sized ⟨0,D,Z,L,T,lf,sc,tx,fl,0⟩ c = ⟨0,D + 1,16 * Z + n,L + 1,T,lf,sc,tx,fl,0⟩):=Hj (by unfold sized; dsimp only; rw [if_neg k1,if_neg kl,if_neg (by decide)]; rw [if_neg (by omega),hx]; show (if D = 8 then _ else if 65536 < T + (16 * Z + n) then _ else _) = _; rw [if_neg k7,if_neg k9])
        rw [hs.out]
        replace hd:=Hj hd; replace hx:=Hj hx; replace k1:=Hj k1; replace k3:=Hj k3; replace k5:=Hj k5; replace k7:=Hj k7; replace k9:=Hj k9; go_enter Tryz.func103,Tryz.ntmps103
        go_wp2_with fail
        refine (hd.out _).mono ?_
        rintro e w2 ⟨rfl,rfl⟩
        go_wp2; go_region
        go_wp2; go_ret; exact ⟨rfl,((((Kp.refl (· = g) w).set_ (fun _ => rfl) 1 (.int .i64 (L + 1 : Int))).set_ (fun _ => rfl) 2 (.int .i64 (D + 1 : Int))).set_ (fun _ => rfl) 3 (.int .i64 (16 * Z + n : Int))).drew,0,(L + 1 : Nat),(D + 1 : Nat),(16 * Z + n : Nat),T,(((Hb.out.set_ 1 (.int .i64 (L + 1 : Int))).set_ 2 (.int .i64 (D + 1 : Int))).set_ 3 (.int .i64 (16 * Z + n : Int))).drew,by decide,fun _ => ⟨rfl,fun _ => ⟨rfl,rfl,rfl,rfl⟩,fun e => absurd e (by simp),fun e => absurd e (by simp)⟩⟩
   ·have q : ((c.toNat : Int) == 13) = true:=beq_cast_true k3
    subst k4; have hx : hexv c = none:=by unfold hexv; rw [k3]; rfl
    have q2 : ((c.toNat : Int) == 59) = false:=beq_cast_false (show c.toNat ≠ 59 by omega)
    have hd : ∀ w,_:=digit_any c
    rw [hexI_none hx] at hd
    have hs : Hid (sized ⟨0,0,Z,L,T,lf,sc,tx,fl,0⟩ c = ⟨0,0,Z,L,T,lf,sc,tx,fl,33⟩):=Hj (by unfold sized; dsimp only; rw [if_neg k1,if_neg kl,if_neg (by decide)]; rw [if_neg (by omega),hx]; rfl)
    rw [hs.out]
    replace hd:=Hj hd; replace hx:=Hj hx; replace k1:=Hj k1; replace k3:=Hj k3; go_enter Tryz.func103,Tryz.ntmps103
    go_wp2_with fail
    refine (hd.out _).mono ?_
    rintro e w2 ⟨rfl,rfl⟩
    go_wp2; go_ret; exact ⟨rfl,((Kp.refl (· = g) w).set_ (fun _ => rfl) 1 (.int .i64 (L + 1 : Int))),_,_,_,_,_,(Hb.out.set_ 1 (.int .i64 (L + 1 : Int))),by decide,fun e => absurd e (by simp)⟩
  ·rw [show cp 1 = 2 from rfl] at c0 Hb
   have k3 : c.toNat ≠ 13 ∨ (c.toNat = 13 ∧ D = 0):=by omega
   rcases k3 with k3 | ⟨k3,k4⟩
   ·have q : ((c.toNat : Int) == 13) = false:=beq_cast_false k3
    have hd : ∀ w,_:=ckcontrol_any c
    cases hx : ctl c
    ·rw [hx] at hd
     have hs : Hid (sized ⟨1,D,Z,L,T,lf,sc,tx,fl,0⟩ c = ⟨1,D,Z,L + 1,T,lf,sc,tx,fl,0⟩):=Hj (by unfold sized; dsimp only; rw [if_neg k1,if_neg kl,if_pos rfl,hx]; rfl)
     rw [hs.out]
     replace hd:=Hj hd; replace hx:=Hj hx; replace k1:=Hj k1; replace k3:=Hj k3; go_enter Tryz.func103,Tryz.ntmps103
     go_wp2_with fail
     refine (hd.out _).mono ?_
     rintro e w2 ⟨rfl,rfl⟩
     go_wp2; go_ret; exact ⟨rfl,((Kp.refl (· = g) w).set_ (fun _ => rfl) 1 (.int .i64 (L + 1 : Int))),2,(L + 1 : Nat),D,Z,T,(Hb.out.set_ 1 (.int .i64 (L + 1 : Int))),by decide,fun _ => ⟨rfl,fun _ => ⟨rfl,rfl,rfl,rfl⟩,fun e => absurd e (by simp),fun e => absurd e (by simp)⟩⟩
    ·rw [hx] at hd
     have hs : Hid (sized ⟨1,D,Z,L,T,lf,sc,tx,fl,0⟩ c = ⟨1,D,Z,L,T,lf,sc,tx,fl,33⟩):=Hj (by unfold sized; dsimp only; rw [if_neg k1,if_neg kl,if_pos rfl,hx]; rfl)
     rw [hs.out]
     replace hd:=Hj hd; replace hx:=Hj hx; replace k1:=Hj k1; replace k3:=Hj k3; go_enter Tryz.func103,Tryz.ntmps103
     go_wp2_with fail
     refine (hd.out _).mono ?_
     rintro e w2 ⟨rfl,rfl⟩
     go_wp2; go_ret; exact ⟨rfl,((Kp.refl (· = g) w).set_ (fun _ => rfl) 1 (.int .i64 (L + 1 : Int))),_,_,_,_,_,(Hb.out.set_ 1 (.int .i64 (L + 1 : Int))),by decide,fun e => absurd e (by simp)⟩
   ·have q : ((c.toNat : Int) == 13) = true:=beq_cast_true k3
    subst k4; have hx : ctl c = true:=by unfold ctl; rw [k3]; rfl
    have hd : ∀ w,_:=ckcontrol_any c
    rw [hx] at hd
    have hs : Hid (sized ⟨1,0,Z,L,T,lf,sc,tx,fl,0⟩ c = ⟨1,0,Z,L,T,lf,sc,tx,fl,33⟩):=Hj (by unfold sized; dsimp only; rw [if_neg k1,if_neg kl,if_pos rfl,hx]; rfl)
    rw [hs.out]
    replace hd:=Hj hd; replace hx:=Hj hx; replace k1:=Hj k1; replace k3:=Hj k3; go_enter Tryz.func103,Tryz.ntmps103
    go_wp2_with fail
    refine (hd.out _).mono ?_
    rintro e w2 ⟨rfl,rfl⟩
    go_wp2; go_ret; exact ⟨rfl,((Kp.refl (· = g) w).set_ (fun _ => rfl) 1 (.int .i64 (L + 1 : Int))),_,_,_,_,_,(Hb.out.set_ 1 (.int .i64 (L + 1 : Int))),by decide,fun e => absurd e (by simp)⟩
end Go.Proofs.YtjffffpfejmoiaaGreatDoor
namespace Go.Proofs.YtjffffpfejmoiaaGreatDoor
open Go.RowKit Syn Ck
namespace Ck
def endl (s : St) (c : UInt8) : St:=if c.toNat ≠ 10 then s.err 33 else if s.number = 0 then { s with place:=6,left:=s.number } else { s with place:=3,left:=s.number }
end Ck
set_option maxHeartbeats 4000000 in
theorem endline_any {g : Nat} {w : World} (s : St) (h : Ok s) (hp : s.place = 2) (c : UInt8) {p l d z t : Int} (hf : Fits s p l d z t) (vt vf : Value) (ca : Bool) (tr : Int) (hb : Blk w g 137 (cells p l d z t vt ca tr vf .nilIface)) :
  Calls Tryz.prog 104 #[.pointer (some ⟨g,0,none⟩),.int .u8 (c.toNat : Int)] w fun e w' => e = .returned (errV (endl s c).bad) ∧ Aft g w w' (endl s c) vt ca tr vf:=by
 obtain ⟨hf1,hf2,-,-⟩:=hf
 obtain ⟨rfl,rfl,rfl,rfl⟩:=hf2 (by omega)
 subst hf1; have hz:=h.size (by omega); have hbd:=h.bad; have c0:=hb.cell 0; have c3:=hb.cell 3; have c4:=hb.cell 4; have f0:=hb.frozen 0; have f3:=hb.frozen 3; have f4:=hb.frozen 4; simp only [cells] at c0 c3 c4
 have Hb:=Hj hb; clear hb; obtain ⟨pl,D,Z,L,T,lf,sc,tx,fl,bd⟩:=s
 simp only at hp hz hbd c0 c3 c4 Hb ⊢
 subst hbd; subst hp; clear h; by_cases k1 : c.toNat = 10
 ·have q : ((c.toNat : Int) != 10) = false:=by rw [k1]; rfl
  by_cases k2 : Z = 0
  ·subst k2
   have hs : Hid (endl ⟨2,D,0,L,T,lf,sc,tx,fl,0⟩ c = ⟨6,D,0,L,T,0,sc,tx,fl,0⟩):=Hj (by unfold endl; rw [if_neg (by omega),if_pos rfl])
   rw [hs.out]
   replace k1:=Hj k1; go_enter Tryz.func104,Tryz.ntmps104
   go_wp2; go_region
   go_wp2; go_ret; exact ⟨rfl,((((Kp.refl (· = g) w).set_ (fun _ => rfl) 0 (.int .i64 3)).set_ (fun _ => rfl) 4 (.int .i64 (T : Int))).set_ (fun _ => rfl) 0 (.int .i64 6)).drew,6,_,_,0,_,(((Hb.out.set_ 0 _).set_ 4 _).set_ 0 _).drew,by decide,fun _ => ⟨rfl,fun e => absurd e (by simp),fun e => absurd e (by simp),fun e => absurd e (by simp)⟩⟩
  ·have q2 : ((Z : Int) == 0) = false:=beq_cast_false k2
   have hs : Hid (endl ⟨2,D,Z,L,T,lf,sc,tx,fl,0⟩ c = ⟨3,D,Z,L,T,Z,sc,tx,fl,0⟩):=Hj (by unfold endl; dsimp only; rw [if_neg (by omega),if_neg k2])
   rw [hs.out]
   replace k1:=Hj k1; replace k2:=Hj k2; go_enter Tryz.func104,Tryz.ntmps104
   go_wp2; go_region
   go_wp2; go_ret; exact ⟨rfl,(((Kp.refl (· = g) w).set_ (fun _ => rfl) 0 (.int .i64 3)).set_ (fun _ => rfl) 4 (.int .i64 (T + Z : Int))).drew,3,_,_,Z,(T + Z : Int),((Hb.out.set_ 0 _).set_ 4 _).drew,by decide,fun _ => ⟨rfl,fun e => absurd e (by simp),fun _ => ⟨rfl,rfl⟩,fun e => absurd e (by simp)⟩⟩
 ·have q : ((c.toNat : Int) != 10) = true:=by rw [bne_iff_ne]; omega
  have hs : Hid (endl ⟨2,D,Z,L,T,lf,sc,tx,fl,0⟩ c = ⟨2,D,Z,L,T,lf,sc,tx,fl,33⟩):=Hj (by unfold endl; rw [if_pos k1]; rfl)
  rw [hs.out]
  replace k1:=Hj k1; go_enter Tryz.func104,Tryz.ntmps104
  go_wp2; go_ret; exact ⟨rfl,Kp.refl (· = g) w,_,_,_,_,_,Hb.out,by decide,fun e => absurd e (by simp)⟩
end Go.Proofs.YtjffffpfejmoiaaGreatDoor
namespace Go.Proofs.YtjffffpfejmoiaaGreatDoor
open Go.RowKit Syn Ck
section
variable {P : Program}
theorem step_pushG {ops : Array Oper} {rest : List Oper} {o : Oper} {a : Act} {Q : Exit → Act → World → Prop} {w : World} (t e : TypeId) (z : Value) (size bytes : Nat) (s x : Operand)
  (hgd : o.guard = none) (ho : o.op = .call { callee:=.builtin .append,args:=#[s,x],argTypes:=#[t,t] })
  (ht : P.underlying t = some (.slice e)) (hi : (P.info? e).map (fun i => (i.zero,i.size,i.bytes)) = some (some z,size,bytes)) (hzs : z.cells.size = size) (hsz : 0 < size) (hby : bytes ≤ 1000)
  {n m c : Nat} {v : Value} {xs news : List Value} {ad : Addr} (hs : a.eval s = v) (hown : Own w 0 e size v n xs) (hx : a.eval x = .slice (some ad) m c) (hl : news.length = m * size)
  (hnews : ∀ j u,news[j]? = some u → w.cell? (ad.add j) = some u) (h1 : ∀ u ∈ news,u.oneCell' = true) (hn : n + m ≤ 10000000000)
  (h : ∀ v' w',Own w' 0 e size v' (n + m) (xs ++ news) → w.grownBy w' v.ownBlock → (v'.ownBlock = v.ownBlock ∨ v'.ownBlock = some w.heap.size) → wpList P ops Q rest (a.put o.dst v') w') : wpList P ops Q (o :: rest) a w:=by
 cases hP : P.info? e with
 | none => rw [hP] at hi; cases hi
 | some i =>
  rw [hP] at hi
  simp only [Option.map_some,Option.some.injEq,Prod.mk.injEq] at hi
  obtain ⟨hz,hsize,hbytes⟩:=hi
  have hbb : (n + m) * bytes ≤ 140737488355328:=Nat.le_trans (Nat.mul_le_mul hn hby) (by decide)
  refine wpList_append_own_at w hgd s x t ho 0 e i z size bytes ht hP hz hsize hbytes hzs hsz v n xs hs hown ad m c news hx hl hnews h1 (by unfold maxLen; omega) hbb (Nat.zero_le _) ?_
  intro v' w' hown' hg _ hat; exact h v' w' hown' hg hat
end
theorem pushG_u8 {ops : Array Oper} {rest : List Oper} {o : Oper} {a : Act} {Q : Exit → Act → World → Prop} {w : World} (s x : Operand)
  (hgd : o.guard = none) (ho : o.op = .call { callee:=.builtin .append,args:=#[s,x],argTypes:=#[23,23] })
  {n : Nat} {v u : Value} {xs : List Value} (hs : a.eval s = v) (hown : Own w 0 5 1 v n xs) (hx : a.eval x = .slice (some ⟨w.heap.size,0,none⟩) 1 1)
  (h1 : u.oneCell' = true) (hn : n < 10000000000)
  (h : ∀ v' w',Own w' 0 5 1 v' (n + 1) (xs ++ [u]) → (w.alloc (.cells #[u] 5)).grownBy w' v.ownBlock → (v'.ownBlock = v.ownBlock ∨ v'.ownBlock = some (w.heap.size + 1)) → wpList Tryz.prog ops Q rest (a.put o.dst v') w') : wpList Tryz.prog ops Q (o :: rest) a (w.alloc (.cells #[u] 5)):=by
 refine step_pushG 23 5 (.int .u8 0) 1 1 s x hgd ho Tryz.underlying23 infoU8 rfl (by decide) (by decide) hs (hown.alloc _) hx (news:=[u]) rfl (cell_one_new _ _ _) ?_ hn ?_
 ·intro y hy; rw [List.mem_singleton] at hy; rw [hy]; exact h1
 ·intro v' w' ho' hb hat
  exact h v' w' ho' hb (by rwa [alloc_size'] at hat)
theorem pushG_pair (tS tE : TypeId) (ht : Tryz.prog.underlying tS = some (.slice tE)) (hi : (Tryz.prog.info? tE).map (fun i => (i.zero,i.size,i.bytes)) = some (some (.agg #[.string ⟨#[]⟩,.string ⟨#[]⟩]),2,32))
  {ops : Array Oper} {rest : List Oper} {o : Oper} {a : Act} {Q : Exit → Act → World → Prop} {w : World} (s x : Operand)
  (hgd : o.guard = none) (ho : o.op = .call { callee:=.builtin .append,args:=#[s,x],argTypes:=#[tS,tS] })
  {n : Nat} {v u1 u2 : Value} {xs : List Value} (hs : a.eval s = v) (hown : Own w 0 tE 2 v n xs) (hx : a.eval x = .slice (some ⟨w.heap.size,0,none⟩) 1 1)
  (h1 : u1.oneCell' = true) (h2 : u2.oneCell' = true) (hn : n < 10000000000)
  (h : ∀ v' w',Own w' 0 tE 2 v' (n + 1) (xs ++ [u1,u2]) → (w.alloc (.cells #[u1,u2] tE)).grownBy w' v.ownBlock → (v'.ownBlock = v.ownBlock ∨ v'.ownBlock = some (w.heap.size + 1)) → wpList Tryz.prog ops Q rest (a.put o.dst v') w') : wpList Tryz.prog ops Q (o :: rest) a (w.alloc (.cells #[u1,u2] tE)):=by
 refine step_pushG tS tE (.agg #[.string ⟨#[]⟩,.string ⟨#[]⟩]) 2 32 s x hgd ho ht hi rfl (by decide) (by decide) hs (hown.alloc _) hx (news:=[u1,u2]) rfl ?_ ?_ hn ?_
 ·intro j u hj
  have hb:=(Blk.new w tE #[u1,u2]).cell j; have hadd : (⟨w.heap.size,0,none⟩ : Addr).add j = ⟨w.heap.size,j,none⟩:=by unfold Addr.add; split <;> simp_all
  rw [hadd,hb]; simpa using hj
 ·intro y hy
  rw [List.mem_cons,List.mem_singleton] at hy
  rcases hy with rfl | rfl
  ·exact h1
  ·exact h2
 ·intro v' w' ho' hb hat
  exact h v' w' ho' hb (by rwa [alloc_size'] at hat)
namespace Ck
theorem errV_ne {n : Int} (h : n ≠ 0) : errV n = .iface 57 (.int .i64 n):=by unfold errV; rw [if_neg h]
def endB (tx : List UInt8) (fl : List (List UInt8 × List UInt8)) : Nat:=if tx = [] then 0 else match fline tx with | none => 34 | some _ => if fl.length = 64 then 34 else 0
def endF (tx : List UInt8) (fl : List (List UInt8 × List UInt8)) : List (List UInt8 × List UInt8):=if tx = [] then fl else match fline tx with | none => fl | some f => fl ++ [f]
def EndR (F : Nat → Prop) (g : Nat) (w : World) (l d z t tr : Int) (tx : List UInt8) (fl : List (List UInt8 × List UInt8)) (e : Ending) (w' : World) : Prop :=
 e = .returned (errV (endB tx fl)) ∧ Kp F w w' ∧ ∃ p vt' vf',Blk w' g 137 (cells p l d z t vt' false tr vf' .nilIface) ∧
  (endB tx fl ≠ 0 → p ≠ 7) ∧ (endB tx fl = 0 → p = (if tx = [] then 7 else 6) ∧ Own w' 0 5 1 vt' 0 [] ∧ Own w' 0 26 2 vf' (endF tx fl).length (prs (endF tx fl)) ∧
   (∀ k,vt'.ownBlock = some k → F k) ∧ (∀ k,vf'.ownBlock = some k → F k ∨ w.heap.size ≤ k))
end Ck
set_option maxRecDepth 100000 in
set_option maxHeartbeats 8000000 in
theorem dended_any {g : Nat} {w : World} {F : Nat → Prop} (tx : List UInt8) (fl : List (List UInt8 × List UInt8)) (vt vf : Value) (l d z t tr : Int) (hb : Blk w g 137 (cells 6 l d z t vt false tr vf .nilIface))
  (hF : F g) (hFt : ∀ k,vt.ownBlock = some k → F k) (hFf : ∀ k,vf.ownBlock = some k → F k) (ht : Own w 0 5 1 vt tx.length (u8s tx)) (hf : Own w 0 26 2 vf fl.length (prs fl))
  (hm : tx.length ≤ 8192) (hm2 : fl.length ≤ 64) :
  Calls Tryz.prog 127 #[.pointer (some ⟨g,0,none⟩)] w (EndR F g w l d z t tr tx fl):=by
 have hr:=run_own_str ht; obtain ⟨A,cap,rfl,hcap,-,-⟩:=Rd.own ht
 obtain ⟨A2,cap2,rfl,hcap2,-,-⟩:=Rd.own hf
 have c0:=hb.cell 0; have c5:=hb.cell 5; have c8:=hb.cell 8; have f0:=hb.frozen 0; have f5:=hb.frozen 5; have f8:=hb.frozen 8; simp only [cells] at c0 c5 c8
 have Hb:=Hj hb; have Ht:=Hj ht; have Hf:=Hj hf; replace hFt:=Hj hFt; replace hFf:=Hj hFf; replace hF:=Hj hF; clear hb ht hf; by_cases k0 : tx = []
 ·subst k0
  have hq : (((List.length (α:=UInt8) []) : Int) == 0) = true:=rfl
  have hE:=Hj (show endB [] fl = 0 from rfl); have hE2:=Hj (show endF [] fl = fl from rfl); clear hr; go_enter Tryz.func127,Tryz.ntmps127
  go_wp2; go_ret; have hk:=(Kp.refl F w).set_ (fun _ => hF.out) 0 (.int .i64 7); have hk2:=(Kp.refl (· = g) w).set_ (fun _ => rfl) 0 (.int .i64 7); refine ⟨rfl,hk,7,_,_,Hb.out.set_ 0 (.int .i64 7),fun e => absurd hE.out e,fun _ => ⟨rfl,Ht.out.kp (fun k hj e => ?_) hk2,?_,hFt.out,fun k hk => .inl (hFf.out k hk)⟩⟩
  ·subst e; exact Ht.out.ne Hb.out (by decide) hj
  ·rw [hE2.out]; exact Hf.out.kp (fun k hj e => by subst e; exact Hf.out.ne Hb.out (by decide) hj) hk2
 ·have hq : ((tx.length : Int) == 0) = false:=beq_cast_false (fun e => k0 (List.eq_nil_of_length_eq_zero e))
  have hlen:=takeWhile_le (· != 58) tx; have hlen2:=dropWhile_le (· != 58) tx; have hC : ∀ w,Calls Tryz.prog 52 #[.string (str tx),.string ⟨#[58]⟩] w fun e w' => e = .returned (cutV tx 58) ∧ ∃ n,w' = w.drewN n:=fun w => cut_any (str tx) 58 w (by unfold maxLen; rw [str_size]; omega)
  have hN : ∀ w,Calls Tryz.prog 32 #[.string (str (tx.takeWhile (· != 58)))] w fun e w' => e = .returned (.tuple #[.string (str (nmV (tx.takeWhile (· != 58)))),errV (nmE (tx.takeWhile (· != 58)))]) ∧ Below w.heap.size w w':=fun w => fname_any (str _) w (by rw [str_size]; omega)
  have hV : ∀ w,Calls Tryz.prog 46 #[.string (str ((tx.dropWhile (· != 58)).drop 1))] w fun e w' => e = .returned (.tuple #[.string (str (vlV ((tx.dropWhile (· != 58)).drop 1))),errV (vlE ((tx.dropWhile (· != 58)).drop 1))]) ∧ Below w.heap.size w w':=fun w => fvalue_any (str _) w (by rw [str_size,List.length_drop]; omega)
  have hB : endB tx fl = match fline tx with | none => 34 | some _ => if fl.length = 64 then 34 else 0:=by unfold endB; rw [if_neg k0]
  have hB2 : endF tx fl = match fline tx with | none => fl | some f => fl ++ [f]:=by unfold endF; rw [if_neg k0]
  have hp : (if tx = [] then (7 : Int) else 6) = 6:=if_neg k0
  have hfl : fline tx = match tx.dropWhile (· != 58) with
   | [] => none
   | _ :: v => if nmE (tx.takeWhile (· != 58)) = 0 ∧ vlE v = 0 ∧ forb (nmV (tx.takeWhile (· != 58))) = false then some (nmV (tx.takeWhile (· != 58)),vlV v) else none:=rfl
  replace k0:=Hj k0; unfold cutV at hC
  generalize str tx = sx at *; generalize tx.takeWhile (· != 58) = nm at *; cases htd : tx.dropWhile (· != 58) with
  | nil =>
   rw [htd] at hC hV hfl
   have hE : Hid (endB tx fl = 34):=Hj (by rw [hB,hfl])
   clear hB hB2 hfl htd; generalize errV (nmE nm) = e1 at *; generalize str (nmV nm) = s1 at *; generalize errV (vlE (List.drop 1 [])) = e2 at *; generalize str (vlV (List.drop 1 [])) = s2 at *; generalize str (List.drop 1 []) = s3 at *; generalize str nm = s4 at *; replace hC:=Hj hC; replace hN:=Hj hN; replace hV:=Hj hV; go_enter Tryz.func127,Tryz.ntmps127
   go_wp2_with fail
   refine (hC.out _).mono ?_
   rintro e w1 ⟨rfl,n1,rfl⟩
   go_wp2_with fail
   refine (hN.out _).mono ?_
   rintro e w2 ⟨rfl,hb2⟩
   have hB2:=Hj (show Below w.heap.size w w2 from (below_drewN (Below.refl _ _) n1).trans hb2); clear hb2; go_wp2_with fail
   refine (hV.out _).mono ?_
   rintro e w3 ⟨rfl,hb3⟩
   have hB3:=Hj (Below.next hB2.out hB2.out.size hb3); clear hb3 hB2; have Hb3:=Hj (Hb.out.below hB3.out); have Hf3:=Hj (own_below Hf.out hB3.out); clear c0 c5 c8 f0 f5 f8 hr; have c5:=Hb3.out.cell 5; have c8:=Hb3.out.cell 8; have f5:=Hb3.out.frozen 5; have f8:=Hb3.out.frozen 8; simp only [cells] at c5 c8
   go_wp2; go_ret; exact ⟨by rw [hE.out]; rfl,Kp.below (Kp.refl F w) hB3.out,6,_,_,Hb3.out,fun _ => by decide,fun e => absurd e (by rw [hE.out]; decide)⟩
  | cons x v =>
   rw [htd] at hC hV hfl
   simp only [List.drop_succ_cons,List.drop_zero] at hC hV
   clear htd; by_cases k1 : nmE nm = 0
   ·rw [k1,errV_zero] at hN
    by_cases k2 : vlE v = 0
    ·rw [k2,errV_zero] at hV
     have hO : ∀ w,Calls Tryz.prog 66 #[.string (str (nmV nm))] w fun e w' => e = .returned (.bool (forb (nmV nm))) ∧ w' = w:=fun w => forbidden_any (nmV nm) w
     cases k3 : forb (nmV nm)
     ·replace hfl:=hfl.trans (if_pos ⟨k1,k2,k3⟩)
      rw [k3] at hO
      have hpr:=prs_snoc fl (nmV nm,vlV v); by_cases k4 : fl.length = 64
      ·have q4 : ((fl.length : Int) == 64) = true:=beq_cast_true k4
       have hE : Hid (endB tx fl = 34):=Hj (by rw [hB,hfl]; exact if_pos k4)
       clear hB hB2 hfl hpr; replace k4:=Hj k4; replace k1:=Hj k1; replace k2:=Hj k2; replace k3:=Hj k3; generalize str (nmV nm) = s1 at *; generalize str (vlV v) = s2 at *; generalize str v = s3 at *; generalize str nm = s4 at *; replace hC:=Hj hC; replace hN:=Hj hN; replace hV:=Hj hV; replace hO:=Hj hO; go_enter Tryz.func127,Tryz.ntmps127
       go_wp2_with fail
       refine (hC.out _).mono ?_
       rintro e w1 ⟨rfl,n1,rfl⟩
       go_wp2_with fail
       refine (hN.out _).mono ?_
       rintro e w2 ⟨rfl,hb2⟩
       have hB2:=Hj (show Below w.heap.size w w2 from (below_drewN (Below.refl _ _) n1).trans hb2); clear hb2; go_wp2_with fail
       refine (hV.out _).mono ?_
       rintro e w3 ⟨rfl,hb3⟩
       have hB3:=Hj (Below.next hB2.out hB2.out.size hb3); clear hb3 hB2; have Hb3:=Hj (Hb.out.below hB3.out); have Hf3:=Hj (own_below Hf.out hB3.out); clear c0 c5 c8 f0 f5 f8 hr; have c5:=Hb3.out.cell 5; have c8:=Hb3.out.cell 8; have f5:=Hb3.out.frozen 5; have f8:=Hb3.out.frozen 8; simp only [cells] at c5 c8
       go_wp2_with fail
       refine (hO.out _).mono ?_
       rintro e w4 ⟨rfl,rfl⟩
       go_wp2; go_ret; exact ⟨by rw [hE.out]; rfl,Kp.below (Kp.refl F w) hB3.out,6,_,_,Hb3.out,fun _ => by decide,fun e => absurd e (by rw [hE.out]; decide)⟩
      ·have q4 : ((fl.length : Int) == 64) = false:=beq_cast_false k4
       have hE : Hid (endB tx fl = 0):=Hj (by rw [hB,hfl]; exact if_neg k4)
       have hE2 : Hid (endF tx fl = fl ++ [(nmV nm,vlV v)]):=Hj (by rw [hB2,hfl])
       clear hB hB2 hfl; simp only at hpr
       have hl : (fl ++ [(nmV nm,vlV v)]).length = fl.length + 1:=by simp
       replace k4:=Hj k4; replace k1:=Hj k1; replace k2:=Hj k2; replace k3:=Hj k3; generalize fl ++ [(nmV nm,vlV v)] = fl2 at *; replace hpr:=Hj hpr; replace hl:=Hj hl; generalize str (nmV nm) = s1 at *; generalize str (vlV v) = s2 at *; generalize str v = s3 at *; generalize str nm = s4 at *; replace hC:=Hj hC; replace hN:=Hj hN; replace hV:=Hj hV; replace hO:=Hj hO; go_enter Tryz.func127,Tryz.ntmps127
       go_wp2_with fail
       refine (hC.out _).mono ?_
       rintro e w1 ⟨rfl,n1,rfl⟩
       go_wp2_with fail
       refine (hN.out _).mono ?_
       rintro e w2 ⟨rfl,hb2⟩
       have hB2:=Hj (show Below w.heap.size w w2 from (below_drewN (Below.refl _ _) n1).trans hb2); clear hb2; go_wp2_with fail
       refine (hV.out _).mono ?_
       rintro e w3 ⟨rfl,hb3⟩
       have hB3:=Hj (Below.next hB2.out hB2.out.size hb3); clear hb3 hB2; have Hb3:=Hj (Hb.out.below hB3.out); have Hf3:=Hj (own_below Hf.out hB3.out); clear c0 c5 c8 f0 f5 f8 hr; have c5:=Hb3.out.cell 5; have c8:=Hb3.out.cell 8; have f5:=Hb3.out.frozen 5; have f8:=Hb3.out.frozen 8; simp only [cells] at c5 c8
       go_wp2_with fail
       refine (hO.out _).mono ?_
       rintro e w4 ⟨rfl,rfl⟩
       go_wp2_with (at_builtin; refine pushG_pair (v:=Value.slice A2 fl.length cap2) (n:=fl.length) (xs:=prs fl) 28 26 Tryz.underlying28 infoCF _ _ rfl rfl rfl Hf3.out rfl rfl rfl (by omega) ?_; intro v5 w5 ho5 hg5 hat5; obtain ⟨A5,cap5,rfl,-,-,-⟩:=Rd.own ho5; have hK5:=Hj (((Kp.refl (fun k => (Value.slice A2 fl.length cap2).ownBlock = some k) w4).alloc _).grown hg5 (fun k hk _ => hk)); have Hb5:=Hj (Hb3.out.kp (Own.ne Hf3.out Hb3.out (by decide)) hK5.out); replace ho5:=Hj ho5; replace hat5:=Hj hat5; clear hg5 c5 c8 f5 f8; have c5:=Hb5.out.cell 5; have c8:=Hb5.out.cell 8; have f5:=Hb5.out.frozen 5; have f8:=Hb5.out.frozen 8; simp only [cells] at c5 c8)
       go_ret; have hk:=(((Kp.below (Kp.refl F w) hB3.out).next (fun k _ hk => hFf.out k hk) hK5.out).set_ (g:=g) (fun _ => hF.out) 8 (.slice A5 (fl.length + 1) cap5)).set_ (g:=g) (fun _ => hF.out) 5 (.slice none 0 0); have hk2:=((Kp.refl (· = g) w5).set_ (fun _ => rfl) 8 (.slice A5 (fl.length + 1) cap5)).set_ (fun _ => rfl) 5 (.slice none 0 0); refine ⟨by rw [hE.out]; rfl,hk,6,_,_,(Hb5.out.set_ 8 _).set_ 5 (.slice none 0 0),fun e => absurd hE.out e,fun _ => ⟨hp.symm,own_nil _ _ _ _,?_,fun k hk => (by cases hk),fun k hk => ?_⟩⟩
       ·rw [hE2.out,hl.out,hpr.out]
        exact ho5.out.kp (fun k hj e => by subst e; exact ho5.out.ne Hb5.out (by decide) hj) hk2
       ·rcases hat5.out with h | h
        ·exact .inl (hFf.out k (by rw [← h]; exact hk))
        ·rw [h] at hk
         injection hk with hk
         have:=hB3.out.size
         exact .inr (by omega)
     ·replace hfl:=hfl.trans (if_neg (fun h => by rw [k3] at h; exact absurd h.2.2 (by decide)))
      rw [k3] at hO
      have hE : Hid (endB tx fl = 34):=Hj (by rw [hB,hfl])
      clear hB hB2 hfl; replace k1:=Hj k1; replace k2:=Hj k2; replace k3:=Hj k3; generalize str (nmV nm) = s1 at *; generalize str (vlV v) = s2 at *; generalize str v = s3 at *; generalize str nm = s4 at *; replace hC:=Hj hC; replace hN:=Hj hN; replace hV:=Hj hV; replace hO:=Hj hO; go_enter Tryz.func127,Tryz.ntmps127
      go_wp2_with fail
      refine (hC.out _).mono ?_
      rintro e w1 ⟨rfl,n1,rfl⟩
      go_wp2_with fail
      refine (hN.out _).mono ?_
      rintro e w2 ⟨rfl,hb2⟩
      have hB2:=Hj (show Below w.heap.size w w2 from (below_drewN (Below.refl _ _) n1).trans hb2); clear hb2; go_wp2_with fail
      refine (hV.out _).mono ?_
      rintro e w3 ⟨rfl,hb3⟩
      have hB3:=Hj (Below.next hB2.out hB2.out.size hb3); clear hb3 hB2; have Hb3:=Hj (Hb.out.below hB3.out); have Hf3:=Hj (own_below Hf.out hB3.out); clear c0 c5 c8 f0 f5 f8 hr; have c5:=Hb3.out.cell 5; have c8:=Hb3.out.cell 8; have f5:=Hb3.out.frozen 5; have f8:=Hb3.out.frozen 8; simp only [cells] at c5 c8
      go_wp2_with fail
      refine (hO.out _).mono ?_
      rintro e w4 ⟨rfl,rfl⟩
      go_wp2; go_ret; exact ⟨by rw [hE.out]; rfl,Kp.below (Kp.refl F w) hB3.out,6,_,_,Hb3.out,fun _ => by decide,fun e => absurd e (by rw [hE.out]; decide)⟩
    ·rw [errV_ne k2] at hV
     replace hfl:=hfl.trans (if_neg (fun h => k2 h.2.1)); have hE : Hid (endB tx fl = 34):=Hj (by rw [hB,hfl])
     clear hB hB2 hfl; replace k1:=Hj k1; replace k2:=Hj k2; generalize str (nmV nm) = s1 at *; generalize str (vlV v) = s2 at *; generalize str v = s3 at *; generalize str nm = s4 at *; generalize vlE v = n2 at *; replace hC:=Hj hC; replace hN:=Hj hN; replace hV:=Hj hV; go_enter Tryz.func127,Tryz.ntmps127
     go_wp2_with fail
     refine (hC.out _).mono ?_
     rintro e w1 ⟨rfl,n1,rfl⟩
     go_wp2_with fail
     refine (hN.out _).mono ?_
     rintro e w2 ⟨rfl,hb2⟩
     have hB2:=Hj (show Below w.heap.size w w2 from (below_drewN (Below.refl _ _) n1).trans hb2); clear hb2; go_wp2_with fail
     refine (hV.out _).mono ?_
     rintro e w3 ⟨rfl,hb3⟩
     have hB3:=Hj (Below.next hB2.out hB2.out.size hb3); clear hb3 hB2; have Hb3:=Hj (Hb.out.below hB3.out); have Hf3:=Hj (own_below Hf.out hB3.out); clear c0 c5 c8 f0 f5 f8 hr; have c5:=Hb3.out.cell 5; have c8:=Hb3.out.cell 8; have f5:=Hb3.out.frozen 5; have f8:=Hb3.out.frozen 8; simp only [cells] at c5 c8
     go_wp2; go_ret; exact ⟨by rw [hE.out]; rfl,Kp.below (Kp.refl F w) hB3.out,6,_,_,Hb3.out,fun _ => by decide,fun e => absurd e (by rw [hE.out]; decide)⟩
   ·rw [errV_ne k1] at hN
    replace hfl:=hfl.trans (if_neg (fun h => k1 h.1)); have hE : Hid (endB tx fl = 34):=Hj (by rw [hB,hfl])
    clear hB hB2 hfl; replace k1:=Hj k1; generalize nmE nm = n1 at *; generalize str (nmV nm) = s1 at *; generalize str (vlV v) = s2 at *; generalize errV (vlE v) = e2 at *; generalize str v = s3 at *; generalize str nm = s4 at *; replace hC:=Hj hC; replace hN:=Hj hN; replace hV:=Hj hV; go_enter Tryz.func127,Tryz.ntmps127
    go_wp2_with fail
    refine (hC.out _).mono ?_
    rintro e w1 ⟨rfl,n1,rfl⟩
    go_wp2_with fail
    refine (hN.out _).mono ?_
    rintro e w2 ⟨rfl,hb2⟩
    have hB2:=Hj (show Below w.heap.size w w2 from (below_drewN (Below.refl _ _) n1).trans hb2); clear hb2; go_wp2_with fail
    refine (hV.out _).mono ?_
    rintro e w3 ⟨rfl,hb3⟩
    have hB3:=Hj (Below.next hB2.out hB2.out.size hb3); clear hb3 hB2; have Hb3:=Hj (Hb.out.below hB3.out); have Hf3:=Hj (own_below Hf.out hB3.out); clear c0 c5 c8 f0 f5 f8 hr; have c5:=Hb3.out.cell 5; have c8:=Hb3.out.cell 8; have f5:=Hb3.out.frozen 5; have f8:=Hb3.out.frozen 8; simp only [cells] at c5 c8
    go_wp2; go_ret; exact ⟨by rw [hE.out]; rfl,Kp.below (Kp.refl F w) hB3.out,6,_,_,Hb3.out,fun _ => by decide,fun e => absurd e (by rw [hE.out]; decide)⟩
end Go.Proofs.YtjffffpfejmoiaaGreatDoor
namespace Go.Proofs.YtjffffpfejmoiaaGreatDoor
open Go.RowKit Syn Ck
theorem Own.apart' {w : World} {B B' sz sz' n n' : Nat} {e t : TypeId} {v v' : Value} {xs xs' : List Value} (h : Own w B e sz v n xs) (h' : Own w B' t sz' v' n' xs') (ht : e ≠ t) : Off (fun k => v.ownBlock = some k) v' :=
 fun _ hk e => h.apart h' ht e hk
theorem pushG_u8' {ops : Array Oper} {rest : List Oper} {o : Oper} {a : Act} {Q : Exit → Act → World → Prop} {w : World} (s x : Operand)
  (hgd : o.guard = none) (ho : o.op = .call { callee:=.builtin .append,args:=#[s,x],argTypes:=#[23,23] })
  {n B : Nat} {v u : Value} {xs : List Value} (hs : a.eval s = v) (hown : Own w 0 5 1 v n xs) (hB : w.heap.size = B) (hx : a.eval x = .slice (some ⟨B,0,none⟩) 1 1)
  (h1 : u.oneCell' = true) (hn : n < 10000000000)
  (h : ∀ v' w',Own w' 0 5 1 v' (n + 1) (xs ++ [u]) → (w.alloc (.cells #[u] 5)).grownBy w' v.ownBlock → (v'.ownBlock = v.ownBlock ∨ v'.ownBlock = some (w.heap.size + 1)) → wpList Tryz.prog ops Q rest (a.put o.dst v') w') : wpList Tryz.prog ops Q (o :: rest) a (w.alloc (.cells #[u] 5)):=by
 subst hB; exact pushG_u8 s x hgd ho hs hown hx h1 hn h
namespace Ck
def Decv (w : World) (g : Nat) (F : Nat → Prop) (s : St) (ev : Value) : Prop :=
  F g ∧ (∀ k,F k → k < w.heap.size) ∧ ∃ p l d z t vt ca tr vf,Blk w g 137 (cells p l d z t vt ca tr vf ev) ∧ (p = 7 ↔ s.place = 8) ∧
   (s.bad = 0 → Ok s ∧ Fits s p l d z t ∧ ca = decide (s.place = 7) ∧ tr = s.sect ∧ Own w 0 5 1 vt s.text.length (u8s s.text) ∧ Own w 0 26 2 vf s.fields.length (prs s.fields) ∧
     (∀ k,vt.ownBlock = some k → F k) ∧ (∀ k,vf.ownBlock = some k → F k))
def Stp (w : World) (g : Nat) (F : Nat → Prop) (s : St) (ev : Value) (w' : World) : Prop :=
 ∃ F',Decv w' g F' s ev ∧ (∀ k,F' k → F k ∨ w.heap.size ≤ k) ∧ Kp F w w'
theorem Stp.of {w w' : World} {g : Nat} {F : Nat → Prop} {s s' : St} {vt vf : Value} {p l d z t : Int} {ca : Bool} {tr : Int} (hb : Blk w g 137 (cells p l d z t vt ca tr vf .nilIface)) (hF : F g) (hlt : ∀ k,F k → k < w.heap.size)
  (ht : Own w 0 5 1 vt s.text.length (u8s s.text)) (hf : Own w 0 26 2 vf s.fields.length (prs s.fields)) (hFt : ∀ k,vt.ownBlock = some k → F k) (hFf : ∀ k,vf.ownBlock = some k → F k)
  (h8 : s'.place ≠ 8) (hok : s'.bad = 0 → Ok s' ∧ ca = decide (s'.place = 7) ∧ tr = s'.sect ∧ s'.text = s.text ∧ s'.fields = s.fields) (h : Aft g w w' s' vt ca tr vf) : Stp w g F s' .nilIface w':=by
 obtain ⟨hk,p',l',d',z',t',hb',h7,hfit⟩:=h
 refine ⟨F,⟨hF,fun k hk' => Nat.lt_of_lt_of_le (hlt k hk') hk.size,p',l',d',z',t',vt,ca,tr,vf,hb',?_,fun e => ?_⟩,fun k h => .inl h,hk.mono fun k _ e => by rw [e]; exact hF⟩
 ·exact ⟨fun e => absurd e h7,fun e => absurd e h8⟩
 ·obtain ⟨h1,h2,h3,h4,h5⟩:=hok e
  refine ⟨h1,hfit e,h2,h3,?_,?_,hFt,hFf⟩
  ·rw [h4]; exact ht.kp (fun k hj e => by subst e; exact ht.ne hb (by decide) hj) hk
  ·rw [h5]; exact hf.kp (fun k hj e => by subst e; exact hf.ne hb (by decide) hj) hk
end Ck
namespace Ck
theorem ended_lf {s : St} {c : UInt8} (h1 : s.sect ≠ 8192) (h2 : c.toNat = 10) (h3 : s.place = 7) (hb : s.bad = 0) :
  (endB s.text s.fields ≠ 0 → ended s c = s.err 34 ∧ endB s.text s.fields = 34) ∧
  (endB s.text s.fields = 0 → ended s c = ⟨if s.text = [] then 8 else 6,s.digits,s.number,s.line,s.total,s.left,s.sect + 1,[],endF s.text s.fields,0⟩):=by
 have n1 : ¬ (s.sect = 8192 ∨ c.toNat = 0 ∨ (decide (c.toNat = 10) != decide (s.place = 7)) = true):=by
  rintro (e | e | e)
  ·exact h1 e
  ·omega
  ·rw [h2,h3] at e; exact absurd e (by decide)
 have n2 : c.toNat ≠ 13:=by omega
 have e : ended s c = if s.text = [] then { s with place:=8,sect:=s.sect + 1 } else match fline s.text with
  | none => s.err 34
  | some f => if s.fields.length = 64 then s.err 34 else { s with fields:=s.fields ++ [f],place:=6,text:=[],sect:=s.sect + 1 }:=by
  unfold ended
  rw [if_neg n1,if_neg n2,if_neg (by omega)]
  congr 1
 rw [e]
 obtain ⟨pl,D,Z,L,T,lf,sc,tx,fl,bd⟩:=s
 simp only at h1 h3 hb ⊢
 subst hb; unfold endB endF
 by_cases k : tx = []
 ·subst k
  exact ⟨fun h => absurd rfl h,fun _ => rfl⟩
 ·rw [if_neg k,if_neg k,if_neg k,if_neg k]
  cases fline tx with
  | none => exact ⟨fun _ => ⟨rfl,rfl⟩,fun h => absurd h (by simp)⟩
  | some f =>
   simp only
   by_cases k2 : fl.length = 64
   ·rw [if_pos k2,if_pos k2]; exact ⟨fun _ => ⟨rfl,rfl⟩,fun h => absurd h (by decide)⟩
   ·rw [if_neg k2,if_neg k2]; exact ⟨fun h => absurd rfl h,fun _ => rfl⟩
end Ck
set_option maxRecDepth 100000 in
set_option maxHeartbeats 8000000 in
theorem trailer_any {g : Nat} {w : World} {F : Nat → Prop} (s : St) (h : Ok s) (hp : 6 ≤ s.place ∧ s.place ≤ 7) (c : UInt8) {l d z t : Int} (vt vf : Value)
  (hb : Blk w g 137 (cells 6 l d z t vt (decide (s.place = 7)) s.sect vf .nilIface)) (hF : F g) (hlt : ∀ k,F k → k < w.heap.size)
  (ht : Own w 0 5 1 vt s.text.length (u8s s.text)) (hf : Own w 0 26 2 vf s.fields.length (prs s.fields)) (hFt : ∀ k,vt.ownBlock = some k → F k) (hFf : ∀ k,vf.ownBlock = some k → F k) :
  Calls Tryz.prog 105 #[.pointer (some ⟨g,0,none⟩),.int .u8 (c.toNat : Int)] w fun e w' => e = .returned (errV (ended s c).bad) ∧ Stp w g F (ended s c) .nilIface w':=by
 have hsc:=h.sect; have htx:=h.text; have hfl:=h.fields; have hbd:=h.bad; have hfit : ∀ s',6 ≤ s'.place → (∀ q,q = cp s'.place → Fits s' q l d z t):=fun s' h1 q h2 => ⟨h2,fun e => by omega,fun e => by omega,fun e => by omega⟩
 have hbad : ∀ w',Kp (· = g) w w' → (∃ tr : Int,Blk w' g 137 (cells 6 l d z t vt (decide (s.place = 7)) tr vf .nilIface)) → Stp w g F (s.err 34) .nilIface w':=fun w' hk ⟨tr,hb'⟩ => by
  refine ⟨F,⟨hF,fun k hk' => Nat.lt_of_lt_of_le (hlt k hk') hk.size,6,l,d,z,t,vt,_,tr,vf,hb',?_,fun e => absurd e (by simp [St.err])⟩,fun k h => .inl h,hk.mono fun k _ e => by rw [e]; exact hF⟩
  exact ⟨fun e => by omega,fun e => by change s.place = 8 at e; omega⟩
 replace hbad:=Hj hbad; have c7:=hb.cell 7; have c6:=hb.cell 6; have c5:=hb.cell 5; have f7:=hb.frozen 7; have f6:=hb.frozen 6; have f5:=hb.frozen 5; simp only [cells] at c5 c6 c7
 have Hb:=Hj hb; have Ht:=Hj ht; have Hf:=Hj hf; replace hFt:=Hj hFt; replace hFf:=Hj hFf; replace hF:=Hj hF; replace hlt:=Hj hlt; replace hfit:=Hj hfit; clear hb ht hf; by_cases k1 : s.sect = 8192
 ·have q1 : ((s.sect : Int) == 8192) = true:=beq_cast_true k1
  have hs : Hid (ended s c = s.err 34):=Hj (by unfold ended; rw [if_pos (.inl k1)])
  rw [hs.out]
  replace k1:=Hj k1; replace h:=Hj h; go_enter Tryz.func105,Tryz.ntmps105
  go_wp2; go_ret; exact ⟨rfl,hbad.out w (Kp.refl _ _) ⟨_,Hb.out⟩⟩
 ·have q1 : ((s.sect : Int) == 8192) = false:=beq_cast_false k1
  have hsl : s.sect < 8192:=by omega
  by_cases k2 : c.toNat = 0
  ·have q2 : ((c.toNat : Int) == 0) = true:=beq_cast_true k2
   have hs : Hid (ended s c = s.err 34):=Hj (by unfold ended; rw [if_pos (.inr (.inl k2))])
   rw [hs.out]
   replace k1:=Hj k1; replace k2:=Hj k2; replace h:=Hj h; go_enter Tryz.func105,Tryz.ntmps105
   go_wp2; go_ret; exact ⟨rfl,hbad.out w (Kp.refl _ _) ⟨_,Hb.out⟩⟩
  ·have q2 : ((c.toNat : Int) == 0) = false:=beq_cast_false k2
   have hw : s.place = 7 ∨ s.place = 6:=by omega
   rcases hw with hw | hw
   ·have e6 : decide (s.place = 7) = true:=decide_eq_true hw
    rw [e6] at c6 Hb hbad
    by_cases k3 : c.toNat = 10
    ·have q3 : ((c.toNat : Int) == 10) = true:=beq_cast_true k3
     have q4 : ((c.toNat : Int) == 13) = false:=beq_cast_false (show c.toNat ≠ 13 by omega)
     obtain ⟨hs1,hs2⟩:=ended_lf k1 k3 hw hbd
     have hok:=fun e => ok_ended h hp.1 c e
     have hk1:=((Kp.refl (· = g) w).set_ (fun _ => rfl) 7 (.int .i64 (s.sect + 1 : Int))).set_ (fun _ => rfl) 6 (.bool false); have Hb1 : Blk ((w.setCell ⟨g,7,none⟩ (.int .i64 (s.sect + 1 : Int))).setCell ⟨g,6,none⟩ (.bool false)) g 137 (cells 6 l d z t vt false (s.sect + 1 : Int) vf .nilIface):=(Hb.out.set_ 7 _).set_ 6 _
     have hD:=dended_any s.text s.fields vt vf l d z t (s.sect + 1 : Int) Hb1 hF.out hFt.out hFf.out (Ht.out.kp (fun k hj e => by subst e; exact Ht.out.ne Hb.out (by decide) hj) hk1) (Hf.out.kp (fun k hj e => by subst e; exact Hf.out.ne Hb.out (by decide) hj) hk1) (by omega) (by omega)
     replace hD:=Hj hD; replace hs1:=Hj hs1; replace hs2:=Hj hs2; replace hok:=Hj hok; replace k1:=Hj k1; replace k2:=Hj k2; replace k3:=Hj k3; replace h:=Hj h; replace hk1:=Hj hk1; replace Hb1:=Hj Hb1; go_enter Tryz.func105,Tryz.ntmps105
     go_wp2_with fail
     refine hD.out.mono ?_
     rintro e w' ⟨rfl,hk,p',vt',vf',hb',h7,hR⟩
     go_wp2; go_ret; have hkk : Kp F w w':=(hk1.out.mono (fun k _ e => by rw [e]; exact hF.out)).trans hk
     by_cases kE : endB s.text s.fields = 0
     ·obtain ⟨r1,r2,r3,r4,r5⟩:=hR kE
      have hs3:=hs2.out kE; refine ⟨by rw [kE,hs3]; rfl,fun k => F k ∨ (w.heap.size ≤ k ∧ k < w'.heap.size),⟨.inl hF.out,?_,p',l,d,z,t,vt',false,(s.sect + 1 : Int),vf',hb',?_,fun e0 => ?_⟩,?_,hkk⟩
      ·rintro k (hk' | hk')
       ·exact Nat.lt_of_lt_of_le (hlt.out k hk') hkk.size
       ·exact hk'.2
      ·rw [hs3,r1]
       by_cases kx : s.text = []
       ·rw [if_pos kx,if_pos kx]; simp
       ·rw [if_neg kx,if_neg kx]; simp
      ·have hok1:=hok.out e0
       rw [hs3] at hok1 ⊢
       refine ⟨hok1,hfit.out _ ?_ _ ?_,?_,rfl,r2,r3,fun k hj => .inl (r4 k hj),fun k hj => ?_⟩
       ·dsimp only; split <;> decide
       ·rw [r1]; dsimp only; split <;> rfl
       ·dsimp only; split <;> decide
       ·rcases r5 k hj with h5 | h5
        ·exact .inl h5
        ·rw [size_setCell,size_setCell] at h5
         exact .inr ⟨h5,r3.lt hj⟩
      ·rintro k (hk' | hk')
       ·exact .inl hk'
       ·exact .inr hk'.1
     ·obtain ⟨e1,e2⟩:=hs1.out kE
      rw [e2,e1]
      refine ⟨rfl,F,⟨hF.out,fun k hk' => Nat.lt_of_lt_of_le (hlt.out k hk') hkk.size,p',l,d,z,t,vt',false,(s.sect + 1 : Int),vf',hb',?_,fun e => absurd e (by simp [St.err])⟩,fun k h => .inl h,hkk⟩
      exact ⟨fun e => absurd e (h7 kE),fun e => by change s.place = 8 at e; omega⟩
    ·have q3 : ((c.toNat : Int) == 10) = false:=beq_cast_false k3
     have hs : Hid (ended s c = s.err 34):=Hj (by unfold ended; rw [if_pos (.inr (.inr (by rw [decide_eq_false k3,e6]; rfl)))])
     rw [hs.out]
     replace k1:=Hj k1; replace k2:=Hj k2; replace k3:=Hj k3; replace h:=Hj h; go_enter Tryz.func105,Tryz.ntmps105
     go_wp2; go_ret; exact ⟨rfl,hbad.out w (Kp.refl _ _) ⟨_,Hb.out⟩⟩
   ·have e6 : decide (s.place = 7) = false:=decide_eq_false (by omega)
    rw [e6] at c6 Hb hbad
    by_cases k3 : c.toNat = 10
    ·have q3 : ((c.toNat : Int) == 10) = true:=beq_cast_true k3
     have hs : Hid (ended s c = s.err 34):=Hj (by unfold ended; rw [if_pos (.inr (.inr (by rw [decide_eq_true k3,e6]; rfl)))])
     rw [hs.out]
     replace k1:=Hj k1; replace k2:=Hj k2; replace k3:=Hj k3; replace h:=Hj h; go_enter Tryz.func105,Tryz.ntmps105
     go_wp2; go_ret; exact ⟨rfl,hbad.out w (Kp.refl _ _) ⟨_,Hb.out⟩⟩
    ·have q3 : ((c.toNat : Int) == 10) = false:=beq_cast_false k3
     have n1 : ¬ (s.sect = 8192 ∨ c.toNat = 0 ∨ (decide (c.toNat = 10) != decide (s.place = 7)) = true):=by
      rintro (e | e | e)
      ·exact k1 e
      ·exact k2 e
      ·rw [e6,decide_eq_false k3] at e; exact absurd e (by decide)
     have hok:=fun e => ok_ended h hp.1 c e
     by_cases k4 : c.toNat = 13
     ·have q4 : ((c.toNat : Int) == 13) = true:=beq_cast_true k4
      have hs : Hid (ended s c = { s with place:=7,sect:=s.sect + 1 }):=Hj (by unfold ended; rw [if_neg n1,if_pos k4])
      rw [hs.out] at hok ⊢
      replace hok:=hok hbd; replace k1:=Hj k1; replace k2:=Hj k2; replace k3:=Hj k3; replace k4:=Hj k4; replace n1:=Hj n1; have H:=Hj h; clear h; replace hok:=Hj hok; go_enter Tryz.func105,Tryz.ntmps105
      go_wp2; go_ret; have hk1:=((Kp.refl (· = g) w).set_ (fun _ => rfl) 7 (.int .i64 (s.sect + 1 : Int))).set_ (fun _ => rfl) 6 (.bool true); refine ⟨by first | rfl | (rw [hbd]; rfl),F,⟨hF.out,fun k hk' => Nat.lt_of_lt_of_le (hlt.out k hk') hk1.size,6,l,d,z,t,vt,true,(s.sect + 1 : Int),vf,(Hb.out.set_ 7 _).set_ 6 _,by simp,fun e => ?_⟩,fun k h => .inl h,hk1.mono fun k _ e => by rw [e]; exact hF.out⟩
      exact ⟨hok.out,hfit.out _ (by dsimp only; omega) _ rfl,rfl,rfl,Ht.out.kp (fun k hj e => by subst e; exact Ht.out.ne Hb.out (by decide) hj) hk1,Hf.out.kp (fun k hj e => by subst e; exact Hf.out.ne Hb.out (by decide) hj) hk1,hFt.out,hFf.out⟩
     ·have q4 : ((c.toNat : Int) == 13) = false:=beq_cast_false k4
      have hs : Hid (ended s c = { s with text:=s.text ++ [c],sect:=s.sect + 1 }):=Hj (by unfold ended; rw [if_neg n1,if_neg k4,if_pos k3])
      rw [hs.out] at hok ⊢
      replace hok:=hok hbd; replace k1:=Hj k1; replace k2:=Hj k2; replace k3:=Hj k3; replace k4:=Hj k4; replace n1:=Hj n1; have H:=Hj h; clear h; replace hok:=Hj hok; obtain ⟨A,cap,rfl,hcap,-,-⟩:=Rd.own Ht.out
      have hk1:=(Kp.refl (· = g) w).set_ (fun _ => rfl) 7 (.int .i64 (s.sect + 1 : Int)); have Hb1:=Hj (Hb.out.set_ 7 (.int .i64 (s.sect + 1 : Int))); have Ht1:=Hj (Ht.out.kp (fun k hj e => by subst e; exact Ht.out.ne Hb.out (by decide) hj) hk1)
      have Hf1:=Hj (Hf.out.kp (fun k hj e => by subst e; exact Hf.out.ne Hb.out (by decide) hj) hk1)
      replace hk1:=Hj hk1; go_enter Tryz.func105,Tryz.ntmps105
      go_wp2_with (at_builtin; go_loud (refine pushG_u8' (v:=Value.slice A s.text.length cap) (n:=s.text.length) (xs:=u8s s.text) _ _ rfl rfl rfl Ht1.out (size_setCell _ _ _) rfl rfl (by omega) ?_); intro v5 w5 ho5 hg5 hat5; obtain ⟨A5,cap5,rfl,-,-,-⟩:=Rd.own ho5; have hK5:=Hj (((Kp.refl (fun k => (Value.slice A s.text.length cap).ownBlock = some k) (w.setCell ⟨g,7,none⟩ (.int .i64 (s.sect + 1 : Int)))).alloc _).grown hg5 (fun k hk _ => hk)); have Hb5:=Hj (Hb1.out.kp (Own.ne Ht1.out Hb1.out (by decide)) hK5.out); replace ho5:=Hj ho5; replace hat5:=Hj hat5; clear hg5 c5 c6 c7 f5 f6 f7; have c5:=Hb5.out.cell 5; have f5:=Hb5.out.frozen 5; simp only [cells] at c5)
      go_ret; have hkk:=((hk1.out.mono (fun k _ e => by rw [e]; exact hF.out)).next (fun k _ hk => hFt.out k hk) hK5.out).set_ (g:=g) (fun _ => hF.out) 5 (.slice A5 (s.text.length + 1) cap5)
      have hk2:=(Kp.refl (· = g) w5).set_ (fun _ => rfl) 5 (.slice A5 (s.text.length + 1) cap5); have hfk:=Hf1.out.kp (Own.apart' Ht1.out Hf1.out (by decide)) hK5.out; refine ⟨by first | rfl | (rw [hbd]; rfl),fun k => F k ∨ (w.heap.size ≤ k ∧ k < w5.heap.size),⟨.inl hF.out,?_,6,l,d,z,t,_,false,(s.sect + 1 : Int),vf,Hb5.out.set_ 5 (.slice A5 (s.text.length + 1) cap5),?_,fun e => ⟨hok.out,hfit.out _ (by dsimp only; omega) _ (by dsimp only; rw [hw]; rfl),?_,rfl,?_,?_,fun k hj => ?_,fun k hj => .inl (hFf.out k hj)⟩⟩,?_,hkk⟩
      ·rintro k (hk' | hk')
       ·exact Nat.lt_of_lt_of_le (hlt.out k hk') hkk.size
       ·rw [size_setCell]; exact hk'.2
      ·dsimp only; rw [hw]; decide
      ·dsimp only; rw [hw]; rfl
      ·dsimp only
       rw [u8s_snoc,List.length_append,List.length_singleton]
       exact ho5.out.kp (fun k hj e => by subst e; exact ho5.out.ne Hb5.out (by decide) hj) hk2
      ·exact hfk.kp (fun k hj e => by subst e; exact hfk.ne Hb5.out (by decide) hj) hk2
      ·rcases hat5.out with h5 | h5
       ·exact .inl (hFt.out k (by rw [← h5]; exact hj))
       ·have hl5:=ho5.out.lt hj
        rw [h5] at hj
        injection hj with hj
        rw [size_setCell] at hj
        exact .inr ⟨by omega,hl5⟩
      ·rintro k (hk' | hk')
       ·exact .inl hk'
       ·exact .inr hk'.1
end Go.Proofs.YtjffffpfejmoiaaGreatDoor
namespace Go.Proofs.YtjffffpfejmoiaaGreatDoor
open Go.RowKit Syn Ck
namespace Ck
theorem sized_keep {s : St} (hp : s.place ≤ 1) (c : UInt8) : (sized s c).place ≤ 2 ∧ (sized s c).sect = s.sect ∧ (sized s c).text = s.text ∧ (sized s c).fields = s.fields:=by
 unfold sized
 repeat' split
 all_goals exact ⟨by dsimp only [St.err] <;> omega,rfl,rfl,rfl⟩
theorem step_keep {s : St} (hp : s.place ≤ 5) (h3 : s.place ≠ 3) (c : UInt8) : (Ck.step s c).place ≤ 6 ∧ (Ck.step s c).sect = s.sect ∧ (Ck.step s c).text = s.text ∧ (Ck.step s c).fields = s.fields:=by
 unfold Ck.step
 split
 ·rename_i h
  obtain ⟨h1,h2,h3,h4⟩:=sized_keep h c
  exact ⟨by omega,h2,h3,h4⟩
 ·split
  ·split
   ·exact ⟨by dsimp only [St.err] <;> omega,rfl,rfl,rfl⟩
   ·split <;> exact ⟨by dsimp only [St.err] <;> omega,rfl,rfl,rfl⟩
  ·split
   ·split <;> exact ⟨by dsimp only [St.err] <;> omega,rfl,rfl,rfl⟩
   ·split
    ·split <;> exact ⟨by dsimp only [St.err] <;> omega,rfl,rfl,rfl⟩
    ·exfalso; omega
end Ck
set_option maxRecDepth 100000 in
set_option maxHeartbeats 8000000 in
theorem cstep_any {g : Nat} {w : World} {F : Nat → Prop} (s : St) (hd : Decv w g F s .nilIface) (hbd : s.bad = 0) (h3 : s.place ≠ 3) (h8 : s.place ≠ 8) (c : UInt8) :
  Calls Tryz.prog 79 #[.pointer (some ⟨g,0,none⟩),.int .u8 (c.toNat : Int)] w fun e w' => e = .returned (errV (Ck.step s c).bad) ∧ Stp w g F (Ck.step s c) .nilIface w':=by
 obtain ⟨hF,hlt,p,l,d,z,t,vt,ca,tr,vf,hb,-,hR⟩:=hd
 obtain ⟨h,hfit,rfl,rfl,ht,hf,hFt,hFf⟩:=hR hbd
 have c0:=hb.cell 0; have f0:=hb.frozen 0; have c1:=hb.cell 1; have f1:=hb.frozen 1; have c2:=hb.cell 2; have f2:=hb.frozen 2; simp only [cells] at c0 c1 c2
 have hpl:=h.place; have key : s.place ≤ 1 ∨ s.place = 2 ∨ s.place = 4 ∨ s.place = 5 ∨ (6 ≤ s.place ∧ s.place ≤ 7):=by omega
 have hend : s.place ≤ 5 → ∀ w',Aft g w w' (Ck.step s c) vt (decide (s.place = 7)) s.sect vf → Stp w g F (Ck.step s c) .nilIface w':=fun h5 w' hA => by
  obtain ⟨k1,k2,k3,k4⟩:=step_keep h5 h3 c
  refine Stp.of hb hF hlt ht hf hFt hFf (by omega) (fun e => ⟨ok_step h c e,?_,by rw [k2],k3,k4⟩) hA
  rw [decide_eq_false (show ¬ s.place = 7 by omega),decide_eq_false (show ¬ (Ck.step s c).place = 7 by omega)]
 rcases key with k | k | k | k | k
 ·have hs : Ck.step s c = sized s c:=by unfold Ck.step; rw [if_pos k]
  have hI:=inline_any s h k c hfit vt vf (decide (s.place = 7)) s.sect hb; rw [← hs] at hI
  have hp : p = 0 ∨ p = 2:=by
   rw [hfit.1]
   rcases (show s.place = 0 ∨ s.place = 1 by omega) with e | e <;> rw [e]
   ·exact .inl rfl
   ·exact .inr rfl
  replace hI:=Hj hI; replace hend:=Hj hend; clear hb ht hf hfit hFt hFf hF hlt hR hs; rcases hp with rfl | rfl
  ·go_enter Tryz.func79,Tryz.ntmps79
   go_wp2_with fail
   refine hI.out.mono ?_
   rintro e w' ⟨rfl,hA⟩
   replace hA:=Hj hA; go_wp2; go_ret; exact ⟨rfl,hend.out (by omega) w' hA.out⟩
  ·go_enter Tryz.func79,Tryz.ntmps79
   go_wp2_with fail
   refine hI.out.mono ?_
   rintro e w' ⟨rfl,hA⟩
   replace hA:=Hj hA; go_wp2; go_ret; exact ⟨rfl,hend.out (by omega) w' hA.out⟩
 ·have hs : Ck.step s c = endl s c:=by unfold Ck.step; rw [if_neg (by omega),if_pos k]; rfl
  have hI:=endline_any s h k c hfit vt vf (decide (s.place = 7)) s.sect hb; rw [← hs] at hI
  have hp : p = 1:=by rw [hfit.1,k]; rfl
  subst hp; replace hI:=Hj hI; replace hend:=Hj hend; clear hb ht hf hfit hFt hFf hF hlt hR hs; go_enter Tryz.func79,Tryz.ntmps79
  go_wp2_with fail
  refine hI.out.mono ?_
  rintro e w' ⟨rfl,hA⟩
  replace hA:=Hj hA; go_wp2; go_ret; exact ⟨rfl,hend.out (by omega) w' hA.out⟩
 ·have hp : p = 4:=by rw [hfit.1,k]; rfl
  subst hp; obtain ⟨rfl,rfl⟩:=hfit.2.2.2 (.inl k)
  have Hb:=Hj hb; by_cases k2 : c.toNat = 13
  ·have hs : Ck.step s c = { s with place:=5 }:=by unfold Ck.step; rw [if_neg (by omega),if_neg (by omega),if_neg (by omega),if_pos k,if_neg (by omega)]
   have q : ((c.toNat : Int) != 13) = false:=by rw [k2]; rfl
   rw [hs] at hend ⊢
   replace hend:=Hj hend; replace k2:=Hj k2; clear hb ht hf hfit hFt hFf hF hlt hR hs; go_enter Tryz.func79,Tryz.ntmps79
   go_wp2; go_ret; refine ⟨by first | rfl | (rw [hbd]; rfl),hend.out (by omega) _ ⟨(Kp.refl (· = g) w).set_ (fun _ => rfl) 0 (.int .i64 5),5,_,_,0,_,Hb.out.set_ 0 (.int .i64 5),by decide,fun _ => ⟨rfl,fun e => by change 5 ≤ 2 at e; omega,fun e => by change 5 = 3 at e; omega,fun _ => ⟨rfl,rfl⟩⟩⟩⟩
  ·have hs : Ck.step s c = s.err 33:=by unfold Ck.step; rw [if_neg (by omega),if_neg (by omega),if_neg (by omega),if_pos k,if_pos k2]
   have q : ((c.toNat : Int) != 13) = true:=by rw [bne_iff_ne]; omega
   rw [hs] at hend ⊢
   replace hend:=Hj hend; replace k2:=Hj k2; clear hb ht hf hfit hFt hFf hF hlt hR hs; go_enter Tryz.func79,Tryz.ntmps79
   go_wp2; go_ret; refine ⟨rfl,hend.out (by omega) _ ⟨Kp.refl (· = g) w,4,_,_,_,_,Hb.out,by decide,fun e => absurd e (by simp [St.err])⟩⟩
 ·have hp : p = 5:=by rw [hfit.1,k]; rfl
  subst hp; obtain ⟨rfl,rfl⟩:=hfit.2.2.2 (.inr k)
  have Hb:=Hj hb; by_cases k2 : c.toNat = 10
  ·have hs : Ck.step s c = { s with place:=0,digits:=0,number:=0,line:=0 }:=by unfold Ck.step; rw [if_neg (by omega),if_neg (by omega),if_neg (by omega),if_neg (by omega),if_pos k,if_neg (by omega)]
   have q : ((c.toNat : Int) != 10) = false:=by rw [k2]; rfl
   rw [hs] at hend ⊢
   replace hend:=Hj hend; replace k2:=Hj k2; clear hb ht hf hfit hFt hFf hF hlt hR hs; go_enter Tryz.func79,Tryz.ntmps79
   go_wp2; go_ret; refine ⟨by first | rfl | (rw [hbd]; rfl),hend.out (by omega) _ ⟨(((Kp.refl (· = g) w).set_ (fun _ => rfl) 0 (.int .i64 0)).set_ (fun _ => rfl) 1 (.int .i64 0)).set_ (fun _ => rfl) 2 (.int .i64 0),0,0,0,0,_,((Hb.out.set_ 0 (.int .i64 0)).set_ 1 (.int .i64 0)).set_ 2 (.int .i64 0),by decide,fun _ => ⟨rfl,fun e => ⟨rfl,rfl,rfl,rfl⟩,fun e => by change 0 = 3 at e; omega,fun e => by change 0 = 4 ∨ 0 = 5 at e; omega⟩⟩⟩
  ·have hs : Ck.step s c = s.err 33:=by unfold Ck.step; rw [if_neg (by omega),if_neg (by omega),if_neg (by omega),if_neg (by omega),if_pos k,if_pos k2]
   have q : ((c.toNat : Int) != 10) = true:=by rw [bne_iff_ne]; omega
   rw [hs] at hend ⊢
   replace hend:=Hj hend; replace k2:=Hj k2; clear hb ht hf hfit hFt hFf hF hlt hR hs; go_enter Tryz.func79,Tryz.ntmps79
   go_wp2; go_ret; refine ⟨rfl,hend.out (by omega) _ ⟨Kp.refl (· = g) w,5,_,_,_,_,Hb.out,by decide,fun e => absurd e (by simp [St.err])⟩⟩
 ·have hs : Ck.step s c = ended s c:=by unfold Ck.step; rw [if_neg (by omega),if_neg (by omega),if_neg (by omega),if_neg (by omega),if_neg (by omega)]
  have hp : p = 6:=by
   rw [hfit.1]
   rcases (show s.place = 6 ∨ s.place = 7 by omega) with e | e <;> rw [e] <;> rfl
  subst hp; have hI:=trailer_any s h k c vt vf hb hF hlt ht hf hFt hFf; rw [← hs] at hI
  replace hI:=Hj hI; clear hb ht hf hfit hFt hFf hF hlt hR hend hs; go_enter Tryz.func79,Tryz.ntmps79
  go_wp2_with fail
  refine hI.out.mono ?_
  rintro e w' ⟨rfl,hA⟩
  replace hA:=Hj hA; go_wp2; go_ret; exact ⟨rfl,hA.out⟩
end Go.Proofs.YtjffffpfejmoiaaGreatDoor
namespace Go.Proofs.YtjffffpfejmoiaaGreatDoor
open Go.RowKit Syn Ck
namespace Ck
theorem Decv.kp {w w' : World} {g : Nat} {F G : Nat → Prop} {s : St} {ev : Value} (h : Decv w g F s ev) (hk : Kp G w w') (hG : ∀ k,F k → ¬ G k) : Decv w' g F s ev:=by
 obtain ⟨hF,hlt,p,l,d,z,t,vt,ca,tr,vf,hb,h7,hR⟩:=h
 refine ⟨hF,fun k h => Nat.lt_of_lt_of_le (hlt k h) hk.size,p,l,d,z,t,vt,ca,tr,vf,hb.kp (hG g hF) hk,h7,fun e => ?_⟩
 obtain ⟨h1,h2,h3,h4,h5,h6,h7,h8⟩:=hR e
 exact ⟨h1,h2,h3,h4,h5.kp (fun k hj => hG k (h7 k hj)) hk,h6.kp (fun k hj => hG k (h8 k hj)) hk,h7,h8⟩
theorem Decv.err {w : World} {g : Nat} {F : Nat → Prop} {s : St} {ev : Value} (h : Decv w g F s ev) (ev' : Value) : Decv (w.setCell ⟨g,9,none⟩ ev') g F s ev':=by
 obtain ⟨hF,hlt,p,l,d,z,t,vt,ca,tr,vf,hb,h7,hR⟩:=h
 have hk:=(Kp.refl (· = g) w).set_ (fun _ => rfl) 9 ev'; refine ⟨hF,fun k h => Nat.lt_of_lt_of_le (hlt k h) hk.size,p,l,d,z,t,vt,ca,tr,vf,hb.set_ 9 ev',h7,fun e => ?_⟩
 obtain ⟨h1,h2,h3,h4,h5,h6,h7,h8⟩:=hR e
 exact ⟨h1,h2,h3,h4,h5.kp (fun k hj e => by subst e; exact h5.ne hb (by decide) hj) hk,h6.kp (fun k hj e => by subst e; exact h6.ne hb (by decide) hj) hk,h7,h8⟩
theorem Decv.dat {w : World} {g : Nat} {F : Nat → Prop} {s : St} (h : Decv w g F s .nilIface) (hb0 : s.bad = 0) (h3 : s.place = 3) {k : Nat} (hk : k ≤ s.left) {w' : World}
  (hw : (k < s.left ∧ w' = w.setCell ⟨g,3,none⟩ (.int .i64 ((s.left : Int) - k))) ∨ (k = s.left ∧ w' = (w.setCell ⟨g,3,none⟩ (.int .i64 0)).setCell ⟨g,0,none⟩ (.int .i64 4))) :
  Decv w' g F (dat s k) .nilIface ∧ Kp (· = g) w w':=by
 obtain ⟨hF,hlt,p,l,d,z,t,vt,ca,tr,vf,hb,h7,hR⟩:=h
 obtain ⟨h1,h2,hca,htr,h5,h6,h8,h9⟩:=hR hb0
 have hd:=h1.data h3; obtain ⟨rfl,rfl⟩:=h2.2.2.1 h3
 have hok:=ok_dat h1 h3 hk; rcases hw with ⟨hlt2,rfl⟩ | ⟨rfl,rfl⟩
 ·have hkp:=(Kp.refl (· = g) w).set_ (fun _ => rfl) 3 (.int .i64 ((s.left : Int) - k))
  have hD : Ck.dat s k = { s with left:=s.left - k,total:=s.total + k }:=by unfold Ck.dat; rw [if_neg (by omega)]
  refine ⟨⟨hF,fun k h => Nat.lt_of_lt_of_le (hlt k h) hkp.size,p,l,d,_,_,vt,ca,tr,vf,hb.set_ 3 _,?_,fun e => ⟨hok,?_,?_,?_,?_,?_,h8,h9⟩⟩,hkp⟩
  ·rw [hD]; exact h7
  ·rw [hD]
   refine ⟨h2.1,fun e => by change s.place ≤ 2 at e; omega,fun _ => ⟨?_,?_⟩,fun e => by change s.place = 4 ∨ s.place = 5 at e; omega⟩
   ·show (s.left : Int) - k = ((s.left - k : Nat) : Int); omega
   ·show (s.total : Int) + s.left = ((s.total + k : Nat) : Int) + ((s.left - k : Nat) : Int); omega
  ·rw [hD]; exact hca
  ·rw [hD]; exact htr
  ·rw [hD]; exact h5.kp (fun k hj e => by subst e; exact h5.ne hb (by decide) hj) hkp
  ·rw [hD]; exact h6.kp (fun k hj e => by subst e; exact h6.ne hb (by decide) hj) hkp
 ·have hkp:=((Kp.refl (· = g) w).set_ (fun _ => rfl) 3 (.int .i64 0)).set_ (fun _ => rfl) 0 (.int .i64 4)
  have hD : Ck.dat s s.left = { s with left:=0,total:=s.total + s.left,place:=4 }:=by unfold Ck.dat; rw [if_pos rfl]
  refine ⟨⟨hF,fun k h => Nat.lt_of_lt_of_le (hlt k h) hkp.size,4,l,d,0,_,vt,ca,tr,vf,(hb.set_ 3 _).set_ 0 _,?_,fun e => ⟨hok,?_,?_,?_,?_,?_,h8,h9⟩⟩,hkp⟩
  ·rw [hD]; simp
  ·rw [hD]
   refine ⟨rfl,fun e => by change 4 ≤ 2 at e; omega,fun e => by change 4 = 3 at e; omega,fun _ => ⟨rfl,?_⟩⟩
   show (s.total : Int) + s.left = ((s.total + s.left : Nat) : Int); omega
  ·rw [hD,hca,h3]; rfl
  ·rw [hD]; exact htr
  ·rw [hD]; exact h5.kp (fun k hj e => by subst e; exact h5.ne hb (by decide) hj) hkp
  ·rw [hD]; exact h6.kp (fun k hj e => by subst e; exact h6.ne hb (by decide) hj) hkp
def WriteR (w : World) (g : Nat) (F : Nat → Prop) (s : St) (l : List UInt8) (e : Ending) (w' : World) : Prop :=
 ∃ vb F',e = .returned (.tuple #[vb,.int .i64 ((wr s l).2.2 : Int),errV (wr s l).1.bad]) ∧ Own w' w.heap.size 5 1 vb (wr s l).2.1.length (u8s (wr s l).2.1) ∧ Off F' vb ∧
  Decv w' g F' (wr s l).1 (errV (wr s l).1.bad) ∧ (∀ k,F' k → F k ∨ w.heap.size ≤ k) ∧ Kp F w w'
def WI (w : World) (g : Nat) (F : Nat → Prop) (s : St) (l : List UInt8) (b i : Value) (w' : World) : Prop :=
 ∃ (k : Nat) (s1 : St) (out : List UInt8) (F1 : Nat → Prop),i = .int .i64 (k : Int) ∧ k ≤ l.length ∧ out.length ≤ k ∧ Hid ((s1.bad = 0 ∧ wr s (l.take k) = (s1,out,k)) ∨ (s1.bad ≠ 0 ∧ wr s l = (s1,out,k))) ∧
  Hid (Own w' w.heap.size 5 1 b out.length (u8s out)) ∧ Hid (Off F1 b) ∧ Hid (Decv w' g F1 s1 (errV s1.bad)) ∧ Hid (∀ k,F1 k → F k ∨ w.heap.size ≤ k) ∧ Hid (Kp F w w')
theorem WI.fin {w : World} {g : Nat} {F : Nat → Prop} {s : St} {l : List UInt8} {b : Value} {w' : World} {k : Nat} {s1 : St} {out : List UInt8} {F1 : Nat → Prop}
  (h1 : wr s l = (s1,out,k)) (h2 : Own w' w.heap.size 5 1 b out.length (u8s out)) (h3 : Off F1 b) (h4 : Decv w' g F1 s1 (errV s1.bad)) (h5 : ∀ k,F1 k → F k ∨ w.heap.size ≤ k) (h6 : Kp F w w') :
  WriteR w g F s l (.returned (.tuple #[b,.int .i64 (k : Int),errV s1.bad])) w'.drew:=by
 unfold WriteR
 rw [h1]
 exact ⟨b,F1,rfl,h2,h3,h4,h5,h6.drew⟩
theorem wr_end {s s1 : St} {l out : List UInt8} {k : Nat} (hk : k ≤ l.length) (h : (s1.bad = 0 ∧ wr s (l.take k) = (s1,out,k)) ∨ (s1.bad ≠ 0 ∧ wr s l = (s1,out,k))) (hs : k = l.length ∨ s1.bad ≠ 0 ∨ s1.place = 8) : wr s l = (s1,out,k):=by
 rcases h with ⟨h1,h2⟩ | ⟨-,h2⟩
 ·rcases hs with rfl | hs
  ·rwa [List.take_length] at h2
  ·have:=wr_append (l.take k) (l.drop k) s
   rw [List.take_append_drop,h2] at this
   simp only at this
   rw [wr_stop hs] at this
   rw [this]
   simp
 ·exact h2
def errN (w : World) (g : Nat) : Nat:=match w.cell? ⟨g,9,none⟩ with | some .nilIface => 1 | _ => 0
end Ck
namespace Ck
theorem errN_le (w : World) (g : Nat) : errN w g ≤ 1:=by unfold errN; split <;> omega
theorem errN_nil {w : World} {g : Nat} (h : w.cell? ⟨g,9,none⟩ = some .nilIface) : errN w g = 1:=by unfold errN; rw [h]
theorem errN_err {w : World} {g : Nat} {t : TypeId} {v : Value} (h : w.cell? ⟨g,9,none⟩ = some (.iface t v)) : errN w g = 0:=by unfold errN; rw [h]
theorem take_add' (l : List UInt8) (k n : Nat) : l.take (k + n) = l.take k ++ (l.drop k).take n:=by rw [List.take_add]
theorem wr_more {s s1 : St} {l out : List UInt8} {k n : Nat} (h : wr s (l.take k) = (s1,out,k)) (h3 : s1.place = 3) (hb : s1.bad = 0) (h1 : 1 ≤ n) (hn : n ≤ s1.left) (hk : k + n ≤ l.length) :
  wr s (l.take (k + n)) = (dat s1 n,out ++ (l.drop k).take n,k + n):=by
 have hl : ((l.drop k).take n).length = n:=by rw [List.length_take,List.length_drop]; omega
 have:=wr_dat ((l.drop k).take n) s1 h3 hb (by omega) (by omega)
 rw [hl] at this
 rw [take_add',wr_append,h]
 simp only
 rw [this]
theorem wr_one {s s1 : St} {l out : List UInt8} {k : Nat} (h : wr s (l.take k) = (s1,out,k)) (h3 : s1.place ≠ 3) (h8 : s1.place ≠ 8) (hb : s1.bad = 0) (hk : k < l.length) (hs : (Ck.step s1 l[k]).bad = 0) :
  wr s (l.take (k + 1)) = (Ck.step s1 l[k],out,k + 1):=by
 rw [List.take_succ_eq_append_getElem hk,wr_append,h]
 simp only
 rw [wr_go (by omega) (by omega),if_neg h3]
 simp [wr]
theorem wr_fail {s s1 : St} {l out : List UInt8} {k : Nat} (h : wr s (l.take k) = (s1,out,k)) (h8 : s1.place ≠ 8) (hb : s1.bad = 0) (hk : k < l.length) (hs : (Ck.step s1 l[k]).bad ≠ 0) :
  wr s l = (Ck.step s1 l[k],out,k):=by
 have:=wr_append (l.take k) (l.drop k) s
 rw [List.take_append_drop,h,List.drop_eq_getElem_cons hk] at this
 simp only at this
 rw [wr_bad (by omega) hs] at this
 rw [this]
 simp
theorem drop_cells {w : World} {A : Option Addr} {cap k n : Nat} {l : List UInt8} (h : Rd w 1 (.slice A l.length cap) l.length (u8s l)) (hk : k + n ≤ l.length) {b1 o1 : Nat} (hA : A = some ⟨b1,o1,none⟩) :
  ∀ j u,(u8s ((l.drop k).take n))[j]? = some u → w.cell? ((⟨b1,o1 + k,none⟩ : Addr).add j) = some u:=by
 obtain ⟨A',c',e,hc,hl,hr⟩:=h
 cases e; intro j u hu; have hj : j < n:=by
  rcases Nat.lt_or_ge j n with h1 | h1
  ·exact h1
  ·rw [List.getElem?_eq_none (by rw [u8s_length,List.length_take]; omega)] at hu; cases hu
 obtain ⟨b,o,e,hb,hx⟩:=hr (by omega)
 rw [hA] at e
 cases e; have hadd : (⟨b1,o1 + k,none⟩ : Addr).add j = ⟨b1,o1 + k + j,none⟩:=by unfold Addr.add; split <;> simp_all
 rw [hadd,Nat.add_assoc]
 refine hx (k + j) u ?_
 rw [← hu]
 unfold u8s
 rw [List.getElem?_map,List.getElem?_map,List.getElem?_take,if_pos hj,List.getElem?_drop]
end Ck
namespace Ck
theorem Decv.three {w : World} {g : Nat} {F : Nat → Prop} {s : St} (h : Decv w g F s .nilIface) (hb0 : s.bad = 0) (h3 : s.place = 3) :
  w.cell? ⟨g,0,none⟩ = some (.int .i64 3) ∧ w.cell? ⟨g,3,none⟩ = some (.int .i64 (s.left : Int)) ∧ w.cell? ⟨g,9,none⟩ = some .nilIface ∧ w.frozen? ⟨g,0,none⟩ = false ∧ w.frozen? ⟨g,3,none⟩ = false ∧ w.frozen? ⟨g,9,none⟩ = false:=by
 obtain ⟨hF,hlt,p,l,d,z,t,vt,ca,tr,vf,hb,h7,hR⟩:=h
 obtain ⟨-,hfit,-⟩:=hR hb0
 have hp : p = 3:=by rw [hfit.1,h3]; rfl
 obtain ⟨rfl,rfl⟩:=hfit.2.2.1 h3
 subst hp; exact ⟨hb.cell 0,hb.cell 3,hb.cell 9,hb.frozen 0,hb.frozen 3,hb.frozen 9⟩
end Ck
namespace Ck
theorem Decv.nine {w : World} {g : Nat} {F : Nat → Prop} {s : St} {ev : Value} (h : Decv w g F s ev) : w.cell? ⟨g,9,none⟩ = some ev ∧ w.frozen? ⟨g,9,none⟩ = false:=by
 obtain ⟨hF,hlt,p,l,d,z,t,vt,ca,tr,vf,hb,h7,hR⟩:=h
 exact ⟨hb.cell 9,hb.frozen 9⟩
end Ck
set_option maxRecDepth 100000 in
set_option maxHeartbeats 16000000 in
theorem write_any {g : Nat} {W0 : World} {F : Nat → Prop} (s : St) (hd : Decv W0 g F s (errV s.bad)) (l : List UInt8) (A : Option Addr) (cap : Nat) (hR : Rd W0 1 (.slice A l.length cap) l.length (u8s l)) (hO : 0 < l.length → Off F (.slice A l.length cap)) (hm : l.length ≤ 1000000000) :
  Calls Tryz.prog 57 #[.pointer (some ⟨g,0,none⟩),.slice A l.length cap] W0 (WriteR W0 g F s l):=by
 obtain ⟨A',c',e',hcap,-,hr⟩:=hR
 cases e'; have hR : Rd W0 1 (.slice A l.length cap) l.length (u8s l):=⟨A,cap,rfl,hcap,u8s_length l ▸ (by omega),hr⟩
 replace hR:=Hj hR; replace hO:=Hj hO; have hst : WI W0 g F s l (.slice none 0 0) (.int .i64 0) W0:=⟨0,s,[],F,rfl,Nat.zero_le _,Nat.le_refl _,Hj (by
   by_cases h : s.bad = 0
   ·exact .inl ⟨h,rfl⟩
   ·exact .inr ⟨h,wr_stop (.inl h) l⟩),Hj (own_nil _ _ _ _),Hj (fun k hk => by cases hk),Hj hd,Hj (fun k h => .inl h),Hj (Kp.refl _ _)⟩
 have hRd : l.length ≤ cap ∧ (0 < l.length → ∃ b off,A = some ⟨b,off,none⟩ ∧ b < W0.heap.size ∧ True):=⟨hcap,fun h => by obtain ⟨b,o,e,hb,-⟩:=hr h; exact ⟨b,o,e,hb,trivial⟩⟩
 clear hr hd; go_enter Tryz.func57,Tryz.ntmps57
 go_wp2; go_loopw [4,5] (fun b i wx => WI W0 g F s l b i wx) (fun b i wx => 2 * (l.length - (intOf i).toNat) + errN wx g)
 case atStart => exact hst
 case round =>
  obtain ⟨k,s1,out,F1,rfl,hk,hol,hJ,hOw,hOf,hD,hFF,hKp⟩:=hrel
  obtain ⟨hF1,hlt1,p,l1,d1,z1,t1,vt,ca,tr,vf,hb,h7,hRR⟩:=hD.out
  have c0:=hb.cell 0; have c3:=hb.cell 3; have c9:=hb.cell 9; have f0:=hb.frozen 0; have f3:=hb.frozen 3; have f9:=hb.frozen 9; simp only [cells] at c0 c3 c9
  by_cases hkl : k < l.length
  ·by_cases hb0 : s1.bad = 0
   ·rw [hb0] at c9
    replace c9 : wr.cell? ⟨g,9,none⟩ = some .nilIface:=c9
    obtain ⟨hok,hfit,rfl,rfl,ht,hf,hFt,hFf⟩:=hRR hb0
    have hJ2 : Ck.wr s (l.take k) = (s1,out,k):=by
     rcases hJ.out with h | h
     ·exact h.2
     ·exact absurd hb0 h.1
    by_cases h8 : s1.place = 8
    ·have hp : p = 7:=h7.2 h8
     subst hp; have hfin:=Hj (WI.fin (wr_end hk hJ.out (.inr (.inr h8))) hOw.out hOf.out hD.out hFF.out hKp.out); rw [hb0] at hfin
     replace hfin : Hid (WriteR W0 g F s l (.returned (.tuple #[u4,.int .i64 (k : Int),.nilIface])) wr.drew):=hfin
     replace h8:=Hj h8; replace hb0:=Hj hb0; replace hok:=Hj hok; replace hfit:=Hj hfit; clear hb h7 hRR hst ht hf hFt hFf hJ2; go_wp2; go_region
     go_wp2; go_ret3
     exact hfin.out
    ·have hp7 : p ≠ 7:=fun e => h8 (h7.1 e)
     have q7 : (p != 7) = true:=by rw [bne_iff_ne]; exact hp7
     have he9:=errN_nil c9; have hdk:=hD.out; rw [hb0] at hdk
     by_cases h3 : s1.place = 3
     ·have hp : p = 3:=by rw [hfit.1,h3]; rfl
      subst hp; obtain ⟨rfl,rfl⟩:=hfit.2.2.1 h3
      have hdat:=hok.data h3; obtain ⟨b1,o1,rfl,hb1,-⟩:=hRd.2 (by omega)
      by_cases hAB : s1.left ≤ l.length - k
      ·obtain ⟨n,hn⟩ : ∃ n : Nat,n = s1.left:=⟨_,rfl⟩
       have hn1 : 1 ≤ n:=by omega
       have hnl : n ≤ s1.left:=by omega
       have hnk : k + n ≤ l.length:=by omega
       have hmin : (s1.left : Int) = (n : Int):=by omega
       have hmm : min (n : Int) ((l.length : Int) - (k : Int)) = (n : Int):=by omega
       have htn : ((k : Int) + (n : Int)).toNat - k = n:=by omega
       have hmore:=wr_more hJ2 h3 hb0 hn1 hnl hnk; have hlen : ((l.drop k).take n).length = n:=by rw [List.length_take,List.length_drop]; omega
       have hcel:=drop_cells (n:=n) (Rd.kp hR.out (hO.out (by omega)) hKp.out) hnk rfl; have hnew1:=u8s_one ((l.drop k).take n); have hnl2 : (u8s ((l.drop k).take n)).length = n * 1:=by rw [u8s_length,hlen,Nat.mul_one]
       obtain ⟨Ab,capb,rfl,-,-,-⟩:=Rd.own hOw.out
       replace hcel:=Hj hcel; replace hn:=Hj hn; replace hnew1:=Hj hnew1; replace hnl2:=Hj hnl2; replace hmore:=Hj hmore; replace hok:=Hj hok; replace hfit:=Hj hfit; replace hJ2:=Hj hJ2; replace hdk:=Hj hdk; replace h3:=Hj h3; replace hb0:=Hj hb0; replace h8:=Hj h8; replace hlt1:=Hj hlt1; have hKs:=hKp.out.size; clear hb h7 hRR hst ht hf hFt hFf hJ hRd; go_wp2_with (at_builtin; go_loud (refine step_pushB (v:=Value.slice Ab out.length capb) (n:=out.length) (m:=n) (c:=cap - k) (xs:=u8s out) (news:=u8s ((l.drop k).take n)) (ad:=⟨b1,o1 + k,none⟩) (B:=W0.heap.size) 23 5 (.int .u8 0) 1 1 _ _ rfl rfl Tryz.underlying23 infoU8 rfl (by decide) (by decide) rfl hOw.out rfl hnl2.out hcel.out hnew1.out (by omega) hKs ?_); intro v5 w5 ho5 hg5 hat5; obtain ⟨A5,cap5,rfl,-,-,-⟩:=Rd.own ho5; have hK5:=Hj ((Kp.refl (fun k => (Value.slice Ab out.length capb).ownBlock = some k) wr).grown hg5 (fun k hk _ => hk)); have hD5:=Hj (hdk.out.kp hK5.out (fun k h e => hOf.out k e h)); replace ho5:=Hj ho5; replace hat5:=Hj hat5; clear hg5 c0 c3 c9 f0 f3 f9; obtain ⟨c0,c3,c9,f0,f3,f9⟩:=Decv.three hD5.out (hb0.out) h3.out)
       have hdt:=hD5.out.dat hb0.out h3.out hnl (w':=_) (.inr ⟨hn.out,rfl⟩); obtain ⟨hD6,hK6⟩:=hdt
       have hoff5 : Off F1 (Value.slice A5 (out.length + n) cap5):=fun j hj hF => by
        rcases hat5.out with h | h
        ·exact hOf.out j (by rw [← h]; exact hj) hF
        ·rw [h] at hj; injection hj with hj; have:=hlt1.out j hF; omega
       have hog : ∀ j,(Value.slice A5 (out.length + n) cap5).ownBlock = some j → ¬ (j = g):=fun j hj e => by subst e; exact hoff5 j hj hD5.out.1
       have ho6:=ho5.out.kp hog hK6; have hKK:=(hKp.out.next (fun j hj (e : (Value.slice Ab out.length capb).ownBlock = some j) => absurd ((World.ownsRow.lt hOw.out j e).1) (by omega)) hK5.out).next (fun j hj (e : j = g) => by
        subst e; rcases hFF.out j hD5.out.1 with h | h
        ·exact h
        ·omega) hK6
       refine ⟨⟨k + n,dat s1 n,out ++ (l.drop k).take n,F1,by go_num,hnk,by rw [List.length_append,hlen]; omega,Hj (.inl ⟨by rw [dat_bad]; exact hb0.out,hmore.out⟩),?_,?_,?_,hFF,Hj hKK⟩,?_⟩
       ·rw [List.length_append,hlen,u8s_app]; exact Hj ho6
       ·exact Hj hoff5
       ·rw [dat_bad,hb0.out]; exact Hj hD6
       ·refine Nat.lt_of_le_of_lt (Nat.add_le_add_left (errN_le _ _) _) ?_
        simp only [intOf]; omega
      ·obtain ⟨n,hn⟩ : ∃ n : Nat,n = (l.length - k):=⟨_,rfl⟩
       have hn1 : 1 ≤ n:=by omega
       have hnl : n ≤ s1.left:=by omega
       have hnk : k + n ≤ l.length:=by omega
       have hmin : (l.length : Int) - (k : Int) = (n : Int):=by omega
       have hmm : min (s1.left : Int) (n : Int) = (n : Int):=by omega
       have htn : ((k : Int) + (n : Int)).toNat - k = n:=by omega
       have hmore:=wr_more hJ2 h3 hb0 hn1 hnl hnk; have hlen : ((l.drop k).take n).length = n:=by rw [List.length_take,List.length_drop]; omega
       have hcel:=drop_cells (n:=n) (Rd.kp hR.out (hO.out (by omega)) hKp.out) hnk rfl; have hnew1:=u8s_one ((l.drop k).take n); have hnl2 : (u8s ((l.drop k).take n)).length = n * 1:=by rw [u8s_length,hlen,Nat.mul_one]
       obtain ⟨Ab,capb,rfl,-,-,-⟩:=Rd.own hOw.out
       replace hcel:=Hj hcel; replace hn:=Hj hn; replace hnew1:=Hj hnew1; replace hnl2:=Hj hnl2; replace hmore:=Hj hmore; replace hok:=Hj hok; replace hfit:=Hj hfit; replace hJ2:=Hj hJ2; replace hdk:=Hj hdk; replace h3:=Hj h3; replace hb0:=Hj hb0; replace h8:=Hj h8; replace hlt1:=Hj hlt1; have hKs:=hKp.out.size; clear hb h7 hRR hst ht hf hFt hFf hJ hRd; go_wp2_with (at_builtin; go_loud (refine step_pushB (v:=Value.slice Ab out.length capb) (n:=out.length) (m:=n) (c:=cap - k) (xs:=u8s out) (news:=u8s ((l.drop k).take n)) (ad:=⟨b1,o1 + k,none⟩) (B:=W0.heap.size) 23 5 (.int .u8 0) 1 1 _ _ rfl rfl Tryz.underlying23 infoU8 rfl (by decide) (by decide) rfl hOw.out rfl hnl2.out hcel.out hnew1.out (by omega) hKs ?_); intro v5 w5 ho5 hg5 hat5; obtain ⟨A5,cap5,rfl,-,-,-⟩:=Rd.own ho5; have hK5:=Hj ((Kp.refl (fun k => (Value.slice Ab out.length capb).ownBlock = some k) wr).grown hg5 (fun k hk _ => hk)); have hD5:=Hj (hdk.out.kp hK5.out (fun k h e => hOf.out k e h)); replace ho5:=Hj ho5; replace hat5:=Hj hat5; clear hg5 c0 c3 c9 f0 f3 f9; obtain ⟨c0,c3,c9,f0,f3,f9⟩:=Decv.three hD5.out (hb0.out) h3.out)
       have hdt:=hD5.out.dat hb0.out h3.out hnl (w':=_) (.inl ⟨by omega,rfl⟩); obtain ⟨hD6,hK6⟩:=hdt
       have hoff5 : Off F1 (Value.slice A5 (out.length + n) cap5):=fun j hj hF => by
        rcases hat5.out with h | h
        ·exact hOf.out j (by rw [← h]; exact hj) hF
        ·rw [h] at hj; injection hj with hj; have:=hlt1.out j hF; omega
       have hog : ∀ j,(Value.slice A5 (out.length + n) cap5).ownBlock = some j → ¬ (j = g):=fun j hj e => by subst e; exact hoff5 j hj hD5.out.1
       have ho6:=ho5.out.kp hog hK6; have hKK:=(hKp.out.next (fun j hj (e : (Value.slice Ab out.length capb).ownBlock = some j) => absurd ((World.ownsRow.lt hOw.out j e).1) (by omega)) hK5.out).next (fun j hj (e : j = g) => by
        subst e; rcases hFF.out j hD5.out.1 with h | h
        ·exact h
        ·omega) hK6
       refine ⟨⟨k + n,dat s1 n,out ++ (l.drop k).take n,F1,by go_num,hnk,by rw [List.length_append,hlen]; omega,Hj (.inl ⟨by rw [dat_bad]; exact hb0.out,hmore.out⟩),?_,?_,?_,hFF,Hj hKK⟩,?_⟩
       ·rw [List.length_append,hlen,u8s_app]; exact Hj ho6
       ·exact Hj hoff5
       ·rw [dat_bad,hb0.out]; exact Hj hD6
       ·refine Nat.lt_of_le_of_lt (Nat.add_le_add_left (errN_le _ _) _) ?_
        simp only [intOf]; omega
     ·have q3 : (p == 3) = false:=by
       rw [beq_eq_false_iff_ne,hfit.1]
       have hpl:=hok.place; rcases (show s1.place = 0 ∨ s1.place = 1 ∨ s1.place = 2 ∨ s1.place = 4 ∨ s1.place = 5 ∨ s1.place = 6 ∨ s1.place = 7 by omega) with e | e | e | e | e | e | e <;> rw [e] <;> decide
      obtain ⟨A',c',e',-,-,r'⟩:=Rd.kp hR.out (hO.out (by omega)) hKp.out
      cases e'; obtain ⟨b1,o1,rfl,hb1,x1⟩:=r' (by omega)
      have d1 : wr.cell? ⟨b1,o1 + k,none⟩ = some (.int .u8 (l[k].toNat : Int)):=x1 k _ (u8s_at hkl)
      have hC:=cstep_any s1 hdk hb0 h3 h8 l[k]; have hone:=wr_one hJ2 h3 h8 hb0 hkl; have hfl:=wr_fail hJ2 h8 hb0 hkl; generalize l[k] = c at *; generalize Ck.step s1 c = s2 at *; have hKs:=hKp.out.size; by_cases hb2 : s2.bad = 0
      ·rw [hb2] at hC
       replace hC : Calls Tryz.prog 79 #[.pointer (some ⟨g,0,none⟩),.int .u8 (c.toNat : Int)] wr fun e w' => e = .returned .nilIface ∧ Stp wr g F1 s2 .nilIface w':=hC
       have hone':=Hj (hone hb2); replace hC:=Hj hC; replace hb2:=Hj hb2; replace hok:=Hj hok; replace hfit:=Hj hfit; replace hJ2:=Hj hJ2; replace hdk:=Hj hdk; replace h3:=Hj h3; replace hb0:=Hj hb0; replace h8:=Hj h8; replace hlt1:=Hj hlt1; clear hb h7 hRR hst ht hf hFt hFf hJ hRd hone hfl x1 r' hp7; go_wp2_with fail
       refine hC.out.mono ?_
       rintro e w6 ⟨rfl,F2,hD6,hF6,hK6⟩
       obtain ⟨c6,f6⟩:=hD6.nine
       replace hD6:=Hj hD6; replace hF6:=Hj hF6; replace hK6:=Hj hK6; go_wp2; have hoff : Off F2 u4:=fun j hj hF => by
        rcases hF6.out j hF with h | h
        ·exact hOf.out j hj h
        ·have:=hOw.out.lt hj; omega
       have hD7:=hD6.out.err .nilIface; have hK7:=(Kp.refl (· = g) w6).set_ (fun _ => rfl) 9 .nilIface; have hOw7:=(hOw.out.kp hOf.out hK6.out).kp (fun j hj (e : j = g) => by subst e; exact hoff j hj hD6.out.1) hK7
       have hKK:=(hKp.out.next (fun j hj e => by
        rcases hFF.out j e with h | h
        ·exact h
        ·omega) hK6.out).next (fun j hj (e : j = g) => by
        subst e; rcases hF6.out j hD6.out.1 with h | h
        ·rcases hFF.out j h with h | h
         ·exact h
         ·omega
        ·omega) hK7
       refine ⟨⟨k + 1,s2,out,F2,by go_num,by omega,by omega,Hj (.inl ⟨hb2.out,hone'.out⟩),Hj hOw7,Hj hoff,?_,?_,Hj hKK⟩,?_⟩
       ·rw [hb2.out]; exact Hj hD7
       ·refine Hj (fun j hj => ?_)
        rcases hF6.out j hj with h | h
        ·exact hFF.out j h
        ·exact .inr (by omega)
       ·refine Nat.lt_of_le_of_lt (Nat.add_le_add_left (errN_le _ _) _) ?_
        simp only [intOf]; omega
      ·have hfl':=Hj (hfl hb2)
       have hev:=errV_ne (n:=(s2.bad : Int)) (by omega); rw [hev] at hC
       replace hev:=Hj hev; replace hC:=Hj hC; replace hb2:=Hj hb2; replace hok:=Hj hok; replace hfit:=Hj hfit; replace hJ2:=Hj hJ2; replace hdk:=Hj hdk; replace h3:=Hj h3; replace hb0:=Hj hb0; replace h8:=Hj h8; replace hlt1:=Hj hlt1; clear hb h7 hRR hst ht hf hFt hFf hJ hRd hone hfl x1 r' hp7; go_wp2_with fail
       refine hC.out.mono ?_
       rintro e w6 ⟨rfl,F2,hD6,hF6,hK6⟩
       obtain ⟨c6,f6⟩:=hD6.nine
       replace hD6:=Hj hD6; replace hF6:=Hj hF6; replace hK6:=Hj hK6; go_wp2; have hoff : Off F2 u4:=fun j hj hF => by
        rcases hF6.out j hF with h | h
        ·exact hOf.out j hj h
        ·have:=hOw.out.lt hj; omega
       have hD7:=hD6.out.err (.iface 57 (.int .i64 (s2.bad : Int))); have hK7:=(Kp.refl (· = g) w6).set_ (fun _ => rfl) 9 (.iface 57 (.int .i64 (s2.bad : Int))); have hOw7:=(hOw.out.kp hOf.out hK6.out).kp (fun j hj (e : j = g) => by subst e; exact hoff j hj hD6.out.1) hK7
       have hKK:=(hKp.out.next (fun j hj e => by
        rcases hFF.out j e with h | h
        ·exact h
        ·omega) hK6.out).next (fun j hj (e : j = g) => by
        subst e; rcases hF6.out j hD6.out.1 with h | h
        ·rcases hFF.out j h with h | h
         ·exact h
         ·omega
        ·omega) hK7
       refine ⟨⟨k,s2,out,F2,rfl,by omega,hol,Hj (.inr ⟨hb2.out,hfl'.out⟩),Hj hOw7,Hj hoff,?_,?_,Hj hKK⟩,?_⟩
       ·rw [hev.out]; exact Hj hD7
       ·refine Hj (fun j hj => ?_)
        rcases hF6.out j hj with h | h
        ·exact hFF.out j h
        ·exact .inr (by omega)
       ·rw [errN_err hD7.nine.1,he9]; omega
   ·have hfin:=Hj (WI.fin (wr_end hk hJ.out (.inr (.inl hb0))) hOw.out hOf.out hD.out hFF.out hKp.out)
    have hev:=errV_ne (n:=(s1.bad : Int)) (by omega); rw [hev] at c9 hfin
    replace hb0:=Hj hb0; clear hb h7 hRR hst; go_wp2; go_region
    go_wp2; go_ret3
    exact hfin.out
  ·obtain rfl : k = l.length:=by omega
   have hfin:=Hj (WI.fin (wr_end hk hJ.out (.inl rfl)) hOw.out hOf.out hD.out hFF.out hKp.out); clear hb h7 hRR hst; generalize errV s1.bad = ev at *; go_wp2; go_region
   go_wp2; go_ret3
   exact hfin.out
end Go.Proofs.YtjffffpfejmoiaaGreatDoor
namespace Go.Proofs.YtjffffpfejmoiaaGreatDoor
open Go.RowKit Syn Ck
set_option maxHeartbeats 1000000 in
theorem cnew_any (w : World) : Calls Tryz.prog 56 #[] w fun e w' => e = .returned (.pointer (some ⟨w.heap.size,0,none⟩)) ∧ w' = w.alloc (.cells (cells 0 0 0 0 0 (.slice none 0 0) false 0 (.slice none 0 0) .nilIface) 137):=by
 go_enter Tryz.func56,Tryz.ntmps56
 go_wp2; go_ret; exact ⟨rfl,rfl⟩
theorem Ck.Decv.new (w : World) : Decv (w.alloc (.cells (cells 0 0 0 0 0 (.slice none 0 0) false 0 (.slice none 0 0) .nilIface) 137)) w.heap.size (· = w.heap.size) zero (errV (zero.bad : Int)):=by
 refine ⟨rfl,fun k h => by rw [h,alloc_size']; omega,0,0,0,0,0,_,_,_,_,Blk.new w _ _,by decide,fun _ => ⟨ok_zero,⟨rfl,fun _ => ⟨rfl,rfl,rfl,rfl⟩,fun e => absurd e (by decide),fun e => absurd e (by decide)⟩,rfl,rfl,own_nil _ _ _ _,own_nil _ _ _ _,fun k h => (by cases h),fun k h => (by cases h)⟩⟩
set_option maxHeartbeats 1000000 in
theorem cdone_any {w : World} {g : Nat} {F : Nat → Prop} {s : St} {ev : Value} (hd : Decv w g F s ev) :
  Calls Tryz.prog 58 #[.pointer (some ⟨g,0,none⟩)] w fun e w' => e = .returned (.bool (decide (s.place = 8))) ∧ w' = w:=by
 obtain ⟨hF,hlt,p,l,d,z,t,vt,ca,tr,vf,hb,h7,hR⟩:=hd
 have c0:=hb.cell 0; simp only [cells] at c0
 clear hR hb; by_cases h : p = 7
 ·rw [decide_eq_true (h7.1 h)]
  subst h; clear h7; go_enter Tryz.func58,Tryz.ntmps58
  go_wp2; go_ret; exact ⟨rfl,rfl⟩
 ·rw [decide_eq_false (fun e => h (h7.2 e))]
  have q : (p == 7) = false:=beq_eq_false_iff_ne.2 h
  clear h7; replace h:=Hj h; go_enter Tryz.func58,Tryz.ntmps58
  go_wp2; go_ret; exact ⟨rfl,rfl⟩
theorem prs_one (l : List (List UInt8 × List UInt8)) : ∀ u ∈ prs l,u.oneCell' = true:=by
 intro u hu; unfold prs at hu
 rw [List.mem_flatMap] at hu
 obtain ⟨x,-,h⟩:=hu
 rw [List.mem_cons,List.mem_singleton] at h
 rcases h with rfl | rfl <;> rfl
set_option maxRecDepth 100000 in
set_option maxHeartbeats 4000000 in
theorem fclone_any (l : List (List UInt8 × List UInt8)) (v : Value) (w : World) (ho : Own w 0 26 2 v l.length (prs l)) (hm : l.length ≤ 1000) :
  Calls Tryz.prog 80 #[v] w fun e w' => ∃ v',e = .returned v' ∧ Own w' w.heap.size 26 2 v' l.length (prs l) ∧ Below w.heap.size w w':=by
 have hl:=prs_length l; have q22 : ∀ (w : World) (a : Option Addr) (n c n' c' : Nat),(binOp .eql 28 (.slice a n c) (.slice none n' c')).run Tryz.prog w = .ok (.bool a.isNone) w:=fun w a n c n' c' => Lib.run_eql_slice_nil w _ _ a n c n' c' Tryz.underlying28
 rcases id ho with ⟨-,⟨rfl,h0⟩ | ⟨g,cap,cur,rfl,-⟩⟩
 ·have hl0:=List.eq_nil_of_length_eq_zero h0
  subst hl0; clear ho hl; go_enter Tryz.func80,Tryz.ntmps80
  go_wp2; go_ret; exact ⟨_,rfl,own_nil _ _ _ _,Below.refl _ _⟩
 ·have hcel : Hid (∀ j u,(prs l)[j]? = some u → (w.alloc (.cells #[] 26)).cell? ((⟨g,0,none⟩ : Addr).add j) = some u):=Hj (ho.alloc _ |>.cells rfl)
  have hmade:=Hj (World.ownsRow_made (base:=w.heap.size) (size:=2) (e:=26) w #[] 0 (Nat.le_refl _) (Nat.zero_le _) rfl); replace hl:=Hj hl; have hn1:=Hj (prs_one l); have hwb:=Hj ((Below.refl w.heap.size w).alloc (Nat.le_refl _) (.cells #[] 26)); have hsz:=alloc_size' w (.cells #[] 26); replace hsz:=Hj hsz; clear ho; go_enter Tryz.func80,Tryz.ntmps80
  go_wp2_with (at_builtin; go_loud (refine step_push (B:=w.heap.size) (n:=0) (m:=l.length) (c:=cap) (xs:=[]) (news:=prs l) (ad:=⟨g,0,none⟩) 28 26 (.agg #[.string ⟨#[]⟩,.string ⟨#[]⟩]) 2 32 _ _ rfl rfl Tryz.underlying28 infoCF rfl (by decide) (by decide) rfl hmade.out rfl hl.out hcel.out hn1.out (by omega) (by rw [hsz.out]; omega) ?_); intro v2 w2 ho2 hb2 _; replace ho2:=Hj ho2; replace hb2:=Hj hb2)
  go_ret; exact ⟨_,rfl,by have:=ho2.out; rw [Nat.zero_add] at this; exact this,hwb.out.trans hb2.out⟩
set_option maxHeartbeats 4000000 in
theorem ctrail_any {w : World} {g : Nat} {F : Nat → Prop} {s : St} {ev : Value} (hd : Decv w g F s ev) (hgood : s.place = 8 → s.bad = 0) :
  Calls Tryz.prog 59 #[.pointer (some ⟨g,0,none⟩)] w fun e w' =>
   ∃ v,e = .returned v ∧ Own w' w.heap.size 26 2 v (if s.place = 8 then s.fields else []).length (prs (if s.place = 8 then s.fields else [])) ∧ Below w.heap.size w w':=by
 have hD:=Hj (cdone_any hd); by_cases h8 : s.place = 8
 ·rw [decide_eq_true h8] at hD
  rw [if_pos h8]
  obtain ⟨hF,hlt,p,l,d,z,t,vt,ca,tr,vf,hb,h7,hR⟩:=hd
  obtain ⟨hok,-,-,-,-,hf,-⟩:=hR (hgood h8)
  have c8:=hb.cell 8; simp only [cells] at c8
  have hC:=Hj (fclone_any s.fields vf w hf (by have:=hok.fields; omega))
  clear hR hb h7 hlt hF hf hok hgood; replace h8:=Hj h8; go_enter Tryz.func59,Tryz.ntmps59
  go_wp2_with fail
  refine hD.out.mono ?_
  rintro e w' ⟨rfl,rfl⟩
  go_wp2_with fail
  refine hC.out.mono ?_
  rintro e w2 ⟨v,rfl,ho,hb⟩
  replace ho:=Hj ho; replace hb:=Hj hb; go_wp2; go_ret; exact ⟨_,rfl,ho.out,hb.out⟩
 ·rw [decide_eq_false h8] at hD
  rw [if_neg h8]
  clear hgood hd; replace h8:=Hj h8; go_enter Tryz.func59,Tryz.ntmps59
  go_wp2_with fail
  refine hD.out.mono ?_
  rintro e w' ⟨rfl,rfl⟩
  go_wp2; go_ret; exact ⟨_,rfl,own_nil _ _ _ _,Below.refl _ _⟩
namespace Ck
end Ck
end Go.Proofs.YtjffffpfejmoiaaGreatDoor
