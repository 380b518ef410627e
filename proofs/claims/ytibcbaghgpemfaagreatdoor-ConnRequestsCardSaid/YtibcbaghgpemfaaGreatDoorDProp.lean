import Derived.Test.YtibcbaghgpemfaaGreatDoorNDocP
import Derived.Test.YtibcbaghgpemfaaGreatDoorDRef
namespace Go.Proofs.YtibcbaghgpemfaaGreatDoor
open Go.RowKit Syn Hd Fr Ck
namespace Cn
theorem NA_at : ∀ {l : List Ev} {p : Bool},NA p l → ∀ {i : Nat} (hi : i < l.length),l[i].kind = 2 → l[i].data ≠ [] ∧ (i = 0 → p = false) ∧ (∀ (h0 : 0 < i),l[i - 1].kind ≠ 2)
 | [],_,_,i,hi,_ => absurd hi (Nat.not_lt_zero i)
 | e :: l,p,h,0,_,hk => ⟨(h.1 hk).2,fun _ => (h.1 hk).1,fun h0 => absurd h0 (Nat.lt_irrefl 0)⟩
 | e :: l,p,h,i + 1,hi,hk => by
  have hi2 : i < l.length:=by simpa using hi
  obtain ⟨h1,h2,h3⟩:=NA_at h.2 hi2 hk
  refine ⟨h1,fun e => (by cases e),fun _ => ?_⟩
  show (e :: l)[i].kind ≠ 2
  cases i with
  | zero => exact of_decide_eq_false (h2 rfl)
  | succ i => exact h3 (Nat.succ_pos i)
end Cn
set_option maxRecDepth 100000 in
set_option maxHeartbeats 8000000 in
theorem proper_any {l : List Cn.Ev} {P : Nat → Prop} {xs : List Value} (v : Value) (w : World) (hE : Cn.EvsC w P l xs) (hR : Rd w 8 v l.length xs) (hN : Cn.NA false l) (hn : l.length ≤ 1000000) :
  Calls Tryz.prog 75 #[v] w fun e w' => e = .returned (.bool true) ∧ w' = w:=by
 obtain ⟨A,cap,rfl,hcap,-,-⟩:=id hR; replace hR:=Hj hR; replace hE:=Hj hE; replace hN:=Hj hN; go_enter Tryz.func75,Tryz.ntmps75
 go_wp2; go_loopw [3] (fun i wr => ∃ k : Nat,i = .int .i64 (k : Int) ∧ k ≤ l.length ∧ wr = w) (fun i _ => l.length - (intOf i).toNat)
 case atStart => exact ⟨0,rfl,by omega,rfl⟩
 case round =>
  obtain ⟨k,rfl,hk,hw⟩:=hrel
  by_cases hlt : k < l.length
  ·obtain ⟨zs,hz,hx⟩:=hE.out.at_ hlt
   have hna:=Cn.NA_at hN.out hlt; obtain ⟨A',cap',e',-,-,r'⟩:=hR.out
   cases e'; obtain ⟨b1,o1,rfl,_,x1⟩:=r' (by omega)
   have hprev : ∀ h0 : 0 < k,w.cell? ⟨b1,o1 + (k - 1) * 8,none⟩ = some (.int .i64 (l[k - 1].kind : Int)):=fun h0 => by
    obtain ⟨us,hu,hux⟩:=hE.out.at_ (i:=k - 1) (by omega)
    obtain ⟨_,_,_,_,rfl,-⟩:=hu
    exact x1 _ _ ((hux 0 (by decide)).trans rfl)
   obtain ⟨vr,vs,vd,vt,rfl,-,-,-,-,r3,-⟩:=hz
   obtain ⟨Ad,cd,rfl,-,-,-⟩:=id r3; have d0 : wr.cell? ⟨b1,o1 + k * 8,none⟩ = some (.int .i64 (l[k].kind : Int)):=by rw [hw]; exact x1 _ _ ((hx 0 (by decide)).trans rfl)
   have d6 : wr.cell? ⟨b1,o1 + k * 8 + 6,none⟩ = some (.slice Ad l[k].data.length cd):=by rw [hw]; exact x1 _ _ ((hx 6 (by decide)).trans rfl)
   clear x1 r' hx r3; have Hw:=Hj hw; by_cases h2 : l[k].kind = 2
   ·obtain ⟨n1,-,n3⟩:=hna h2
    have hd : ¬ ((l[k].data.length : Int) = 0):=fun h => n1 (List.length_eq_zero_iff.1 (by omega))
    by_cases h0 : 0 < k
    ·have hp : ¬ ((l[k - 1].kind : Int) = 2):=fun h => n3 h0 (by omega)
     have dp:=hprev h0; rw [← hw] at dp
     clear hw; have hkz : ((k : Int) - 1).toNat = k - 1:=by omega
     have hka : (0 : Int) ≤ (k : Int) - 1:=by omega
     have hkb : (k : Int) - 1 < (l.length : Int):=by omega
     rw [h2] at d0
     clear n3 hprev hna; generalize l[k].data.length = nd at *; generalize (l[k - 1]'(by omega)).kind = kd at *; have hb1 : ((nd : Int) == 0) = false:=beq_eq_false_iff_ne.2 hd
     have hb2 : ((kd : Int) == 2) = false:=beq_eq_false_iff_ne.2 hp
     go_wp2; go_roundw
     case rel => exact ⟨k + 1,by go_num,by omega,Hw.out⟩
     case measure => simp [intOf]; omega
    ·rw [h2] at d0
     clear n3 hprev hna hw; generalize l[k].data.length = nd at *; go_wp2; go_roundw
     case rel => exact ⟨k + 1,by go_num,by omega,Hw.out⟩
     case measure => simp [intOf]; omega
   ·have h2' : ¬ ((l[k].kind : Int) = 2):=by omega
    clear hprev hna hw; go_wp2; go_roundw
    case rel => exact ⟨k + 1,by go_num,by omega,Hw.out⟩
    case measure => simp [intOf]; omega
  ·obtain rfl : k = l.length:=by omega
   go_wp2; go_ret; exact ⟨rfl,by first | exact hw | rfl⟩
end Go.Proofs.YtibcbaghgpemfaaGreatDoor
