/-
  The contract of core.Vals: an iterator over what an instruction takes.
-/
import Derived.Deep.LoopGhost
import Derived.Test.YtbnnhmcloecijaaGreatDoorJSsaP
set_option maxRecDepth 100000
set_option maxHeartbeats 16000000
namespace Go.Proofs.YtbnnhmcloecijaaGreatDoor
open Go.RowKit

theorem KK {i:Nat} {ps:List PhiL} {s:(Nat→Int×Int)×Bool} {j:Nat} (h:j<ps.length):((j5 i ps).take (j+1)).foldl qH s=qH (((j5 i ps).take j).foldl qH s) ⟨ps[j].dst.toNat,i,-1⟩:=by
 have h2:j<(j5 i ps).length:=by unfold j5;simpa using h
 have e:(j5 i ps)[j]=⟨ps[j].dst.toNat,i,-1⟩:=by simp [j5]
 rw [yA h2,yh,e]
 rfl
theorem mH {i:Nat} {b:BlkL} {s:(Nat→Int×Int)×Bool}:(kD i b).foldl qH s=(z8 (kl i) 0 b.list).foldl qH ((j5 i b.phis).foldl qH s):=by
 unfold kD;rw [yh]
def Xm (w:World) (C:Nat) (f:FunL) (fp:Option Addr) (fc U B:Nat):Prop:=
 w.heap[C]?=some (.cells #[.string f.name,.int .i64 f.params,.int .i64 f.regs,.slice fp f.blocks.length fc,.slice (some ⟨U,0,none⟩) f.blocks.length f.blocks.length,.slice (some ⟨B,0,none⟩) f.regs.toNat f.regs.toNat] 116 (0,0))

theorem J4 (f:FunL) (fp:Option Addr) (fc C U B:Nat) (w0 w:World) (hS:FunR' f) (hF:SliceAt w0 6 (BlkR w0) fp f.blocks) (h0:Below w0.heap.size w0 w) (hB0:w0.heap.size≤B) (hCB:C≠B)
  (hbG:Xm w C f fp fc U B) (hR:w.rowIs B 114 (f.regs.toNat*2) (wrF wr0)) :
  Calls Tryz.prog 56 #[.pointer (some ⟨C,0,none⟩)] w fun e w'=>e = .returned (.bool (ZC f).2)∧w'.rowIs B 114 (f.regs.toNat*2) (wrF (ZC f).1)∧Kept (fun k=>k=B) w w':=by
 have HF:=q7 hF
 have HS:=q7 hS
 have H0:=q7 h0
 have HX:=q7 hbG
 have HR0:=q7 hR
 obtain ⟨hp1,hp2⟩:=hS.par
 have hhh:=hS.reg
 have n40:=hS.n40
 have hzC:=q8 hbG
 have hzB:=hR.lt
 obtain ⟨P,hP⟩:∃P:Nat,f.params=P:=⟨f.params.toNat,by omega⟩
 have hKB:∀W,Kept (fun k=>k=B) w W→Below w0.heap.size w0 W:=fun W hK=>H0.out.trans (hK.below H0.out.size fun i hi=>by omega)
 have hKX:∀W,Kept (fun k=>k=B) w W→W.cell? ⟨C,1,none⟩=some (.int .i64 f.params)∧W.cell? ⟨C,3,none⟩=some (.slice fp f.blocks.length fc)∧W.cell? ⟨C,5,none⟩=some (.slice (some ⟨B,0,none⟩) f.regs.toNat f.regs.toNat):=fun W hK=>by
  have h:=(hK.block C hzC hCB).trans HX.out
  exact ⟨(blk h).1 1,(blk h).1 3,(blk h).1 5⟩
 have HKB:=q7 hKB
 have HKX:=q7 hKX
 obtain ⟨x1,x3,x5⟩:=hKX _ (Kept.refl _ w)
 rw [hP] at x1
 have hPR:P≤f.regs.toNat:=by omega
 have hew:f.regs.toNat≤100:=by omega
 have HP:=q7 hP
 clear hF hS h0 hbG hR hKB hKX hP
 go_enter Tryz.func56,Tryz.ntmps56
 go_wp2_with fail
 go_loopg [16,3] P (fun q s16 s3 wr=>∃k:Nat,k≤P∧q=P - k∧s16 = .int .i64 k∧s3 = .bool ((vO k).foldl qH (wr0,true)).2∧wr.rowIs B 114 (f.regs.toNat*2) (wrF ((vO k).foldl qH (wr0,true)).1)∧Kept (fun k=>k=B) w wr)
 case atStart=>exact ⟨0,by omega,rfl,rfl,rfl,HR0.out,Kept.refl _ _⟩
 case round=>
  obtain ⟨k,hk,rfl,rfl,rfl,hR,hK⟩:=hrel
  have HK:=q7 hK
  clear hK x1 x3 x5 HR0
  obtain ⟨x1,x3,x5⟩:=HKX.out _ HK.out
  rw [HP.out] at x1
  by_cases hlt:k<P
  ·have hs:=congrArg (List.foldl qH (wr0,true)) (mr k)
   rw [yh] at hs
   have HSt:=q7 hs
   clear hs
   generalize (vO k).foldl qH (wr0,true)=st at *
   obtain ⟨wb,ok⟩:=st
   have HW:=q7 (X6 C B f.regs.toNat k 0 (-1) wb wr (by omega) (by omega) x5 hR)
   clear hR
   have hi6:(vO (k+1)).foldl qH (wr0,true)=(jQ wb k 0 (-1),decide ((wb k).1<0)&&ok):=HSt.out
   have haM:=q7 hi6
   clear hi6 HSt
   by_cases hw:(wb k).1<0
   all_goals
    have hd:decide ((wb k).1<0)=(decide ((wb k).1<0)):=rfl
    first|rw [decide_eq_true hw] at HW haM|rw [decide_eq_false hw] at HW haM
    have HWx:=q7 hw
    clear hw hd
    go_wp2_with fail
    refine HW.out.mono ?_
    rintro e w2 ⟨rfl,hR2,hK2⟩
    have HR2:=q7 hR2
    have HK2:=q7 (HK.out.trans hK2 (fun _ _ h=>h))
    clear hR2 hK2
    go_wp2_with fail
    go_roundg (P - (k+1))
    case measure=>omega
    case rel=>exact ⟨k+1,by omega,rfl,by go_num,by rw [haM.out];rfl,by rw [haM.out];exact HR2.out,HK2.out⟩
  obtain rfl:k=P:=by omega
  have hkI:(vO k).foldl qH (wr0,true)=(vO k++z8 kD 0 (f.blocks.take 0)).foldl qH (wr0,true):=by simp [z8]
  have hta:=q7 hkI
  rw [hkI] at hR ⊢
  have HR:=q7 hR
  clear hR hkI
  go_wp2_with fail
  clear x1 x3 x5
  obtain ⟨wp,rfl⟩:∃wp:World,wp=wr:=⟨_,rfl⟩
  go_loopg [32,3] f.blocks.length (fun q s32 s3 wr=>∃m:Nat,m≤f.blocks.length∧q=f.blocks.length - m∧s32 = .int .i64 m∧s3 = .bool ((vO k++z8 kD 0 (f.blocks.take m)).foldl qH (wr0,true)).2∧wr.rowIs B 114 (f.regs.toNat*2) (wrF ((vO k++z8 kD 0 (f.blocks.take m)).foldl qH (wr0,true)).1)∧Kept (fun k=>k=B) w wr)
  case atStart=>exact ⟨0,by omega,rfl,rfl,rfl,HR.out,HK.out⟩
  case round=>
   clear HR HK hta
   obtain ⟨m,hm,rfl,rfl,rfl,hR,hK⟩:=hrel
   have HK:=q7 hK
   have hvj:=hK.size
   clear hK
   by_cases hlt:m<f.blocks.length
   rotate_left
   ·obtain rfl:m=f.blocks.length:=by omega
    rw [yP] at hR ⊢
    have e:(vO k++z8 kD 0 f.blocks).foldl qH (wr0,true)=ZC f:=by
     unfold ZC Q4
     rw [HP.out]
     rfl
    rw [e] at hR ⊢
    have HR:=q7 hR
    clear hR e
    go_wp2_with fail
    go_ret
    exact ⟨rfl,HR.out,HK.out⟩
   have hs:(vO k++z8 kD 0 (f.blocks.take (m+1))).foldl qH (wr0,true)=(kD m f.blocks[m]).foldl qH ((vO k++z8 kD 0 (f.blocks.take m)).foldl qH (wr0,true)):=by
    rw [Z1 _ hlt,←yF,yh]
   rw [mH] at hs
   have HSt:=q7 hs
   clear hs
   generalize (vO k++z8 kD 0 (f.blocks.take m)).foldl qH (wr0,true)=st at *
   obtain ⟨b3,o3,q1,c1,q2,c2,q3,c3,hp,d0,d1,d2,d3,d4,d5,_,_,hl1,hl2,_,hs1,hs2,_⟩:=ke HF.out (zI _ _) hlt
   have g:∀o v,w0.cell? ⟨b3,o,none⟩=some v→wr.cell? ⟨b3,o,none⟩=some v:=fun o v h=>((HKB.out _ HK.out).cell (p:=⟨b3,o,none⟩) (qd h)).trans h
   replace d0:=g _ _ d0
   replace d1:=g _ _ d1
   replace d2:=g _ _ d2
   replace d3:=g _ _ d3
   replace d4:=g _ _ d4
   replace d5:=g _ _ d5
   clear g
   have haL:=HS.out.phi m hlt
   have hins:=HS.out.ins m hlt
   subst hp
   generalize f.blocks[m]=bm at *
   have hgU:=q7 (show ∀j (h:j<bm.phis.length),0≤bm.phis[j].dst∧bm.phis[j].dst<f.regs from fun j h=>(haL _ (zP h)).dst)
   have hkJ:=q7 (show ∀j (h:j<bm.list.length),bm.list[j].dst<f.regs from fun j h=>(hins _ (zP h)).2.2.1)
   have HS1:=q7 hs1
   have HS2:=q7 hs2
   have HR:=q7 hR
   clear haL hins hs1 hs2 hR
   go_wp2_with fail
   obtain ⟨Wb,hWb⟩:∃Wb,Wb=wr.alloc (.cells #[.slice q1 bm.phis.length c1,.slice q2 bm.list.length c2,.int .i64 bm.fin.kind,.bool bm.fin.onr,.int .i64 bm.fin.onn,.slice q3 bm.fin.to.length c3] 45):=⟨_,rfl⟩
   rw [←hWb]
   have HKW:Hid (Kept (fun k=>k=B) w Wb):=q7 (by rw [hWb];exact HK.out.alloc _)
   have HRW:Hid (Wb.rowIs B 114 (f.regs.toNat*2) (wrF st.1)):=q7 (by rw [hWb];exact HR.out.alloc _)
   have hBX:Wb.heap[wr.heap.size]?=some (.cells #[.slice q1 bm.phis.length c1,.slice q2 bm.list.length c2,.int .i64 bm.fin.kind,.bool bm.fin.onr,.int .i64 bm.fin.onn,.slice q3 bm.fin.to.length c3] 45 (0,0)):=by rw [hWb];exact qn wr _
   have hoN:¬ wr.heap.size=B:=by omega
   have HBX:=q7 hBX
   have hzW:=q8 hBX
   clear hWb hBX d0 d1 d2 d3 d4 d5 HR
   obtain ⟨wo,rfl⟩:∃wo:World,wo=wr:=⟨_,rfl⟩
   go_loopg [40,3] bm.phis.length (fun q s40 s3 wr=>∃j:Nat,j≤bm.phis.length∧q=bm.phis.length - j∧s40 = .int .i64 j∧s3 = .bool (((j5 m bm.phis).take j).foldl qH st).2∧wr.rowIs B 114 (f.regs.toNat*2) (wrF (((j5 m bm.phis).take j).foldl qH st).1)∧Kept (fun k=>k=B) Wb wr)
   case atStart=>exact ⟨0,by omega,rfl,rfl,rfl,HRW.out,Kept.refl _ _⟩
   case round=>
    obtain ⟨j,hj,rfl,rfl,rfl,hR,hK⟩:=hrel
    have HKr:Hid (Kept (fun k=>k=B) w wr):=q7 (HKW.out.trans hK (fun _ _ h=>h))
    have HKb:=q7 hK
    clear hK
    by_cases hjl:j<bm.phis.length
    ·have hs:((j5 m bm.phis).take (j+1)).foldl qH st=qH (((j5 m bm.phis).take j).foldl qH st) ⟨bm.phis[j].dst.toNat,m,-1⟩:=KK hjl
     have HSj:=q7 hs
     clear hs
     generalize ((j5 m bm.phis).take j).foldl qH st=sj at *
     obtain ⟨wb,ok⟩:=sj
     obtain ⟨pb,po,qs,cs,hpp,e0,e1,_,hl1,_⟩:=V1 HS1.out (HKB.out _ HKr.out) hjl
     subst hpp
     obtain ⟨hd1,hd2⟩:=hgU.out j hjl
     generalize bm.phis[j]=ph at *
     obtain ⟨d,hd⟩:∃d:Nat,ph.dst=d:=⟨ph.dst.toNat,by omega⟩
     rw [hd] at e0 hd2
     have haM:Hid (((j5 m bm.phis).take (j+1)).foldl qH st=(jQ wb d m (-1),decide ((wb d).1<0)&&ok)):=q7 (HSj.out.trans (by rw [hd];rfl))
     obtain ⟨x1,x3,x5⟩:=HKX.out _ HKr.out
     clear hd1 hd HSj x1 x3
     have HW:=q7 fun o=>X6 C B f.regs.toNat d m (-1) wb (wr.alloc o) (by omega) (by omega) ((zN (xG wr o _ (qd x5))).trans x5) (hR.alloc o)
     clear hR x5
     by_cases hw:(wb d).1<0
     all_goals
      first|rw [decide_eq_true hw] at HW haM|rw [decide_eq_false hw] at HW haM
      have HWx:=q7 hw
      clear hw
      go_wp2_with fail
      refine (HW.out _).mono ?_
      rintro e w2 ⟨rfl,hR2,hK2⟩
      have HR2:=q7 hR2
      have HK2:=q7 ((HKb.out.alloc (.cells #[.int .i64 d,.slice qs ph.src.length cs] 88)).trans hK2 (fun _ _ h=>h))
      clear hR2 hK2
      go_wp2_with fail
      go_roundg (bm.phis.length - (j+1))
      case measure=>omega
      case rel=>exact ⟨j+1,by omega,rfl,by go_num,by rw [haM.out];rfl,by rw [haM.out];exact HR2.out,HK2.out⟩
    obtain rfl:j=bm.phis.length:=by omega
    have e1:(j5 m bm.phis).take bm.phis.length=j5 m bm.phis:=List.take_of_length_le (by unfold j5;simp)
    rw [e1] at hR ⊢
    have hhE:(j5 m bm.phis).foldl qH st=(z8 (kl m) 0 (bm.list.take 0)).foldl qH ((j5 m bm.phis).foldl qH st):=by simp [z8]
    have hfin:(vO k++z8 kD 0 (f.blocks.take (m+1))).foldl qH (wr0,true)=(z8 (kl m) 0 bm.list).foldl qH ((j5 m bm.phis).foldl qH st):=HSt.out
    have HFin:=q7 hfin
    have htg:=q7 hhE
    generalize (j5 m bm.phis).foldl qH st=s1 at *
    rw [hhE] at hR ⊢
    have HR:=q7 hR
    have b1:=(blk ((HKb.out.block _ hzW hoN).trans HBX.out)).1 1
    have bz:=q8 ((HKb.out.block _ hzW hoN).trans HBX.out)
    clear hhE hR hfin HSt e1 HRW
    go_wp2_with fail
    clear b1
    obtain ⟨wq,rfl⟩:∃wq:World,wq=wr:=⟨_,rfl⟩
    go_loopg [56,3] bm.list.length (fun q s56 s3 wr=>∃j:Nat,j≤bm.list.length∧q=bm.list.length - j∧s56 = .int .i64 j∧s3 = .bool ((z8 (kl m) 0 (bm.list.take j)).foldl qH s1).2∧wr.rowIs B 114 (f.regs.toNat*2) (wrF ((z8 (kl m) 0 (bm.list.take j)).foldl qH s1).1)∧Kept (fun k=>k=B) w wr)
    case atStart=>exact ⟨0,by omega,rfl,rfl,rfl,HR.out,HKr.out⟩
    case round=>
     clear HR HKr HKb bz htg
     obtain ⟨i,hi,rfl,rfl,rfl,hR,hK⟩:=hrel
     have HKr:=q7 hK
     clear hK
     by_cases hil:i<bm.list.length
     rotate_left
     ·obtain rfl:i=bm.list.length:=by omega
      rw [yP,←HFin.out] at hR ⊢
      have HR:=q7 hR
      clear hR
      go_wp2_with fail
      go_roundg (f.blocks.length - (m+1))
      case measure=>omega
      case rel=>exact ⟨m+1,by omega,rfl,by go_num,rfl,HR.out,HKr.out⟩
     have hs:(z8 (kl m) 0 (bm.list.take (i+1))).foldl qH s1=(kl m i bm.list[i]).foldl qH ((z8 (kl m) 0 (bm.list.take i)).foldl qH s1):=by
      rw [Z1 _ hil,yh]
     have HSj:=q7 hs
     clear hs
     generalize (z8 (kl m) 0 (bm.list.take i)).foldl qH s1=sj at *
     obtain ⟨wb,ok⟩:=sj
     obtain ⟨pb,po,qs,cs,hpp,e0,e1,e2,e3,e4,e5,e6,e7,_⟩:=V2 HS2.out (HKB.out _ HKr.out) hil
     subst hpp
     have hdr:=hkJ.out i hil
     generalize bm.list[i]=x at *
     by_cases hx:x.dst<0
     ·have haM:Hid ((z8 (kl m) 0 (bm.list.take (i+1))).foldl qH s1=(wb,ok)):=q7 (HSj.out.trans (by unfold kl;rw [zZ hx];rfl))
      have HR:=q7 hR
      clear HSj hR hdr
      cases ok
      all_goals
       go_wp2_with fail
       go_roundg (bm.list.length - (i+1))
       case measure=>omega
       case rel=>exact ⟨i+1,by omega,rfl,by go_num,by rw [haM.out],by rw [haM.out];exact HR.out.alloc _,HKr.out.alloc _⟩
     obtain ⟨d,hd⟩:∃d:Nat,x.dst=d:=⟨x.dst.toNat,by omega⟩
     have haM:Hid ((z8 (kl m) 0 (bm.list.take (i+1))).foldl qH s1=(jQ wb d m i,decide ((wb d).1<0)&&ok)):=q7 (HSj.out.trans (by unfold kl;rw [zQ hx,hd];rfl))
     rw [hd] at e1 hdr hx
     obtain ⟨x1,x3,x5⟩:=HKX.out _ HKr.out
     clear hd HSj x1 x3 hx
     have HW:=q7 fun o=>X6 C B f.regs.toNat d m i wb (wr.alloc o) (by omega) (by omega) ((zN (xG wr o _ (qd x5))).trans x5) (hR.alloc o)
     clear hR x5
     by_cases hw:(wb d).1<0
     all_goals
      first|rw [decide_eq_true hw] at HW haM|rw [decide_eq_false hw] at HW haM
      have HWx:=q7 hw
      clear hw
      go_wp2_with fail
      refine (HW.out _).mono ?_
      rintro e w2 ⟨rfl,hR2,hK2⟩
      have HR2:=q7 hR2
      have HK2:=q7 ((HKr.out.alloc _).trans hK2 (fun _ _ h=>h))
      clear hR2 hK2
      go_wp2_with fail
      go_roundg (bm.list.length - (i+1))
      case measure=>omega
      case rel=>exact ⟨i+1,by omega,rfl,by go_num,by rw [haM.out];rfl,by rw [haM.out];exact HR2.out,HK2.out⟩
end Go.Proofs.YtbnnhmcloecijaaGreatDoor
namespace Go.Proofs.YtbnnhmcloecijaaGreatDoor
open Go.RowKit Go.Shelf

section
variable {F : Fence} {n : Nat} {P : Program} {g : Operand} {ps : Array Tmp} {assign body : Code} {Q : Exit → Act → World → Prop} {a : Act} {w : World} {gf : Nat} {lb : Array Value} {el : Nat → Array Value} {N : Nat} {Kp : World → World → Prop} {w0 : World}
theorem JN (hro:F.round=none) (h1:1≤n) (hg:a.eval g = .func (.func gf) #[] lb) (hFg:F.fn gf) (eg:∀args w,(callFunc gf args).run P w = .ok (.enter gf args) w) (hseq:SeqAt F (n - 1) P gf lb el N Kp w0)
  (hKt:∀{A B C:World},Kp A B→Kp B C→Kp A C) (hKb:∀(W:World) (l:Nat) (o o':Obj),w.heap.size≤l→W.heap[l]?=some o→o.isCells=false→o.isWalk=false→Kp W (W.putObj l o')) (hb0:Below w0.heap.size w0 w) (hps:∀i,i<N→(el i).size=ps.size)
  (I:Nat→World→Prop) (Ix:Code→Nat→World→Prop) (hI:OwnFrom w.heap.size I) (hIx:∀c,OwnFrom w.heap.size (Ix c)) (h0:I 0 w) (M:Nat×Act→World→Prop) (hM:OwnFrom w.heap.size M)
  (hassign:∀(l i:Nat) (W:World) (K:Act→World→Prop),w.heap.size≤l→i<N→I i W→(∀a₁ W₁,M (i,a₁) W₁→KeepsFrom w.heap.size W W₁→Kp W W₁→K a₁ W₁)→assign.wpIn (F.inRound l) (n - 1 - 1) P (Exit.then K (fun _ _ _=>False)) { tmps:=(ps.zip (el i)).foldl (fun t (p,v)=>t.setIfInBounds p v) a.tmps,defers:=[] } W)
  (hbody:∀(l i:Nat) (a₁:Act) (W:World),w.heap.size≤l→i<N→M (i,a₁) W→body.wpIn (F.inRound l) (n - 1 - 1) P (fun e _ W'=>Qz w.heap.size Kp I Ix i W e W') a₁ W)
  (hdone:∀(D:Nat) (W:World),w.heap.size≤D→I N W→W.heap[D]?=some (.deferred (some []))→Q .normal { a with defers:={ target:=.collected D,args:=#[] }::a.defers } W)
  (hstop:∀(D:Nat) (c:Code) (i:Nat) (W:World),w.heap.size≤D→i<N→Ix c i W→W.heap[D]?=some (.deferred (some []))→c.wpIn F n P Q { a with defers:={ target:=.collected D,args:=#[] }::a.defers } W) :
  (Code.rangeFunc g ps assign body).wpIn F n P Q a w:=by
 refine wpIn_rangeFunc fun fn hfn=>?_
 rw [hro]
 -- the record of the loop and the block for what rounds defer: the blocks L and D
 obtain ⟨rec,hrec⟩:∃rec:LoopState→Option Code→Loop,rec=fun st pe=>{ state:=st,pending:=pe,fn,tmps:=a.tmps,params:=ps,assign,body,defers:=w.heap.size }:=⟨_,rfl⟩
 have hst:∀st pe,{ rec .ready none with state:=st,pending:=pe }=rec st pe:=fun st pe=>by rw [hrec]
 let Bk:LoopState→Option Code→World→Prop:=fun st pe W=>W.heap[w.heap.size+1]?=some (.loop (rec st pe))∧W.heap[w.heap.size]?=some (.deferred (some []))
 have hf9:Bk .ready none ((w.alloc (.deferred (some []))).alloc (.loop (rec .ready none))):=
  ⟨qh (by simp),qg (qn w _)⟩
 have hfh:∀{st pe A B row},Bk st pe A→A.grownBy B row→(∀r,row=some r→∃o:Obj,A.heap[r]?=some o∧o.isWalk=true)→Bk st pe B:=fun h hg hr=>
  ⟨(grownBy_keeps hg hr h.1 rfl).trans h.1,(grownBy_keeps hg hr h.2 rfl).trans h.2⟩
 have hbZ:∀{st pe st' pe' A},Bk st pe A→Bk st' pe' (A.putObj (w.heap.size+1) (.loop (rec st' pe'))):=fun {st pe st' pe' A} h=>
  ⟨World.putObj_heap_same (q8 h.1),(World.putObj_heap_other (by omega)).trans h.2⟩
 obtain ⟨W1,hW1⟩:∃W1,W1=(w.alloc (.deferred (some []))).alloc (.loop (rec .ready none)):=⟨_,rfl⟩
 rw [←hW1] at hf9
 have hz1:W1.heap.size=w.heap.size+1+1:=by rw [hW1];simp
 have hent:(Instr.enterLoop fn a.tmps ps assign body none).run P w = .ok (w.heap.size+1,[{ target:=.collected w.heap.size,args:=#[] }]) W1:=by
  rw [hW1,hrec];exact run_enterLoop_outer _ _ _ _ _
 refine ⟨w.heap.size+1,[{ target:=.collected w.heap.size,args:=#[] }],W1,{ target:=.fn (.func gf) lb,args:=#[.func (.yield (w.heap.size+1)) #[] #[]] },W1,gf,
  #[.func (.yield (w.heap.size+1)) #[] #[]]++lb,W1,hent,?_,fun f' hf'=>by simp [Target.leads] at hf';subst hf';exact hFg,?_,fun _=>h1,?_⟩
 ·simp only [resolve,hg]
  simp [go_sem]
 ·simp [invoke,go_sem,eg]
 have hcD:∀{A:World} {row:Option Nat},(∀r,row=some r→W1.heap.size≤r∧∃o:Obj,A.heap[r]?=some o∧o.isWalk=true)→∀r,row=some r→w.heap.size≤r∧∃o:Obj,A.heap[r]?=some o∧o.isCells=false:=fun hr r e=>by
  obtain ⟨hB,o,ho,hw⟩:=hr r e
  exact ⟨by omega,o,ho,Obj.not_cells_of_walk hw⟩
 refine (hseq (w.heap.size+1) (fun i W=>I i W∧Bk .ready none W) (fun i W=>∃c,Ix c i W∧Bk .done (some c) W) _
  (by rw [hW1];exact hb0.trans ((((zI _ w).alloc (zK _) _).alloc (by simp) _).mono hb0.size))
  (fun s A B row hs hg' hr=>⟨hI s A B row hs.1 hg' (hcD hr),hfh hs.2 hg' fun r e=>(hr r e).2⟩)
  (fun s A B row ⟨c,hc,hk⟩ hg' hr=>⟨c,hIx c s A B row hc hg' (hcD hr),hfh hk hg' fun r e=>(hr r e).2⟩)
  (fun i W hlt ⟨hi,hk⟩=>?_) ⟨by rw [hW1];exact hI.alloc _ (hI.alloc _ h0),hf9⟩).mono ?_
 ·have hy:=run_yield (P:=P) (args:=el i) hk.1 (by rw [hrec];exact hps i hlt)
  rw [hrec] at hy
  refine ⟨fn,_,assign,body,hy,roundIn_of_wpIn hfn (hassign _ i W _ (by omega) hlt hi fun a₁ W₁ hm1 hkf hkp=>?_)⟩
  replace hk:Bk .ready none W₁:=⟨hkf.same _ _ (by omega) hk.1 rfl,hkf.same _ _ (zK _) hk.2 rfl⟩
  refine ⟨_,run_beginRound hk.1 (by rw [hrec]),?_⟩
  rw [show ({ rec .ready none with state:=.busy }:Loop)=rec .busy none by rw [hrec]]
  have hkb:=hbZ (st':=.busy) (pe':=none) hk
  refine wpIn_mono (hbody _ i a₁ _ (by omega) hlt (hM.putObj _ hm1 (by omega) hk.1 rfl)) fun e a3 W3 ⟨hk3,hp⟩=>?_
  have hb3:Bk .busy none W3:=⟨hk3.same _ _ (by omega) hkb.1 rfl,hk3.same _ _ (zK _) hkb.2 rfl⟩
  have fin:∀jump:Option Code,(Instr.endRound (w.heap.size+1) jump).run P W3 = .ok (.bool jump.isNone) (W3.putObj (w.heap.size+1) (.loop (rec (if jump.isNone then .ready else .done) jump))):=fun jump=>by
   have:=run_endRound (P:=P) jump hb3.1
   rw [hrec] at this ⊢
   exact this
  have leave:∀c:Code,Ix c i W3→_:=fun c hc=>(⟨.bool false,W3.putObj (w.heap.size+1) (.loop (rec .done (some c))),fin (some c),.inr ⟨rfl,c,(hIx c).putObj _ hc (by omega) hb3.1 rfl,hbZ hb3⟩⟩:∃v W4,(Instr.endRound (w.heap.size+1) (some c)).run P W3 = .ok v W4∧((Ending.returned v = .returned (.bool true)∧(I (i+1) W4∧Bk .ready none W4)∧Kp W W4)∨(Ending.returned v = .returned (.bool false)∧∃c,Ix c i W4∧Bk .done (some c) W4)))
  cases e with
  | normal=>
   exact ⟨_,_,fin none,.inl ⟨rfl,⟨hI.putObj _ hp.2 (by omega) hb3.1 rfl,hbZ hb3⟩,hKt (hKt (hKt hkp (hKb _ _ _ _ (by omega) hk.1 rfl rfl)) hp.1) (hKb _ _ _ _ (by omega) hb3.1 rfl rfl)⟩⟩
  | ret=>exact leave _ hp
  | exit id=>exact leave _ hp
  | goto t=>exact leave _ hp
  | panic ch=>exact hp.elim
  | outgrown=>exact hp.elim
 have shut:∀{st pe W2},st≠.busy→Bk st pe W2→(Instr.endLoop (w.heap.size+1)).run P W2 = .ok pe (W2.putObj (w.heap.size+1) (.loop (rec .exhausted pe))):=fun {st pe W2} hne hk=>by
  have:=run_endLoop (P:=P) hk.1 (by rw [hrec];exact hne)
  rw [hrec] at this ⊢
  exact this
 rintro e W2 ⟨⟨v,rfl⟩,(⟨hi,hk⟩|⟨i,hlt,c,hi,hk⟩)⟩
 ·exact ⟨none,_,shut (by simp) hk,hdone _ _ (zK _) (hI.putObj _ hi (by omega) hk.1 rfl) (hbZ hk).2⟩
 exact ⟨some c,_,shut (by simp) hk,hstop _ c i _ (zK _) hlt ((hIx c).putObj _ hi (by omega) hk.1 rfl) (hbZ hk).2⟩
end
attribute [local go_sem] Oper.semAt_some

def KC (W W':World):Prop:=∀b o v,W.cell? ⟨b,o,none⟩=some v→W'.cell? ⟨b,o,none⟩=some v
theorem KC.refl (W:World):KC W W:=fun _ _ _ h=>h
theorem KC.trans {A B C:World} (h:KC A B) (k:KC B C):KC A C:=fun b o v hv=>k b o v (h b o v hv)
theorem KC.below {W W':World} (h:Below W.heap.size W W'):KC W W':=fun b o _v hv=>(h.cell (p:=⟨b,o,none⟩) (qd hv)).trans hv
theorem KC.putObj {W:World} {l:Nat} {o:Obj} (o':Obj) (hl:W.heap[l]?=some o) (ho:o.isCells=false):KC W (W.putObj l o'):=fun b a v hv=>
 (zN (a:=⟨b,a,none⟩) (World.putObj_heap_other (by have:=jb hl ho hv;omega))).trans hv
theorem KC.own {W W':World} {B:Nat} {row:Option Nat} (hg:W.grownBy W' row) (hr:∀r,row=some r→B≤r∧∃o:Obj,W.heap[r]?=some o∧o.isCells=false):KC W W':=fun b o v hv=>
 (zN (a:=⟨b,o,none⟩) (hg.block b (qd hv) (fun e=>by
  obtain ⟨_,x,hx,hn⟩:=hr b e.symm
  exact jb hx hn hv rfl))).trans hv

theorem vals_any (x:Array Value) (w:World) :
  Calls Tryz.prog 106 #[.agg x] w fun e w'=>e = .returned (.func (.func 142) #[] #[.pointer (some ⟨w.heap.size,0,none⟩)])∧w'=w.alloc (.cells x 57):=by
 go_enter Tryz.func106,Tryz.ntmps106
 go_wp2
 go_ret
 exact ⟨rfl,rfl⟩

def Z9 (x:InsL) (i:Nat):Array Value:=#[.agg #[.bool ((takes x).getD i (false,0)).1,.int .i64 ((takes x).getD i (false,0)).2]]
structure ValSh (X:Nat) (q:Option Addr) (c:Nat) (x:InsL) (W:World):Prop where
 c0:W.cell? ⟨X,0,none⟩=some (.int .i64 x.op)
 c2:W.cell? ⟨X,2,none⟩=some (.bool x.ar)
 c3:W.cell? ⟨X,3,none⟩=some (.int .i64 x.an)
 c4:W.cell? ⟨X,4,none⟩=some (.bool x.br)
 c5:W.cell? ⟨X,5,none⟩=some (.int .i64 x.bn)
 c7:W.cell? ⟨X,7,none⟩=some (.slice q x.args.length c)
 arg:∀i (h:i<x.args.length),∃b o,q=some ⟨b,o,none⟩∧W.cell? ⟨b,o+i*2,none⟩=some (.bool x.args[i].1)∧W.cell? ⟨b,o+i*2+1,none⟩=some (.int .i64 x.args[i].2)
theorem ValSh.kc {X c:Nat} {q:Option Addr} {x:InsL} {W W':World} (h:ValSh X q c x W) (k:KC W W'):ValSh X q c x W':=
 ⟨k _ _ _ h.c0,k _ _ _ h.c2,k _ _ _ h.c3,k _ _ _ h.c4,k _ _ _ h.c5,k _ _ _ h.c7,fun i hi=>by
  obtain ⟨b,o,h1,h2,h3⟩:=h.arg i hi
  exact ⟨b,o,h1,k _ _ _ h2,k _ _ _ h3⟩⟩

theorem xd {β:Type} {B:Nat} {J:β→World→Prop} (h:AbidesFrom B J) {s:β} {W:World} (o:Obj) (hs:J s W):J s (W.alloc o):=
 h s W _ none hs (World.grownBy_alloc W o none) (fun r e=>by cases e)
theorem shB_A {op:Int} (h:shB op=true):shA op=true:=by
 unfold shB at h
 unfold shA
 rw [yY] at h ⊢
 omega
theorem Xn {x:InsL} {K0:Nat} (_hk:(takes x).length=K0+x.args.length) (h:∃l,takes x=l++x.args∧l.length=K0) {i:Nat} (hi:i<x.args.length):Z9 x (K0+i)=#[.agg #[.bool x.args[i].1,.int .i64 x.args[i].2]]:=by
 obtain ⟨l,e,hl⟩:=h
 unfold Z9
 have e2:(takes x).getD (K0+i) (false,0)=x.args[i]:=by
  rw [yO,e,List.getElem?_append_right (by omega),hl]
  have e3:K0+i - K0=i:=by omega
  rw [e3,zj hi]
  rfl
 rw [e2]

theorem vals_at (X c:Nat) (q:Option Addr) (x:InsL) (w:World) (hop:1≤x.op∧x.op≤22) (hl:x.args.length*16≤140737488351232) (hsh:ValSh X q c x w) :
  SeqAt Fence.wide 2 Tryz.prog 142 #[.pointer (some ⟨X,0,none⟩)] (Z9 x) (takes x).length KC w:=by
 intro l J Jx W hW hJ hJx hY h0
 have HS:=q7 (hsh.kc (KC.below hW))
 have HY:=q7 hY
 have HJ:=q7 hJ
 have hsp:=fun w=>kN x.op w hop
 have hN:takes x=(if shA x.op=true then [(x.ar,x.an)] else [])++(if shB x.op=true then [(x.br,x.bn)] else [])++x.args:=rfl
 have hBA:=@shB_A x.op
 have htq:Hid (∀(K0:Nat) (W1:World),(∃l,takes x=l++x.args∧l.length=K0)→J K0 W1→ValSh X q c x W1→True):=q7 fun _ _ _ _ _=>trivial
 clear hsh hY hW hop hJ hJx htq
 refine callsIn_of_wp Tryz.func142 rfl trivial ?_ rfl
 simp only [Tryz.ntmps142,List.size_toArray,yi,List.length_nil,Nat.reduceAdd,Nat.reduceSub,Array.replicate_succ,Array.replicate_zero,List.push_toArray,List.append_toArray,List.nil_append,List.cons_append]
 have c0:=HS.out.c0
 have hzX:=qd c0
 cases hA:shA x.op
 ·have hB:shB x.op=false:=by
   cases h:shB x.op
   ·rfl
   rw [hBA h] at hA;cases hA
  simp only [hA,hB] at hsp
  rw [hA,hB] at hN
  have HN:=q7 (show ∃l,takes x=l++x.args∧l.length=0 from ⟨[],by rw [hN];rfl,rfl⟩)
  have HSp:=q7 hsp
  have c7:=HS.out.c7
  have HJ0:Hid (J (0+0) ((W.alloc (.cells #[.bool (shD x.op),.bool false,.bool false] 133)).alloc (.cells #[.bool (shD x.op),.bool false,.bool false] 133))):=q7 (xd HJ.out _ (xd HJ.out _ h0))
  have HSh:Hid (ValSh X q c x ((W.alloc (.cells #[.bool (shD x.op),.bool false,.bool false] 133)).alloc (.cells #[.bool (shD x.op),.bool false,.bool false] 133))):=q7 (HS.out.kc (KC.below (((zI _ _).alloc (zK _) _).alloc (by simp) _)))
  clear hsp hN hA hB hBA h0
  gi_wp2_with (refine ⟨trivial,?_⟩;gi_at_call 77;refine ((callsIn_wide (n:=1)).2 (HSp.out _)).mono ?_;rintro e w2 ⟨rfl,rfl⟩)
  refine ⟨(fun _ h=>by cases h),?_⟩
  gi_wp2
  clear c0 c7
  gi_loopw [32] (fun i wr=>∃j:Nat,j≤x.args.length∧i = .int .i64 j∧J (0+j) wr∧ValSh X q c x wr) (fun i _=>x.args.length - (intOf i).toNat)
  case atStart=>exact ⟨0,by omega,rfl,HJ0.out,HSh.out⟩
  case round=>
   obtain ⟨j,hj,rfl,hJj,hV⟩:=hrel
   have HV:=q7 hV
   have HJj:=q7 hJj
   clear hV hJj HJ0 HSh
   by_cases hjl:j<x.args.length
   rotate_left
   ·have hlen:(takes x).length=0+x.args.length:=by
     obtain ⟨l,e,hl⟩:=HN.out
     rw [e,yN,hl]
    obtain rfl:j=x.args.length:=by omega
    gi_wp2
    go_end0
    exact ⟨⟨_,rfl⟩,.inl (by rw [hlen];exact HJj.out)⟩
   obtain ⟨b,o,hq,a0,a1⟩:=HV.out.arg j hjl
   subst hq
   have hlen:(takes x).length=0+x.args.length:=by
    obtain ⟨l,e,hl⟩:=HN.out
    rw [e,yN,hl]
   have he:=Xn hlen HN.out hjl
   have hy:=HY.out (0+j) (wr.alloc (.cells #[.bool x.args[j].1,.int .i64 x.args[j].2] 40)) (by omega) (xd HJ.out _ HJj.out)
   rw [he] at hy
   obtain ⟨fn,tmps,assign,body,hy,hR⟩:=hy
   have HR:=q7 hR
   have hjb:=qd a0
   have hlt:0+j<(takes x).length:=by omega
   clear hR he hlen
   generalize x.args[j]=av at *
   gi_wp2
   refine HR.out.mono ?_
   rintro e W3 (⟨rfl,hJ3,hk3⟩|⟨rfl,hJx3⟩)
   ·have HK3:=q7 (HV.out.kc ((KC.below ((zI _ _).alloc (zK _) _)).trans hk3))
    clear hk3
    gi_wp2
    go_roundw
    case rel=>exact ⟨j+1,by omega,by go_num,hJ3,HK3.out⟩
    case measure=>simp [intOf];omega
   gi_wp2
   refine zk (results_none rfl _ _ _) rfl ?_
   exact ⟨⟨_,rfl⟩,.inr ⟨_,hlt,hJx3⟩⟩
 cases hB:shB x.op
 ·simp only [hA,hB] at hsp
  rw [hA,hB] at hN
  have HN:=q7 (show ∃l,takes x=l++x.args∧l.length=1 from ⟨[(x.ar,x.an)],by rw [hN];rfl,rfl⟩)
  have HSp:=q7 hsp
  have HE0:Hid (Z9 x 0=#[.agg #[.bool x.ar,.int .i64 x.an]]):=q7 (by unfold Z9;rw [hN];rfl)
  have HLen:Hid ((takes x).length=1+x.args.length):=q7 (by rw [hN];simp;omega)
  have HJ0:Hid (J 0 ((W.alloc (.cells #[.bool (shD x.op),.bool true,.bool false] 133)).alloc (.cells #[.bool (shD x.op),.bool true,.bool false] 133))):=q7 (xd HJ.out _ (xd HJ.out _ h0))
  have HSh:Hid (ValSh X q c x ((W.alloc (.cells #[.bool (shD x.op),.bool true,.bool false] 133)).alloc (.cells #[.bool (shD x.op),.bool true,.bool false] 133))):=q7 (HS.out.kc (KC.below (((zI _ _).alloc (zK _) _).alloc (by simp) _)))
  clear hsp hN hA hB hBA h0
  have c2:=HS.out.c2
  have c3:=HS.out.c3
  have csB:((W.alloc (.cells #[.bool (shD x.op),.bool true,.bool false] 133)).alloc (.cells #[.bool (shD x.op),.bool true,.bool false] 133)).cell? ⟨W.heap.size+1,2,none⟩=some (.bool false):=(blk (qh (by simp))).1 2
  have hhj:=q7 csB
  clear csB
  have hy:=HY.out 0 ((W.alloc (.cells #[.bool (shD x.op),.bool true,.bool false] 133)).alloc (.cells #[.bool (shD x.op),.bool true,.bool false] 133)) (by rw [HLen.out];omega) HJ0.out
  rw [show Z9 x 0=#[.agg #[.bool x.ar,.int .i64 x.an]] from HE0.out] at hy
  obtain ⟨fn,tmps,assign,body,hy,hR⟩:=hy
  have HR:=q7 hR
  clear hR
  gi_wp2_with (refine ⟨trivial,?_⟩;gi_at_call 77;refine ((callsIn_wide (n:=1)).2 (HSp.out _)).mono ?_;rintro e w2 ⟨rfl,rfl⟩)
  refine HR.out.mono ?_
  rintro e W3 (⟨rfl,hJ3,hk3⟩|⟨rfl,hJx3⟩)
  ·have hcs:=hk3 _ _ _ hhj.out
   have hsz:=qd hcs
   have heA:=q7 (HSh.out.kc hk3)
   have c7:=heA.out.c7
   have hoO:=qd c7
   have HJ1:=q7 hJ3
   clear hJ3 hk3 c0 c2 c3 hzX HSh HJ0 HR hy
   gi_wp2
   refine ⟨(fun _ h=>by cases h),?_⟩
   gi_wp2
   clear hcs c7
   have HJ0:Hid (J (1+0) W3):=HJ1
   have HSh:=heA
   gi_loopw [32] (fun i wr=>∃j:Nat,j≤x.args.length∧i = .int .i64 j∧J (1+j) wr∧ValSh X q c x wr) (fun i _=>x.args.length - (intOf i).toNat)
   case atStart=>exact ⟨0,by omega,rfl,HJ0.out,HSh.out⟩
   case round=>
    obtain ⟨j,hj,rfl,hJj,hV⟩:=hrel
    have HV:=q7 hV
    have HJj:=q7 hJj
    clear hV hJj HJ0 HSh
    by_cases hjl:j<x.args.length
    rotate_left
    ·have hlen:(takes x).length=1+x.args.length:=by
      obtain ⟨l,e,hl⟩:=HN.out
      rw [e,yN,hl]
     obtain rfl:j=x.args.length:=by omega
     gi_wp2
     go_end0
     exact ⟨⟨_,rfl⟩,.inl (by rw [hlen];exact HJj.out)⟩
    obtain ⟨b,o,hq,a0,a1⟩:=HV.out.arg j hjl
    subst hq
    have hlen:(takes x).length=1+x.args.length:=by
     obtain ⟨l,e,hl⟩:=HN.out
     rw [e,yN,hl]
    have he:=Xn hlen HN.out hjl
    have hy:=HY.out (1+j) (wr.alloc (.cells #[.bool x.args[j].1,.int .i64 x.args[j].2] 40)) (by omega) (xd HJ.out _ HJj.out)
    rw [he] at hy
    obtain ⟨fn,tmps,assign,body,hy,hR⟩:=hy
    have HR:=q7 hR
    have hjb:=qd a0
    have hlt:1+j<(takes x).length:=by omega
    clear hR he hlen
    generalize x.args[j]=av at *
    gi_wp2
    refine HR.out.mono ?_
    rintro e W3 (⟨rfl,hJ3,hk3⟩|⟨rfl,hJx3⟩)
    ·have HK3:=q7 (HV.out.kc ((KC.below ((zI _ _).alloc (zK _) _)).trans hk3))
     clear hk3
     gi_wp2
     go_roundw
     case rel=>exact ⟨j+1,by omega,by go_num,hJ3,HK3.out⟩
     case measure=>simp [intOf];omega
    gi_wp2
    refine zk (results_none rfl _ _ _) rfl ?_
    exact ⟨⟨_,rfl⟩,.inr ⟨_,hlt,hJx3⟩⟩
  clear hy HR c0 c2 c3 hzX HSh HJ0 hhj
  have hkK:0<(takes x).length:=by rw [HLen.out];omega
  have hu:∀b:Bool,¬ some undef=some (Value.bool b):=fun b h=>by cases h
  gi_wp2
  all_goals first
   | exact absurd ‹some undef=some (Value.bool _)› (hu _)
   | (refine ⟨(fun _ h=>by cases h),?_⟩;gi_wp2;refine zk (results_none rfl _ _ _) rfl ?_;exact ⟨⟨_,rfl⟩,.inr ⟨_,hkK,hJx3⟩⟩)
 simp only [hA,hB] at hsp
 rw [hA,hB] at hN
 have HN:=q7 (show ∃l,takes x=l++x.args∧l.length=2 from ⟨[(x.ar,x.an),(x.br,x.bn)],by rw [hN];rfl,rfl⟩)
 have HSp:=q7 hsp
 have HE0:Hid (Z9 x 0=#[.agg #[.bool x.ar,.int .i64 x.an]]):=q7 (by unfold Z9;rw [hN];rfl)
 have HE1:Hid (Z9 x 1=#[.agg #[.bool x.br,.int .i64 x.bn]]):=q7 (by unfold Z9;rw [hN];rfl)
 have HLen:Hid ((takes x).length=2+x.args.length):=q7 (by rw [hN];simp;omega)
 have HJ0:Hid (J 0 ((W.alloc (.cells #[.bool (shD x.op),.bool true,.bool true] 133)).alloc (.cells #[.bool (shD x.op),.bool true,.bool true] 133))):=q7 (xd HJ.out _ (xd HJ.out _ h0))
 have HSh:Hid (ValSh X q c x ((W.alloc (.cells #[.bool (shD x.op),.bool true,.bool true] 133)).alloc (.cells #[.bool (shD x.op),.bool true,.bool true] 133))):=q7 (HS.out.kc (KC.below (((zI _ _).alloc (zK _) _).alloc (by simp) _)))
 clear hsp hN hA hB hBA h0
 have c2:=HS.out.c2
 have c3:=HS.out.c3
 have csB:((W.alloc (.cells #[.bool (shD x.op),.bool true,.bool true] 133)).alloc (.cells #[.bool (shD x.op),.bool true,.bool true] 133)).cell? ⟨W.heap.size+1,2,none⟩=some (.bool true):=(blk (qh (by simp))).1 2
 have hhj:=q7 csB
 clear csB
 have hy:=HY.out 0 ((W.alloc (.cells #[.bool (shD x.op),.bool true,.bool true] 133)).alloc (.cells #[.bool (shD x.op),.bool true,.bool true] 133)) (by rw [HLen.out];omega) HJ0.out
 rw [show Z9 x 0=#[.agg #[.bool x.ar,.int .i64 x.an]] from HE0.out] at hy
 obtain ⟨fn,tmps,assign,body,hy,hR⟩:=hy
 have HR:=q7 hR
 clear hR
 gi_wp2_with (refine ⟨trivial,?_⟩;gi_at_call 77;refine ((callsIn_wide (n:=1)).2 (HSp.out _)).mono ?_;rintro e w2 ⟨rfl,rfl⟩)
 refine HR.out.mono ?_
 rintro e W3 (⟨rfl,hJ3,hk3⟩|⟨rfl,hJx3⟩)
 ·have hcs:=hk3 _ _ _ hhj.out
  have hsz:=qd hcs
  have heA:=q7 (HSh.out.kc hk3)
  have c4:=heA.out.c4
  have c5:=heA.out.c5
  have hoO:=qd c4
  have HJ1:=q7 hJ3
  clear hJ3 hk3 c0 c2 c3 hzX HSh HJ0 HR hy
  have hy:=HY.out 1 W3 (by rw [HLen.out];omega) HJ1.out
  rw [show Z9 x 1=#[.agg #[.bool x.br,.int .i64 x.bn]] from HE1.out] at hy
  obtain ⟨fn,tmps,assign,body,hy,hR⟩:=hy
  have HR:=q7 hR
  clear hR
  gi_wp2
  refine HR.out.mono ?_
  rintro e W4 (⟨rfl,hJ4,hk4⟩|⟨rfl,htt⟩)
  ·have HSh:=q7 (heA.out.kc hk4)
   have c7:=HSh.out.c7
   have hvn:=qd c7
   have HJ0:Hid (J (2+0) W4):=q7 hJ4
   clear hJ4 hk4 c4 c5 hoO heA HJ1 hcs hsz HR hy
   gi_wp2
   clear c7
   gi_loopw [32] (fun i wr=>∃j:Nat,j≤x.args.length∧i = .int .i64 j∧J (2+j) wr∧ValSh X q c x wr) (fun i _=>x.args.length - (intOf i).toNat)
   case atStart=>exact ⟨0,by omega,rfl,HJ0.out,HSh.out⟩
   case round=>
    obtain ⟨j,hj,rfl,hJj,hV⟩:=hrel
    have HV:=q7 hV
    have HJj:=q7 hJj
    clear hV hJj HJ0 HSh
    by_cases hjl:j<x.args.length
    rotate_left
    ·have hlen:(takes x).length=2+x.args.length:=by
      obtain ⟨l,e,hl⟩:=HN.out
      rw [e,yN,hl]
     obtain rfl:j=x.args.length:=by omega
     gi_wp2
     go_end0
     exact ⟨⟨_,rfl⟩,.inl (by rw [hlen];exact HJj.out)⟩
    obtain ⟨b,o,hq,a0,a1⟩:=HV.out.arg j hjl
    subst hq
    have hlen:(takes x).length=2+x.args.length:=by
     obtain ⟨l,e,hl⟩:=HN.out
     rw [e,yN,hl]
    have he:=Xn hlen HN.out hjl
    have hy:=HY.out (2+j) (wr.alloc (.cells #[.bool x.args[j].1,.int .i64 x.args[j].2] 40)) (by omega) (xd HJ.out _ HJj.out)
    rw [he] at hy
    obtain ⟨fn,tmps,assign,body,hy,hR⟩:=hy
    have HR:=q7 hR
    have hjb:=qd a0
    have hlt:2+j<(takes x).length:=by omega
    clear hR he hlen
    generalize x.args[j]=av at *
    gi_wp2
    refine HR.out.mono ?_
    rintro e W3 (⟨rfl,hJ3,hk3⟩|⟨rfl,hJx3⟩)
    ·have HK3:=q7 (HV.out.kc ((KC.below ((zI _ _).alloc (zK _) _)).trans hk3))
     clear hk3
     gi_wp2
     go_roundw
     case rel=>exact ⟨j+1,by omega,by go_num,hJ3,HK3.out⟩
     case measure=>simp [intOf];omega
    gi_wp2
    refine zk (results_none rfl _ _ _) rfl ?_
    exact ⟨⟨_,rfl⟩,.inr ⟨_,hlt,hJx3⟩⟩
  gi_wp2
  refine zk (results_none rfl _ _ _) rfl ?_
  exact ⟨⟨_,rfl⟩,.inr ⟨_,by rw [HLen.out];omega,htt⟩⟩
 clear hy HR c0 c2 c3 hzX HSh HJ0 hhj
 have hkK:0<(takes x).length:=by rw [HLen.out];omega
 have hu:∀b:Bool,¬ some undef=some (Value.bool b):=fun b h=>by cases h
 gi_wp2
 all_goals first
  | exact absurd ‹some undef=some (Value.bool _)› (hu _)
  | (refine ⟨(fun _ h=>by cases h),?_⟩;gi_wp2;refine zk (results_none rfl _ _ _) rfl ?_;exact ⟨⟨_,rfl⟩,.inr ⟨_,hkK,hJx3⟩⟩)
end Go.Proofs.YtbnnhmcloecijaaGreatDoor
