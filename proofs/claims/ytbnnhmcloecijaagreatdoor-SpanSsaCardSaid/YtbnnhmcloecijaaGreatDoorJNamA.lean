/-
  The contracts of a namer's name and val.
-/
import Derived.Test.YtbnnhmcloecijaaGreatDoorJTidU
set_option maxRecDepth 100000
set_option maxHeartbeats 16000000
namespace Go.Proofs.YtbnnhmcloecijaaGreatDoor
open Go.RowKit Go.Shelf

def dropP (at_:Nat) (p:PhiL):PhiL:={ p with src:=p.src.eraseIdx at_ }

theorem Z7 {nf:Nat} {P:Nat→Int} (f:FunL) (hC:FunC nf P f) (b gone:Nat) (hM:MayC f b gone) (gf of_:Nat) (p:Option Addr) (c:Nat) (w:World) (S:Blks) (hcell:w.cell? ⟨gf,of_+3,none⟩=some (.slice p f.blocks.length c)) (hgf:¬ S gf) (hB:SlO 45 6 BlkO w (.slice p f.blocks.length c) f.blocks S) :
  Calls Tryz.prog 19 #[.pointer (some ⟨gf,of_,none⟩),.int .i64 b,.int .i64 gone] w fun e w'=>e = .returned (.tuple #[])∧∃S',SlO 45 6 BlkO w' (.slice p f.blocks.length c) (jV f b gone).blocks S'∧(∀i,S' i→S i∨w.heap.size≤i)∧Kept S w w':=by
 have hb:=hM.hb
 have hgo:=hM.hg
 have hd9:=hC.n40
 have hRd:SliceAt w 6 (BlkR w) p f.blocks:=by
  obtain ⟨p',c',e,_,_,h⟩:=hB.read (R':=BlkR w) qK (by omega) fun _ _ _ h=>h.read
  cases e
  exact h
 obtain ⟨gb,cb,csb,Tb,hvb,hgb,hhI,hiG,hxb,hfI,hfJ,hbP,hfK,⟨curb,hcH⟩,putb⟩:=hB.focus qK (by omega) hgo
 have hp:p=some ⟨gb,0,none⟩:=by injection hvb
 subst hp
 have hlX:=qd hcell
 have hlY:=hB.inb
 have HC:=q7 hC
 have HM:=q7 hM
 have HRd:=q7 hRd
 have hfL:=q7 hcell
 have HSn:=q7 (zh hgf hlY)
 clear hC hM hRd hB hcell hvb hgf hlY
 obtain ⟨W0,hW0⟩:∃W0,W0=w.alloc (.cells #[.int .i64 gone] 3):=⟨_,rfl⟩
 have hz0:W0.heap.size=w.heap.size+1:=by rw [hW0];simp
 have hb0:Below w.heap.size w W0:=by rw [hW0];exact bZ
 have hT0:W0.heap[w.heap.size]?=some (.cells #[.int .i64 gone] 3 (0,0)):=by rw [hW0];exact qh rfl
 have HB0:=q7 hb0
 have HT0:=q7 hT0
 clear hb0 hT0
 go_enter Tryz.func19,Tryz.ntmps19
 go_wp2_with fail
 rw [←hW0]
 clear hW0
 go_loopw [6,13] (fun a i wr=>∃k:Nat,k≤b∧i = .int .i64 k∧a = .int .i64 (Xz f k gone:Nat)∧Below W0.heap.size W0 wr) (fun _ i _=>b - (intOf i).toNat)
 case atStart=>exact ⟨0,by omega,rfl,rfl,zI _ _⟩
 case round=>
  obtain ⟨k,hk,rfl,rfl,hbr⟩:=hrel
  have HBr:=q7 hbr
  have HBx:Hid (Below w.heap.size w wr):=q7 (HB0.out.trans (hbr.mono (by omega)))
  have hsz:=hbr.size
  have c3:=(HBx.out.cell (p:=⟨gf,of_+3,none⟩) hlX).trans hfL.out
  have hT:=(hbr.block _ (by omega)).trans HT0.out
  have t0:wr.cell? ⟨w.heap.size,0,none⟩=some (.int .i64 gone):=(blk hT).1 0
  have tz:=q8 hT
  have hcl:Xz f k gone≤k:=by
   unfold Xz
   exact yv (List.length_filter_le _ _) (by simp)
  clear hbr hT
  by_cases hlt:k<b
  ·have hkn:k<f.blocks.length:=by omega
   obtain ⟨bb,bo,pp,pc,lp,lc,tp,tc,hbp,b0,b1,b2,b3,b4,b5,_,_,_,_,htl,_,_,hS5⟩:=ke HRd.out HBx.out hkn
   obtain ⟨rfl,rfl⟩:bb=gb∧bo=0:=by cases hbp;exact ⟨rfl,rfl⟩
   have hhJ:f.blocks[k].fin.to.length≤1000000:=by have:=HC.out.funD.two k hkn;omega
   have HI:=q7 fun (W:World) (h:Below wr.heap.size wr W)=>Jm f.blocks[k].fin.to tp tc (gone:Int) W hhJ (hS5.mono h (by omega) fun _ _ g=>g)
   have hs:=my f k gone
   rw [qM hkn] at hs
   have HS:=q7 hs
   have gk0:(0:Int)≤(k:Int):=by omega
   have gk1:(k:Int)<f.blocks.length:=by omega
   simp only [yx] at b5
   clear hbp b0 b1 b2 b3 b4 hS5 hs
   cases hq:decide ((gone:Int)∈f.blocks[k].fin.to) with
   | true=>
    rw [hq] at HI
    go_wp2_with fail
    go_quiet ((go_at_call 41;refine Calls.quiet_of_same (HI.out _ ?_);exact bZ))
    go_wp2_with fail
    refine ⟨⟨k+1,by omega,by go_num,?_,below_drewN HBr.out nq⟩,by simp [intOf];omega⟩
    rw [HS.out,zZ (by simpa using hq)]
    go_num
   | false=>
    rw [hq] at HI
    go_wp2_with fail
    go_quiet ((go_at_call 41;refine Calls.quiet_of_same (HI.out _ ?_);exact bZ))
    go_wp2_with fail
    refine ⟨⟨k+1,by omega,by go_num,?_,below_drewN HBr.out nq⟩,by simp [intOf];omega⟩
    rw [HS.out,zQ (by simpa using hq)]
    rfl
  obtain rfl:b=k:=by omega
  obtain ⟨wa,hwa⟩:∃wa,wa=wr:=⟨_,rfl⟩
  subst hwa
  obtain ⟨v1,v2,v3,S1,Sl,St,rfl,j1,j2,h3,h4,h5,a1,a2,a3,g1,g2,g3⟩:=hxb
  obtain ⟨q1,d1,rfl,_⟩:=h3.sl.val
  have hat:(insN f gone).idxOf b=Xz f b gone:=cutAt_is HC.out.funD HM.out
  have hlZ:b∈insN f gone:=HC.out.funD.mem.2 ⟨hb,HM.out.to⟩
  have hpZ:Xz f b gone<(insN f gone).length:=by rw [←hat];exact (j3 hlZ).1
  obtain ⟨A,hA⟩:∃A,A=Xz f b gone:=⟨_,rfl⟩
  have hum:A≤40:=by omega
  rw [←hA] at hat hpZ
  rw [←hA]
  clear hcl
  have hiH:wa.heap[gb]?=w.heap[gb]?:=HBx.out.block _ hgb
  have g0:wa.cell? ⟨gb,gone*6,none⟩=some (.slice q1 f.blocks[gone].phis.length d1):=(zN (a:=⟨gb,gone*6,none⟩) hiH).trans (hbP 0 (by omega))
  have gz:gb<wa.heap.size:=by have:=HBx.out.size;omega
  have gi:(gone:Int)<f.blocks.length:=by omega
  have gi0:(0:Int)≤(gone:Int):=by omega
  have huo:f.blocks[gone].phis.length*32≤140737488351232:=h3.bd
  have hph:∀p∈f.blocks[gone].phis,p.src.length=(insN f gone).length:=fun p hp=>(HC.out.phi gone hgo p hp).len
  have hbB:=q7 putb
  have HTb:=q7 (zh hfI hfJ)
  have HCe:=q7 hbP
  have hcZ:=q7 hcH
  have HFz:=q7 hfK
  have HJ:=q7 (zh j1 j2)
  have HAp:=q7 (zh a1 (zh a2 a3))
  have HG:=q7 (zh g1 (zh g2 g3))
  have HP3:=q7 h3
  have HP4:=q7 h4
  have HP5:=q7 h5
  have HAt:=q7 hat
  have HA:=q7 hA
  have HPh:=q7 hph
  have HGb:=q7 hiH
  clear putb hfI hfJ hbP hcH hfK j1 j2 a1 a2 a3 g1 g2 g3 h3 h4 h5 hat hA hph hiG hlZ hlt hiH
  go_wp2_with fail
  go_quiet (fail)
  obtain ⟨W1,hW1⟩:∃W1,W1=wa.drewN nq:=⟨_,rfl⟩
  rw [←hW1]
  have hb1:Below wa.heap.size wa W1:=by rw [hW1];exact below_drewN (zI _ _) nq
  have hz1:W1.heap.size=wa.heap.size:=by rw [hW1];rfl
  have hbK:Below w.heap.size w W1:=HBx.out.trans (hb1.mono (by omega))
  have hc31:=(hbK.cell (p:=⟨gf,of_+3,none⟩) hlX).trans hfL.out
  have hT1:W1.heap[w.heap.size]?=some (.cells #[.int .i64 gone] 3 (0,0)):=(hb1.block _ tz).trans ((HBr.out.block _ (by omega)).trans HT0.out)
  have hm3:W1.heap[gb]?=w.heap[gb]?:=(hb1.block _ gz).trans HGb.out
  have hm4:SlO 88 2 PhiO W1 (.slice q1 f.blocks[gone].phis.length d1) f.blocks[gone].phis S1:=HP3.out.sl.below xR hbK
  have hfM:∀i,S1 i→i<w.heap.size∧i≠gb∧i≠gf:=fun i hi=>⟨HP3.out.sl.inb i hi,fun e=>HTb.out.1 (by rw [←e];exact HG.out.1 i hi),fun e=>HSn.out.1 (by rw [←e];exact HTb.out.2 i (HG.out.1 i hi))⟩
  have HB1:=q7 hbK
  have hq7:=q7 hc31
  have HT1:=q7 hT1
  have hq9:=q7 hm3
  have hqb:=q7 hm4
  have haW:=q7 hfM
  have huq:=hbK.size
  clear hW1 hb1 hbK hc31 hT1 hm3 hm4 hfM c3 t0 tz g0 gz HGb HBr HBx
  go_wp2_with fail
  go_loopg [39] f.blocks[gone].phis.length (fun q s39 wr=>∃(j:Nat) (Sj:Blks),j≤f.blocks[gone].phis.length∧q=f.blocks[gone].phis.length - j∧s39 = .int .i64 j∧SlO 88 2 PhiO wr (.slice q1 f.blocks[gone].phis.length d1) (zM j (dropP A) f.blocks[gone].phis) Sj∧(∀i,Sj i→S1 i∨W1.heap.size≤i)∧Kept S1 W1 wr)
  case atStart=>exact ⟨0,S1,by omega,rfl,rfl,by rw [xN];exact hqb.out,fun i hi=>.inl hi,Kept.refl _ _⟩
  case round=>
   obtain ⟨wp,hwp⟩:∃wp,wp=wr:=⟨_,rfl⟩
   subst hwp
   obtain ⟨j,Sj,hj,rfl,rfl,hO,hL,hK⟩:=hrel
   have HO:=q7 hO
   have HL:=q7 hL
   have HK:=q7 hK
   have hiI:=hK.size
   have c3:=(hK.cell (p:=⟨gf,of_+3,none⟩) (show gf<W1.heap.size by omega) (fun h=>(haW.out _ h).2.2 rfl)).trans hq7.out
   have hTp:=(hK.block _ (q8 HT1.out) (fun h=>by have:=(haW.out _ h).1;omega)).trans HT1.out
   have t0:wp.cell? ⟨w.heap.size,0,none⟩=some (.int .i64 gone):=(blk hTp).1 0
   have tz:=q8 hTp
   have hiJ:wp.heap[gb]?=w.heap[gb]?:=(hK.block _ (by omega) (fun h=>(haW.out _ h).2.1 rfl)).trans hq9.out
   have g0:wp.cell? ⟨gb,gone*6,none⟩=some (.slice q1 f.blocks[gone].phis.length d1):=(zN (a:=⟨gb,gone*6,none⟩) hiJ).trans (HCe.out 0 (by omega))
   have gz:gb<wp.heap.size:=by omega
   have hm5:=q7 hiJ
   have HTp:=q7 hTp
   clear hO hL hK hiJ hTp
   by_cases hlt:j<f.blocks[gone].phis.length
   ·have hlt':j<(zM j (dropP A) f.blocks[gone].phis).length:=by rw [xM];exact hlt
    obtain ⟨gp,cp,csp,Tp,hvp,hgp,hbH,hdY,hxp,hbQ,hbT,haC,hcV,⟨curp,haA⟩,putp⟩:=HO.out.focus xR (by omega) hlt'
    rw [jm hlt' (zK _)] at hxp
    obtain ⟨ph,hpe⟩:∃ph,ph=f.blocks[gone].phis[j]:=⟨_,rfl⟩
    have hm6:ph∈f.blocks[gone].phis:=by rw [hpe];exact zP hlt
    have hqd:=HPh.out ph hm6
    have hAn:A<ph.src.length:=by omega
    rw [←hpe] at hxp
    obtain ⟨vs,rfl,i1,hsrc⟩:=hxp
    obtain ⟨qs,ds,rfl,hqs,_⟩:=hsrc.sl.val
    have hq1:q1=some ⟨gp,0,none⟩:=by injection hvp
    subst hq1
    have e0:=haC 0 (by omega)
    have e1:=haC 1 (by omega)
    simp only [zB,zD,yJ] at e0 e1
    have hqf:gp≠w.heap.size∧gp≠gb∧gp≠gf:=by
     rcases HL.out gp hbH with h|h
     ·have:=haW.out gp h;omega
     omega
    have HPe:=q7 hpe
    have HI1:=q7 i1
    have hfN:=q7 hsrc
    have HQs:=q7 hqs
    have hiL:=q7 putp
    have huu:=q7 (zh hbQ hbT)
    have hiN:=q7 haA
    have hbU:=q7 haC
    have hdZ:=q7 hcV
    have hdI:=q7 hbH
    have jl:(j:Int)<f.blocks[gone].phis.length:=by omega
    have jl0:(0:Int)≤(j:Int):=by omega
    clear hvp hpe i1 hsrc hqs putp hbQ hbT haA haC hdY hcV hbH hm6 hqd
    go_wp2_with fail
    go_quiet (fail)
    obtain ⟨wq,hwq⟩:∃wq,wq=wp.drewN nq:=⟨_,rfl⟩
    rw [←hwq]
    have hbq:Below wp.heap.size wp wq:=by rw [hwq];exact below_drewN (zI _ _) nq
    have hzq:wq.heap.size=wp.heap.size:=by rw [hwq];rfl
    have e1q:wq.cell? ⟨gp,j*2+1,none⟩=some (.slice qs ph.src.length ds):=(hbq.cell (p:=⟨gp,j*2+1,none⟩) hgp).trans e1
    have gpq:gp<wq.heap.size:=by omega
    have HBq:=q7 hbq
    clear hwq hbq c3 t0 tz g0 gz e0 e1
    have hsr:SliceAt wq 2 ZG qs ph.src:=by
     obtain ⟨p',c',e,_,_,h⟩:=(hfN.out.sl.below xX HBq.out).read (R':=ZG) xX (by omega) fun _ _ _ h=>h
     cases e
     exact h
    have HSr:=q7 hsr
    clear hsr
    go_wp2_with fail
    refine (vD ph.src qs ds wq HSr.out HQs.out hfN.out.bd).mono ?_
    rintro e w5 ⟨pe,me,rfl,⟨Se,hSe,hLe⟩,hb5⟩
    have hz5:=hb5.size
    obtain ⟨hrow,hm7,hm8,hm9⟩:=hSe.sl.row
    obtain ⟨ge,ce,cure,hve,hmf,hqh,hmg⟩:=Jt hrow (by omega)
    obtain ⟨rfl,rfl⟩:pe=some ⟨ge,0,none⟩∧me=ce:=by cases hve;exact ⟨rfl,rfl⟩
    have hmh:∀i,Se i→wp.heap.size≤i:=fun i hi=>by have:wq.heap.size≤i:=hLe i hi;omega
    have hge:Se ge:=hm8 ge rfl
    have hqp:=q7 hmf
    have hqr:=q7 hmg
    have hqt:=q7 hm7
    have HB5:=q7 (HBq.out.trans (hb5.mono (by omega)))
    have hmj:=q7 hm9
    have HLe:=q7 hmh
    clear hSe hLe hmh hb5 hrow hm7 hm9 hmf hmg hm8 hve
    go_wp2_with fail
    have hcast:((A:Int)+1)=((A+1:Nat):Int):=by omega
    rw [hcast]
    refine (Qk ge me ph.src.length A (A+1) ph.src cure w5 hqp.out hqr.out rfl hqh (by omega) rfl).mono ?_
    rintro e w6 ⟨rfl,⟨cur6,hr6,ht6⟩,hK6⟩
    have hqu:=HLe.out ge hge
    have hhK:w6.heap[gp]?=wp.heap[gp]?:=(hK6.block _ (by omega) (by omega)).trans (HB5.out.block _ hgp)
    have e16:w6.cell? ⟨gp,j*2+1,none⟩=some (.slice qs ph.src.length ds):=(zN (a:=⟨gp,j*2+1,none⟩) hhK).trans (hbU.out 1 (by omega))
    have e1f:∀o,w6.frozen? ⟨gp,o,none⟩=false:=fun o=>(yB (a:=⟨gp,o,none⟩) hhK).trans (hdZ.out o)
    have hz6:=hK6.size
    have gp6:gp<w6.heap.size:=by omega
    have HR6:=q7 hr6
    have HT6:=q7 ht6
    have HK6:=q7 hK6
    have hqw:=q7 hhK
    clear hr6 ht6 hK6 hhK e1q hcast
    go_wp2_with fail
    obtain ⟨W,hW⟩:∃W,W=w6.setCell ⟨gp,j*2+1,none⟩ (.slice (some ⟨ge,0,none⟩) (ph.src.length - 1) me):=⟨_,rfl⟩
    rw [←hW]
    have hKW:Kept (fun i=>i=gp) w6 W:=by rw [hW];exact Kept.setCell (S:=fun i=>i=gp) (p:=⟨gp,j*2+1,none⟩) (Kept.refl _ _) rfl _
    have hrp:RowPut wp W 88 gp (j*2) 2 [.int .i64 ph.dst,.slice (some ⟨ge,0,none⟩) (ph.src.length - 1) me]:=by
     rw [hW]
     exact RowPut.set (RowPut.same hiN.out hqw.out hbU.out) rfl (j:=1) (by omega) _
    have hKp:Kept (fun i=>i=gp) wp W:=((Kept.of_below HB5.out).trans HK6.out (fun i hi e=>by omega)).trans hKW (fun i _ e=>e)
    have hel:(ph.src.eraseIdx A).length=ph.src.length - 1:=List.length_eraseIdx_of_lt (by omega)
    have hiO:=HR6.out.own (n:=ph.src.length - 1) (by omega) (by rw [xk,hel]) HT6.out
    have hV6:SlO 40 2 Ke w6 (.slice (some ⟨ge,0,none⟩) (ph.src.length - 1) me) (ph.src.eraseIdx A) Se:=SlO.ofRow (by rw [hel];exact hiO) (fun x hx=>hqt.out x ((List.eraseIdx_sublist _ _).subset hx)) (fun g e=>by cases e;exact hge) (hmj.out.mono hz6)
    have hVW:=hV6.kept xX hKW (fun i a b=>by have:=HLe.out i b;omega)
    have hput:=hiL.out W _ (dropP A ph) Se hrp rfl (fun u hu=>by
      simp only [yC,yG,yl] at hu
      rcases hu with rfl|rfl<;>rfl) hKp.size (fun i h1 h2 h3=>hKp.block i (HO.out.inb i h1) h3)
     ⟨_,rfl,HI1.out,hVW,by rw [show (dropP A ph).src=ph.src.eraseIdx A from rfl,hel];have:=hfN.out.bd;unfold reachBytes at this ⊢;omega⟩
     (fun i hi=>⟨.inr (HLe.out i hi),by have h1:=hmj.out i hi;have h2:=hKW.size;omega⟩)
    rw [HPe.out,x9 hlt] at hput
    have hrel:(∀i,Sj i∨Se i→S1 i∨W1.heap.size≤i)∧Kept S1 W1 W:=by
     refine ⟨fun i hi=>?_,HK.out.trans hKp (fun i hi e=>?_)⟩
     ·rcases hi with h|h
      ·exact HL.out i h
      have:=HLe.out i h;omega
     have e:i=gp:=e
     rcases HL.out gp hdI.out with h|h
     ·rw [e];exact h
     omega
    go_roundg (f.blocks[gone].phis.length - (j+1))
    case measure=>omega
    case rel=>exact ⟨j+1,_,by omega,rfl,by go_num,hput,hrel.1,hrel.2⟩
   obtain rfl:j=f.blocks[gone].phis.length:=by omega
   obtain ⟨W2,hW2⟩:∃W2,W2=wp:=⟨_,rfl⟩
   subst hW2
   have hPf:=HO.out
   rw [xn] at hPf
   have heK:Kept S1 w W2:=(Kept.of_below HB1.out).trans HK.out (fun _ _ h=>h)
   have hli:SlO 57 8 InsO W2 v2 f.blocks[gone].list Sl:=HP4.out.sl.kept xt heK (fun i h1 h2=>HAp.out.1 i h1 h2)
   have hti:SlO 3 1 VZ W2 v3 f.blocks[gone].fin.to St:=HP5.out.sl.kept xr heK (fun i h1 h2=>HAp.out.2.1 i h1 h2)
   obtain ⟨X,hX⟩:∃X:BlkL,X={ f.blocks[gone] with phis:=f.blocks[gone].phis.map (dropP A) }:=⟨_,rfl⟩
   have hblk:BlkO W2 [.slice q1 f.blocks[gone].phis.length d1,v2,.int .i64 f.blocks[gone].fin.kind,.bool f.blocks[gone].fin.onr,.int .i64 f.blocks[gone].fin.onn,v3] X (fun i=>Sj i∨Sl i∨St i):=by
    rw [hX]
    refine ⟨_,_,_,Sj,Sl,St,rfl,HJ.out.1,HJ.out.2,⟨hPf,by show (f.blocks[gone].phis.map _).length*32≤_;rw [yT];exact HP3.out.bd⟩,⟨hli,HP4.out.bd⟩,⟨hti,HP5.out.bd⟩,fun i h1 h2=>?_,fun i h1 h2=>?_,HAp.out.2.2,fun _ h=>.inl h,fun _ h=>.inr (.inl h),fun _ h=>.inr (.inr h)⟩
    ·rcases HL.out i h1 with h|h
     ·exact HAp.out.1 i h h2
     have:=HP4.out.sl.inb i h2;omega
    rcases HL.out i h1 with h|h
    ·exact HAp.out.2.1 i h h2
    have:=HP5.out.sl.inb i h2;omega
   have hput:=hbB.out W2 _ X (fun i=>Sj i∨Sl i∨St i) (RowPut.same hcZ.out hm5.out HCe.out) rfl (fun u hu=>by
     obtain ⟨y1,z1,e1,_⟩:=HP4.out.sl.val
     obtain ⟨y2,z2,e2,_⟩:=HP5.out.sl.val
     simp only [yC,yG,yl] at hu
     rcases hu with rfl|rfl|rfl|rfl|rfl|rfl
     ·rfl
     ·rw [e1];rfl
     ·rfl
     ·rfl
     ·rfl
     ·rw [e2];rfl) heK.size (fun i h1 h2 h3=>heK.block i (HSn.out.2 i h1) (fun h=>h2 (HG.out.1 i h))) hblk (fun i hi=>by
     rcases hi with h|h|h
     ·have:=HO.out.inb i h
      rcases HL.out i h with h2|h2
      ·exact ⟨.inl (HG.out.1 i h2),this⟩
      exact ⟨.inr (by omega),this⟩
     ·exact ⟨.inl (HG.out.2.1 i h),by have:=HP4.out.sl.inb i h;omega⟩
     exact ⟨.inl (HG.out.2.2 i h),by have:=HP5.out.sl.inb i h;omega⟩)
   obtain ⟨ys,hys⟩:∃ys,ys=f.blocks.set gone X:=⟨_,rfl⟩
   rw [←hys] at hput
   have hyl:ys.length=f.blocks.length:=by rw [hys];simp
   obtain ⟨S2,hS2⟩:∃S2:Blks,S2=fun i=>S i∨(Sj i∨Sl i∨St i):=⟨_,rfl⟩
   rw [←hS2] at hput
   have heL:∀i,S2 i→S i∨W1.heap.size≤i:=fun i hi=>by
    rw [hS2] at hi
    rcases hi with h|h|h|h
    ·exact .inl h
    ·exact (HL.out i h).imp (fun g=>HTb.out.2 i (HG.out.1 i g)) id
    ·exact .inl (HTb.out.2 i (HG.out.2.1 i h))
    exact .inl (HTb.out.2 i (HG.out.2.2 i h))
   have hby:b<ys.length:=by omega
   obtain ⟨gb',cb',csy,Ty,hvy,hgy,huw,hfO,hxy,hmA,hmB,hbV,hhL,⟨cury,hfP⟩,puty⟩:=hput.focus qK (by omega) hby
   obtain ⟨rfl,rfl⟩:gb=gb'∧c=cb':=by
    injection hvy with y1 _ y2
    injection y1 with y1
    injection y1 with y1
    exact ⟨y1,y2⟩
   obtain ⟨x,hx⟩:∃x,x=ys[b]:=⟨_,rfl⟩
   have he3:x.fin=f.blocks[b].fin∧x.list=f.blocks[b].list:=by
    rw [hx]
    simp only [hys,y8]
    by_cases e:gone=b
    ·subst e
     rw [zZ rfl,hX]
     exact ⟨rfl,rfl⟩
    rw [zQ e]
    exact ⟨rfl,rfl⟩
   rw [←hx] at hxy
   obtain ⟨u1,u2,u3,T1,T2,T3,rfl,k1,k2,m1,m2,m3,n1,n2,n3,o1,o2,o3⟩:=hxy
   obtain ⟨q5,d5,rfl,hq5,_⟩:=m3.sl.val
   have b5:=hbV 5 (by omega)
   have b4:=hbV 4 (by omega)
   have b3:=hbV 3 (by omega)
   have b2:=hbV 2 (by omega)
   simp only [zB,zD] at b2 b3 b4 b5
   have hhJ:x.fin.to.length=2:=by
    rw [he3.1]
    have h1:=(HC.out.fin b hb).len
    have h2:=HM.out.kind
    omega
   have hsr:SliceAt W2 1 kh q5 x.fin.to:=by
    obtain ⟨p',c',e,_,_,h⟩:=m3.sl.read (R':=kh) xr (by omega) fun _ _ _ h=>h
    cases e
    exact h
   have hqx:W2.heap[gb]?=w.heap[gb]?:=hm5.out
   have bi:(b:Int)<f.blocks.length:=by omega
   have bi0:(0:Int)≤(b:Int):=by omega
   have HX:=q7 hX
   have HYs:=q7 hys
   have HYl:=q7 hyl
   have hdJ:=q7 heL
   have hiQ:=q7 puty
   have HTy:=q7 (zh hmA hmB)
   have hfQ:=q7 hbV
   have hqy:=q7 hhL
   have hiR:=q7 hfP
   have HXe:=q7 hx
   have HXf:=q7 he3
   have HK2:=q7 (zh k1 k2)
   have HM1:=q7 m1
   have HM2:=q7 m2
   have HM3:=q7 m3
   have HN:=q7 (zh n1 (zh n2 n3))
   have HO3:=q7 (zh o1 (zh o2 o3))
   have HQ5:=q7 hq5
   have HSr:=q7 hsr
   have hmC:=q7 hhJ
   have hiS:=q7 hput.inb
   have hiT:=q7 heK
   have hqA:x.fin.to.length≤1000000:=by omega
   clear hPf hli hti hX hblk hput hys hyl heL puty hmA hmB hbV hfP hx he3 k1 k2 m1 m2 m3 n1 n2 n3 o1 o2 o3 hq5 hsr hhJ heK hfO hvy hS2 hqx
   go_wp2_with fail
   refine (vE x.fin.to q5 d5 W2 HSr.out HQ5.out HM3.out.bd).mono ?_
   rintro e w5 ⟨pe,me,rfl,⟨Se,hSe,hLe⟩,hb5⟩
   have hz5:=hb5.size
   obtain ⟨ge,ce,_,_,hve,_,hge,_⟩:=hSe.sl.focus xr (by omega) (i:=0) (by have:=hmC.out;omega)
   obtain ⟨rfl,rfl⟩:pe=some ⟨ge,0,none⟩∧me=ce:=by cases hve;exact ⟨rfl,rfl⟩
   have t5:w5.cell? ⟨w.heap.size,0,none⟩=some (.int .i64 gone):=(blk ((hb5.block _ tz).trans HTp.out)).1 0
   have tz5:w.heap.size<w5.heap.size:=by omega
   have hqu:W2.heap.size≤ge:=hLe ge hge
   have HSe:=q7 hSe
   have HB5:=q7 hb5
   have HLe:=q7 (show ∀i,Se i→W2.heap.size≤i from hLe)
   clear hSe hb5 hLe hve c3 t0 g0 b2 b3 b4 b5 hhL
   go_wp2_with fail
   refine (delI_any x.fin.to ge me w.heap.size (gone:Int) w5 Se HSe.out.sl tz5 (by omega) t5 hqA).mono ?_
   rintro e w6 ⟨rfl,hD6,hK6⟩
   obtain ⟨L,hL⟩:∃L,L=x.fin.to.filter fun x=>!(x == (gone:Int)):=⟨_,rfl⟩
   rw [←hL] at hD6
   rw [←hL]
   have hz6:=hK6.size
   have he4:w6.heap[gb]?=W2.heap[gb]?:=(hK6.block _ (by omega) (fun h=>by have:=HLe.out _ h;omega)).trans (HB5.out.block _ hgy)
   have b2:w6.cell? ⟨gb,b*6+2,none⟩=some (.int .i64 x.fin.kind):=(zN (a:=⟨gb,b*6+2,none⟩) he4).trans (hfQ.out 2 (by omega))
   have b3:w6.cell? ⟨gb,b*6+2+1,none⟩=some (.bool x.fin.onr):=(zN (a:=⟨gb,b*6+3,none⟩) he4).trans (hfQ.out 3 (by omega))
   have b4:w6.cell? ⟨gb,b*6+2+2,none⟩=some (.int .i64 x.fin.onn):=(zN (a:=⟨gb,b*6+4,none⟩) he4).trans (hfQ.out 4 (by omega))
   have b5:w6.cell? ⟨gb,b*6+2+3,none⟩=some (.slice q5 x.fin.to.length d5):=(zN (a:=⟨gb,b*6+5,none⟩) he4).trans (hfQ.out 5 (by omega))
   have bf:∀o,w6.frozen? ⟨gb,o,none⟩=false:=fun o=>(yB (a:=⟨gb,o,none⟩) he4).trans (hqy.out o)
   have bz:gb<w6.heap.size:=by omega
   have HD6:=q7 hD6
   have HK6:=q7 hK6
   have hqB:=q7 he4
   have HLq:=q7 hL
   clear hD6 hK6 he4 hL t5
   go_wp2_with fail
   obtain ⟨WF,hWF⟩:∃WF,WF=four w6 gb (b*6) (.int .i64 2) (.bool false) (.int .i64 0) (.slice (some ⟨ge,0,none⟩) L.length me):=⟨_,rfl⟩
   have hWu:=hWF
   unfold four at hWu
   rw [←hWu]
   clear hWu
   have hKF:Kept (fun i=>i=gb) w6 WF:=by rw [hWF];exact Vz ..
   have hrp:RowPut W2 WF 45 gb (b*6) 6 [u1,u2,.int .i64 2,.bool false,.int .i64 0,.slice (some ⟨ge,0,none⟩) L.length me]:=by
    rw [hWF]
    exact (RowPut.same hiR.out hqB.out hfQ.out).four _ _ _ _
   have hK2:Kept (fun i=>i=gb∨Se i) W2 WF:=(((Kept.of_below HB5.out).trans HK6.out (fun i hi h=>.inr h))).trans hKF (fun i _ e=>.inl e)
   have hiU:∀i,Ty i→i<W2.heap.size∧i≠gb:=fun i hi=>⟨hiS.out i (HTy.out.2 i hi),fun e=>HTy.out.1 (by rw [←e];exact hi)⟩
   have hoff:∀i,(i=gb∨Se i)→Ty i→False:=fun i h1 h2=>by
    have h3:=hiU i h2
    rcases h1 with h|h
    ·exact h3.2 h
    have:=HLe.out i h;omega
   obtain ⟨Y,hY⟩:∃Y:BlkL,Y={ phis:=x.phis,list:=x.list,fin:=⟨2,false,0,L⟩ }:=⟨_,rfl⟩
   have hLl:L.length≤x.fin.to.length:=by rw [HLq.out];exact List.length_filter_le _ _
   have hLb:L.length*8≤reachBytes:=by have:=hmC.out;unfold reachBytes;omega
   have hD:SlO 3 1 VZ WF (.slice (some ⟨ge,0,none⟩) L.length me) L Se:=HD6.out.kept xr hKF (fun i h1 h2=>by have:=HLe.out i h2;omega)
   have hblk:BlkO WF [u1,u2,.int .i64 2,.bool false,.int .i64 0,.slice (some ⟨ge,0,none⟩) L.length me] Y (fun i=>T1 i∨T2 i∨Se i):=by
    rw [hY]
    refine ⟨_,_,_,T1,T2,Se,rfl,by show I64 2;unfold I64;omega,by show I64 0;unfold I64;omega,⟨HM1.out.sl.kept xR hK2 (fun i h1 h2=>hoff i h1 (HO3.out.1 i h2)),HM1.out.bd⟩,⟨HM2.out.sl.kept xt hK2 (fun i h1 h2=>hoff i h1 (HO3.out.2.1 i h2)),HM2.out.bd⟩,⟨hD,hLb⟩,HN.out.1,fun i h1 h2=>hoff i (.inr h2) (HO3.out.1 i h1),fun i h1 h2=>hoff i (.inr h2) (HO3.out.2.1 i h1),fun _ h=>.inl h,fun _ h=>.inr (.inl h),fun _ h=>.inr (.inr h)⟩
   have hzF:=hK2.size
   have hput:=hiQ.out WF _ Y (fun i=>T1 i∨T2 i∨Se i) hrp rfl (fun u hu=>by
     obtain ⟨y1,z1,e1,_⟩:=HM1.out.sl.val
     obtain ⟨y2,z2,e2,_⟩:=HM2.out.sl.val
     simp only [yC,yG,yl] at hu
     rcases hu with rfl|rfl|rfl|rfl|rfl|rfl
     ·rw [e1];rfl
     ·rw [e2];rfl
     ·rfl
     ·rfl
     ·rfl
     ·rfl) hzF (fun i h1 h2 h3=>hK2.block i (hiS.out i h1) (fun h=>by
     rcases h with h|h
     ·exact h3 h
     ·have:=HLe.out i h;have:=hiS.out i h1;omega)) hblk (fun i hi=>by
     rcases hi with h|h|h
     ·exact ⟨.inl (HO3.out.1 i h),by have:=(hiU i (HO3.out.1 i h)).1;omega⟩
     ·exact ⟨.inl (HO3.out.2.1 i h),by have:=(hiU i (HO3.out.2.1 i h)).1;omega⟩
     exact ⟨.inr (HLe.out i h),hD.inb i h⟩)
   have hfin:ys.set b Y=(jV f b gone).blocks:=by
    refine yV (by rw [List.length_set,HYl.out,qS]) fun i h1 h2=>?_
    have hi:i<f.blocks.length:=by rw [←qS f b gone];exact h2
    rw [y8,Zn h2]
    have hyi:∀(h:i<ys.length),ys[i]=if gone=i then X else f.blocks[i]:=fun h=>by
     simp only [HYs.out,y8]
    by_cases e:b=i
    ·subst e
     rw [zZ rfl,hY,HLq.out]
     have hxe:=HXe.out
     rw [hyi] at hxe
     simp only [if_true]
     have hto:x.fin.to.filter (fun x=>!(x == (gone:Int)))=f.blocks[b].fin.to.filter (fun t=>decide (t≠(gone:Int))):=by
      rw [HXf.out.1]
      refine List.filter_congr fun t _=>?_
      by_cases g:t=(gone:Int)<;>simp [g]
     rw [hto]
     by_cases e2:gone=b
     ·subst e2
      rw [zZ rfl] at hxe
      rw [hxe,HX.out,HAt.out,zZ rfl]
      rfl
     rw [zQ e2] at hxe
     rw [hxe,zQ (fun h=>e2 h.symm)]
    rw [zQ e,hyi]
    by_cases e2:gone=i
    ·subst e2
     rw [zZ rfl,zZ rfl,zQ (fun h=>e h.symm),HX.out,HAt.out]
     rfl
    rw [zQ e2,zQ (fun h=>e2 h.symm),zQ (fun h=>e h.symm)]
   rw [hfin] at hput
   have hS':∀i,S2 i∨T1 i∨T2 i∨Se i→S i∨w.heap.size≤i:=fun i hi=>by
    have h0:∀i,S2 i→S i∨w.heap.size≤i:=fun i h=>(hdJ.out i h).imp id (fun g=>by omega)
    rcases hi with h|h|h|h
    ·exact h0 i h
    ·exact h0 i (HTy.out.2 i (HO3.out.1 i h))
    ·exact h0 i (HTy.out.2 i (HO3.out.2.1 i h))
    right;have:=HLe.out i h;have:=hiT.out.size;omega
   have hkw:Kept S w WF:=(hiT.out.mono fun i _ h=>HTb.out.2 i (HG.out.1 i h)).trans hK2 (fun i hi h=>by
    rcases h with h|h
    ·rw [h];exact hhI
    have:=HLe.out i h;have:=hiT.out.size;omega)
   have HFin:=q7 (zh hput (zh hS' hkw))
   go_end0
   exact ⟨rfl,_,HFin.out.1,HFin.out.2.1,HFin.out.2.2⟩

structure NmSt (w:World) (nb A m:Nat) (s:NamS):Prop where
 st:w.heap[nb]?=some (.cells #[.slice (some ⟨A,0,none⟩) m m,.int .i64 s.2] 166 (0,0))
 row:w.rowIs A 3 m (fun j=>.int .i64 (s.1 j))
 ne:nb≠A
 many:0≤s.2∧s.2≤1000000
theorem NmSt.kept {U:Blks} {w w':World} {nb A m:Nat} {s:NamS} (h:NmSt w nb A m s) (hk:Kept U w w') (h1:¬ U nb) (h2:¬ U A):NmSt w' nb A m s:=
 ⟨(hk.block _ (q8 h.st) h1).trans h.st,h.row.of_block (hk.block _ h.row.lt h2),h.ne,h.many⟩
theorem NmSt.below {w w':World} {nb A m:Nat} {s:NamS} (h:NmSt w nb A m s) (hb:Below w.heap.size w w'):NmSt w' nb A m s:=h.kept (U:=fun _=>False) (Kept.of_below hb) id id
theorem NmSt.drew {w:World} {nb A m:Nat} {s:NamS} (h:NmSt w nb A m s):NmSt w.drew nb A m s:=h.below (zI _ w).drew

theorem VE (r nb A m:Nat) (s:NamS) (w:World) (h:NmSt w nb A m s) (hr:r<m) (_hb:-1≤s.1 r∧s.1 r≤1000000) :
  Calls Tryz.prog 110 #[.pointer (some ⟨nb,0,none⟩),.int .i64 r] w fun e w'=>e = .returned (.int .i64 ((vw s r).1 r))∧(s.2<1000000→NmSt w' nb A m (vw s r))∧Kept (fun k=>k=nb∨k=A) w w':=by
 obtain ⟨hst,hrow,hne,hm1,hm2⟩:=h
 have z1:=q8 hst
 have z2:=hrow.lt
 obtain ⟨cb,cf⟩:=blk hst
 have cb0:=cb 0
 have cb1:=cb 1
 simp only [zE,zB,zD] at cb0 cb1
 have c2:=hrow.cell hr
 have c2f:=hrow.frozen r
 have hne2:¬ A=nb:=fun e=>hne e.symm
 have hst':w.heap[nb]?=some (.cells #[.slice (some ⟨A,0,none⟩) m m,.int .i64 s.2] 166 (0,0)):=hst
 have HSt:=q7 hst'
 have hda:=q7 hrow
 clear cb hst hst' hrow
 by_cases hlt:s.1 r<0
 ·have hw:IntKind.i64.wrap (s.2+1)=s.2+1:=by rw [xI];omega
  have hl:decide (s.1 r<0)=true:=by simpa using hlt
  have hn:vw s r=(fun i=>if i=r then s.2 else s.1 i,s.2+1):=by unfold vw;rw [zZ hlt]
  have HN:=q7 hn
  clear hn
  go_enter Tryz.func110,Tryz.ntmps110
  go_wp2_with fail
  go_region
  go_wp2_with fail
  go_ret
  obtain ⟨W,hW⟩:∃W,W=((w.setCell ⟨A,r,none⟩ (.int .i64 s.2)).setCell ⟨nb,1,none⟩ (.int .i64 (s.2+1))).drew:=⟨_,rfl⟩
  rw [←hW,HN.out]
  have hK:Kept (fun k=>k=nb∨k=A) w W:=by
   rw [hW]
   have h0:Kept (fun k=>k=nb∨k=A) w w:=Kept.refl _ w
   have h1:=h0.setCell (p:=⟨A,r,none⟩) (.inr rfl) (.int .i64 s.2)
   exact (h1.setCell (p:=⟨nb,1,none⟩) (.inl rfl) (.int .i64 (s.2+1))).drew
  refine ⟨by simp,fun hs=>⟨?_,?_,hne,by simp;omega⟩,hK⟩
  ·rw [hW]
   show ((w.setCell ⟨A,r,none⟩ (.int .i64 s.2)).setCell ⟨nb,1,none⟩ (.int .i64 (s.2+1))).heap[nb]?=_
   rw [qq ((zJ w ⟨A,r,none⟩ _ nb hne).trans HSt.out) 1 _]
   rfl
  rw [hW]
  refine (((hda.out.set r (.int .i64 s.2)).setOther (by show A≠nb;exact fun e=>hne e.symm) _).drew).congr fun j _=>?_
  by_cases e:j=r<;>simp [e]
 have hl:decide (s.1 r<0)=false:=by simpa using hlt
 have hn:vw s r=s:=by unfold vw;rw [zQ hlt]
 have HN:=q7 hn
 clear hn
 go_enter Tryz.func110,Tryz.ntmps110
 go_wp2_with fail
 go_ret
 rw [HN.out]
 exact ⟨rfl,fun _=>⟨HSt.out,hda.out,hne,hm1,hm2⟩,Kept.refl _ _⟩

theorem nval_any (v:Bool×Int) (nb A m:Nat) (s:NamS) (w:World) (h:NmSt w nb A m s) (hv:v.1=true→0≤v.2∧v.2<m) (hb:∀r,-1≤s.1 r∧s.1 r≤1000000) :
  Calls Tryz.prog 111 #[.pointer (some ⟨nb,0,none⟩),.agg #[.bool v.1,.int .i64 v.2]] w fun e w'=>e = .returned (.agg #[.bool v.1,.int .i64 (xe ((je v).foldl vw s).1 v).2])∧(s.2<1000000→NmSt w' nb A m ((je v).foldl vw s))∧Kept (fun k=>k=nb∨k=A) w w':=by
 obtain ⟨vr,vn⟩:=v
 have zn:=q8 h.st
 have zA:=h.row.lt
 have HM:=q7 h
 cases vr with
 | false=>
  have hm:(je (false,vn)).foldl vw s=s:=rfl
  have hr:(xe s.1 (false,vn)).2=vn:=rfl
  rw [hm,hr]
  have h0:=h.many
  clear h hm hr
  go_enter Tryz.func111,Tryz.ntmps111
  go_wp2_with fail
  obtain ⟨W,hW⟩:∃W,W=(w.alloc (.cells #[.bool false,.int .i64 vn] 40)).alloc (.cells #[.bool false,.int .i64 vn] 40):=⟨_,rfl⟩
  rw [←hW]
  have hb:Below w.heap.size w W:=by rw [hW];exact bZ
  have hR:W.heap[w.heap.size+1]?=some (.cells #[.bool false,.int .i64 vn] 40 (0,0)):=by
   rw [hW]
   exact qh (by simp)
  clear hW
  obtain ⟨rb,_⟩:=blk hR
  have rb0:=rb 0
  have rb1:=rb 1
  simp only [zE,zB,zD] at rb0 rb1
  refine zk (v:=.agg #[.bool false,.int .i64 vn]) ?_ rfl ⟨rfl,fun _=>HM.out.below hb,Kept.of_below hb⟩
  simp [results,Tryz.results111,go_sem,rb0,rb1]
 | true=>
  obtain ⟨hv1,hv2⟩:=hv rfl
  obtain ⟨r,rfl⟩:∃r:Nat,vn=(r:Int):=⟨vn.toNat,by simp at hv1;omega⟩
  have hrm:r<m:=by simp at hv2;omega
  have hm:(je (true,(r:Int))).foldl vw s=vw s r:=by simp [je]
  have hr:(xe (vw s r).1 (true,(r:Int))).2=(vw s r).1 r:=by simp [xe]
  rw [hm,hr]
  have hcon:=fun W (hW:NmSt W nb A m s)=>VE r nb A m s W hW hrm (hb r)
  have heM:=q7 hcon
  obtain ⟨nr,hnr⟩:∃nr,nr=(vw s r).1 r:=⟨_,rfl⟩
  rw [←hnr]
  have HNr:=q7 hnr
  clear h hm hr hcon hnr
  go_enter Tryz.func111,Tryz.ntmps111
  go_wp2_with fail
  have hb1:Below w.heap.size w ((w.alloc (.cells #[.bool true,.int .i64 r] 40)).alloc (.cells #[.bool false,.int .i64 0] 40)):=by exact bZ
  refine (heM.out _ (HM.out.below hb1)).mono ?_
  rintro e w2 ⟨rfl,hN2,hK2⟩
  rw [←HNr.out]
  have hV2:w2.heap[w.heap.size]?=some (.cells #[.bool true,.int .i64 r] 40 (0,0)):=(hK2.block _ (by simp;omega) (by omega)).trans (qg (qh rfl))
  have hZ2:w2.heap[w.heap.size+1]?=some (.cells #[.bool false,.int .i64 0] 40 (0,0)):=(hK2.block _ (by simp) (by omega)).trans (qh (by simp))
  have hz2:=hK2.size
  obtain ⟨vb,vf⟩:=blk hV2
  have vb0:=vb 0
  have vb1:=vb 1
  obtain ⟨zb,zf⟩:=blk hZ2
  have zb0:=zb 0
  have zb1:=zb 1
  simp only [zE,zB,zD] at vb0 vb1 zb0 zb1
  have zv:=q8 hV2
  have zz:=q8 hZ2
  have hne1:¬ (w.heap.size+1=w.heap.size):=by omega
  have hne2:¬ (w.heap.size=w.heap.size+1):=by omega
  have HN2:=q7 hN2
  have HK2:=q7 ((Kept.of_below hb1).trans hK2 (fun _ _ h=>h))
  have HZ2:=q7 hZ2
  clear hN2 hK2 hV2 hZ2 vb zb hb1
  go_wp2_with fail
  obtain ⟨W,hW⟩:∃W,W=((w2.setCell ⟨w.heap.size,1,none⟩ (.int .i64 nr)).setCell ⟨w.heap.size+1,0,none⟩ (.bool true)).setCell ⟨w.heap.size+1,1,none⟩ (.int .i64 nr):=⟨_,rfl⟩
  rw [←hW]
  have hK:Kept (fun k=>k=w.heap.size∨k=w.heap.size+1) w2 W:=by
   rw [hW]
   have h0:Kept (fun k=>k=w.heap.size∨k=w.heap.size+1) w2 w2:=Kept.refl _ _
   have h1:=h0.setCell (p:=⟨w.heap.size,1,none⟩) (.inl rfl) (.int .i64 nr)
   have h2:=h1.setCell (p:=⟨w.heap.size+1,0,none⟩) (.inr rfl) (.bool true)
   exact h2.setCell (p:=⟨w.heap.size+1,1,none⟩) (.inr rfl) (.int .i64 nr)
  have hR:W.heap[w.heap.size+1]?=some (.cells #[.bool true,.int .i64 nr] 40 (0,0)):=by
   have h1:(w2.setCell ⟨w.heap.size,1,none⟩ (.int .i64 nr)).heap[w.heap.size+1]?=some (.cells #[.bool false,.int .i64 0] 40 (0,0)):=(zJ _ _ _ _ (by show w.heap.size+1≠w.heap.size;omega)).trans HZ2.out
   rw [hW,qq (qq h1 0 _) 1 _]
   rfl
  clear hW
  obtain ⟨rb,_⟩:=blk hR
  have rb0:=rb 0
  have rb1:=rb 1
  simp only [zE,zB,zD] at rb0 rb1
  refine zk (v:=.agg #[.bool true,.int .i64 nr]) ?_ rfl ⟨rfl,fun hs=>(HN2.out hs).kept hK (by omega) (by omega),(HK2.out.trans hK (fun k h1 h2=>by omega))⟩
  simp [results,Tryz.results111,go_sem,rb0,rb1]
end Go.Proofs.YtbnnhmcloecijaaGreatDoor
