/-
  The contract of tidy.rename.
-/
import Derived.Test.YtbnnhmcloecijaaGreatDoorJDomD
import Derived.Test.YtbnnhmcloecijaaGreatDoorJIdxN
set_option maxRecDepth 100000
set_option maxHeartbeats 16000000
namespace Go.Proofs.YtbnnhmcloecijaaGreatDoor
open Go.RowKit Go.Shelf

theorem mA (f:FunL) (hD:FunD f) (old now B gq e1:Nat) (V:Nat→Value) (w:World) (N:Blks) (hold:old<f.blocks.length) (_hnow:now<f.blocks.length)
  (haL:∀t:Nat,(t:Int)∈(atF f old).fin.to→∀p∈(atF f t).phis,p.src.length=(insN f t).length) (hself:(old:Int)∉(atF f old).fin.to)
  (hF:w.heap[B]?=some (.cells #[.string f.name,.int .i64 f.params,.int .i64 f.regs,.slice (some ⟨gq,0,none⟩) f.blocks.length e1] 36 (0,0))) (hBN:¬ N B) (hN:SlO 45 6 Ku w (.slice (some ⟨gq,0,none⟩) f.blocks.length e1) (kf V f.blocks) N) :
  Calls Tryz.prog 112 #[.pointer (some ⟨B,0,none⟩),.int .i64 old,.int .i64 now] w fun e w'=>e = .returned (.tuple #[])∧
   SlO 45 6 Ku w' (.slice (some ⟨gq,0,none⟩) f.blocks.length e1) (kf V (qR f old now).blocks) N∧Kept (fun g=>N g∧g≠gq) w w':=by
 have hd9:=hD.n40
 obtain ⟨cs,T,hW⟩:=hN
 have hlz:(kf V f.blocks).length=f.blocks.length:=xS _ _
 have hwg:∀b,b<f.blocks.length→N gq∧gq<w.heap.size∧∀j,j<6→w.cell? ⟨gq,b*6+j,none⟩=(cs b)[j]?:=fun b hb=>by
  obtain ⟨g',c',e,h1,h2,h3⟩:=hW.cell (i:=b) (by rw [hlz];exact hb)
  have hgg:g'=gq:=by
   injection e with a _ _
   injection a with a
   injection a with a
   exact a.symm
  rw [hgg] at h1 h2 h3
  exact ⟨h1,h2,h3⟩
 have hnI:=(hwg old hold).1
 have hnJ:=(hwg old hold).2.1
 obtain ⟨fb,ff⟩:=blk hF
 have fb0:=fb 0
 have fb1:=fb 1
 have fb2:=fb 2
 have fb3:=fb 3
 simp only [zE,zB,zD] at fb0 fb1 fb2 fb3
 have fz:=q8 hF
 have HD:=q7 hD
 have HW:=q7 hW
 have HWg:=q7 hwg
 have HF:=q7 hF
 have HBN:=q7 hBN
 have hgU:=q7 haL
 have hjO:=q7 hself
 have HGN:=q7 hnI
 clear hD hW hwg hF hBN haL hself fb hlz hnI
 go_enter Tryz.func112,Tryz.ntmps112
 go_wp2_with fail
 refine (j7 f.name f.params f.regs gq 0 e1 f.blocks.length (Qh f) w hd9 (fun i hi=>blkAtN HW.out (zI _ w) i hi) HD.out.toFunS.tosD).mono ?_
 rintro e W1 ⟨⟨tf,rfl,haa⟩,hb1⟩
 have HAh:=q7 (AheadIn.of haa)
 obtain ⟨T1,hT1⟩:∃T1,T1=w.heap.size+1:=⟨_,rfl⟩
 rw [←hT1] at HAh ⊢
 have hz1:=hb1.size
 have hqK:w.heap.size<T1:=by omega
 have hF1:W1.heap[B]?=some (.cells #[.string f.name,.int .i64 f.params,.int .i64 f.regs,.slice (some ⟨gq,0,none⟩) f.blocks.length e1] 36 (0,0)):=(hb1.block _ fz).trans HF.out
 have hlz:(kf V f.blocks).length=f.blocks.length:=xS _ _
 have hoz:old<(kf V f.blocks).length:=by rw [hlz];exact hold
 have hjP:Ku W1 (cs old) (V old,f.blocks[old]) (T old):=by
  have:=HW.out.el old hoz
  rw [j8 hoz] at this
  exact vy _ _ _ _ _ this (fun g hg=>hb1.block g (HW.out.inb g (HW.out.sub old hoz g hg))) hb1.size
 obtain ⟨v1,v3,S1,S3,hcs,⟨pl,ll,cl,hvl⟩,_,_,h3,h5,a2,g1,g3⟩:=hjP
 obtain ⟨q1,d1,rfl,_⟩:=h3.sl.val
 obtain ⟨q3,d3,rfl,_⟩:=h5.sl.val
 dsimp only at hcs hvl h3 h5
 rw [hvl] at hcs
 have hce:∀j,j<6→W1.cell? ⟨gq,old*6+j,none⟩=(cs old)[j]?:=fun j hj=>(hb1.cell (p:=⟨gq,old*6+j,none⟩) hnJ).trans ((HWg.out old hold).2.2 j hj)
 rw [hcs] at hce
 have c0:=hce 0 (by omega)
 have c1:=hce 1 (by omega)
 have c2:=hce 2 (by omega)
 have c3:=hce 3 (by omega)
 have c4:=hce 4 (by omega)
 have c5:=hce 5 (by omega)
 simp only [zB,zD,yJ] at c0 c1 c2 c3 c4 c5
 obtain ⟨tos,hcY⟩:∃tos,tos=f.blocks[old].fin.to:=⟨_,rfl⟩
 have hat:(atF f old).fin.to=tos:=by rw [qC hold,hcY]
 rw [←hcY] at h5 c5
 have htr:=h5.read (R':=kh) xr (by omega) fun _ _ _ h=>h
 have hts:SliceAt W1 1 kh q3 tos:=by
  obtain ⟨_,_,e,_,_,h⟩:=htr.outC
  cases e
  exact h
 have htb:∀t∈tos,1≤t∧t<(f.blocks.length:Int):=by rw [hcY];exact HD.out.tos old hold
 have htd:tos.Nodup:=by rw [hcY];exact HD.out.once old hold
 have ht2:tos.length≤2:=by rw [hcY];exact HD.out.two old hold
 have hW1:SlW 45 6 Ku W1 (.slice (some ⟨gq,0,none⟩) f.blocks.length e1) (kf V f.blocks) N cs T:=by
  refine ⟨⟨HW.out.own.1,?_⟩,HW.out.len,HW.out.one,fun i hi=>vy _ _ _ _ _ (HW.out.el i hi) (fun g hg=>hb1.block g (HW.out.inb g (HW.out.sub i hi g hg))) hb1.size,HW.out.two,HW.out.off,HW.out.blk,HW.out.sub,HW.out.inb.mono hb1.size⟩
  rcases HW.out.own.2 with h1|⟨g,cap,cur,hv,hb,hg,r⟩
  ·exact .inl h1
  exact .inr ⟨g,cap,cur,hv,hb,by rw [hb1.block g (yL.1 hg).1];exact hg,r⟩
 have heS:∀g,S3 g→T old g:=g3
 have HW1:=q7 hW1
 have HF1:=q7 hF1
 have HTs:=q7 hts
 have HTb:=q7 htb
 have HTd:=q7 htd
 have HAt:=q7 hat
 have HS3:=q7 heS
 have HB1:=q7 hb1
 have huS:=q7 hcY
 clear hcY
 have H5:=q7 h5
 have hTN:∀t,t<f.blocks.length→∀g,T t g→N g∧g<w.heap.size∧g≠gq:=fun t ht g hg=>by
  have ht2:t<(kf V f.blocks).length:=by rw [hlz];exact ht
  exact ⟨HW.out.sub t ht2 g hg,HW.out.inb g (HW.out.sub t ht2 g hg),fun e=>HW.out.off t ht2 gq rfl (by rw [←e];exact hg)⟩
 have HTN:=q7 hTN
 have hrQ:=q7 (fun g (hg:N g)=>HW.out.inb g hg)
 have hmH:=HAh.out.1.2
 have hrS:∀c,c<f.blocks.length→W1.heap.size<W1.heap.size+1:=fun _ _=>by omega
 clear haa hb1 hF1 hts htb htd hat heS hW1 h3 h5 a2 g1 g3 hce hTN htr HW HF hT1 fb0 fb1 fb2 fb3 ff hrS
 obtain ⟨gb,gf⟩:=blk HF1.out
 have gb3:=gb 3
 simp only [zE,zB,zD] at gb3
 have gz:=q8 HF1.out
 clear gb
 have hrT:gq<W1.heap.size:=by omega
 go_wp2_with fail
 obtain ⟨KU,hKU⟩:∃KU:Blks,KU=fun g=>N g∧g≠gq∧¬ T old g:=⟨_,rfl⟩
 have hnK:∀g,KU g→N g∧g≠gq∧¬ T old g:=fun g h=>by rw [hKU] at h;exact h
 have hnM:∀g,N g→g≠gq→¬ T old g→KU g:=fun g h1 h2 h3=>by rw [hKU];exact ⟨h1,h2,h3⟩
 have HKn:=q7 hnK
 have HKi:=q7 hnM
 clear hKU hnK hnM
 clear c0 c1 c2 c3 c4 c5
 go_loopg [30] tos.length (fun q s30 wr=>∃i:Nat,i≤tos.length∧q=tos.length - i∧s30 = .int .i64 i∧SlW 45 6 Ku wr (.slice (some ⟨gq,0,none⟩) f.blocks.length e1) (kf V (Vu f old now i)) N cs T∧Kept KU W1 wr)
 case atStart=>exact ⟨0,by omega,rfl,rfl,by rw [renK_zero];exact HW1.out,Kept.refl _ _⟩
 case round=>
  obtain ⟨wt,hwt⟩:∃wt,wt=wr:=⟨_,rfl⟩
  subst hwt
  obtain ⟨i,hi,rfl,rfl,hWi,hKi⟩:=hrel
  have huT:=hKi.size
  have HWi:=q7 hWi
  have heT:=q7 hKi
  clear hWi hKi
  by_cases hil:i<tos.length
  rotate_left
  ·obtain rfl:tos.length=i:=by omega
   go_wp2_with fail
   go_end0
   refine ⟨rfl,?_,?_⟩
   ·have h1:=HWi.out
    rw [←HAt.out,renK_full] at h1
    exact ⟨cs,T,h1⟩
   exact ((Kept.of_below HB1.out).trans heT.out (fun g _ h=>⟨(HKn.out g h).1,(HKn.out g h).2.1⟩))
  obtain ⟨g3t,c3t,cs3,T3,hv3,hrV,hnN,_,hx3,_,_,hc3,_⟩:=H5.out.sl.focus xr (by omega) hil
  obtain ⟨hjQ,_⟩:=hx3
  subst hjQ
  have hq3:q3=some ⟨g3t,0,none⟩:=by injection hv3
  subst hq3
  have hrW:=HTb.out _ (zP hil)
  obtain ⟨tn,htn⟩:∃tn:Nat,tos[i]=(tn:Int):=⟨tos[i].toNat,by omega⟩
  rw [htn] at hrW hc3
  have htl:tn<f.blocks.length:=by omega
  have htm:(tn:Int)∈tos:=by rw [←htn];exact zP hil
  have hne:tn≠old:=fun e=>by
   subst e
   exact hjO.out (by rw [HAt.out];exact htm)
  have hnO:T old g3t:=HS3.out g3t hnN
  have c0:wt.cell? ⟨g3t,i,none⟩=some (.int .i64 (tn:Int)):=by
   have:=hc3 0 (by omega)
   simp only [Nat.mul_one,yJ] at this
   exact (heT.out.cell (p:=⟨g3t,i,none⟩) hrV (fun h=>(HKn.out _ h).2.2 hnO)).trans this
  have huU:g3t<wt.heap.size:=by omega
  obtain ⟨hsl,hsu⟩:=renK_succ (now:=now) (f:=f) (old:=old) (i:=i) (t:=tn) (by rw [HAt.out];exact hil) (by simp only [HAt.out];exact htn) (by rw [HAt.out];exact HTd.out) htl
  obtain ⟨hsl1,hsl2⟩:=hsl
  obtain ⟨x,hxe⟩:∃x,x=f.blocks[tn]:=⟨_,rfl⟩
  obtain ⟨ah,hah⟩:∃ah,ah=insN f tn:=⟨_,rfl⟩
  have hzl:tn<(kf V (Vu f old now i)).length:=by rw [xS];exact hsl1
  have hel:Ku wt (cs tn) (V tn,x) (T tn):=by
   have:=HWi.out.el tn hzl
   rw [j8 hzl,hsl2,←hxe] at this
   exact this
  have hoa:old∈ah:=by rw [hah];exact Vl old tn hold (by rw [qM hold,←qC hold,HAt.out];exact htm)
  have hpl:∀p∈x.phis,p.src.length=ah.length:=fun p hp=>by
   rw [hah]
   exact hgU.out tn (by rw [HAt.out];exact htm) p (by rw [qC htl,←hxe];exact hp)
  have hfU:∀a∈ah,a<f.blocks.length:=fun a ha=>Vk (c:=tn) (by rw [hah] at ha;exact ha)
  have hj4:ah.length≤80:=by rw [hah];exact ZA HD.out.toFunS tn
  obtain ⟨rt,rr⟩:=HAh.out.kept heT.out (fun g hg=>.inl (by have:=hrQ.out g (HKn.out g hg).1;omega))
  obtain ⟨qa,qc,ha0,ha1⟩:=rr tn htl
  rw [←hah] at ha0 ha1
  have hnP:0<ah.length:=List.length_pos_of_mem hoa
  obtain ⟨ba,rfl,⟨ha2,ha3⟩,_⟩:=ha1 0 hnP
  have hAc:∀m (h:m<ah.length),wt.cell? ⟨ba,m,none⟩=some (.int .i64 (ah[m]:Nat)):=fun m h=>by
   obtain ⟨b',e,_,h2⟩:=ha1 m h
   cases e
   exact h2
  obtain ⟨u1,u3,Su1,Su3,heN,⟨pu,lu,cu,hvu⟩,hu1,hu2,hu3,hu5,hua,hnQ,hnS⟩:=hel
  obtain ⟨qu,du,rfl,_⟩:=hu3.sl.val
  obtain ⟨qw,dw,rfl,_⟩:=hu5.sl.val
  dsimp only at heN hvu hu1 hu2 hu3 hu5
  have hnT:wt.heap[gq]?=W1.heap[gq]?:=heT.out.block gq hrT (fun h=>(HKn.out _ h).2.1 rfl)
  have he8:∀j,j<6→wt.cell? ⟨gq,tn*6+j,none⟩=(cs tn)[j]?:=fun j hj=>(zN (a:=⟨gq,tn*6+j,none⟩) hnT).trans ((HB1.out.cell (p:=⟨gq,tn*6+j,none⟩) hnJ).trans ((HWg.out tn htl).2.2 j hj))
  have d0:=he8 0 (by omega)
  rw [heN] at d0
  simp only [zB,yJ] at d0
  have hFt:wt.heap[B]?=some (.cells #[.string f.name,.int .i64 f.params,.int .i64 f.regs,.slice (some ⟨gq,0,none⟩) f.blocks.length e1] 36 (0,0)):=(heT.out.block B gz (fun h=>HBN.out (HKn.out _ h).1)).trans HF1.out
  obtain ⟨gbt,gft⟩:=blk hFt
  have gb3t:=gbt 3
  simp only [zE,zB,zD] at gb3t
  have gzt:=q8 hFt
  have hrX:gq<wt.heap.size:=by omega
  have hTr:T1<wt.heap.size:=rt.2
  have HAc:=q7 hAc
  have HAe:=q7 hah
  have HXe:=q7 hxe
  have HOa:=q7 hoa
  have HPl:=q7 hpl
  have HAl:=q7 hfU
  have HSu:=q7 hsu
  have HU3:=q7 hu3
  have HU5:=q7 hu5
  have HU:=q7 (zh hu1 (zh hu2 (zh hua (zh hnQ hnS))))
  have hrY:=q7 heN
  have HVu:=q7 (show ∃p l c,V tn = .slice p l c from ⟨pu,lu,cu,hvu⟩)
  have HFt:=q7 hFt
  have HTn:=q7 htn
  have HTt:=q7 (fun g (h:T tn g)=>HTN.out tn htl g h)
  have hnU:∀g,T tn g→¬ T old g:=fun g h h2=>HW1.out.two tn old (by rw [xS];exact htl) (by rw [xS];exact hold) hne g h h2
  have hrZ:=q7 hnU
  have hnV:∀m,m≤ah.length→mM ah old now m≤m:=fun m hm=>cntR_le _ _ _ hm
  have hs8:=q7 hnV
  have hbu:=hu3.bd
  unfold reachBytes at hbu
  clear hv3 hc3 htm hnO hsl1 hsl2 hsu hxe hah hzl hoa hpl hfU rr ha1 hAc hu1 hu2 hu3 hu5 hua hnQ hnS heN hvu hnT he8 hFt gbt gb3 gf gz htn hnN hnU hnV
  go_wp2_with fail
  refine (mz ah ba qc old wt (by omega) (fun m h=>HAc.out m h) HOa.out).mono ?_
  rintro e w' ⟨rfl,hww⟩
  rw [hww]
  clear hww w'
  have hKl:ah.idxOf old<ah.length:=List.idxOf_lt_length_of_mem HOa.out
  obtain ⟨K,hK⟩:∃K,K=ah.idxOf old:=⟨_,rfl⟩
  rw [←hK] at hKl ⊢
  have HKe:=q7 hK
  clear hK
  go_wp2_with fail
  go_loopg [10,45] ah.length (fun q s10 s45 wr=>∃m:Nat,m≤ah.length∧q=ah.length - m∧s10 = .int .i64 (mM ah old now m:Nat)∧s45 = .int .i64 m∧wt=wr)
  case atStart=>exact ⟨0,by omega,rfl,rfl,rfl,rfl⟩
  case round=>
   obtain ⟨m,hm,rfl,rfl,rfl,rfl⟩:=hrel
   by_cases hml:m<ah.length
   ·have cA:=HAc.out m hml
    have hn1:=hs8.out m hm
    have hst:=cntR_succ (old:=old) (now:=now) hml
    generalize mM ah old now m=cnt at *
    have HSt:=q7 hst
    clear hst
    generalize ah[m]=am at *
    by_cases h1:am<now
    ·by_cases h2:am=old
     ·have hq:((am:Int) == (old:Int))=true:=by simp [h2]
      have hq2:((am:Int) != (old:Int))=false:=by simp [h2]
      have hl:decide ((am:Int)<(now:Int))=true:=by simp [h1]
      have h9:mM ah old now (m+1)=cnt:=by rw [HSt.out,zQ (by omega)];rfl
      have H9:=q7 h9
      clear h9
      go_wp2_with fail
      go_roundg (ah.length - (m+1))
      case measure=>omega
      case rel=>exact ⟨m+1,by omega,rfl,by rw [H9.out],by go_num,rfl⟩
     have hq:((am:Int) == (old:Int))=false:=by simp;omega
     have hq2:((am:Int) != (old:Int))=true:=by simp;omega
     have hl:decide ((am:Int)<(now:Int))=true:=by simp [h1]
     have h9:mM ah old now (m+1)=cnt+1:=by rw [HSt.out,zZ (by omega)]
     have H9:=q7 h9
     clear h9
     go_wp2_with fail
     go_roundg (ah.length - (m+1))
     case measure=>omega
     case rel=>exact ⟨m+1,by omega,rfl,by rw [H9.out];go_num,by go_num,rfl⟩
    have hl:decide ((am:Int)<(now:Int))=false:=by simp;omega
    have h9:mM ah old now (m+1)=cnt:=by rw [HSt.out,zQ (by omega)];rfl
    have H9:=q7 h9
    clear h9
    go_wp2_with fail
    go_roundg (ah.length - (m+1))
    case measure=>omega
    case rel=>exact ⟨m+1,by omega,rfl,by rw [H9.out],by go_num,rfl⟩
   obtain rfl:m=ah.length:=by omega
   have hsp:=cntR_full ah old now
   rw [hsp]
   have hs9:Vm ah old now<ah.length:=by
    unfold Vm
    refine List.length_filter_lt_length_iff_exists.2 ⟨old,HOa.out,by simp⟩
   obtain ⟨spt,hjR⟩:∃spt,spt=Vm ah old now:=⟨_,rfl⟩
   rw [←hjR] at hs9 ⊢
   have HSp:=q7 hjR
   clear hjR hsp
   go_wp2_with fail
   go_loopg [69] x.phis.length (fun q s69 wr=>∃j:Nat,j≤x.phis.length∧q=x.phis.length - j∧s69 = .int .i64 j∧SlO 88 2 PhiO wr (.slice qu x.phis.length du) (zM j (XT ah old now) x.phis) Su1∧Kept Su1 wt wr)
   case atStart=>exact ⟨0,by omega,rfl,rfl,by rw [xN];exact HU3.out.sl,Kept.refl _ _⟩
   case round=>
    obtain ⟨ws,hws⟩:∃ws,ws=wr:=⟨_,rfl⟩
    subst hws
    obtain ⟨j,hj,rfl,rfl,hP,hKj⟩:=hrel
    have hhF:=hKj.size
    have hSu:∀g,Su1 g→N g∧g<w.heap.size∧g≠gq:=fun g hg=>HTt.out g (HU.out.2.2.2.1 g hg)
    have hFs:ws.heap[B]?=some (.cells #[.string f.name,.int .i64 f.params,.int .i64 f.regs,.slice (some ⟨gq,0,none⟩) f.blocks.length e1] 36 (0,0)):=(hKj.block B gzt (fun h=>HBN.out (hSu B h).1)).trans HFt.out
    have hgs:ws.heap[gq]?=wt.heap[gq]?:=hKj.block gq hrX (fun h=>(hSu gq h).2.2 rfl)
    have d0s:ws.cell? ⟨gq,tn*6,none⟩=some (.slice qu x.phis.length du):=(zN (a:=⟨gq,tn*6,none⟩) hgs).trans d0
    have HPj:=q7 hP
    have HKj:=q7 hKj
    have hgV:=q7 hSu
    have HFs:=q7 hFs
    clear hP hKj hSu hFs
    by_cases hjl:j<x.phis.length
    rotate_left
    ·obtain rfl:x.phis.length=j:=by omega
     have hPf:=HPj.out
     rw [xn] at hPf
     have hx':Ku ws (cs tn) (V tn,{ x with phis:=x.phis.map (XT ah old now) }) (T tn):=by
      have h0:=hrY.out
      obtain ⟨p,l,c,hv⟩:=HVu.out
      refine ⟨_,_,Su1,Su3,h0,⟨p,l,c,hv⟩,HU.out.1,HU.out.2.1,⟨?_,?_⟩,⟨HU5.out.sl.kept xr HKj.out (fun g h1 h2=>HU.out.2.2.1 g h1 h2),HU5.out.bd⟩,HU.out.2.2.1,HU.out.2.2.2.1,HU.out.2.2.2.2⟩
      ·show SlO _ _ _ _ (.slice qu x.phis.length du) _ _
       exact hPf
      show (x.phis.map _).length*32≤_
      rw [yT]
      exact HU3.out.bd
     have hW':=HWi.out.innerT vy (i:=tn) (by rw [xS,kV];exact htl) (HKj.out.mono fun g _ h=>HU.out.2.2.2.1 g h) hx'
     rw [zipV_set] at hW'
     have hsu:=HSu.out
     rw [←HXe.out,←HAe.out] at hsu
     rw [hsu] at hW'
     have hK':Kept KU W1 ws:=heT.out.trans HKj.out (fun g _ h=>HKi.out g (hgV.out g h).1 (hgV.out g h).2.2 (hrZ.out g (HU.out.2.2.2.1 g h)))
     have ha6:=q7 (zh hW' hK')
     clear hPf hx' hW' hsu hK'
     go_wp2_with fail
     go_roundg (tos.length - (i+1))
     case measure=>omega
     case rel=>exact ⟨i+1,by omega,rfl,by go_num,ha6.out.1,ha6.out.2⟩
    have haK:j<(zM j (XT ah old now) x.phis).length:=by rw [xM];exact hjl
    obtain ⟨gp,cp,csp,Tp,hvp,hgp,hbH,hdY,hxp,hbQ,hbT,haC,hcV,⟨curp,haA⟩,putp⟩:=HPj.out.focus xR (by omega) haK
    rw [jm haK (zK _)] at hxp
    obtain ⟨p,hpe⟩:∃p,p=x.phis[j]:=⟨_,rfl⟩
    have hpl:p.src.length=ah.length:=HPl.out p (by rw [hpe];exact zP hjl)
    rw [←hpe] at hxp
    obtain ⟨vp,rfl,hpd,hps⟩:=hxp
    have hq1:qu=some ⟨gp,0,none⟩:=by injection hvp
    have p0:=haC 0 (by omega)
    have p1:=haC 1 (by omega)
    simp only [zB,zD,yJ] at p0 p1
    obtain ⟨hrow,hfk,hSb,_⟩:=hps.sl.row
    rw [hpl] at hrow
    obtain ⟨gv,cv,cur,rfl,hra,hcn,htk⟩:=Jt hrow hnP
    have hjS:Tp gv:=hSb gv rfl
    have hgZ:Su1 gv:=hbT gv hjS
    have hcN:gv≠gp:=fun e=>hbQ (by rw [←e];exact hjS)
    have hKs:K<p.src.length:=by rw [hpl];exact hKl
    obtain ⟨xv,hxv,hxm⟩:∃xv,xv=p.src.getD K (false,0)∧xv∈p.src:=⟨p.src[K],by simp [List.getD,hKs],zP hKs⟩
    have hvc:ws.cell? ⟨gv,K*2,none⟩=some (.bool xv.1)∧ws.cell? ⟨gv,K*2+1,none⟩=some (.int .i64 xv.2):=by
     obtain ⟨gv',_,cs2,T2,e,_,_,_,hx2,_,_,hc2,_⟩:=hps.sl.focus xX (by omega) hKs
     have hgg:gv=gv':=by
      injection e with a _ _
      injection a with a
      injection a with a
     subst hgg
     obtain ⟨hcs2,_⟩:=hx2
     rw [hcs2] at hc2
     have h0:=hc2 0 (by omega)
     have h1:=hc2 1 (by omega)
     rw [show xv=p.src[K] by rw [hxv];simp [List.getD,hKs]]
     exact ⟨h0,h1⟩
    obtain ⟨vc0,vc1⟩:=hvc
    have hsf:gv<ws.heap.size:=by have:=(hgV.out gv hgZ).2.1;omega
    have HPd:=q7 hpd
    have HPe:=q7 hpe
    have HXv:=q7 (zh hxv hxm)
    have heU:=q7 hpl
    have heV:=q7 hfk
    have hbB:=q7 putp
    have HCp:=q7 haA
    have hbU:=q7 haC
    have hdZ:=q7 hcV
    have hdI:=q7 hbH
    have HTp:=q7 (zh hbQ (zh hbT hSb))
    have HTk:=q7 htk
    have HPs:=q7 hps
    have HRa:=q7 hra
    have hgB:gv≠B:=fun e=>HBN.out (by rw [←e];exact (hgV.out gv hgZ).1)
    have hgQ:gv≠gq:=(hgV.out gv hgZ).2.2
    have hbp:=hps.bd
    rw [hpl] at hbp
    unfold reachBytes at hbp
    obtain ⟨gbs,gfs⟩:=blk HFs.out
    have gb3s:=gbs 3
    simp only [zE,zB,zD] at gb3s
    have gzs:=q8 HFs.out
    have hsq:gq<ws.heap.size:=by omega
    subst hq1
    clear hvp hpl hpd hps hpe putp hbQ hbT haA haC hdY hbH hrow hfk hSb hxv hxm hKs htk hra hjS gbs gb3t gft d0
    go_wp2_with fail
    obtain ⟨w7,hw7⟩:∃w7,w7=(ws.alloc (.cells #[.int .i64 p.dst,.slice (some ⟨gv,0,none⟩) ah.length cv] 88)).alloc (.cells #[.bool xv.1,.int .i64 xv.2] 40):=⟨_,rfl⟩
    rw [←hw7]
    have hz7:w7.heap.size=ws.heap.size+1+1:=by rw [hw7];simp
    have hb7:Below ws.heap.size ws w7:=by rw [hw7];exact bZ
    have hY7:w7.heap[ws.heap.size]?=some (.cells #[.int .i64 p.dst,.slice (some ⟨gv,0,none⟩) ah.length cv] 88 (0,0)):=by rw [hw7];exact qg (qh rfl)
    have hV7:w7.heap[ws.heap.size+1]?=some (.cells #[.bool xv.1,.int .i64 xv.2] 40 (0,0)):=by rw [hw7];exact qh (by simp)
    have HB7:=q7 hb7
    clear hw7 hb7 p0 p1 vc0 vc1 hcV
    obtain ⟨Sp,hSp⟩:∃Sp:World→Prop,Sp=fun w'=>w'.heap[B]?=some (.cells #[.string f.name,.int .i64 f.params,.int .i64 f.regs,.slice (some ⟨gq,0,none⟩) f.blocks.length e1] 36 (0,0))∧w'.heap[gq]?=ws.heap[gq]?∧w'.heap[ws.heap.size]?=some (.cells #[.int .i64 p.dst,.slice (some ⟨gv,0,none⟩) ah.length cv] 88 (0,0))∧w'.heap[ws.heap.size+1]?=some (.cells #[.bool xv.1,.int .i64 xv.2] 40 (0,0))∧w'.heap[gp]?=ws.heap[gp]?:=⟨_,rfl⟩
    have ha7:∀w',Sp w'→w'.cell? ⟨B,3,none⟩=some (.slice (some ⟨gq,0,none⟩) f.blocks.length e1)∧w'.cell? ⟨gq,tn*6,none⟩=some (.slice (some ⟨gp,0,none⟩) x.phis.length du)∧w'.cell? ⟨ws.heap.size,1,none⟩=some (.slice (some ⟨gv,0,none⟩) ah.length cv)∧w'.cell? ⟨ws.heap.size+1,0,none⟩=some (.bool xv.1)∧w'.cell? ⟨ws.heap.size+1,1,none⟩=some (.int .i64 xv.2)∧(w'.cell? ⟨gp,j*2+1,none⟩=some (.slice (some ⟨gv,0,none⟩) ah.length cv)∧w'.frozen? ⟨gp,j*2+1,none⟩=false)∧B<w'.heap.size∧ws.heap.size+1<w'.heap.size:=fun w' h=>by
     rw [hSp] at h
     obtain ⟨h1,h2,h3,h4,h5⟩:=h
     exact ⟨(blk h1).1 3,(zN (a:=⟨gq,tn*6,none⟩) h2).trans d0s,(blk h3).1 1,(blk h4).1 0,(blk h4).1 1,⟨(zN (a:=⟨gp,j*2+1,none⟩) h5).trans (hbU.out 1 (by omega)),(yB (a:=⟨gp,j*2+1,none⟩) h5).trans (hdZ.out _)⟩,q8 h1,q8 h4⟩
    have hSk:∀{a c:World},Sp a→Kept (fun g=>g=gv) a c→Sp c:=fun {a c} h hk=>by
     rw [hSp] at h ⊢
     obtain ⟨h1,h2,h3,h4,h5⟩:=h
     have hz:=q8 h4
     exact ⟨(hk.block _ (q8 h1) (fun e=>hgB e.symm)).trans h1,(hk.block _ (by omega) (fun e=>hgQ e.symm)).trans h2,(hk.block _ (by omega) (by omega)).trans h3,(hk.block _ hz (by omega)).trans h4,(hk.block _ (by omega) (fun e=>hcN e.symm)).trans h5⟩
    have hS7:Sp w7:=by
     rw [hSp]
     exact ⟨(HB7.out.block _ gzs).trans HFs.out,HB7.out.block gq hsq,hY7,hV7,HB7.out.block gp hgp⟩
    have ham:Sp w7.drew:=by rw [hSp] at hS7 ⊢;exact hS7
    have hR7:RowAt w7.drew 40 gv cv 2 cur:=⟨(HB7.out.block gv hsf).trans HRa.out.1,HRa.out.2⟩
    have huV:IntKind.i64.wrap ((K:Int)+1)=(K:Int)+1:=by rw [xI];omega
    refine qr (S:=Sp) (by kernel_rfl) 21 ?_
    refine tkZ 0 79 (.pointer (some ⟨B,0,none⟩)) rfl rfl ham (fun w' h=>?_) ?_
    ·obtain ⟨h1,h2,h3,h4,h5,⟨h6,h7⟩,h8,h9⟩:=ha7 w' h
     go_simp
    refine tkZ 1 80 (.pointer (some ⟨B,0,none⟩)) rfl rfl ham (fun w' h=>?_) ?_
    ·obtain ⟨h1,h2,h3,h4,h5,⟨h6,h7⟩,h8,h9⟩:=ha7 w' h
     go_simp
    refine tkZ 2 81 (.pointer (some ⟨B,3,none⟩)) rfl rfl ham (fun w' h=>?_) ?_
    ·obtain ⟨h1,h2,h3,h4,h5,⟨h6,h7⟩,h8,h9⟩:=ha7 w' h
     go_simp
    refine tkZ 3 82 (.slice (some ⟨gq,0,none⟩) f.blocks.length e1) rfl rfl ham (fun w' h=>?_) ?_
    ·obtain ⟨h1,h2,h3,h4,h5,⟨h6,h7⟩,h8,h9⟩:=ha7 w' h
     go_simp
    refine tkZ 4 83 (.int .i64 tn) rfl rfl ham (fun w' h=>?_) ?_
    ·obtain ⟨h1,h2,h3,h4,h5,⟨h6,h7⟩,h8,h9⟩:=ha7 w' h
     go_simp
    refine tkZ 5 84 (.pointer (some ⟨gq,tn*6,none⟩)) rfl rfl ham (fun w' h=>?_) ?_
    ·obtain ⟨h1,h2,h3,h4,h5,⟨h6,h7⟩,h8,h9⟩:=ha7 w' h
     go_simp
    refine tkZ 6 85 (.pointer (some ⟨gq,tn*6,none⟩)) rfl rfl ham (fun w' h=>?_) ?_
    ·obtain ⟨h1,h2,h3,h4,h5,⟨h6,h7⟩,h8,h9⟩:=ha7 w' h
     go_simp
    refine tkZ 7 86 (.slice (some ⟨gp,0,none⟩) x.phis.length du) rfl rfl ham (fun w' h=>?_) ?_
    ·obtain ⟨h1,h2,h3,h4,h5,⟨h6,h7⟩,h8,h9⟩:=ha7 w' h
     go_simp
    refine tkZ 8 87 (.int .i64 j) rfl rfl ham (fun w' h=>?_) ?_
    ·obtain ⟨h1,h2,h3,h4,h5,⟨h6,h7⟩,h8,h9⟩:=ha7 w' h
     go_simp
    refine tkZ 9 88 (.pointer (some ⟨ws.heap.size,1,none⟩)) rfl rfl ham (fun w' h=>?_) ?_
    ·obtain ⟨h1,h2,h3,h4,h5,⟨h6,h7⟩,h8,h9⟩:=ha7 w' h
     go_simp
    refine tkZ 10 89 (.slice (some ⟨gv,0,none⟩) ah.length cv) rfl rfl ham (fun w' h=>?_) ?_
    ·obtain ⟨h1,h2,h3,h4,h5,⟨h6,h7⟩,h8,h9⟩:=ha7 w' h
     go_simp
    refine tkZ 11 90 (.int .i64 K) rfl rfl ham (fun w' h=>?_) ?_
    ·obtain ⟨h1,h2,h3,h4,h5,⟨h6,h7⟩,h8,h9⟩:=ha7 w' h
     go_simp
    refine tkZ 12 91 (.int .i64 K) rfl rfl ham (fun w' h=>?_) ?_
    ·obtain ⟨h1,h2,h3,h4,h5,⟨h6,h7⟩,h8,h9⟩:=ha7 w' h
     go_simp
    refine tkZ 13 92 (.int .i64 ((K+1:Nat):Int)) rfl rfl ham (fun w' h=>?_) ?_
    ·obtain ⟨h1,h2,h3,h4,h5,⟨h6,h7⟩,h8,h9⟩:=ha7 w' h
     go_simp
    refine tkZ 15 94 (.int .i64 spt) rfl rfl ham (fun w' h=>?_) ?_
    ·obtain ⟨h1,h2,h3,h4,h5,⟨h6,h7⟩,h8,h9⟩:=ha7 w' h
     go_simp
    refine tkZ 16 95 (.agg #[.bool xv.1,.int .i64 xv.2]) rfl rfl ham (fun w' h=>?_) ?_
    ·obtain ⟨h1,h2,h3,h4,h5,⟨h6,h7⟩,h8,h9⟩:=ha7 w' h
     go_simp
    refine stepZ_2 (i:=14) (j:=17) (by kernel_rfl) ?_ ?_
    ·refine qm 93 rfl rfl rfl (by go_simp) (Qk gv cv ah.length K (K+1) p.src cur w7.drew hR7 HTk.out heU.out hcn hKl rfl) ?_
     rintro e w8 ⟨rfl,⟨cur8,hR8,ht8⟩,hK8⟩
     have hS8:=hSk ham hK8
     refine ⟨_,rfl,hS8,?_⟩
     have hz8:=hK8.size
     have huW:ws.heap.size+1+1≤w8.heap.size:=by have:w7.drew.heap.size=w7.heap.size:=rfl;omega
     have hS9:Sp (w8.alloc (.cells #[.bool xv.1,.int .i64 xv.2] 40)):=hSk hS8 ((Kept.refl _ _).alloc _)
     refine qk (i:=17) (by kernel_rfl) (qz 96 (.slice (some ⟨w8.heap.size,0,none⟩) 1 1) (w8.alloc (.cells #[.bool xv.1,.int .i64 xv.2] 40)) rfl rfl rfl (by
      obtain ⟨h1,h2,h3,h4,h5,h6,h7,h8⟩:=ha7 w8 hS8
      go_simp) hS9 ?_)
     have hKA:Kept (fun g=>g=gv) w7 (w8.alloc (.cells #[.bool xv.1,.int .i64 xv.2] 40)):=(((Kept.refl (fun g=>g=gv) w7).drew).trans hK8 (fun _ _ h=>h)).alloc _
     have hR9:RowAt (w8.alloc (.cells #[.bool xv.1,.int .i64 xv.2] 40)) 40 gv cv 2 cur8:=⟨qg hR8.1,hR8.2⟩
     have heo:(w8.alloc (.cells #[.bool xv.1,.int .i64 xv.2] 40)).heap[w8.heap.size]?=some (.cells #[.bool xv.1,.int .i64 xv.2] 40 (0,0)):=qh rfl
     obtain ⟨w9,hw9⟩:∃w9,w9=w8.alloc (.cells #[.bool xv.1,.int .i64 xv.2] 40):=⟨_,rfl⟩
     obtain ⟨vb,hvb⟩:∃vb,vb=w8.heap.size:=⟨_,rfl⟩
     rw [←hw9] at hS9 hKA hR9 heo ⊢
     rw [←hvb] at heo ⊢
     have hjT:vb≠gv:=by omega
     clear hw9 hvb hS8 hR8 hK8
     have he1:(p.src.eraseIdx K).length=ah.length - 1:=by rw [List.length_eraseIdx_of_lt (by rw [heU.out];exact hKl),heU.out]
     refine qk (i:=18) (by kernel_rfl) (qm 97 rfl rfl rfl (by go_simp) (Xg gv cv (ah.length - 1) spt vb xv (p.src.eraseIdx K) cur8 w9 hR9 ht8 he1 (by omega) (by omega) heo hjT) ?_)
     rintro e w10 ⟨rfl,⟨curf,hRf,htf⟩,hKf⟩
     have hn1:ah.length - 1+1=ah.length:=by omega
     rw [hn1] at htf ⊢
     have haF:=hSk hS9 hKf
     refine ⟨_,rfl,haF,?_⟩
     refine qk (i:=19) (by kernel_rfl) (qz 98 (.pointer (some ⟨gp,j*2,none⟩)) w10 rfl rfl rfl (by go_simp) haF ?_)
     refine qk (i:=20) (by kernel_rfl) (qz 99 (.pointer (some ⟨gp,j*2+1,none⟩)) w10 rfl rfl rfl (by go_simp) haF ?_)
     obtain ⟨t1,t2,t3,t4,t5,⟨t6,t7⟩,t8,t9⟩:=ha7 w10 haF
     have hjU:gp<w10.heap.size:=by omega
     refine qk (i:=21) (by kernel_rfl) (qA (w10.setCell ⟨gp,j*2+1,none⟩ (.slice (some ⟨gv,0,none⟩) ah.length cv)) rfl rfl rfl (by go_simp) (fun h=>absurd rfl h) (qx (by kernel_rfl) ?_ _))
     show Exit.inBlock 5 _ Exit.normal _ _
     have hKw:Kept (fun g=>g=gv) ws w10:=((Kept.of_below HB7.out).trans hKA (fun _ _ h=>h)).trans hKf (fun _ _ h=>h)
     have hKz:Kept (fun g=>g=gv∨g=gp) ws (w10.setCell ⟨gp,j*2+1,none⟩ (.slice (some ⟨gv,0,none⟩) ah.length cv)):=Kept.setCell (S:=fun g=>g=gv∨g=gp) (p:=⟨gp,j*2+1,none⟩) (hKw.mono fun _ _ h=>.inl h) (.inr rfl) _
     have hmv:(p.src.eraseIdx K).take spt++xv::(p.src.eraseIdx K).drop spt=(XT ah old now p).src:=by
      show _=QX ah old now p.src
      unfold QX
      rw [←HKe.out,←HSp.out]
      rw [HXv.out.1]
     rw [hmv] at htf
     have hml:(XT ah old now p).src.length=ah.length:=by rw [←hmv];simp only [yN,yi,yr,List.length_drop,he1];omega
     have hh5:∀v∈(XT ah old now p).src,I64 v.2:=fun v hv=>by
      rw [←hmv] at hv
      have hsub:∀v∈p.src.eraseIdx K,v∈p.src:=fun v h=>List.mem_of_mem_eraseIdx h
      rcases yH.1 hv with h|h
      ·exact heV.out v (hsub v (List.mem_of_mem_take h))
      rcases yC.1 h with h|h
      ·rw [h];exact heV.out _ HXv.out.2
      exact heV.out v (hsub v (List.mem_of_mem_drop h))
     have hRg:RowAt (w10.setCell ⟨gp,j*2+1,none⟩ (.slice (some ⟨gv,0,none⟩) ah.length cv)) 40 gv cv 2 curf:=⟨(zJ _ _ _ gv hcN).trans hRf.1,hRf.2⟩
     have hsl:SlO 40 2 Ke (w10.setCell ⟨gp,j*2+1,none⟩ (.slice (some ⟨gv,0,none⟩) ah.length cv)) (.slice (some ⟨gv,0,none⟩) (XT ah old now p).src.length cv) (XT ah old now p).src Tp:=SlO.ofRow (by rw [hml];exact hRg.own hcn (by rw [xk,hml]) htf) hh5 (fun g e=>HTp.out.2.2 g e) (HPs.out.sl.inb.mono hKz.size)
     rw [hml] at hsl
     have hput:=hbB.out (w10.setCell ⟨gp,j*2+1,none⟩ (.slice (some ⟨gv,0,none⟩) ah.length cv)) [.int .i64 p.dst,.slice (some ⟨gv,0,none⟩) ah.length cv] (XT ah old now p) Tp
      (RowPut.set (RowPut.same HCp.out (hKw.block gp hgp (fun e=>hcN e.symm)) hbU.out) rfl (j:=1) (by omega) _) rfl (fun u hu=>by
       simp only [yC,yG,yl] at hu
       rcases hu with rfl|rfl<;>rfl) hKz.size (fun g h1 h2 h3=>hKz.block g (HPj.out.inb g h1) (fun e=>e.elim (fun e=>h2 (by rw [e];exact HTp.out.2.2 gv rfl)) h3))
      ⟨_,rfl,HPd.out,hsl,by rw [hml];unfold reachBytes;omega⟩ (fun g hg=>⟨.inl hg,xB (HPj.out.inb g (HTp.out.2.1 g hg)) hKz.size⟩)
     rw [HPe.out,x9 hjl] at hput
     have hrel:SlO 88 2 PhiO (w10.setCell ⟨gp,j*2+1,none⟩ (.slice (some ⟨gv,0,none⟩) ah.length cv)) (.slice (some ⟨gp,0,none⟩) x.phis.length du) (zM (j+1) (XT ah old now) x.phis) Su1∧Kept Su1 wt (w10.setCell ⟨gp,j*2+1,none⟩ (.slice (some ⟨gv,0,none⟩) ah.length cv)):=
      ⟨hput.grow (fun g h=>h.elim id (HTp.out.2.1 g)) (HPj.out.inb.mono hKz.size),HKj.out.trans hKz (fun g _ h=>h.elim (fun e=>by rw [e];exact hgZ) (fun e=>by rw [e];exact hdI.out))⟩
     have ha6:=q7 hrel
     clear hrel hput hsl hRg hKz hKw hRf hKf haF hS9 hR9 heo hKA htf ht8 t1 t2 t3 t4 t5 t6 t7 hmv hh5
     go_wp2_with fail
     go_roundg (x.phis.length - (j+1))
     case measure=>omega
     case rel=>exact ⟨j+1,by omega,rfl,by go_num,ha6.out.1,ha6.out.2⟩
    have hS8:Sp (w7.drew.alloc (.cells #[.bool xv.1,.int .i64 xv.2] 40)):=hSk ham ((Kept.refl _ _).alloc _)
    refine qz 96 (.slice (some ⟨w7.heap.size,0,none⟩) 1 1) (w7.drew.alloc (.cells #[.bool xv.1,.int .i64 xv.2] 40)) rfl rfl rfl (by go_simp) hS8 ?_
    have hR8:RowAt (w7.drew.alloc (.cells #[.bool xv.1,.int .i64 xv.2] 40)) 40 gv cv 2 cur:=⟨qg hR7.1,hR7.2⟩
    refine qk (i:=14) (by kernel_rfl) (qm 93 rfl rfl rfl (by go_simp) (Qk gv cv ah.length K (K+1) p.src cur _ hR8 HTk.out heU.out hcn hKl rfl) ?_)
    rintro e w9 ⟨rfl,⟨cur8,hR9,ht8⟩,hK8⟩
    have hS9:=hSk hS8 hK8
    refine ⟨_,rfl,hS9,?_⟩
    have hKA:Kept (fun g=>g=gv) w7 w9:=(((Kept.refl (fun g=>g=gv) w7).drew).alloc _).trans hK8 (fun _ _ h=>h)
    obtain ⟨vb,hvb⟩:∃vb,vb=w7.heap.size:=⟨_,rfl⟩
    have heo:w9.heap[vb]?=some (.cells #[.bool xv.1,.int .i64 xv.2] 40 (0,0)):=by
     rw [hvb]
     exact (hK8.block _ (by rw [World.size_alloc];exact Nat.lt_succ_self _) (by omega)).trans (qh rfl)
    rw [←hvb]
    have hjT:vb≠gv:=by omega
    clear hvb hS8 hR8 hK8
    have he1:(p.src.eraseIdx K).length=ah.length - 1:=by rw [List.length_eraseIdx_of_lt (by rw [heU.out];exact hKl),heU.out]
    refine qk (i:=18) (by kernel_rfl) (qm 97 rfl rfl rfl (by go_simp) (Xg gv cv (ah.length - 1) spt vb xv (p.src.eraseIdx K) cur8 w9 hR9 ht8 he1 (by omega) (by omega) heo hjT) ?_)
    rintro e w10 ⟨rfl,⟨curf,hRf,htf⟩,hKf⟩
    have hn1:ah.length - 1+1=ah.length:=by omega
    rw [hn1] at htf ⊢
    have haF:=hSk hS9 hKf
    refine ⟨_,rfl,haF,?_⟩
    refine qk (i:=19) (by kernel_rfl) (qz 98 (.pointer (some ⟨gp,j*2,none⟩)) w10 rfl rfl rfl (by go_simp) haF ?_)
    refine qk (i:=20) (by kernel_rfl) (qz 99 (.pointer (some ⟨gp,j*2+1,none⟩)) w10 rfl rfl rfl (by go_simp) haF ?_)
    obtain ⟨t1,t2,t3,t4,t5,⟨t6,t7⟩,t8,t9⟩:=ha7 w10 haF
    have hjU:gp<w10.heap.size:=by omega
    refine qk (i:=21) (by kernel_rfl) (qA (w10.setCell ⟨gp,j*2+1,none⟩ (.slice (some ⟨gv,0,none⟩) ah.length cv)) rfl rfl rfl (by go_simp) (fun h=>absurd rfl h) (qx (by kernel_rfl) ?_ _))
    show Exit.inBlock 5 _ Exit.normal _ _
    have hKw:Kept (fun g=>g=gv) ws w10:=((Kept.of_below HB7.out).trans hKA (fun _ _ h=>h)).trans hKf (fun _ _ h=>h)
    have hKz:Kept (fun g=>g=gv∨g=gp) ws (w10.setCell ⟨gp,j*2+1,none⟩ (.slice (some ⟨gv,0,none⟩) ah.length cv)):=Kept.setCell (S:=fun g=>g=gv∨g=gp) (p:=⟨gp,j*2+1,none⟩) (hKw.mono fun _ _ h=>.inl h) (.inr rfl) _
    have hmv:(p.src.eraseIdx K).take spt++xv::(p.src.eraseIdx K).drop spt=(XT ah old now p).src:=by
     show _=QX ah old now p.src
     unfold QX
     rw [←HKe.out,←HSp.out]
     rw [HXv.out.1]
    rw [hmv] at htf
    have hml:(XT ah old now p).src.length=ah.length:=by rw [←hmv];simp only [yN,yi,yr,List.length_drop,he1];omega
    have hh5:∀v∈(XT ah old now p).src,I64 v.2:=fun v hv=>by
     rw [←hmv] at hv
     have hsub:∀v∈p.src.eraseIdx K,v∈p.src:=fun v h=>List.mem_of_mem_eraseIdx h
     rcases yH.1 hv with h|h
     ·exact heV.out v (hsub v (List.mem_of_mem_take h))
     rcases yC.1 h with h|h
     ·rw [h];exact heV.out _ HXv.out.2
     exact heV.out v (hsub v (List.mem_of_mem_drop h))
    have hRg:RowAt (w10.setCell ⟨gp,j*2+1,none⟩ (.slice (some ⟨gv,0,none⟩) ah.length cv)) 40 gv cv 2 curf:=⟨(zJ _ _ _ gv hcN).trans hRf.1,hRf.2⟩
    have hsl:SlO 40 2 Ke (w10.setCell ⟨gp,j*2+1,none⟩ (.slice (some ⟨gv,0,none⟩) ah.length cv)) (.slice (some ⟨gv,0,none⟩) (XT ah old now p).src.length cv) (XT ah old now p).src Tp:=SlO.ofRow (by rw [hml];exact hRg.own hcn (by rw [xk,hml]) htf) hh5 (fun g e=>HTp.out.2.2 g e) (HPs.out.sl.inb.mono hKz.size)
    rw [hml] at hsl
    have hput:=hbB.out (w10.setCell ⟨gp,j*2+1,none⟩ (.slice (some ⟨gv,0,none⟩) ah.length cv)) [.int .i64 p.dst,.slice (some ⟨gv,0,none⟩) ah.length cv] (XT ah old now p) Tp
     (RowPut.set (RowPut.same HCp.out (hKw.block gp hgp (fun e=>hcN e.symm)) hbU.out) rfl (j:=1) (by omega) _) rfl (fun u hu=>by
      simp only [yC,yG,yl] at hu
      rcases hu with rfl|rfl<;>rfl) hKz.size (fun g h1 h2 h3=>hKz.block g (HPj.out.inb g h1) (fun e=>e.elim (fun e=>h2 (by rw [e];exact HTp.out.2.2 gv rfl)) h3))
     ⟨_,rfl,HPd.out,hsl,by rw [hml];unfold reachBytes;omega⟩ (fun g hg=>⟨.inl hg,xB (HPj.out.inb g (HTp.out.2.1 g hg)) hKz.size⟩)
    rw [HPe.out,x9 hjl] at hput
    have hrel:SlO 88 2 PhiO (w10.setCell ⟨gp,j*2+1,none⟩ (.slice (some ⟨gv,0,none⟩) ah.length cv)) (.slice (some ⟨gp,0,none⟩) x.phis.length du) (zM (j+1) (XT ah old now) x.phis) Su1∧Kept Su1 wt (w10.setCell ⟨gp,j*2+1,none⟩ (.slice (some ⟨gv,0,none⟩) ah.length cv)):=
     ⟨hput.grow (fun g h=>h.elim id (HTp.out.2.1 g)) (HPj.out.inb.mono hKz.size),HKj.out.trans hKz (fun g _ h=>h.elim (fun e=>by rw [e];exact hgZ) (fun e=>by rw [e];exact hdI.out))⟩
    have ha6:=q7 hrel
    clear hrel hput hsl hRg hKz hKw hRf hKf haF hS9 hR9 heo hKA htf ht8 t1 t2 t3 t4 t5 t6 t7 hmv hh5
    go_wp2_with fail
    go_roundg (x.phis.length - (j+1))
    case measure=>omega
    case rel=>exact ⟨j+1,by omega,rfl,by go_num,ha6.out.1,ha6.out.2⟩

end Go.Proofs.YtbnnhmcloecijaaGreatDoor
