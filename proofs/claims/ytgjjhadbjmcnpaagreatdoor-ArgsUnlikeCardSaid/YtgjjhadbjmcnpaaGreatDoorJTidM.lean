/-
  Plain: what is in order and named stays: parts of 'tidied twice is tidied once'.
-/
import Derived.Test.YtgjjhadbjmcnpaaGreatDoorJChaB
import Derived.Test.YtgjjhadbjmcnpaaGreatDoorJIdxN
set_option maxRecDepth 100000
set_option maxHeartbeats 16000000
namespace Go.Proofs.YtgjjhadbjmcnpaaGreatDoor
open Go.RowKit Go.Shelf

theorem VW (f:FunL) (hD:FunD f) (old now B gq e1:Nat) (V:Nat→Value) (w:World) (N:Blks) (hold:old<f.blocks.length) (_hnow:now<f.blocks.length)
  (hd9:∀t:Nat,(t:Int)∈(atF f old).fin.to→∀p∈(atF f t).phis,p.src.length=(insN f t).length) (hself:(old:Int)∉(atF f old).fin.to)
  (hF:w.heap[B]?=some (.cells #[.string f.name,.int .i64 f.params,.int .i64 f.regs,.slice (some ⟨gq,0,none⟩) f.blocks.length e1] 38 (0,0))) (hBN:¬ N B) (hN:SlO 49 6 Jt w (.slice (some ⟨gq,0,none⟩) f.blocks.length e1) (jJ V f.blocks) N) :
  Calls Tryz.prog 96 #[.pointer (some ⟨B,0,none⟩),.int .i64 old,.int .i64 now] w fun e w'=>e = .returned (.tuple #[])∧
   SlO 49 6 Jt w' (.slice (some ⟨gq,0,none⟩) f.blocks.length e1) (jJ V (qP f old now).blocks) N∧Kept (fun g=>N g∧g≠gq) w w':=by
 have hcE:=hD.n40
 obtain ⟨cs,T,hW⟩:=hN
 have hlz:(jJ V f.blocks).length=f.blocks.length:=x7 _ _
 have hwg:∀b,b<f.blocks.length→N gq∧gq<w.heap.size∧∀j,j<6→w.cell? ⟨gq,b*6+j,none⟩=(cs b)[j]?:=fun b hb=>by
  obtain ⟨g',c',e,h1,h2,h3⟩:=hW.cell (i:=b) (by rw [hlz];exact hb)
  have hgg:g'=gq:=by
   injection e with a _ _
   injection a with a
   injection a with a
   exact a.symm
  rw [hgg] at h1 h2 h3
  exact ⟨h1,h2,h3⟩
 have hmH:=(hwg old hold).1
 have hmI:=(hwg old hold).2.1
 obtain ⟨fb,ff⟩:=blk hF
 have fb0:=fb 0
 have fb1:=fb 1
 have fb2:=fb 2
 have fb3:=fb 3
 simp only [List.getElem?_toArray,List.getElem?_cons_zero,List.getElem?_cons_succ] at fb0 fb1 fb2 fb3
 have fz:=qd hF
 have HD:=q8 hD
 have HW:=q8 hW
 have HWg:=q8 hwg
 have HF:=q8 hF
 have HBN:=q8 hBN
 have hpS:=q8 hd9
 have hjC:=q8 hself
 have HGN:=q8 hmH
 clear hD hW hwg hF hBN hd9 hself fb hlz hmH
 go_enter Tryz.func96,Tryz.ntmps96
 go_wp2_with fail
 refine (jo f.name f.params f.regs gq 0 e1 f.blocks.length (Q3 f) w hcE (fun i hi=>blkAtN HW.out (Below.refl _ w) i hi) HD.out.toFunS.tosD).mono ?_
 rintro e W1 ⟨⟨tf,rfl,haG⟩,hb1⟩
 have HAh:=q8 (AheadIn.of haG)
 obtain ⟨T1,hT1⟩:∃T1,T1=w.heap.size+1:=⟨_,rfl⟩
 rw [←hT1] at HAh ⊢
 have hz1:=hb1.size
 have hoL:w.heap.size<T1:=by omega
 have hF1:W1.heap[B]?=some (.cells #[.string f.name,.int .i64 f.params,.int .i64 f.regs,.slice (some ⟨gq,0,none⟩) f.blocks.length e1] 38 (0,0)):=(hb1.block _ fz).trans HF.out
 have hlz:(jJ V f.blocks).length=f.blocks.length:=x7 _ _
 have hoz:old<(jJ V f.blocks).length:=by rw [hlz];exact hold
 have hjD:Jt W1 (cs old) (V old,f.blocks[old]) (T old):=by
  have:=HW.out.el old hoz
  rw [xy hoz] at this
  exact jp _ _ _ _ _ this (fun g hg=>hb1.block g (HW.out.inb g (HW.out.sub old hoz g hg))) hb1.size
 obtain ⟨v1,v3,S1,S3,hcs,⟨pl,ll,cl,hvl⟩,_,_,h3,h5,a2,g1,g3⟩:=hjD
 obtain ⟨q1,d1,rfl,_⟩:=h3.sl.val
 obtain ⟨q3,d3,rfl,_⟩:=h5.sl.val
 dsimp only at hcs hvl h3 h5
 rw [hvl] at hcs
 have hce:∀j,j<6→W1.cell? ⟨gq,old*6+j,none⟩=(cs old)[j]?:=fun j hj=>(hb1.cell (p:=⟨gq,old*6+j,none⟩) hmI).trans ((HWg.out old hold).2.2 j hj)
 rw [hcs] at hce
 have c0:=hce 0 (by omega)
 have c1:=hce 1 (by omega)
 have c2:=hce 2 (by omega)
 have c3:=hce 3 (by omega)
 have c4:=hce 4 (by omega)
 have c5:=hce 5 (by omega)
 simp only [List.getElem?_cons_zero,List.getElem?_cons_succ,Nat.add_zero] at c0 c1 c2 c3 c4 c5
 obtain ⟨tos,hcH⟩:∃tos,tos=f.blocks[old].fin.to:=⟨_,rfl⟩
 have hat:(atF f old).fin.to=tos:=by rw [qL hold,hcH]
 rw [←hcH] at h5 c5
 have htr:=h5.read (R':=vX) xe (by omega) fun _ _ _ h=>h
 have hts:SliceAt W1 1 vX q3 tos:=by
  obtain ⟨_,_,e,_,_,h⟩:=htr.outC
  cases e
  exact h
 have htb:∀t∈tos,1≤t∧t<(f.blocks.length:Int):=by rw [hcH];exact HD.out.tos old hold
 have htd:tos.Nodup:=by rw [hcH];exact HD.out.once old hold
 have ht2:tos.length≤2:=by rw [hcH];exact HD.out.two old hold
 have hW1:SlW 49 6 Jt W1 (.slice (some ⟨gq,0,none⟩) f.blocks.length e1) (jJ V f.blocks) N cs T:=by
  refine ⟨⟨HW.out.own.1,?_⟩,HW.out.len,HW.out.one,fun i hi=>jp _ _ _ _ _ (HW.out.el i hi) (fun g hg=>hb1.block g (HW.out.inb g (HW.out.sub i hi g hg))) hb1.size,HW.out.two,HW.out.off,HW.out.blk,HW.out.sub,HW.out.inb.mono hb1.size⟩
  rcases HW.out.own.2 with h1|⟨g,cap,cur,hv,hb,hg,r⟩
  ·exact .inl h1
  exact .inr ⟨g,cap,cur,hv,hb,by rw [hb1.block g (Array.getElem?_eq_some_iff.1 hg).1];exact hg,r⟩
 have heH:∀g,S3 g→T old g:=g3
 have HW1:=q8 hW1
 have HF1:=q8 hF1
 have HTs:=q8 hts
 have HTb:=q8 htb
 have HTd:=q8 htd
 have HAt:=q8 hat
 have HS3:=q8 heH
 have HB1:=q8 hb1
 have hrZ:=q8 hcH
 clear hcH
 have H5:=q8 h5
 have hTN:∀t,t<f.blocks.length→∀g,T t g→N g∧g<w.heap.size∧g≠gq:=fun t ht g hg=>by
  have ht2:t<(jJ V f.blocks).length:=by rw [hlz];exact ht
  exact ⟨HW.out.sub t ht2 g hg,HW.out.inb g (HW.out.sub t ht2 g hg),fun e=>HW.out.off t ht2 gq rfl (by rw [←e];exact hg)⟩
 have HTN:=q8 hTN
 have hpT:=q8 (fun g (hg:N g)=>HW.out.inb g hg)
 have hlE:=HAh.out.1.2
 have hpU:∀c,c<f.blocks.length→W1.heap.size<W1.heap.size+1:=fun _ _=>by omega
 clear haG hb1 hF1 hts htb htd hat heH hW1 h3 h5 a2 g1 g3 hce hTN htr HW HF hT1 fb0 fb1 fb2 fb3 ff hpU
 obtain ⟨gb,gf⟩:=blk HF1.out
 have gb3:=gb 3
 simp only [List.getElem?_toArray,List.getElem?_cons_zero,List.getElem?_cons_succ] at gb3
 have gz:=qd HF1.out
 clear gb
 have hpV:gq<W1.heap.size:=by omega
 go_wp2_with fail
 obtain ⟨KU,hKU⟩:∃KU:Blks,KU=fun g=>N g∧g≠gq∧¬ T old g:=⟨_,rfl⟩
 have hmJ:∀g,KU g→N g∧g≠gq∧¬ T old g:=fun g h=>by rw [hKU] at h;exact h
 have hmK:∀g,N g→g≠gq→¬ T old g→KU g:=fun g h1 h2 h3=>by rw [hKU];exact ⟨h1,h2,h3⟩
 have HKn:=q8 hmJ
 have HKi:=q8 hmK
 clear hKU hmJ hmK
 clear c0 c1 c2 c3 c4 c5
 go_loopg [30] tos.length (fun q s30 wr=>∃i:Nat,i≤tos.length∧q=tos.length - i∧s30 = .int .i64 i∧SlW 49 6 Jt wr (.slice (some ⟨gq,0,none⟩) f.blocks.length e1) (jJ V (XG f old now i)) N cs T∧Kept KU W1 wr)
 case atStart=>exact ⟨0,by omega,rfl,rfl,by rw [renK_zero];exact HW1.out,Kept.refl _ _⟩
 case round=>
  obtain ⟨wt,hwt⟩:∃wt,wt=wr:=⟨_,rfl⟩
  subst hwt
  obtain ⟨i,hi,rfl,rfl,hWi,hKi⟩:=hrel
  have hs8:=hKi.size
  have HWi:=q8 hWi
  have heI:=q8 hKi
  clear hWi hKi
  by_cases hil:i<tos.length
  rotate_left
  ·obtain rfl:tos.length=i:=by omega
   go_wp2_with fail
   go_end0
   refine ⟨rfl,?_,?_⟩
   ·have h1:=HWi.out
    rw [←HAt.out,renK_full] at h1
    exact ⟨cs,T,h1⟩
   exact ((Kept.of_below HB1.out).trans heI.out (fun g _ h=>⟨(HKn.out g h).1,(HKn.out g h).2.1⟩))
  obtain ⟨g3t,c3t,cs3,T3,hv3,hpW,hmL,_,hx3,_,_,hc3,_⟩:=H5.out.sl.focus xe (by omega) hil
  obtain ⟨hjE,_⟩:=hx3
  subst hjE
  have hq3:q3=some ⟨g3t,0,none⟩:=by injection hv3
  subst hq3
  have hpX:=HTb.out _ (List.getElem_mem hil)
  obtain ⟨tn,htn⟩:∃tn:Nat,tos[i]=(tn:Int):=⟨tos[i].toNat,by omega⟩
  rw [htn] at hpX hc3
  have htl:tn<f.blocks.length:=by omega
  have htm:(tn:Int)∈tos:=by rw [←htn];exact List.getElem_mem hil
  have hne:tn≠old:=fun e=>by
   subst e
   exact hjC.out (by rw [HAt.out];exact htm)
  have hmM:T old g3t:=HS3.out g3t hmL
  have c0:wt.cell? ⟨g3t,i,none⟩=some (.int .i64 (tn:Int)):=by
   have:=hc3 0 (by omega)
   simp only [Nat.mul_one,Nat.add_zero] at this
   exact (heI.out.cell (p:=⟨g3t,i,none⟩) hpW (fun h=>(HKn.out _ h).2.2 hmM)).trans this
  have hs9:g3t<wt.heap.size:=by omega
  obtain ⟨hsl,hsu⟩:=renK_succ (now:=now) (f:=f) (old:=old) (i:=i) (t:=tn) (by rw [HAt.out];exact hil) (by simp only [HAt.out];exact htn) (by rw [HAt.out];exact HTd.out) htl
  obtain ⟨hsl1,hsl2⟩:=hsl
  obtain ⟨x,hxe⟩:∃x,x=f.blocks[tn]:=⟨_,rfl⟩
  obtain ⟨ah,hah⟩:∃ah,ah=insN f tn:=⟨_,rfl⟩
  have hzl:tn<(jJ V (XG f old now i)).length:=by rw [x7];exact hsl1
  have hel:Jt wt (cs tn) (V tn,x) (T tn):=by
   have:=HWi.out.el tn hzl
   rw [xy hzl,hsl2,←hxe] at this
   exact this
  have hoa:old∈ah:=by rw [hah];exact ins_of old tn hold (by rw [zF hold,←qL hold,HAt.out];exact htm)
  have hpl:∀p∈x.phis,p.src.length=ah.length:=fun p hp=>by
   rw [hah]
   exact hpS.out tn (by rw [HAt.out];exact htm) p (by rw [qL htl,←hxe];exact hp)
  have hfQ:∀a∈ah,a<f.blocks.length:=fun a ha=>row_lt (c:=tn) (by rw [hah] at ha;exact ha)
  have hiJ:ah.length≤80:=by rw [hah];exact V4 HD.out.toFunS tn
  obtain ⟨rt,rr⟩:=HAh.out.kept heI.out (fun g hg=>.inl (by have:=hpT.out g (HKn.out g hg).1;omega))
  obtain ⟨qa,qc,ha0,ha1⟩:=rr tn htl
  rw [←hah] at ha0 ha1
  have hmN:0<ah.length:=List.length_pos_of_mem hoa
  obtain ⟨ba,rfl,⟨ha2,ha3⟩,_⟩:=ha1 0 hmN
  have hAc:∀m (h:m<ah.length),wt.cell? ⟨ba,m,none⟩=some (.int .i64 (ah[m]:Nat)):=fun m h=>by
   obtain ⟨b',e,_,h2⟩:=ha1 m h
   cases e
   exact h2
  obtain ⟨u1,u3,Su1,Su3,heB,⟨pu,lu,cu,hvu⟩,hu1,hu2,hu3,hu5,hua,hmO,hmP⟩:=hel
  obtain ⟨qu,du,rfl,_⟩:=hu3.sl.val
  obtain ⟨qw,dw,rfl,_⟩:=hu5.sl.val
  dsimp only at heB hvu hu1 hu2 hu3 hu5
  have hmQ:wt.heap[gq]?=W1.heap[gq]?:=heI.out.block gq hpV (fun h=>(HKn.out _ h).2.1 rfl)
  have hdT:∀j,j<6→wt.cell? ⟨gq,tn*6+j,none⟩=(cs tn)[j]?:=fun j hj=>(World.cell?_of_block (a:=⟨gq,tn*6+j,none⟩) hmQ).trans ((HB1.out.cell (p:=⟨gq,tn*6+j,none⟩) hmI).trans ((HWg.out tn htl).2.2 j hj))
  have d0:=hdT 0 (by omega)
  rw [heB] at d0
  simp only [List.getElem?_cons_zero,Nat.add_zero] at d0
  have hFt:wt.heap[B]?=some (.cells #[.string f.name,.int .i64 f.params,.int .i64 f.regs,.slice (some ⟨gq,0,none⟩) f.blocks.length e1] 38 (0,0)):=(heI.out.block B gz (fun h=>HBN.out (HKn.out _ h).1)).trans HF1.out
  obtain ⟨gbt,gft⟩:=blk hFt
  have gb3t:=gbt 3
  simp only [List.getElem?_toArray,List.getElem?_cons_zero,List.getElem?_cons_succ] at gb3t
  have gzt:=qd hFt
  have hpY:gq<wt.heap.size:=by omega
  have hTr:T1<wt.heap.size:=rt.2
  have HAc:=q8 hAc
  have HAe:=q8 hah
  have HXe:=q8 hxe
  have HOa:=q8 hoa
  have HPl:=q8 hpl
  have HAl:=q8 hfQ
  have HSu:=q8 hsu
  have HU3:=q8 hu3
  have HU5:=q8 hu5
  have HU:=q8 (And.intro hu1 (And.intro hu2 (And.intro hua (And.intro hmO hmP))))
  have hpZ:=q8 heB
  have HVu:=q8 (show ∃p l c,V tn = .slice p l c from ⟨pu,lu,cu,hvu⟩)
  have HFt:=q8 hFt
  have HTn:=q8 htn
  have HTt:=q8 (fun g (h:T tn g)=>HTN.out tn htl g h)
  have hmR:∀g,T tn g→¬ T old g:=fun g h h2=>HW1.out.two tn old (by rw [x7];exact htl) (by rw [x7];exact hold) hne g h h2
  have hq7:=q8 hmR
  have hmS:∀m,m≤ah.length→K1 ah old now m≤m:=fun m hm=>cntR_le _ _ _ hm
  have hq9:=q8 hmS
  have hbu:=hu3.bd
  unfold reachBytes at hbu
  clear hv3 hc3 htm hmM hsl1 hsl2 hsu hxe hah hzl hoa hpl hfQ rr ha1 hAc hu1 hu2 hu3 hu5 hua hmO hmP heB hvu hmQ hdT hFt gbt gb3 gf gz htn hmL hmR hmS
  go_wp2_with fail
  refine (VV ah ba qc old wt (by omega) (fun m h=>HAc.out m h) HOa.out).mono ?_
  rintro e w' ⟨rfl,hww⟩
  rw [hww]
  clear hww w'
  have hKl:ah.idxOf old<ah.length:=List.idxOf_lt_length_of_mem HOa.out
  obtain ⟨K,hK⟩:∃K,K=ah.idxOf old:=⟨_,rfl⟩
  rw [←hK] at hKl ⊢
  have HKe:=q8 hK
  clear hK
  go_wp2_with fail
  go_loopg [10,45] ah.length (fun q s10 s45 wr=>∃m:Nat,m≤ah.length∧q=ah.length - m∧s10 = .int .i64 (K1 ah old now m:Nat)∧s45 = .int .i64 m∧wt=wr)
  case atStart=>exact ⟨0,by omega,rfl,rfl,rfl,rfl⟩
  case round=>
   obtain ⟨m,hm,rfl,rfl,rfl,rfl⟩:=hrel
   by_cases hml:m<ah.length
   ·have cA:=HAc.out m hml
    have hn1:=hq9.out m hm
    have hst:=cntR_succ (old:=old) (now:=now) hml
    generalize K1 ah old now m=cnt at *
    have HSt:=q8 hst
    clear hst
    generalize ah[m]=am at *
    by_cases h1:am<now
    ·by_cases h2:am=old
     ·have hq:((am:Int) == (old:Int))=true:=by simp [h2]
      have hq2:((am:Int) != (old:Int))=false:=by simp [h2]
      have hl:decide ((am:Int)<(now:Int))=true:=by simp [h1]
      have h9:K1 ah old now (m+1)=cnt:=by rw [HSt.out,if_neg (by omega)];rfl
      have H9:=q8 h9
      clear h9
      go_wp2_with fail
      go_roundg (ah.length - (m+1))
      case measure=>omega
      case rel=>exact ⟨m+1,by omega,rfl,by rw [H9.out],by go_num,rfl⟩
     have hq:((am:Int) == (old:Int))=false:=by simp;omega
     have hq2:((am:Int) != (old:Int))=true:=by simp;omega
     have hl:decide ((am:Int)<(now:Int))=true:=by simp [h1]
     have h9:K1 ah old now (m+1)=cnt+1:=by rw [HSt.out,if_pos (by omega)]
     have H9:=q8 h9
     clear h9
     go_wp2_with fail
     go_roundg (ah.length - (m+1))
     case measure=>omega
     case rel=>exact ⟨m+1,by omega,rfl,by rw [H9.out];go_num,by go_num,rfl⟩
    have hl:decide ((am:Int)<(now:Int))=false:=by simp;omega
    have h9:K1 ah old now (m+1)=cnt:=by rw [HSt.out,if_neg (by omega)];rfl
    have H9:=q8 h9
    clear h9
    go_wp2_with fail
    go_roundg (ah.length - (m+1))
    case measure=>omega
    case rel=>exact ⟨m+1,by omega,rfl,by rw [H9.out],by go_num,rfl⟩
   obtain rfl:m=ah.length:=by omega
   have hsp:=cntR_full ah old now
   rw [hsp]
   have hqb:Xv ah old now<ah.length:=by
    unfold Xv
    refine List.length_filter_lt_length_iff_exists.2 ⟨old,HOa.out,by simp⟩
   obtain ⟨spt,hjF⟩:∃spt,spt=Xv ah old now:=⟨_,rfl⟩
   rw [←hjF] at hqb ⊢
   have HSp:=q8 hjF
   clear hjF hsp
   go_wp2_with fail
   go_loopg [69] x.phis.length (fun q s69 wr=>∃j:Nat,j≤x.phis.length∧q=x.phis.length - j∧s69 = .int .i64 j∧SlO 84 2 PhiO wr (.slice qu x.phis.length du) (qN j (Zk ah old now) x.phis) Su1∧Kept Su1 wt wr)
   case atStart=>exact ⟨0,by omega,rfl,rfl,by rw [zB];exact HU3.out.sl,Kept.refl _ _⟩
   case round=>
    obtain ⟨ws,hws⟩:∃ws,ws=wr:=⟨_,rfl⟩
    subst hws
    obtain ⟨j,hj,rfl,rfl,hP,hKj⟩:=hrel
    have hhq:=hKj.size
    have hSu:∀g,Su1 g→N g∧g<w.heap.size∧g≠gq:=fun g hg=>HTt.out g (HU.out.2.2.2.1 g hg)
    have hFs:ws.heap[B]?=some (.cells #[.string f.name,.int .i64 f.params,.int .i64 f.regs,.slice (some ⟨gq,0,none⟩) f.blocks.length e1] 38 (0,0)):=(hKj.block B gzt (fun h=>HBN.out (hSu B h).1)).trans HFt.out
    have hgs:ws.heap[gq]?=wt.heap[gq]?:=hKj.block gq hpY (fun h=>(hSu gq h).2.2 rfl)
    have d0s:ws.cell? ⟨gq,tn*6,none⟩=some (.slice qu x.phis.length du):=(World.cell?_of_block (a:=⟨gq,tn*6,none⟩) hgs).trans d0
    have HPj:=q8 hP
    have HKj:=q8 hKj
    have hgV:=q8 hSu
    have HFs:=q8 hFs
    clear hP hKj hSu hFs
    by_cases hjl:j<x.phis.length
    rotate_left
    ·obtain rfl:x.phis.length=j:=by omega
     have hPf:=HPj.out
     rw [zl] at hPf
     have hx':Jt ws (cs tn) (V tn,{ x with phis:=x.phis.map (Zk ah old now) }) (T tn):=by
      have h0:=hpZ.out
      obtain ⟨p,l,c,hv⟩:=HVu.out
      refine ⟨_,_,Su1,Su3,h0,⟨p,l,c,hv⟩,HU.out.1,HU.out.2.1,⟨?_,?_⟩,⟨HU5.out.sl.kept xe HKj.out (fun g h1 h2=>HU.out.2.2.1 g h1 h2),HU5.out.bd⟩,HU.out.2.2.1,HU.out.2.2.2.1,HU.out.2.2.2.2⟩
      ·show SlO _ _ _ _ (.slice qu x.phis.length du) _ _
       exact hPf
      show (x.phis.map _).length*32≤_
      rw [List.length_map]
      exact HU3.out.bd
     have hW':=HWi.out.innerT jp (i:=tn) (by rw [x7,vK];exact htl) (HKj.out.mono fun g _ h=>HU.out.2.2.2.1 g h) hx'
     rw [zipV_set] at hW'
     have hsu:=HSu.out
     rw [←HXe.out,←HAe.out] at hsu
     rw [hsu] at hW'
     have hK':Kept KU W1 ws:=heI.out.trans HKj.out (fun g _ h=>HKi.out g (hgV.out g h).1 (hgV.out g h).2.2 (hq7.out g (HU.out.2.2.2.1 g h)))
     have ha7:=q8 (And.intro hW' hK')
     clear hPf hx' hW' hsu hK'
     go_wp2_with fail
     go_roundg (tos.length - (i+1))
     case measure=>omega
     case rel=>exact ⟨i+1,by omega,rfl,by go_num,ha7.out.1,ha7.out.2⟩
    have haA:j<(qN j (Zk ah old now) x.phis).length:=by rw [qY];exact hjl
    obtain ⟨gp,cp,csp,Tp,hvp,hgp,hcF,hfT,hxp,hcQ,hcS,haU,hdU,⟨curp,haH⟩,putp⟩:=HPj.out.focus zZ (by omega) haA
    rw [x6 haA (Nat.le_refl _)] at hxp
    obtain ⟨p,hpe⟩:∃p,p=x.phis[j]:=⟨_,rfl⟩
    have hpl:p.src.length=ah.length:=HPl.out p (by rw [hpe];exact List.getElem_mem hjl)
    rw [←hpe] at hxp
    obtain ⟨vp,rfl,hpd,hps⟩:=hxp
    have hq1:qu=some ⟨gp,0,none⟩:=by injection hvp
    have p0:=haU 0 (by omega)
    have p1:=haU 1 (by omega)
    simp only [List.getElem?_cons_zero,List.getElem?_cons_succ,Nat.add_zero] at p0 p1
    obtain ⟨hrow,hmT,hSb,_⟩:=hps.sl.row
    rw [hpl] at hrow
    obtain ⟨gv,cv,cur,rfl,hra,hcn,htk⟩:=Vc hrow hmN
    have hjG:Tp gv:=hSb gv rfl
    have hgZ:Su1 gv:=hcS gv hjG
    have hbU:gv≠gp:=fun e=>hcQ (by rw [←e];exact hjG)
    have hKs:K<p.src.length:=by rw [hpl];exact hKl
    obtain ⟨xv,hxv,hxm⟩:∃xv,xv=p.src.getD K (false,0)∧xv∈p.src:=⟨p.src[K],by simp [List.getD,hKs],List.getElem_mem hKs⟩
    have hvc:ws.cell? ⟨gv,K*2,none⟩=some (.bool xv.1)∧ws.cell? ⟨gv,K*2+1,none⟩=some (.int .i64 xv.2):=by
     obtain ⟨gv',_,cs2,T2,e,_,_,_,hx2,_,_,hc2,_⟩:=hps.sl.focus zJ (by omega) hKs
     have hgg:gv=gv':=by
      injection e with a _ _
      injection a with a
      injection a with a
     subst hgg
     obtain ⟨hcs2,_⟩:=hx2
     rw [hcs2] at hc2
     have h0:=hc2 0 (by omega)
     have h1:=hc2 1 (by omega)
     rw [show xv=p.src[K] by rw [hxv];simp [List.getD,hKs]]
     exact ⟨h0,h1⟩
    obtain ⟨vc0,vc1⟩:=hvc
    have hqd:gv<ws.heap.size:=by have:=(hgV.out gv hgZ).2.1;omega
    have HPd:=q8 hpd
    have HPe:=q8 hpe
    have HXv:=q8 (And.intro hxv hxm)
    have heJ:=q8 hpl
    have heK:=q8 hmT
    have haI:=q8 putp
    have HCp:=q8 haH
    have hcT:=q8 haU
    have hfU:=q8 hdU
    have heC:=q8 hcF
    have HTp:=q8 (And.intro hcQ (And.intro hcS hSb))
    have HTk:=q8 htk
    have HPs:=q8 hps
    have HRa:=q8 hra
    have hgB:gv≠B:=fun e=>HBN.out (by rw [←e];exact (hgV.out gv hgZ).1)
    have hgQ:gv≠gq:=(hgV.out gv hgZ).2.2
    have hbp:=hps.bd
    rw [hpl] at hbp
    unfold reachBytes at hbp
    obtain ⟨gbs,gfs⟩:=blk HFs.out
    have gb3s:=gbs 3
    simp only [List.getElem?_toArray,List.getElem?_cons_zero,List.getElem?_cons_succ] at gb3s
    have gzs:=qd HFs.out
    have hqf:gq<ws.heap.size:=by omega
    subst hq1
    clear hvp hpl hpd hps hpe putp hcQ hcS haH haU hfT hcF hrow hmT hSb hxv hxm hKs htk hra hjG gbs gb3t gft d0
    go_wp2_with fail
    obtain ⟨w7,hw7⟩:∃w7,w7=(ws.alloc (.cells #[.int .i64 p.dst,.slice (some ⟨gv,0,none⟩) ah.length cv] 84)).alloc (.cells #[.bool xv.1,.int .i64 xv.2] 44):=⟨_,rfl⟩
    rw [←hw7]
    have hz7:w7.heap.size=ws.heap.size+1+1:=by rw [hw7];simp
    have hb7:Below ws.heap.size ws w7:=by rw [hw7];exact bZ
    have hY7:w7.heap[ws.heap.size]?=some (.cells #[.int .i64 p.dst,.slice (some ⟨gv,0,none⟩) ah.length cv] 84 (0,0)):=by rw [hw7];exact qh (qq rfl)
    have hV7:w7.heap[ws.heap.size+1]?=some (.cells #[.bool xv.1,.int .i64 xv.2] 44 (0,0)):=by rw [hw7];exact qq (by simp)
    have HB7:=q8 hb7
    clear hw7 hb7 p0 p1 vc0 vc1 hdU
    obtain ⟨Sp,hSp⟩:∃Sp:World→Prop,Sp=fun w'=>w'.heap[B]?=some (.cells #[.string f.name,.int .i64 f.params,.int .i64 f.regs,.slice (some ⟨gq,0,none⟩) f.blocks.length e1] 38 (0,0))∧w'.heap[gq]?=ws.heap[gq]?∧w'.heap[ws.heap.size]?=some (.cells #[.int .i64 p.dst,.slice (some ⟨gv,0,none⟩) ah.length cv] 84 (0,0))∧w'.heap[ws.heap.size+1]?=some (.cells #[.bool xv.1,.int .i64 xv.2] 44 (0,0))∧w'.heap[gp]?=ws.heap[gp]?:=⟨_,rfl⟩
    have ha6:∀w',Sp w'→w'.cell? ⟨B,3,none⟩=some (.slice (some ⟨gq,0,none⟩) f.blocks.length e1)∧w'.cell? ⟨gq,tn*6,none⟩=some (.slice (some ⟨gp,0,none⟩) x.phis.length du)∧w'.cell? ⟨ws.heap.size,1,none⟩=some (.slice (some ⟨gv,0,none⟩) ah.length cv)∧w'.cell? ⟨ws.heap.size+1,0,none⟩=some (.bool xv.1)∧w'.cell? ⟨ws.heap.size+1,1,none⟩=some (.int .i64 xv.2)∧(w'.cell? ⟨gp,j*2+1,none⟩=some (.slice (some ⟨gv,0,none⟩) ah.length cv)∧w'.frozen? ⟨gp,j*2+1,none⟩=false)∧B<w'.heap.size∧ws.heap.size+1<w'.heap.size:=fun w' h=>by
     rw [hSp] at h
     obtain ⟨h1,h2,h3,h4,h5⟩:=h
     exact ⟨(blk h1).1 3,(World.cell?_of_block (a:=⟨gq,tn*6,none⟩) h2).trans d0s,(blk h3).1 1,(blk h4).1 0,(blk h4).1 1,⟨(World.cell?_of_block (a:=⟨gp,j*2+1,none⟩) h5).trans (hcT.out 1 (by omega)),(World.frozen?_of_block (a:=⟨gp,j*2+1,none⟩) h5).trans (hfU.out _)⟩,qd h1,qd h4⟩
    have hSk:∀{a c:World},Sp a→Kept (fun g=>g=gv) a c→Sp c:=fun {a c} h hk=>by
     rw [hSp] at h ⊢
     obtain ⟨h1,h2,h3,h4,h5⟩:=h
     have hz:=qd h4
     exact ⟨(hk.block _ (qd h1) (fun e=>hgB e.symm)).trans h1,(hk.block _ (by omega) (fun e=>hgQ e.symm)).trans h2,(hk.block _ (by omega) (by omega)).trans h3,(hk.block _ hz (by omega)).trans h4,(hk.block _ (by omega) (fun e=>hbU e.symm)).trans h5⟩
    have hS7:Sp w7:=by
     rw [hSp]
     exact ⟨(HB7.out.block _ gzs).trans HFs.out,HB7.out.block gq hqf,hY7,hV7,HB7.out.block gp hgp⟩
    have ha8:Sp w7.drew:=by rw [hSp] at hS7 ⊢;exact hS7
    have hR7:RowAt w7.drew 44 gv cv 2 cur:=⟨(HB7.out.block gv hqd).trans HRa.out.1,HRa.out.2⟩
    have hsf:IntKind.i64.wrap ((K:Int)+1)=(K:Int)+1:=by rw [IntKind.wrap_i64];omega
    refine qz (S:=Sp) (by kernel_rfl) 21 ?_
    refine tkZ 0 79 (.pointer (some ⟨B,0,none⟩)) rfl rfl ha8 (fun w' h=>?_) ?_
    ·obtain ⟨h1,h2,h3,h4,h5,⟨h6,h7⟩,h8,h9⟩:=ha6 w' h
     go_simp
    refine tkZ 1 80 (.pointer (some ⟨B,0,none⟩)) rfl rfl ha8 (fun w' h=>?_) ?_
    ·obtain ⟨h1,h2,h3,h4,h5,⟨h6,h7⟩,h8,h9⟩:=ha6 w' h
     go_simp
    refine tkZ 2 81 (.pointer (some ⟨B,3,none⟩)) rfl rfl ha8 (fun w' h=>?_) ?_
    ·obtain ⟨h1,h2,h3,h4,h5,⟨h6,h7⟩,h8,h9⟩:=ha6 w' h
     go_simp
    refine tkZ 3 82 (.slice (some ⟨gq,0,none⟩) f.blocks.length e1) rfl rfl ha8 (fun w' h=>?_) ?_
    ·obtain ⟨h1,h2,h3,h4,h5,⟨h6,h7⟩,h8,h9⟩:=ha6 w' h
     go_simp
    refine tkZ 4 83 (.int .i64 tn) rfl rfl ha8 (fun w' h=>?_) ?_
    ·obtain ⟨h1,h2,h3,h4,h5,⟨h6,h7⟩,h8,h9⟩:=ha6 w' h
     go_simp
    refine tkZ 5 84 (.pointer (some ⟨gq,tn*6,none⟩)) rfl rfl ha8 (fun w' h=>?_) ?_
    ·obtain ⟨h1,h2,h3,h4,h5,⟨h6,h7⟩,h8,h9⟩:=ha6 w' h
     go_simp
    refine tkZ 6 85 (.pointer (some ⟨gq,tn*6,none⟩)) rfl rfl ha8 (fun w' h=>?_) ?_
    ·obtain ⟨h1,h2,h3,h4,h5,⟨h6,h7⟩,h8,h9⟩:=ha6 w' h
     go_simp
    refine tkZ 7 86 (.slice (some ⟨gp,0,none⟩) x.phis.length du) rfl rfl ha8 (fun w' h=>?_) ?_
    ·obtain ⟨h1,h2,h3,h4,h5,⟨h6,h7⟩,h8,h9⟩:=ha6 w' h
     go_simp
    refine tkZ 8 87 (.int .i64 j) rfl rfl ha8 (fun w' h=>?_) ?_
    ·obtain ⟨h1,h2,h3,h4,h5,⟨h6,h7⟩,h8,h9⟩:=ha6 w' h
     go_simp
    refine tkZ 9 88 (.pointer (some ⟨ws.heap.size,1,none⟩)) rfl rfl ha8 (fun w' h=>?_) ?_
    ·obtain ⟨h1,h2,h3,h4,h5,⟨h6,h7⟩,h8,h9⟩:=ha6 w' h
     go_simp
    refine tkZ 10 89 (.slice (some ⟨gv,0,none⟩) ah.length cv) rfl rfl ha8 (fun w' h=>?_) ?_
    ·obtain ⟨h1,h2,h3,h4,h5,⟨h6,h7⟩,h8,h9⟩:=ha6 w' h
     go_simp
    refine tkZ 11 90 (.int .i64 K) rfl rfl ha8 (fun w' h=>?_) ?_
    ·obtain ⟨h1,h2,h3,h4,h5,⟨h6,h7⟩,h8,h9⟩:=ha6 w' h
     go_simp
    refine tkZ 12 91 (.int .i64 K) rfl rfl ha8 (fun w' h=>?_) ?_
    ·obtain ⟨h1,h2,h3,h4,h5,⟨h6,h7⟩,h8,h9⟩:=ha6 w' h
     go_simp
    refine tkZ 13 92 (.int .i64 ((K+1:Nat):Int)) rfl rfl ha8 (fun w' h=>?_) ?_
    ·obtain ⟨h1,h2,h3,h4,h5,⟨h6,h7⟩,h8,h9⟩:=ha6 w' h
     go_simp
    refine tkZ 15 94 (.int .i64 spt) rfl rfl ha8 (fun w' h=>?_) ?_
    ·obtain ⟨h1,h2,h3,h4,h5,⟨h6,h7⟩,h8,h9⟩:=ha6 w' h
     go_simp
    refine tkZ 16 95 (.agg #[.bool xv.1,.int .i64 xv.2]) rfl rfl ha8 (fun w' h=>?_) ?_
    ·obtain ⟨h1,h2,h3,h4,h5,⟨h6,h7⟩,h8,h9⟩:=ha6 w' h
     go_simp
    refine stepZ_2 (i:=14) (j:=17) (by kernel_rfl) ?_ ?_
    ·refine qr 93 rfl rfl rfl (by go_simp) (k9 gv cv ah.length K (K+1) p.src cur w7.drew hR7 HTk.out heJ.out hcn hKl rfl) ?_
     rintro e w8 ⟨rfl,⟨cur8,hR8,ht8⟩,hK8⟩
     have hS8:=hSk ha8 hK8
     refine ⟨_,rfl,hS8,?_⟩
     have hz8:=hK8.size
     have hsq:ws.heap.size+1+1≤w8.heap.size:=by have:w7.drew.heap.size=w7.heap.size:=rfl;omega
     have hS9:Sp (w8.alloc (.cells #[.bool xv.1,.int .i64 xv.2] 44)):=hSk hS8 ((Kept.refl _ _).alloc _)
     refine qm (i:=17) (by kernel_rfl) (qC 96 (.slice (some ⟨w8.heap.size,0,none⟩) 1 1) (w8.alloc (.cells #[.bool xv.1,.int .i64 xv.2] 44)) rfl rfl rfl (by
      obtain ⟨h1,h2,h3,h4,h5,h6,h7,h8⟩:=ha6 w8 hS8
      go_simp) hS9 ?_)
     have hKA:Kept (fun g=>g=gv) w7 (w8.alloc (.cells #[.bool xv.1,.int .i64 xv.2] 44)):=(((Kept.refl (fun g=>g=gv) w7).drew).trans hK8 (fun _ _ h=>h)).alloc _
     have hR9:RowAt (w8.alloc (.cells #[.bool xv.1,.int .i64 xv.2] 44)) 44 gv cv 2 cur8:=⟨qh hR8.1,hR8.2⟩
     have he7:(w8.alloc (.cells #[.bool xv.1,.int .i64 xv.2] 44)).heap[w8.heap.size]?=some (.cells #[.bool xv.1,.int .i64 xv.2] 44 (0,0)):=qq rfl
     obtain ⟨w9,hw9⟩:∃w9,w9=w8.alloc (.cells #[.bool xv.1,.int .i64 xv.2] 44):=⟨_,rfl⟩
     obtain ⟨vb,hvb⟩:∃vb,vb=w8.heap.size:=⟨_,rfl⟩
     rw [←hw9] at hS9 hKA hR9 he7 ⊢
     rw [←hvb] at he7 ⊢
     have hjH:vb≠gv:=by omega
     clear hw9 hvb hS8 hR8 hK8
     have he1:(p.src.eraseIdx K).length=ah.length - 1:=by rw [List.length_eraseIdx_of_lt (by rw [heJ.out];exact hKl),heJ.out]
     refine qm (i:=18) (by kernel_rfl) (qr 97 rfl rfl rfl (by go_simp) (QL gv cv (ah.length - 1) spt vb xv (p.src.eraseIdx K) cur8 w9 hR9 ht8 he1 (by omega) (by omega) he7 hjH) ?_)
     rintro e w10 ⟨rfl,⟨curf,hRf,htf⟩,hKf⟩
     have hn1:ah.length - 1+1=ah.length:=by omega
     rw [hn1] at htf ⊢
     have ha9:=hSk hS9 hKf
     refine ⟨_,rfl,ha9,?_⟩
     refine qm (i:=19) (by kernel_rfl) (qC 98 (.pointer (some ⟨gp,j*2,none⟩)) w10 rfl rfl rfl (by go_simp) ha9 ?_)
     refine qm (i:=20) (by kernel_rfl) (qC 99 (.pointer (some ⟨gp,j*2+1,none⟩)) w10 rfl rfl rfl (by go_simp) ha9 ?_)
     obtain ⟨t1,t2,t3,t4,t5,⟨t6,t7⟩,t8,t9⟩:=ha6 w10 ha9
     have hjI:gp<w10.heap.size:=by omega
     refine qm (i:=21) (by kernel_rfl) (qt (w10.setCell ⟨gp,j*2+1,none⟩ (.slice (some ⟨gv,0,none⟩) ah.length cv)) rfl rfl rfl (by go_simp) (fun h=>absurd rfl h) (qI (by kernel_rfl) ?_ _))
     show Exit.inBlock 5 _ Exit.normal _ _
     have hKw:Kept (fun g=>g=gv) ws w10:=((Kept.of_below HB7.out).trans hKA (fun _ _ h=>h)).trans hKf (fun _ _ h=>h)
     have hKz:Kept (fun g=>g=gv∨g=gp) ws (w10.setCell ⟨gp,j*2+1,none⟩ (.slice (some ⟨gv,0,none⟩) ah.length cv)):=Kept.setCell (S:=fun g=>g=gv∨g=gp) (p:=⟨gp,j*2+1,none⟩) (hKw.mono fun _ _ h=>.inl h) (.inr rfl) _
     have hmv:(p.src.eraseIdx K).take spt++xv::(p.src.eraseIdx K).drop spt=(Zk ah old now p).src:=by
      show _=Q6 ah old now p.src
      unfold Q6
      rw [←HKe.out,←HSp.out]
      rw [HXv.out.1]
     rw [hmv] at htf
     have hml:(Zk ah old now p).src.length=ah.length:=by rw [←hmv];simp only [List.length_append,List.length_cons,List.length_take,List.length_drop,he1];omega
     have hh5:∀v∈(Zk ah old now p).src,I64 v.2:=fun v hv=>by
      rw [←hmv] at hv
      have hsub:∀v∈p.src.eraseIdx K,v∈p.src:=fun v h=>List.mem_of_mem_eraseIdx h
      rcases List.mem_append.1 hv with h|h
      ·exact heK.out v (hsub v (List.mem_of_mem_take h))
      rcases List.mem_cons.1 h with h|h
      ·rw [h];exact heK.out _ HXv.out.2
      exact heK.out v (hsub v (List.mem_of_mem_drop h))
     have hRg:RowAt (w10.setCell ⟨gp,j*2+1,none⟩ (.slice (some ⟨gv,0,none⟩) ah.length cv)) 44 gv cv 2 curf:=⟨(Go.Deep.blk_setCell_other _ _ _ gv hbU).trans hRf.1,hRf.2⟩
     have hsl:SlO 44 2 vM (w10.setCell ⟨gp,j*2+1,none⟩ (.slice (some ⟨gv,0,none⟩) ah.length cv)) (.slice (some ⟨gv,0,none⟩) (Zk ah old now p).src.length cv) (Zk ah old now p).src Tp:=SlO.ofRow (by rw [hml];exact hRg.own hcn (by rw [zQ,hml]) htf) hh5 (fun g e=>HTp.out.2.2 g e) (HPs.out.sl.inb.mono hKz.size)
     rw [hml] at hsl
     have hput:=haI.out (w10.setCell ⟨gp,j*2+1,none⟩ (.slice (some ⟨gv,0,none⟩) ah.length cv)) [.int .i64 p.dst,.slice (some ⟨gv,0,none⟩) ah.length cv] (Zk ah old now p) Tp
      (RowPut.set (RowPut.same HCp.out (hKw.block gp hgp (fun e=>hbU e.symm)) hcT.out) rfl (j:=1) (by omega) _) rfl (fun u hu=>by
       simp only [List.mem_cons,List.not_mem_nil,or_false] at hu
       rcases hu with rfl|rfl<;>rfl) hKz.size (fun g h1 h2 h3=>hKz.block g (HPj.out.inb g h1) (fun e=>e.elim (fun e=>h2 (by rw [e];exact HTp.out.2.2 gv rfl)) h3))
      ⟨_,rfl,HPd.out,hsl,by rw [hml];unfold reachBytes;omega⟩ (fun g hg=>⟨.inl hg,Nat.lt_of_lt_of_le (HPj.out.inb g (HTp.out.2.1 g hg)) hKz.size⟩)
     rw [HPe.out,zh hjl] at hput
     have hrel:SlO 84 2 PhiO (w10.setCell ⟨gp,j*2+1,none⟩ (.slice (some ⟨gv,0,none⟩) ah.length cv)) (.slice (some ⟨gp,0,none⟩) x.phis.length du) (qN (j+1) (Zk ah old now) x.phis) Su1∧Kept Su1 wt (w10.setCell ⟨gp,j*2+1,none⟩ (.slice (some ⟨gv,0,none⟩) ah.length cv)):=
      ⟨hput.grow (fun g h=>h.elim id (HTp.out.2.1 g)) (HPj.out.inb.mono hKz.size),HKj.out.trans hKz (fun g _ h=>h.elim (fun e=>by rw [e];exact hgZ) (fun e=>by rw [e];exact heC.out))⟩
     have ha7:=q8 hrel
     clear hrel hput hsl hRg hKz hKw hRf hKf ha9 hS9 hR9 he7 hKA htf ht8 t1 t2 t3 t4 t5 t6 t7 hmv hh5
     go_wp2_with fail
     go_roundg (x.phis.length - (j+1))
     case measure=>omega
     case rel=>exact ⟨j+1,by omega,rfl,by go_num,ha7.out.1,ha7.out.2⟩
    have hS8:Sp (w7.drew.alloc (.cells #[.bool xv.1,.int .i64 xv.2] 44)):=hSk ha8 ((Kept.refl _ _).alloc _)
    refine qC 96 (.slice (some ⟨w7.heap.size,0,none⟩) 1 1) (w7.drew.alloc (.cells #[.bool xv.1,.int .i64 xv.2] 44)) rfl rfl rfl (by go_simp) hS8 ?_
    have hR8:RowAt (w7.drew.alloc (.cells #[.bool xv.1,.int .i64 xv.2] 44)) 44 gv cv 2 cur:=⟨qh hR7.1,hR7.2⟩
    refine qm (i:=14) (by kernel_rfl) (qr 93 rfl rfl rfl (by go_simp) (k9 gv cv ah.length K (K+1) p.src cur _ hR8 HTk.out heJ.out hcn hKl rfl) ?_)
    rintro e w9 ⟨rfl,⟨cur8,hR9,ht8⟩,hK8⟩
    have hS9:=hSk hS8 hK8
    refine ⟨_,rfl,hS9,?_⟩
    have hKA:Kept (fun g=>g=gv) w7 w9:=(((Kept.refl (fun g=>g=gv) w7).drew).alloc _).trans hK8 (fun _ _ h=>h)
    obtain ⟨vb,hvb⟩:∃vb,vb=w7.heap.size:=⟨_,rfl⟩
    have he7:w9.heap[vb]?=some (.cells #[.bool xv.1,.int .i64 xv.2] 44 (0,0)):=by
     rw [hvb]
     exact (hK8.block _ (by rw [World.size_alloc];exact Nat.lt_succ_self _) (by omega)).trans (qq rfl)
    rw [←hvb]
    have hjH:vb≠gv:=by omega
    clear hvb hS8 hR8 hK8
    have he1:(p.src.eraseIdx K).length=ah.length - 1:=by rw [List.length_eraseIdx_of_lt (by rw [heJ.out];exact hKl),heJ.out]
    refine qm (i:=18) (by kernel_rfl) (qr 97 rfl rfl rfl (by go_simp) (QL gv cv (ah.length - 1) spt vb xv (p.src.eraseIdx K) cur8 w9 hR9 ht8 he1 (by omega) (by omega) he7 hjH) ?_)
    rintro e w10 ⟨rfl,⟨curf,hRf,htf⟩,hKf⟩
    have hn1:ah.length - 1+1=ah.length:=by omega
    rw [hn1] at htf ⊢
    have ha9:=hSk hS9 hKf
    refine ⟨_,rfl,ha9,?_⟩
    refine qm (i:=19) (by kernel_rfl) (qC 98 (.pointer (some ⟨gp,j*2,none⟩)) w10 rfl rfl rfl (by go_simp) ha9 ?_)
    refine qm (i:=20) (by kernel_rfl) (qC 99 (.pointer (some ⟨gp,j*2+1,none⟩)) w10 rfl rfl rfl (by go_simp) ha9 ?_)
    obtain ⟨t1,t2,t3,t4,t5,⟨t6,t7⟩,t8,t9⟩:=ha6 w10 ha9
    have hjI:gp<w10.heap.size:=by omega
    refine qm (i:=21) (by kernel_rfl) (qt (w10.setCell ⟨gp,j*2+1,none⟩ (.slice (some ⟨gv,0,none⟩) ah.length cv)) rfl rfl rfl (by go_simp) (fun h=>absurd rfl h) (qI (by kernel_rfl) ?_ _))
    show Exit.inBlock 5 _ Exit.normal _ _
    have hKw:Kept (fun g=>g=gv) ws w10:=((Kept.of_below HB7.out).trans hKA (fun _ _ h=>h)).trans hKf (fun _ _ h=>h)
    have hKz:Kept (fun g=>g=gv∨g=gp) ws (w10.setCell ⟨gp,j*2+1,none⟩ (.slice (some ⟨gv,0,none⟩) ah.length cv)):=Kept.setCell (S:=fun g=>g=gv∨g=gp) (p:=⟨gp,j*2+1,none⟩) (hKw.mono fun _ _ h=>.inl h) (.inr rfl) _
    have hmv:(p.src.eraseIdx K).take spt++xv::(p.src.eraseIdx K).drop spt=(Zk ah old now p).src:=by
     show _=Q6 ah old now p.src
     unfold Q6
     rw [←HKe.out,←HSp.out]
     rw [HXv.out.1]
    rw [hmv] at htf
    have hml:(Zk ah old now p).src.length=ah.length:=by rw [←hmv];simp only [List.length_append,List.length_cons,List.length_take,List.length_drop,he1];omega
    have hh5:∀v∈(Zk ah old now p).src,I64 v.2:=fun v hv=>by
     rw [←hmv] at hv
     have hsub:∀v∈p.src.eraseIdx K,v∈p.src:=fun v h=>List.mem_of_mem_eraseIdx h
     rcases List.mem_append.1 hv with h|h
     ·exact heK.out v (hsub v (List.mem_of_mem_take h))
     rcases List.mem_cons.1 h with h|h
     ·rw [h];exact heK.out _ HXv.out.2
     exact heK.out v (hsub v (List.mem_of_mem_drop h))
    have hRg:RowAt (w10.setCell ⟨gp,j*2+1,none⟩ (.slice (some ⟨gv,0,none⟩) ah.length cv)) 44 gv cv 2 curf:=⟨(Go.Deep.blk_setCell_other _ _ _ gv hbU).trans hRf.1,hRf.2⟩
    have hsl:SlO 44 2 vM (w10.setCell ⟨gp,j*2+1,none⟩ (.slice (some ⟨gv,0,none⟩) ah.length cv)) (.slice (some ⟨gv,0,none⟩) (Zk ah old now p).src.length cv) (Zk ah old now p).src Tp:=SlO.ofRow (by rw [hml];exact hRg.own hcn (by rw [zQ,hml]) htf) hh5 (fun g e=>HTp.out.2.2 g e) (HPs.out.sl.inb.mono hKz.size)
    rw [hml] at hsl
    have hput:=haI.out (w10.setCell ⟨gp,j*2+1,none⟩ (.slice (some ⟨gv,0,none⟩) ah.length cv)) [.int .i64 p.dst,.slice (some ⟨gv,0,none⟩) ah.length cv] (Zk ah old now p) Tp
     (RowPut.set (RowPut.same HCp.out (hKw.block gp hgp (fun e=>hbU e.symm)) hcT.out) rfl (j:=1) (by omega) _) rfl (fun u hu=>by
      simp only [List.mem_cons,List.not_mem_nil,or_false] at hu
      rcases hu with rfl|rfl<;>rfl) hKz.size (fun g h1 h2 h3=>hKz.block g (HPj.out.inb g h1) (fun e=>e.elim (fun e=>h2 (by rw [e];exact HTp.out.2.2 gv rfl)) h3))
     ⟨_,rfl,HPd.out,hsl,by rw [hml];unfold reachBytes;omega⟩ (fun g hg=>⟨.inl hg,Nat.lt_of_lt_of_le (HPj.out.inb g (HTp.out.2.1 g hg)) hKz.size⟩)
    rw [HPe.out,zh hjl] at hput
    have hrel:SlO 84 2 PhiO (w10.setCell ⟨gp,j*2+1,none⟩ (.slice (some ⟨gv,0,none⟩) ah.length cv)) (.slice (some ⟨gp,0,none⟩) x.phis.length du) (qN (j+1) (Zk ah old now) x.phis) Su1∧Kept Su1 wt (w10.setCell ⟨gp,j*2+1,none⟩ (.slice (some ⟨gv,0,none⟩) ah.length cv)):=
     ⟨hput.grow (fun g h=>h.elim id (HTp.out.2.1 g)) (HPj.out.inb.mono hKz.size),HKj.out.trans hKz (fun g _ h=>h.elim (fun e=>by rw [e];exact hgZ) (fun e=>by rw [e];exact heC.out))⟩
    have ha7:=q8 hrel
    clear hrel hput hsl hRg hKz hKw hRf hKf ha9 hS9 hR9 he7 hKA htf ht8 t1 t2 t3 t4 t5 t6 t7 hmv hh5
    go_wp2_with fail
    go_roundg (x.phis.length - (j+1))
    case measure=>omega
    case rel=>exact ⟨j+1,by omega,rfl,by go_num,ha7.out.1,ha7.out.2⟩

end Go.Proofs.YtgjjhadbjmcnpaaGreatDoor
namespace Go.Proofs.YtgjjhadbjmcnpaaGreatDoor
open Go.RowKit

theorem FunD.ordRange {f:FunL} (h:FunD f):OrdC f (List.range f.blocks.length):=by
 refine ⟨List.nodup_range,?_,fun x hx=>List.mem_range.1 hx,fun b hb t ht=>?_⟩
 ·have:=h.n1
  obtain ⟨n,hn⟩:∃n,f.blocks.length=n+1:=⟨f.blocks.length - 1,by omega⟩
  rw [hn,List.range_succ_eq_map]
  exact ⟨_,rfl⟩
 have:=h.tosB b (List.mem_range.1 hb) t ht
 exact List.mem_range.2 (by omega)
theorem vk {n i:Nat} (h:i<n):(List.range n).idxOf i=i:=by
 have:=(List.nodup_range (n:=n)).idxOf_getElem i (by simpa using h)
 simpa using this
theorem QM {n i:Nat} (h:i<n):qB (List.range n) i=i:=by
 rw [xp (List.mem_range.2 h),vk h]
theorem FunD.keep_same {f:FunL} (h:FunD f) (hl:∀b (hb:b<f.blocks.length),∀p∈f.blocks[b].phis,p.src.length=(Go.Proofs.YtgjjhadbjmcnpaaGreatDoor.insN f b).length):zi (List.range f.blocks.length) f=f:=by
 have ho:=h.ordRange
 have e:(zi (List.range f.blocks.length) f).blocks=f.blocks:=by
  refine List.ext_getElem (by simp [zi]) fun b h1 h2=>?_
  have hb:b<(List.range f.blocks.length).length:=by simpa using h2
  rw [QG _ f hb]
  simp only [List.getElem_range]
  rw [qL h2]
  have ep:(f.blocks[b].phis.map fun p=>{ p with src:=srcK (qB (List.range f.blocks.length)) (Go.Proofs.YtgjjhadbjmcnpaaGreatDoor.insN f b) p.src })=f.blocks[b].phis:=by
   refine (List.map_congr_left (g:=id) fun p hp=>?_).trans (by simp)
   have hlen:=hl b h2 p hp
   have e1:=Xy h ho (b:=b) (List.mem_range.2 h2) (Q7 (Go.Proofs.YtgjjhadbjmcnpaaGreatDoor.insN f b) p.src)
   rw [←fromR_row (h.insD b) hlen,vk h2] at e1
   have e2:Go.Proofs.YtgjjhadbjmcnpaaGreatDoor.insN (zi (List.range f.blocks.length) f) b=Go.Proofs.YtgjjhadbjmcnpaaGreatDoor.insN f b:=XA (xF (h.keep ho) b) (xF h b) fun a=>by
    have:=kw h ho (b:=b) (List.mem_range.2 h2) (j:=a)
    rw [vk h2] at this
    rw [this]
    constructor
    ·rintro ⟨hj,hm⟩
     simpa using hm
    intro g
    exact ⟨by simpa using (h.mem.1 g).1,by simpa using g⟩
   rw [e2] at e1
   show { p with src:=_ }=p
   rw [e1]
   have e3:((Go.Proofs.YtgjjhadbjmcnpaaGreatDoor.insN f b).map fun j=>Q7 (Go.Proofs.YtgjjhadbjmcnpaaGreatDoor.insN f b) p.src ((List.range f.blocks.length).getD j 0))=p.src:=by
    refine Eq.trans (List.map_congr_left fun j hj=>?_) (fromR_row (h.insD b) hlen).symm
    have:=(h.mem.1 hj).1
    simp [this]
   rw [e3]
  have et:endK (qB (List.range f.blocks.length)) f.blocks[b].fin=f.blocks[b].fin:=by
   unfold endK
   have:(f.blocks[b].fin.to.map fun t=>qB (List.range f.blocks.length) t.toNat)=f.blocks[b].fin.to:=by
    refine (List.map_congr_left (g:=id) fun t ht=>?_).trans (by simp)
    have:=h.tos b h2 t ht
    rw [QM (by omega)]
    show ((t.toNat:Nat):Int)=t
    omega
   rw [this]
  unfold blkK
  rw [ep,et]
 have e0:(zi (List.range f.blocks.length) f)={ f with blocks:=(zi (List.range f.blocks.length) f).blocks }:=rfl
 rw [e0,e]
/-! ## names -/

theorem kU {m:Nat→Nat}:∀(L:List Nat) (D:List Nat),(∀a∈D++L,∀b∈D++L,m a=m b→a=b)→(L.map m).foldl (fun D r=>if r∈D then D else D++[r]) (D.map m)=(L.foldl (fun D r=>if r∈D then D else D++[r]) D).map m
 | [],_,_=>rfl
 | r::L,D,h=>by
  rw [List.map_cons,List.foldl_cons,List.foldl_cons]
  have e:m r∈D.map m↔r∈D:=by
   constructor
   ·intro g
    obtain ⟨a,ha,e⟩:=List.mem_map.1 g
    rw [←h a (by simp [ha]) r (by simp) e]
    exact ha
   exact fun g=>List.mem_map.2 ⟨r,g,rfl⟩
  by_cases hr:r∈D
  ·rw [if_pos hr,if_pos (e.2 hr)]
   refine kU L D fun a ha b hb=>h a ?_ b ?_
   ·simp only [List.mem_append,List.mem_cons] at ha ⊢;rcases ha with g|g;exact .inl g;exact .inr (.inr g)
   simp only [List.mem_append,List.mem_cons] at hb ⊢;rcases hb with g|g;exact .inl g;exact .inr (.inr g)
  rw [if_neg hr,if_neg (fun g=>hr (e.1 g))]
  have:=kU L (D++[r]) fun a ha b hb=>h a (by simpa using ha) b (by simpa using hb)
  rw [←this]
  simp
theorem Jv (L:List Nat):xW (L.map fun r=>(xW L).idxOf r)=List.range (xW L).length:=by
 have hm:∀r,r∈xW L↔r∈L:=fun r=>by
  have:=(xL (L:=L) (D:=[]) List.nodup_nil).2.2 r
  simpa [xW] using this
 have h:=kU (m:=fun r=>(xW L).idxOf r) L [] fun a ha b hb e=>kQ ((hm a).2 (by simpa using ha)) ((hm b).2 (by simpa using hb)) e
 have h2:xW (L.map fun r=>(xW L).idxOf r)=(xW L).map fun r=>(xW L).idxOf r:=h
 rw [h2]
 refine List.ext_getElem (by simp) fun i h1 h3=>?_
 simp only [List.getElem_map,List.getElem_range]
 have hn:(xW L).Nodup:=(xL (L:=L) (D:=[]) List.nodup_nil).1
 exact hn.idxOf_getElem i (by simpa using h3)
end Go.Proofs.YtgjjhadbjmcnpaaGreatDoor
