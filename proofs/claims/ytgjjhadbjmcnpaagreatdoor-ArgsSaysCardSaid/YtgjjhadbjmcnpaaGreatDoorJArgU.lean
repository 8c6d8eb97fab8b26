/-
  Plain: what passes the check calls as it should, and its lists are short.
-/
import Derived.Test.YtgjjhadbjmcnpaaGreatDoorJTidP
import Derived.Test.YtgjjhadbjmcnpaaGreatDoorNamC
set_option maxRecDepth 100000
set_option maxHeartbeats 16000000
namespace Go.Proofs.YtgjjhadbjmcnpaaGreatDoor
open Go.RowKit Go.Shelf

def HeadLike (g f:FunL):Prop:=g.name=f.name/\g.params=f.params/\g.regs=f.regs/\g.blocks.length=f.blocks.length
theorem HeadLike.join {g f:FunL} (h:HeadLike g f) (b t:Nat):HeadLike (xX g b t) f:=⟨h.1,h.2.1,h.2.2.1,by rw[qX];exact h.2.2.2⟩
theorem RowPut.outC {w w1:World} {e:TypeId} {g o size j:Nat} {cs:List Value} (h:RowPut w w1 e g o size cs) (hj:j<o\/o+size<=j):w1.cell? (J g j)=w.cell? (J g j):=by
 obtain⟨c,c',a,b,_,_,r⟩:=h;exact(cell_of_row w1 g _ c' e (0,0) b).trans ((r j hj).trans (cell_of_row w g _ c e (0,0) a).symm)

theorem YK {nf:Nat} {P:Nat->Int} (f:FunL) (hC:FunC nf P f) (q:Option Addr) (e1:Nat) (w:World) (S:Blks) (hF:FunO w [.string f.name,Z f.params,Z f.regs,.slice q f.blocks.length e1] f S) :
  Calls Tryz.prog 66 #[.agg #[.string f.name,Z f.params,Z f.regs,.slice q f.blocks.length e1]] w fun e w'=>∃p c S',e = .returned (.agg #[.string f.name,Z f.params,Z f.regs,.slice p f.blocks.length c])/\
   FunO w' [.string f.name,Z f.params,Z f.regs,.slice p f.blocks.length c] (zM f) S'/\(∀g,S' g->S g\/w.heap.size<=g)/\Kept S w w':=by
 obtain⟨iI,l1,l2,l3,l4⟩:=info_parts v6;have hn0:=hC.n1;have hdD:=hC.n40;obtain⟨v0,hbE,hnm,i1,i2,hB⟩:=hF;have hv0:v0 = .slice q f.blocks.length e1:=by simpa using hbE.symm
 subst hv0;obtain⟨gq,cq,_,_,hvq,_⟩:=hB.sl.focus qM bO hn0;have hq:q=some (J gq 0):=by injection hvq
 subst hq;obtain⟨V,N,L,hCh,hNS,hLS⟩:=ChS.of hB.sl hn0;have hSb:=hB.sl.inb;have HC:=q8 hC;have HCh:=q8 hCh;have HNS:=q8 hNS;have HLS:=q8 hLS;have HSb:=q8 hSb;have HN:=q8 (zh hnm (zh i1 i2));have HBd:=q8 hB.bd;clear hC hCh hNS hLS hSb hnm i1 i2 hB hbE hvq
 go_enter Tryz.func66,Tryz.ntmps66
 go_wp2_with fail
 obtain⟨W1,hW1⟩:=nZ ((w.alloc (.cells #[.string f.name,Z f.params,Z f.regs,.slice (some (J gq 0)) f.blocks.length e1] 38)).alloc (.cells #[.string { data:=#[] },Z 0,Z 0,.slice none 0 0] 38));rw[←hW1];have hz1:W1.heap.size=w.heap.size+1+1:=by rw[hW1];simp
 have hb1:Below w.heap.size w W1:=by rw[hW1];exact bZ
 have hF1:W1.heap[w.heap.size]?=some (.cells #[.string f.name,Z f.params,Z f.regs,.slice (some (J gq 0)) f.blocks.length e1] 38 (0,0)):=by rw[hW1];exact qh (qr rfl)
 have hZ1:W1.heap[w.heap.size+1]?=some (.cells #[.string { data:=#[] },Z 0,Z 0,.slice none 0 0] 38 (0,0)):=by rw[hW1];exact qr bV
 have HB1:=q8 hb1;have HF1:=q8 hF1;have HZ1:=q8 hZ1;have HC1:=q8 (HCh.out.below hb1);clear hW1 hb1 hF1 hZ1
 go_loopg [3] f.blocks.length (fun q s3 wr=>∃(b:Nat) (g:FunL) (V:Nat->Value) (L:Nat->Blks),b<=f.blocks.length/\q=f.blocks.length - b/\s3=Z b/\g=(List.range b).foldl (fun g b=>zt (f.blocks.length+1) g b) f/\FunC nf P g/\HeadLike g f/\ChS wr gq e1 g.blocks V N L/\(∀i,i<f.blocks.length->∀k,L i k->S k\/W1.heap.size<=k)/\Kept S W1 wr)
 case atStart=>exact⟨0,f,V,L,by omega,rfl,rfl,rfl,HC.out,⟨rfl,rfl,rfl,rfl⟩,HC1.out,fun i hi k h=>.inl (HLS.out i hi k h),Kept.refl _ _⟩
 case round=>
  obtain⟨b,g,V,L,hb,rfl,rfl,hg,hCg,hH,hS,hL,hK⟩:=hrel;obtain⟨wo,hwo⟩:=nZ wr;subst hwo;have hgl:=hH.2.2.2;have hsz:=hK.size;have hSw:∀k,S k->k<w.heap.size:=fun k hk=>HSb.out k hk;have hFo:wo.heap[w.heap.size]?=some (.cells #[.string f.name,Z f.params,Z f.regs,.slice (some (J gq 0)) f.blocks.length e1] 38 (0,0)):=(hK.block _ bO (fun h=>by have:=hSw _ h;omega)).trans HF1.out;obtain⟨fb,ff⟩:=blk hFo;have fb0:=fb 0;have fb1:=fb 1;have fb2:=fb 2;have fb3:=fb 3;simp only[zE,zB,zD]at fb0 fb1 fb2 fb3;have fz:=qd hFo;have HG:=q8 hg;have HCg:=q8 hCg;have HH:=q8 hH;have HSo:=q8 hS;have HLo:=q8 hL;have HKo:=q8 hK;have HSw:=q8 hSw;have HGl:=q8 hgl;clear hg hCg hH hS hL hK hSw hFo hgl fb
  by_cases hbl:b<f.blocks.length
  rotate_left
  ·obtain rfl:b=f.blocks.length:=(by omega);have hgT:g=zM f:=HG.out;have hZo:wo.heap[w.heap.size+1]?=some (.cells #[.string { data:=#[] },Z 0,Z 0,.slice none 0 0] 38 (0,0)):=(HKo.out.block _ bO (fun h=>by have:=HSw.out _ h;omega)).trans HZ1.out;obtain⟨zb,zf⟩:=blk hZo;have zb0:=zb 0;have zb1:=zb 1;have zb2:=zb 2;have zb3:=zb 3;simp only[zE,zB,zD]at zb0 zb1 zb2 zb3;have zz:=qd hZo;have hne1:¬ (w.heap.size+1=w.heap.size):=(by omega);have hne2:¬ (w.heap.size=w.heap.size+1):=(by omega);have HZo:=q8 hZo;have HGT:=q8 hgT;clear hZo zb hgT
   go_wp2_with fail
   obtain⟨WF,hWF⟩:=nZ ((((wo.setCell (J (w.heap.size+1) 0) (.string f.name)).setCell (J (w.heap.size+1) 1) (Z f.params)).setCell (J (w.heap.size+1) 2) (Z f.regs)).setCell (J (w.heap.size+1) 3) (.slice (some (J gq 0)) f.blocks.length e1));rw[←hWF]
   have hKf:Kept (fun i=>i=w.heap.size+1) wo WF:=by
    rw[hWF];have h0:Kept (fun i=>i=w.heap.size+1) wo wo:=Kept.refl _ wo;have h2:=h0.setCell (p:=(J (w.heap.size+1) 0)) rfl (.string f.name);have h3:=h2.setCell (p:=(J (w.heap.size+1) 1)) rfl (Z f.params);have h4:=h3.setCell (p:=(J (w.heap.size+1) 2)) rfl (Z f.regs);exact h4.setCell (p:=(J (w.heap.size+1) 3)) rfl (.slice (some (J gq 0)) f.blocks.length e1)
   have hRF:WF.heap[w.heap.size+1]?=some (.cells #[.string f.name,Z f.params,Z f.regs,.slice (some (J gq 0)) f.blocks.length e1] 38 (0,0)):=by
    rw[hWF,qj (qj (qj (qj HZo.out 0 _) 1 _) 2 _) 3 _];rfl
   clear hWF;obtain⟨rb,_⟩:=blk hRF;have rb0:=rb 0;have rb1:=rb 1;have rb2:=rb 2;have rb3:=rb 3;simp only[zE,zB,zD]at rb0 rb1 rb2 rb3;have hsl:=HSo.out.to
   have hbd:∀k,(N k\/∃i,i<g.blocks.length/\L i k)->S k\/W1.heap.size<=k:=fun k hk=>by
    rcases hk with h|⟨i,hi,h⟩
    ·exact .inl (HNS.out k h)
    exact HLo.out i (by have:=HGl.out;omega) k h
   have hgl:=HGl.out;obtain⟨hh1,hh2,hh3,_⟩:=HH.out
   have hfin:FunO WF [.string f.name,Z f.params,Z f.regs,.slice (some (J gq 0)) f.blocks.length e1] (zM f) (fun k=>N k\/∃i,i<g.blocks.length/\L i k):=by
    rw[←HGT.out];refine⟨_,by rw[hh1,hh2,hh3],by rw[hh1];exact HN.out.1,by rw[hh2];exact HN.out.2.1,by rw[hh3];exact HN.out.2.2,⟨?_,by rw[hgl];exact HBd.out⟩⟩
    have h1:=hsl.kept qM hKf (fun k h1 h2=>by
     rcases hbd k h2 with h|h
     ·have:=HSw.out k h;omega
     omega)
    rw[hgl]at h1 ⊢;exact h1
   refine zk (v:=.agg #[.string f.name,Z f.params,Z f.regs,.slice (some (J gq 0)) f.blocks.length e1]) ?_ rfl ⟨_,_,_,rfl,hfin,fun k hk=>?_,?_⟩
   ·simp[results,Tryz.results66,go_sem,rb0,rb1,rb2,rb3]
   ·rcases hbd k hk with h|h
    ·exact .inl h
    right;omega
   exact((Kept.of_below HB1.out).trans HKo.out (fun k _ h=>h)).trans hKf (fun k h1 h2=>by omega)
  go_wp2_with fail
  clear fb0 fb1 fb2 fb3 ff fz
  go_loopg [] (Q6 g) (fun q wr=>∃(g':FunL) (V:Nat->Value) (L:Nat->Blks) (c:Nat),q=Q6 g'/\Q6 g'<c/\zt c g' b=zt (f.blocks.length+1) g b/\FunC nf P g'/\HeadLike g' f/\ChS wr gq e1 g'.blocks V N L/\(∀i,i<f.blocks.length->∀k,L i k->S k\/W1.heap.size<=k)/\Kept S W1 wr)
  case atStart=>exact⟨g,V,L,f.blocks.length+1,rfl,by have:=KZ g;have:=HGl.out;omega,rfl,HCg.out,HH.out,HSo.out,HLo.out,HKo.out⟩
  case round=>
   clear HSo HLo HKo hsz;obtain⟨g1,V,L,c,rfl,hjc,hch,hCg,hH,hS,hL,hK⟩:=hrel;obtain⟨wi,hwi⟩:=nZ wr;subst hwi;have hgl:=hH.2.2.2;have hb1:b<g1.blocks.length:=(by omega);have hsz:=hK.size;have hFi:wi.heap[w.heap.size]?=some (.cells #[.string f.name,Z f.params,Z f.regs,.slice (some (J gq 0)) f.blocks.length e1] 38 (0,0)):=(hK.block _ bO (fun h=>by have:=HSw.out _ h;omega)).trans HF1.out;obtain⟨fb,ff⟩:=blk hFi;have fb0:=fb 0;have fb1:=fb 1;have fb2:=fb 2;have fb3:=fb 3;simp only[zE,zB,zD]at fb0 fb1 fb2 fb3;have fz:=qd hFi;obtain⟨q1,d1,p2,d2,q3,d3,hVb,hcb,hgN,hgz,hgf,hTo⟩:=hS.at hb1;have b0:=hcb 0 bO;have b1:=hcb 1 bO;have b2:=hcb 2 bO;have b3:=hcb 3 bO;have b4:=hcb 4 bO;have b5:=hcb 5 bO;simp only[zB,zD,yJ]at b0 b1 b2 b3 b4 b5;have hEb:=hCg.fin b hb1;obtain⟨x,hxe⟩:=nZ (g1.blocks[b]);rw[←hxe]at b0 b1 b2 b3 b4 b5 hTo hEb hVb;have HXe:=q8 hxe;have HJc:=q8 hjc;have hiw:=q8 hch;have hd9:=q8 hCg;have HH1:=q8 hH;have HS1:=q8 hS;have HL1:=q8 hL;have HK1:=q8 hK;have HFi:=q8 hFi;have HTo:=q8 hTo;have HEb:=q8 hEb;have HVb:=q8 hVb;have hiy:=q8 hgl;have HGf:=q8 hgf;have HGN:=q8 hgN;clear hxe hjc hch hCg hH hS hL hK hFi hTo hEb hVb hgl hgN fb hcb
   by_cases hkd:x.fin.kind=2
   rotate_left
   ·have hkb:(x.fin.kind == (2:Int))=false:=by simpa using hkd
    have hmn:vt g1 b=none:=by
     cases h:vt g1 b with
     | none=>rfl
     | some t=>exact absurd (by have:=V6 h;rwa [qW hb1,←HXe.out]at this) hkd
    have hfin:zt (f.blocks.length+1) g b=g1:=(by rw[←hiw.out,jU hmn]);have HFin:=q8 hfin;clear hfin hmn
    go_wp2_with fail
    go_roundg (f.blocks.length - (b+1))
    case measure=>omega
    case rel=>exact⟨b+1,g1,V,L,by omega,rfl,by go_num,by rw[yt,yh,←HG.out];exact HFin.out.symm,hd9.out,HH1.out,HS1.out,HL1.out,HK1.out⟩
   have hkb:(x.fin.kind == (2:Int))=true:=(by simpa using hkd);have hl1:x.fin.to.length=1:=(by have:=HEb.out.len;omega);obtain⟨b3t,o3t,cs3,hp3,htH,hc3,hr3⟩:=HTo.out.get (i:=0) bO;clear htH;obtain⟨hlV,heE⟩:=hr3;clear heE;subst hlV;have htb:=HEb.out.to _ (zP (show 0<x.fin.to.length by omega));obtain⟨t,ht⟩:∃t:Nat,x.fin.to[0]=(t:Int):=⟨x.fin.to[0].toNat,by omega⟩;rw[ht]at htb hc3;have htl:t<g1.blocks.length:=by omega
   have hto:x.fin.to=[(t:Int)]:=by
    rcases e:x.fin.to with _|⟨y,_|⟨z,l⟩⟩
    ·simp[e]at hl1
    ·simp only[e,List.getElem_cons_zero]at ht;rw[ht]
    simp[e]at hl1
   have c3:=hc3 0 bO;simp only[zB,yJ,Nat.zero_mul]at c3;have hvT:=q9 c3;obtain⟨u1,du1,u2,du2,u3,du3,hVt,hct,_,_,_,hm4⟩:=HS1.out.at htl;obtain⟨y,hye⟩:=nZ (g1.blocks[t]);rw[←hye]at hct hVt hm4;have t0:=hct 0 bO;have t1:=hct 1 bO;have t2:=hct 2 bO;have t3:=hct 3 bO;have t4:=hct 4 bO;have t5:=hct 5 bO;simp only[zB,zD,yJ]at t0 t1 t2 t3 t4 t5
   have hpK:vt g1 b=if t=b\/0<y.phis.length\/1<(insN g1 t).length then none else some t:=by
    have h1:((atF g1 b).fin.to.getD 0 0).toNat=t:=(by rw[qW hb1,←HXe.out,hto];simp);unfold vt;dsimp only;rw[h1,qW hb1,←HXe.out,qW htl,←hye]
    by_cases h:t=b\/0<y.phis.length\/1<(insN g1 t).length
    ·rw[zQ (fun a=>a.2 h),zZ h]
    rw[zZ ⟨hkd,h⟩,zQ h]
   have HTl:=q8 hto;have hT5:=q8 t5;have HL9:=q8 hl1;have h0t:0<x.fin.to.length:=(by omega);have htf:t<f.blocks.length:=(by have:=hiy.out;omega);have HYe:=q8 hye;have HVt:=q8 hVt;have hvU:=q8 hm4;have hjC:=q8 hpK;have hkI:gq<wi.heap.size:=hgz;subst hp3;clear ht hto hye hVt hm4 hpK hct hc3 hl1
   by_cases hc1:t=b
   ·have hq1:((t:Int) == (b:Int))=true:=(by simp[hc1]);have hmn:vt g1 b=none:=(by rw[hjC.out,zZ (.inl hc1)]);clear hc1;have hfin:zt (f.blocks.length+1) g b=g1:=(by rw[←hiw.out,jU hmn]);have HFin:=q8 hfin;clear hfin hmn
    go_wp2_with fail
    go_roundg (f.blocks.length - (b+1))
    case measure=>omega
    case rel=>exact⟨b+1,g1,V,L,by omega,rfl,by go_num,by rw[yt,yh,←HG.out];exact HFin.out.symm,hd9.out,HH1.out,(HS1.out.below bZ),HL1.out,(HK1.out.trans (Kept.of_below (S:=fun _=>False) bZ) (fun _ _ h=>h.elim))⟩
   have hq1:((t:Int) == (b:Int))=false:=by simp;omega
   by_cases hc2:0<y.phis.length
   ·have hmn:vt g1 b=none:=(by rw[hjC.out,zZ (.inr (.inl hc2))]);have hfin:zt (f.blocks.length+1) g b=g1:=(by rw[←hiw.out,jU hmn]);have HFin:=q8 hfin;clear hfin hmn
    go_wp2_with fail
    go_roundg (f.blocks.length - (b+1))
    case measure=>omega
    case rel=>exact⟨b+1,g1,V,L,by omega,rfl,by go_num,by rw[yt,yh,←HG.out];exact HFin.out.symm,hd9.out,HH1.out,(HS1.out.below bZ),HL1.out,(HK1.out.trans (Kept.of_below (S:=fun _=>False) bZ) (fun _ _ h=>h.elim))⟩
   have hc2':y.phis.length=0:=by omega
   have hAt:=fun(W':World) (hb:Below wi.heap.size wi W')=>show ∀i,i<g1.blocks.length->Vv W' gq 0 i ((kE g1).getD i [])from fun i hi=>by
    obtain⟨cs,T,hW⟩:=HS1.out.row;exact blkAtN hW hb i hi
   have HAt:=q8 hAt;clear hAt;have hhd:=HH1.out;obtain⟨hh1,hh2,hh3,hh4⟩:=hhd;have hvV:decide ((0:Int)<(y.phis.length:Int))=false:=(by simp[hc2']);have HC2:=q8 hc2'
   go_wp2_with fail
   have hm5:Below wi.heap.size wi (wi.alloc (.cells #[.slice u1 0 du1,.slice u2 y.list.length du2,Z y.fin.kind,.bool y.fin.onr,Z y.fin.onn,.slice u3 y.fin.to.length du3] 49)):=by exact bZ
   refine(vk f.name f.params f.regs gq 0 e1 f.blocks.length (kE g1) _ hdD (fun i hi=>HAt.out _ hm5 i (by have:=hiy.out;omega)) (fun i hi=>by
    have h1:=hd9.out.funD.toFunS.tosD i (by have:=hiy.out;omega);refine⟨h1.1,fun t ht=>?_⟩;have h2:=h1.2 t ht;have:=hiy.out
    omega)).mono ?_
   rintro e w5 ⟨⟨tf,rfl,haS⟩,hb5⟩;have hdc:=haS;rw[←hiy.out]at hdc;have hAi:=AheadIn.of hdc;obtain⟨T1,hT1⟩:=nZ ((wi.alloc (.cells #[.slice u1 0 du1,.slice u2 y.list.length du2,Z y.fin.kind,.bool y.fin.onr,Z y.fin.onn,.slice u3 y.fin.to.length du3] 49)).heap.size+1);rw[←hT1]at hAi ⊢;have hm6:Below wi.heap.size wi w5:=hm5.trans (hb5.mono bV);obtain⟨⟨_,ho6⟩,hAr⟩:=hAi;obtain⟨qa,qc,ha0,_⟩:=hAr t htl;have hY5:w5.heap[wi.heap.size]?=some (.cells #[.slice u1 0 du1,.slice u2 y.list.length du2,Z y.fin.kind,.bool y.fin.onr,Z y.fin.onn,.slice u3 y.fin.to.length du3] 49 (0,0)):=qg hb5 bV (qr rfl);have hz5:=hm6.size;have hvW:wi.heap.size<w5.heap.size:=qd hY5;have HB5:=q8 hm6;have HY5:=q8 hY5;clear haS hdc hAr hb5 hm5 hT1 hm6 hY5
   by_cases hc3:1<(insN g1 t).length
   ·have hmn:vt g1 b=none:=(by rw[hjC.out,zZ (.inr (.inr hc3))]);have hfin:zt (f.blocks.length+1) g b=g1:=(by rw[←hiw.out,jU hmn]);have HFin:=q8 hfin;clear hfin hmn
    go_wp2_with fail
    go_roundg (f.blocks.length - (b+1))
    case measure=>omega
    case rel=>exact⟨b+1,g1,V,L,by omega,rfl,by go_num,by rw[yt,yh,←HG.out];exact HFin.out.symm,hd9.out,HH1.out,(HS1.out.below HB5.out),HL1.out,(HK1.out.trans (Kept.of_below (S:=fun _=>False) HB5.out) (fun _ _ h=>h.elim))⟩
   have hms:vt g1 b=some t:=(by rw[hjC.out,zQ (by have:=HC2.out;omega)]);have m:=mayJ hd9.out hb1 hms;have M:=q8 m;have HMs:=q8 hms;clear m hms;have hg5:w5.heap[gq]?=wi.heap[gq]?:=HB5.out.block gq hkI;have b1':w5.cell? (J gq (b*6+1))=some (.slice p2 x.list.length d2):=(zN (a:=(J gq (b*6+1))) hg5).trans b1;have b1f:w5.frozen? (J gq (b*6+1))=false:=(yB (a:=(J gq (b*6+1))) hg5).trans (HGf.out _);have hF5:w5.heap[w.heap.size]?=some (.cells #[.string f.name,Z f.params,Z f.regs,.slice (some (J gq 0)) f.blocks.length e1] 38 (0,0)):=(HB5.out.block _ bO).trans HFi.out;clear fb0 fb1 fb2 fb3 ff fz;obtain⟨fb,ff⟩:=blk hF5;have fb3:=fb 3;simp only[zE,zB,zD]at fb3;have fz:=qd hF5;clear fb;have HF5:=q8 hF5;have HG5:=q8 hg5;have hS5:=HS1.out.below HB5.out;have HS5:=q8 hS5
   have hlists:x.list.length+y.list.length<=600:=by
    have h1:=V7 (f:=g1) hb1;have h2:=V7 (f:=g1) htl;have h3:=hd9.out.many;rw[←HXe.out]at h1;rw[←HYe.out]at h2;omega
   clear hF5 hg5 hS5
   go_wp2_with fail
   obtain⟨Sp,hSp⟩:∃Sp:World->Prop,Sp=fun w'=>w'.heap[gq]?=w5.heap[gq]?/\w'.heap[wi.heap.size]?=some (.cells #[.slice u1 0 du1,.slice u2 y.list.length du2,Z y.fin.kind,.bool y.fin.onr,Z y.fin.onn,.slice u3 y.fin.to.length du3] 49 (0,0)):=⟨_,rfl⟩
   have ha6:∀w',Sp w'->w'.cell? (J gq (b*6+1))=some (.slice p2 x.list.length d2)/\w'.cell? (J wi.heap.size 1)=some (.slice u2 y.list.length du2)/\wi.heap.size<w'.heap.size/\w'.frozen? (J gq (b*6+1))=false:=fun w' h=>by
    rw[hSp]at h;exact⟨(zN (a:=(J gq (b*6+1))) h.1).trans b1',(blk h.2).1 1,qd h.2,(yB (a:=(J gq (b*6+1))) h.1).trans b1f⟩
   have hS6:Sp w5.drew:=(by rw[hSp];exact⟨rfl,HY5.out⟩);have hne:t≠b:=hc1;refine qA (S:=Sp) bK 10 ?_;refine tkZ 0 54 (.pointer (some (J gq (b*6)))) rfl rfl hS6 (fun w' h=>?_) ?_
   ·obtain⟨h1,h2,h3,h4⟩:=ha6 w' h;go_simp
   refine tkZ 1 55 (.pointer (some (J gq (b*6)))) rfl rfl hS6 (fun w' h=>?_) ?_
   ·obtain⟨h1,h2,h3,h4⟩:=ha6 w' h;go_simp
   refine tkZ 2 56 (.pointer (some (J gq (b*6)))) rfl rfl hS6 (fun w' h=>?_) ?_
   ·obtain⟨h1,h2,h3,h4⟩:=ha6 w' h;go_simp
   refine tkZ 3 57 (.pointer (some (J gq (b*6+1)))) rfl rfl hS6 (fun w' h=>?_) ?_
   ·obtain⟨h1,h2,h3,h4⟩:=ha6 w' h;go_simp
   refine tkZ 4 58 (.slice p2 x.list.length d2) rfl rfl hS6 (fun w' h=>?_) ?_
   ·obtain⟨h1,h2,h3,h4⟩:=ha6 w' h;go_simp
   refine tkZ 5 59 (.pointer (some (J wi.heap.size 1))) rfl rfl hS6 (fun w' h=>?_) ?_
   ·obtain⟨h1,h2,h3,h4⟩:=ha6 w' h;go_simp
   refine tkZ 6 60 (.slice u2 y.list.length du2) rfl rfl hS6 (fun w' h=>?_) ?_
   ·obtain⟨h1,h2,h3,h4⟩:=ha6 w' h;go_simp
   have hLb:=HS5.out.lst b hb1;have hLt:=HS5.out.lst t htl;rw[←HXe.out,HVb.out]at hLb;rw[←HYe.out,HVt.out]at hLt;obtain⟨v',w8,hr,hJ⟩:=km (P:=Tryz.prog) w5.drew 42 42 51 iI _ 8 80 Tryz.underlying42 l1 l2 l3 l4 rfl (by decide) qT (hLb.sl.below qT ((zI _ w5).drew)) (hLt.sl.below qT ((zI _ w5).drew)) (HS5.out.two b t hb1 htl (Ne.symm hne)) (by unfold maxLen;omega) bO;obtain⟨Lb,hJ1,hJ2,hJ3⟩:=hJ;obtain⟨pv,cv,hv',_⟩:=hJ1.val
   have hS8:Sp w8:=by
    rw[hSp]at hS6 ⊢;exact⟨(hJ3.block _ (by show gq<w5.heap.size;omega) (fun h=>HS5.out.off b hb1 _ HGN.out h)).trans hS6.1,(hJ3.block _ (by show wi.heap.size<w5.heap.size;omega) (fun h=>by have:=(HS1.out.lst b hb1).sl.inb _ h;omega)).trans hS6.2⟩
   refine qm (i:=7) bK (qC 61 v' w8 rfl rfl rfl (Qc rfl (by go_simp) (by go_simp) hr) hS8 ?_);refine qm (i:=8) bK (qC 62 (.pointer (some (J gq (b*6)))) w8 rfl rfl rfl (by go_simp) hS8 ?_);refine qm (i:=9) bK (qC 63 (.pointer (some (J gq (b*6+1)))) w8 rfl rfl rfl (by go_simp) hS8 ?_);obtain⟨s1,s2,s3,s4⟩:=ha6 w8 hS8;have hz8:w5.heap.size<=w8.heap.size:=hJ3.size;have hg8:gq<w8.heap.size:=(by omega);subst hv';refine qm (i:=10) bK (qz (w8.setCell (J gq (b*6+1)) (.slice pv (x.list++y.list).length cv)) rfl rfl rfl (by go_simp) (fun h=>absurd rfl h) (qL bK ?_ _));show Exit.inBlock 3 _ Exit.normal _ _;have hNw:∀k,N k->k<w.heap.size:=fun k hk=>HSw.out k (HNS.out k hk);have hm7:∀k,Lb k->L b k\/L t k\/w5.heap.size<=k:=hJ2;have hpL:∀i,i<g1.blocks.length->∀k,L i k->k<w5.heap.size:=fun i hi k hk=>(HS5.out.lst i hi).sl.inb k hk;have hoff:∀i,i<g1.blocks.length->Apart N (L i):=HS5.out.off
   have hpM:Apart N Lb:=fun k h1 h2=>by
    rcases hm7 k h2 with h|h|h
    ·exact hoff b hb1 k h1 h
    ·exact hoff t htl k h1 h
    have:=hNw k h1;omega
   have heN:SlO 49 6 VX w8 (.slice (some (J gq 0)) g1.blocks.length e1) (k8 V g1.blocks) N:=(HS5.out.row.below vl ((zI _ w5).drew)).kept vl hJ3 (fun k h1 h2=>hoff b hb1 k h2 h1);have heO:=rowN_swap heN hb1 (p:=pv) (l:=(x.list++y.list).length) (k:=cv);have hpN:w8.heap[gq]?=w5.heap[gq]?:=(by rw[hSp]at hS8;exact hS8.1);have hY8:w8.heap[wi.heap.size]?=some (.cells #[.slice u1 0 du1,.slice u2 y.list.length du2,Z y.fin.kind,.bool y.fin.onr,Z y.fin.onn,.slice u3 y.fin.to.length du3] 49 (0,0)):=by rw[hSp]at hS8;exact hS8.2
   have hF8:w8.heap[w.heap.size]?=some (.cells #[.string f.name,Z f.params,Z f.regs,.slice (some (J gq 0)) f.blocks.length e1] 38 (0,0)):=(hJ3.block _ (by show w.heap.size<w5.heap.size;omega) (fun h=>by
    rcases HL1.out b hbl _ h with h|h
    ·have:=HSw.out _ h;omega
    omega)).trans HF5.out
   obtain⟨W9,hW9⟩:=nZ (w8.setCell (J gq (b*6+1)) (.slice pv (x.list++y.list).length cv));rw[←hW9]at heO ⊢;have hm8:∀k,k≠gq->W9.heap[k]?=w8.heap[k]?:=fun k hk=>by rw[hW9];exact zJ _ _ _ k hk
   have hz9:W9.heap.size=w8.heap.size:=(by rw[hW9];exact yK _ _ _);have hgw:gq<w.heap.size:=hNw gq HGN.out
   obtain⟨cur8,hiA⟩:∃cur,w8.heap[gq]?=some (.cells cur 49 (0,0)):=by
    obtain⟨g',_,_,_,hgv,_,_,_,_,_,_,_,_,hcc,_⟩:=heN.focus vl bO (i:=b) (by rw[xR];exact hb1)
    have hgg:g'=gq:=by
     injection hgv with a _ _;injection a with a;injection a with a;exact a.symm
    rw[hgg]at hcc;exact hcc
   have hP9:RowPut w8 W9 49 gq (b*6+1) 1 [.slice pv (x.list++y.list).length cv]:=by
    rw[hW9]
    exact RowPut.set (size:=1) (RowPut.same (size:=1) (cs:=[.slice p2 x.list.length d2]) hiA rfl (fun j hj=>by
     obtain rfl:j=0:=by omega
     exact s1)) rfl (j:=0) bO _
   have hc9:∀j,j≠b*6+1->W9.cell? (J gq j)=wi.cell? (J gq j):=fun j hj=>(hP9.outC bO).trans ((zN (a:=(J gq j)) hpN).trans (zN (a:=(J gq j)) HG5.out));have hc91:W9.cell? (J gq (b*6+1))=some (.slice pv (x.list++y.list).length cv):=(hP9.cell (j:=0) (show 0<1 by omega)).1
   have hiB:∃cur,W9.heap[gq]?=some (.cells cur 49 (0,0)):=by
    obtain⟨_,c',_,h2,_⟩:=hP9;exact⟨c',h2⟩
   obtain⟨hh1,hh2,hh3,hh4⟩:=HH1.out
   have hF9:W9.heap[w.heap.size]?=some (.cells #[.string g1.name,Z g1.params,Z g1.regs,.slice (some (J gq 0)) g1.blocks.length e1] 38 (0,0)):=by
    rw[hh1,hh2,hh3,hh4];exact(hm8 _ bO).trans hF8
   have hdH:∀s:Nat,(s:Int)∈(atF g1 t).fin.to->s<g1.blocks.length:=fun s hs=>by
    rw[qW htl]at hs;have:=(hd9.out.fin t htl).to _ hs;omega
   have hcon:=YI g1 hd9.out.funD t b w.heap.size gq e1 (vJ V b (.slice pv (x.list++y.list).length cv)) W9 N htl hb1 (fun s hs p hp=>by
    have hsl:=hdH s hs;rw[qW hsl]at hp;exact(hd9.out.phi s hsl p hp).len) (fun h=>by
    have h1:=ins_of (f:=g1) t t htl (by rw[xm htl,←qW htl];exact h);rw[M.out.one]at h1
    exact hne (by simpa using h1)) hF9 (fun h=>by have:=hNw _ h;omega) heO
   have hfL:=q8 hcon;have HJ1:=q8 hJ1;have HJ3:=q8 hJ3;have hpO:=q8 hm7;have htI:=q8 hpL;have hpP:=q8 hpM;have HNw:=q8 hNw;have hpQ:=q8 hm8;have HW9:=q8 hW9;have HY8:=q8 hY8;have HC9:=q8 hc9;have htJ:=q8 hc91;have hm9:=q8 hiB;have HF8:=q8 hF8;clear hcon hJ1 hJ2 hJ3 hm7 hpL hpM hNw hm8 hW9 hY8 hc9 hc91 hiB hF8 heN heO hpN hP9 hiA hF9 hdH hoff hh1 hh2 hh3 hh4 hS8 hS6 s1 s2 s3 s4 b0 b1 b2 b3 b4 b5 t0 t1 t2 t3 t4 t5 c3 ha0 b1' b1f fb3 ff
   go_wp2_with fail
   refine hfL.out.mono ?_;rintro e w10 ⟨rfl,he8,haN⟩;have haV:w10.heap[gq]?=W9.heap[gq]?:=haN.block gq bO (fun h=>h.2 rfl);have hfU:=haN.size;have hmg:w10.heap[wi.heap.size]?=some (.cells #[.slice u1 0 du1,.slice u2 y.list.length du2,Z y.fin.kind,.bool y.fin.onr,Z y.fin.onn,.slice u3 y.fin.to.length du3] 49 (0,0)):=(haN.block _ bO (fun h=>by have:=HNw.out _ h.1;omega)).trans ((hpQ.out _ bO).trans HY8.out);have hmh:w10.heap[w.heap.size]?=some (.cells #[.string f.name,Z f.params,Z f.regs,.slice (some (J gq 0)) f.blocks.length e1] 38 (0,0)):=(haN.block _ bO (fun h=>by have:=HNw.out _ h.1;omega)).trans ((hpQ.out _ bO).trans HF8.out);obtain⟨q1',d1',p2',d2',q3',d3',htK,hcb,_,_,_,_⟩:=HS1.out.at hb1;obtain⟨u1',du1',u2',du2',u3',du3',_,hct,_,_,_,_⟩:=HS1.out.at htl;rw[←HXe.out]at hcb;rw[←HYe.out]at hct;have hcF:∀j,j≠b*6+1->w10.cell? (J gq j)=wi.cell? (J gq j):=fun j hj=>(zN (a:=(J gq j)) haV).trans (HC9.out j hj);have hbt:t*6+6<=b*6\/b*6+6<=t*6:=(by omega);have a0:=(hcF (b*6) bO).trans (hcb 0 bO);have a2:=(hcF (b*6+2) bO).trans (hcb 2 bO);have a3:=(hcF (b*6+2+1) bO).trans (hcb 3 bO);have a4:=(hcF (b*6+2+2) bO).trans (hcb 4 bO);have a5:=(hcF (b*6+2+3) bO).trans (hcb 5 bO);have e0:=(hcF (t*6) bO).trans (hct 0 bO);have e2:=(hcF (t*6+1) bO).trans (hct 1 bO);have e3:=(hcF (t*6+2) bO).trans (hct 2 bO);have e4:=(hcF (t*6+3) bO).trans (hct 3 bO);have e5:=(hcF (t*6+4) bO).trans (hct 4 bO);have e6:=(hcF (t*6+5) bO).trans (hct 5 bO);simp only[zB,zD]at a0 a2 a3 a4 a5 e0 e2 e3 e4 e5 e6;obtain⟨cur10,hbP⟩:=hm9.out;rw[←haV]at hbP;have htL:∀j,w10.frozen? (J gq j)=false:=(blk hbP).2;have htM:gq<w10.heap.size:=(by omega);obtain⟨ybb,ybf⟩:=blk hmg;have y2:=ybb 2;have y3:=ybb 3;have y4:=ybb 4;have y5:=ybb 5;simp only[zE,zB,zD]at y2 y3 y4 y5;have yz:=qd hmg;obtain⟨fbb,ff⟩:=blk hmh;have fb3:=fbb 3;simp only[zE,zB,zD]at fb3;have fz10:=qd hmh;have hwg:¬ (wi.heap.size=gq):=(by omega);have hBg:¬ (w.heap.size=gq):=by omega
   have hu3:Value.slice u3' y.fin.to.length du3' = .slice u3 y.fin.to.length du3:=by
    have h1:=hT5.out;rw[hct 5 bO]at h1;exact Option.some.inj h1
   have HU9:=q8 hu3;have HA0:=q8 a0;have HE6:=q8 e6;have hiC:=q8 he8;have htN:=q8 haN;have hiD:=q8 hbP;have ha1:w10.cell? (J gq (b*6+1))=some (.slice pv (x.list++y.list).length cv):=(zN (a:=(J gq (b*6+1))) haV).trans htJ.out;have htO:=q8 ha1;have HAs:=q8 (zh a2 (zh a3 (zh a4 a5)));have HEs:=q8 (zh e0 (zh e2 (zh e3 (zh e4 e5))));clear he8 haN hcb hct hcF hmg hmh hbP ybb fbb hu3 htK haV ha1 a0;obtain⟨Wa,hWa⟩:=nZ (four w10 gq (b*6) (Z y.fin.kind) (.bool y.fin.onr) (Z y.fin.onn) (.slice u3 y.fin.to.length du3));obtain⟨Wf,hWf⟩:=nZ (six Wa gq (t*6) (.slice none 0 0) (.slice none 0 0) (Z 1) (.bool false) (Z 0) (.slice none 0 0));have HWf:=q8 (show Wf=six (four w10 gq (b*6) (Z y.fin.kind) (.bool y.fin.onr) (Z y.fin.onn) (.slice u3 y.fin.to.length du3)) gq (t*6) (.slice none 0 0) (.slice none 0 0) (Z 1) (.bool false) (Z 0) (.slice none 0 0) by rw[hWf,hWa]);have HWa:=q8 hWa;have hpR:=q8 hWf;clear hWa hWf
   go_wp2_with fail
   unfold six four at HWf;rw[←HWf.out];clear HWf;obtain⟨a2,a3,a4,a5⟩:=HAs.out;obtain⟨e0,e2,e3,e4,e5⟩:=HEs.out
   have p1:RowPut w10 Wa 49 gq (b*6) 6 [.slice q1' x.phis.length d1',.slice pv (x.list++y.list).length cv,Z y.fin.kind,.bool y.fin.onr,Z y.fin.onn,.slice u3 y.fin.to.length du3]:=by
    rw[HWa.out];refine(RowPut.same (cs:=[.slice q1' x.phis.length d1',.slice pv (x.list++y.list).length cv,Z x.fin.kind,.bool x.fin.onr,Z x.fin.onn,.slice q3' x.fin.to.length d3']) hiD.out rfl (fun j hj=>?_)).four _ _ _ _;have:j=0\/j=1\/j=2\/j=3\/j=4\/j=5:=(by omega);rcases this with rfl|rfl|rfl|rfl|rfl|rfl
    ·exact HA0.out
    ·exact htO.out
    ·exact a2
    ·exact a3
    ·exact a4
    exact a5
   have hKa:Kept (fun k=>k=gq) w10 Wa:=by rw[HWa.out];exact four_kept _ _ _ _ _ _ _
   obtain⟨cura,hmj⟩:∃cur,Wa.heap[gq]?=some (.cells cur 49 (0,0)):=by
    obtain⟨_,c',_,h2,_⟩:=p1;exact⟨c',h2⟩
   have p2:RowPut Wa Wf 49 gq (t*6) 6 [.slice none 0 0,.slice none 0 0,Z 1,.bool false,Z 0,.slice none 0 0]:=by
    rw[hpR.out];refine(RowPut.same (cs:=[.slice u1' y.phis.length du1',.slice u2' y.list.length du2',Z y.fin.kind,.bool y.fin.onr,Z y.fin.onn,.slice u3' y.fin.to.length du3']) hmj rfl (fun j hj=>?_)).six rfl _ _ _ _ _ _;rw[p1.outC bO];have:j=0\/j=1\/j=2\/j=3\/j=4\/j=5:=(by omega);rcases this with rfl|rfl|rfl|rfl|rfl|rfl
    ·exact e0
    ·exact e2
    ·exact e3
    ·exact e4
    ·exact e5
    exact HE6.out
   have hKf:Kept (fun k=>k=gq) w10 Wf:=by
    refine hKa.trans (S':=fun k=>k=gq) ?_ (fun _ _ h=>h);rw[hpR.out];exact Ky _ _ _ _ _ _ _ _ _
   have hgN:N gq:=HGN.out;have hK9:Kept (fun k=>k=gq) w8 W9:=(by rw[HW9.out];exact(Kept.refl (fun k=>k=gq) w8).setCell (p:=(J gq (b*6+1))) rfl _);have hjD:Kept N w8 w10:=(hK9.mono fun _ _ e=>by rw[e];exact hgN).trans htN.out (fun _ _ h=>h.1)
   have hpS:SlQ 51 8 80 InsO w10 (.slice pv (x.list++y.list).length cv) ((atF g1 b).list++(atF g1 t).list) Lb:=by
    rw[qW hb1,qW htl,←HXe.out,←HYe.out];refine⟨HJ1.out.kept qT hjD hpP.out,?_⟩;rw[yN];unfold reachBytes;omega
   have hlo:∀i (hi:i<g1.blocks.length),i≠b->i≠t->SlQ 51 8 80 InsO w10 (V i) g1.blocks[i].list (L i)/\Apart (L i) Lb/\Apart N (L i):=fun i hi h1 h2=>by
    refine⟨⟨(((HS5.out.lst i hi).sl.below qT ((zI _ w5).drew)).kept qT HJ3.out (fun k u v=>HS5.out.two b i hb1 hi (Ne.symm h1) k u v)).kept qT hjD (HS5.out.off i hi),(HS5.out.lst i hi).bd⟩,fun k u v=>?_,HS5.out.off i hi⟩;rcases hpO.out k v with h|h|h
    ·exact HS5.out.two i b hi hb1 h1 k u h
    ·exact HS5.out.two i t hi htl h2 k u h
    have:=htI.out i hi k u;omega
   have hv3:w10.cell? (J gq (t*6+5))=some (.slice u3 y.fin.to.length du3):=(by rw[HE6.out,HU9.out]);have hiE:y.fin=(atF g1 t).fin:=(by rw[qW htl,HYe.out]);have hJn:=ChS.joined (g:=g1) (V:=V) (L:=L) hb1 htl hne hiC.out hpS hpP.out hlo HS5.out.two HA0.out hv3 (by rw[←hiE];exact p1) p2 hKf
   have hLn:∀i,i<f.blocks.length->∀k,l2J L b t Lb i k->S k\/W1.heap.size<=k:=fun i hi k hk=>by
    unfold l2J at hk
    by_cases h1:i=t
    ·rw[zZ h1]at hk;exact hk.elim
    rw[zQ h1]at hk
    by_cases h2:i=b
    ·rw[zZ h2]at hk;rcases hpO.out k hk with h|h|h
     ·exact HL1.out b hbl k h
     ·exact HL1.out t htf k h
     right;omega
    rw[zQ h2]at hk;exact HL1.out i hi k hk
   have hKn:Kept S W1 Wf:=by
    have h1:Kept S W1 w8:=(HK1.out.trans (Kept.of_below (S:=fun _=>False) HB5.out) (fun _ _ h=>h.elim)).drew.trans HJ3.out (fun k hk h=>(HL1.out b hbl k h).elim id (fun h=>by omega));exact(h1.trans hjD (fun k _ h=>HNS.out k h)).trans hKf (fun k _ e=>by rw[e];exact HNS.out gq hgN)
   have hjj:=Xs M.out (by rw[qW hb1,←HXe.out];exact hkd);have hcj:=HJc.out;obtain⟨c',rfl⟩:∃c',c=c'+1:=⟨c - 1,by omega⟩
   have hpT:zt c' (xX g1 b t) b=zt (f.blocks.length+1) g b:=by
    rw[←hiw.out];show _=(match vt g1 b with|none=>g1|some t=>zt c' (xX g1 b t) b);rw[HMs.out]
   have hjl:(xX g1 b t).blocks.length=g1.blocks.length:=qX g1 b t;have ha7:=q8 (zh hJn (zh hLn (zh hKn hpT)));clear hJn hLn hKn hpT p1 p2 hKa hKf hK9 hjD hpS hlo hv3 hiE a2 a3 a4 a5 e0 e2 e3 e4 e5
   go_roundg (Q6 (xX g1 b t))
   case measure=>omega
   case rel=>exact⟨xX g1 b t,_,_,c',rfl,by omega,ha7.out.2.2.2,hd9.out.join M.out,HH1.out.join b t,ha7.out.1,ha7.out.2.1,ha7.out.2.2.1⟩


theorem K1 (f:FunL):(zM f).name=f.name/\(zM f).params=f.params/\(zM f).regs=f.regs/\(zM f).blocks.length=f.blocks.length:=by
 have hc:∀(c:Nat) (f:FunL) (b:Nat),HeadLike (zt c f b) f:=by
  intro c
  induction c with
  | zero=>intro f b;exact⟨rfl,rfl,rfl,rfl⟩
  | succ c ih=>
   intro f b;unfold zt;cases vt f b with
   | none=>exact⟨rfl,rfl,rfl,rfl⟩
   | some t=>
    obtain⟨h1,h2,h3,h4⟩:=ih (xX f b t) b;exact⟨h1,h2,h3,by rw[h4,qX]⟩
 unfold zM
 have key:∀(l:List Nat) (g:FunL) (c:Nat),HeadLike g f->HeadLike (l.foldl (fun g b=>zt c g b) g) f:=by
  intro l
  induction l with
  | nil=>intro g c h;exact h
  | cons b l ih=>
   intro g c h;obtain⟨a1,a2,a3,a4⟩:=hc c g b;exact ih _ c ⟨a1.trans h.1,a2.trans h.2.1,a3.trans h.2.2.1,a4.trans h.2.2.2⟩
 exact key _ f _ ⟨rfl,rfl,rfl,rfl⟩

theorem doOf_any {nf:Nat} {P:Nat->Int} (f:FunL) (hC:FunC nf P f) (q:Option Addr) (e1:Nat) (w:World) (S:Blks) (hF:FunO w [.string f.name,Z f.params,Z f.regs,.slice q f.blocks.length e1] f S) :
  Calls Tryz.prog 32 #[.agg #[.string f.name,Z f.params,Z f.regs,.slice q f.blocks.length e1]] w fun e w'=>∃p c S',e = .returned (.agg #[.string f.name,Z f.params,Z (doT f).regs,.slice p (doT f).blocks.length c])/\
   FunO w' [.string f.name,Z f.params,Z (doT f).regs,.slice p (doT f).blocks.length c] (doT f) S'/\(∀g,S' g->S g\/w.heap.size<=g)/\Kept S w w':=by
 have hn0:=hC.n1;have hdD:=hC.n40;obtain⟨v0,hbE,hnm,i1,i2,hB⟩:=hF;have hv0:v0 = .slice q f.blocks.length e1:=by simpa using hbE.symm
 subst hv0;obtain⟨gq,cq,_,_,hvq,_⟩:=hB.sl.focus qM bO hn0;have hq:q=some (J gq 0):=by injection hvq
 subst hq;have hread:=hB.read (R':=BlkR w) qM bO fun _ _ _ h=>h.read
 have hRd:SliceAt w 6 (BlkR w) (some (J gq 0)) f.blocks:=by
  obtain⟨p,c,e,_,_,h⟩:=hread.outC;cases e;exact h
 have hSb:=hB.sl.inb;have HC:=q8 hC;have HB:=q8 hB;have HRd:=q8 hRd;have HSb:=q8 hSb;have HN:=q8 (zh hnm (zh i1 i2));clear hC hB hread hRd hSb hnm i1 i2 hbE hvq
 go_enter Tryz.func32,Tryz.ntmps32
 go_wp2_with fail
 obtain⟨W0,hW0⟩:=nZ ((w.alloc (.cells #[.string f.name,Z f.params,Z f.regs,.slice (some (J gq 0)) f.blocks.length e1] 38)).alloc (.cells #[.string { data:=#[] },Z 0,Z 0,.slice none 0 0] 38));rw[←hW0];have hz0:W0.heap.size=w.heap.size+1+1:=by rw[hW0];simp
 have hb0:Below w.heap.size w W0:=by rw[hW0];exact bZ
 have hF0:W0.heap[w.heap.size]?=some (.cells #[.string f.name,Z f.params,Z f.regs,.slice (some (J gq 0)) f.blocks.length e1] 38 (0,0)):=by rw[hW0];exact qh (qr rfl)
 have hZ0:W0.heap[w.heap.size+1]?=some (.cells #[.string { data:=#[] },Z 0,Z 0,.slice none 0 0] 38 (0,0)):=by rw[hW0];exact qr bV
 have HB0:=q8 hb0;clear hW0 hb0;obtain⟨Sp,hSp⟩:∃Sp:World->Prop,Sp=fun w'=>w'.heap[w.heap.size]?=some (.cells #[.string f.name,Z f.params,Z f.regs,.slice (some (J gq 0)) f.blocks.length e1] 38 (0,0))/\w'.heap[w.heap.size+1]?=some (.cells #[.string { data:=#[] },Z 0,Z 0,.slice none 0 0] 38 (0,0)):=⟨_,rfl⟩
 have ha6:∀w',Sp w'->(∀i,w'.cell? (J w.heap.size i)=(#[.string f.name,Z f.params,Z f.regs,.slice (some (J gq 0)) f.blocks.length e1]:Array Value)[i]?)/\w.heap.size<w'.heap.size:=fun w' h=>by
  rw[hSp]at h;exact⟨(blk h.1).1,qd h.1⟩
 have hS0:Sp W0.drew:=by rw[hSp];exact⟨hF0,hZ0⟩
 refine qA (S:=Sp) bK 6 ?_;refine tkZ 0 3 (.agg #[.string f.name,Z f.params,Z f.regs,.slice (some (J gq 0)) f.blocks.length e1]) rfl rfl hS0 (fun w' h=>?_) ?_
 ·obtain⟨h1,h2⟩:=ha6 w' h;have g0:=h1 0;have g1:=h1 1;have g2:=h1 2;have g3:=h1 3;clear h1;simp only[zE,zB,zD]at g0 g1 g2 g3;go_simp
 refine tkZ 1 4 (.agg #[.string f.name,Z f.params,Z f.regs,.slice (some (J gq 0)) f.blocks.length e1]) rfl rfl hS0 (fun w' h=>?_) ?_
 ·obtain⟨h1,h2⟩:=ha6 w' h;have g0:=h1 0;have g1:=h1 1;have g2:=h1 2;have g3:=h1 3;clear h1;simp only[zE,zB,zD]at g0 g1 g2 g3;go_simp
 have hO:=HC.out.funD.toFunS.ord;have hint:jR f.blocks=(jW f.blocks).map fun i:Nat=>(i:Int):=hO.ints;have hpl:(ko f.blocks).length<=1000000:=HC.out.funD.toFunS.postLen;refine qm (i:=2) bK (qt 5 rfl rfl rfl (by go_simp) (ZB f (some (J gq 0)) e1 W0.drew hn0 bO HC.out.funD.two HC.out.funD.toFunS.tosB (jY HRd.out HB0.out.drew) hpl) ?_);rintro e w1 ⟨vo,rfl,hOw,hb1⟩;rw[hint,yT]at hOw;have ho:=HC.out.funD.toFunS.ordC;obtain⟨o,hoe⟩:=nZ (jW f.blocks);rw[←hoe]at ho hOw;have hop:=ho.pos.1;obtain⟨po,co,rfl⟩:=vB hOw;obtain⟨go,rfl,hjx,hez,_⟩:=Qm hOw hop
 have hoc:∀i (h:i<o.length),w1.cell? (J go i)=some (Z (o[i]:Nat)):=fun i h=>by
  obtain⟨g',e,_,_,hc⟩:=Qm hOw h;cases e;rw[hc];simp[h]
 have hco:o.length<=co:=by
  rcases hOw.2 with⟨h1,_⟩|⟨_,_,_,h1,_,_,h2,_⟩
  ·cases h1
  cases h1;exact h2
 have hb1':Below W0.heap.size W0 w1:=(zI _ W0).drew.trans hb1;have hhR:W0.heap.size<=go:=hjx;have hS1:Sp w1:=by rw[hSp];exact⟨(hb1'.block _ bO).trans hF0,(hb1'.block _ bO).trans hZ0⟩
 refine⟨_,rfl,hS1,?_⟩;have heC:Below w.heap.size w w1:=HB0.out.trans (hb1'.mono bO);have hz1:=hb1'.size;have hFO:FunO w1 [.string f.name,Z f.params,Z f.regs,.slice (some (J gq 0)) f.blocks.length e1] f S:=⟨_,rfl,HN.out.1,HN.out.2.1,HN.out.2.2,⟨HB.out.sl.below qM heC,HB.out.bd⟩⟩;refine qm (i:=3) bK (qt 6 rfl rfl rfl (by go_simp) (KY f HC.out o ho (some (J gq 0)) e1 go co w1 S hFO hez (fun h=>by have:=HSb.out go h;omega) hoc hco) ?_);rintro e w2 ⟨p2,c2,S2,rfl,hF2,hS2,hK2⟩;obtain⟨g,hge⟩:=nZ (zX o f);have hgT:g=Qy f:=by rw[hge,hoe];rfl
 rw[←hge]at hF2 ⊢;have hCg:FunC nf P g:=by rw[hgT];exact HC.out.order
 have hh1:g.name=f.name/\g.params=f.params/\g.regs=f.regs:=by rw[hge];exact⟨rfl,rfl,rfl⟩
 have hSn:∀k,S k->k<w.heap.size:=HSb.out
 have he5:Sp w2:=by
  rw[hSp]at hS1 ⊢;exact⟨(hK2.block _ bO (fun h=>by have:=hSn _ h;omega)).trans hS1.1,(hK2.block _ bO (fun h=>by have:=hSn _ h;omega)).trans hS1.2⟩
 refine⟨_,rfl,he5,?_⟩;clear hge;have hz2:=hK2.size;have hch:=YK g hCg p2 c2 w2 S2 (by rw[hh1.1,hh1.2.1,hh1.2.2];exact hF2);rw[hh1.1,hh1.2.1,hh1.2.2]at hch;refine qm (i:=4) bK (qt 7 rfl rfl rfl (by go_simp) hch ?_);rintro e w3 ⟨p3,c3,S3,rfl,hF3,hS3,hK3⟩;have hmA:∀k,S2 k->S k\/w1.heap.size<=k:=hS2
 have hjE:Sp w3:=by
  rw[hSp]at he5 ⊢
  have hn:∀k,S2 k->k≠w.heap.size/\k≠w.heap.size+1:=fun k hk=>by
   rcases hmA k hk with h|h
   ·have:=hSn _ h;omega
   omega
  exact⟨(hK3.block _ bO (fun h=>(hn _ h).1 rfl)).trans he5.1,(hK3.block _ bO (fun h=>(hn _ h).2 rfl)).trans he5.2⟩
 refine⟨_,rfl,hjE,?_⟩;have hz3:=hK3.size;obtain⟨h,hhe⟩:=nZ (zM g);have heP:=K1 g;rw[←hhe]at hF3 heP;have hCh:FunC nf P h:=by rw[hhe];exact hCg.chains
 have hh2:h.name=f.name/\h.params=f.params/\h.regs=f.regs:=⟨heP.1.trans hh1.1,heP.2.1.trans hh1.2.1,heP.2.2.1.trans hh1.2.2⟩;have hnm:=names_any h hCh p3 c3 w3 S3 (by rw[hh2.1,hh2.2.1,hh2.2.2,heP.2.2.2];exact hF3);rw[hh2.1,hh2.2.1,hh2.2.2,heP.2.2.2]at hnm;have hdo:jH h=doT f:=by rw[hhe,hgT];rfl
 rw[hdo]at hnm;refine qm (i:=5) bK (qt 8 rfl rfl rfl (by go_simp) hnm ?_);rintro e w4 ⟨p4,c4,S4,rfl,hF4,hS4,hK4⟩
 have hg6:∀k,S3 k->S k\/w1.heap.size<=k:=fun k hk=>by
  rcases hS3 k hk with a|a
  ·exact hmA k a
  omega
 have hmB:Sp w4:=by
  rw[hSp]at hjE ⊢
  have hn:∀k,S3 k->k≠w.heap.size/\k≠w.heap.size+1:=fun k hk=>by
   rcases hg6 k hk with h|h
   ·have:=hSn _ h;omega
   omega
  exact⟨(hK4.block _ bO (fun h=>(hn _ h).1 rfl)).trans hjE.1,(hK4.block _ bO (fun h=>(hn _ h).2 rfl)).trans hjE.2⟩
 refine⟨_,rfl,hmB,?_⟩;have hz4:=hK4.size
 have hZ4:w4.heap[w.heap.size+1]?=some (.cells #[.string { data:=#[] },Z 0,Z 0,.slice none 0 0] 38 (0,0)):=by
  rw[hSp]at hmB;exact hmB.2
 obtain⟨yb,yf⟩:=blk hZ4;have yb0:=yb 0;have yb1:=yb 1;have yb2:=yb 2;have yb3:=yb 3;simp only[zE,zB,zD]at yb0 yb1 yb2 yb3;have yz:=qd hZ4;clear yb;refine qm (i:=6) bK (qz ((((w4.setCell (J (w.heap.size+1) 0) (.string f.name)).setCell (J (w.heap.size+1) 1) (Z f.params)).setCell (J (w.heap.size+1) 2) (Z (doT f).regs)).setCell (J (w.heap.size+1) 3) (.slice p4 (doT f).blocks.length c4)) rfl rfl rfl (by go_simp) (fun h=>absurd rfl h) (qL bK ?_ _));show calm _ Exit.normal _ _;obtain⟨WF,hWF⟩:=nZ ((((w4.setCell (J (w.heap.size+1) 0) (.string f.name)).setCell (J (w.heap.size+1) 1) (Z f.params)).setCell (J (w.heap.size+1) 2) (Z (doT f).regs)).setCell (J (w.heap.size+1) 3) (.slice p4 (doT f).blocks.length c4));rw[←hWF]
 have hK:Kept (fun k=>k=w.heap.size+1) w4 WF:=by
  rw[hWF];have h0:Kept (fun k=>k=w.heap.size+1) w4 w4:=Kept.refl _ _;have h1:=h0.setCell (p:=(J (w.heap.size+1) 0)) rfl (.string f.name);have h2:=h1.setCell (p:=(J (w.heap.size+1) 1)) rfl (Z f.params);have h3:=h2.setCell (p:=(J (w.heap.size+1) 2)) rfl (Z (doT f).regs);exact h3.setCell (p:=(J (w.heap.size+1) 3)) rfl (.slice p4 (doT f).blocks.length c4)
 have hRF:WF.heap[w.heap.size+1]?=some (.cells #[.string f.name,Z f.params,Z (doT f).regs,.slice p4 (doT f).blocks.length c4] 38 (0,0)):=by
  rw[hWF,qj (qj (qj (qj hZ4 0 _) 1 _) 2 _) 3 _];rfl
 have hpU:∀k,S4 k->S k\/w1.heap.size<=k:=fun k hk=>by
  rcases hS4 k hk with a|a
  ·exact hg6 k a
  omega
 have hfun:FunO WF [.string f.name,Z f.params,Z (doT f).regs,.slice p4 (doT f).blocks.length c4] (doT f) S4:=by
  obtain⟨v4,hpV,a1,a2,a3,hB4⟩:=hF4
  have hv4:v4 = .slice p4 (doT f).blocks.length c4:=by
   have h:=hpV.symm;simp at h;exact h.2.2
  subst hv4
  exact⟨_,hpV,a1,a2,a3,⟨hB4.sl.kept qM hK (fun k b1 b2=>by
   rcases hpU k b2 with a|a
   ·have:=hSn _ a;omega
   omega),hB4.bd⟩⟩
 have hkw:Kept S w WF:=by
  have h1:Kept S w w1:=Kept.of_below heC;have h2:Kept S w w2:=h1.trans hK2 (fun k _ h=>h);have h3:Kept S w w3:=h2.trans hK3 (fun k hk h=>(hmA k h).elim id (fun a=>by omega));have h4:Kept S w w4:=h3.trans hK4 (fun k hk h=>(hg6 k h).elim id (fun a=>by omega));exact h4.trans hK (fun k hk h=>by omega)
 have hs4:∀k,S4 k->S k\/w.heap.size<=k:=fun k hk=>(hpU k hk).imp id (fun a=>by omega);obtain⟨rb,_⟩:=blk hRF;have rb0:=rb 0;have rb1:=rb 1;have rb2:=rb 2;have rb3:=rb 3;simp only[zE,zB,zD]at rb0 rb1 rb2 rb3;have htP:=q8 hfun;have HKw:=q8 hkw;have HS4:=q8 hs4;clear hWF hK hRF hfun hkw hs4 hF4 hK4 hS4 hnm heP hh2 hdo hhe hch hF3 hK3 hF2 hK2 hgT hh1 hFO hoe hint hO yb0 yb1 yb2 yb3 yf hSp ha6;simp only[calm]
 go_wp2_with fail
 refine zk (v:=.agg #[.string f.name,Z f.params,Z (doT f).regs,.slice p4 (doT f).blocks.length c4]) ?_ rfl ⟨p4,c4,S4,rfl,htP.out,HS4.out,HKw.out⟩;simp[results,Tryz.results32,go_sem,rb0,rb1,rb2,rb3]
end Go.Proofs.YtgjjhadbjmcnpaaGreatDoor
namespace Go.Proofs.YtgjjhadbjmcnpaaGreatDoor
open Go.RowKit

def YX (f:FunL) (k:Nat):Nat:=((f.blocks.take k).map fun b=>b.phis.length+b.list.length).sum
theorem V9 {f:FunL} {k:Nat} (h:k<f.blocks.length):YX f (k+1)=YX f k+(f.blocks[k].phis.length+f.blocks[k].list.length):=by
 unfold YX;rw[yA h,yW,List.sum_append];simp
theorem sumK_le {f:FunL}:∀k,k<=f.blocks.length->YX f k<=xu f:=fun k hk=>by
 have h1:∀j,k+j<=f.blocks.length->YX f k<=YX f (k+j):=by
  intro j
  induction j with
  | zero=>intro _;exact zK _
  | succ j ih=>
   intro hj;have:=ih bO;rw[←Nat.add_assoc,V9 bO];omega
 have h2:=h1 (f.blocks.length - k) bO;rw[Nat.add_sub_cancel' hk]at h2;have h3:YX f f.blocks.length=xu f:=by unfold YX xu;rw[yP]
 omega

theorem large_no (f:FunL) (bp:Option Addr) (bc:Nat) (w:World) (hn:f.blocks.length<=40) (hm:xu f<=300) (hr:f.regs<=100) (hB:SliceAt w 6 (BlkR w) bp f.blocks) :
  Calls Tryz.prog 64 #[.agg #[.string f.name,Z f.params,Z f.regs,.slice bp f.blocks.length bc]] w fun e w'=>e = .returned (.bool false)/\Below w.heap.size w w':=by
 have HB:=q8 hB;clear hB
 go_enter Tryz.func64,Tryz.ntmps64
 go_wp2
 go_loopw [3,9] (fun n i wr=>∃k:Nat,k<=f.blocks.length/\i=Z k/\n=Z (YX f k:Nat)/\Below (w.heap.size+1) (w.alloc (.cells #[.string f.name,Z f.params,Z f.regs,.slice bp f.blocks.length bc] 38)) wr) (fun _ i _=>f.blocks.length - (intOf i).toNat)
 case atStart=>exact⟨0,by omega,rfl,by simp[YX],zI _ _⟩
 case round=>
  obtain⟨k,hk,rfl,rfl,hb⟩:=hrel;have HBx:Hid (Below w.heap.size w wr):=((zI _ _).alloc (zK _) _).trans (hb.mono bO);have hF:=qg hb bO (qB w _);obtain⟨hcc,hcf⟩:=blk hF;have zf:=(yL.1 hF).1;have HBb:=q8 hb;have hmk:=sumK_le k hk;clear hb
  by_cases hlt:k<f.blocks.length
  ·obtain⟨bb,bo,pp,pc,lp,lc,tp,tc,hbp,b0,b1,b2,b3,b4,b5,_,_,_,hll,htl,_,_,_⟩:=vw HB.out HBx.out hlt;subst hbp;have zb:=q9 b0;have hs:=V9 hlt;have hms:=sumK_le (k+1) hlt;have HS:=q8 hs;have gk0:(0:Int)<=(k:Int):=(by omega);have gk1:(k:Int)<f.blocks.length:=(by omega);have hp1:f.blocks[k].phis.length<=1000:=(by omega);have hp2:f.blocks[k].list.length<=1000:=(by omega);clear hs hF
   go_wp2
   refine⟨⟨k+1,by omega,by go_num,?_,?_⟩,by simp[intOf];omega⟩
   ·rw[HS.out];congr 1
   exact HBb.out.alloc (by have:=HBb.out.size;simp at this ⊢;omega) _
  obtain rfl:k=f.blocks.length:=by omega
  have h3:YX f f.blocks.length=xu f:=by unfold YX xu;rw[yP]
  rw[h3];have d1:decide ((40:Int)<(f.blocks.length:Int))=false:=by rw[xA];omega
  have d2:decide ((300:Int)<(xu f:Int))=false:=by rw[xA];omega
  have d3:decide ((100:Int)<f.regs)=false:=by rw[xA];omega
  have cc2:=hcc 2;have cc3:=hcc 3;simp only[zE,zB,zD]at cc2 cc3;clear hcc hF h3 hmk
  go_wp2
  go_ret
  exact⟨rfl,HBx.out⟩
end Go.Proofs.YtgjjhadbjmcnpaaGreatDoor
namespace Go.Proofs.YtgjjhadbjmcnpaaGreatDoor
open Go.RowKit Go.Shelf

theorem Jc (u:UniL) (hu:ChkOk u) (q1 q2:Option Addr) (e1 e2:Nat) (w:World) (hG:SlF w 3 48 (GloR w) (.slice q1 u.globals.length e1) u.globals) (hF:SlF w 4 56 (FunR w) (.slice q2 u.funcs.length e2) u.funcs) :
  Calls Tryz.prog 31 #[.agg #[.slice q1 u.globals.length e1,.slice q2 u.funcs.length e2],.func (.func 32) #[] #[]] w fun e w'=>(∃p1 c1 p2 c2,e = .returned (.tuple #[.agg #[.slice p1 u.globals.length c1,.slice p2 u.funcs.length c2],.agg #[Z 0,Z 0]])/\
   ∃S,UniO w' [.slice p1 u.globals.length c1,.slice p2 u.funcs.length c2] (qI u) S/\LoB w.heap.size S)/\Below w.heap.size w w':=by
 have hlg:u.globals.length*48<=140737488351232:=hG.bdC;have hlf:u.funcs.length*56<=140737488351232:=hF.bdC
 have hq1:q1=none->u.globals.length=0/\e1=0:=by
  obtain⟨p,c,e,h,_⟩:=hG.outC;cases e;exact h
 have hq2:q2=none->u.funcs.length=0/\e2=0:=by
  obtain⟨p,c,e,h,_⟩:=hF.outC;cases e;exact h
 have hGs:SliceAt w 3 (GloR w) q1 u.globals:=by
  obtain⟨p,c,e,_,_,h⟩:=hG.outC;cases e;exact h
 have hFs:SliceAt w 4 (FunR w) q2 u.funcs:=by
  obtain⟨p,c,e,_,_,h⟩:=hF.outC;cases e;exact h
 have HGs:=q8 hGs;have HFs:=q8 hFs;have HQ1:=q8 hq1;have HQ2:=q8 hq2;have HU:=q8 hu;have HBd:=q8 (zh hG.bdC hF.bdC);clear hG hF hGs hFs hq1 hq2 hu
 go_enter Tryz.func31,Tryz.ntmps31
 go_wp2_with fail
 refine(Yu (R:=GloR w) glo_one u.globals q1 e1 _ (HGs.out.mono bZ bO fun _ _ g=>g) HQ1.out HBd.out.1).mono ?_;rintro e w1 ⟨p1,c1,rfl,⟨S1,hS1,hL1⟩,hb1⟩;have hU1:w1.heap[w.heap.size]?=some (.cells #[.slice q1 u.globals.length e1,.slice q2 u.funcs.length e2] 25 (0,0)):=qg hb1 bW (qh (qh (qr rfl)));have hA1:w1.heap[w.heap.size+1]?=some (.cells #[.slice none 0 0,.slice none 0 0] 25 (0,0)):=qg hb1 bV (qh (qr bV));have hE1:w1.heap[w.heap.size+1+1]?=some (.cells #[Z 0,Z 0] 27 (0,0)):=qg hb1 bV (qr bV);obtain⟨rb,rf⟩:=blk hU1;have rz:=qd hU1;have HS1:=q8 hS1;have HL1:=q8 (show ∀k,S1 k->w.heap.size+1+1+1<=k from fun k h=>by have:=hL1 k h;simpa using this);have HB1:=q8 (show Below w.heap.size w w1 from yo bZ (hb1.mono bW));have HU1:=q8 hU1;have HA1:=q8 hA1;have HE1:=q8 hE1;clear hS1 hL1 hb1 hU1 hA1 hE1
 go_wp2_with fail
 obtain⟨W1,hW1⟩:=nZ (w1.setCell (J w.heap.size 0) (.slice p1 u.globals.length c1));rw[←hW1];have hz0:W1.heap.size=w1.heap.size:=by rw[hW1];exact yK _ _ _
 have hU2:W1.heap[w.heap.size]?=some (.cells #[.slice p1 u.globals.length c1,.slice q2 u.funcs.length e2] 25 (0,0)):=by
  rw[hW1,qj HU1.out 0 _];rfl
 have hA2:W1.heap[w.heap.size+1]?=some (.cells #[.slice none 0 0,.slice none 0 0] 25 (0,0)):=by
  rw[hW1,zJ _ _ _ _ (by show w.heap.size+1≠w.heap.size;omega)];exact HA1.out
 have hE2:W1.heap[w.heap.size+1+1]?=some (.cells #[Z 0,Z 0] 27 (0,0)):=by
  rw[hW1,zJ _ _ _ _ (by show w.heap.size+1+1≠w.heap.size;omega)];exact HE1.out
 have hb2:Below w.heap.size w W1:=by rw[hW1];exact HB1.out.setCell (zK _) _
 have hS2:SlO 61 3 (jB GloO (GloR w)) W1 (.slice p1 u.globals.length c1) (jG 0 u.globals) S1:=by
  refine(HS1.out.sl.loc (w':=W1) (JM _) (fun k hk=>?_) bO).flag0;rw[hW1];exact zJ _ _ _ _ (by have:=HL1.out k hk;show k≠w.heap.size;omega)
 have HU2:=q8 hU2;have HA2:=q8 hA2;have HE2:=q8 hE2;have HB2:=q8 hb2;have HS2:=q8 hS2;have hz1:w.heap.size+1+1+1<=W1.heap.size:=qd hE2;clear hU2 hA2 hE2 hb2 hS2 hW1 HS1 HB1 HU1 HA1 HE1 rb rf rz
 go_loopg [17] u.globals.length (fun q s17 wr=>∃(k:Nat) (S:Blks),k<=u.globals.length/\q=u.globals.length - k/\s17=Z k/\SlO 61 3 (jB GloO (GloR w)) wr (.slice p1 u.globals.length c1) (jG k u.globals) S/\(∀g,S g->w.heap.size+1+1+1<=g)/\Below (w.heap.size+1+1+1) W1 wr)
 case atStart=>exact⟨0,S1,by omega,rfl,rfl,HS2.out,HL1.out,zI _ _⟩
 case round=>
  obtain⟨wo,hwo⟩:=nZ wr;subst hwo;obtain⟨k,S,hk,rfl,rfl,hO,hL,hb⟩:=hrel;have HO:=q8 hO;have HL:=q8 hL;have HB:=q8 hb;have hsz:=hb.size;have HBw:Hid (Below w.heap.size w wo):=q8 (HB2.out.trans (hb.mono bO));have hUr:wo.heap[w.heap.size]?=some (.cells #[.slice p1 u.globals.length c1,.slice q2 u.funcs.length e2] 25 (0,0)):=(hb.block _ bO).trans HU2.out;have HUr:=q8 hUr;obtain⟨ub,uf⟩:=blk hUr;have uz:=qd hUr;clear hO hL hb hUr
  by_cases hlt:k<u.globals.length
  ·have hlt':k<(jG k u.globals).length:=(by rw[jQ];exact hlt);obtain⟨g,cc,cs,T,hv,hg,hSg,hcl,hx,hTg,hTS,hce,hfz,⟨cur,hay⟩,put⟩:=HO.out.focus (Zy xl _) bO hlt';rw[vd hlt']at hx;unfold jB at hx;rw[zQ bV]at hx;obtain⟨v1,rfl,b3,b4,b5⟩:=(show GloR w cs u.globals[k]from hx);obtain⟨qi,di,rfl,a1,_,z1⟩:=b5.outC;have hp:p1=some (J g 0):=(by injection hv);subst hp;have c0:=hce 0 bO;have c1':=hce 1 bO;have c2':=hce 2 bO;simp only[zB,zD,yJ]at c0 c1' c2';have HR:=q8 (zh b3 (zh b4 (zh a1 (zh b5.bdC z1))));have haA:=q8 put;have HT:=q8 (zh hTg hTS);have hee:=q8 hay;have HCe:=q8 hce;have HFz:=q8 hfz;have hgl:w.heap.size+1+1+1<=g:=HL.out g hSg;clear hv hx b3 b4 b5 a1 z1 put hTg hTS hay hcl hce hSg
   go_wp2_with fail
   obtain⟨w3,hw3⟩:=nZ (wo.alloc (.cells #[.string u.globals[k].name,Z u.globals[k].size,.slice qi u.globals[k].init.length di] 61));rw[←hw3];have hz4:w3.heap.size=wo.heap.size+1:=(by rw[hw3];simp);have hb4:Below wo.heap.size wo w3:=(by rw[hw3];exact bZ);have hX4:w3.heap[w.heap.size]?=some (.cells #[.slice (some (J g 0)) u.globals.length c1,.slice q2 u.funcs.length e2] 25 (0,0)):=(hb4.block _ (qd HUr.out)).trans HUr.out;have hY4:w3.heap[wo.heap.size]?=some (.cells #[.string u.globals[k].name,Z u.globals[k].size,.slice qi u.globals[k].init.length di] 61 (0,0)):=(by rw[hw3];exact qr rfl);have HB4:=q8 hb4;clear hw3 hb4 c0 c1' c2' hfz ub uf uz;obtain⟨Sp,hSp⟩:∃Sp:World->Prop,Sp=fun w'=>w'.heap[w.heap.size]?=some (.cells #[.slice (some (J g 0)) u.globals.length c1,.slice q2 u.funcs.length e2] 25 (0,0))/\w'.heap[wo.heap.size]?=some (.cells #[.string u.globals[k].name,Z u.globals[k].size,.slice qi u.globals[k].init.length di] 61 (0,0)):=⟨_,rfl⟩
   have ha6:∀w',Sp w'->w'.cell? (J w.heap.size 0)=some (.slice (some (J g 0)) u.globals.length c1)/\w'.cell? (J wo.heap.size 2)=some (.slice qi u.globals[k].init.length di)/\w.heap.size<w'.heap.size/\wo.heap.size<w'.heap.size:=fun w' h=>by
    rw[hSp]at h;exact⟨(blk h.1).1 0,(blk h.2).1 2,qd h.1,qd h.2⟩
   have hS4:Sp w3.drew:=(by rw[hSp];exact⟨hX4,hY4⟩);refine qA (S:=Sp) bK 8 ?_;refine tkZ 0 22 (.pointer (some (J w.heap.size 0))) rfl rfl hS4 (fun w' h=>?_) ?_
   ·obtain⟨h1,h2,h3,h4⟩:=ha6 w' h
    skip
    go_simp
   refine tkZ 1 23 (.slice (some (J g 0)) u.globals.length c1) rfl rfl hS4 (fun w' h=>?_) ?_
   ·obtain⟨h1,h2,h3,h4⟩:=ha6 w' h
    skip
    go_simp
   refine tkZ 2 24 (Z k) rfl rfl hS4 (fun w' h=>?_) ?_
   ·obtain⟨h1,h2,h3,h4⟩:=ha6 w' h
    skip
    go_simp
   refine tkZ 3 25 (.pointer (some (J wo.heap.size 2))) rfl rfl hS4 (fun w' h=>?_) ?_
   ·obtain⟨h1,h2,h3,h4⟩:=ha6 w' h
    skip
    go_simp
   refine tkZ 4 26 (.slice qi u.globals[k].init.length di) rfl rfl hS4 (fun w' h=>?_) ?_
   ·obtain⟨h1,h2,h3,h4⟩:=ha6 w' h
    skip
    go_simp
   refine qm (i:=5) bK (qt 27 rfl rfl rfl (by go_simp) (kJ u.globals[k].init qi di w3.drew (HR.out.2.2.2.2.mono ((HBw.out.trans (HB4.out.mono bO)).drew) bO fun _ _ g=>g) HR.out.2.2.1 HR.out.2.2.2.1) ?_);rintro e w5 ⟨pe,me,rfl,⟨Se,hSe,hLe⟩,hb5⟩;have hb5:Below w3.heap.size w3 w5:=(zI _ w3).drew.trans hb5;have hLe:∀k,Se k->w3.heap.size<=k:=hLe
   have hbJ:Sp w5:=by
    rw[hSp];exact⟨(hb5.block _ (qd hX4)).trans hX4,(hb5.block _ (qd hY4)).trans hY4⟩
   refine⟨_,rfl,hbJ,?_⟩;have hz5:=hb5.size;have HSe:=q8 hSe;have HLe:=q8 hLe;have HB5:=q8 (HB4.out.trans (hb5.mono bO));clear hSe hLe hb5;refine qm (i:=6) bK (qC 28 (.pointer (some (J g (k*3)))) w5 rfl rfl rfl (by go_simp) hbJ ?_);refine qm (i:=7) bK (qC 29 (.pointer (some (J g (k*3+2)))) w5 rfl rfl rfl (by go_simp) hbJ ?_);have r1:w5.cell? (J g (k*3+2))=some (.slice qi u.globals[k].init.length di):=(zN (a:=(J g (k*3+2))) (HB5.out.block g hg)).trans (HCe.out 2 bO);have r2:w5.frozen? (J g (k*3+2))=false:=(yB (a:=(J g (k*3+2))) (HB5.out.block g hg)).trans (HFz.out _);have r3:g<w5.heap.size:=(by omega);refine qm (i:=8) bK (qz (w5.setCell (J g (k*3+2)) (.slice pe u.globals[k].init.length me)) rfl rfl rfl (by go_simp) (fun h=>absurd rfl h) (qL bK ?_ _));show Exit.inBlock 1 _ Exit.normal _ _
   have hput:=haA.out (w5.setCell (J g (k*3+2)) (.slice pe u.globals[k].init.length me)) [.string u.globals[k].name,Z u.globals[k].size,.slice pe u.globals[k].init.length me] (true,u.globals[k]) Se
    (RowPut.set (RowPut.same hee.out (HB5.out.block g hg) HCe.out) rfl (j:=2) bO _) rfl (fun u hu=>by
     simp only[yC,yG,yl]at hu
     rcases hu with rfl|rfl|rfl<;>rfl) (by rw[yK];omega) (fun i h1 h2 h3=>(zJ w5 ⟨g,k*3+2,none⟩ _ i h3).trans (HB5.out.block i (HO.out.inb i h1)))
    (by
     have hL9:∀i,Se i->i≠g:=fun i hi=>by have:=HLe.out i hi;omega
     exact⟨_,rfl,HR.out.1,HR.out.2.1,HSe.out.loc xk (fun _ h=>h) (fun i hi=>zJ w5 ⟨g,k*3+2,none⟩ _ i (hL9 i hi)) (by rw[yK];omega)⟩)
    (fun i hi=>⟨.inr (by have:=HLe.out i hi;omega),by rw[yK];exact HSe.out.sl.inb i hi⟩)
   rw[Qp hlt]at hput
   have hrel:SlO 61 3 (jB GloO (GloR w)) (w5.setCell (J g (k*3+2)) (.slice pe u.globals[k].init.length me)) (.slice (some (J g 0)) u.globals.length c1) (jG (k+1) u.globals) (fun i=>S i\/Se i)/\(∀i,S i\/Se i->w.heap.size+1+1+1<=i)/\Below (w.heap.size+1+1+1) W1 (w5.setCell (J g (k*3+2)) (.slice pe u.globals[k].init.length me)):=by
    refine⟨hput,fun i hi=>?_,?_⟩
    ·rcases hi with h|h
     ·exact HL.out i h
     have:=HLe.out i h;omega
    exact(HB.out.trans (HB5.out.mono bO)).setCell hgl _
   have ha7:=q8 hrel;clear hrel hput r1 r2 hbJ hS4 hX4 hY4
   go_wp2_with fail
   go_roundg (u.globals.length - (k+1))
   case measure=>omega
   case rel=>exact⟨k+1,_,by omega,rfl,by go_num,ha7.out.1,ha7.out.2.1,ha7.out.2.2⟩
  obtain rfl:k=u.globals.length:=by omega
  have HGo:=q8 HO.out.flagN;have HAr:Hid (wo.heap[w.heap.size+1]?=some (.cells #[.slice none 0 0,.slice none 0 0] 25 (0,0))):=q8 ((HB.out.block _ bO).trans HA2.out);have HEr:Hid (wo.heap[w.heap.size+1+1]?=some (.cells #[Z 0,Z 0] 27 (0,0))):=q8 ((HB.out.block _ bO).trans HE2.out);have hiF:=HO.out.inb;have HSG:=q8 (zh hiF HL.out);obtain⟨W3,hW3⟩:=nZ wo;subst hW3;clear HO HS2 HA2 HE2 HU2 hiF HL1 HB HL
  go_wp2_with fail
  refine(Yt (R:=FunR w) fun_one u.funcs q2 e2 _ (HFs.out.mono HBw.out bO fun _ _ g=>g) HQ2.out HBd.out.2).mono ?_;rintro e w5 ⟨p2,c2,rfl,⟨S5,hS5,hL5⟩,hb5⟩;have hU5:w5.heap[w.heap.size]?=some (.cells #[.slice p1 u.globals.length c1,.slice q2 u.funcs.length e2] 25 (0,0)):=(hb5.block _ uz).trans HUr.out;clear ub uf uz;obtain⟨ub,uf⟩:=blk hU5;have uz:=qd hU5;have HS5:=q8 hS5;have HL5:=q8 (show ∀k,S5 k->W3.heap.size<=k from hL5);have HB5:=q8 hb5;have HU5:=q8 hU5;clear hS5 hL5 hb5 hU5
  go_wp2_with fail
  obtain⟨W5,hW5⟩:=nZ (w5.setCell (J w.heap.size 1) (.slice p2 u.funcs.length c2));rw[←hW5];obtain⟨N,hN⟩:=nZ W3.heap.size;have hz5:=HB5.out.size;have hzW:W5.heap.size=w5.heap.size:=by rw[hW5];exact yK _ _ _
  have hU6:W5.heap[w.heap.size]?=some (.cells #[.slice p1 u.globals.length c1,.slice p2 u.funcs.length c2] 25 (0,0)):=by
   rw[hW5,qj HU5.out 1 _];rfl
  have oth:∀i,i≠w.heap.size->W5.heap[i]?=w5.heap[i]?:=fun i hi=>by rw[hW5];exact zJ _ _ _ _ hi
  have hA6:W5.heap[w.heap.size+1]?=some (.cells #[.slice none 0 0,.slice none 0 0] 25 (0,0)):=(oth _ bO).trans ((HB5.out.block _ (qd HAr.out)).trans HAr.out);have hE6:W5.heap[w.heap.size+1+1]?=some (.cells #[Z 0,Z 0] 27 (0,0)):=(oth _ bO).trans ((HB5.out.block _ (qd HEr.out)).trans HEr.out)
  have hG6:SlO 61 3 GloO W5 (.slice p1 u.globals.length c1) u.globals S:=HGo.out.loc xl (fun i hi=>by
   have h1:=HSG.out.1 i hi;have h2:=HSG.out.2 i hi
   exact(oth i bO).trans (HB5.out.block i h1)) bO
  have hF6:SlO 38 4 (jB FunO (FunR w)) W5 (.slice p2 u.funcs.length c2) (QY doT 0 u.funcs) S5:=by
   refine(HS5.out.sl.loc (w':=W5) (JM _) (fun i hi=>oth i ?_) bO).flagH0;have:=HL5.out i hi;have:=qd HAr.out;omega
  have hb6:Below w.heap.size w W5:=by rw[hW5];exact(HBw.out.trans (HB5.out.mono bO)).setCell (zK _) _
  have HU6:=q8 hU6;have HA6:=q8 hA6;have HE6:=q8 hE6;have HG6:=q8 hG6;have HF6:=q8 hF6;have HB6:=q8 hb6;have hNl:w.heap.size+1+1+1<=N:=by rw[hN];have:=qd HEr.out;omega
  have hNW:N<=W5.heap.size:=by omega
  have HL6:=q8 (show ∀i,S5 i->N<=i from fun i hi=>by have:=HL5.out i hi;omega);have HSN:=q8 (show ∀i,S i->i<N from fun i hi=>by have:=HSG.out.1 i hi;omega);clear hU6 hA6 hE6 hG6 hF6 hb6 hW5 oth HS5 HL5 HB5 HU5 HGo HAr HEr ub uf uz hz5 hzW hN HUr HBw
  go_loopg [38] u.funcs.length (fun q s38 wr=>∃(k:Nat) (S:Blks),k<=u.funcs.length/\q=u.funcs.length - k/\s38=Z k/\SlO 38 4 (jB FunO (FunR w)) wr (.slice p2 u.funcs.length c2) (QY doT k u.funcs) S/\(∀g,S g->N<=g)/\Below N W5 wr)
  case atStart=>exact⟨0,S5,by omega,rfl,rfl,HF6.out,HL6.out,zI _ _⟩
  case round=>
   obtain⟨wo,hwo⟩:=nZ wr;subst hwo;obtain⟨k,Sf,hk,rfl,rfl,hO,hL,hb⟩:=hrel;have HO:=q8 hO;have HL:=q8 hL;have HB:=q8 hb;have hsz:=hb.size;have HBw:Hid (Below w.heap.size w wo):=q8 (HB6.out.trans (hb.mono bO));have hUr:wo.heap[w.heap.size]?=some (.cells #[.slice p1 u.globals.length c1,.slice p2 u.funcs.length c2] 25 (0,0)):=(hb.block _ bO).trans HU6.out;have HUr:=q8 hUr;obtain⟨ub,uf⟩:=blk hUr;have uz:=qd hUr;clear hO hL hb hUr
   by_cases hlt:k<u.funcs.length
   rotate_left
   ·obtain rfl:k=u.funcs.length:=(by omega);have hFn:=HO.out.flagHN;have hpW:=HO.out.inb;have hAr:wo.heap[w.heap.size+1]?=some (.cells #[.slice none 0 0,.slice none 0 0] 25 (0,0)):=(HB.out.block _ bO).trans HA6.out;have hEr:wo.heap[w.heap.size+1+1]?=some (.cells #[Z 0,Z 0] 27 (0,0)):=(HB.out.block _ bO).trans HE6.out;have hGr:SlO 61 3 GloO wo (.slice p1 u.globals.length c1) u.globals S:=HG6.out.loc xl (fun i hi=>HB.out.block i (HSN.out i hi)) bO;have ub0:=ub 0;have ub1:=ub 1;obtain⟨ab,af⟩:=blk hAr;have ab0:=ab 0;have ab1:=ab 1;have az:=qd hAr;obtain⟨eb,ef⟩:=blk hEr;have eb0:=eb 0;have eb1:=eb 1;have ez:=qd hEr;simp only[zE,zB,zD]at ub0 ub1 ab0 ab1 eb0 eb1;have HAr:=q8 hAr;have HEr:=q8 hEr;have HGr:=q8 hGr;have HFn:=q8 (zh hFn hpW);clear hAr hEr hGr hFn hpW ub ab eb
    go_wp2_with fail
    obtain⟨WF,hWF⟩:=nZ ((((wo.setCell (J (w.heap.size+1) 0) (.slice p1 u.globals.length c1)).setCell (J (w.heap.size+1) 1) (.slice p2 u.funcs.length c2)).setCell (J (w.heap.size+1+1) 0) (Z 0)).setCell (J (w.heap.size+1+1) 1) (Z 0));rw[←hWF]
    have hK:Kept (fun i=>i=w.heap.size+1\/i=w.heap.size+1+1) wo WF:=by
     rw[hWF];have h0:Kept (fun i=>i=w.heap.size+1\/i=w.heap.size+1+1) wo wo:=Kept.refl _ _;have h1:=h0.setCell (p:=(J (w.heap.size+1) 0)) (.inl rfl) (.slice p1 u.globals.length c1);have h2:=h1.setCell (p:=(J (w.heap.size+1) 1)) (.inl rfl) (.slice p2 u.funcs.length c2);have h3:=h2.setCell (p:=(J (w.heap.size+1+1) 0)) (.inr rfl) (Z 0);exact h3.setCell (p:=(J (w.heap.size+1+1) 1)) (.inr rfl) (Z 0)
    have hRA:WF.heap[w.heap.size+1]?=some (.cells #[.slice p1 u.globals.length c1,.slice p2 u.funcs.length c2] 25 (0,0)):=by
     rw[hWF,zJ _ ⟨w.heap.size+1+1,1,none⟩ _ _ (by show w.heap.size+1≠w.heap.size+1+1;omega),zJ _ ⟨w.heap.size+1+1,0,none⟩ _ _ (by show w.heap.size+1≠w.heap.size+1+1;omega),qj (qj HAr.out 0 _) 1 _];rfl
    have hRE:WF.heap[w.heap.size+1+1]?=some (.cells #[Z 0,Z 0] 27 (0,0)):=by
     have h0:((wo.setCell (J (w.heap.size+1) 0) (.slice p1 u.globals.length c1)).setCell (J (w.heap.size+1) 1) (.slice p2 u.funcs.length c2)).heap[w.heap.size+1+1]?=some (.cells #[Z 0,Z 0] 27 (0,0)):=by
      rw[zJ _ ⟨w.heap.size+1,1,none⟩ _ _ (by show w.heap.size+1+1≠w.heap.size+1;omega),zJ _ ⟨w.heap.size+1,0,none⟩ _ _ (by show w.heap.size+1+1≠w.heap.size+1;omega)];exact HEr.out
     rw[hWF,qj (qj h0 0 _) 1 _];rfl
    clear hWF;obtain⟨ra,_⟩:=blk hRA;obtain⟨re,_⟩:=blk hRE;have ra0:=ra 0;have ra1:=ra 1;have re0:=re 0;have re1:=re 1;simp only[zE,zB,zD]at ra0 ra1 re0 re1;refine zk (v:=.tuple #[.agg #[.slice p1 u.globals.length c1,.slice p2 u.funcs.length c2],.agg #[Z 0,Z 0]]) ?_ rfl ⟨⟨p1,c1,p2,c2,rfl,fun i=>S i\/Sf i,⟨_,_,S,Sf,rfl,⟨?_,HBd.out.1⟩,⟨?_,?_⟩,fun i h1 h2=>?_,fun _ h=>.inl h,fun _ h=>.inr h⟩,fun i hi=>?_⟩,?_⟩
    ·simp[results,Tryz.results31,go_sem,ra0,ra1,re0,re1]
    ·exact HGr.out.kept xl hK (fun i h1 h2=>by have:=HSG.out.2 i h2;omega)
    ·exact HFn.out.1.kept qK hK (fun i h1 h2=>by have:=HL.out i h2;omega)
    ·show(u.funcs.map doT).length*56<=reachBytes;rw[yT];exact HBd.out.2
    ·have:=HSN.out i h1;have:=HL.out i h2;omega
    ·rcases hi with h|h
     ·have:=HSG.out.2 i h;omega
     have:=HL.out i h;omega
    exact HBw.out.trans (hK.below (by have:=HBw.out.size;omega) (fun i e=>by omega))
   have hlt':k<(QY doT k u.funcs).length:=(by rw[jT];exact hlt);obtain⟨g,cc,cs,T,hv,hg,hSg,hcl,hx,hTg,hTS,hce,hfz,⟨cur,hay⟩,put⟩:=HO.out.focus (Zy qK _) bO hlt';rw[QF hlt',zQ bO]at hx;unfold jB at hx;rw[zQ bV]at hx;obtain⟨v1,rfl,b3,b4,b5,b6⟩:=(show FunR w cs u.funcs[k]from hx);obtain⟨qf,ef,rfl,a1,_,z1⟩:=b6.outC;have hp:p2=some (J g 0):=(by injection hv);subst hp;have c0:=hce 0 bO;have c1':=hce 1 bO;have c2':=hce 2 bO;have c3:=hce 3 bO;simp only[zB,zD,yJ]at c0 c1' c2' c3;have HR:=q8 (zh b3 (zh b4 (zh b5 b6)));have haA:=q8 put;have HT:=q8 (zh hTg hTS);have hee:=q8 hay;have HCe:=q8 hce;have HFz:=q8 hfz;have hgl:N<=g:=HL.out g hSg;have hC:=HU.out.funC hlt;have hCd:=hC.done;have HC:=q8 hC;have HCd:=q8 hCd;clear hv hx b3 b4 b5 b6 a1 z1 put hTg hTS hay hcl hce hSg hC hCd
   go_wp2_with fail
   have hb3:Below wo.heap.size wo (wo.alloc (.cells #[.string u.funcs[k].name,Z u.funcs[k].params,Z u.funcs[k].regs,.slice qf u.funcs[k].blocks.length ef] 38)):=(by exact bZ);have hbx:Below w.heap.size w (wo.alloc (.cells #[.string u.funcs[k].name,Z u.funcs[k].params,Z u.funcs[k].regs,.slice qf u.funcs[k].blocks.length ef] 38)):=HBw.out.trans (hb3.mono bO);refine(XV u.funcs[k] qf ef _ HR.out.1 HR.out.2.1 HR.out.2.2.1 (SlF.mono HR.out.2.2.2 hbx bO fun _ _ h=>h.below hbx)).mono ?_;rintro e w6 ⟨⟨pc,cc2,rfl,Sc,hFc,hLc⟩,hb6⟩;have hLc:∀i,Sc i->wo.heap.size+1<=i:=fun i h=>by have:=hLc i h;simpa using this
   have hX6:w6.heap[wo.heap.size]?=some (.cells #[.string u.funcs[k].name,Z u.funcs[k].params,Z u.funcs[k].regs,.slice qf u.funcs[k].blocks.length ef] 38 (0,0)):=qg hb6 bV (qr rfl);have hfK:Below wo.heap.size wo w6:=hb3.trans (hb6.mono bV);have HFc:=q8 hFc;have HLc:=q8 hLc;have HX6:=q8 hX6;have hmC:=q8 hfK;have hz6:=hfK.size;have hx6:=qd hX6;clear hFc hLc hX6 hfK hb6 hb3 hbx c0 c1' c2' c3 hfz ub uf uz
   go_wp2_with fail
   refine(doOf_any u.funcs[k] HC.out pc cc2 w6 Sc HFc.out).mono ?_;rintro e w7 ⟨pd,cd,Sd,rfl,hFd,hSd,hK7⟩;have hX7:w7.heap[wo.heap.size]?=some (.cells #[.string u.funcs[k].name,Z u.funcs[k].params,Z u.funcs[k].regs,.slice qf u.funcs[k].blocks.length ef] 38 (0,0)):=(hK7.block _ hx6 (fun h=>by have:=HLc.out _ h;omega)).trans HX6.out;have hz7:=hK7.size;have hg7:w7.heap[g]?=wo.heap[g]?:=(hK7.block _ bO (fun h=>by have:=HLc.out _ h;omega)).trans (hmC.out.block _ hg);have hB7:Below wo.heap.size wo w7:=hmC.out.trans (hK7.below bO (fun i h=>by have:=HLc.out i h;omega))
   have hpX:∀i,Sd i->wo.heap.size+1<=i:=fun i h=>by
    rcases hSd i h with a|a
    ·exact HLc.out i a
    omega
   obtain⟨xb,xf⟩:=blk hX7;have xb0:=xb 0;have xb1:=xb 1;have xb2:=xb 2;have xb3:=xb 3;simp only[zE,zB,zD]at xb0 xb1 xb2 xb3;have xz:=qd hX7;have HFd:=q8 hFd;have HSd:=q8 hpX;have HX7:=q8 hX7;have HG7:=q8 hg7;have HB7:=q8 hB7;clear hFd hSd hpX hX7 hg7 hB7 hK7 xb HFc HX6 hmC HLc
   go_wp2_with fail
   obtain⟨W7,hW7⟩:=nZ ((((w7.setCell (J wo.heap.size 0) (.string u.funcs[k].name)).setCell (J wo.heap.size 1) (Z u.funcs[k].params)).setCell (J wo.heap.size 2) (Z (doT u.funcs[k]).regs)).setCell (J wo.heap.size 3) (.slice pd (doT u.funcs[k]).blocks.length cd));rw[←hW7]
   have hX8:W7.heap[wo.heap.size]?=some (.cells #[.string u.funcs[k].name,Z u.funcs[k].params,Z (doT u.funcs[k]).regs,.slice pd (doT u.funcs[k]).blocks.length cd] 38 (0,0)):=by
    rw[hW7,qj (qj (qj (qj HX7.out 0 _) 1 _) 2 _) 3 _];rfl
   have hK8:Kept (fun i=>i=wo.heap.size) w7 W7:=by
    rw[hW7];have h0:Kept (fun i=>i=wo.heap.size) w7 w7:=Kept.refl _ _;have h1:=h0.setCell (p:=(J wo.heap.size 0)) rfl (.string u.funcs[k].name);have h2:=h1.setCell (p:=(J wo.heap.size 1)) rfl (Z u.funcs[k].params);have h3:=h2.setCell (p:=(J wo.heap.size 2)) rfl (Z (doT u.funcs[k]).regs);exact h3.setCell (p:=(J wo.heap.size 3)) rfl (.slice pd (doT u.funcs[k]).blocks.length cd)
   have hjF:=qK _ W7 _ _ _ HFd.out (fun i hi=>hK8.block i (by
    obtain⟨v,_,_,_,_,hh⟩:=HFd.out
    exact hh.sl.inb i hi) (fun e=>by have:=HSd.out i hi;omega)) hK8.size
   have hmE:∀i,Sd i->i<W7.heap.size:=fun i hi=>by
    obtain⟨v,_,_,_,_,hh⟩:=hjF;exact hh.sl.inb i hi
   have hB8:Below wo.heap.size wo W7:=HB7.out.trans (hK8.below bO (fun i e=>by omega));have hz8:=hK8.size;have hg8:W7.heap[g]?=wo.heap[g]?:=(hK8.block _ bO bO).trans HG7.out;have hhd:=Ja u.funcs[k]
   have hcall:=large_no (doT u.funcs[k]) pd cd W7 HCd.out.n40 HCd.out.many HCd.out.reg.2 (by
    obtain⟨v,hv,_,_,_,hh⟩:=hjF
    have hv4:v = .slice pd (doT u.funcs[k]).blocks.length cd:=by
     have h:=hv.symm;simp at h;exact h.2.2
    subst hv4;obtain⟨p,c,e,_,_,h⟩:=(hh.read (R':=BlkR W7) qM bO fun _ _ _ h=>h.read).outC;cases e
    exact h)
   rw[hhd.1,hhd.2]at hcall;refine hcall.mono ?_;rintro e w8 ⟨rfl,hb8⟩;have hX9:=(hb8.block _ (qd hX8)).trans hX8;have hg9:w8.heap[g]?=wo.heap[g]?:=(hb8.block _ bO).trans hg8;have hpY:=qK _ w8 _ _ _ hjF (fun i hi=>hb8.block i (hmE i hi)) hb8.size;have hB9:Below wo.heap.size wo w8:=hB8.trans (hb8.mono bO);have hU9:w8.heap[w.heap.size]?=some (.cells #[.slice p1 u.globals.length c1,.slice (some (J g 0)) u.funcs.length c2] 25 (0,0)):=(hB9.block _ (qd HUr.out)).trans HUr.out;have hz9:=hB9.size;obtain⟨xb,xf'⟩:=blk hX9;have yb0:=xb 0;have yb1:=xb 1;have yb2:=xb 2;have yb3:=xb 3;obtain⟨ub,_⟩:=blk hU9;have ub1:=ub 1;simp only[zE,zB,zD]at yb0 yb1 yb2 yb3 ub1;have g0:w8.cell? (J g (k*4))=some (.string u.funcs[k].name):=(zN (a:=(J g (k*4))) hg9).trans (HCe.out 0 bO);have g1:w8.cell? (J g (k*4+1))=some (Z u.funcs[k].params):=(zN (a:=(J g (k*4+1))) hg9).trans (HCe.out 1 bO);have g2:w8.cell? (J g (k*4+2))=some (Z u.funcs[k].regs):=(zN (a:=(J g (k*4+2))) hg9).trans (HCe.out 2 bO);have g3:w8.cell? (J g (k*4+3))=some (.slice qf u.funcs[k].blocks.length ef):=(zN (a:=(J g (k*4+3))) hg9).trans (HCe.out 3 bO);have gf:∀j,w8.frozen? (J g j)=false:=fun j=>(yB (a:=(J g j)) hg9).trans (HFz.out _);have gz:g<w8.heap.size:=(by omega);have xz8:=qd hX9;have uz8:=qd hU9;have htQ:=q8 hpY;have hpZ:=q8 (show ∀i,Sd i->i<w8.heap.size from fun i hi=>xB (hmE i hi) hb8.size);have HG9:=q8 hg9;have HB9:=q8 hB9;clear hW7 hX8 hK8 hjF hmE hB8 hz8 hg8 hhd hcall hb8 hX9 hg9 hpY hB9 hU9 xb ub xb0 xb1 xb2 xb3 xf xz HFd HX7 HG7 HB7
   go_wp2_with fail
   obtain⟨W9,hW9⟩:=nZ (Go.Proofs.YtgjjhadbjmcnpaaGreatDoor.quad w8 g (k*4) (.string u.funcs[k].name) (Z u.funcs[k].params) (Z (doT u.funcs[k]).regs) (.slice pd (doT u.funcs[k]).blocks.length cd));have hWu:=hW9;unfold Go.Proofs.YtgjjhadbjmcnpaaGreatDoor.quad at hWu;rw[←hWu];have hK9:Kept (fun i=>i=g) w8 W9:=by rw[hW9];exact quad_kept ..
   have hrp:RowPut wo W9 38 g (k*4) 4 [.string u.funcs[k].name,Z u.funcs[k].params,Z (doT u.funcs[k]).regs,.slice pd (doT u.funcs[k]).blocks.length cd]:=by
    rw[hW9];exact(RowPut.same hee.out HG9.out HCe.out).quad rfl _ _ _ _
   have hfU:=hK9.size
   have hput:=haA.out W9 [.string u.funcs[k].name,Z u.funcs[k].params,Z (doT u.funcs[k]).regs,.slice pd (doT u.funcs[k]).blocks.length cd] (true,doT u.funcs[k]) Sd hrp rfl (fun u hu=>by
     simp only[yC,yG,yl]at hu
     rcases hu with rfl|rfl|rfl|rfl<;>rfl) bO (fun i h1 h2 h3=>(hK9.block i (by have:=HO.out.inb i h1;omega) h3).trans (HB9.out.block i (HO.out.inb i h1)))
    (show FunO W9 [.string u.funcs[k].name,Z u.funcs[k].params,Z (doT u.funcs[k]).regs,.slice pd (doT u.funcs[k]).blocks.length cd] (doT u.funcs[k]) Sd from qK _ _ _ _ _ htQ.out (fun i hi=>hK9.block i (hpZ.out i hi) (fun e=>by have:=HSd.out i hi;omega)) hK9.size)
    (fun i hi=>⟨.inr (by have:=HSd.out i hi;omega),by have:=hpZ.out i hi;omega⟩)
   rw[flagH_put hlt]at hput
   have hrel:(∀i,Sf i\/Sd i->N<=i)/\Below N W5 W9:=by
    refine⟨fun i hi=>?_,(HB.out.trans (HB9.out.mono bO)).trans (hK9.below bO (fun i e=>by omega))⟩;rcases hi with h|h
    ·exact HL.out i h
    have:=HSd.out i h;omega
   go_roundg (u.funcs.length - (k+1))
   case measure=>omega
   case rel=>exact⟨k+1,_,by omega,rfl,by go_num,hput,hrel.1,hrel.2⟩

theorem tdo_bad (u:UniL) (gp fp:Option Addr) (gc fc:Nat) (w:World) (hgl:u.globals.length*48<=140737488351232) (hG:SliceAt w 3 (GloR w) gp u.globals) (hfl:u.funcs.length*56<=140737488351232) (hF:SliceAt w 4 (FunR w) fp u.funcs) (hw0:Ways w) (h:(chk u).1≠0) :
  Calls Tryz.prog 11 #[.agg #[.slice gp u.globals.length gc,.slice fp u.funcs.length fc]] w fun e w'=>e = .returned (.tuple #[.agg #[.slice none 0 0,.slice none 0 0],.agg #[Z (chk u).1,Z (chk u).2]])/\Below w.heap.size w w':=by
 have HG:=q8 hG;have HF:=q8 hF;have HW:=q8 hw0;have hne:((chk u).1 == 0&&(chk u).2 == 0)=false:=by simp[h]
 have hq:∀w,(binOp .neq 27 (.agg #[Z (chk u).1,Z (chk u).2]) (.agg #[Z 0,Z 0])).run Tryz.prog w = .ok (.bool true) w:=fun w=>by rw[jp,hne];rfl
 clear hG hF hw0 h hne
 go_enter Tryz.func11,Tryz.ntmps11
 go_wp2_with fail
 refine(vy u _ _ _ _ _ hgl (jg HG.out bZ) hfl (vQ HF.out bZ) (HW.out.below bZ)).mono ?_;rintro e w1 ⟨rfl,hb1⟩;have HB1:Hid (Below w.heap.size w w1):=yo bZ (hb1.mono bW);have hR:=qg hb1 (k:=w.heap.size+1) bV (qh (qr (w:=w.alloc (.cells #[.slice gp u.globals.length gc,.slice fp u.funcs.length fc] 25)) (o:=.cells #[.slice none 0 0,.slice none 0 0] 25) bV));have hR2:=qg hb1 (k:=w.heap.size+1+1) bV (qr (w:=(w.alloc (.cells #[.slice gp u.globals.length gc,.slice fp u.funcs.length fc] 25)).alloc (.cells #[.slice none 0 0,.slice none 0 0] 25)) (o:=.cells #[Z 0,Z 0] 27) bV);obtain⟨hcc,hcf⟩:=blk hR;obtain⟨hgL,hj7⟩:=blk hR2;have z1:=qd hR;have z2:=qd hR2;clear hb1
 go_wp2_with fail
 go_region
 all_goals go_wp2
 all_goals
  refine zk (v:=.tuple #[.agg #[.slice none 0 0,.slice none 0 0],.agg #[Z (chk u).1,Z (chk u).2]]) ?_ rfl ⟨rfl,?_⟩
  ·simp[results,Tryz.results11,go_sem, *]
  exact bZ

theorem y9 (u:UniL) (gp fp:Option Addr) (gc fc:Nat) (w:World) (hgl:u.globals.length*48<=140737488351232) (hG:SlF w 3 48 (GloR w) (.slice gp u.globals.length gc) u.globals) (hfl:u.funcs.length*56<=140737488351232) (hF:SlF w 4 56 (FunR w) (.slice fp u.funcs.length fc) u.funcs) (hw0:Ways w) (h:(chk u).1=0) :
  Calls Tryz.prog 11 #[.agg #[.slice gp u.globals.length gc,.slice fp u.funcs.length fc]] w fun e w'=>(∃p1 c1 p2 c2,e = .returned (.tuple #[.agg #[.slice p1 u.globals.length c1,.slice p2 u.funcs.length c2],.agg #[Z 0,Z 0]])/\
   ∃S,UniO w' [.slice p1 u.globals.length c1,.slice p2 u.funcs.length c2] (qI u) S/\LoB w.heap.size S)/\Below w.heap.size w w':=by
 have hG':SliceAt w 3 (GloR w) gp u.globals:=by
  obtain⟨p,c,e,_,_,h⟩:=hG.outC;cases e;exact h
 have hF':SliceAt w 4 (FunR w) fp u.funcs:=by
  obtain⟨p,c,e,_,_,h⟩:=hF.outC;cases e;exact h
 have HGs:=q8 hG;have HFs:=q8 hF;have HG:=q8 hG';have HF:=q8 hF';have HW:=q8 hw0;have HK:=q8 (Xh h).2;have hne:((chk u).1 == 0&&(chk u).2 == 0)=true:=by rw[(Xh h).1];rfl
 have hq:∀w,(binOp .neq 27 (.agg #[Z (chk u).1,Z (chk u).2]) (.agg #[Z 0,Z 0])).run Tryz.prog w = .ok (.bool false) w:=fun w=>by rw[jp,hne];rfl
 clear hG hF hG' hF' hw0 h hne
 go_enter Tryz.func11,Tryz.ntmps11
 go_wp2_with fail
 refine(vy u _ _ _ _ _ hgl (jg HG.out bZ) hfl (vQ HF.out bZ) (HW.out.below bZ)).mono ?_;rintro e w1 ⟨rfl,hb1⟩;have HB1:Hid (Below w.heap.size w w1):=yo bZ (hb1.mono bW);have hU:=qg hb1 (k:=w.heap.size) bW (qh (qh (qB w _)));have hR:=qg hb1 (k:=w.heap.size+1) bV (qh (qr (w:=w.alloc (.cells #[.slice gp u.globals.length gc,.slice fp u.funcs.length fc] 25)) (o:=.cells #[.slice none 0 0,.slice none 0 0] 25) bV));have hR2:=qg hb1 (k:=w.heap.size+1+1) bV (qr (w:=(w.alloc (.cells #[.slice gp u.globals.length gc,.slice fp u.funcs.length fc] 25)).alloc (.cells #[.slice none 0 0,.slice none 0 0] 25)) (o:=.cells #[Z 0,Z 0] 27) bV);have HR:=q8 hR;have HR2:=q8 hR2;obtain⟨hcu,hfu⟩:=blk hU;have zu:=qd hU;have z1:=qd hR;have z2:=qd hR2;clear hb1 hR hR2 hU
 go_wp2_with fail
 obtain⟨w2,hw2⟩:=nZ (w1.alloc (.cells #[Z (chk u).1,Z (chk u).2] 27));rw[←hw2];have hb2:Below w1.heap.size w1 w2:=by rw[hw2];exact bZ
 have HB2:=q8 hb2;have hbG:=q8 (HB1.out.trans (hb2.mono bO));clear hw2 hb2;have hgm:=SlF.mono HGs.out hbG.out bO fun _ _ h=>h.below hbG.out;have hfm:=SlF.mono HFs.out hbG.out bO fun _ _ h=>h.below hbG.out;refine(Jc u HK.out gp fp gc fc w2 hgm hfm).mono ?_;rintro e w3 ⟨⟨p1,c1,p2,c2,rfl,S,hS,hL⟩,hb3⟩;have hz2:=HB2.out.size;have hR:=(hb3.block _ bO).trans ((HB2.out.block _ z1).trans HR.out);have hR2:=(hb3.block _ bO).trans ((HB2.out.block _ z2).trans HR2.out);obtain⟨ab,af⟩:=blk hR;have ab0:=ab 0;have ab1:=ab 1;have az:=qd hR;obtain⟨eb,ef⟩:=blk hR2;have eb0:=eb 0;have eb1:=eb 1;have ez:=qd hR2;simp only[zE,zB,zD]at ab0 ab1 eb0 eb1;have HS:=q8 hS;have HL:=q8 (show ∀i,S i->w2.heap.size<=i from hL);have HB3:=q8 (hbG.out.trans (hb3.mono hbG.out.size));have HAr:=q8 hR;have HEr:=q8 hR2;clear hS hL hb3 hgm hfm hR hR2 ab eb hcu hfu zu
 go_wp2_with fail
 obtain⟨WF,hWF⟩:=nZ ((((w3.setCell (J (w.heap.size+1) 0) (.slice p1 u.globals.length c1)).setCell (J (w.heap.size+1) 1) (.slice p2 u.funcs.length c2)).setCell (J (w.heap.size+1+1) 0) (Z 0)).setCell (J (w.heap.size+1+1) 1) (Z 0));rw[←hWF]
 have hK:Kept (fun i=>i=w.heap.size+1\/i=w.heap.size+1+1) w3 WF:=by
  rw[hWF];have h0:Kept (fun i=>i=w.heap.size+1\/i=w.heap.size+1+1) w3 w3:=Kept.refl _ _;have h1:=h0.setCell (p:=(J (w.heap.size+1) 0)) (.inl rfl) (.slice p1 u.globals.length c1);have h2:=h1.setCell (p:=(J (w.heap.size+1) 1)) (.inl rfl) (.slice p2 u.funcs.length c2);have h3:=h2.setCell (p:=(J (w.heap.size+1+1) 0)) (.inr rfl) (Z 0);exact h3.setCell (p:=(J (w.heap.size+1+1) 1)) (.inr rfl) (Z 0)
 have hRA:WF.heap[w.heap.size+1]?=some (.cells #[.slice p1 u.globals.length c1,.slice p2 u.funcs.length c2] 25 (0,0)):=by
  rw[hWF,zJ _ ⟨w.heap.size+1+1,1,none⟩ _ _ (by show w.heap.size+1≠w.heap.size+1+1;omega),zJ _ ⟨w.heap.size+1+1,0,none⟩ _ _ (by show w.heap.size+1≠w.heap.size+1+1;omega),qj (qj HAr.out 0 _) 1 _];rfl
 have hRE:WF.heap[w.heap.size+1+1]?=some (.cells #[Z 0,Z 0] 27 (0,0)):=by
  have h0:((w3.setCell (J (w.heap.size+1) 0) (.slice p1 u.globals.length c1)).setCell (J (w.heap.size+1) 1) (.slice p2 u.funcs.length c2)).heap[w.heap.size+1+1]?=some (.cells #[Z 0,Z 0] 27 (0,0)):=by
   rw[zJ _ ⟨w.heap.size+1,1,none⟩ _ _ (by show w.heap.size+1+1≠w.heap.size+1;omega),zJ _ ⟨w.heap.size+1,0,none⟩ _ _ (by show w.heap.size+1+1≠w.heap.size+1;omega)];exact HEr.out
  rw[hWF,qj (qj h0 0 _) 1 _];rfl
 clear hWF;obtain⟨ra,_⟩:=blk hRA;obtain⟨re,_⟩:=blk hRE;have ra0:=ra 0;have ra1:=ra 1;have re0:=re 0;have re1:=re 1;simp only[zE,zB,zD]at ra0 ra1 re0 re1;refine zk (v:=.tuple #[.agg #[.slice p1 u.globals.length c1,.slice p2 u.funcs.length c2],.agg #[Z 0,Z 0]]) ?_ rfl ⟨⟨p1,c1,p2,c2,rfl,S,?_,fun i hi=>?_⟩,?_⟩
 ·simp[results,Tryz.results11,go_sem,ra0,ra1,re0,re1]
 ·obtain⟨v1,v2,S1,S2,h0,h1,h2,h3,g1,g2⟩:=HS.out;exact⟨v1,v2,S1,S2,h0,⟨h1.sl.kept xl hK (fun i a b=>by have:=HL.out i (g1 i b);omega),h1.bd⟩,⟨h2.sl.kept qK hK (fun i a b=>by have:=HL.out i (g2 i b);omega),h2.bd⟩,h3,g1,g2⟩
 ·have:=HL.out i hi;have:=hbG.out.size;omega
 exact HB3.out.trans (hK.below HB3.out.size (fun i e=>by omega))
end Go.Proofs.YtgjjhadbjmcnpaaGreatDoor
namespace Go.Proofs.YtgjjhadbjmcnpaaGreatDoor

theorem ChkOk.callN {u:UniL} (h:ChkOk u):CallN u.funcs:=by
 refine⟨fun f hf=>?_,fun f hf=>?_,fun f hf b hb x hx ho k hk=>?_⟩
 ·obtain⟨k,hk,rfl⟩:=yp.1 hf;exact(h.funC hk).n1
 ·obtain⟨k,hk,rfl⟩:=yp.1 hf;exact(h.funC hk).par
 obtain⟨j,hj,rfl⟩:=yp.1 hf;obtain⟨m,hm,rfl⟩:=yp.1 hb;obtain⟨⟨h1,h2⟩,h3,_⟩:=(insC_iff.1 ((h.funC hj).ins m hm x hx)).call ho;rw[hk]at h1 h2 h3;have hk2:k<u.funcs.length:=by omega
 refine⟨hk2,h3.trans ?_⟩;rw[xC];simp[vm,hk2]
theorem ChkOk.small {u:UniL} (h:ChkOk u):∀f∈u.funcs,Small 300 f:=fun f hf=>by
 obtain⟨k,hk,rfl⟩:=yp.1 hf;exact Yp (h.funC hk).many
end Go.Proofs.YtgjjhadbjmcnpaaGreatDoor
