/-
  The contract of tidy.NamesOf.
-/
import Derived.Test.YtgjjhadbjmcnpaaGreatDoorJKeeB
set_option maxRecDepth 100000
set_option maxHeartbeats 16000000
namespace Go.Proofs.YtgjjhadbjmcnpaaGreatDoor
open Go.RowKit Go.Shelf

theorem names_any {nf:Nat} {P:Nat->Int} (f:FunL) (hC:FunC nf P f) (q:Option Addr) (e1:Nat) (w:World) (S:Blks) (hF:FunO w [.string f.name,Z f.params,Z f.regs,.slice q f.blocks.length e1] f S) :
  Calls Tryz.prog 65 #[.agg #[.string f.name,Z f.params,Z f.regs,.slice q f.blocks.length e1]] w fun e w'=>∃p c S',e = .returned (.agg #[.string f.name,Z f.params,Z (jH f).regs,.slice p (jH f).blocks.length c])/\
   FunO w' [.string f.name,Z f.params,Z (jH f).regs,.slice p (jH f).blocks.length c] (jH f) S'/\(∀g,S' g->S g\/w.heap.size<=g)/\Kept S w w':=by
 have hn0:=hC.n1;have hdD:=hC.n40;obtain⟨v0,hbE,hnm,i1,i2,hB⟩:=hF;have hv0:v0 = .slice q f.blocks.length e1:=by simpa using hbE.symm
 subst hv0;obtain⟨gq,cq,_,_,hvq,_⟩:=hB.sl.focus qM bO hn0;have hq:q=some (J gq 0):=by injection hvq
 subst hq;have hread:=hB.read (R':=BlkR w) qM bO fun _ _ _ h=>h.read
 have hRd:SliceAt w 6 (BlkR w) (some (J gq 0)) f.blocks:=by
  obtain⟨p,c,e,_,_,h⟩:=hread.outC;cases e;exact h
 have hSb:=hB.sl.inb;have HC:=q8 hC;have HB:=q8 hB;have HRd:=q8 hRd;have HSb:=q8 hSb;have HN:=q8 (zh hnm (zh i1 i2));clear hC hB hread hRd hSb hnm i1 i2 hbE hvq
 go_enter Tryz.func65,Tryz.ntmps65
 go_wp2_with fail
 obtain⟨W0,hW0⟩:=nZ ((w.alloc (.cells #[.string f.name,Z f.params,Z f.regs,.slice (some (J gq 0)) f.blocks.length e1] 38)).alloc (.cells #[.string { data:=#[] },Z 0,Z 0,.slice none 0 0] 38));rw[←hW0];have hz0:W0.heap.size=w.heap.size+1+1:=by rw[hW0];simp
 have hb0:Below w.heap.size w W0:=by rw[hW0];exact bZ
 have hF0:W0.heap[w.heap.size]?=some (.cells #[.string f.name,Z f.params,Z f.regs,.slice (some (J gq 0)) f.blocks.length e1] 38 (0,0)):=by rw[hW0];exact qh (qr rfl)
 have hZ0:W0.heap[w.heap.size+1]?=some (.cells #[.string { data:=#[] },Z 0,Z 0,.slice none 0 0] 38 (0,0)):=by rw[hW0];exact qr bV
 have HB0:=q8 hb0;have HZ0:=q8 hZ0;clear hW0 hb0 hZ0;obtain⟨Sp,hSp⟩:∃Sp:World->Prop,Sp=fun w'=>w'.heap[w.heap.size]?=some (.cells #[.string f.name,Z f.params,Z f.regs,.slice (some (J gq 0)) f.blocks.length e1] 38 (0,0)):=⟨_,rfl⟩
 have ha6:∀w',Sp w'->(∀i,w'.cell? (J w.heap.size i)=(#[.string f.name,Z f.params,Z f.regs,.slice (some (J gq 0)) f.blocks.length e1]:Array Value)[i]?)/\w.heap.size<w'.heap.size/\∀i,w'.frozen? (J w.heap.size i)=false:=fun w' h=>by
  rw[hSp]at h;exact⟨(blk h).1,qd h,(blk h).2⟩
 have hS0:Sp W0.drew:=by rw[hSp];exact hF0
 refine qA (S:=Sp) bK 4 ?_;refine tkZ 0 23 (.agg #[.string f.name,Z f.params,Z f.regs,.slice (some (J gq 0)) f.blocks.length e1]) rfl rfl hS0 (fun w' h=>?_) ?_
 ·obtain⟨h1,h2,h3⟩:=ha6 w' h;have g0:=h1 0;have g1:=h1 1;have g2:=h1 2;have g3:=h1 3;clear h1 h3;simp only[zE,zB,zD]at g0 g1 g2 g3;go_simp
 refine tkZ 1 24 (.agg #[.string f.name,Z f.params,Z f.regs,.slice (some (J gq 0)) f.blocks.length e1]) rfl rfl hS0 (fun w' h=>?_) ?_
 ·obtain⟨h1,h2,h3⟩:=ha6 w' h;have g0:=h1 0;have g1:=h1 1;have g2:=h1 2;have g3:=h1 3;clear h1 h3;simp only[zE,zB,zD]at g0 g1 g2 g3;go_simp
 have hO:=HC.out.funD.toFunS.ord;have hint:jR f.blocks=(jW f.blocks).map fun i:Nat=>(i:Int):=hO.ints;have hpl:(ko f.blocks).length<=1000000:=HC.out.funD.toFunS.postLen;refine qm (i:=2) bK (qt 25 rfl rfl rfl (by go_simp) (ZB f (some (J gq 0)) e1 W0.drew hn0 bO HC.out.funD.two HC.out.funD.toFunS.tosB (jY HRd.out HB0.out.drew) hpl) ?_);rintro e w1 ⟨vo,rfl,hOw,hb1⟩;rw[hint,yT]at hOw;have ho:=HC.out.funD.toFunS.ordC;obtain⟨o,hoe⟩:=nZ (jW f.blocks);rw[←hoe]at ho hOw;have hop:=ho.pos.1;obtain⟨po,co,rfl⟩:=vB hOw;obtain⟨go,rfl,hjx,hez,_⟩:=Qm hOw hop
 have hoc:∀i (h:i<o.length),w1.cell? (J go i)=some (Z (o[i]:Nat)):=fun i h=>by
  obtain⟨g',e,_,_,hc⟩:=Qm hOw h;cases e;rw[hc];simp[h]
 have hco:o.length<=co:=by
  rcases hOw.2 with⟨h1,_⟩|⟨_,_,_,h1,_,_,h2,_⟩
  ·cases h1
  cases h1;exact h2
 have hb1':Below W0.heap.size W0 w1:=(zI _ W0).drew.trans hb1;have hhR:W0.heap.size<=go:=hjx;have hF1:w1.heap[w.heap.size]?=some (.cells #[.string f.name,Z f.params,Z f.regs,.slice (some (J gq 0)) f.blocks.length e1] 38 (0,0)):=(hb1'.block _ bO).trans hF0;have hS1:Sp w1:=by rw[hSp];exact hF1
 refine⟨_,rfl,hS1,?_⟩;have heC:Below w.heap.size w w1:=HB0.out.trans (hb1'.mono bO);have hFO:FunO w1 [.string f.name,Z f.params,Z f.regs,.slice (some (J gq 0)) f.blocks.length e1] f S:=⟨_,rfl,HN.out.1,HN.out.2.1,HN.out.2.2,⟨HB.out.sl.below qM heC,HB.out.bd⟩⟩;refine qm (i:=3) bK (qt 26 rfl rfl rfl (by go_simp) (KY f HC.out o ho (some (J gq 0)) e1 go co w1 S hFO hez (fun h=>by have:=HSb.out go h;omega) hoc hco) ?_);rintro e w2 ⟨p2,c2,S2,rfl,hF2,hS2,hK2⟩;obtain⟨g,hge⟩:=nZ (zX o f);have hgT:g=Qy f:=by rw[hge,hoe];rfl
 rw[←hge]at hF2 ⊢;have hCg:FunC nf P g:=by rw[hgT];exact HC.out.order
 have hh1:g.name=f.name/\g.params=f.params/\g.regs=f.regs:=by rw[hge];exact⟨rfl,rfl,rfl⟩
 have hl6:w2.heap[w.heap.size]?=some (.cells #[.string f.name,Z f.params,Z f.regs,.slice (some (J gq 0)) f.blocks.length e1] 38 (0,0)):=(hK2.block _ (by have:=hb1'.size;omega) (fun h=>by have:=HSb.out _ h;omega)).trans hF1;have he5:Sp w2:=by rw[hSp];exact hl6
 refine⟨_,rfl,he5,?_⟩;obtain⟨s1,s2,s3⟩:=ha6 w2 he5;have s10:=s1 0;have s11:=s1 1;have s12:=s1 2;have s13:=s1 3;simp only[zE,zB,zD]at s10 s11 s12 s13;clear s1;refine qm (i:=4) bK (qz ((((w2.setCell (J w.heap.size 0) (.string f.name)).setCell (J w.heap.size 1) (Z f.params)).setCell (J w.heap.size 2) (Z f.regs)).setCell (J w.heap.size 3) (.slice p2 g.blocks.length c2)) rfl rfl rfl (by go_simp) (fun h=>absurd rfl h) (qL bK ?_ _));show calm _ Exit.normal _ _;obtain⟨W1,hW1⟩:=nZ ((((w2.setCell (J w.heap.size 0) (.string f.name)).setCell (J w.heap.size 1) (Z f.params)).setCell (J w.heap.size 2) (Z f.regs)).setCell (J w.heap.size 3) (.slice p2 g.blocks.length c2));rw[←hW1]
 have hKs:Kept (fun k=>k=w.heap.size) w2 W1:=by
  rw[hW1];have h0:Kept (fun k=>k=w.heap.size) w2 w2:=Kept.refl _ _;have h1:=h0.setCell (p:=(J w.heap.size 0)) rfl (.string f.name);have h2:=h1.setCell (p:=(J w.heap.size 1)) rfl (Z f.params);have h3:=h2.setCell (p:=(J w.heap.size 2)) rfl (Z f.regs);exact h3.setCell (p:=(J w.heap.size 3)) rfl (.slice p2 g.blocks.length c2)
 have hFb:W1.heap[w.heap.size]?=some (.cells #[.string f.name,Z f.params,Z f.regs,.slice p2 g.blocks.length c2] 38 (0,0)):=by
  rw[hW1,qj (qj (qj (qj hl6 0 _) 1 _) 2 _) 3 _];rfl
 have hsF:∀k,S2 k->(S k\/w1.heap.size<=k):=hS2
 have hoE:∀k,S2 k->k≠w.heap.size:=fun k hk e=>by
  rcases hS2 k hk with h|h
  ·have:=HSb.out k h;omega
  have:=heC.size;have:=hb1'.size;omega
 obtain⟨v2,hcs2,_,_,_,hB2⟩:=hF2
 have hv2:v2 = .slice p2 g.blocks.length c2:=by
  have h:=hcs2.symm;simp at h;exact h.2.2.2
 subst hv2;have hB2':SlQ 49 6 96 BlkO W1 (.slice p2 g.blocks.length c2) g.blocks S2:=⟨hB2.sl.kept qM hKs (fun k a b=>hoE k b a),hB2.bd⟩
 have hKw:Kept S w W1:=by
  refine((Kept.of_below heC).trans hK2 (fun k _ h=>h)).trans hKs (fun k h1 h2=>by omega)
 have hZ1:W1.heap[w.heap.size+1]?=some (.cells #[.string { data:=#[] },Z 0,Z 0,.slice none 0 0] 38 (0,0)):=(hKs.block _ (by have:=hb1'.size;have:=hK2.size;omega) bO).trans ((hK2.block _ (by have:=hb1'.size;omega) (fun h=>by have:=HSb.out _ h;omega)).trans ((hb1'.block _ bO).trans HZ0.out));have hz1:w.heap.size+1<W1.heap.size:=qd hZ1
 have hoF:∀k,S2 k->S k\/w.heap.size+1<k:=fun k hk=>by
  rcases hS2 k hk with h|h
  ·exact .inl h
  have:=hb1'.size;right;omega
 have HGT:=q8 hgT;have HCg:=q8 hCg;have HH:=q8 hh1;have HFb:=q8 hFb;have HB2:=q8 hB2';have HKw:=q8 hKw;have HZ1:=q8 hZ1;have HS2:=q8 hoF;have hvC:=hCg.n1;have hsG:=hCg.n40;clear hgT hCg hh1 hFb hB2' hKw hZ1 hoF hW1 hKs hl6 he5 hB2 hK2 hS2 hsF hoE hFO heC hS1 hF1 hhR hb1' hco hoc hjx hez hOw hb1 hpl hint hO hop hoe ho hS0 hSp ha6 hF0 s10 s11 s12 s13 s2 s3 hge HB0 HZ0 HB HRd hcs2;simp only[calm];have haD:=HCg.out.reg;have ham:=HCg.out.par;rw[HH.out.2.1,HH.out.2.2]at haD;rw[HH.out.2.1]at ham;obtain⟨m,hm⟩:∃m:Nat,f.regs=(m:Int):=⟨f.regs.toNat,by omega⟩;obtain⟨np,hnp⟩:∃np:Nat,f.params=(np:Int):=⟨f.params.toNat,by omega⟩;have hl7:m<=100:=by omega
 have hvD:np<=m:=by omega
 have HM:=q8 (zh hm hnp);clear haD ham;have hoG:W1.heap[w.heap.size]?=some (.cells #[.string f.name,Z np,Z m,.slice p2 g.blocks.length c2] 38 (0,0)):=by rw[←hm,←hnp];exact HFb.out
 have HFb:=q8 hoG;clear hoG hm hnp;obtain⟨fb,ff⟩:=blk HFb.out;have fb1:=fb 1;have fb2:=fb 2;have fb3:=fb 3;simp only[zE,zB,zD]at fb1 fb2 fb3;have fz:=qd HFb.out;clear fb
 go_wp2_with fail
 refine(Xi W1.heap.size 0 1 (-1) m _ bO (fun j hj=>by
  obtain rfl:j=0:=by omega
  exact(blk (qr (w:=W1) (o:=.cells #[Z (-1)] 3) rfl)).1 0)).mono ?_
 rintro e w3 ⟨rfl,hU,hb3⟩;obtain⟨A,hA⟩:=nZ ((W1.alloc (.cells #[Z (-1)] 3)).heap.size);rw[←hA]at hU ⊢;have he6:Below W1.heap.size W1 w3:=((zI _ W1).alloc (zK _) _).trans (hb3.mono (by rw[World.size_alloc];exact Nat.le_succ _));have hAz:W1.heap.size<A:=by rw[hA,World.size_alloc];exact Nat.lt_succ_self _
 have hF3:=(he6.block _ fz).trans HFb.out;clear fb1 fb2 fb3 ff fz;obtain⟨fb,ff⟩:=blk hF3;have fb1:=fb 1;have fb3:=fb 3;simp only[zE,zB,zD]at fb1 fb3;have fz:=qd hF3;have hAl:=hU.lt;clear fb hA hF3;have HU:=q8 hU;have HB3:=q8 he6;clear hU hb3 he6
 go_wp2_with fail
 have hU:=HU.out;have he6:=HB3.out;obtain⟨W2,hW2⟩:=nZ (w3.alloc (.cells #[.slice (some (J A 0)) m m,Z 0] 136));obtain⟨nb,hnb⟩:=nZ w3.heap.size;rw[←hW2,←hnb];have hb2:Below W1.heap.size W1 W2:=by rw[hW2];exact he6.alloc (by have:=he6.size;omega) _
 have hNm:NmL W2 nb A m []:=by
  refine⟨⟨?_,?_,by omega,by show(0:Int)<=0/\(0:Int)<=1000000;omega⟩,fun r hr=>(by cases hr),hl7⟩
  ·rw[hW2,hnb];exact qr rfl
  rw[hW2];exact hU.alloc _
 have hvE:W1.heap.size<=nb:=by have:=he6.size;omega
 have hOk:∀b (hb:b<g.blocks.length),OkB m g.blocks[b]:=fun b hb=>by
  have h:=HCg.out.okB hb;have e:g.regs.toNat=m:=by rw[HH.out.2.2,HM.out.1];rfl
  rwa [e]at h
 have hRd:SliceAt W1 6 (BlkR W1) p2 g.blocks:=by
  have hread:=HB2.out.read (R':=BlkR W1) qM bO fun _ _ _ h=>h.read;obtain⟨p,c,e,_,_,h⟩:=hread.outC;cases e;exact h
 have HB1:=q8 hb2;have HNm:=q8 hNm;have HOk:=q8 hOk;have HRd:=q8 hRd;clear hb2 hNm hOk hRd hW2 hnb he6 hU hAl HU HB3
 go_loopg [35] np (fun q s35 wr=>∃k:Nat,k<=np/\q=np - k/\s35=Z k/\NmL wr nb A m (List.range k)/\Below W1.heap.size W1 wr)
 case atStart=>exact⟨0,by omega,rfl,rfl,HNm.out,HB1.out⟩
 case round=>
  obtain⟨k,hk,rfl,rfl,hN,hb⟩:=hrel;obtain⟨wo,hwo⟩:=nZ wr;subst hwo;have HNk:=q8 hN;have HBk:=q8 hb;clear hN hb fb1 fb3 ff fz
  by_cases hlt:k<np
  ·go_wp2_with fail
   refine(kt HNk.out k bO).mono ?_;rintro e w5 ⟨rfl,hN5,hK5⟩;rw[←yt]at hN5;have hb5:Below W1.heap.size W1 w5:=HBk.out.trans (hK5.below HBk.out.size (fun i e=>by omega));generalize (stL (List.range k++[k])).1 k=z;have HN5:=q8 hN5;have HB5:=q8 hb5;clear hN5 hK5 hb5
   go_wp2_with fail
   go_roundg (np - (k+1))
   case measure=>omega
   case rel=>exact⟨k+1,by omega,rfl,by go_num,HN5.out,HB5.out⟩
  obtain rfl:np=k:=by omega
  have hF4:=(HBk.out.block _ (qd HFb.out)).trans HFb.out;obtain⟨fb,ff⟩:=blk hF4;have fb3:=fb 3;simp only[zE,zB,zD]at fb3;have fz:=qd hF4;clear fb hF4
  go_wp2_with fail
  clear fb3 ff fz
  go_loopg [45] g.blocks.length (fun q s45 wr=>∃i:Nat,i<=g.blocks.length/\q=g.blocks.length - i/\s45=Z i/\NmL wr nb A m (List.range np++(g.blocks.take i).flatMap KG)/\Below W1.heap.size W1 wr)
  case atStart=>exact⟨0,by omega,rfl,rfl,by rw[List.take_zero];exact(List.append_nil (List.range np)).symm ▸ HNk.out,HBk.out⟩
  case round=>
   obtain⟨i,hi,rfl,rfl,hN,hb⟩:=hrel;obtain⟨wi,hwi⟩:=nZ wr;subst hwi;have HNi:=q8 hN;have HBi:=q8 hb;have hnz:=hN.at;clear hN hb HNk HBk
   by_cases hil:i<g.blocks.length
   ·obtain⟨bp,op,cs,hp,_,hc,v1,v2,v3,rfl,b3,b4,b5,b6,b7⟩:=HRd.out.get hil;subst hp;obtain⟨q1,d1,rfl,_,_,z1⟩:=b5.outC;obtain⟨q2,d2,rfl,_,_,z2⟩:=b6.outC;obtain⟨q3,d3,rfl,_,_,z3⟩:=b7.outC;have hok:=HOk.out i hil;obtain⟨x,hxe⟩:=nZ (g.blocks[i]);rw[←hxe]at hc b5 b6 z1 z2 hok;have hbp:=q9 (hc 0 bO);have hcw:∀j,j<6->wi.cell? (J bp (op+i*6+j))=_:=fun j hj=>(HBi.out.cell (p:=(J bp _)) hbp).trans (hc j hj);have c0:=hcw 0 bO;have c1:=hcw 1 bO;have c2:=hcw 2 bO;have c3:=hcw 3 bO;have c4:=hcw 4 bO;have c5:=hcw 5 bO;simp only[zB,zD,yJ]at c0 c1 c2 c3 c4 c5;have hl1:=b5.bdC;have hl2:=b6.bdC;unfold reachBytes at hl1 hl2;have HXe:=q8 hxe;have HOx:=q8 hok;have HZ:=q8 (zh z1 z2);clear hxe hok z1 z2 z3 hc hcw b3 b4 b5 b6 b7
    go_wp2_with fail
    obtain⟨W4,hW4⟩:=nZ (wi.alloc (.cells #[.slice q1 x.phis.length d1,.slice q2 x.list.length d2,Z x.fin.kind,.bool x.fin.onr,Z x.fin.onn,.slice q3 x.fin.to.length d3] 49));rw[←hW4];have hz4:W4.heap.size=wi.heap.size+1:=(by rw[hW4];simp);have hb4:Below wi.heap.size wi W4:=(by rw[hW4];exact bZ);have hX4:W4.heap[wi.heap.size]?=some (.cells #[.slice q1 x.phis.length d1,.slice q2 x.list.length d2,Z x.fin.kind,.bool x.fin.onr,Z x.fin.onn,.slice q3 x.fin.to.length d3] 49 (0,0)):=(by rw[hW4];exact qr rfl);obtain⟨L,hL⟩:=nZ (List.range np++(g.blocks.take i).flatMap KG);have hN4:=HNi.out.below hb4;rw[←hL]at hN4;have HL:=q8 hL;have HN4:=q8 hN4;have HX4:=q8 hX4;have HB4:=q8 (HBi.out.trans (hb4.mono HBi.out.size));have hBz:=HBi.out.size;clear hW4 hb4 hX4 hL hN4 c0 c1 c2 c3 c4 c5
    go_loopg [52] x.phis.length (fun q s52 wr=>∃j:Nat,j<=x.phis.length/\q=x.phis.length - j/\s52=Z j/\NmL wr nb A m (L++(x.phis.take j).map fun p=>p.dst.toNat)/\Kept (fun k=>k=nb\/k=A) W4 wr)
    case atStart=>exact⟨0,by omega,rfl,rfl,by rw[List.take_zero];exact(List.append_nil L).symm ▸ HN4.out,Kept.refl _ _⟩
    case round=>
     obtain⟨j,hj,rfl,rfl,hN,hK⟩:=hrel;obtain⟨wp,hwp⟩:=nZ wr;subst hwp;have hbw:Below W1.heap.size W1 wp:=HB4.out.trans (hK.below HB4.out.size (fun i e=>by omega));have hXp:wp.heap[wi.heap.size]?=some (.cells #[.slice q1 x.phis.length d1,.slice q2 x.list.length d2,Z x.fin.kind,.bool x.fin.onr,Z x.fin.onn,.slice q3 x.fin.to.length d3] 49 (0,0)):=(hK.block _ bO bO).trans HX4.out;have HNp:=q8 hN;have HKp:=q8 hK;have HBp:=q8 hbw;have hoH:=hK.size;have hsH:=hbw.size;obtain⟨xb,xf⟩:=blk hXp;have xb1:=xb 1;simp only[zE,zB,zD]at xb1;have xz:=qd hXp;have HXp:=q8 hXp;clear hN hK hbw hXp xb
     by_cases hjl:j<x.phis.length
     ·obtain⟨be,oe,ce,hpe,_,hce,ve,rfl,hbK,hse⟩:=HZ.out.1.get hjl;subst hpe;obtain⟨qe,de,rfl,_⟩:=hse.outC;obtain⟨p,hpe⟩:=nZ (x.phis[j]);have hdst:=HOx.out.dst p (by rw[hpe];exact zP hjl);rw[←hpe]at hce;obtain⟨d,hd⟩:∃d:Nat,p.dst=(d:Int):=⟨p.dst.toNat,by omega⟩;rw[hd]at hdst;have hbe:=q9 (hce 0 bO);have e0:=(HBp.out.cell (p:=(J be _)) hbe).trans (hce 0 bO);have e1':=(HBp.out.cell (p:=(J be _)) hbe).trans (hce 1 bO);simp only[zB,zD,yJ]at e0 e1';rw[hd]at e0
      have hnw:L++(x.phis.take (j+1)).map (fun p=>p.dst.toNat)=(L++(x.phis.take j).map fun p=>p.dst.toNat)++[d]:=by
       rw[yA hjl,yW,←yF,yS,yw,←hpe,hd,xC]
      have hdm:d<m:=(by omega);have HNw:=q8 hnw;have HPe:=q8 (zh hpe hd);clear hnw hpe hce hbK hse hdst hd xb1 xf
      go_wp2_with fail
      refine(kt (HNp.out.below (w':=wp.alloc (.cells #[Z d,.slice qe p.src.length de] 84)) bZ) d hdm).mono ?_;rintro e w7 ⟨rfl,hN7,hK7⟩;rw[←HNw.out]at hN7;generalize (stL (L++(x.phis.take j).map (fun p=>p.dst.toNat)++[d])).1 d=z;have hoI:Kept (fun k=>k=nb\/k=A) W4 w7:=(HKp.out.alloc _).trans hK7 (fun _ _ h=>h);have HN7:=q8 hN7;have HK7:=q8 hoI;clear hN7 hK7 hoI e0 e1'
      go_wp2_with fail
      go_roundg (x.phis.length - (j+1))
      case measure=>omega
      case rel=>exact⟨j+1,by omega,rfl,by go_num,HN7.out,HK7.out⟩
     obtain rfl:x.phis.length=j:=(by omega);have hN2:=HNp.out;rw[yP]at hN2;obtain⟨L2,hL2⟩:=nZ (L++x.phis.map fun p=>p.dst.toNat);rw[←hL2]at hN2;have HL2:=q8 hL2;have HN2:=q8 hN2;have HK2:=q8 HKp.out;clear hN2 hL2 HNp
     go_wp2_with fail
     clear HKp HBp HXp hoH hsH xb1 xf xz
     go_loopg [64] x.list.length (fun q s64 wr=>∃j:Nat,j<=x.list.length/\q=x.list.length - j/\s64=Z j/\NmL wr nb A m (L2++(x.list.take j).flatMap fun i=>Qx i++vO i.dst)/\Kept (fun k=>k=nb\/k=A) W4 wr)
     case atStart=>exact⟨0,by omega,rfl,rfl,by rw[List.take_zero];exact(List.append_nil L2).symm ▸ HN2.out,HK2.out⟩
     case round=>
      obtain⟨j,hj,rfl,rfl,hN,hK⟩:=hrel;obtain⟨ws,hws⟩:=nZ wr;subst hws;have hbw:Below W1.heap.size W1 ws:=HB4.out.trans (hK.below HB4.out.size (fun i e=>by omega));have hsK:=hK.size;have hsM:=hbw.size;have hXs:ws.heap[wi.heap.size]?=some (.cells #[.slice q1 x.phis.length d1,.slice q2 x.list.length d2,Z x.fin.kind,.bool x.fin.onr,Z x.fin.onn,.slice q3 x.fin.to.length d3] 49 (0,0)):=(hK.block _ bO bO).trans HX4.out;obtain⟨xb,xf⟩:=blk hXs;have xb3:=xb 3;have xb4:=xb 4;simp only[zE,zB,zD]at xb3 xb4;have xz:=qd hXs;have hvG:=hN.at;have HNs:=q8 hN;have HKs:=q8 hK;have HBs:=q8 hbw;clear hN hK hbw hXs xb
      by_cases hjl:j<x.list.length
      rotate_left
      ·obtain rfl:x.list.length=j:=(by omega);have hN3:=HNs.out;rw[yP]at hN3;have HN3:=q8 hN3;clear hN3
       go_wp2_with fail
       refine(jJ HN3.out (x.fin.onr,x.fin.onn) HOx.out.on).mono ?_;rintro e w8 ⟨rfl,hN8,hK8⟩;generalize (xw (stL _).1 (x.fin.onr,x.fin.onn)).2=z;have hb8:Below W1.heap.size W1 w8:=HBs.out.trans (hK8.below HBs.out.size (fun i e=>by omega))
       have hfin:(L2++x.list.flatMap fun i=>Qx i++vO i.dst)++xQ (x.fin.onr,x.fin.onn)=List.range np++(g.blocks.take (i+1)).flatMap KG:=by
        rw[yA hil,yn,←yF,←HL.out,←HXe.out,HL2.out];simp[KG]
       rw[hfin]at hN8;have HN8:=q8 hN8;have HB8:=q8 hb8;clear hN8 hK8 hb8 hfin xb3 xb4 xf
       go_wp2_with fail
       go_roundg (g.blocks.length - (i+1))
       case measure=>omega
       case rel=>exact⟨i+1,by omega,rfl,by go_num,HN8.out,HB8.out⟩
      obtain⟨be,oe,ce,hpe,_,hce,ve,rfl,y1,y2,y3,y4,y5,hse⟩:=HZ.out.2.get hjl;subst hpe;obtain⟨qy,dy,rfl,_,_,zy⟩:=hse.outC;obtain⟨y,hye⟩:=nZ (x.list[j]);have hmem:y∈x.list:=(by rw[hye];exact zP hjl);rw[←hye]at hce zy hse;have hly:=hse.bdC;unfold reachBytes at hly;have hbe:=q9 (hce 0 bO);have hcw:∀i,i<8->ws.cell? (J be (oe+j*8+i))=_:=fun i hi=>(HBs.out.cell (p:=(J be _)) hbe).trans (hce i hi);have e0:=hcw 0 bO;have e1':=hcw 1 bO;have e2:=hcw 2 bO;have e3:=hcw 3 bO;have e4:=hcw 4 bO;have e5:=hcw 5 bO;have e6:=hcw 6 bO;have e7:=hcw 7 bO;simp only[zB,zD,yJ]at e0 e1' e2 e3 e4 e5 e6 e7;obtain⟨L3,hL3⟩:=nZ (L2++(x.list.take j).flatMap fun i=>Qx i++vO i.dst);have hN3:=HNs.out;rw[←hL3]at hN3;have HYe:=q8 (zh hye hmem);have HL3:=q8 hL3;have HZy:=q8 zy;have HN3:=q8 hN3;clear hye hmem hce hcw y1 y2 y3 y4 y5 hse hL3 hN3 zy xb3 xb4 xf HNs
      go_wp2_with fail
      obtain⟨w5,hw5⟩:=nZ (ws.alloc (.cells #[Z y.op,Z y.dst,.bool y.ar,Z y.an,.bool y.br,Z y.bn,Z y.fn,.slice qy y.args.length dy] 51));rw[←hw5];have hz5:w5.heap.size=ws.heap.size+1:=(by rw[hw5];simp);have hb5:Below ws.heap.size ws w5:=(by rw[hw5];exact bZ);have hY5:w5.heap[ws.heap.size]?=some (.cells #[Z y.op,Z y.dst,.bool y.ar,Z y.an,.bool y.br,Z y.bn,Z y.fn,.slice qy y.args.length dy] 51 (0,0)):=(by rw[hw5];exact qr rfl);have hN5:=HN3.out.below hb5;have HB5:=q8 hb5;have HY5:=q8 hY5;have HN5:=q8 hN5;clear hw5 hb5 hY5 hN5 e0 e1' e2 e3 e4 e5 e6 e7;refine(jJ HN5.out (y.ar,y.an) (HOx.out.ia y HYe.out.2)).mono ?_;rintro e w6 ⟨rfl,hN6,hK6⟩;generalize (xw (stL _).1 (y.ar,y.an)).2=za;have hz6:=hK6.size;have hY6:w6.heap[ws.heap.size]?=some (.cells #[Z y.op,Z y.dst,.bool y.ar,Z y.an,.bool y.br,Z y.bn,Z y.fn,.slice qy y.args.length dy] 51 (0,0)):=(hK6.block _ bO bO).trans HY5.out;obtain⟨yb,yf⟩:=blk hY6;have yb4:=yb 4;have yb5:=yb 5;simp only[zE,zB,zD]at yb4 yb5;have yz:=qd hY6;have HN6:=q8 hN6;have HK6:=q8 hK6;have HY6:=q8 hY6;clear hN6 hK6 hY6 yb
      go_wp2_with fail
      refine(jJ HN6.out (y.br,y.bn) (HOx.out.ib y HYe.out.2)).mono ?_;rintro e w7 ⟨rfl,hN7,hK7⟩;generalize (xw (stL _).1 (y.br,y.bn)).2=zb;have hz7:=hK7.size;have hY7:w7.heap[ws.heap.size]?=some (.cells #[Z y.op,Z y.dst,.bool y.ar,Z y.an,.bool y.br,Z y.bn,Z y.fn,.slice qy y.args.length dy] 51 (0,0)):=(hK7.block _ bO bO).trans HY6.out;clear yb4 yb5 yf yz;obtain⟨yb,yf⟩:=blk hY7;have yb7:=yb 7;simp only[zE,zB,zD]at yb7;have yz:=qd hY7;have hoJ:Kept (fun k=>k=nb\/k=A) w5 w7:=HK6.out.trans hK7 (fun _ _ h=>h);obtain⟨L4,hL4⟩:=nZ (L3++xQ (y.ar,y.an)++xQ (y.br,y.bn));rw[←hL4]at hN7;have HL4:=q8 hL4;have HN7:=q8 hN7;have HK7:=q8 hoJ;clear hN7 hK7 hoJ hL4 hY7 yb HK6 HY6 HN6 hz6 hz7
      go_wp2_with fail
      clear yb7 yf yz
      go_loopg [79] y.args.length (fun q s79 wr=>∃n:Nat,n<=y.args.length/\q=y.args.length - n/\s79=Z n/\NmL wr nb A m (L4++(y.args.take n).flatMap xQ)/\Kept (fun k=>k=nb\/k=A) w5 wr)
      case atStart=>exact⟨0,by omega,rfl,rfl,by rw[List.take_zero];exact(List.append_nil L4).symm ▸ HN7.out,HK7.out⟩
      case round=>
       obtain⟨n,hn,rfl,rfl,hN,hK⟩:=hrel;obtain⟨wv,hwv⟩:=nZ wr;subst hwv;have hoK:=hK.size;have hYv:wv.heap[ws.heap.size]?=some (.cells #[Z y.op,Z y.dst,.bool y.ar,Z y.an,.bool y.br,Z y.bn,Z y.fn,.slice qy y.args.length dy] 51 (0,0)):=(hK.block _ bO bO).trans HY5.out;have hbv:Below W1.heap.size W1 wv:=HBs.out.trans ((HB5.out.mono hsM).trans (hK.below bO (fun i e=>by omega)));have HNv:=q8 hN;have HKv:=q8 hK;have HYv:=q8 hYv;have HBv:=q8 hbv;clear hN hK hYv hbv HN7 HK7
       by_cases hnl:n<y.args.length
       ·obtain⟨bv,ov,cv,hpv,_,hcv,hrv⟩:=HZy.out.get hnl;subst hpv;obtain⟨v,hve⟩:=nZ (y.args[n]);have hvm:=HOx.out.ic y HYe.out.2 v (by rw[hve];exact zP hnl);rw[←hve]at hrv;obtain⟨hcs,_⟩:=hrv;subst hcs;have hbv:=q9 (hcv 0 bO);have v0:=(HBv.out.cell (p:=(J bv _)) hbv).trans (hcv 0 bO);have v1:=(HBv.out.cell (p:=(J bv _)) hbv).trans (hcv 1 bO);simp only[zB,zD,yJ]at v0 v1
        have hnw:(L4++(y.args.take n).flatMap xQ)++xQ v=L4++(y.args.take (n+1)).flatMap xQ:=by
         rw[yA hnl,yn,←yF,←hve];simp
        have HVm:=q8 hvm;have HNw:=q8 hnw;clear hve hvm hcv hnw
        go_wp2_with fail
        refine(jJ (HNv.out.below (w':=wv.alloc (.cells #[.bool v.1,Z v.2] 44)) bZ) v HVm.out).mono ?_;rintro e w8 ⟨rfl,hN8,hK8⟩;rw[HNw.out]at hN8;generalize (xw (stL _).1 v).2=zc;have hoL:Kept (fun k=>k=nb\/k=A) w5 w8:=(HKv.out.alloc _).trans hK8 (fun _ _ h=>h);have HN8:=q8 hN8;have HK8:=q8 hoL;clear hN8 hK8 hoL v0 v1
        go_wp2_with fail
        go_roundg (y.args.length - (n+1))
        case measure=>omega
        case rel=>exact⟨n+1,by omega,rfl,by go_num,HN8.out,HK8.out⟩
       obtain rfl:y.args.length=n:=(by omega);have hN8:=HNv.out;rw[yP]at hN8;obtain⟨yb,yf⟩:=blk HYv.out;have yb1:=yb 1;simp only[zE,zB,zD]at yb1;have yz:=qd HYv.out
       have hlist:L2++(x.list.take (j+1)).flatMap (fun i=>Qx i++vO i.dst)=(L4++y.args.flatMap xQ)++vO y.dst:=by
        rw[yA hjl,yn,←yF,←HL3.out,←HYe.out.1,HL4.out];simp[Qx]
       have hKw:Kept (fun k=>k=nb\/k=A) W4 wv:=(HKs.out.trans (Kept.of_below (S:=fun _=>False) HB5.out) (fun _ _ h=>h.elim)).trans HKv.out (fun _ _ h=>h);have HN8:=q8 hN8;have HLi:=q8 hlist;have HKw:=q8 hKw;clear hN8 hlist hKw yb
       by_cases hd:0<=y.dst
       ·obtain⟨d,hdd⟩:∃d:Nat,y.dst=(d:Int):=⟨y.dst.toNat,by omega⟩;have hdm:d<m:=(by have:=HOx.out.id y HYe.out.2;omega);have hmd:vO y.dst=[d]:=(by unfold vO;rw[zZ hd,hdd];rfl);have HMd:=q8 hmd;have HDd:=q8 hdd;rw[hdd]at yb1 hd;clear hmd hdd
        go_wp2_with fail
        refine(kt HN8.out d hdm).mono ?_;rintro e w9 ⟨rfl,hN9,hK9⟩;rw[←HMd.out,←HLi.out]at hN9;generalize (stL _).1 d=ze;have hoM:Kept (fun k=>k=nb\/k=A) W4 w9:=HKw.out.trans hK9 (fun _ _ h=>h);have HN9:=q8 hN9;have HK9:=q8 hoM;clear hN9 hK9 hoM
        go_wp2_with fail
        go_roundg (x.list.length - (j+1))
        case measure=>omega
        case rel=>exact⟨j+1,by omega,rfl,by go_num,HN9.out,HK9.out⟩
       have hmd:vO y.dst=[]:=(by unfold vO;rw[zQ hd]);have HMd:=q8 hmd;clear hmd
       go_wp2_with fail
       go_roundg (x.list.length - (j+1))
       case measure=>omega
       case rel=>exact⟨j+1,by omega,rfl,by go_num,by rw[HLi.out,HMd.out,List.append_nil];exact HN8.out,HKw.out⟩
   obtain rfl:g.blocks.length=i:=by omega
   have hLF:List.range np++(g.blocks.take g.blocks.length).flatMap KG=Qh g:=by
    rw[yP];unfold Qh;have e:g.params.toNat=np:=(by rw[HH.out.2.1,HM.out.2];rfl);rw[e]
   have hN3:=HNi.out;rw[hLF]at hN3;have hS3:=HB2.out.sl.below qM HBi.out
   have hoN:∀k,S2 k->k<W1.heap.size/\k≠w.heap.size:=fun k hk=>⟨HB2.out.sl.inb k hk,fun e=>by
    rcases HS2.out k hk with h|h
    ·have:=HSb.out k h;omega
    omega⟩
   have hF3:=(HBi.out.block _ (qd HFb.out)).trans HFb.out;obtain⟨M,hM⟩:=nZ ((stL (Qh g++ZD g)).1);obtain⟨W3,hW3⟩:=nZ wi;subst hW3;have hz3:=HBi.out.size;have HN3:=q8 hN3;have HS3:=q8 hS3;have HSl:=q8 hoN;have HF3:=q8 hF3
   have hMb:∀r,-1<=M r/\M r<=m:=fun r=>by
    have e:g.regs.toNat=m:=(by rw[HH.out.2.2,HM.out.1];rfl);have:=(stL_bd (m:=m) (L:=Qh g++ZD g) (fun r hr=>by rw[←e];exact HCg.out.metLt r hr)).2 r;rw[hM];exact this
   have HMb:=q8 hMb;have HMd:=q8 hM;clear hMb;have HB3:=q8 HBi.out;obtain⟨fb,ff⟩:=blk hF3;have fb3:=fb 3;simp only[zE,zB,zD]at fb3;have fz:=qd hF3;clear hN3 hS3 hoN hF3 hM hLF HNi HBi fb
   go_wp2_with fail
   clear fb3 ff fz
   go_loopg [104] g.blocks.length (fun q s104 wr=>∃i:Nat,i<=g.blocks.length/\q=g.blocks.length - i/\s104=Z i/\NmL wr nb A m (Qh g++(g.blocks.take i).flatMap J0)/\SlO 49 6 BlkO wr (.slice p2 g.blocks.length c2) (qG i (KH M) g.blocks) S2/\Kept (fun k=>S2 k\/k=nb\/k=A) W3 wr)
   case atStart=>exact⟨0,by omega,rfl,rfl,by rw[List.take_zero];exact(List.append_nil (Qh g)).symm ▸ HN3.out,by rw[qU];exact HS3.out,Kept.refl _ _⟩
   case round=>
    obtain⟨i,hi,rfl,rfl,hN,hS,hK⟩:=hrel;obtain⟨wj,hwj⟩:=nZ wr;subst hwj;have hj8:=hK.size;have hvH:=hN.at
    have hFj:wj.heap[w.heap.size]?=some (.cells #[.string f.name,Z np,Z m,.slice p2 g.blocks.length c2] 38 (0,0)):=(hK.block _ (qd HF3.out) (fun h=>by
     rcases h with h|h|h
     ·exact(HSl.out _ h).2 rfl
     ·omega
     omega)).trans HF3.out
    obtain⟨fb,ff⟩:=blk hFj;have fb3:=fb 3;simp only[zE,zB,zD]at fb3;have fz:=qd hFj;have HNj:=q8 hN;have HSj:=q8 hS;have HKj:=q8 hK;have HFj:=q8 hFj;clear hN hS hK hFj fb
    by_cases hil:i<g.blocks.length
    rotate_left
    ·obtain rfl:g.blocks.length=i:=(by omega);have hN9:=HNj.out;rw[yP]at hN9;obtain⟨z,hz⟩:=nZ ((stL (Qh g++ZD g)).2);have hst:wj.heap[nb]?=some (.cells #[.slice (some (J A 0)) m m,Z z] 136 (0,0)):=by rw[hz];exact hN9.st.st
     have hoO:I64 z:=by
      have h:=hN9.st.many;have e:(stL (Qh g++g.blocks.flatMap J0)).2=z:=hz.symm;rw[e]at h;unfold I64;omega
     have hSf:=HSj.out;rw[qR]at hSf
     have hZj:wj.heap[w.heap.size+1]?=some (.cells #[.string { data:=#[] },Z 0,Z 0,.slice none 0 0] 38 (0,0)):=(HKj.out.block _ (by have:=qd HZ1.out;omega) (fun h=>by
      rcases h with h|h|h
      ·rcases HS2.out _ h with h2|h2
       ·have:=HSb.out _ h2;omega
       omega
      ·have:=qd HZ1.out;omega
      have:=qd HZ1.out;omega)).trans ((HB3.out.block _ (qd HZ1.out)).trans HZ1.out)
     have hgT:jH f=xO g:=(by rw[HGT.out];rfl);have hhd:(xO g).name=f.name/\(xO g).params=f.params:=⟨HH.out.1,HH.out.2.1⟩;have hrz:(xO g).regs=z:=(by rw[hz];rfl);have hbl:(xO g).blocks=g.blocks.map (KH M):=(by rw[HMd.out];rfl);obtain⟨fb',_⟩:=blk HFj.out;have fb0:=fb' 0;have fb1:=fb' 1;have fb2:=fb' 2;obtain⟨yb,yf⟩:=blk hZj;have yb0:=yb 0;have yb1:=yb 1;have yb2:=yb 2;have yb3:=yb 3;have yz:=qd hZj;obtain⟨nbb,nbf⟩:=blk hst;have nb1:=nbb 1;have nbz:=qd hst;simp only[zE,zB,zD]at fb0 fb1 fb2 yb0 yb1 yb2 yb3 nb1;have HSf:=q8 hSf;have HZj:=q8 hZj;have HGt:=q8 hgT;have HHd:=q8 hhd;have HRz:=q8 hrz;have HBl:=q8 hbl;have hsN:=q8 hoO;clear hN9 hst hSf hZj hgT hhd hrz hbl hoO hz fb' yb nbb HNj HSj
     go_wp2_with fail
     obtain⟨WF,hWF⟩:=nZ (((((wj.setCell (J w.heap.size 2) (Z z)).setCell (J (w.heap.size+1) 0) (.string f.name)).setCell (J (w.heap.size+1) 1) (Z np)).setCell (J (w.heap.size+1) 2) (Z z)).setCell (J (w.heap.size+1) 3) (.slice p2 g.blocks.length c2));rw[←hWF]
     have hK:Kept (fun k=>k=w.heap.size\/k=w.heap.size+1) wj WF:=by
      rw[hWF];have h0:Kept (fun k=>k=w.heap.size\/k=w.heap.size+1) wj wj:=Kept.refl _ wj;have h1:=h0.setCell (p:=(J w.heap.size 2)) (.inl rfl) (Z z);have h2:=h1.setCell (p:=(J (w.heap.size+1) 0)) (.inr rfl) (.string f.name);have h3:=h2.setCell (p:=(J (w.heap.size+1) 1)) (.inr rfl) (Z np);have h4:=h3.setCell (p:=(J (w.heap.size+1) 2)) (.inr rfl) (Z z);exact h4.setCell (p:=(J (w.heap.size+1) 3)) (.inr rfl) (.slice p2 g.blocks.length c2)
     have hRF:WF.heap[w.heap.size+1]?=some (.cells #[.string f.name,Z np,Z z,.slice p2 g.blocks.length c2] 38 (0,0)):=by
      have h0:(wj.setCell (J w.heap.size 2) (Z z)).heap[w.heap.size+1]?=_:=(zJ _ _ _ _ (by show w.heap.size+1≠w.heap.size;omega)).trans HZj.out;rw[hWF,qj (qj (qj (qj h0 0 _) 1 _) 2 _) 3 _];rfl
     clear hWF;obtain⟨rb,_⟩:=blk hRF;have rb0:=rb 0;have rb1:=rb 1;have rb2:=rb 2;have rb3:=rb 3;simp only[zE,zB,zD]at rb0 rb1 rb2 rb3
     have hres:(.agg #[.string f.name,Z np,Z z,.slice p2 g.blocks.length c2]:Value) = .agg #[.string f.name,Z f.params,Z (jH f).regs,.slice p2 (jH f).blocks.length c2]:=by
      rw[HGt.out,HRz.out,x9,HM.out.2]
     have hfun:FunO WF [.string f.name,Z f.params,Z (jH f).regs,.slice p2 (jH f).blocks.length c2] (jH f) S2:=by
      rw[HGt.out,x9];refine⟨.slice p2 g.blocks.length c2,?_,?_,?_,?_,⟨?_,?_⟩⟩
      ·rw[HHd.out.1,HHd.out.2]
      ·rw[HHd.out.1];exact HN.out.1
      ·rw[HHd.out.2];exact HN.out.2.1
      ·rw[HRz.out];exact hsN.out
      ·rw[HBl.out]
       exact HSf.out.kept qM hK (fun k h1 h2=>by
        have h3:=(HSl.out k h2).2;rcases HS2.out _ h2 with h4|h4
        ·have:=HSb.out _ h4;omega
        omega)
      rw[x9];exact HB2.out.bd
     have hkw:Kept S w WF:=by
      have h1:Kept S w W3:=HKw.out.trans (Kept.of_below HB3.out) (fun k _ h=>h);have hsz:=HKw.out.size
      have h2:Kept S w wj:=h1.trans HKj.out (fun k hk h=>by
       rcases h with h|h|h
       ·rcases HS2.out _ h with h4|h4
        ·exact h4
        omega
       ·omega
       omega)
      exact h2.trans hK (fun k hk h=>by omega)
     refine zk (v:=.agg #[.string f.name,Z np,Z z,.slice p2 g.blocks.length c2]) ?_ rfl ⟨p2,c2,S2,by rw[←hres],hfun,fun k hk=>(HS2.out k hk).imp id (fun h=>by omega),hkw⟩;simp[results,Tryz.results65,go_sem,rb0,rb1,rb2,rb3]
    have hhJ:i<(qG i (KH M) g.blocks).length:=(by rw[qO];exact hil);obtain⟨gb,cb,csb,Tb,hvb,hgb,hoP,hsQ,hxb,hoQ,hoR,he7,hoS,⟨curb,hhS⟩,putb⟩:=HSj.out.focus qM bO hhJ;rw[xh hhJ (zK _)]at hxb;obtain⟨x,hxe⟩:=nZ (g.blocks[i]);have hok:=HOk.out i hil;rw[←hxe]at hxb hok;obtain⟨v1,v2,v3,S1,Sl,St,rfl,j1,j2,h3,h4,h5,a1,a2,a3,g1,g2,g3⟩:=hxb;obtain⟨q1,d1,rfl,_⟩:=h3.sl.val;obtain⟨q2,d2,rfl,_⟩:=h4.sl.val;obtain⟨q3,d3,rfl,_⟩:=h5.sl.val;have hp2:p2=some (J gb 0):=(by injection hvb);subst hp2;have c0:=he7 0 bO;have c1:=he7 1 bO;have c2':=he7 2 bO;have c3:=he7 3 bO;have c4:=he7 4 bO;have c5:=he7 5 bO;simp only[zB,zD,yJ]at c0 c1 c2' c3 c4 c5;have hl1:=h3.bd;have hl2:=h4.bd;unfold reachBytes at hl1 hl2;obtain⟨L,hL⟩:=nZ (Qh g++(g.blocks.take i).flatMap J0)
    have hpre:∀Q,Q <+: J0 x->(L++Q) <+: Qh g++ZD g:=fun Q hQ=>by
     rw[hL,yF];exact(List.prefix_append_right_inj _).2 (QC hil (by rw[←hxe];exact hQ))
    have hN4:=HNj.out;rw[←hL]at hN4;have hT2:∀k,Tb k->S2 k:=hoR;have HXe:=q8 hxe;have HOx:=q8 hok;have HP3:=q8 h3;have HP4:=q8 h4;have HP5:=q8 h5;have HJ:=q8 (zh j1 j2);have HAp:=q8 (zh a1 (zh a2 a3));have HG:=q8 (zh g1 (zh g2 g3));have haA:=q8 putb;have HTb:=q8 (zh hoQ hT2);have hee:=q8 hhS;have HCe:=q8 he7;have HFz:=q8 hoS;have HSg:=q8 hoP;have HL:=q8 hL;have hoT:=q8 hpre;have HN4:=q8 hN4;clear hvb hxe hok h3 h4 h5 j1 j2 a1 a2 a3 g1 g2 g3 putb hoQ hoR hT2 hhS he7 hsQ hoP hL hpre hN4
    go_wp2_with fail
    obtain⟨W4,hW4⟩:=nZ (wj.alloc (.cells #[.slice q1 x.phis.length d1,.slice q2 x.list.length d2,Z x.fin.kind,.bool x.fin.onr,Z x.fin.onn,.slice q3 x.fin.to.length d3] 49));rw[←hW4];have hz4:W4.heap.size=wj.heap.size+1:=(by rw[hW4];simp);have hb4:Below wj.heap.size wj W4:=(by rw[hW4];exact bZ);have hX4:W4.heap[wj.heap.size]?=some (.cells #[.slice q1 x.phis.length d1,.slice q2 x.list.length d2,Z x.fin.kind,.bool x.fin.onr,Z x.fin.onn,.slice q3 x.fin.to.length d3] 49 (0,0)):=(by rw[hW4];exact qr rfl);have hoU:∀k,S1 k->S2 k/\k<W1.heap.size:=fun k hk=>⟨HTb.out.2 k (HG.out.1 k hk),(HSl.out k (HTb.out.2 k (HG.out.1 k hk))).1⟩;have hoV:∀k,Sl k->S2 k/\k<W1.heap.size:=fun k hk=>⟨HTb.out.2 k (HG.out.2.1 k hk),(HSl.out k (HTb.out.2 k (HG.out.2.1 k hk))).1⟩;have HX4:=q8 hX4;have HB4:=q8 hb4;have hsS:=q8 (HN4.out.below hb4);have hsT:=q8 (HP3.out.sl.below x8 hb4);have hdP:=q8 hoU;have hdQ:=q8 hoV;clear hW4 hb4 hX4 hoU hoV c0 c1 c2' c3 c4 c5 fb3 ff fz hoS
    go_loopg [112] x.phis.length (fun q s112 wr=>∃j:Nat,j<=x.phis.length/\q=x.phis.length - j/\s112=Z j/\NmL wr nb A m (L++(x.phis.take j).flatMap metP)/\SlO 84 2 PhiO wr (.slice q1 x.phis.length d1) (qG j (renP M) x.phis) S1/\Kept (fun k=>S1 k\/k=nb\/k=A) W4 wr)
    case atStart=>exact⟨0,by omega,rfl,rfl,by rw[List.take_zero];exact(List.append_nil L).symm ▸ hsS.out,by rw[qU];exact hsT.out,Kept.refl _ _⟩
    case round=>
     obtain⟨j,hj,rfl,rfl,hN,hP,hK⟩:=hrel;obtain⟨wp,hwp⟩:=nZ wr;subst hwp;have hoH:=hK.size
     have hXp:wp.heap[wj.heap.size]?=some (.cells #[.slice q1 x.phis.length d1,.slice q2 x.list.length d2,Z x.fin.kind,.bool x.fin.onr,Z x.fin.onn,.slice q3 x.fin.to.length d3] 49 (0,0)):=(hK.block _ bO (fun h=>by
      rcases h with h|h|h
      ·have:=(hdP.out _ h).2;omega
      ·omega
      omega)).trans HX4.out
     obtain⟨xb,xf⟩:=blk hXp;have xb0:=xb 0;have xb1:=xb 1;simp only[zE,zB,zD]at xb0 xb1;have xz:=qd hXp;have HNp:=q8 hN;have HPp:=q8 hP;have HKp:=q8 hK;have HXp:=q8 hXp;clear hN hP hK hXp xb
     by_cases hjl:j<x.phis.length
     ·have haP:j<(qG j (renP M) x.phis).length:=(by rw[qO];exact hjl);obtain⟨gp,cp,csp,Tp,hvp,hgp,hdE,hhL,hxp,hdL,hdM,hbF,heB,⟨curp,haT⟩,putp⟩:=HPp.out.focus x8 bO haP;rw[xh haP (zK _)]at hxp;obtain⟨p,hpe⟩:=nZ (x.phis[j]);have hpm:p∈x.phis:=(by rw[hpe];exact zP hjl);rw[←hpe]at hxp;obtain⟨vp,rfl,hpd,hps⟩:=hxp;obtain⟨qv,dv,rfl,_⟩:=hps.sl.val;have hdst:=HOx.out.dst p hpm;obtain⟨d,hd⟩:∃d:Nat,p.dst=(d:Int):=⟨p.dst.toNat,by omega⟩;rw[hd]at hdst hbF;have hq1:q1=some (J gp 0):=(by injection hvp);have p0:=hbF 0 bO;have p1:=hbF 1 bO;simp only[zB,zD,yJ]at p0 p1;have hdm:d<m:=(by omega);have hvI:=hdP.out gp hdE;obtain⟨L5,hL5⟩:=nZ ((L++(x.phis.take j).flatMap metP)++[d])
      have hl9:∀Q,Q <+: p.src.flatMap xQ->L5++Q <+: Qh g++ZD g:=fun Q hQ=>by
       have h1:(x.phis.take j).flatMap metP++(d::Q) <+: x.phis.flatMap metP:=QC hjl (by
        rw[←hpe];show _ <+: p.dst.toNat::p.src.flatMap xQ;rw[hd,xC]
        exact(List.cons_prefix_cons).2 ⟨rfl,hQ⟩)
       have h2:=hoT.out ((x.phis.take j).flatMap metP++(d::Q)) (h1.trans (by rw[VT,yF];exact List.prefix_append _ _));rw[hL5];simpa using h2
      have hz:(stL L5).1 d=M d:=by
       rw[HMd.out];refine VS (pre_app (b:=[]) ?_) (by rw[hL5];simp);exact hl9 [] (List.nil_prefix)
      have hnx:L5++p.src.flatMap xQ=L++(x.phis.take (j+1)).flatMap metP:=by
       rw[yA hjl,yn,←yF,←hpe,hL5];simp[metP,hd]
      have hfT:renP M p={ dst:=M d,src:=p.src.map (xw M) }:=(by unfold renP;rw[hd];rfl);have hlv:=hps.bd;unfold reachBytes at hlv;have HPs:=q8 hps;have HPe:=q8 (zh hpe hpm);have hlu:=q8 putp;have HTp:=q8 (zh hdL hdM);have HCp:=q8 haT;have hdO:=q8 hbF;have hhM:=q8 heB;have hfR:=q8 hdE;have HL5:=q8 hL5;have hsU:=q8 hl9;have HZd:=q8 hz;have HNx:=q8 hnx;have hlw:=q8 hfT;subst hq1;clear hvp hpe hpm hpd hps hd hdst putp hdL hdM haT hbF hhL hdE hL5 hl9 hz hnx hfT
      go_wp2_with fail
      obtain⟨w7,hw7⟩:=nZ (wp.alloc (.cells #[Z d,.slice qv p.src.length dv] 84));rw[←hw7];have hz7:w7.heap.size=wp.heap.size+1:=(by rw[hw7];simp);have hb7:Below wp.heap.size wp w7:=(by rw[hw7];exact bZ);have hY7:w7.heap[wp.heap.size]?=some (.cells #[Z d,.slice qv p.src.length dv] 84 (0,0)):=(by rw[hw7];exact qr rfl);have HB7:=q8 hb7;have HY7:=q8 hY7;clear hw7 hb7 hY7 p0 p1 xb0 xb1 xf xz heB;obtain⟨Sp,hSp⟩:∃Sp:World->Prop,Sp=fun w'=>w'.heap[wj.heap.size]?=some (.cells #[.slice (some (J gp 0)) x.phis.length d1,.slice q2 x.list.length d2,Z x.fin.kind,.bool x.fin.onr,Z x.fin.onn,.slice q3 x.fin.to.length d3] 49 (0,0))/\w'.heap[wp.heap.size]?=some (.cells #[Z d,.slice qv p.src.length dv] 84 (0,0)):=⟨_,rfl⟩
      have ha6:∀w',Sp w'->(∀i,w'.cell? (J wj.heap.size i)=(#[.slice (some (J gp 0)) x.phis.length d1,.slice q2 x.list.length d2,Z x.fin.kind,.bool x.fin.onr,Z x.fin.onn,.slice q3 x.fin.to.length d3]:Array Value)[i]?)/\(∀i,w'.cell? (J wp.heap.size i)=(#[Z d,.slice qv p.src.length dv]:Array Value)[i]?)/\wj.heap.size<w'.heap.size/\wp.heap.size<w'.heap.size:=fun w' h=>by
       rw[hSp]at h;exact⟨(blk h.1).1,(blk h.2).1,qd h.1,qd h.2⟩
      have hS7:Sp w7.drew:=(by rw[hSp];exact⟨(HB7.out.block _ (qd HXp.out)).trans HXp.out,HY7.out⟩);refine qA (S:=Sp) bK 9 ?_;refine tkZ 0 117 (.pointer (some (J wj.heap.size 0))) rfl rfl hS7 (fun w' h=>?_) ?_
      ·obtain⟨h1,h2,h3,h4⟩:=ha6 w' h;have a0:=h1 0;have b0:=h2 0;clear h1 h2;simp only[zE,zB]at a0 b0;go_simp
      refine tkZ 1 118 (.slice (some (J gp 0)) x.phis.length d1) rfl rfl hS7 (fun w' h=>?_) ?_
      ·obtain⟨h1,h2,h3,h4⟩:=ha6 w' h;have a0:=h1 0;have b0:=h2 0;clear h1 h2;simp only[zE,zB]at a0 b0;go_simp
      refine tkZ 2 119 (Z j) rfl rfl hS7 (fun w' h=>?_) ?_
      ·obtain⟨h1,h2,h3,h4⟩:=ha6 w' h;have a0:=h1 0;have b0:=h2 0;clear h1 h2;simp only[zE,zB]at a0 b0;go_simp
      refine tkZ 3 120 (.pointer (some (J nb 0))) rfl rfl hS7 (fun w' h=>?_) ?_
      ·obtain⟨h1,h2,h3,h4⟩:=ha6 w' h;have a0:=h1 0;have b0:=h2 0;clear h1 h2;simp only[zE,zB]at a0 b0;go_simp
      refine tkZ 4 121 (.pointer (some (J wp.heap.size 0))) rfl rfl hS7 (fun w' h=>?_) ?_
      ·obtain⟨h1,h2,h3,h4⟩:=ha6 w' h;have a0:=h1 0;have b0:=h2 0;clear h1 h2;simp only[zE,zB]at a0 b0;go_simp
      refine tkZ 5 122 (Z d) rfl rfl hS7 (fun w' h=>?_) ?_
      ·obtain⟨h1,h2,h3,h4⟩:=ha6 w' h;have a0:=h1 0;have b0:=h2 0;clear h1 h2;simp only[zE,zB]at a0 b0;go_simp
      refine qm (i:=6) bK (qt 123 rfl rfl rfl (by go_simp) (kt ((HNp.out.below HB7.out).below (zI _ w7).drew) d hdm) ?_);rintro e w8 ⟨rfl,hN8,hK8⟩;rw[←HL5.out]at hN8 ⊢;rw[HZd.out];have hoW:=hN8.at;have hsV:=HNp.out.at
      have hS8:Sp w8:=by
       rw[hSp]at hS7 ⊢;exact⟨(hK8.block _ (qd hS7.1) bO).trans hS7.1,(hK8.block _ (qd hS7.2) bO).trans hS7.2⟩
      refine⟨_,rfl,hS8,?_⟩;have hz8:w7.heap.size<=w8.heap.size:=hK8.size;have hfS:Kept (fun k=>k=nb\/k=A) wp w8:=((Kept.of_below HB7.out).drew).trans hK8 (fun _ _ h=>h);have hg8:w8.heap[gp]?=wp.heap[gp]?:=hfS.block gp hgp bO;have g0:w8.cell? (J gp (j*2))=some (Z d):=(zN (a:=(J gp (j*2))) hg8).trans (hdO.out 0 bO);have g1:w8.frozen? (J gp (j*2))=false:=(yB (a:=(J gp (j*2))) hg8).trans (hhM.out _);have g2:gp<w8.heap.size:=(by omega);refine qm (i:=7) bK (qC 124 (.pointer (some (J gp (j*2)))) w8 rfl rfl rfl (by go_simp) hS8 ?_);refine qm (i:=8) bK (qC 125 (.pointer (some (J gp (j*2)))) w8 rfl rfl rfl (by go_simp) hS8 ?_);refine qm (i:=9) bK (qz (w8.setCell (J gp (j*2)) (Z (M d))) rfl rfl rfl (by go_simp) (fun h=>absurd rfl h) (qL bK ?_ _));simp only[calm];obtain⟨W5,hW5⟩:=nZ (w8.setCell (J gp (j*2)) (Z (M d)));rw[←hW5]
      have hoX:RowPut wp W5 84 gp (j*2) 2 [Z (M d),.slice qv p.src.length dv]:=by
       have h1:=RowPut.set (RowPut.same HCp.out hg8 hdO.out) rfl (j:=0) bO (Z (M d));simp only[yJ,yQ]at h1;rw[hW5];exact h1
      have hK5:Kept (fun k=>k=gp\/k=nb\/k=A) wp W5:=by
       rw[hW5];exact Kept.setCell (S:=fun k=>k=gp\/k=nb\/k=A) (p:=(J gp (j*2))) (hfS.mono fun _ _ h=>.inr h) (.inl rfl) _
      have hz5:w8.heap.size=W5.heap.size:=(by rw[hW5];exact(yK _ _ _).symm);have hlC:Kept (fun k=>k=gp) w8 W5:=(by rw[hW5];exact Kept.setCell (S:=fun k=>k=gp) (p:=(J gp (j*2))) (Kept.refl _ _) rfl _);have hN5:=hN8.kept hlC bO bO
      have hP5:W5.heap[wp.heap.size]?=some (.cells #[Z d,.slice qv p.src.length dv] 84 (0,0)):=by
       rw[hSp]at hS8;exact(hlC.block _ (qd hS8.2) bO).trans hS8.2
      have hhT:=HPs.out.sl.kept zq hK5 (fun k h1 h2=>by
       rcases h1 with h|h|h
       ·exact HTp.out.1 (by rw[←h];exact h2)
       ·have:=HPs.out.sl.inb k h2;have:=(hdP.out k (HTp.out.2 k h2)).2;omega
       have:=(hdP.out k (HTp.out.2 k h2)).2;omega)
      have hsW:=q8 hoX;have HK5:=q8 hK5;have HN5:=q8 hN5;have hsX:=q8 hP5;have hlD:=q8 hhT;have hjy:=q8 (fun k (h:Tp k)=>hdP.out k (HTp.out.2 k h));obtain⟨yb,yf⟩:=blk hP5;have yb1:=yb 1;simp only[zE,zB,zD]at yb1;have yz:=qd hP5;clear hoX hK5 hN5 hP5 hhT hlC hW5 hS8 hS7 hN8 hK8 hfS hg8 g0 g1 yb ha6
      go_wp2_with fail
      clear yb1 yf yz
      go_loopg [129] p.src.length (fun q s129 wr=>∃n:Nat,n<=p.src.length/\q=p.src.length - n/\s129=Z n/\NmL wr nb A m (L5++(p.src.take n).flatMap xQ)/\SlO 44 2 jV wr (.slice qv p.src.length dv) (qG n (xw M) p.src) Tp/\Kept (fun k=>Tp k\/k=nb\/k=A) W5 wr)
      case atStart=>exact⟨0,by omega,rfl,rfl,by rw[List.take_zero];exact(List.append_nil L5).symm ▸ HN5.out,by rw[qU];exact hlD.out,Kept.refl _ _⟩
      case round=>
       obtain⟨n,hn,rfl,rfl,hN,hV,hK⟩:=hrel;obtain⟨wv,hwv⟩:=nZ wr;subst hwv;have hoK:=hK.size
       have hYv:wv.heap[wp.heap.size]?=some (.cells #[Z d,.slice qv p.src.length dv] 84 (0,0)):=(hK.block _ bO (fun h=>by
        rcases h with h|h|h
        ·have:=(hjy.out _ h).2;omega
        ·omega
        omega)).trans hsX.out
       have hsY:=hN.at;have HNv:=q8 hN;have HVv:=q8 hV;have HKv:=q8 hK;have HYv:=q8 hYv;clear hN hV hK hYv
       by_cases hnl:n<p.src.length
       rotate_left
       ·obtain rfl:p.src.length=n:=(by omega);have hVf:=HVv.out;rw[qR]at hVf;have hNf:=HNv.out;rw[yP,HNx.out]at hNf
        have hoY:wv.heap[gp]?=W5.heap[gp]?:=HKv.out.block gp bO (fun h=>by
         rcases h with h|h|h
         ·exact HTp.out.1 h
         ·omega
         omega)
        have he4:PhiO wv [Z (M d),.slice qv p.src.length dv] (renP M p) Tp:=by
         rw[hlw.out];refine⟨_,rfl,by have:=HMb.out d;show I64 (M d);unfold I64;omega,⟨?_,?_⟩⟩
         ·exact hVf
         show(p.src.map _).length*16<=_;rw[yT];exact HPs.out.bd
        have hput:=hlu.out wv _ (renP M p) Tp (hsW.out.of_block hoY) rfl (fun u hu=>by
          simp only[yC,yG,yl]at hu
          rcases hu with rfl|rfl<;>rfl) (by have:=HK5.out.size;omega) (fun k h1 h2 h3=>(HKv.out.block k (by have:=HPp.out.inb k h1;omega) (fun h=>by
          rcases h with h|h|h
          ·exact h2 h
          ·have:=(hdP.out k h1).2;omega
          ·have:=(hdP.out k h1).2;omega)).trans (HK5.out.block k (HPp.out.inb k h1) (fun h=>by
          rcases h with h|h|h
          ·exact h3 h
          ·have:=(hdP.out k h1).2;omega
          have:=(hdP.out k h1).2;omega))) he4 (fun k hk=>⟨.inl hk,by have:=HPp.out.inb k (HTp.out.2 k hk);have:=HK5.out.size;omega⟩)
        rw[HPe.out.1,qS hjl]at hput;have hgr:=hput.grow (S':=S1) (fun k h=>h.elim id (HTp.out.2 k)) (HPp.out.inb.mono (by have:=HK5.out.size;omega))
        have hKw:Kept (fun k=>S1 k\/k=nb\/k=A) W4 wv:=(HKp.out.trans HK5.out (fun k _ h=>by
         rcases h with h|h|h
         ·rw[h];exact .inl hfR.out
         ·exact .inr (.inl h)
         ·exact .inr (.inr h))).trans HKv.out (fun k _ h=>by
         rcases h with h|h|h
         ·exact .inl (HTp.out.2 k h)
         ·exact .inr (.inl h)
         exact .inr (.inr h))
        have ha7:=q8 (zh hNf (zh hgr hKw));clear hVf hNf he4 hput hgr hKw hoY
        go_wp2_with fail
        go_roundg (x.phis.length - (j+1))
        case measure=>omega
        case rel=>exact⟨j+1,by omega,rfl,by go_num,ha7.out.1,ha7.out.2.1,ha7.out.2.2⟩
       have hhU:n<(qG n (xw M) p.src).length:=(by rw[qO];exact hnl);obtain⟨gv,cv,csv,Tv,hvv,hgv,heD,hlE,hxv,hhV,hhW,hdR,hhX,⟨curv,hcZ⟩,putv⟩:=HVv.out.focus zq bO hhU;rw[xh hhU (zK _)]at hxv;obtain⟨v,hve⟩:=nZ (p.src[n]);have hvm:OkV m v:=HOx.out.src p HPe.out.2 v (by rw[hve];exact zP hnl);rw[←hve]at hxv;obtain⟨hlF,hv64⟩:=hxv;subst hlF;have hqv:qv=some (J gv 0):=(by injection hvv);have v0:=hdR 0 bO;have v1:=hdR 1 bO;simp only[zB,zD,yJ]at v0 v1;have hsZ:=hjy.out gv heD;obtain⟨L6,hL6⟩:=nZ (L5++(p.src.take n).flatMap xQ)
       have hpr:L6++xQ v <+: Qh g++ZD g:=by
        rw[hL6,yF];exact hsU.out _ (QC hnl (by rw[←hve];exact List.prefix_refl _))
       have hz:(xw (stL (L6++xQ v)).1 v).2=(xw M v).2:=by
        rw[HMd.out];exact QD hpr
       have hnx:L6++xQ v=L5++(p.src.take (n+1)).flatMap xQ:=by
        rw[yA hnl,yn,←yF,←hve,hL6];simp
       have heE:I64 (xw M v).2:=by
        unfold xw
        split
        ·have:=HMb.out v.2.toNat;unfold I64;omega
        exact hv64
       have hN6:=HNv.out;rw[←hL6]at hN6;have HVe:=q8 hve;have HVm:=q8 hvm;have heF:=q8 putv;have HTv:=q8 (zh hhV hhW);have HCv:=q8 hcZ;have heG:=q8 hdR;have hlG:=q8 hhX;have hlH:=q8 heD;have HN6:=q8 hN6;have HZv:=q8 hz;have hlI:=q8 hnx;have hlJ:=q8 heE;subst hqv;clear hvv hve hvm hv64 putv hhV hhW hcZ hdR hlE heD hL6 hpr hz hnx heE hN6
       go_wp2_with fail
       obtain⟨w9,hw9⟩:=nZ (wv.alloc (.cells #[.bool v.1,Z v.2] 44));rw[←hw9];have hz9:w9.heap.size=wv.heap.size+1:=(by rw[hw9];simp);have hb9:Below wv.heap.size wv w9:=(by rw[hw9];exact bZ);have hV9:w9.heap[wv.heap.size]?=some (.cells #[.bool v.1,Z v.2] 44 (0,0)):=(by rw[hw9];exact qr rfl);have HB9:=q8 hb9;clear hw9 hb9 v0 v1 hhX;obtain⟨Sp,hSp⟩:∃Sp:World->Prop,Sp=fun w'=>w'.heap[wp.heap.size]?=some (.cells #[Z d,.slice (some (J gv 0)) p.src.length dv] 84 (0,0))/\w'.heap[wv.heap.size]?=some (.cells #[.bool v.1,Z v.2] 44 (0,0)):=⟨_,rfl⟩
       have ha6:∀w',Sp w'->(∀i,w'.cell? (J wp.heap.size i)=(#[Z d,.slice (some (J gv 0)) p.src.length dv]:Array Value)[i]?)/\(∀i,w'.cell? (J wv.heap.size i)=(#[.bool v.1,Z v.2]:Array Value)[i]?)/\wp.heap.size<w'.heap.size/\wv.heap.size<w'.heap.size:=fun w' h=>by
        rw[hSp]at h;exact⟨(blk h.1).1,(blk h.2).1,qd h.1,qd h.2⟩
       have hS9:Sp w9.drew:=(by rw[hSp];exact⟨(HB9.out.block _ (qd HYv.out)).trans HYv.out,hV9⟩);refine qA (S:=Sp) bK 7 ?_;refine tkZ 0 134 (.pointer (some (J wp.heap.size 1))) rfl rfl hS9 (fun w' h=>?_) ?_
       ·obtain⟨h1,h2,h3,h4⟩:=ha6 w' h;have a1:=h1 1;have b0:=h2 0;have b1:=h2 1;clear h1 h2;simp only[zE,zB,zD]at a1 b0 b1;go_simp
       refine tkZ 1 135 (.slice (some (J gv 0)) p.src.length dv) rfl rfl hS9 (fun w' h=>?_) ?_
       ·obtain⟨h1,h2,h3,h4⟩:=ha6 w' h;have a1:=h1 1;have b0:=h2 0;have b1:=h2 1;clear h1 h2;simp only[zE,zB,zD]at a1 b0 b1;go_simp
       refine tkZ 2 136 (Z n) rfl rfl hS9 (fun w' h=>?_) ?_
       ·obtain⟨h1,h2,h3,h4⟩:=ha6 w' h;have a1:=h1 1;have b0:=h2 0;have b1:=h2 1;clear h1 h2;simp only[zE,zB,zD]at a1 b0 b1;go_simp
       refine tkZ 3 137 (.pointer (some (J nb 0))) rfl rfl hS9 (fun w' h=>?_) ?_
       ·obtain⟨h1,h2,h3,h4⟩:=ha6 w' h;have a1:=h1 1;have b0:=h2 0;have b1:=h2 1;clear h1 h2;simp only[zE,zB,zD]at a1 b0 b1;go_simp
       refine tkZ 4 138 (.agg #[.bool v.1,Z v.2]) rfl rfl hS9 (fun w' h=>?_) ?_
       ·obtain⟨h1,h2,h3,h4⟩:=ha6 w' h;have a1:=h1 1;have b0:=h2 0;have b1:=h2 1;clear h1 h2;simp only[zE,zB,zD]at a1 b0 b1;go_simp
       refine qm (i:=5) bK (qt 139 rfl rfl rfl (by go_simp) (jJ ((HN6.out.below HB9.out).below (zI _ w9).drew) v HVm.out) ?_);rintro e w10 ⟨rfl,haU,haN⟩;rw[hlI.out]at haU;rw[HZv.out]
       have haH:Sp w10:=by
        rw[hSp]at hS9 ⊢;exact⟨(haN.block _ (qd hS9.1) bO).trans hS9.1,(haN.block _ (qd hS9.2) bO).trans hS9.2⟩
       refine⟨_,rfl,haH,?_⟩;have hfU:w9.heap.size<=w10.heap.size:=haN.size;have heH:Kept (fun k=>k=nb\/k=A) wv w10:=((Kept.of_below HB9.out).drew).trans haN (fun _ _ h=>h);have haV:w10.heap[gv]?=wv.heap[gv]?:=heH.block gv hgv bO;have g0:w10.cell? (J gv (n*2))=some (.bool v.1):=(zN (a:=(J gv (n*2))) haV).trans (heG.out 0 bO);have g0':w10.cell? (J gv (n*2+1))=some (Z v.2):=(zN (a:=(J gv (n*2+1))) haV).trans (heG.out 1 bO);have g1:∀o,w10.frozen? (J gv o)=false:=fun o=>(yB (a:=(J gv o)) haV).trans (hlG.out _);have g2:gv<w10.heap.size:=(by omega);refine qm (i:=6) bK (qC 140 (.pointer (some (J gv (n*2)))) w10 rfl rfl rfl (by go_simp) haH ?_);refine qm (i:=7) bK (qz ((w10.setCell (J gv (n*2)) (.bool v.1)).setCell (J gv (n*2+1)) (Z (xw M v).2)) rfl rfl rfl (by go_simp) (fun h=>absurd rfl h) (qL bK ?_ _));show Exit.inBlock 15 _ Exit.normal _ _;obtain⟨W,hW⟩:=nZ ((w10.setCell (J gv (n*2)) (.bool v.1)).setCell (J gv (n*2+1)) (Z (xw M v).2));rw[←hW]
       have hrp:RowPut wv W 44 gv (n*2) 2 [.bool v.1,Z (xw M v).2]:=by
        rw[hW];exact(RowPut.same HCv.out haV heG.out).two _ _
       have hKx:Kept (fun k=>k=gv) w10 W:=by
        rw[hW];have h1:=Kept.setCell (S:=fun k=>k=gv) (p:=(J gv (n*2))) (Kept.refl _ w10) rfl (.bool v.1);exact h1.setCell (p:=(J gv (n*2+1))) rfl (Z (xw M v).2)
       have hKW:Kept (fun k=>k=gv\/k=nb\/k=A) wv W:=(heH.mono fun _ _ h=>.inr h).trans hKx (fun _ _ h=>.inl h)
       have hput:=heF.out W _ (xw M v) (fun _=>False) hrp rfl (fun u hu=>by
         simp only[yC,yG,yl]at hu
         rcases hu with rfl|rfl<;>rfl) hKW.size (fun k h1 _ h3=>hKW.block k (HVv.out.inb k h1) (fun h=>by
         rcases h with h|h|h
         ·exact h3 h
         ·have:=(hjy.out k h1).2;omega
         have:=(hjy.out k h1).2;omega)) ⟨by rw[KQ],hlJ.out⟩ (fun k hk=>hk.elim)
       rw[HVe.out,qS hnl]at hput;have hgr:=hput.grow (S':=Tp) (fun k h=>h.elim id (fun h=>h.elim)) (HVv.out.inb.mono hKW.size);have hNW:=haU.kept hKx bO bO
       have hKf:Kept (fun k=>Tp k\/k=nb\/k=A) W5 W:=HKv.out.trans hKW (fun k _ h=>by
        rcases h with h|h|h
        ·rw[h];exact .inl hlH.out
        ·exact .inr (.inl h)
        exact .inr (.inr h))
       have ha7:=q8 (zh hNW (zh hgr hKf));clear haU haN haH hS9 heH haV g0 g0' g1 hrp hKx hKW hput hgr hNW hKf hW ha6
       go_wp2_with fail
       go_roundg (p.src.length - (n+1))
       case measure=>omega
       case rel=>exact⟨n+1,by omega,rfl,by go_num,ha7.out.1,ha7.out.2.1,ha7.out.2.2⟩
     obtain rfl:x.phis.length=j:=(by omega);have hPf:=HPp.out;rw[qR]at hPf;have hN7:=HNp.out;rw[yP]at hN7;obtain⟨L7,hL7⟩:=nZ (L++x.phis.flatMap metP);rw[←hL7]at hN7;have hKw:Kept (fun k=>S1 k\/k=nb\/k=A) wj wp:=(Kept.of_below HB4.out).trans HKp.out (fun _ _ h=>h)
     have hli:=HP4.out.sl.kept qT hKw (fun k h1 h2=>by
      rcases h1 with h|h|h
      ·exact HAp.out.1 k h h2
      ·have:=(hdQ.out k h2).2;omega
      have:=(hdQ.out k h2).2;omega)
     have hhY:∀Q,Q <+: x.list.flatMap (fun i=>Qx i++vO i.dst)++xQ (x.fin.onr,x.fin.onn)->L7++Q <+: Qh g++ZD g:=fun Q hQ=>by
      have:=hoT.out (x.phis.flatMap metP++Q) (by rw[VT,yF];exact(List.prefix_append_right_inj _).2 hQ);rw[hL7,yF];exact this
     have HPf:=q8 hPf;have HN7:=q8 hN7;have HL7:=q8 hL7;have HKw:=q8 hKw;have HLi:=q8 hli;have hhZ:=q8 hhY;have hsV:=HNp.out.at;clear hPf hN7 hL7 hKw hli hhY
     go_wp2_with fail
     clear xb0 xb1 xf xz
     go_loopg [146] x.list.length (fun q s146 wr=>∃j:Nat,j<=x.list.length/\q=x.list.length - j/\s146=Z j/\NmL wr nb A m (L7++(x.list.take j).flatMap fun i=>Qx i++vO i.dst)/\SlO 51 8 InsO wr (.slice q2 x.list.length d2) (qG j (vZ M) x.list) Sl/\Kept (fun k=>Sl k\/k=nb\/k=A) wp wr)
     case atStart=>exact⟨0,by omega,rfl,rfl,by rw[List.take_zero];exact(List.append_nil L7).symm ▸ HN7.out,by rw[qU];exact HLi.out,Kept.refl _ _⟩
     case round=>
      obtain⟨j,hj,rfl,rfl,hN,hI,hK⟩:=hrel;obtain⟨ws,hws⟩:=nZ wr;subst hws;have hsK:=hK.size
      have hXs:ws.heap[wj.heap.size]?=some (.cells #[.slice q1 x.phis.length d1,.slice q2 x.list.length d2,Z x.fin.kind,.bool x.fin.onr,Z x.fin.onn,.slice q3 x.fin.to.length d3] 49 (0,0)):=(hK.block _ (by have:=qd HXp.out;omega) (fun h=>by
       rcases h with h|h|h
       ·have:=(hdQ.out _ h).2;omega
       ·omega
       omega)).trans HXp.out
      obtain⟨xb,xf⟩:=blk hXs;have xb1:=xb 1;have xb3:=xb 3;have xb4:=xb 4;simp only[zE,zB,zD]at xb1 xb3 xb4;have xz:=qd hXs;have hvJ:=hN.at;have HNs:=q8 hN;have HIs:=q8 hI;have HKs:=q8 hK;have HXs:=q8 hXs;clear hN hI hK hXs xb
      by_cases hjl:j<x.list.length
      rotate_left
      ·obtain rfl:x.list.length=j:=(by omega);have haU:=HNs.out;rw[yP]at haU;have hIf:=HIs.out;rw[qR]at hIf
       have hzV:(xw (stL (L7++(x.list.flatMap fun i=>Qx i++vO i.dst)++xQ (x.fin.onr,x.fin.onn))).1 (x.fin.onr,x.fin.onn)).2=(xw M (x.fin.onr,x.fin.onn)).2:=by
        rw[HMd.out];refine QD ?_;rw[yF];exact hhZ.out _ (List.prefix_refl _)
       have hln:L7++(x.list.flatMap fun i=>Qx i++vO i.dst)++xQ (x.fin.onr,x.fin.onn)=Qh g++(g.blocks.take (i+1)).flatMap J0:=by
        rw[yA hil,yn,←yF,←HXe.out,HL7.out,HL.out];simp[VT]
       have heI:=q8 haU;have HIf:=q8 hIf;have HZV:=q8 hzV;have HLn:=q8 hln;clear haU hIf hzV hln
       go_wp2_with fail
       have hvK:wj.heap.size<ws.heap.size:=qd HXs.out;have hi6:Kept (fun k=>Tb k\/k=nb\/k=A) wj ws:=(((Kept.of_below HB4.out)).trans HKp.out (fun k _ h=>h.elim (fun h=>.inl (HG.out.1 k h)) .inr)).trans HKs.out (fun k _ h=>h.elim (fun h=>.inl (HG.out.2.1 k h)) .inr)
       have hFs:ws.heap[w.heap.size]?=some (.cells #[.string f.name,Z np,Z m,.slice (some (J gb 0)) g.blocks.length c2] 38 (0,0)):=(hi6.block _ (qd HFj.out) (fun h=>by
        rcases h with h|h|h
        ·exact(HSl.out _ (HTb.out.2 _ h)).2 rfl
        ·omega
        omega)).trans HFj.out
       obtain⟨Sp,hSp⟩:∃Sp:World->Prop,Sp=fun w'=>w'.heap[w.heap.size]?=some (.cells #[.string f.name,Z np,Z m,.slice (some (J gb 0)) g.blocks.length c2] 38 (0,0))/\w'.heap[wj.heap.size]?=some (.cells #[.slice q1 x.phis.length d1,.slice q2 x.list.length d2,Z x.fin.kind,.bool x.fin.onr,Z x.fin.onn,.slice q3 x.fin.to.length d3] 49 (0,0)):=⟨_,rfl⟩
       have ha6:∀w',Sp w'->(∀i,w'.cell? (J w.heap.size i)=(#[.string f.name,Z np,Z m,.slice (some (J gb 0)) g.blocks.length c2]:Array Value)[i]?)/\(∀i,w'.cell? (J wj.heap.size i)=(#[.slice q1 x.phis.length d1,.slice q2 x.list.length d2,Z x.fin.kind,.bool x.fin.onr,Z x.fin.onn,.slice q3 x.fin.to.length d3]:Array Value)[i]?)/\w.heap.size<w'.heap.size/\wj.heap.size<w'.heap.size:=fun w' h=>by
        rw[hSp]at h;exact⟨(blk h.1).1,(blk h.2).1,qd h.1,qd h.2⟩
       have hS7:Sp ws.drew:=(by rw[hSp];exact⟨hFs,HXs.out⟩);refine qA (S:=Sp) bK 11 ?_;refine tkZ 0 191 (.pointer (some (J w.heap.size 3))) rfl rfl hS7 (fun w' h=>?_) ?_
       ·obtain⟨h1,h2,h3,h4⟩:=ha6 w' h;have a3:=h1 3;have b3:=h2 3;have b4:=h2 4;clear h1 h2;simp only[zE,zB,zD]at a3 b3 b4;go_simp
       refine tkZ 1 192 (.slice (some (J gb 0)) g.blocks.length c2) rfl rfl hS7 (fun w' h=>?_) ?_
       ·obtain⟨h1,h2,h3,h4⟩:=ha6 w' h;have a3:=h1 3;have b3:=h2 3;have b4:=h2 4;clear h1 h2;simp only[zE,zB,zD]at a3 b3 b4;go_simp
       refine tkZ 2 193 (Z i) rfl rfl hS7 (fun w' h=>?_) ?_
       ·obtain⟨h1,h2,h3,h4⟩:=ha6 w' h;have a3:=h1 3;have b3:=h2 3;have b4:=h2 4;clear h1 h2;simp only[zE,zB,zD]at a3 b3 b4;go_simp
       refine tkZ 3 194 (.pointer (some (J nb 0))) rfl rfl hS7 (fun w' h=>?_) ?_
       ·obtain⟨h1,h2,h3,h4⟩:=ha6 w' h;have a3:=h1 3;have b3:=h2 3;have b4:=h2 4;clear h1 h2;simp only[zE,zB,zD]at a3 b3 b4;go_simp
       refine tkZ 4 195 (.pointer (some (J wj.heap.size 2))) rfl rfl hS7 (fun w' h=>?_) ?_
       ·obtain⟨h1,h2,h3,h4⟩:=ha6 w' h;have a3:=h1 3;have b3:=h2 3;have b4:=h2 4;clear h1 h2;simp only[zE,zB,zD]at a3 b3 b4;go_simp
       refine tkZ 5 196 (.pointer (some (J wj.heap.size 3))) rfl rfl hS7 (fun w' h=>?_) ?_
       ·obtain⟨h1,h2,h3,h4⟩:=ha6 w' h;have a3:=h1 3;have b3:=h2 3;have b4:=h2 4;clear h1 h2;simp only[zE,zB,zD]at a3 b3 b4;go_simp
       refine tkZ 6 197 (.agg #[.bool x.fin.onr,Z x.fin.onn]) rfl rfl hS7 (fun w' h=>?_) ?_
       ·obtain⟨h1,h2,h3,h4⟩:=ha6 w' h;have a3:=h1 3;have b3:=h2 3;have b4:=h2 4;clear h1 h2;simp only[zE,zB,zD]at a3 b3 b4;go_simp
       refine qm (i:=7) bK (qt 198 rfl rfl rfl (by go_simp) (jJ (heI.out.below (zI _ ws).drew) (x.fin.onr,x.fin.onn) HOx.out.on) ?_);rintro e w8 ⟨rfl,hN8,hK8⟩;rw[HZV.out];rw[HLn.out]at hN8;have hfW:Kept (fun k=>k=nb\/k=A) ws w8:=((Kept.refl (fun k=>k=nb\/k=A) ws).drew).trans hK8 (fun _ _ h=>h);have ht4:=(HSl.out gb HSg.out).1;have ht5:=hi6.size;have hoW:=hN8.at;have hz8:=hfW.size
       have hS8:Sp w8:=by
        rw[hSp]at hS7 ⊢;exact⟨(hfW.block _ (qd hFs) bO).trans hFs,(hfW.block _ (qd HXs.out) bO).trans HXs.out⟩
       refine⟨_,rfl,hS8,?_⟩
       have hfY:w8.heap[gb]?=wj.heap[gb]?:=(hfW.block _ bO bO).trans (hi6.block _ bO (fun h=>by
        rcases h with h|h|h
        ·exact HTb.out.1 h
        ·omega
        omega))
       obtain⟨ze,hze⟩:=nZ ((xw M (x.fin.onr,x.fin.onn)).2);rw[←hze];have HZe:=q8 hze;have g3:w8.cell? (J gb (i*6+3))=some (.bool x.fin.onr):=(zN (a:=(J gb (i*6+3))) hfY).trans (HCe.out 3 bO);have g4:w8.cell? (J gb (i*6+4))=some (Z x.fin.onn):=(zN (a:=(J gb (i*6+4))) hfY).trans (HCe.out 4 bO);have gf3:w8.frozen? (J gb (i*6+3))=false:=(yB (a:=(J gb (i*6+3))) hfY).trans (HFz.out _);have gf4:w8.frozen? (J gb (i*6+4))=false:=(yB (a:=(J gb (i*6+4))) hfY).trans (HFz.out _);have g5:gb<w8.heap.size:=(by omega);clear hze;refine qm (i:=8) bK (qC 199 (.pointer (some (J gb (i*6)))) w8 rfl rfl rfl (by go_simp) hS8 ?_);refine qm (i:=9) bK (qC 200 (.pointer (some (J gb (i*6+2)))) w8 rfl rfl rfl (by go_simp) hS8 ?_);refine qm (i:=10) bK (qC 201 (.pointer (some (J gb (i*6+3)))) w8 rfl rfl rfl (by go_simp) hS8 ?_);refine qm (i:=11) bK (qz ((w8.setCell (J gb (i*6+3)) (.bool x.fin.onr)).setCell (J gb (i*6+4)) (Z ze)) rfl rfl rfl (by go_simp) (fun h=>absurd rfl h) (qL bK ?_ _));simp only[calm];obtain⟨W,hW⟩:=nZ ((w8.setCell (J gb (i*6+3)) (.bool x.fin.onr)).setCell (J gb (i*6+4)) (Z ze));rw[←hW]
       have hKW:Kept (fun k=>k=gb) w8 W:=by
        rw[hW];have h1:=Kept.setCell (S:=fun k=>k=gb) (p:=(J gb (i*6+3))) (Kept.refl _ w8) rfl (.bool x.fin.onr);exact h1.setCell (p:=(J gb (i*6+4))) rfl (Z ze)
       have hrp:RowPut wj W 49 gb (i*6) 6 [.slice q1 x.phis.length d1,.slice q2 x.list.length d2,Z x.fin.kind,.bool x.fin.onr,Z ze,.slice q3 x.fin.to.length d3]:=by
        have h1:=RowPut.set (RowPut.same hee.out hfY HCe.out) rfl (j:=3) bO (.bool x.fin.onr);have h2:=RowPut.set h1 rfl (j:=4) bO (Z ze);simp only[yZ,yQ]at h2;rw[hW];exact h2
       have haW:Kept (fun k=>k=gb\/k=nb\/k=A) ws W:=(hfW.mono fun _ _ h=>.inr h).trans hKW (fun _ _ h=>.inl h);have hfZ:Kept (fun k=>Tb k\/k=gb\/k=nb\/k=A) wj W:=(hi6.mono fun _ _ h=>h.elim .inl (fun h=>.inr (.inr h))).trans haW (fun _ _ h=>.inr h);have hTn:∀k,Tb k->k<W1.heap.size/\k≠gb:=fun k h=>⟨(HSl.out k (HTb.out.2 k h)).1,fun e=>HTb.out.1 (by rw[←e];exact h)⟩
       have hsep:∀k,Tb k->(k=gb\/k=nb\/k=A)->False:=fun k h1 h2=>by
        have h3:=hTn k h1;omega
       have hlK:Kept (fun k=>Sl k\/k=gb\/k=nb\/k=A) wp W:=(HKs.out.mono fun _ _ h=>h.elim .inl (fun h=>.inr (.inr h))).trans haW (fun _ _ h=>.inr h)
       have hP1:=HPf.out.kept x8 hlK (fun k h1 h2=>by
        rcases h1 with h|h
        ·exact HAp.out.1 k h2 h
        exact hsep k (HG.out.1 k h2) h)
       have hP2:=HIf.out.kept qT haW (fun k h1 h2=>hsep k (HG.out.2.1 k h2) h1);have hoZ:Kept (fun k=>S1 k\/Sl k\/k=gb\/k=nb\/k=A) wj W:=(HKw.out.mono fun _ _ h=>h.elim .inl (fun h=>.inr (.inr (.inr h)))).trans hlK (fun _ _ h=>.inr h)
       have hP3:=HP5.out.sl.kept xk hoZ (fun k h1 h2=>by
        rcases h1 with h|h|h
        ·exact HAp.out.2.1 k h h2
        ·exact HAp.out.2.2 k h h2
        exact hsep k (HG.out.2.2 k h2) h)
       have hp7:I64 ze:=by
        rw[HZe.out];unfold xw
        split
        ·have:=HMb.out x.fin.onn.toNat;show I64 (M x.fin.onn.toNat);unfold I64;omega
        exact HJ.out.2
       have hblk:BlkO W [.slice q1 x.phis.length d1,.slice q2 x.list.length d2,Z x.fin.kind,.bool x.fin.onr,Z ze,.slice q3 x.fin.to.length d3] (KH M x) Tb:=by
        rw[renB_is,←HZe.out];exact⟨_,_,_,S1,Sl,St,rfl,HJ.out.1,hp7,⟨hP1,by rw[yT];exact HP3.out.bd⟩,⟨hP2,by rw[yT];exact HP4.out.bd⟩,⟨hP3,HP5.out.bd⟩,HAp.out.1,HAp.out.2.1,HAp.out.2.2,HG.out.1,HG.out.2.1,HG.out.2.2⟩
       have hput:=haA.out W _ (KH M x) Tb hrp rfl (fun u hu=>by
         simp only[yC,yG,yl]at hu
         rcases hu with rfl|rfl|rfl|rfl|rfl|rfl<;>rfl) hfZ.size (fun k h1 h2 h3=>hfZ.block k (HSj.out.inb k h1) (fun h=>by
         have h4:=(HSl.out k h1).1;rcases h with h|h|h|h
         ·exact h2 h
         ·exact h3 h
         ·omega
         omega)) hblk (fun k hk=>⟨.inl hk,by have:=(hTn k hk).1;have:=hfZ.size;omega⟩)
       rw[HXe.out,qS hil]at hput;have hgr:=hput.grow (S':=S2) (fun k h=>h.elim id (HTb.out.2 k)) (HSj.out.inb.mono hfZ.size);have hNW:=hN8.kept hKW bO bO
       have hKf:Kept (fun k=>S2 k\/k=nb\/k=A) W3 W:=HKj.out.trans hfZ (fun k hk h=>by
        rcases h with h|h|h
        ·exact .inl (HTb.out.2 k h)
        ·rw[h];exact .inl HSg.out
        exact .inr h)
       have ha7:=q8 (zh hNW (zh hgr hKf));clear hN8 hK8 hS8 hS7 hfW hfY g3 g4 gf3 gf4 g5 hFs hSp ha6 hW hKW hrp haW hfZ hTn hsep hlK hP1 hP2 hoZ hP3 hp7 hblk hput hgr hNW hKf hi6 ht4 ht5 hoW hz8 HZe xb1 xb3 xb4
       go_wp2_with fail
       go_roundg (g.blocks.length - (i+1))
       case measure=>omega
       case rel=>exact⟨i+1,by omega,rfl,by go_num,ha7.out.1,ha7.out.2.1,ha7.out.2.2⟩
      have haP:j<(qG j (vZ M) x.list).length:=(by rw[qO];exact hjl);obtain⟨gl,cl,csl,Ti,hvl,hgl,hlL,ht6,hxl,hp8,hp9,hdG,hpf,⟨curl,hi7⟩,putl⟩:=HIs.out.focus qT bO haP;rw[xh haP (zK _)]at hxl;obtain⟨y,hye⟩:=nZ (x.list[j]);have hym:y∈x.list:=(by rw[hye];exact zP hjl);rw[←hye]at hxl;obtain⟨va,rfl,i1,i2,i3,i4,i5,hAr⟩:=hxl;obtain⟨qy,dy,rfl,_⟩:=hAr.sl.val;have hql:q2=some (J gl 0):=(by injection hvl);have e0:=hdG 0 bO;have e1':=hdG 1 bO;have e2:=hdG 2 bO;have e3:=hdG 3 bO;have e4:=hdG 4 bO;have e5:=hdG 5 bO;have e6:=hdG 6 bO;have e7:=hdG 7 bO;simp only[zB,zD,yJ]at e0 e1' e2 e3 e4 e5 e6 e7;have hvL:=hdQ.out gl hlL;obtain⟨L8,hL8⟩:=nZ (L7++(x.list.take j).flatMap fun i=>Qx i++vO i.dst)
      have hdS:∀Q,Q <+: Qx y++vO y.dst->L8++Q <+: Qh g++ZD g:=fun Q hQ=>by
       rw[hL8,yF];exact hhZ.out _ ((QC (f:=fun i=>Qx i++vO i.dst) hjl (by rw[←hye];exact hQ)).trans (List.prefix_append _ _))
      have hN8:=HNs.out;rw[←hL8]at hN8
      have hzA:(xw (stL (L8++xQ (y.ar,y.an))).1 (y.ar,y.an)).2=(xw M (y.ar,y.an)).2:=by
       rw[HMd.out];exact QD (hdS _ (by unfold Qx;rw[yF,yF];exact List.prefix_append _ _))
      have hzB:(xw (stL (L8++xQ (y.ar,y.an)++xQ (y.br,y.bn))).1 (y.br,y.bn)).2=(xw M (y.br,y.bn)).2:=by
       rw[HMd.out];refine QD ?_;rw[yF];exact hdS _ (by unfold Qx;rw[yF];exact List.prefix_append _ _)
      have hly:=hAr.bd;unfold reachBytes at hly;have HYe:=q8 (zh hye hym);have HI5:=q8 (zh i1 (zh i2 (zh i3 (zh i4 i5))));have HAr:=q8 hAr;have hi8:=q8 putl;have HTl:=q8 (zh hp8 hp9);have HCl:=q8 hi7;have haO:=q8 hdG;have haX:=q8 hpf;have hjA:=q8 hlL;have HL8:=q8 hL8;have hlM:=q8 hdS;have HN8:=q8 hN8;have HZA:=q8 hzA;have HZB:=q8 hzB;subst hql;clear hvl hye hym hAr i1 i2 i3 i4 i5 putl hp8 hp9 hi7 hdG ht6 hlL hL8 hdS hN8 hzA hzB
      go_wp2_with fail
      obtain⟨w7,hw7⟩:=nZ (ws.alloc (.cells #[Z y.op,Z y.dst,.bool y.ar,Z y.an,.bool y.br,Z y.bn,Z y.fn,.slice qy y.args.length dy] 51));rw[←hw7];have hz7:w7.heap.size=ws.heap.size+1:=(by rw[hw7];simp);have hb7:Below ws.heap.size ws w7:=(by rw[hw7];exact bZ);have hY7:w7.heap[ws.heap.size]?=some (.cells #[Z y.op,Z y.dst,.bool y.ar,Z y.an,.bool y.br,Z y.bn,Z y.fn,.slice qy y.args.length dy] 51 (0,0)):=(by rw[hw7];exact qr rfl);have HB7:=q8 hb7;have HY7:=q8 hY7;clear hw7 hb7 hY7 e0 e1' e2 e3 e4 e5 e6 e7 xb1 xb3 xb4 xf xz hpf;obtain⟨Sp,hSp⟩:∃Sp:World->Prop,Sp=fun w'=>∃a,w'.heap[ws.heap.size]?=some (.cells #[Z y.op,Z y.dst,.bool y.ar,Z a,.bool y.br,Z y.bn,Z y.fn,.slice qy y.args.length dy] 51 (0,0)):=⟨_,rfl⟩
      have ha6:∀w',Sp w'->w'.cell? (J ws.heap.size 4)=some (.bool y.br)/\w'.cell? (J ws.heap.size 5)=some (Z y.bn)/\ws.heap.size<w'.heap.size:=fun w' h=>by
       rw[hSp]at h;obtain⟨a,h⟩:=h;exact⟨(blk h).1 4,(blk h).1 5,qd h⟩
      have hS7:Sp w7.drew:=(by rw[hSp];exact⟨_,HY7.out⟩);refine qA (S:=Sp) bK 11 ?_;refine tkZ 0 151 (.pointer (some (J nb 0))) rfl rfl hS7 (fun w' h=>?_) ?_
      ·obtain⟨h1,h2,h3⟩:=ha6 w' h;go_simp
      refine tkZ 1 152 (.pointer (some (J ws.heap.size 2))) rfl rfl hS7 (fun w' h=>?_) ?_
      ·obtain⟨h1,h2,h3⟩:=ha6 w' h;go_simp
      refine tkZ 4 155 (.pointer (some (J nb 0))) rfl rfl hS7 (fun w' h=>?_) ?_
      ·obtain⟨h1,h2,h3⟩:=ha6 w' h;go_simp
      refine tkZ 5 156 (.pointer (some (J ws.heap.size 4))) rfl rfl hS7 (fun w' h=>?_) ?_
      ·obtain⟨h1,h2,h3⟩:=ha6 w' h;go_simp
      refine tkZ 6 157 (.agg #[.bool y.br,Z y.bn]) rfl rfl hS7 (fun w' h=>?_) ?_
      ·obtain⟨h1,h2,h3⟩:=ha6 w' h;go_simp
      obtain⟨yb,yf⟩:=blk (show w7.drew.heap[ws.heap.size]?=_ from HY7.out);have yb2:=yb 2;have yb3:=yb 3;simp only[zE,zB,zD]at yb2 yb3;refine qm (i:=2) bK (qC 153 (.agg #[.bool y.ar,Z y.an]) w7.drew rfl rfl rfl (by go_simp) hS7 ?_);refine qm (i:=3) bK (qt 154 rfl rfl rfl (by go_simp) (jJ ((HN8.out.below HB7.out).below (zI _ w7).drew) (y.ar,y.an) (HOx.out.ia y HYe.out.2)) ?_);rintro e w8 ⟨rfl,hN9,hK8⟩;rw[HZA.out];have hY8:w8.heap[ws.heap.size]?=some (.cells #[Z y.op,Z y.dst,.bool y.ar,Z y.an,.bool y.br,Z y.bn,Z y.fn,.slice qy y.args.length dy] 51 (0,0)):=(hK8.block _ (by show ws.heap.size<w7.heap.size;omega) bO).trans HY7.out;have hS8:Sp w8:=(by rw[hSp];exact⟨_,hY8⟩);refine⟨_,rfl,hS8,?_⟩;refine tkZ 8 159 (.pointer (some (J ws.heap.size 2))) rfl rfl hS8 (fun w' h=>?_) ?_
      ·go_simp
      refine qm (i:=7) bK (qt 158 rfl rfl rfl (by go_simp) (jJ hN9 (y.br,y.bn) (HOx.out.ib y HYe.out.2)) ?_);rintro e w9 ⟨rfl,haU,hK9⟩;rw[HZB.out];have hY9:w9.heap[ws.heap.size]?=some (.cells #[Z y.op,Z y.dst,.bool y.ar,Z y.an,.bool y.br,Z y.bn,Z y.fn,.slice qy y.args.length dy] 51 (0,0)):=(hK9.block _ (qd hY8) bO).trans hY8;have hS9:Sp w9:=(by rw[hSp];exact⟨_,hY9⟩);refine⟨_,rfl,hS9,?_⟩;obtain⟨za,hza⟩:=nZ ((xw M (y.ar,y.an)).2);obtain⟨zb,hzb⟩:=nZ ((xw M (y.br,y.bn)).2);rw[←hza,←hzb];have HZa:=q8 hza;have HZb:=q8 hzb;clear hza hzb yb2 yb3 yb yf;obtain⟨yb,yf⟩:=blk hY9;have yb2:=yb 2;have yb3:=yb 3;have yb4:=yb 4;have yb5:=yb 5;simp only[zE,zB,zD]at yb2 yb3 yb4 yb5;have yz:=qd hY9;obtain⟨wA,hwA⟩:=nZ ((w9.setCell (J ws.heap.size 2) (.bool y.ar)).setCell (J ws.heap.size 3) (Z za))
      have hYA:wA.heap[ws.heap.size]?=some (.cells #[Z y.op,Z y.dst,.bool y.ar,Z za,.bool y.br,Z y.bn,Z y.fn,.slice qy y.args.length dy] 51 (0,0)):=by
       rw[hwA,qj (qj hY9 2 _) 3 _];rfl
      have hSA:Sp wA:=(by rw[hSp];exact⟨_,hYA⟩);refine qm (i:=9) bK (qz wA rfl rfl rfl (by rw[hwA];go_simp) (fun _=>hSA) ?_);refine qm (i:=10) bK (qC 160 (.pointer (some (J ws.heap.size 4))) wA rfl rfl rfl (by go_simp) hSA ?_);have HwA:=q8 hwA;clear yb2 yb3 yb4 yb5 yb yf yz hwA;obtain⟨yb,yf⟩:=blk hYA;have yb4:=yb 4;have yb5:=yb 5;simp only[zE,zB,zD]at yb4 yb5;have yz:=qd hYA;obtain⟨W5,hW5⟩:=nZ ((wA.setCell (J ws.heap.size 4) (.bool y.br)).setCell (J ws.heap.size 5) (Z zb));refine qm (i:=11) bK (qz W5 rfl rfl rfl (by rw[hW5];go_simp) (fun h=>absurd rfl h) (qL bK ?_ _));simp only[calm]
      have hY5:W5.heap[ws.heap.size]?=some (.cells #[Z y.op,Z y.dst,.bool y.ar,Z za,.bool y.br,Z zb,Z y.fn,.slice qy y.args.length dy] 51 (0,0)):=by
       rw[hW5,qj (qj hYA 4 _) 5 _];rfl
      have hKA:Kept (fun k=>k=ws.heap.size) w9 W5:=by
       rw[hW5,HwA.out];have h1:=Kept.setCell (S:=fun k=>k=ws.heap.size) (p:=(J ws.heap.size 2)) (Kept.refl _ w9) rfl (.bool y.ar);have h2:=h1.setCell (p:=(J ws.heap.size 3)) rfl (Z za);have h3:=h2.setCell (p:=(J ws.heap.size 4)) rfl (.bool y.br);exact h3.setCell (p:=(J ws.heap.size 5)) rfl (Z zb)
      have hK5:Kept (fun k=>k=nb\/k=A) ws W5:=((((Kept.of_below HB7.out).drew).trans hK8 (fun _ _ h=>h)).trans hK9 (fun _ _ h=>h)).trans hKA (fun k h e=>by omega);have hz5:ws.heap.size+1<=W5.heap.size:=(by have:=qd hY5;omega);obtain⟨L9,hL9⟩:=nZ (L8++xQ (y.ar,y.an)++xQ (y.br,y.bn));have hN5:=haU.kept hKA (by have:=haU.at;omega) (by have:=haU.at;omega);rw[←hL9]at hN5
      have heJ:∀Q,Q <+: y.args.flatMap xQ++vO y.dst->L9++Q <+: Qh g++ZD g:=fun Q hQ=>by
       have:=hlM.out (xQ (y.ar,y.an)++xQ (y.br,y.bn)++Q) (by
        unfold Qx;rw[yF _ (y.args.flatMap xQ)]
        exact(List.prefix_append_right_inj _).2 hQ)
       rw[hL9];simpa using this
      have hlO:∀k,Ti k->S2 k/\k<W1.heap.size:=fun k h=>hdQ.out k (HTl.out.2 k h)
      have hhT:=HAr.out.sl.kept zq hK5 (fun k h1 h2=>by
       have:=(hlO k h2).2
       omega)
      obtain⟨yb',yf'⟩:=blk hY5;have yb7:=yb' 7;simp only[zE,zB,zD]at yb7;have yz5:=qd hY5;have HY5:=q8 hY5;have HK5:=q8 hK5;have HN5:=q8 hN5;have HL9:=q8 hL9;have hlP:=q8 (fun Q (hQ:Q <+: y.args.flatMap xQ)=>heJ Q (hQ.trans (List.prefix_append _ _)));have hlQ:=q8 heJ;have heK:=q8 hlO;have hlD:=q8 hhT;clear hY5 hK5 hN5 hL9 heJ hlO hhT yb' yb yf yb4 yb5 yz hKA hW5 hSA hYA hS9 hY9 hK9 haU hS8 hY8 hK8 hN9 hS7 hSp ha6
      go_wp2_with fail
      clear yb7 yf' yz5
      go_loopg [164] y.args.length (fun q s164 wr=>∃n:Nat,n<=y.args.length/\q=y.args.length - n/\s164=Z n/\NmL wr nb A m (L9++(y.args.take n).flatMap xQ)/\SlO 44 2 jV wr (.slice qy y.args.length dy) (qG n (xw M) y.args) Ti/\Kept (fun k=>Ti k\/k=nb\/k=A) W5 wr)
      case atStart=>exact⟨0,by omega,rfl,rfl,by rw[List.take_zero];exact(List.append_nil L9).symm ▸ HN5.out,by rw[qU];exact hlD.out,Kept.refl _ _⟩
      case round=>
       obtain⟨n,hn,rfl,rfl,hN,hV,hK⟩:=hrel;obtain⟨wv,hwv⟩:=nZ wr;subst hwv;have hoK:=hK.size
       have hYv:wv.heap[ws.heap.size]?=some (.cells #[Z y.op,Z y.dst,.bool y.ar,Z za,.bool y.br,Z zb,Z y.fn,.slice qy y.args.length dy] 51 (0,0)):=(hK.block _ bO (fun h=>by
        rcases h with h|h|h
        ·have:=(heK.out _ h).2;omega
        ·omega
        omega)).trans HY5.out
       have hsY:=hN.at;have HNv:=q8 hN;have HVv:=q8 hV;have HKv:=q8 hK;have HYv:=q8 hYv;clear hN hV hK hYv
       by_cases hnl:n<y.args.length
       ·have hhU:n<(qG n (xw M) y.args).length:=(by rw[qO];exact hnl);obtain⟨gv,cv,csv,Tv,hvv,hgv,heD,hlE,hxv,hhV,hhW,hdR,hhX,⟨curv,hcZ⟩,putv⟩:=HVv.out.focus zq bO hhU;rw[xh hhU (zK _)]at hxv;obtain⟨v,hve⟩:=nZ (y.args[n]);have hvm:OkV m v:=HOx.out.ic y HYe.out.2 v (by rw[hve];exact zP hnl);rw[←hve]at hxv;obtain⟨hlF,hv64⟩:=hxv;subst hlF;have hqv:qy=some (J gv 0):=(by injection hvv);have v0:=hdR 0 bO;have v1:=hdR 1 bO;simp only[zB,zD,yJ]at v0 v1;have hsZ:=heK.out gv heD;obtain⟨L6,hL6⟩:=nZ (L9++(y.args.take n).flatMap xQ)
        have hpr:L6++xQ v <+: Qh g++ZD g:=by
         rw[hL6,yF];exact hlP.out _ (QC hnl (by rw[←hve];exact List.prefix_refl _))
        have hz:(xw (stL (L6++xQ v)).1 v).2=(xw M v).2:=by
         rw[HMd.out];exact QD hpr
        have hnx:L6++xQ v=L9++(y.args.take (n+1)).flatMap xQ:=by
         rw[yA hnl,yn,←yF,←hve,hL6];simp
        have heE:I64 (xw M v).2:=by
         unfold xw
         split
         ·have:=HMb.out v.2.toNat;unfold I64;omega
         exact hv64
        have hN6:=HNv.out;rw[←hL6]at hN6;have HVe:=q8 hve;have HVm:=q8 hvm;have heF:=q8 putv;have HTv:=q8 (zh hhV hhW);have HCv:=q8 hcZ;have heG:=q8 hdR;have hlG:=q8 hhX;have hlH:=q8 heD;have HN6:=q8 hN6;have HZv:=q8 hz;have hlI:=q8 hnx;have hlJ:=q8 heE;subst hqv;clear hvv hve hvm hv64 putv hhV hhW hcZ hdR hlE heD hL6 hpr hz hnx heE hN6
        go_wp2_with fail
        obtain⟨w9,hw9⟩:=nZ (wv.alloc (.cells #[.bool v.1,Z v.2] 44));rw[←hw9];have hz9:w9.heap.size=wv.heap.size+1:=(by rw[hw9];simp);have hb9:Below wv.heap.size wv w9:=(by rw[hw9];exact bZ);have hV9:w9.heap[wv.heap.size]?=some (.cells #[.bool v.1,Z v.2] 44 (0,0)):=(by rw[hw9];exact qr rfl);have HB9:=q8 hb9;clear hw9 hb9 v0 v1 hhX;obtain⟨Sp,hSp⟩:∃Sp:World->Prop,Sp=fun w'=>w'.heap[ws.heap.size]?=some (.cells #[Z y.op,Z y.dst,.bool y.ar,Z za,.bool y.br,Z zb,Z y.fn,.slice (some (J gv 0)) y.args.length dy] 51 (0,0))/\w'.heap[wv.heap.size]?=some (.cells #[.bool v.1,Z v.2] 44 (0,0)):=⟨_,rfl⟩
        have ha6:∀w',Sp w'->(∀i,w'.cell? (J ws.heap.size i)=(#[Z y.op,Z y.dst,.bool y.ar,Z za,.bool y.br,Z zb,Z y.fn,.slice (some (J gv 0)) y.args.length dy]:Array Value)[i]?)/\(∀i,w'.cell? (J wv.heap.size i)=(#[.bool v.1,Z v.2]:Array Value)[i]?)/\ws.heap.size<w'.heap.size/\wv.heap.size<w'.heap.size:=fun w' h=>by
         rw[hSp]at h;exact⟨(blk h.1).1,(blk h.2).1,qd h.1,qd h.2⟩
        have hS9:Sp w9.drew:=(by rw[hSp];exact⟨(HB9.out.block _ (qd HYv.out)).trans HYv.out,hV9⟩);refine qA (S:=Sp) bK 7 ?_;refine tkZ 0 169 (.pointer (some (J ws.heap.size 7))) rfl rfl hS9 (fun w' h=>?_) ?_
        ·obtain⟨h1,h2,h3,h4⟩:=ha6 w' h;have a1:=h1 7;have b0:=h2 0;have b1:=h2 1;clear h1 h2;simp only[zE,zB,zD]at a1 b0 b1;go_simp
        refine tkZ 1 170 (.slice (some (J gv 0)) y.args.length dy) rfl rfl hS9 (fun w' h=>?_) ?_
        ·obtain⟨h1,h2,h3,h4⟩:=ha6 w' h;have a1:=h1 7;have b0:=h2 0;have b1:=h2 1;clear h1 h2;simp only[zE,zB,zD]at a1 b0 b1;go_simp
        refine tkZ 2 171 (Z n) rfl rfl hS9 (fun w' h=>?_) ?_
        ·obtain⟨h1,h2,h3,h4⟩:=ha6 w' h;have a1:=h1 7;have b0:=h2 0;have b1:=h2 1;clear h1 h2;simp only[zE,zB,zD]at a1 b0 b1;go_simp
        refine tkZ 3 172 (.pointer (some (J nb 0))) rfl rfl hS9 (fun w' h=>?_) ?_
        ·obtain⟨h1,h2,h3,h4⟩:=ha6 w' h;have a1:=h1 7;have b0:=h2 0;have b1:=h2 1;clear h1 h2;simp only[zE,zB,zD]at a1 b0 b1;go_simp
        refine tkZ 4 173 (.agg #[.bool v.1,Z v.2]) rfl rfl hS9 (fun w' h=>?_) ?_
        ·obtain⟨h1,h2,h3,h4⟩:=ha6 w' h;have a1:=h1 7;have b0:=h2 0;have b1:=h2 1;clear h1 h2;simp only[zE,zB,zD]at a1 b0 b1;go_simp
        refine qm (i:=5) bK (qt 174 rfl rfl rfl (by go_simp) (jJ ((HN6.out.below HB9.out).below (zI _ w9).drew) v HVm.out) ?_);rintro e w10 ⟨rfl,haU,haN⟩;rw[hlI.out]at haU;rw[HZv.out]
        have haH:Sp w10:=by
         rw[hSp]at hS9 ⊢;exact⟨(haN.block _ (qd hS9.1) bO).trans hS9.1,(haN.block _ (qd hS9.2) bO).trans hS9.2⟩
        refine⟨_,rfl,haH,?_⟩;have hfU:w9.heap.size<=w10.heap.size:=haN.size;have heH:Kept (fun k=>k=nb\/k=A) wv w10:=((Kept.of_below HB9.out).drew).trans haN (fun _ _ h=>h);have haV:w10.heap[gv]?=wv.heap[gv]?:=heH.block gv hgv bO;have g0:w10.cell? (J gv (n*2))=some (.bool v.1):=(zN (a:=(J gv (n*2))) haV).trans (heG.out 0 bO);have g0':w10.cell? (J gv (n*2+1))=some (Z v.2):=(zN (a:=(J gv (n*2+1))) haV).trans (heG.out 1 bO);have g1:∀o,w10.frozen? (J gv o)=false:=fun o=>(yB (a:=(J gv o)) haV).trans (hlG.out _);have g2:gv<w10.heap.size:=(by omega);refine qm (i:=6) bK (qC 175 (.pointer (some (J gv (n*2)))) w10 rfl rfl rfl (by go_simp) haH ?_);refine qm (i:=7) bK (qz ((w10.setCell (J gv (n*2)) (.bool v.1)).setCell (J gv (n*2+1)) (Z (xw M v).2)) rfl rfl rfl (by go_simp) (fun h=>absurd rfl h) (qL bK ?_ _));show Exit.inBlock 19 _ Exit.normal _ _;obtain⟨W,hW⟩:=nZ ((w10.setCell (J gv (n*2)) (.bool v.1)).setCell (J gv (n*2+1)) (Z (xw M v).2));rw[←hW]
        have hrp:RowPut wv W 44 gv (n*2) 2 [.bool v.1,Z (xw M v).2]:=by
         rw[hW];exact(RowPut.same HCv.out haV heG.out).two _ _
        have hKx:Kept (fun k=>k=gv) w10 W:=by
         rw[hW];have h1:=Kept.setCell (S:=fun k=>k=gv) (p:=(J gv (n*2))) (Kept.refl _ w10) rfl (.bool v.1);exact h1.setCell (p:=(J gv (n*2+1))) rfl (Z (xw M v).2)
        have hKW:Kept (fun k=>k=gv\/k=nb\/k=A) wv W:=(heH.mono fun _ _ h=>.inr h).trans hKx (fun _ _ h=>.inl h)
        have hput:=heF.out W _ (xw M v) (fun _=>False) hrp rfl (fun u hu=>by
          simp only[yC,yG,yl]at hu
          rcases hu with rfl|rfl<;>rfl) hKW.size (fun k h1 _ h3=>hKW.block k (HVv.out.inb k h1) (fun h=>by
          rcases h with h|h|h
          ·exact h3 h
          ·have:=(heK.out k h1).2;omega
          have:=(heK.out k h1).2;omega)) ⟨by rw[KQ],hlJ.out⟩ (fun k hk=>hk.elim)
        rw[HVe.out,qS hnl]at hput;have hgr:=hput.grow (S':=Ti) (fun k h=>h.elim id (fun h=>h.elim)) (HVv.out.inb.mono hKW.size);have hNW:=haU.kept hKx bO bO
        have hKf:Kept (fun k=>Ti k\/k=nb\/k=A) W5 W:=HKv.out.trans hKW (fun k _ h=>by
         rcases h with h|h|h
         ·rw[h];exact .inl hlH.out
         ·exact .inr (.inl h)
         exact .inr (.inr h))
        have ha7:=q8 (zh hNW (zh hgr hKf));clear haU haN haH hS9 heH haV g0 g0' g1 hrp hKx hKW hput hgr hNW hKf hW ha6
        go_wp2_with fail
        go_roundg (y.args.length - (n+1))
        case measure=>omega
        case rel=>exact⟨n+1,by omega,rfl,by go_num,ha7.out.1,ha7.out.2.1,ha7.out.2.2⟩
       obtain rfl:y.args.length=n:=(by omega);have hN9:=HNv.out;rw[yP]at hN9
       have hXv:wv.heap[wj.heap.size]?=some (.cells #[.slice q1 x.phis.length d1,.slice (some (J gl 0)) x.list.length d2,Z x.fin.kind,.bool x.fin.onr,Z x.fin.onn,.slice q3 x.fin.to.length d3] 49 (0,0)):=(HKv.out.block _ (by have:=qd HXs.out;have:=HK5.out.size;omega) (fun h=>by
        have:=qd HXs.out;rcases h with h|h|h
        ·have:=(heK.out _ h).2;have:=qd HXp.out;omega
        ·omega
        omega)).trans ((HK5.out.block _ (qd HXs.out) (by have:=qd HXs.out;omega)).trans HXs.out)
       have hln:L9++y.args.flatMap xQ++vO y.dst=L7++(x.list.take (j+1)).flatMap fun i=>Qx i++vO i.dst:=by
        rw[yA hjl,yn,←yF,←HYe.out.1,HL9.out,HL8.out];simp[Qx]
       have hpd:=hlQ.out _ (List.prefix_refl _);obtain⟨yb,yf⟩:=blk HYv.out;have yb1:=yb 1;simp only[zE,zB,zD]at yb1;have yz:=qd HYv.out;have HN9:=q8 hN9;have HXv:=q8 hXv;have HLn:=q8 hln;have HPd:=q8 hpd;clear hN9 hXv hln hpd yb
       by_cases hd:0<=y.dst
       rotate_left
       ·have hmd:vO y.dst=[]:=by unfold vO;rw[zQ hd]
        have hrd:(vZ M y).dst=y.dst:=by
         show(if 0<=y.dst then M y.dst.toNat else y.dst)=y.dst;rw[zQ hd]
        have hNz:NmL wv nb A m (L7++(x.list.take (j+1)).flatMap fun i=>Qx i++vO i.dst):=(by rw[←HLn.out,hmd,List.append_nil];exact HN9.out);have hKz:Kept (fun k=>k=ws.heap.size\/k=nb\/k=A) wv wv:=Kept.refl _ _;have hYz:=HYv.out;have hlR:=q8 hrd;clear hmd hrd yb1 yf yz;obtain⟨yb,yf⟩:=blk hYz;have yb0:=yb 0;have yb1:=yb 1;have yb2:=yb 2;have yb3:=yb 3;have yb4:=yb 4;have yb5:=yb 5;have yb6:=yb 6;have yb7:=yb 7;simp only[zE,zB,zD]at yb0 yb1 yb2 yb3 yb4 yb5 yb6 yb7;have yz:=qd hYz;have hXz:wv.heap[wj.heap.size]?=some (.cells #[.slice q1 x.phis.length d1,.slice (some (J gl 0)) x.list.length d2,Z x.fin.kind,.bool x.fin.onr,Z x.fin.onn,.slice q3 x.fin.to.length d3] 49 (0,0)):=(hKz.block _ (by have:=qd HXv.out;omega) (by have:=qd HXs.out;omega)).trans HXv.out;obtain⟨xb,xf⟩:=blk hXz;have xb1:=xb 1;simp only[zE,zB,zD]at xb1;have xz:=qd hXz;have hzz:=hKz.size
        have hgz:wv.heap[gl]?=ws.heap[gl]?:=(hKz.block _ bO bO).trans ((HKv.out.block _ bO (fun h=>by
         rcases h with h|h|h
         ·exact HTl.out.1 h
         ·omega
         omega)).trans (HK5.out.block _ bO bO))
        have lz0:wv.frozen? (J gl (j*8))=false:=(yB (a:=(J gl (j*8))) hgz).trans (haX.out _);have lc0:wv.cell? (J gl (j*8))=_:=(zN (a:=(J gl (j*8))) hgz).trans (haO.out 0 bO);have lz1:wv.frozen? (J gl (j*8+1))=false:=(yB (a:=(J gl (j*8+1))) hgz).trans (haX.out _);have lc1:wv.cell? (J gl (j*8+1))=_:=(zN (a:=(J gl (j*8+1))) hgz).trans (haO.out 1 bO);have lz2:wv.frozen? (J gl (j*8+2))=false:=(yB (a:=(J gl (j*8+2))) hgz).trans (haX.out _);have lc2:wv.cell? (J gl (j*8+2))=_:=(zN (a:=(J gl (j*8+2))) hgz).trans (haO.out 2 bO);have lz3:wv.frozen? (J gl (j*8+3))=false:=(yB (a:=(J gl (j*8+3))) hgz).trans (haX.out _);have lc3:wv.cell? (J gl (j*8+3))=_:=(zN (a:=(J gl (j*8+3))) hgz).trans (haO.out 3 bO);have lz4:wv.frozen? (J gl (j*8+4))=false:=(yB (a:=(J gl (j*8+4))) hgz).trans (haX.out _);have lc4:wv.cell? (J gl (j*8+4))=_:=(zN (a:=(J gl (j*8+4))) hgz).trans (haO.out 4 bO);have lz5:wv.frozen? (J gl (j*8+5))=false:=(yB (a:=(J gl (j*8+5))) hgz).trans (haX.out _);have lc5:wv.cell? (J gl (j*8+5))=_:=(zN (a:=(J gl (j*8+5))) hgz).trans (haO.out 5 bO);have lz6:wv.frozen? (J gl (j*8+6))=false:=(yB (a:=(J gl (j*8+6))) hgz).trans (haX.out _);have lc6:wv.cell? (J gl (j*8+6))=_:=(zN (a:=(J gl (j*8+6))) hgz).trans (haO.out 6 bO);have lz7:wv.frozen? (J gl (j*8+7))=false:=(yB (a:=(J gl (j*8+7))) hgz).trans (haX.out _);have lc7:wv.cell? (J gl (j*8+7))=_:=(zN (a:=(J gl (j*8+7))) hgz).trans (haO.out 7 bO);simp only[zB,zD]at lc0 lc1 lc2 lc3 lc4 lc5 lc6 lc7;have lzz:gl<wv.heap.size:=(by omega);have HNz:=q8 hNz;have HKz:=q8 hKz;have HGz:=q8 hgz;have HYz:=q8 hYz;clear hNz hKz hgz hYz hXz yb xb
        go_wp2_with fail
        obtain⟨wb,hwb⟩:=nZ wv;have HKb:Hid (Kept (fun k=>k=ws.heap.size\/k=nb\/k=A) wv wb):=q8 (by rw[hwb];exact Kept.refl _ _);have HGb:Hid (wb.heap[gl]?=ws.heap[gl]?):=q8 (by rw[hwb];exact HGz.out);have HNb:Hid (NmL wb nb A m (L7++(x.list.take (j+1)).flatMap fun i=>Qx i++vO i.dst)):=q8 (by rw[hwb];exact HNz.out);have HWb:=q8 hwb;clear hwb;have hlS:=hdQ.out gl hjA.out;have ht7:=HNb.out.at;obtain⟨W,hW⟩:=nZ (Go.Proofs.YtgjjhadbjmcnpaaGreatDoor.eight wb gl (j*8) (Z y.op) (Z y.dst) (.bool y.ar) (Z za) (.bool y.br) (Z zb) (Z y.fn) (.slice qy y.args.length dy));have hWu:=hW;unfold Go.Proofs.YtgjjhadbjmcnpaaGreatDoor.eight at hWu;rw[HWb.out]at hWu;rw[←hWu];clear hWu;have hKW:Kept (fun k=>k=gl) wb W:=by rw[hW];exact Xo ..
        have hrp:RowPut ws W 51 gl (j*8) 8 [Z y.op,Z y.dst,.bool y.ar,Z za,.bool y.br,Z zb,Z y.fn,.slice qy y.args.length dy]:=by
         rw[hW];exact(RowPut.same HCl.out HGb.out haO.out).eight rfl _ _ _ _ _ _ _ _
        have hio:Kept (fun k=>k=gl\/k=ws.heap.size\/k=nb\/k=A) wv W:=(HKb.out.mono fun _ _ h=>.inr h).trans hKW (fun _ _ h=>.inl h);have haW:Kept (fun k=>Ti k\/k=gl\/k=ws.heap.size\/k=nb\/k=A) ws W:=((HK5.out.mono fun _ _ h=>.inr (.inr (.inr h))).trans HKv.out (fun _ _ h=>h.elim .inl (fun h=>.inr (.inr (.inr h))))).trans hio (fun _ _ h=>.inr h);have hVf:=HVv.out;rw[qR]at hVf
        have hVw:=hVf.kept zq hio (fun k h1 h2=>by
         have h3:=(heK.out k h2).2;have:=HIs.out.inb k (HTl.out.2 k h2);rcases h1 with h|h|h|h
         ·exact HTl.out.1 (by rw[←h];exact h2)
         ·omega
         ·omega
         omega)
        have hMi:∀k,I64 (M k):=fun k=>by have:=HMb.out k;unfold I64;omega
        have hri:∀v:Bool×Int,I64 v.2->I64 (xw M v).2:=fun v h=>by
         unfold xw
         split
         ·exact hMi _
         exact h
        have heL:vZ M y={ y with dst:=y.dst,an:=za,bn:=zb,args:=y.args.map (xw M) }:=by
         have h:=hlR.out;rw[HZa.out,HZb.out,←h];rfl
        have hins:InsO W [Z y.op,Z y.dst,.bool y.ar,Z za,.bool y.br,Z zb,Z y.fn,.slice qy y.args.length dy] (vZ M y) Ti:=by
         rw[heL];refine⟨_,rfl,HI5.out.1,?_,?_,?_,HI5.out.2.2.2.2,⟨hVw,?_⟩⟩
         ·exact HI5.out.2.1
         ·show I64 za;rw[HZa.out];exact hri _ HI5.out.2.2.1
         ·show I64 zb;rw[HZb.out];exact hri _ HI5.out.2.2.2.1
         show(y.args.map _).length*16<=_;rw[yT];exact HAr.out.bd
        have hput:=hi8.out W _ (vZ M y) Ti hrp rfl (fun u hu=>by
          simp only[yC,yG,yl]at hu
          rcases hu with rfl|rfl|rfl|rfl|rfl|rfl|rfl|rfl<;>rfl) haW.size (fun k h1 h2 h3=>haW.block k (HIs.out.inb k h1) (fun h=>by
          have h4:=(hdQ.out k h1).2;have h5:=HIs.out.inb k h1;rcases h with h|h|h|h|h
          ·exact h2 h
          ·exact h3 h
          ·omega
          ·omega
          omega)) hins (fun k hk=>⟨.inl hk,by have:=HIs.out.inb k (HTl.out.2 k hk);have:=haW.size;omega⟩)
        rw[HYe.out.1,qS hjl]at hput;have hgr:=hput.grow (S':=Sl) (fun k h=>h.elim id (HTl.out.2 k)) (HIs.out.inb.mono haW.size);have hNW:=HNb.out.kept hKW bO bO
        have hKf:Kept (fun k=>Sl k\/k=nb\/k=A) wp W:=HKs.out.trans haW (fun k hk h=>by
         rcases h with h|h|h|h
         ·exact .inl (HTl.out.2 k h)
         ·rw[h];exact .inl hjA.out
         ·omega
         exact .inr h)
        go_roundg (x.list.length - (j+1))
        case measure=>omega
        case rel=>exact⟨j+1,by omega,rfl,by go_num,hNW,hgr,hKf⟩
       obtain⟨d,hdd⟩:∃d:Nat,y.dst=(d:Int):=⟨y.dst.toNat,by omega⟩;have hdm:d<m:=(by have:=HOx.out.id y HYe.out.2;omega);have hmd:vO y.dst=[d]:=by unfold vO;rw[zZ hd,hdd];rfl
       have hzd:(stL (L9++y.args.flatMap xQ++[d])).1 d=M d:=by
        rw[HMd.out];have h:=HPd.out;rw[hmd,←yF]at h;exact VS (pre_app (b:=[]) (by simpa using h)) bV
       have hrd:(vZ M y).dst=M d:=by
        show(if 0<=y.dst then M y.dst.toNat else y.dst)=M d;rw[zZ hd,hdd,xC]
       have ht9:=q8 hmd;have HDd:=q8 hdd;have HZd:=q8 hzd;have hlR:=q8 hrd;rw[hdd]at yb1 hd;clear hmd hdd hzd hrd
       go_wp2_with fail
       refine(kt HN9.out d hdm).mono ?_;rintro e wz ⟨rfl,hNz,hK9⟩;rw[HZd.out];rw[←ht9.out,HLn.out]at hNz;have hYz:wz.heap[ws.heap.size]?=some (.cells #[Z y.op,Z y.dst,.bool y.ar,Z za,.bool y.br,Z zb,Z y.fn,.slice qy y.args.length dy] 51 (0,0)):=(hK9.block _ (qd HYv.out) (by have:=HN9.out.at;have:=qd HYv.out;omega)).trans HYv.out;have hKz:Kept (fun k=>k=ws.heap.size\/k=nb\/k=A) wv wz:=hK9.mono fun _ _ h=>.inr h;clear yb1 yf yz hK9;obtain⟨yb,yf⟩:=blk hYz;have yb0:=yb 0;have yb1:=yb 1;have yb2:=yb 2;have yb3:=yb 3;have yb4:=yb 4;have yb5:=yb 5;have yb6:=yb 6;have yb7:=yb 7;simp only[zE,zB,zD]at yb0 yb1 yb2 yb3 yb4 yb5 yb6 yb7;have yz:=qd hYz;have hXz:wz.heap[wj.heap.size]?=some (.cells #[.slice q1 x.phis.length d1,.slice (some (J gl 0)) x.list.length d2,Z x.fin.kind,.bool x.fin.onr,Z x.fin.onn,.slice q3 x.fin.to.length d3] 49 (0,0)):=(hKz.block _ (by have:=qd HXv.out;omega) (by have:=qd HXs.out;omega)).trans HXv.out;obtain⟨xb,xf⟩:=blk hXz;have xb1:=xb 1;simp only[zE,zB,zD]at xb1;have xz:=qd hXz;have hzz:=hKz.size
       have hgz:wz.heap[gl]?=ws.heap[gl]?:=(hKz.block _ bO bO).trans ((HKv.out.block _ bO (fun h=>by
        rcases h with h|h|h
        ·exact HTl.out.1 h
        ·omega
        omega)).trans (HK5.out.block _ bO bO))
       have lz0:wz.frozen? (J gl (j*8))=false:=(yB (a:=(J gl (j*8))) hgz).trans (haX.out _);have lc0:wz.cell? (J gl (j*8))=_:=(zN (a:=(J gl (j*8))) hgz).trans (haO.out 0 bO);have lz1:wz.frozen? (J gl (j*8+1))=false:=(yB (a:=(J gl (j*8+1))) hgz).trans (haX.out _);have lc1:wz.cell? (J gl (j*8+1))=_:=(zN (a:=(J gl (j*8+1))) hgz).trans (haO.out 1 bO);have lz2:wz.frozen? (J gl (j*8+2))=false:=(yB (a:=(J gl (j*8+2))) hgz).trans (haX.out _);have lc2:wz.cell? (J gl (j*8+2))=_:=(zN (a:=(J gl (j*8+2))) hgz).trans (haO.out 2 bO);have lz3:wz.frozen? (J gl (j*8+3))=false:=(yB (a:=(J gl (j*8+3))) hgz).trans (haX.out _);have lc3:wz.cell? (J gl (j*8+3))=_:=(zN (a:=(J gl (j*8+3))) hgz).trans (haO.out 3 bO);have lz4:wz.frozen? (J gl (j*8+4))=false:=(yB (a:=(J gl (j*8+4))) hgz).trans (haX.out _);have lc4:wz.cell? (J gl (j*8+4))=_:=(zN (a:=(J gl (j*8+4))) hgz).trans (haO.out 4 bO);have lz5:wz.frozen? (J gl (j*8+5))=false:=(yB (a:=(J gl (j*8+5))) hgz).trans (haX.out _);have lc5:wz.cell? (J gl (j*8+5))=_:=(zN (a:=(J gl (j*8+5))) hgz).trans (haO.out 5 bO);have lz6:wz.frozen? (J gl (j*8+6))=false:=(yB (a:=(J gl (j*8+6))) hgz).trans (haX.out _);have lc6:wz.cell? (J gl (j*8+6))=_:=(zN (a:=(J gl (j*8+6))) hgz).trans (haO.out 6 bO);have lz7:wz.frozen? (J gl (j*8+7))=false:=(yB (a:=(J gl (j*8+7))) hgz).trans (haX.out _);have lc7:wz.cell? (J gl (j*8+7))=_:=(zN (a:=(J gl (j*8+7))) hgz).trans (haO.out 7 bO);simp only[zB,zD]at lc0 lc1 lc2 lc3 lc4 lc5 lc6 lc7;have lzz:gl<wz.heap.size:=(by omega);have HNz:=q8 hNz;have HKz:=q8 hKz;have HGz:=q8 hgz;have HYz:=q8 hYz;clear hNz hKz hgz hYz hXz yb xb
       go_wp2_with fail
       obtain⟨wb,hwb⟩:=nZ (wz.setCell (J ws.heap.size 1) (Z (M d)));have hk9:Kept (fun k=>k=ws.heap.size) wz wb:=(by rw[hwb];exact Kept.setCell (S:=fun k=>k=ws.heap.size) (p:=(J ws.heap.size 1)) (Kept.refl _ _) rfl _);have hvM:=HNz.out.at;have HNb:=q8 (HNz.out.kept hk9 bO bO);have HKb:=q8 (HKz.out.trans hk9 (fun _ _ h=>.inl h));have HGb:=q8 ((hk9.block gl bO bO).trans HGz.out);have HWb:=q8 hwb;clear hk9 hwb;have hlS:=hdQ.out gl hjA.out;have ht7:=HNb.out.at;obtain⟨W,hW⟩:=nZ (Go.Proofs.YtgjjhadbjmcnpaaGreatDoor.eight wb gl (j*8) (Z y.op) (Z (M d)) (.bool y.ar) (Z za) (.bool y.br) (Z zb) (Z y.fn) (.slice qy y.args.length dy));have hWu:=hW;unfold Go.Proofs.YtgjjhadbjmcnpaaGreatDoor.eight at hWu;rw[HWb.out]at hWu;rw[←hWu];clear hWu;have hKW:Kept (fun k=>k=gl) wb W:=by rw[hW];exact Xo ..
       have hrp:RowPut ws W 51 gl (j*8) 8 [Z y.op,Z (M d),.bool y.ar,Z za,.bool y.br,Z zb,Z y.fn,.slice qy y.args.length dy]:=by
        rw[hW];exact(RowPut.same HCl.out HGb.out haO.out).eight rfl _ _ _ _ _ _ _ _
       have hio:Kept (fun k=>k=gl\/k=ws.heap.size\/k=nb\/k=A) wv W:=(HKb.out.mono fun _ _ h=>.inr h).trans hKW (fun _ _ h=>.inl h);have haW:Kept (fun k=>Ti k\/k=gl\/k=ws.heap.size\/k=nb\/k=A) ws W:=((HK5.out.mono fun _ _ h=>.inr (.inr (.inr h))).trans HKv.out (fun _ _ h=>h.elim .inl (fun h=>.inr (.inr (.inr h))))).trans hio (fun _ _ h=>.inr h);have hVf:=HVv.out;rw[qR]at hVf
       have hVw:=hVf.kept zq hio (fun k h1 h2=>by
        have h3:=(heK.out k h2).2;have:=HIs.out.inb k (HTl.out.2 k h2);rcases h1 with h|h|h|h
        ·exact HTl.out.1 (by rw[←h];exact h2)
        ·omega
        ·omega
        omega)
       have hMi:∀k,I64 (M k):=fun k=>by have:=HMb.out k;unfold I64;omega
       have hri:∀v:Bool×Int,I64 v.2->I64 (xw M v).2:=fun v h=>by
        unfold xw
        split
        ·exact hMi _
        exact h
       have heL:vZ M y={ y with dst:=(M d),an:=za,bn:=zb,args:=y.args.map (xw M) }:=by
        have h:=hlR.out;rw[HZa.out,HZb.out,←h];rfl
       have hins:InsO W [Z y.op,Z (M d),.bool y.ar,Z za,.bool y.br,Z zb,Z y.fn,.slice qy y.args.length dy] (vZ M y) Ti:=by
        rw[heL];refine⟨_,rfl,HI5.out.1,?_,?_,?_,HI5.out.2.2.2.2,⟨hVw,?_⟩⟩
        ·exact hMi d
        ·show I64 za;rw[HZa.out];exact hri _ HI5.out.2.2.1
        ·show I64 zb;rw[HZb.out];exact hri _ HI5.out.2.2.2.1
        show(y.args.map _).length*16<=_;rw[yT];exact HAr.out.bd
       have hput:=hi8.out W _ (vZ M y) Ti hrp rfl (fun u hu=>by
         simp only[yC,yG,yl]at hu
         rcases hu with rfl|rfl|rfl|rfl|rfl|rfl|rfl|rfl<;>rfl) haW.size (fun k h1 h2 h3=>haW.block k (HIs.out.inb k h1) (fun h=>by
         have h4:=(hdQ.out k h1).2;have h5:=HIs.out.inb k h1;rcases h with h|h|h|h|h
         ·exact h2 h
         ·exact h3 h
         ·omega
         ·omega
         omega)) hins (fun k hk=>⟨.inl hk,by have:=HIs.out.inb k (HTl.out.2 k hk);have:=haW.size;omega⟩)
       rw[HYe.out.1,qS hjl]at hput;have hgr:=hput.grow (S':=Sl) (fun k h=>h.elim id (HTl.out.2 k)) (HIs.out.inb.mono haW.size);have hNW:=HNb.out.kept hKW bO bO
       have hKf:Kept (fun k=>Sl k\/k=nb\/k=A) wp W:=HKs.out.trans haW (fun k hk h=>by
        rcases h with h|h|h|h
        ·exact .inl (HTl.out.2 k h)
        ·rw[h];exact .inl hjA.out
        ·omega
        exact .inr h)
       go_roundg (x.list.length - (j+1))
       case measure=>omega
       case rel=>exact⟨j+1,by omega,rfl,by go_num,hNW,hgr,hKf⟩

end Go.Proofs.YtgjjhadbjmcnpaaGreatDoor
