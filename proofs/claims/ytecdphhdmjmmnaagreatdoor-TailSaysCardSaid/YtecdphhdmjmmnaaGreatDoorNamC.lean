/-
  The contract of tidy.NamesOf.
-/
import Derived.Test.YtecdphhdmjmmnaaGreatDoorKeeB
import Derived.Test.YtecdphhdmjmmnaaGreatDoorJNamB
set_option maxRecDepth 100000
set_option maxHeartbeats 16000000
namespace Go.Proofs.YtecdphhdmjmmnaaGreatDoor
open Go.RowKit Go.Shelf

theorem names_any {nf:Nat} {P:Nat→Int} (f:FunL) (hC:FunC nf P f) (q:Option Addr) (e1:Nat) (w:World) (S:Blks) (hF:FunO w [.string f.name,.int .i64 f.params,.int .i64 f.regs,.slice q f.blocks.length e1] f S) :
  Calls Tryz.prog 62 #[.agg #[.string f.name,.int .i64 f.params,.int .i64 f.regs,.slice q f.blocks.length e1]] w fun e w'=>∃p c S',e = .returned (.agg #[.string f.name,.int .i64 f.params,.int .i64 (ja f).regs,.slice p (ja f).blocks.length c])∧
   FunO w' [.string f.name,.int .i64 f.params,.int .i64 (ja f).regs,.slice p (ja f).blocks.length c] (ja f) S'∧(∀g,S' g→S g∨w.heap.size≤g)∧Kept S w w':=by
 have hn0:=hC.n1
 have haA:=hC.n40
 obtain⟨v0,haF,hnm,i1,i2,hB⟩:=hF
 have hv0:v0 = .slice q f.blocks.length e1:=by simpa using haF.symm
 subst hv0
 obtain⟨gq,cq,_,_,hvq,_⟩:=hB.sl.focus qE (by omega) hn0
 have hq:q=some ⟨gq,0,none⟩:=by injection hvq
 subst hq
 have hread:=hB.read (R':=BlkR w) qE (by omega) fun _ _ _ h=>h.read
 have hRd:SliceAt w 6 (BlkR w) (some ⟨gq,0,none⟩) f.blocks:=by
  obtain⟨p,c,e,_,_,h⟩:=hread.outC
  cases e
  exact h
 have hSb:=hB.sl.inb
 have HC:=q7 hC
 have HB:=q7 hB
 have HRd:=q7 hRd
 have HSb:=q7 hSb
 have HN:=q7 (And.intro hnm (And.intro i1 i2))
 clear hC hB hread hRd hSb hnm i1 i2 haF hvq
 go_enter Tryz.func62,Tryz.ntmps62
 go_wp2_with fail
 obtain⟨W0,hW0⟩:∃W0,W0=(w.alloc (.cells #[.string f.name,.int .i64 f.params,.int .i64 f.regs,.slice (some ⟨gq,0,none⟩) f.blocks.length e1] 37)).alloc (.cells #[.string { data:=#[] },.int .i64 0,.int .i64 0,.slice none 0 0] 37):=⟨_,rfl⟩
 rw[←hW0]
 have hz0:W0.heap.size=w.heap.size+1+1:=by rw[hW0];simp
 have hb0:Below w.heap.size w W0:=by rw[hW0];exact bZ
 have hF0:W0.heap[w.heap.size]?=some (.cells #[.string f.name,.int .i64 f.params,.int .i64 f.regs,.slice (some ⟨gq,0,none⟩) f.blocks.length e1] 37 (0,0)):=by rw[hW0];exact qj (qh rfl)
 have hZ0:W0.heap[w.heap.size+1]?=some (.cells #[.string { data:=#[] },.int .i64 0,.int .i64 0,.slice none 0 0] 37 (0,0)):=by rw[hW0];exact qh (by simp)
 have HB0:=q7 hb0
 have HZ0:=q7 hZ0
 clear hW0 hb0 hZ0
 obtain⟨Sp,hSp⟩:∃Sp:World→Prop,Sp=fun w'=>w'.heap[w.heap.size]?=some (.cells #[.string f.name,.int .i64 f.params,.int .i64 f.regs,.slice (some ⟨gq,0,none⟩) f.blocks.length e1] 37 (0,0)):=⟨_,rfl⟩
 have ha6:∀w',Sp w'→(∀i,w'.cell? ⟨w.heap.size,i,none⟩=(#[.string f.name,.int .i64 f.params,.int .i64 f.regs,.slice (some ⟨gq,0,none⟩) f.blocks.length e1]:Array Value)[i]?)∧w.heap.size<w'.heap.size∧∀i,w'.frozen? ⟨w.heap.size,i,none⟩=false:=fun w' h=>by
  rw[hSp]at h
  exact⟨(blk h).1,q9 h,(blk h).2⟩
 have hS0:Sp W0.drew:=by rw[hSp];exact hF0
 refine qm (S:=Sp) (by kernel_rfl) 4 ?_
 refine tkZ 0 23 (.agg #[.string f.name,.int .i64 f.params,.int .i64 f.regs,.slice (some ⟨gq,0,none⟩) f.blocks.length e1]) rfl rfl hS0 (fun w' h=>?_) ?_
 ·obtain⟨h1,h2,h3⟩:=ha6 w' h
  have g0:=h1 0
  have g1:=h1 1
  have g2:=h1 2
  have g3:=h1 3
  clear h1 h3
  simp only[List.getElem?_toArray,List.getElem?_cons_zero,List.getElem?_cons_succ]at g0 g1 g2 g3
  go_simp
 refine tkZ 1 24 (.agg #[.string f.name,.int .i64 f.params,.int .i64 f.regs,.slice (some ⟨gq,0,none⟩) f.blocks.length e1]) rfl rfl hS0 (fun w' h=>?_) ?_
 ·obtain⟨h1,h2,h3⟩:=ha6 w' h
  have g0:=h1 0
  have g1:=h1 1
  have g2:=h1 2
  have g3:=h1 3
  clear h1 h3
  simp only[List.getElem?_toArray,List.getElem?_cons_zero,List.getElem?_cons_succ]at g0 g1 g2 g3
  go_simp
 have hO:=HC.out.funD.toFunS.ord
 have hint:j9 f.blocks=(xG f.blocks).map fun i:Nat=>(i:Int):=hO.ints
 have hpl:(jD f.blocks).length≤1000000:=HC.out.funD.toFunS.postLen
 refine qk (i:=2) (by kernel_rfl) (qt 25 rfl rfl rfl (by go_simp) (QC f (some ⟨gq,0,none⟩) e1 W0.drew hn0 (by omega) HC.out.funD.two HC.out.funD.toFunS.tosB (zF HRd.out HB0.out.drew) hpl) ?_)
 rintro e w1 ⟨vo,rfl,hOw,hb1⟩
 rw[hint,List.length_map]at hOw
 have ho:=HC.out.funD.toFunS.ordC
 obtain⟨o,hoe⟩:∃o,o=xG f.blocks:=⟨_,rfl⟩
 rw[←hoe]at ho hOw
 have hop:=ho.pos.1
 obtain⟨po,co,rfl⟩:=j8 hOw
 obtain⟨go,rfl,hhg,hdI,_⟩:=jB hOw hop
 have hoc:∀i (h:i<o.length),w1.cell? ⟨go,i,none⟩=some (.int .i64 (o[i]:Nat)):=fun i h=>by
  obtain⟨g',e,_,_,hc⟩:=jB hOw h
  cases e
  rw[hc]
  simp[h]
 have hco:o.length≤co:=by
  rcases hOw.2 with⟨h1,_⟩|⟨_,_,_,h1,_,_,h2,_⟩
  ·cases h1
  cases h1;exact h2
 have hb1':Below W0.heap.size W0 w1:=(Below.refl _ W0).drew.trans hb1
 have hf7:W0.heap.size≤go:=hhg
 have hF1:w1.heap[w.heap.size]?=some (.cells #[.string f.name,.int .i64 f.params,.int .i64 f.regs,.slice (some ⟨gq,0,none⟩) f.blocks.length e1] 37 (0,0)):=(hb1'.block _ (by omega)).trans hF0
 have hS1:Sp w1:=by rw[hSp];exact hF1
 refine⟨_,rfl,hS1,?_⟩
 have hdK:Below w.heap.size w w1:=HB0.out.trans (hb1'.mono (by omega))
 have hFO:FunO w1 [.string f.name,.int .i64 f.params,.int .i64 f.regs,.slice (some ⟨gq,0,none⟩) f.blocks.length e1] f S:=⟨_,rfl,HN.out.1,HN.out.2.1,HN.out.2.2,⟨HB.out.sl.below qE hdK,HB.out.bd⟩⟩
 refine qk (i:=3) (by kernel_rfl) (qt 26 rfl rfl rfl (by go_simp) (Vx f HC.out o ho (some ⟨gq,0,none⟩) e1 go co w1 S hFO hdI (fun h=>by have:=HSb.out go h;omega) hoc hco) ?_)
 rintro e w2 ⟨p2,c2,S2,rfl,hF2,hS2,hK2⟩
 obtain⟨g,hge⟩:∃g,g=zl o f:=⟨_,rfl⟩
 have hgT:g=ordT f:=by rw[hge,hoe];rfl
 rw[←hge]at hF2 ⊢
 have hCg:FunC nf P g:=by rw[hgT];exact HC.out.order
 have hh1:g.name=f.name∧g.params=f.params∧g.regs=f.regs:=by rw[hge];exact⟨rfl,rfl,rfl⟩
 have hiS:w2.heap[w.heap.size]?=some (.cells #[.string f.name,.int .i64 f.params,.int .i64 f.regs,.slice (some ⟨gq,0,none⟩) f.blocks.length e1] 37 (0,0)):=(hK2.block _ (by have:=hb1'.size;omega) (fun h=>by have:=HSb.out _ h;omega)).trans hF1
 have hd9:Sp w2:=by rw[hSp];exact hiS
 refine⟨_,rfl,hd9,?_⟩
 obtain⟨s1,s2,s3⟩:=ha6 w2 hd9
 have s10:=s1 0
 have s11:=s1 1
 have s12:=s1 2
 have s13:=s1 3
 simp only[List.getElem?_toArray,List.getElem?_cons_zero,List.getElem?_cons_succ]at s10 s11 s12 s13
 clear s1
 refine qk (i:=4) (by kernel_rfl) (qz ((((w2.setCell ⟨w.heap.size,0,none⟩ (.string f.name)).setCell ⟨w.heap.size,1,none⟩ (.int .i64 f.params)).setCell ⟨w.heap.size,2,none⟩ (.int .i64 f.regs)).setCell ⟨w.heap.size,3,none⟩ (.slice p2 g.blocks.length c2)) rfl rfl rfl (by go_simp) (fun h=>absurd rfl h) (qB (by kernel_rfl) ?_ _))
 show calm _ Exit.normal _ _
 obtain⟨W1,hW1⟩:∃W1,W1=(((w2.setCell ⟨w.heap.size,0,none⟩ (.string f.name)).setCell ⟨w.heap.size,1,none⟩ (.int .i64 f.params)).setCell ⟨w.heap.size,2,none⟩ (.int .i64 f.regs)).setCell ⟨w.heap.size,3,none⟩ (.slice p2 g.blocks.length c2):=⟨_,rfl⟩
 rw[←hW1]
 have hKs:Kept (fun k=>k=w.heap.size) w2 W1:=by
  rw[hW1]
  have h0:Kept (fun k=>k=w.heap.size) w2 w2:=Kept.refl _ _
  have h1:=h0.setCell (p:=⟨w.heap.size,0,none⟩) rfl (.string f.name)
  have h2:=h1.setCell (p:=⟨w.heap.size,1,none⟩) rfl (.int .i64 f.params)
  have h3:=h2.setCell (p:=⟨w.heap.size,2,none⟩) rfl (.int .i64 f.regs)
  exact h3.setCell (p:=⟨w.heap.size,3,none⟩) rfl (.slice p2 g.blocks.length c2)
 have hFb:W1.heap[w.heap.size]?=some (.cells #[.string f.name,.int .i64 f.params,.int .i64 f.regs,.slice p2 g.blocks.length c2] 37 (0,0)):=by
  rw[hW1,qg (qg (qg (qg hiS 0 _) 1 _) 2 _) 3 _]
  rfl
 have hqf:∀k,S2 k→(S k∨w1.heap.size≤k):=hS2
 have hm6:∀k,S2 k→k≠w.heap.size:=fun k hk e=>by
  rcases hS2 k hk with h|h
  ·have:=HSb.out k h;omega
  have:=hdK.size;have:=hb1'.size;omega
 obtain⟨v2,hcs2,_,_,_,hB2⟩:=hF2
 have hv2:v2 = .slice p2 g.blocks.length c2:=by
  have h:=hcs2.symm
  simp at h
  exact h.2.2.2
 subst hv2
 have hB2':SlQ 48 6 96 BlkO W1 (.slice p2 g.blocks.length c2) g.blocks S2:=⟨hB2.sl.kept qE hKs (fun k a b=>hm6 k b a),hB2.bd⟩
 have hKw:Kept S w W1:=by
  refine((Kept.of_below hdK).trans hK2 (fun k _ h=>h)).trans hKs (fun k h1 h2=>by omega)
 have hZ1:W1.heap[w.heap.size+1]?=some (.cells #[.string { data:=#[] },.int .i64 0,.int .i64 0,.slice none 0 0] 37 (0,0)):=(hKs.block _ (by have:=hb1'.size;have:=hK2.size;omega) (by omega)).trans ((hK2.block _ (by have:=hb1'.size;omega) (fun h=>by have:=HSb.out _ h;omega)).trans ((hb1'.block _ (by omega)).trans HZ0.out))
 have hz1:w.heap.size+1<W1.heap.size:=q9 hZ1
 have hm7:∀k,S2 k→S k∨w.heap.size+1<k:=fun k hk=>by
  rcases hS2 k hk with h|h
  ·exact .inl h
  have:=hb1'.size;right;omega
 have HGT:=q7 hgT
 have HCg:=q7 hCg
 have HH:=q7 hh1
 have HFb:=q7 hFb
 have HB2:=q7 hB2'
 have HKw:=q7 hKw
 have HZ1:=q7 hZ1
 have HS2:=q7 hm7
 have htE:=hCg.n1
 have hqh:=hCg.n40
 clear hgT hCg hh1 hFb hB2' hKw hZ1 hm7 hW1 hKs hiS hd9 hB2 hK2 hS2 hqf hm6 hFO hdK hS1 hF1 hf7 hb1' hco hoc hhg hdI hOw hb1 hpl hint hO hop hoe ho hS0 hSp ha6 hF0 s10 s11 s12 s13 s2 s3 hge HB0 HZ0 HB HRd hcs2
 simp only[calm]
 have hbh:=HCg.out.reg
 have haJ:=HCg.out.par
 rw[HH.out.2.1,HH.out.2.2]at hbh
 rw[HH.out.2.1]at haJ
 obtain⟨m,hm⟩:∃m:Nat,f.regs=(m:Int):=⟨f.regs.toNat,by omega⟩
 obtain⟨np,hnp⟩:∃np:Nat,f.params=(np:Int):=⟨f.params.toNat,by omega⟩
 have hiT:m≤100:=by omega
 have htF:np≤m:=by omega
 have HM:=q7 (And.intro hm hnp)
 clear hbh haJ
 have hm8:W1.heap[w.heap.size]?=some (.cells #[.string f.name,.int .i64 np,.int .i64 m,.slice p2 g.blocks.length c2] 37 (0,0)):=by rw[←hm,←hnp];exact HFb.out
 have HFb:=q7 hm8
 clear hm8 hm hnp
 obtain⟨fb,ff⟩:=blk HFb.out
 have fb1:=fb 1
 have fb2:=fb 2
 have fb3:=fb 3
 simp only[List.getElem?_toArray,List.getElem?_cons_zero,List.getElem?_cons_succ]at fb1 fb2 fb3
 have fz:=q9 HFb.out
 clear fb
 go_wp2_with fail
 refine(Zc W1.heap.size 0 1 (-1) m _ (by omega) (fun j hj=>by
  obtain rfl:j=0:=by omega
  exact(blk (qh (w:=W1) (o:=.cells #[.int .i64 (-1)] 3) rfl)).1 0)).mono ?_
 rintro e w3 ⟨rfl,hU,hb3⟩
 obtain⟨A,hA⟩:∃A,A=(W1.alloc (.cells #[.int .i64 (-1)] 3)).heap.size:=⟨_,rfl⟩
 rw[←hA]at hU ⊢
 have hdc:Below W1.heap.size W1 w3:=((Below.refl _ W1).alloc (Nat.le_refl _) _).trans (hb3.mono (by rw[World.size_alloc];exact Nat.le_succ _))
 have hAz:W1.heap.size<A:=by rw[hA,World.size_alloc];exact Nat.lt_succ_self _
 have hF3:=(hdc.block _ fz).trans HFb.out
 clear fb1 fb2 fb3 ff fz
 obtain⟨fb,ff⟩:=blk hF3
 have fb1:=fb 1
 have fb3:=fb 3
 simp only[List.getElem?_toArray,List.getElem?_cons_zero,List.getElem?_cons_succ]at fb1 fb3
 have fz:=q9 hF3
 have hAl:=hU.lt
 clear fb hA hF3
 have HU:=q7 hU
 have HB3:=q7 hdc
 clear hU hb3 hdc
 go_wp2_with fail
 have hU:=HU.out
 have hdc:=HB3.out
 obtain⟨W2,hW2⟩:∃W2,W2=w3.alloc (.cells #[.slice (some ⟨A,0,none⟩) m m,.int .i64 0] 149):=⟨_,rfl⟩
 obtain⟨nb,hnb⟩:∃nb,nb=w3.heap.size:=⟨_,rfl⟩
 rw[←hW2,←hnb]
 have hb2:Below W1.heap.size W1 W2:=by rw[hW2];exact hdc.alloc (by have:=hdc.size;omega) _
 have hNm:NmL W2 nb A m []:=by
  refine⟨⟨?_,?_,by omega,by show(0:Int)≤0∧(0:Int)≤1000000;omega⟩,fun r hr=>(by cases hr),hiT⟩
  ·rw[hW2,hnb];exact qh rfl
  rw[hW2];exact hU.alloc _
 have htG:W1.heap.size≤nb:=by have:=hdc.size;omega
 have hOk:∀b (hb:b<g.blocks.length),OkB m g.blocks[b]:=fun b hb=>by
  have h:=HCg.out.okB hb
  have e:g.regs.toNat=m:=by rw[HH.out.2.2,HM.out.1];rfl
  rwa [e]at h
 have hRd:SliceAt W1 6 (BlkR W1) p2 g.blocks:=by
  have hread:=HB2.out.read (R':=BlkR W1) qE (by omega) fun _ _ _ h=>h.read
  obtain⟨p,c,e,_,_,h⟩:=hread.outC
  cases e
  exact h
 have HB1:=q7 hb2
 have HNm:=q7 hNm
 have HOk:=q7 hOk
 have HRd:=q7 hRd
 clear hb2 hNm hOk hRd hW2 hnb hdc hU hAl HU HB3
 go_loopg [35] np (fun q s35 wr=>∃k:Nat,k≤np∧q=np - k∧s35 = .int .i64 k∧NmL wr nb A m (List.range k)∧Below W1.heap.size W1 wr)
 case atStart=>exact⟨0,by omega,rfl,rfl,HNm.out,HB1.out⟩
 case round=>
  obtain⟨k,hk,rfl,rfl,hN,hb⟩:=hrel
  obtain⟨wo,hwo⟩:∃wo,wo=wr:=⟨_,rfl⟩
  subst hwo
  have HNk:=q7 hN
  have HBk:=q7 hb
  clear hN hb fb1 fb3 ff fz
  by_cases hlt:k<np
  ·go_wp2_with fail
   refine(vj HNk.out k (by omega)).mono ?_
   rintro e w5 ⟨rfl,hN5,hK5⟩
   rw[←List.range_succ]at hN5
   have hb5:Below W1.heap.size W1 w5:=HBk.out.trans (hK5.below HBk.out.size (fun i e=>by omega))
   generalize (stL (List.range k++[k])).1 k=z
   have HN5:=q7 hN5
   have HB5:=q7 hb5
   clear hN5 hK5 hb5
   go_wp2_with fail
   go_roundg (np - (k+1))
   case measure=>omega
   case rel=>exact⟨k+1,by omega,rfl,by go_num,HN5.out,HB5.out⟩
  obtain rfl:np=k:=by omega
  have hF4:=(HBk.out.block _ (q9 HFb.out)).trans HFb.out
  obtain⟨fb,ff⟩:=blk hF4
  have fb3:=fb 3
  simp only[List.getElem?_toArray,List.getElem?_cons_zero,List.getElem?_cons_succ]at fb3
  have fz:=q9 hF4
  clear fb hF4
  go_wp2_with fail
  clear fb3 ff fz
  go_loopg [45] g.blocks.length (fun q s45 wr=>∃i:Nat,i≤g.blocks.length∧q=g.blocks.length - i∧s45 = .int .i64 i∧NmL wr nb A m (List.range np++(g.blocks.take i).flatMap metB)∧Below W1.heap.size W1 wr)
  case atStart=>exact⟨0,by omega,rfl,rfl,by rw[List.take_zero];exact(List.append_nil (List.range np)).symm ▸ HNk.out,HBk.out⟩
  case round=>
   obtain⟨i,hi,rfl,rfl,hN,hb⟩:=hrel
   obtain⟨wi,hwi⟩:∃wi,wi=wr:=⟨_,rfl⟩
   subst hwi
   have HNi:=q7 hN
   have HBi:=q7 hb
   have hnz:=hN.at
   clear hN hb HNk HBk
   by_cases hil:i<g.blocks.length
   ·obtain⟨bp,op,cs,hp,_,hc,v1,v2,v3,rfl,b3,b4,b5,b6,b7⟩:=HRd.out.get hil
    subst hp
    obtain⟨q1,d1,rfl,_,_,z1⟩:=b5.outC
    obtain⟨q2,d2,rfl,_,_,z2⟩:=b6.outC
    obtain⟨q3,d3,rfl,_,_,z3⟩:=b7.outC
    have hok:=HOk.out i hil
    obtain⟨x,hxe⟩:∃x,x=g.blocks[i]:=⟨_,rfl⟩
    rw[←hxe]at hc b5 b6 z1 z2 hok
    have hbp:=q8 (hc 0 (by omega))
    have hcw:∀j,j<6→wi.cell? ⟨bp,op+i*6+j,none⟩=_:=fun j hj=>(HBi.out.cell (p:=⟨bp,_,none⟩) hbp).trans (hc j hj)
    have c0:=hcw 0 (by omega)
    have c1:=hcw 1 (by omega)
    have c2:=hcw 2 (by omega)
    have c3:=hcw 3 (by omega)
    have c4:=hcw 4 (by omega)
    have c5:=hcw 5 (by omega)
    simp only[List.getElem?_cons_zero,List.getElem?_cons_succ,Nat.add_zero]at c0 c1 c2 c3 c4 c5
    have hl1:=b5.bdC
    have hl2:=b6.bdC
    unfold reachBytes at hl1 hl2
    have HXe:=q7 hxe
    have HOx:=q7 hok
    have HZ:=q7 (And.intro z1 z2)
    clear hxe hok z1 z2 z3 hc hcw b3 b4 b5 b6 b7
    go_wp2_with fail
    obtain⟨W4,hW4⟩:∃W4,W4=wi.alloc (.cells #[.slice q1 x.phis.length d1,.slice q2 x.list.length d2,.int .i64 x.fin.kind,.bool x.fin.onr,.int .i64 x.fin.onn,.slice q3 x.fin.to.length d3] 48):=⟨_,rfl⟩
    rw[←hW4]
    have hz4:W4.heap.size=wi.heap.size+1:=by rw[hW4];simp
    have hb4:Below wi.heap.size wi W4:=by rw[hW4];exact bZ
    have hX4:W4.heap[wi.heap.size]?=some (.cells #[.slice q1 x.phis.length d1,.slice q2 x.list.length d2,.int .i64 x.fin.kind,.bool x.fin.onr,.int .i64 x.fin.onn,.slice q3 x.fin.to.length d3] 48 (0,0)):=by rw[hW4];exact qh rfl
    obtain⟨L,hL⟩:∃L,L=List.range np++(g.blocks.take i).flatMap metB:=⟨_,rfl⟩
    have hN4:=HNi.out.below hb4
    rw[←hL]at hN4
    have HL:=q7 hL
    have HN4:=q7 hN4
    have HX4:=q7 hX4
    have HB4:=q7 (HBi.out.trans (hb4.mono HBi.out.size))
    have hBz:=HBi.out.size
    clear hW4 hb4 hX4 hL hN4 c0 c1 c2 c3 c4 c5
    go_loopg [52] x.phis.length (fun q s52 wr=>∃j:Nat,j≤x.phis.length∧q=x.phis.length - j∧s52 = .int .i64 j∧NmL wr nb A m (L++(x.phis.take j).map fun p=>p.dst.toNat)∧Kept (fun k=>k=nb∨k=A) W4 wr)
    case atStart=>exact⟨0,by omega,rfl,rfl,by rw[List.take_zero];exact(List.append_nil L).symm ▸ HN4.out,Kept.refl _ _⟩
    case round=>
     obtain⟨j,hj,rfl,rfl,hN,hK⟩:=hrel
     obtain⟨wp,hwp⟩:∃wp,wp=wr:=⟨_,rfl⟩
     subst hwp
     have hbw:Below W1.heap.size W1 wp:=HB4.out.trans (hK.below HB4.out.size (fun i e=>by omega))
     have hXp:wp.heap[wi.heap.size]?=some (.cells #[.slice q1 x.phis.length d1,.slice q2 x.list.length d2,.int .i64 x.fin.kind,.bool x.fin.onr,.int .i64 x.fin.onn,.slice q3 x.fin.to.length d3] 48 (0,0)):=(hK.block _ (by omega) (by omega)).trans HX4.out
     have HNp:=q7 hN
     have HKp:=q7 hK
     have HBp:=q7 hbw
     have hm9:=hK.size
     have hqp:=hbw.size
     obtain⟨xb,xf⟩:=blk hXp
     have xb1:=xb 1
     simp only[List.getElem?_toArray,List.getElem?_cons_zero,List.getElem?_cons_succ]at xb1
     have xz:=q9 hXp
     have HXp:=q7 hXp
     clear hN hK hbw hXp xb
     by_cases hjl:j<x.phis.length
     ·obtain⟨be,oe,ce,hpe,_,hce,ve,rfl,hqr,hse⟩:=HZ.out.1.get hjl
      subst hpe
      obtain⟨qe,de,rfl,_⟩:=hse.outC
      obtain⟨p,hpe⟩:∃p,p=x.phis[j]:=⟨_,rfl⟩
      have hdst:=HOx.out.dst p (by rw[hpe];exact List.getElem_mem hjl)
      rw[←hpe]at hce
      obtain⟨d,hd⟩:∃d:Nat,p.dst=(d:Int):=⟨p.dst.toNat,by omega⟩
      rw[hd]at hdst
      have hbe:=q8 (hce 0 (by omega))
      have e0:=(HBp.out.cell (p:=⟨be,_,none⟩) hbe).trans (hce 0 (by omega))
      have e1':=(HBp.out.cell (p:=⟨be,_,none⟩) hbe).trans (hce 1 (by omega))
      simp only[List.getElem?_cons_zero,List.getElem?_cons_succ,Nat.add_zero]at e0 e1'
      rw[hd]at e0
      have hnw:L++(x.phis.take (j+1)).map (fun p=>p.dst.toNat)=(L++(x.phis.take j).map fun p=>p.dst.toNat)++[d]:=by
       rw[List.take_succ_eq_append_getElem hjl,List.map_append,←List.append_assoc,List.map_cons,List.map_nil,←hpe,hd,Int.toNat_natCast]
      have hdm:d<m:=by omega
      have HNw:=q7 hnw
      have HPe:=q7 (And.intro hpe hd)
      clear hnw hpe hce hqr hse hdst hd xb1 xf
      go_wp2_with fail
      refine(vj (HNp.out.below (w':=wp.alloc (.cells #[.int .i64 d,.slice qe p.src.length de] 101)) bZ) d hdm).mono ?_
      rintro e w7 ⟨rfl,hN7,hK7⟩
      rw[←HNw.out]at hN7
      generalize (stL (L++(x.phis.take j).map (fun p=>p.dst.toNat)++[d])).1 d=z
      have hmf:Kept (fun k=>k=nb∨k=A) W4 w7:=(HKp.out.alloc _).trans hK7 (fun _ _ h=>h)
      have HN7:=q7 hN7
      have HK7:=q7 hmf
      clear hN7 hK7 hmf e0 e1'
      go_wp2_with fail
      go_roundg (x.phis.length - (j+1))
      case measure=>omega
      case rel=>exact⟨j+1,by omega,rfl,by go_num,HN7.out,HK7.out⟩
     obtain rfl:x.phis.length=j:=by omega
     have hN2:=HNp.out
     rw[List.take_length]at hN2
     obtain⟨L2,hL2⟩:∃L2,L2=L++x.phis.map fun p=>p.dst.toNat:=⟨_,rfl⟩
     rw[←hL2]at hN2
     have HL2:=q7 hL2
     have HN2:=q7 hN2
     have HK2:=q7 HKp.out
     clear hN2 hL2 HNp
     go_wp2_with fail
     clear HKp HBp HXp hm9 hqp xb1 xf xz
     go_loopg [64] x.list.length (fun q s64 wr=>∃j:Nat,j≤x.list.length∧q=x.list.length - j∧s64 = .int .i64 j∧NmL wr nb A m (L2++(x.list.take j).flatMap fun i=>Q3 i++vE i.dst)∧Kept (fun k=>k=nb∨k=A) W4 wr)
     case atStart=>exact⟨0,by omega,rfl,rfl,by rw[List.take_zero];exact(List.append_nil L2).symm ▸ HN2.out,HK2.out⟩
     case round=>
      obtain⟨j,hj,rfl,rfl,hN,hK⟩:=hrel
      obtain⟨ws,hws⟩:∃ws,ws=wr:=⟨_,rfl⟩
      subst hws
      have hbw:Below W1.heap.size W1 ws:=HB4.out.trans (hK.below HB4.out.size (fun i e=>by omega))
      have hqt:=hK.size
      have hqu:=hbw.size
      have hXs:ws.heap[wi.heap.size]?=some (.cells #[.slice q1 x.phis.length d1,.slice q2 x.list.length d2,.int .i64 x.fin.kind,.bool x.fin.onr,.int .i64 x.fin.onn,.slice q3 x.fin.to.length d3] 48 (0,0)):=(hK.block _ (by omega) (by omega)).trans HX4.out
      obtain⟨xb,xf⟩:=blk hXs
      have xb3:=xb 3
      have xb4:=xb 4
      simp only[List.getElem?_toArray,List.getElem?_cons_zero,List.getElem?_cons_succ]at xb3 xb4
      have xz:=q9 hXs
      have htH:=hN.at
      have HNs:=q7 hN
      have HKs:=q7 hK
      have HBs:=q7 hbw
      clear hN hK hbw hXs xb
      by_cases hjl:j<x.list.length
      rotate_left
      ·obtain rfl:x.list.length=j:=by omega
       have hN3:=HNs.out
       rw[List.take_length]at hN3
       have HN3:=q7 hN3
       clear hN3
       go_wp2_with fail
       refine(xX HN3.out (x.fin.onr,x.fin.onn) HOx.out.on).mono ?_
       rintro e w8 ⟨rfl,hN8,hK8⟩
       generalize (x9 (stL _).1 (x.fin.onr,x.fin.onn)).2=z
       have hb8:Below W1.heap.size W1 w8:=HBs.out.trans (hK8.below HBs.out.size (fun i e=>by omega))
       have hfin:(L2++x.list.flatMap fun i=>Q3 i++vE i.dst)++xw (x.fin.onr,x.fin.onn)=List.range np++(g.blocks.take (i+1)).flatMap metB:=by
        rw[List.take_succ_eq_append_getElem hil,List.flatMap_append,←List.append_assoc,←HL.out,←HXe.out,HL2.out]
        simp[metB]
       rw[hfin]at hN8
       have HN8:=q7 hN8
       have HB8:=q7 hb8
       clear hN8 hK8 hb8 hfin xb3 xb4 xf
       go_wp2_with fail
       go_roundg (g.blocks.length - (i+1))
       case measure=>omega
       case rel=>exact⟨i+1,by omega,rfl,by go_num,HN8.out,HB8.out⟩
      obtain⟨be,oe,ce,hpe,_,hce,ve,rfl,y1,y2,y3,y4,y5,hse⟩:=HZ.out.2.get hjl
      subst hpe
      obtain⟨qy,dy,rfl,_,_,zy⟩:=hse.outC
      obtain⟨y,hye⟩:∃y,y=x.list[j]:=⟨_,rfl⟩
      have hmem:y∈x.list:=by rw[hye];exact List.getElem_mem hjl
      rw[←hye]at hce zy hse
      have hly:=hse.bdC
      unfold reachBytes at hly
      have hbe:=q8 (hce 0 (by omega))
      have hcw:∀i,i<8→ws.cell? ⟨be,oe+j*8+i,none⟩=_:=fun i hi=>(HBs.out.cell (p:=⟨be,_,none⟩) hbe).trans (hce i hi)
      have e0:=hcw 0 (by omega)
      have e1':=hcw 1 (by omega)
      have e2:=hcw 2 (by omega)
      have e3:=hcw 3 (by omega)
      have e4:=hcw 4 (by omega)
      have e5:=hcw 5 (by omega)
      have e6:=hcw 6 (by omega)
      have e7:=hcw 7 (by omega)
      simp only[List.getElem?_cons_zero,List.getElem?_cons_succ,Nat.add_zero]at e0 e1' e2 e3 e4 e5 e6 e7
      obtain⟨L3,hL3⟩:∃L3,L3=L2++(x.list.take j).flatMap fun i=>Q3 i++vE i.dst:=⟨_,rfl⟩
      have hN3:=HNs.out
      rw[←hL3]at hN3
      have HYe:=q7 (And.intro hye hmem)
      have HL3:=q7 hL3
      have HZy:=q7 zy
      have HN3:=q7 hN3
      clear hye hmem hce hcw y1 y2 y3 y4 y5 hse hL3 hN3 zy xb3 xb4 xf HNs
      go_wp2_with fail
      obtain⟨w5,hw5⟩:∃w5,w5=ws.alloc (.cells #[.int .i64 y.op,.int .i64 y.dst,.bool y.ar,.int .i64 y.an,.bool y.br,.int .i64 y.bn,.int .i64 y.fn,.slice qy y.args.length dy] 53):=⟨_,rfl⟩
      rw[←hw5]
      have hz5:w5.heap.size=ws.heap.size+1:=by rw[hw5];simp
      have hb5:Below ws.heap.size ws w5:=by rw[hw5];exact bZ
      have hY5:w5.heap[ws.heap.size]?=some (.cells #[.int .i64 y.op,.int .i64 y.dst,.bool y.ar,.int .i64 y.an,.bool y.br,.int .i64 y.bn,.int .i64 y.fn,.slice qy y.args.length dy] 53 (0,0)):=by rw[hw5];exact qh rfl
      have hN5:=HN3.out.below hb5
      have HB5:=q7 hb5
      have HY5:=q7 hY5
      have HN5:=q7 hN5
      clear hw5 hb5 hY5 hN5 e0 e1' e2 e3 e4 e5 e6 e7
      refine(xX HN5.out (y.ar,y.an) (HOx.out.ia y HYe.out.2)).mono ?_
      rintro e w6 ⟨rfl,hN6,hK6⟩
      generalize (x9 (stL _).1 (y.ar,y.an)).2=za
      have hz6:=hK6.size
      have hY6:w6.heap[ws.heap.size]?=some (.cells #[.int .i64 y.op,.int .i64 y.dst,.bool y.ar,.int .i64 y.an,.bool y.br,.int .i64 y.bn,.int .i64 y.fn,.slice qy y.args.length dy] 53 (0,0)):=(hK6.block _ (by omega) (by omega)).trans HY5.out
      obtain⟨yb,yf⟩:=blk hY6
      have yb4:=yb 4
      have yb5:=yb 5
      simp only[List.getElem?_toArray,List.getElem?_cons_zero,List.getElem?_cons_succ]at yb4 yb5
      have yz:=q9 hY6
      have HN6:=q7 hN6
      have HK6:=q7 hK6
      have HY6:=q7 hY6
      clear hN6 hK6 hY6 yb
      go_wp2_with fail
      refine(xX HN6.out (y.br,y.bn) (HOx.out.ib y HYe.out.2)).mono ?_
      rintro e w7 ⟨rfl,hN7,hK7⟩
      generalize (x9 (stL _).1 (y.br,y.bn)).2=zb
      have hz7:=hK7.size
      have hY7:w7.heap[ws.heap.size]?=some (.cells #[.int .i64 y.op,.int .i64 y.dst,.bool y.ar,.int .i64 y.an,.bool y.br,.int .i64 y.bn,.int .i64 y.fn,.slice qy y.args.length dy] 53 (0,0)):=(hK7.block _ (by omega) (by omega)).trans HY6.out
      clear yb4 yb5 yf yz
      obtain⟨yb,yf⟩:=blk hY7
      have yb7:=yb 7
      simp only[List.getElem?_toArray,List.getElem?_cons_zero,List.getElem?_cons_succ]at yb7
      have yz:=q9 hY7
      have hmg:Kept (fun k=>k=nb∨k=A) w5 w7:=HK6.out.trans hK7 (fun _ _ h=>h)
      obtain⟨L4,hL4⟩:∃L4,L4=L3++xw (y.ar,y.an)++xw (y.br,y.bn):=⟨_,rfl⟩
      rw[←hL4]at hN7
      have HL4:=q7 hL4
      have HN7:=q7 hN7
      have HK7:=q7 hmg
      clear hN7 hK7 hmg hL4 hY7 yb HK6 HY6 HN6 hz6 hz7
      go_wp2_with fail
      clear yb7 yf yz
      go_loopg [79] y.args.length (fun q s79 wr=>∃n:Nat,n≤y.args.length∧q=y.args.length - n∧s79 = .int .i64 n∧NmL wr nb A m (L4++(y.args.take n).flatMap xw)∧Kept (fun k=>k=nb∨k=A) w5 wr)
      case atStart=>exact⟨0,by omega,rfl,rfl,by rw[List.take_zero];exact(List.append_nil L4).symm ▸ HN7.out,HK7.out⟩
      case round=>
       obtain⟨n,hn,rfl,rfl,hN,hK⟩:=hrel
       obtain⟨wv,hwv⟩:∃wv,wv=wr:=⟨_,rfl⟩
       subst hwv
       have hmh:=hK.size
       have hYv:wv.heap[ws.heap.size]?=some (.cells #[.int .i64 y.op,.int .i64 y.dst,.bool y.ar,.int .i64 y.an,.bool y.br,.int .i64 y.bn,.int .i64 y.fn,.slice qy y.args.length dy] 53 (0,0)):=(hK.block _ (by omega) (by omega)).trans HY5.out
       have hbv:Below W1.heap.size W1 wv:=HBs.out.trans ((HB5.out.mono hqu).trans (hK.below (by omega) (fun i e=>by omega)))
       have HNv:=q7 hN
       have HKv:=q7 hK
       have HYv:=q7 hYv
       have HBv:=q7 hbv
       clear hN hK hYv hbv HN7 HK7
       by_cases hnl:n<y.args.length
       ·obtain⟨bv,ov,cv,hpv,_,hcv,hrv⟩:=HZy.out.get hnl
        subst hpv
        obtain⟨v,hve⟩:∃v,v=y.args[n]:=⟨_,rfl⟩
        have hvm:=HOx.out.ic y HYe.out.2 v (by rw[hve];exact List.getElem_mem hnl)
        rw[←hve]at hrv
        obtain⟨hcs,_⟩:=hrv
        subst hcs
        have hbv:=q8 (hcv 0 (by omega))
        have v0:=(HBv.out.cell (p:=⟨bv,_,none⟩) hbv).trans (hcv 0 (by omega))
        have v1:=(HBv.out.cell (p:=⟨bv,_,none⟩) hbv).trans (hcv 1 (by omega))
        simp only[List.getElem?_cons_zero,List.getElem?_cons_succ,Nat.add_zero]at v0 v1
        have hnw:(L4++(y.args.take n).flatMap xw)++xw v=L4++(y.args.take (n+1)).flatMap xw:=by
         rw[List.take_succ_eq_append_getElem hnl,List.flatMap_append,←List.append_assoc,←hve]
         simp
        have HVm:=q7 hvm
        have HNw:=q7 hnw
        clear hve hvm hcv hnw
        go_wp2_with fail
        refine(xX (HNv.out.below (w':=wv.alloc (.cells #[.bool v.1,.int .i64 v.2] 43)) bZ) v HVm.out).mono ?_
        rintro e w8 ⟨rfl,hN8,hK8⟩
        rw[HNw.out]at hN8
        generalize (x9 (stL _).1 v).2=zc
        have hmj:Kept (fun k=>k=nb∨k=A) w5 w8:=(HKv.out.alloc _).trans hK8 (fun _ _ h=>h)
        have HN8:=q7 hN8
        have HK8:=q7 hmj
        clear hN8 hK8 hmj v0 v1
        go_wp2_with fail
        go_roundg (y.args.length - (n+1))
        case measure=>omega
        case rel=>exact⟨n+1,by omega,rfl,by go_num,HN8.out,HK8.out⟩
       obtain rfl:y.args.length=n:=by omega
       have hN8:=HNv.out
       rw[List.take_length]at hN8
       obtain⟨yb,yf⟩:=blk HYv.out
       have yb1:=yb 1
       simp only[List.getElem?_toArray,List.getElem?_cons_zero,List.getElem?_cons_succ]at yb1
       have yz:=q9 HYv.out
       have hlist:L2++(x.list.take (j+1)).flatMap (fun i=>Q3 i++vE i.dst)=(L4++y.args.flatMap xw)++vE y.dst:=by
        rw[List.take_succ_eq_append_getElem hjl,List.flatMap_append,←List.append_assoc,←HL3.out,←HYe.out.1,HL4.out]
        simp[Q3]
       have hKw:Kept (fun k=>k=nb∨k=A) W4 wv:=(HKs.out.trans (Kept.of_below (S:=fun _=>False) HB5.out) (fun _ _ h=>h.elim)).trans HKv.out (fun _ _ h=>h)
       have HN8:=q7 hN8
       have HLi:=q7 hlist
       have HKw:=q7 hKw
       clear hN8 hlist hKw yb
       by_cases hd:0≤y.dst
       ·obtain⟨d,hdd⟩:∃d:Nat,y.dst=(d:Int):=⟨y.dst.toNat,by omega⟩
        have hdm:d<m:=by have:=HOx.out.id y HYe.out.2;omega
        have hmd:vE y.dst=[d]:=by unfold vE;rw[if_pos hd,hdd];rfl
        have HMd:=q7 hmd
        have HDd:=q7 hdd
        rw[hdd]at yb1 hd
        clear hmd hdd
        go_wp2_with fail
        refine(vj HN8.out d hdm).mono ?_
        rintro e w9 ⟨rfl,hN9,hK9⟩
        rw[←HMd.out,←HLi.out]at hN9
        generalize (stL _).1 d=ze
        have hmA:Kept (fun k=>k=nb∨k=A) W4 w9:=HKw.out.trans hK9 (fun _ _ h=>h)
        have HN9:=q7 hN9
        have HK9:=q7 hmA
        clear hN9 hK9 hmA
        go_wp2_with fail
        go_roundg (x.list.length - (j+1))
        case measure=>omega
        case rel=>exact⟨j+1,by omega,rfl,by go_num,HN9.out,HK9.out⟩
       have hmd:vE y.dst=[]:=by unfold vE;rw[if_neg hd]
       have HMd:=q7 hmd
       clear hmd
       go_wp2_with fail
       go_roundg (x.list.length - (j+1))
       case measure=>omega
       case rel=>exact⟨j+1,by omega,rfl,by go_num,by rw[HLi.out,HMd.out,List.append_nil];exact HN8.out,HKw.out⟩
   obtain rfl:g.blocks.length=i:=by omega
   have hLF:List.range np++(g.blocks.take g.blocks.length).flatMap metB=Qc g:=by
    rw[List.take_length]
    unfold Qc
    have e:g.params.toNat=np:=by rw[HH.out.2.1,HM.out.2];rfl
    rw[e]
   have hN3:=HNi.out
   rw[hLF]at hN3
   have hS3:=HB2.out.sl.below qE HBi.out
   have hmB:∀k,S2 k→k<W1.heap.size∧k≠w.heap.size:=fun k hk=>⟨HB2.out.sl.inb k hk,fun e=>by
    rcases HS2.out k hk with h|h
    ·have:=HSb.out k h;omega
    omega⟩
   have hF3:=(HBi.out.block _ (q9 HFb.out)).trans HFb.out
   obtain⟨M,hM⟩:∃M,M=(stL (Qc g++XI g)).1:=⟨_,rfl⟩
   obtain⟨W3,hW3⟩:∃W3,W3=wi:=⟨_,rfl⟩
   subst hW3
   have hz3:=HBi.out.size
   have HN3:=q7 hN3
   have HS3:=q7 hS3
   have HSl:=q7 hmB
   have HF3:=q7 hF3
   have hMb:∀r,-1≤M r∧M r≤m:=fun r=>by
    have e:g.regs.toNat=m:=by rw[HH.out.2.2,HM.out.1];rfl
    have:=(stL_bd (m:=m) (L:=Qc g++XI g) (fun r hr=>by rw[←e];exact HCg.out.metLt r hr)).2 r
    rw[hM]
    exact this
   have HMb:=q7 hMb
   have HMd:=q7 hM
   clear hMb
   have HB3:=q7 HBi.out
   obtain⟨fb,ff⟩:=blk hF3
   have fb3:=fb 3
   simp only[List.getElem?_toArray,List.getElem?_cons_zero,List.getElem?_cons_succ]at fb3
   have fz:=q9 hF3
   clear hN3 hS3 hmB hF3 hM hLF HNi HBi fb
   go_wp2_with fail
   clear fb3 ff fz
   go_loopg [104] g.blocks.length (fun q s104 wr=>∃i:Nat,i≤g.blocks.length∧q=g.blocks.length - i∧s104 = .int .i64 i∧NmL wr nb A m (Qc g++(g.blocks.take i).flatMap VT)∧SlO 48 6 BlkO wr (.slice p2 g.blocks.length c2) (zd i (renB M) g.blocks) S2∧Kept (fun k=>S2 k∨k=nb∨k=A) W3 wr)
   case atStart=>exact⟨0,by omega,rfl,rfl,by rw[List.take_zero];exact(List.append_nil (Qc g)).symm ▸ HN3.out,by rw[zD];exact HS3.out,Kept.refl _ _⟩
   case round=>
    obtain⟨i,hi,rfl,rfl,hN,hS,hK⟩:=hrel
    obtain⟨wj,hwj⟩:∃wj,wj=wr:=⟨_,rfl⟩
    subst hwj
    have hgI:=hK.size
    have htI:=hN.at
    have hFj:wj.heap[w.heap.size]?=some (.cells #[.string f.name,.int .i64 np,.int .i64 m,.slice p2 g.blocks.length c2] 37 (0,0)):=(hK.block _ (q9 HF3.out) (fun h=>by
     rcases h with h|h|h
     ·exact(HSl.out _ h).2 rfl
     ·omega
     omega)).trans HF3.out
    obtain⟨fb,ff⟩:=blk hFj
    have fb3:=fb 3
    simp only[List.getElem?_toArray,List.getElem?_cons_zero,List.getElem?_cons_succ]at fb3
    have fz:=q9 hFj
    have HNj:=q7 hN
    have HSj:=q7 hS
    have HKj:=q7 hK
    have HFj:=q7 hFj
    clear hN hS hK hFj fb
    by_cases hil:i<g.blocks.length
    rotate_left
    ·obtain rfl:g.blocks.length=i:=by omega
     have hN9:=HNj.out
     rw[List.take_length]at hN9
     obtain⟨z,hz⟩:∃z,z=(stL (Qc g++XI g)).2:=⟨_,rfl⟩
     have hst:wj.heap[nb]?=some (.cells #[.slice (some ⟨A,0,none⟩) m m,.int .i64 z] 149 (0,0)):=by rw[hz];exact hN9.st.st
     have hmC:I64 z:=by
      have h:=hN9.st.many
      have e:(stL (Qc g++g.blocks.flatMap VT)).2=z:=hz.symm
      rw[e]at h
      unfold I64
      omega
     have hSf:=HSj.out
     rw[zr]at hSf
     have hZj:wj.heap[w.heap.size+1]?=some (.cells #[.string { data:=#[] },.int .i64 0,.int .i64 0,.slice none 0 0] 37 (0,0)):=(HKj.out.block _ (by have:=q9 HZ1.out;omega) (fun h=>by
      rcases h with h|h|h
      ·rcases HS2.out _ h with h2|h2
       ·have:=HSb.out _ h2;omega
       omega
      ·have:=q9 HZ1.out;omega
      have:=q9 HZ1.out;omega)).trans ((HB3.out.block _ (q9 HZ1.out)).trans HZ1.out)
     have hgT:ja f=xh g:=by rw[HGT.out];rfl
     have hhd:(xh g).name=f.name∧(xh g).params=f.params:=⟨HH.out.1,HH.out.2.1⟩
     have hrz:(xh g).regs=z:=by rw[hz];rfl
     have hbl:(xh g).blocks=g.blocks.map (renB M):=by rw[HMd.out];rfl
     obtain⟨fb',_⟩:=blk HFj.out
     have fb0:=fb' 0
     have fb1:=fb' 1
     have fb2:=fb' 2
     obtain⟨yb,yf⟩:=blk hZj
     have yb0:=yb 0
     have yb1:=yb 1
     have yb2:=yb 2
     have yb3:=yb 3
     have yz:=q9 hZj
     obtain⟨nbb,nbf⟩:=blk hst
     have nb1:=nbb 1
     have nbz:=q9 hst
     simp only[List.getElem?_toArray,List.getElem?_cons_zero,List.getElem?_cons_succ]at fb0 fb1 fb2 yb0 yb1 yb2 yb3 nb1
     have HSf:=q7 hSf
     have HZj:=q7 hZj
     have HGt:=q7 hgT
     have HHd:=q7 hhd
     have HRz:=q7 hrz
     have HBl:=q7 hbl
     have hqw:=q7 hmC
     clear hN9 hst hSf hZj hgT hhd hrz hbl hmC hz fb' yb nbb HNj HSj
     go_wp2_with fail
     obtain⟨WF,hWF⟩:∃WF,WF=((((wj.setCell ⟨w.heap.size,2,none⟩ (.int .i64 z)).setCell ⟨w.heap.size+1,0,none⟩ (.string f.name)).setCell ⟨w.heap.size+1,1,none⟩ (.int .i64 np)).setCell ⟨w.heap.size+1,2,none⟩ (.int .i64 z)).setCell ⟨w.heap.size+1,3,none⟩ (.slice p2 g.blocks.length c2):=⟨_,rfl⟩
     rw[←hWF]
     have hK:Kept (fun k=>k=w.heap.size∨k=w.heap.size+1) wj WF:=by
      rw[hWF]
      have h0:Kept (fun k=>k=w.heap.size∨k=w.heap.size+1) wj wj:=Kept.refl _ wj
      have h1:=h0.setCell (p:=⟨w.heap.size,2,none⟩) (.inl rfl) (.int .i64 z)
      have h2:=h1.setCell (p:=⟨w.heap.size+1,0,none⟩) (.inr rfl) (.string f.name)
      have h3:=h2.setCell (p:=⟨w.heap.size+1,1,none⟩) (.inr rfl) (.int .i64 np)
      have h4:=h3.setCell (p:=⟨w.heap.size+1,2,none⟩) (.inr rfl) (.int .i64 z)
      exact h4.setCell (p:=⟨w.heap.size+1,3,none⟩) (.inr rfl) (.slice p2 g.blocks.length c2)
     have hRF:WF.heap[w.heap.size+1]?=some (.cells #[.string f.name,.int .i64 np,.int .i64 z,.slice p2 g.blocks.length c2] 37 (0,0)):=by
      have h0:(wj.setCell ⟨w.heap.size,2,none⟩ (.int .i64 z)).heap[w.heap.size+1]?=_:=(Go.Deep.blk_setCell_other _ _ _ _ (by show w.heap.size+1≠w.heap.size;omega)).trans HZj.out
      rw[hWF,qg (qg (qg (qg h0 0 _) 1 _) 2 _) 3 _]
      rfl
     clear hWF
     obtain⟨rb,_⟩:=blk hRF
     have rb0:=rb 0
     have rb1:=rb 1
     have rb2:=rb 2
     have rb3:=rb 3
     simp only[List.getElem?_toArray,List.getElem?_cons_zero,List.getElem?_cons_succ]at rb0 rb1 rb2 rb3
     have hres:(.agg #[.string f.name,.int .i64 np,.int .i64 z,.slice p2 g.blocks.length c2]:Value) = .agg #[.string f.name,.int .i64 f.params,.int .i64 (ja f).regs,.slice p2 (ja f).blocks.length c2]:=by
      rw[HGt.out,HRz.out,qY,HM.out.2]
     have hfun:FunO WF [.string f.name,.int .i64 f.params,.int .i64 (ja f).regs,.slice p2 (ja f).blocks.length c2] (ja f) S2:=by
      rw[HGt.out,qY]
      refine⟨.slice p2 g.blocks.length c2,?_,?_,?_,?_,⟨?_,?_⟩⟩
      ·rw[HHd.out.1,HHd.out.2]
      ·rw[HHd.out.1];exact HN.out.1
      ·rw[HHd.out.2];exact HN.out.2.1
      ·rw[HRz.out];exact hqw.out
      ·rw[HBl.out]
       exact HSf.out.kept qE hK (fun k h1 h2=>by
        have h3:=(HSl.out k h2).2
        rcases HS2.out _ h2 with h4|h4
        ·have:=HSb.out _ h4;omega
        omega)
      rw[qY];exact HB2.out.bd
     have hkw:Kept S w WF:=by
      have h1:Kept S w W3:=HKw.out.trans (Kept.of_below HB3.out) (fun k _ h=>h)
      have hsz:=HKw.out.size
      have h2:Kept S w wj:=h1.trans HKj.out (fun k hk h=>by
       rcases h with h|h|h
       ·rcases HS2.out _ h with h4|h4
        ·exact h4
        omega
       ·omega
       omega)
      exact h2.trans hK (fun k hk h=>by omega)
     refine bodyPost_ret (v:=.agg #[.string f.name,.int .i64 np,.int .i64 z,.slice p2 g.blocks.length c2]) ?_ rfl ⟨p2,c2,S2,by rw[←hres],hfun,fun k hk=>(HS2.out k hk).imp id (fun h=>by omega),hkw⟩
     simp[results,Tryz.results62,go_sem,rb0,rb1,rb2,rb3]
    have hcY:i<(zd i (renB M) g.blocks).length:=by rw[qX];exact hil
    obtain⟨gb,cb,csb,Tb,hvb,hgb,hmE,hqy,hxb,hmF,hmG,hdh,hmH,⟨curb,hf9⟩,putb⟩:=HSj.out.focus qE (by omega) hcY
    rw[xm hcY (Nat.le_refl _)]at hxb
    obtain⟨x,hxe⟩:∃x,x=g.blocks[i]:=⟨_,rfl⟩
    have hok:=HOk.out i hil
    rw[←hxe]at hxb hok
    obtain⟨v1,v2,v3,S1,Sl,St,rfl,j1,j2,h3,h4,h5,a1,a2,a3,g1,g2,g3⟩:=hxb
    obtain⟨q1,d1,rfl,_⟩:=h3.sl.val
    obtain⟨q2,d2,rfl,_⟩:=h4.sl.val
    obtain⟨q3,d3,rfl,_⟩:=h5.sl.val
    have hp2:p2=some ⟨gb,0,none⟩:=by injection hvb
    subst hp2
    have c0:=hdh 0 (by omega)
    have c1:=hdh 1 (by omega)
    have c2':=hdh 2 (by omega)
    have c3:=hdh 3 (by omega)
    have c4:=hdh 4 (by omega)
    have c5:=hdh 5 (by omega)
    simp only[List.getElem?_cons_zero,List.getElem?_cons_succ,Nat.add_zero]at c0 c1 c2' c3 c4 c5
    have hl1:=h3.bd
    have hl2:=h4.bd
    unfold reachBytes at hl1 hl2
    obtain⟨L,hL⟩:∃L,L=Qc g++(g.blocks.take i).flatMap VT:=⟨_,rfl⟩
    have hpre:∀Q,Q <+: VT x→(L++Q) <+: Qc g++XI g:=fun Q hQ=>by
     rw[hL,List.append_assoc]
     exact(List.prefix_append_right_inj _).2 (kG hil (by rw[←hxe];exact hQ))
    have hN4:=HNj.out
    rw[←hL]at hN4
    have hT2:∀k,Tb k→S2 k:=hmG
    have HXe:=q7 hxe
    have HOx:=q7 hok
    have HP3:=q7 h3
    have HP4:=q7 h4
    have HP5:=q7 h5
    have HJ:=q7 (And.intro j1 j2)
    have HAp:=q7 (And.intro a1 (And.intro a2 a3))
    have HG:=q7 (And.intro g1 (And.intro g2 g3))
    have haG:=q7 putb
    have HTb:=q7 (And.intro hmF hT2)
    have hbZ:=q7 hf9
    have HCe:=q7 hdh
    have HFz:=q7 hmH
    have HSg:=q7 hmE
    have HL:=q7 hL
    have hfh:=q7 hpre
    have HN4:=q7 hN4
    clear hvb hxe hok h3 h4 h5 j1 j2 a1 a2 a3 g1 g2 g3 putb hmF hmG hT2 hf9 hdh hqy hmE hL hpre hN4
    go_wp2_with fail
    obtain⟨W4,hW4⟩:∃W4,W4=wj.alloc (.cells #[.slice q1 x.phis.length d1,.slice q2 x.list.length d2,.int .i64 x.fin.kind,.bool x.fin.onr,.int .i64 x.fin.onn,.slice q3 x.fin.to.length d3] 48):=⟨_,rfl⟩
    rw[←hW4]
    have hz4:W4.heap.size=wj.heap.size+1:=by rw[hW4];simp
    have hb4:Below wj.heap.size wj W4:=by rw[hW4];exact bZ
    have hX4:W4.heap[wj.heap.size]?=some (.cells #[.slice q1 x.phis.length d1,.slice q2 x.list.length d2,.int .i64 x.fin.kind,.bool x.fin.onr,.int .i64 x.fin.onn,.slice q3 x.fin.to.length d3] 48 (0,0)):=by rw[hW4];exact qh rfl
    have hmI:∀k,S1 k→S2 k∧k<W1.heap.size:=fun k hk=>⟨HTb.out.2 k (HG.out.1 k hk),(HSl.out k (HTb.out.2 k (HG.out.1 k hk))).1⟩
    have hmJ:∀k,Sl k→S2 k∧k<W1.heap.size:=fun k hk=>⟨HTb.out.2 k (HG.out.2.1 k hk),(HSl.out k (HTb.out.2 k (HG.out.2.1 k hk))).1⟩
    have HX4:=q7 hX4
    have HB4:=q7 hb4
    have hqA:=q7 (HN4.out.below hb4)
    have hqB:=q7 (HP3.out.sl.below zq hb4)
    have hcN:=q7 hmI
    have hcQ:=q7 hmJ
    clear hW4 hb4 hX4 hmI hmJ c0 c1 c2' c3 c4 c5 fb3 ff fz hmH
    go_loopg [112] x.phis.length (fun q s112 wr=>∃j:Nat,j≤x.phis.length∧q=x.phis.length - j∧s112 = .int .i64 j∧NmL wr nb A m (L++(x.phis.take j).flatMap metP)∧SlO 101 2 PhiO wr (.slice q1 x.phis.length d1) (zd j (renP M) x.phis) S1∧Kept (fun k=>S1 k∨k=nb∨k=A) W4 wr)
    case atStart=>exact⟨0,by omega,rfl,rfl,by rw[List.take_zero];exact(List.append_nil L).symm ▸ hqA.out,by rw[zD];exact hqB.out,Kept.refl _ _⟩
    case round=>
     obtain⟨j,hj,rfl,rfl,hN,hP,hK⟩:=hrel
     obtain⟨wp,hwp⟩:∃wp,wp=wr:=⟨_,rfl⟩
     subst hwp
     have hm9:=hK.size
     have hXp:wp.heap[wj.heap.size]?=some (.cells #[.slice q1 x.phis.length d1,.slice q2 x.list.length d2,.int .i64 x.fin.kind,.bool x.fin.onr,.int .i64 x.fin.onn,.slice q3 x.fin.to.length d3] 48 (0,0)):=(hK.block _ (by omega) (fun h=>by
      rcases h with h|h|h
      ·have:=(hcN.out _ h).2;omega
      ·omega
      omega)).trans HX4.out
     obtain⟨xb,xf⟩:=blk hXp
     have xb0:=xb 0
     have xb1:=xb 1
     simp only[List.getElem?_toArray,List.getElem?_cons_zero,List.getElem?_cons_succ]at xb0 xb1
     have xz:=q9 hXp
     have HNp:=q7 hN
     have HPp:=q7 hP
     have HKp:=q7 hK
     have HXp:=q7 hXp
     clear hN hP hK hXp xb
     by_cases hjl:j<x.phis.length
     ·have haH:j<(zd j (renP M) x.phis).length:=by rw[qX];exact hjl
      obtain⟨gp,cp,csp,Tp,hvp,hgp,hcE,heW,hxp,hcG,hcH,haQ,hdJ,⟨curp,haI⟩,putp⟩:=HPp.out.focus zq (by omega) haH
      rw[xm haH (Nat.le_refl _)]at hxp
      obtain⟨p,hpe⟩:∃p,p=x.phis[j]:=⟨_,rfl⟩
      have hpm:p∈x.phis:=by rw[hpe];exact List.getElem_mem hjl
      rw[←hpe]at hxp
      obtain⟨vp,rfl,hpd,hps⟩:=hxp
      obtain⟨qv,dv,rfl,_⟩:=hps.sl.val
      have hdst:=HOx.out.dst p hpm
      obtain⟨d,hd⟩:∃d:Nat,p.dst=(d:Int):=⟨p.dst.toNat,by omega⟩
      rw[hd]at hdst haQ
      have hq1:q1=some ⟨gp,0,none⟩:=by injection hvp
      have p0:=haQ 0 (by omega)
      have p1:=haQ 1 (by omega)
      simp only[List.getElem?_cons_zero,List.getElem?_cons_succ,Nat.add_zero]at p0 p1
      have hdm:d<m:=by omega
      have htJ:=hcN.out gp hcE
      obtain⟨L5,hL5⟩:∃L5,L5=(L++(x.phis.take j).flatMap metP)++[d]:=⟨_,rfl⟩
      have hiU:∀Q,Q <+: p.src.flatMap xw→L5++Q <+: Qc g++XI g:=fun Q hQ=>by
       have h1:(x.phis.take j).flatMap metP++(d::Q) <+: x.phis.flatMap metP:=kG hjl (by
        rw[←hpe]
        show _ <+: p.dst.toNat::p.src.flatMap xw
        rw[hd,Int.toNat_natCast]
        exact(List.cons_prefix_cons).2 ⟨rfl,hQ⟩)
       have h2:=hfh.out ((x.phis.take j).flatMap metP++(d::Q)) (h1.trans (by rw[JN,List.append_assoc];exact List.prefix_append _ _))
       rw[hL5]
       simpa using h2
      have hz:(stL L5).1 d=M d:=by
       rw[HMd.out]
       refine JM (pre_app (b:=[]) ?_) (by rw[hL5];simp)
       exact hiU [] (List.nil_prefix)
      have hnx:L5++p.src.flatMap xw=L++(x.phis.take (j+1)).flatMap metP:=by
       rw[List.take_succ_eq_append_getElem hjl,List.flatMap_append,←List.append_assoc,←hpe,hL5]
       simp[metP,hd]
      have hmK:renP M p={ dst:=M d,src:=p.src.map (x9 M) }:=by unfold renP;rw[hd];rfl
      have hlv:=hps.bd
      unfold reachBytes at hlv
      have HPs:=q7 hps
      have HPe:=q7 (And.intro hpe hpm)
      have hiV:=q7 putp
      have HTp:=q7 (And.intro hcG hcH)
      have HCp:=q7 haI
      have hcL:=q7 haQ
      have heX:=q7 hdJ
      have he7:=q7 hcE
      have HL5:=q7 hL5
      have hqD:=q7 hiU
      have HZd:=q7 hz
      have HNx:=q7 hnx
      have hqE:=q7 hmK
      subst hq1
      clear hvp hpe hpm hpd hps hd hdst putp hcG hcH haI haQ heW hcE hL5 hiU hz hnx hmK
      go_wp2_with fail
      obtain⟨w7,hw7⟩:∃w7,w7=wp.alloc (.cells #[.int .i64 d,.slice qv p.src.length dv] 101):=⟨_,rfl⟩
      rw[←hw7]
      have hz7:w7.heap.size=wp.heap.size+1:=by rw[hw7];simp
      have hb7:Below wp.heap.size wp w7:=by rw[hw7];exact bZ
      have hY7:w7.heap[wp.heap.size]?=some (.cells #[.int .i64 d,.slice qv p.src.length dv] 101 (0,0)):=by rw[hw7];exact qh rfl
      have HB7:=q7 hb7
      have HY7:=q7 hY7
      clear hw7 hb7 hY7 p0 p1 xb0 xb1 xf xz hdJ
      obtain⟨Sp,hSp⟩:∃Sp:World→Prop,Sp=fun w'=>w'.heap[wj.heap.size]?=some (.cells #[.slice (some ⟨gp,0,none⟩) x.phis.length d1,.slice q2 x.list.length d2,.int .i64 x.fin.kind,.bool x.fin.onr,.int .i64 x.fin.onn,.slice q3 x.fin.to.length d3] 48 (0,0))∧w'.heap[wp.heap.size]?=some (.cells #[.int .i64 d,.slice qv p.src.length dv] 101 (0,0)):=⟨_,rfl⟩
      have ha6:∀w',Sp w'→(∀i,w'.cell? ⟨wj.heap.size,i,none⟩=(#[.slice (some ⟨gp,0,none⟩) x.phis.length d1,.slice q2 x.list.length d2,.int .i64 x.fin.kind,.bool x.fin.onr,.int .i64 x.fin.onn,.slice q3 x.fin.to.length d3]:Array Value)[i]?)∧(∀i,w'.cell? ⟨wp.heap.size,i,none⟩=(#[.int .i64 d,.slice qv p.src.length dv]:Array Value)[i]?)∧wj.heap.size<w'.heap.size∧wp.heap.size<w'.heap.size:=fun w' h=>by
       rw[hSp]at h
       exact⟨(blk h.1).1,(blk h.2).1,q9 h.1,q9 h.2⟩
      have hS7:Sp w7.drew:=by rw[hSp];exact⟨(HB7.out.block _ (q9 HXp.out)).trans HXp.out,HY7.out⟩
      refine qm (S:=Sp) (by kernel_rfl) 9 ?_
      refine tkZ 0 117 (.pointer (some ⟨wj.heap.size,0,none⟩)) rfl rfl hS7 (fun w' h=>?_) ?_
      ·obtain⟨h1,h2,h3,h4⟩:=ha6 w' h
       have a0:=h1 0
       have b0:=h2 0
       clear h1 h2
       simp only[List.getElem?_toArray,List.getElem?_cons_zero]at a0 b0
       go_simp
      refine tkZ 1 118 (.slice (some ⟨gp,0,none⟩) x.phis.length d1) rfl rfl hS7 (fun w' h=>?_) ?_
      ·obtain⟨h1,h2,h3,h4⟩:=ha6 w' h
       have a0:=h1 0
       have b0:=h2 0
       clear h1 h2
       simp only[List.getElem?_toArray,List.getElem?_cons_zero]at a0 b0
       go_simp
      refine tkZ 2 119 (.int .i64 j) rfl rfl hS7 (fun w' h=>?_) ?_
      ·obtain⟨h1,h2,h3,h4⟩:=ha6 w' h
       have a0:=h1 0
       have b0:=h2 0
       clear h1 h2
       simp only[List.getElem?_toArray,List.getElem?_cons_zero]at a0 b0
       go_simp
      refine tkZ 3 120 (.pointer (some ⟨nb,0,none⟩)) rfl rfl hS7 (fun w' h=>?_) ?_
      ·obtain⟨h1,h2,h3,h4⟩:=ha6 w' h
       have a0:=h1 0
       have b0:=h2 0
       clear h1 h2
       simp only[List.getElem?_toArray,List.getElem?_cons_zero]at a0 b0
       go_simp
      refine tkZ 4 121 (.pointer (some ⟨wp.heap.size,0,none⟩)) rfl rfl hS7 (fun w' h=>?_) ?_
      ·obtain⟨h1,h2,h3,h4⟩:=ha6 w' h
       have a0:=h1 0
       have b0:=h2 0
       clear h1 h2
       simp only[List.getElem?_toArray,List.getElem?_cons_zero]at a0 b0
       go_simp
      refine tkZ 5 122 (.int .i64 d) rfl rfl hS7 (fun w' h=>?_) ?_
      ·obtain⟨h1,h2,h3,h4⟩:=ha6 w' h
       have a0:=h1 0
       have b0:=h2 0
       clear h1 h2
       simp only[List.getElem?_toArray,List.getElem?_cons_zero]at a0 b0
       go_simp
      refine qk (i:=6) (by kernel_rfl) (qt 123 rfl rfl rfl (by go_simp) (vj ((HNp.out.below HB7.out).below (Below.refl _ w7).drew) d hdm) ?_)
      rintro e w8 ⟨rfl,hN8,hK8⟩
      rw[←HL5.out]at hN8 ⊢
      rw[HZd.out]
      have hmL:=hN8.at
      have hqF:=HNp.out.at
      have hS8:Sp w8:=by
       rw[hSp]at hS7 ⊢
       exact⟨(hK8.block _ (q9 hS7.1) (by omega)).trans hS7.1,(hK8.block _ (q9 hS7.2) (by omega)).trans hS7.2⟩
      refine⟨_,rfl,hS8,?_⟩
      have hz8:w7.heap.size≤w8.heap.size:=hK8.size
      have hea:Kept (fun k=>k=nb∨k=A) wp w8:=((Kept.of_below HB7.out).drew).trans hK8 (fun _ _ h=>h)
      have hg8:w8.heap[gp]?=wp.heap[gp]?:=hea.block gp hgp (by omega)
      have g0:w8.cell? ⟨gp,j*2,none⟩=some (.int .i64 d):=(World.cell?_of_block (a:=⟨gp,j*2,none⟩) hg8).trans (hcL.out 0 (by omega))
      have g1:w8.frozen? ⟨gp,j*2,none⟩=false:=(World.frozen?_of_block (a:=⟨gp,j*2,none⟩) hg8).trans (heX.out _)
      have g2:gp<w8.heap.size:=by omega
      refine qk (i:=7) (by kernel_rfl) (qn 124 (.pointer (some ⟨gp,j*2,none⟩)) w8 rfl rfl rfl (by go_simp) hS8 ?_)
      refine qk (i:=8) (by kernel_rfl) (qn 125 (.pointer (some ⟨gp,j*2,none⟩)) w8 rfl rfl rfl (by go_simp) hS8 ?_)
      refine qk (i:=9) (by kernel_rfl) (qz (w8.setCell ⟨gp,j*2,none⟩ (.int .i64 (M d))) rfl rfl rfl (by go_simp) (fun h=>absurd rfl h) (qB (by kernel_rfl) ?_ _))
      simp only[calm]
      obtain⟨W5,hW5⟩:∃W5,W5=w8.setCell ⟨gp,j*2,none⟩ (.int .i64 (M d)):=⟨_,rfl⟩
      rw[←hW5]
      have hmM:RowPut wp W5 101 gp (j*2) 2 [.int .i64 (M d),.slice qv p.src.length dv]:=by
       have h1:=RowPut.set (RowPut.same HCp.out hg8 hcL.out) rfl (j:=0) (by omega) (.int .i64 (M d))
       simp only[Nat.add_zero,List.set_cons_zero]at h1
       rw[hW5]
       exact h1
      have hK5:Kept (fun k=>k=gp∨k=nb∨k=A) wp W5:=by
       rw[hW5]
       exact Kept.setCell (S:=fun k=>k=gp∨k=nb∨k=A) (p:=⟨gp,j*2,none⟩) (hea.mono fun _ _ h=>.inr h) (.inl rfl) _
      have hz5:w8.heap.size=W5.heap.size:=by rw[hW5];exact(Go.Deep.nblk_setCell _ _ _).symm
      have hiW:Kept (fun k=>k=gp) w8 W5:=by rw[hW5];exact Kept.setCell (S:=fun k=>k=gp) (p:=⟨gp,j*2,none⟩) (Kept.refl _ _) rfl _
      have hN5:=hN8.kept hiW (by omega) (by omega)
      have hP5:W5.heap[wp.heap.size]?=some (.cells #[.int .i64 d,.slice qv p.src.length dv] 101 (0,0)):=by
       rw[hSp]at hS8
       exact(hiW.block _ (q9 hS8.2) (by omega)).trans hS8.2
      have hfk:=HPs.out.sl.kept zT hK5 (fun k h1 h2=>by
       rcases h1 with h|h|h
       ·exact HTp.out.1 (by rw[←h];exact h2)
       ·have:=HPs.out.sl.inb k h2;have:=(hcN.out k (HTp.out.2 k h2)).2;omega
       have:=(hcN.out k (HTp.out.2 k h2)).2;omega)
      have hqG:=q7 hmM
      have HK5:=q7 hK5
      have HN5:=q7 hN5
      have hqH:=q7 hP5
      have hiX:=q7 hfk
      have hhh:=q7 (fun k (h:Tp k)=>hcN.out k (HTp.out.2 k h))
      obtain⟨yb,yf⟩:=blk hP5
      have yb1:=yb 1
      simp only[List.getElem?_toArray,List.getElem?_cons_zero,List.getElem?_cons_succ]at yb1
      have yz:=q9 hP5
      clear hmM hK5 hN5 hP5 hfk hiW hW5 hS8 hS7 hN8 hK8 hea hg8 g0 g1 yb ha6
      go_wp2_with fail
      clear yb1 yf yz
      go_loopg [129] p.src.length (fun q s129 wr=>∃n:Nat,n≤p.src.length∧q=p.src.length - n∧s129 = .int .i64 n∧NmL wr nb A m (L5++(p.src.take n).flatMap xw)∧SlO 43 2 Xu wr (.slice qv p.src.length dv) (zd n (x9 M) p.src) Tp∧Kept (fun k=>Tp k∨k=nb∨k=A) W5 wr)
      case atStart=>exact⟨0,by omega,rfl,rfl,by rw[List.take_zero];exact(List.append_nil L5).symm ▸ HN5.out,by rw[zD];exact hiX.out,Kept.refl _ _⟩
      case round=>
       obtain⟨n,hn,rfl,rfl,hN,hV,hK⟩:=hrel
       obtain⟨wv,hwv⟩:∃wv,wv=wr:=⟨_,rfl⟩
       subst hwv
       have hmh:=hK.size
       have hYv:wv.heap[wp.heap.size]?=some (.cells #[.int .i64 d,.slice qv p.src.length dv] 101 (0,0)):=(hK.block _ (by omega) (fun h=>by
        rcases h with h|h|h
        ·have:=(hhh.out _ h).2;omega
        ·omega
        omega)).trans hqH.out
       have hqI:=hN.at
       have HNv:=q7 hN
       have HVv:=q7 hV
       have HKv:=q7 hK
       have HYv:=q7 hYv
       clear hN hV hK hYv
       by_cases hnl:n<p.src.length
       rotate_left
       ·obtain rfl:p.src.length=n:=by omega
        have hVf:=HVv.out
        rw[zr]at hVf
        have hNf:=HNv.out
        rw[List.take_length,HNx.out]at hNf
        have hmN:wv.heap[gp]?=W5.heap[gp]?:=HKv.out.block gp (by omega) (fun h=>by
         rcases h with h|h|h
         ·exact HTp.out.1 h
         ·omega
         omega)
        have hd8:PhiO wv [.int .i64 (M d),.slice qv p.src.length dv] (renP M p) Tp:=by
         rw[hqE.out]
         refine⟨_,rfl,by have:=HMb.out d;show I64 (M d);unfold I64;omega,⟨?_,?_⟩⟩
         ·exact hVf
         show(p.src.map _).length*16≤_
         rw[List.length_map]
         exact HPs.out.bd
        have hput:=hiV.out wv _ (renP M p) Tp (hqG.out.of_block hmN) rfl (fun u hu=>by
          simp only[List.mem_cons,List.not_mem_nil,or_false]at hu
          rcases hu with rfl|rfl<;>rfl) (by have:=HK5.out.size;omega) (fun k h1 h2 h3=>(HKv.out.block k (by have:=HPp.out.inb k h1;omega) (fun h=>by
          rcases h with h|h|h
          ·exact h2 h
          ·have:=(hcN.out k h1).2;omega
          ·have:=(hcN.out k h1).2;omega)).trans (HK5.out.block k (HPp.out.inb k h1) (fun h=>by
          rcases h with h|h|h
          ·exact h3 h
          ·have:=(hcN.out k h1).2;omega
          have:=(hcN.out k h1).2;omega))) hd8 (fun k hk=>⟨.inl hk,by have:=HPp.out.inb k (HTp.out.2 k hk);have:=HK5.out.size;omega⟩)
        rw[HPe.out.1,qU hjl]at hput
        have hgr:=hput.grow (S':=S1) (fun k h=>h.elim id (HTp.out.2 k)) (HPp.out.inb.mono (by have:=HK5.out.size;omega))
        have hKw:Kept (fun k=>S1 k∨k=nb∨k=A) W4 wv:=(HKp.out.trans HK5.out (fun k _ h=>by
         rcases h with h|h|h
         ·rw[h];exact .inl he7.out
         ·exact .inr (.inl h)
         ·exact .inr (.inr h))).trans HKv.out (fun k _ h=>by
         rcases h with h|h|h
         ·exact .inl (HTp.out.2 k h)
         ·exact .inr (.inl h)
         exact .inr (.inr h))
        have ha7:=q7 (And.intro hNf (And.intro hgr hKw))
        clear hVf hNf hd8 hput hgr hKw hmN
        go_wp2_with fail
        go_roundg (x.phis.length - (j+1))
        case measure=>omega
        case rel=>exact⟨j+1,by omega,rfl,by go_num,ha7.out.1,ha7.out.2.1,ha7.out.2.2⟩
       have hfq:n<(zd n (x9 M) p.src).length:=by rw[qX];exact hnl
       obtain⟨gv,cv,csv,Tv,hvv,hgv,hdL,hiY,hxv,hfv,hfC,haV,hfD,⟨curv,hbO⟩,putv⟩:=HVv.out.focus zT (by omega) hfq
       rw[xm hfq (Nat.le_refl _)]at hxv
       obtain⟨v,hve⟩:∃v,v=p.src[n]:=⟨_,rfl⟩
       have hvm:OkV m v:=HOx.out.src p HPe.out.2 v (by rw[hve];exact List.getElem_mem hnl)
       rw[←hve]at hxv
       obtain⟨hfE,hv64⟩:=hxv
       subst hfE
       have hqv:qv=some ⟨gv,0,none⟩:=by injection hvv
       have v0:=haV 0 (by omega)
       have v1:=haV 1 (by omega)
       simp only[List.getElem?_cons_zero,List.getElem?_cons_succ,Nat.add_zero]at v0 v1
       have hqJ:=hhh.out gv hdL
       obtain⟨L6,hL6⟩:∃L6,L6=L5++(p.src.take n).flatMap xw:=⟨_,rfl⟩
       have hpr:L6++xw v <+: Qc g++XI g:=by
        rw[hL6,List.append_assoc]
        exact hqD.out _ (kG hnl (by rw[←hve];exact List.prefix_refl _))
       have hz:(x9 (stL (L6++xw v)).1 v).2=(x9 M v).2:=by
        rw[HMd.out]
        exact kH hpr
       have hnx:L6++xw v=L5++(p.src.take (n+1)).flatMap xw:=by
        rw[List.take_succ_eq_append_getElem hnl,List.flatMap_append,←List.append_assoc,←hve,hL6]
        simp
       have hdM:I64 (x9 M v).2:=by
        unfold x9
        split
        ·have:=HMb.out v.2.toNat
         unfold I64
         omega
        exact hv64
       have hN6:=HNv.out
       rw[←hL6]at hN6
       have HVe:=q7 hve
       have HVm:=q7 hvm
       have hdO:=q7 putv
       have HTv:=q7 (And.intro hfv hfC)
       have HCv:=q7 hbO
       have hdP:=q7 haV
       have hiZ:=q7 hfD
       have hj4:=q7 hdL
       have HN6:=q7 hN6
       have HZv:=q7 hz
       have hj5:=q7 hnx
       have hj6:=q7 hdM
       subst hqv
       clear hvv hve hvm hv64 putv hfv hfC hbO haV hiY hdL hL6 hpr hz hnx hdM hN6
       go_wp2_with fail
       obtain⟨w9,hw9⟩:∃w9,w9=wv.alloc (.cells #[.bool v.1,.int .i64 v.2] 43):=⟨_,rfl⟩
       rw[←hw9]
       have hz9:w9.heap.size=wv.heap.size+1:=by rw[hw9];simp
       have hb9:Below wv.heap.size wv w9:=by rw[hw9];exact bZ
       have hV9:w9.heap[wv.heap.size]?=some (.cells #[.bool v.1,.int .i64 v.2] 43 (0,0)):=by rw[hw9];exact qh rfl
       have HB9:=q7 hb9
       clear hw9 hb9 v0 v1 hfD
       obtain⟨Sp,hSp⟩:∃Sp:World→Prop,Sp=fun w'=>w'.heap[wp.heap.size]?=some (.cells #[.int .i64 d,.slice (some ⟨gv,0,none⟩) p.src.length dv] 101 (0,0))∧w'.heap[wv.heap.size]?=some (.cells #[.bool v.1,.int .i64 v.2] 43 (0,0)):=⟨_,rfl⟩
       have ha6:∀w',Sp w'→(∀i,w'.cell? ⟨wp.heap.size,i,none⟩=(#[.int .i64 d,.slice (some ⟨gv,0,none⟩) p.src.length dv]:Array Value)[i]?)∧(∀i,w'.cell? ⟨wv.heap.size,i,none⟩=(#[.bool v.1,.int .i64 v.2]:Array Value)[i]?)∧wp.heap.size<w'.heap.size∧wv.heap.size<w'.heap.size:=fun w' h=>by
        rw[hSp]at h
        exact⟨(blk h.1).1,(blk h.2).1,q9 h.1,q9 h.2⟩
       have hS9:Sp w9.drew:=by rw[hSp];exact⟨(HB9.out.block _ (q9 HYv.out)).trans HYv.out,hV9⟩
       refine qm (S:=Sp) (by kernel_rfl) 7 ?_
       refine tkZ 0 134 (.pointer (some ⟨wp.heap.size,1,none⟩)) rfl rfl hS9 (fun w' h=>?_) ?_
       ·obtain⟨h1,h2,h3,h4⟩:=ha6 w' h
        have a1:=h1 1
        have b0:=h2 0
        have b1:=h2 1
        clear h1 h2
        simp only[List.getElem?_toArray,List.getElem?_cons_zero,List.getElem?_cons_succ]at a1 b0 b1
        go_simp
       refine tkZ 1 135 (.slice (some ⟨gv,0,none⟩) p.src.length dv) rfl rfl hS9 (fun w' h=>?_) ?_
       ·obtain⟨h1,h2,h3,h4⟩:=ha6 w' h
        have a1:=h1 1
        have b0:=h2 0
        have b1:=h2 1
        clear h1 h2
        simp only[List.getElem?_toArray,List.getElem?_cons_zero,List.getElem?_cons_succ]at a1 b0 b1
        go_simp
       refine tkZ 2 136 (.int .i64 n) rfl rfl hS9 (fun w' h=>?_) ?_
       ·obtain⟨h1,h2,h3,h4⟩:=ha6 w' h
        have a1:=h1 1
        have b0:=h2 0
        have b1:=h2 1
        clear h1 h2
        simp only[List.getElem?_toArray,List.getElem?_cons_zero,List.getElem?_cons_succ]at a1 b0 b1
        go_simp
       refine tkZ 3 137 (.pointer (some ⟨nb,0,none⟩)) rfl rfl hS9 (fun w' h=>?_) ?_
       ·obtain⟨h1,h2,h3,h4⟩:=ha6 w' h
        have a1:=h1 1
        have b0:=h2 0
        have b1:=h2 1
        clear h1 h2
        simp only[List.getElem?_toArray,List.getElem?_cons_zero,List.getElem?_cons_succ]at a1 b0 b1
        go_simp
       refine tkZ 4 138 (.agg #[.bool v.1,.int .i64 v.2]) rfl rfl hS9 (fun w' h=>?_) ?_
       ·obtain⟨h1,h2,h3,h4⟩:=ha6 w' h
        have a1:=h1 1
        have b0:=h2 0
        have b1:=h2 1
        clear h1 h2
        simp only[List.getElem?_toArray,List.getElem?_cons_zero,List.getElem?_cons_succ]at a1 b0 b1
        go_simp
       refine qk (i:=5) (by kernel_rfl) (qt 139 rfl rfl rfl (by go_simp) (xX ((HN6.out.below HB9.out).below (Below.refl _ w9).drew) v HVm.out) ?_)
       rintro e w10 ⟨rfl,haK,haD⟩
       rw[hj5.out]at haK
       rw[HZv.out]
       have haC:Sp w10:=by
        rw[hSp]at hS9 ⊢
        exact⟨(haD.block _ (q9 hS9.1) (by omega)).trans hS9.1,(haD.block _ (q9 hS9.2) (by omega)).trans hS9.2⟩
       refine⟨_,rfl,haC,?_⟩
       have hj7:w9.heap.size≤w10.heap.size:=haD.size
       have hdQ:Kept (fun k=>k=nb∨k=A) wv w10:=((Kept.of_below HB9.out).drew).trans haD (fun _ _ h=>h)
       have haL:w10.heap[gv]?=wv.heap[gv]?:=hdQ.block gv hgv (by omega)
       have g0:w10.cell? ⟨gv,n*2,none⟩=some (.bool v.1):=(World.cell?_of_block (a:=⟨gv,n*2,none⟩) haL).trans (hdP.out 0 (by omega))
       have g0':w10.cell? ⟨gv,n*2+1,none⟩=some (.int .i64 v.2):=(World.cell?_of_block (a:=⟨gv,n*2+1,none⟩) haL).trans (hdP.out 1 (by omega))
       have g1:∀o,w10.frozen? ⟨gv,o,none⟩=false:=fun o=>(World.frozen?_of_block (a:=⟨gv,o,none⟩) haL).trans (hiZ.out _)
       have g2:gv<w10.heap.size:=by omega
       refine qk (i:=6) (by kernel_rfl) (qn 140 (.pointer (some ⟨gv,n*2,none⟩)) w10 rfl rfl rfl (by go_simp) haC ?_)
       refine qk (i:=7) (by kernel_rfl) (qz ((w10.setCell ⟨gv,n*2,none⟩ (.bool v.1)).setCell ⟨gv,n*2+1,none⟩ (.int .i64 (x9 M v).2)) rfl rfl rfl (by go_simp) (fun h=>absurd rfl h) (qB (by kernel_rfl) ?_ _))
       show Exit.inBlock 15 _ Exit.normal _ _
       obtain⟨W,hW⟩:∃W,W=(w10.setCell ⟨gv,n*2,none⟩ (.bool v.1)).setCell ⟨gv,n*2+1,none⟩ (.int .i64 (x9 M v).2):=⟨_,rfl⟩
       rw[←hW]
       have hrp:RowPut wv W 43 gv (n*2) 2 [.bool v.1,.int .i64 (x9 M v).2]:=by
        rw[hW]
        exact(RowPut.same HCv.out haL hdP.out).two _ _
       have hKx:Kept (fun k=>k=gv) w10 W:=by
        rw[hW]
        have h1:=Kept.setCell (S:=fun k=>k=gv) (p:=⟨gv,n*2,none⟩) (Kept.refl _ w10) rfl (.bool v.1)
        exact h1.setCell (p:=⟨gv,n*2+1,none⟩) rfl (.int .i64 (x9 M v).2)
       have hKW:Kept (fun k=>k=gv∨k=nb∨k=A) wv W:=(hdQ.mono fun _ _ h=>.inr h).trans hKx (fun _ _ h=>.inl h)
       have hput:=hdO.out W _ (x9 M v) (fun _=>False) hrp rfl (fun u hu=>by
         simp only[List.mem_cons,List.not_mem_nil,or_false]at hu
         rcases hu with rfl|rfl<;>rfl) hKW.size (fun k h1 _ h3=>hKW.block k (HVv.out.inb k h1) (fun h=>by
         rcases h with h|h|h
         ·exact h3 h
         ·have:=(hhh.out k h1).2;omega
         have:=(hhh.out k h1).2;omega)) ⟨by rw[Vy],hj6.out⟩ (fun k hk=>hk.elim)
       rw[HVe.out,qU hnl]at hput
       have hgr:=hput.grow (S':=Tp) (fun k h=>h.elim id (fun h=>h.elim)) (HVv.out.inb.mono hKW.size)
       have hNW:=haK.kept hKx (by omega) (by omega)
       have hKf:Kept (fun k=>Tp k∨k=nb∨k=A) W5 W:=HKv.out.trans hKW (fun k _ h=>by
        rcases h with h|h|h
        ·rw[h];exact .inl hj4.out
        ·exact .inr (.inl h)
        exact .inr (.inr h))
       have ha7:=q7 (And.intro hNW (And.intro hgr hKf))
       clear haK haD haC hS9 hdQ haL g0 g0' g1 hrp hKx hKW hput hgr hNW hKf hW ha6
       go_wp2_with fail
       go_roundg (p.src.length - (n+1))
       case measure=>omega
       case rel=>exact⟨n+1,by omega,rfl,by go_num,ha7.out.1,ha7.out.2.1,ha7.out.2.2⟩
     obtain rfl:x.phis.length=j:=by omega
     have hPf:=HPp.out
     rw[zr]at hPf
     have hN7:=HNp.out
     rw[List.take_length]at hN7
     obtain⟨L7,hL7⟩:∃L7,L7=L++x.phis.flatMap metP:=⟨_,rfl⟩
     rw[←hL7]at hN7
     have hKw:Kept (fun k=>S1 k∨k=nb∨k=A) wj wp:=(Kept.of_below HB4.out).trans HKp.out (fun _ _ h=>h)
     have hli:=HP4.out.sl.kept qH hKw (fun k h1 h2=>by
      rcases h1 with h|h|h
      ·exact HAp.out.1 k h h2
      ·have:=(hcQ.out k h2).2;omega
      have:=(hcQ.out k h2).2;omega)
     have hfF:∀Q,Q <+: x.list.flatMap (fun i=>Q3 i++vE i.dst)++xw (x.fin.onr,x.fin.onn)→L7++Q <+: Qc g++XI g:=fun Q hQ=>by
      have:=hfh.out (x.phis.flatMap metP++Q) (by rw[JN,List.append_assoc];exact(List.prefix_append_right_inj _).2 hQ)
      rw[hL7,List.append_assoc]
      exact this
     have HPf:=q7 hPf
     have HN7:=q7 hN7
     have HL7:=q7 hL7
     have HKw:=q7 hKw
     have HLi:=q7 hli
     have hfG:=q7 hfF
     have hqF:=HNp.out.at
     clear hPf hN7 hL7 hKw hli hfF
     go_wp2_with fail
     clear xb0 xb1 xf xz
     go_loopg [146] x.list.length (fun q s146 wr=>∃j:Nat,j≤x.list.length∧q=x.list.length - j∧s146 = .int .i64 j∧NmL wr nb A m (L7++(x.list.take j).flatMap fun i=>Q3 i++vE i.dst)∧SlO 53 8 InsO wr (.slice q2 x.list.length d2) (zd j (ks M) x.list) Sl∧Kept (fun k=>Sl k∨k=nb∨k=A) wp wr)
     case atStart=>exact⟨0,by omega,rfl,rfl,by rw[List.take_zero];exact(List.append_nil L7).symm ▸ HN7.out,by rw[zD];exact HLi.out,Kept.refl _ _⟩
     case round=>
      obtain⟨j,hj,rfl,rfl,hN,hI,hK⟩:=hrel
      obtain⟨ws,hws⟩:∃ws,ws=wr:=⟨_,rfl⟩
      subst hws
      have hqt:=hK.size
      have hXs:ws.heap[wj.heap.size]?=some (.cells #[.slice q1 x.phis.length d1,.slice q2 x.list.length d2,.int .i64 x.fin.kind,.bool x.fin.onr,.int .i64 x.fin.onn,.slice q3 x.fin.to.length d3] 48 (0,0)):=(hK.block _ (by have:=q9 HXp.out;omega) (fun h=>by
       rcases h with h|h|h
       ·have:=(hcQ.out _ h).2;omega
       ·omega
       omega)).trans HXp.out
      obtain⟨xb,xf⟩:=blk hXs
      have xb1:=xb 1
      have xb3:=xb 3
      have xb4:=xb 4
      simp only[List.getElem?_toArray,List.getElem?_cons_zero,List.getElem?_cons_succ]at xb1 xb3 xb4
      have xz:=q9 hXs
      have htK:=hN.at
      have HNs:=q7 hN
      have HIs:=q7 hI
      have HKs:=q7 hK
      have HXs:=q7 hXs
      clear hN hI hK hXs xb
      by_cases hjl:j<x.list.length
      rotate_left
      ·obtain rfl:x.list.length=j:=by omega
       have haK:=HNs.out
       rw[List.take_length]at haK
       have hIf:=HIs.out
       rw[zr]at hIf
       have hzV:(x9 (stL (L7++(x.list.flatMap fun i=>Q3 i++vE i.dst)++xw (x.fin.onr,x.fin.onn))).1 (x.fin.onr,x.fin.onn)).2=(x9 M (x.fin.onr,x.fin.onn)).2:=by
        rw[HMd.out]
        refine kH ?_
        rw[List.append_assoc]
        exact hfG.out _ (List.prefix_refl _)
       have hln:L7++(x.list.flatMap fun i=>Q3 i++vE i.dst)++xw (x.fin.onr,x.fin.onn)=Qc g++(g.blocks.take (i+1)).flatMap VT:=by
        rw[List.take_succ_eq_append_getElem hil,List.flatMap_append,←List.append_assoc,←HXe.out,HL7.out,HL.out]
        simp[JN]
       have hqL:=q7 haK
       have HIf:=q7 hIf
       have HZV:=q7 hzV
       have HLn:=q7 hln
       clear haK hIf hzV hln
       go_wp2_with fail
       have htL:wj.heap.size<ws.heap.size:=q9 HXs.out
       have hfH:Kept (fun k=>Tb k∨k=nb∨k=A) wj ws:=(((Kept.of_below HB4.out)).trans HKp.out (fun k _ h=>h.elim (fun h=>.inl (HG.out.1 k h)) .inr)).trans HKs.out (fun k _ h=>h.elim (fun h=>.inl (HG.out.2.1 k h)) .inr)
       have hFs:ws.heap[w.heap.size]?=some (.cells #[.string f.name,.int .i64 np,.int .i64 m,.slice (some ⟨gb,0,none⟩) g.blocks.length c2] 37 (0,0)):=(hfH.block _ (q9 HFj.out) (fun h=>by
        rcases h with h|h|h
        ·exact(HSl.out _ (HTb.out.2 _ h)).2 rfl
        ·omega
        omega)).trans HFj.out
       obtain⟨Sp,hSp⟩:∃Sp:World→Prop,Sp=fun w'=>w'.heap[w.heap.size]?=some (.cells #[.string f.name,.int .i64 np,.int .i64 m,.slice (some ⟨gb,0,none⟩) g.blocks.length c2] 37 (0,0))∧w'.heap[wj.heap.size]?=some (.cells #[.slice q1 x.phis.length d1,.slice q2 x.list.length d2,.int .i64 x.fin.kind,.bool x.fin.onr,.int .i64 x.fin.onn,.slice q3 x.fin.to.length d3] 48 (0,0)):=⟨_,rfl⟩
       have ha6:∀w',Sp w'→(∀i,w'.cell? ⟨w.heap.size,i,none⟩=(#[.string f.name,.int .i64 np,.int .i64 m,.slice (some ⟨gb,0,none⟩) g.blocks.length c2]:Array Value)[i]?)∧(∀i,w'.cell? ⟨wj.heap.size,i,none⟩=(#[.slice q1 x.phis.length d1,.slice q2 x.list.length d2,.int .i64 x.fin.kind,.bool x.fin.onr,.int .i64 x.fin.onn,.slice q3 x.fin.to.length d3]:Array Value)[i]?)∧w.heap.size<w'.heap.size∧wj.heap.size<w'.heap.size:=fun w' h=>by
        rw[hSp]at h
        exact⟨(blk h.1).1,(blk h.2).1,q9 h.1,q9 h.2⟩
       have hS7:Sp ws.drew:=by rw[hSp];exact⟨hFs,HXs.out⟩
       refine qm (S:=Sp) (by kernel_rfl) 11 ?_
       refine tkZ 0 191 (.pointer (some ⟨w.heap.size,3,none⟩)) rfl rfl hS7 (fun w' h=>?_) ?_
       ·obtain⟨h1,h2,h3,h4⟩:=ha6 w' h
        have a3:=h1 3
        have b3:=h2 3
        have b4:=h2 4
        clear h1 h2
        simp only[List.getElem?_toArray,List.getElem?_cons_zero,List.getElem?_cons_succ]at a3 b3 b4
        go_simp
       refine tkZ 1 192 (.slice (some ⟨gb,0,none⟩) g.blocks.length c2) rfl rfl hS7 (fun w' h=>?_) ?_
       ·obtain⟨h1,h2,h3,h4⟩:=ha6 w' h
        have a3:=h1 3
        have b3:=h2 3
        have b4:=h2 4
        clear h1 h2
        simp only[List.getElem?_toArray,List.getElem?_cons_zero,List.getElem?_cons_succ]at a3 b3 b4
        go_simp
       refine tkZ 2 193 (.int .i64 i) rfl rfl hS7 (fun w' h=>?_) ?_
       ·obtain⟨h1,h2,h3,h4⟩:=ha6 w' h
        have a3:=h1 3
        have b3:=h2 3
        have b4:=h2 4
        clear h1 h2
        simp only[List.getElem?_toArray,List.getElem?_cons_zero,List.getElem?_cons_succ]at a3 b3 b4
        go_simp
       refine tkZ 3 194 (.pointer (some ⟨nb,0,none⟩)) rfl rfl hS7 (fun w' h=>?_) ?_
       ·obtain⟨h1,h2,h3,h4⟩:=ha6 w' h
        have a3:=h1 3
        have b3:=h2 3
        have b4:=h2 4
        clear h1 h2
        simp only[List.getElem?_toArray,List.getElem?_cons_zero,List.getElem?_cons_succ]at a3 b3 b4
        go_simp
       refine tkZ 4 195 (.pointer (some ⟨wj.heap.size,2,none⟩)) rfl rfl hS7 (fun w' h=>?_) ?_
       ·obtain⟨h1,h2,h3,h4⟩:=ha6 w' h
        have a3:=h1 3
        have b3:=h2 3
        have b4:=h2 4
        clear h1 h2
        simp only[List.getElem?_toArray,List.getElem?_cons_zero,List.getElem?_cons_succ]at a3 b3 b4
        go_simp
       refine tkZ 5 196 (.pointer (some ⟨wj.heap.size,3,none⟩)) rfl rfl hS7 (fun w' h=>?_) ?_
       ·obtain⟨h1,h2,h3,h4⟩:=ha6 w' h
        have a3:=h1 3
        have b3:=h2 3
        have b4:=h2 4
        clear h1 h2
        simp only[List.getElem?_toArray,List.getElem?_cons_zero,List.getElem?_cons_succ]at a3 b3 b4
        go_simp
       refine tkZ 6 197 (.agg #[.bool x.fin.onr,.int .i64 x.fin.onn]) rfl rfl hS7 (fun w' h=>?_) ?_
       ·obtain⟨h1,h2,h3,h4⟩:=ha6 w' h
        have a3:=h1 3
        have b3:=h2 3
        have b4:=h2 4
        clear h1 h2
        simp only[List.getElem?_toArray,List.getElem?_cons_zero,List.getElem?_cons_succ]at a3 b3 b4
        go_simp
       refine qk (i:=7) (by kernel_rfl) (qt 198 rfl rfl rfl (by go_simp) (xX (hqL.out.below (Below.refl _ ws).drew) (x.fin.onr,x.fin.onn) HOx.out.on) ?_)
       rintro e w8 ⟨rfl,hN8,hK8⟩
       rw[HZV.out]
       rw[HLn.out]at hN8
       have heb:Kept (fun k=>k=nb∨k=A) ws w8:=((Kept.refl (fun k=>k=nb∨k=A) ws).drew).trans hK8 (fun _ _ h=>h)
       have hqM:=(HSl.out gb HSg.out).1
       have hqN:=hfH.size
       have hmL:=hN8.at
       have hz8:=heb.size
       have hS8:Sp w8:=by
        rw[hSp]at hS7 ⊢
        exact⟨(heb.block _ (q9 hFs) (by omega)).trans hFs,(heb.block _ (q9 HXs.out) (by omega)).trans HXs.out⟩
       refine⟨_,rfl,hS8,?_⟩
       have hec:w8.heap[gb]?=wj.heap[gb]?:=(heb.block _ (by omega) (by omega)).trans (hfH.block _ (by omega) (fun h=>by
        rcases h with h|h|h
        ·exact HTb.out.1 h
        ·omega
        omega))
       obtain⟨ze,hze⟩:∃ze,ze=(x9 M (x.fin.onr,x.fin.onn)).2:=⟨_,rfl⟩
       rw[←hze]
       have HZe:=q7 hze
       have g3:w8.cell? ⟨gb,i*6+3,none⟩=some (.bool x.fin.onr):=(World.cell?_of_block (a:=⟨gb,i*6+3,none⟩) hec).trans (HCe.out 3 (by omega))
       have g4:w8.cell? ⟨gb,i*6+4,none⟩=some (.int .i64 x.fin.onn):=(World.cell?_of_block (a:=⟨gb,i*6+4,none⟩) hec).trans (HCe.out 4 (by omega))
       have gf3:w8.frozen? ⟨gb,i*6+3,none⟩=false:=(World.frozen?_of_block (a:=⟨gb,i*6+3,none⟩) hec).trans (HFz.out _)
       have gf4:w8.frozen? ⟨gb,i*6+4,none⟩=false:=(World.frozen?_of_block (a:=⟨gb,i*6+4,none⟩) hec).trans (HFz.out _)
       have g5:gb<w8.heap.size:=by omega
       clear hze
       refine qk (i:=8) (by kernel_rfl) (qn 199 (.pointer (some ⟨gb,i*6,none⟩)) w8 rfl rfl rfl (by go_simp) hS8 ?_)
       refine qk (i:=9) (by kernel_rfl) (qn 200 (.pointer (some ⟨gb,i*6+2,none⟩)) w8 rfl rfl rfl (by go_simp) hS8 ?_)
       refine qk (i:=10) (by kernel_rfl) (qn 201 (.pointer (some ⟨gb,i*6+3,none⟩)) w8 rfl rfl rfl (by go_simp) hS8 ?_)
       refine qk (i:=11) (by kernel_rfl) (qz ((w8.setCell ⟨gb,i*6+3,none⟩ (.bool x.fin.onr)).setCell ⟨gb,i*6+4,none⟩ (.int .i64 ze)) rfl rfl rfl (by go_simp) (fun h=>absurd rfl h) (qB (by kernel_rfl) ?_ _))
       simp only[calm]
       obtain⟨W,hW⟩:∃W,W=(w8.setCell ⟨gb,i*6+3,none⟩ (.bool x.fin.onr)).setCell ⟨gb,i*6+4,none⟩ (.int .i64 ze):=⟨_,rfl⟩
       rw[←hW]
       have hKW:Kept (fun k=>k=gb) w8 W:=by
        rw[hW]
        have h1:=Kept.setCell (S:=fun k=>k=gb) (p:=⟨gb,i*6+3,none⟩) (Kept.refl _ w8) rfl (.bool x.fin.onr)
        exact h1.setCell (p:=⟨gb,i*6+4,none⟩) rfl (.int .i64 ze)
       have hrp:RowPut wj W 48 gb (i*6) 6 [.slice q1 x.phis.length d1,.slice q2 x.list.length d2,.int .i64 x.fin.kind,.bool x.fin.onr,.int .i64 ze,.slice q3 x.fin.to.length d3]:=by
        have h1:=RowPut.set (RowPut.same hbZ.out hec HCe.out) rfl (j:=3) (by omega) (.bool x.fin.onr)
        have h2:=RowPut.set h1 rfl (j:=4) (by omega) (.int .i64 ze)
        simp only[List.set_cons_succ,List.set_cons_zero]at h2
        rw[hW]
        exact h2
       have haM:Kept (fun k=>k=gb∨k=nb∨k=A) ws W:=(heb.mono fun _ _ h=>.inr h).trans hKW (fun _ _ h=>.inl h)
       have hee:Kept (fun k=>Tb k∨k=gb∨k=nb∨k=A) wj W:=(hfH.mono fun _ _ h=>h.elim .inl (fun h=>.inr (.inr h))).trans haM (fun _ _ h=>.inr h)
       have hTn:∀k,Tb k→k<W1.heap.size∧k≠gb:=fun k h=>⟨(HSl.out k (HTb.out.2 k h)).1,fun e=>HTb.out.1 (by rw[←e];exact h)⟩
       have hsep:∀k,Tb k→(k=gb∨k=nb∨k=A)→False:=fun k h1 h2=>by
        have h3:=hTn k h1
        omega
       have hj8:Kept (fun k=>Sl k∨k=gb∨k=nb∨k=A) wp W:=(HKs.out.mono fun _ _ h=>h.elim .inl (fun h=>.inr (.inr h))).trans haM (fun _ _ h=>.inr h)
       have hP1:=HPf.out.kept zq hj8 (fun k h1 h2=>by
        rcases h1 with h|h
        ·exact HAp.out.1 k h2 h
        exact hsep k (HG.out.1 k h2) h)
       have hP2:=HIf.out.kept qH haM (fun k h1 h2=>hsep k (HG.out.2.1 k h2) h1)
       have hmO:Kept (fun k=>S1 k∨Sl k∨k=gb∨k=nb∨k=A) wj W:=(HKw.out.mono fun _ _ h=>h.elim .inl (fun h=>.inr (.inr (.inr h)))).trans hj8 (fun _ _ h=>.inr h)
       have hP3:=HP5.out.sl.kept qT hmO (fun k h1 h2=>by
        rcases h1 with h|h|h
        ·exact HAp.out.2.1 k h h2
        ·exact HAp.out.2.2 k h h2
        exact hsep k (HG.out.2.2 k h2) h)
       have hmP:I64 ze:=by
        rw[HZe.out]
        unfold x9
        split
        ·have:=HMb.out x.fin.onn.toNat
         show I64 (M x.fin.onn.toNat)
         unfold I64
         omega
        exact HJ.out.2
       have hblk:BlkO W [.slice q1 x.phis.length d1,.slice q2 x.list.length d2,.int .i64 x.fin.kind,.bool x.fin.onr,.int .i64 ze,.slice q3 x.fin.to.length d3] (renB M x) Tb:=by
        rw[renB_is,←HZe.out]
        exact⟨_,_,_,S1,Sl,St,rfl,HJ.out.1,hmP,⟨hP1,by rw[List.length_map];exact HP3.out.bd⟩,⟨hP2,by rw[List.length_map];exact HP4.out.bd⟩,⟨hP3,HP5.out.bd⟩,HAp.out.1,HAp.out.2.1,HAp.out.2.2,HG.out.1,HG.out.2.1,HG.out.2.2⟩
       have hput:=haG.out W _ (renB M x) Tb hrp rfl (fun u hu=>by
         simp only[List.mem_cons,List.not_mem_nil,or_false]at hu
         rcases hu with rfl|rfl|rfl|rfl|rfl|rfl<;>rfl) hee.size (fun k h1 h2 h3=>hee.block k (HSj.out.inb k h1) (fun h=>by
         have h4:=(HSl.out k h1).1
         rcases h with h|h|h|h
         ·exact h2 h
         ·exact h3 h
         ·omega
         omega)) hblk (fun k hk=>⟨.inl hk,by have:=(hTn k hk).1;have:=hee.size;omega⟩)
       rw[HXe.out,qU hil]at hput
       have hgr:=hput.grow (S':=S2) (fun k h=>h.elim id (HTb.out.2 k)) (HSj.out.inb.mono hee.size)
       have hNW:=hN8.kept hKW (by omega) (by omega)
       have hKf:Kept (fun k=>S2 k∨k=nb∨k=A) W3 W:=HKj.out.trans hee (fun k hk h=>by
        rcases h with h|h|h
        ·exact .inl (HTb.out.2 k h)
        ·rw[h];exact .inl HSg.out
        exact .inr h)
       have ha7:=q7 (And.intro hNW (And.intro hgr hKf))
       clear hN8 hK8 hS8 hS7 heb hec g3 g4 gf3 gf4 g5 hFs hSp ha6 hW hKW hrp haM hee hTn hsep hj8 hP1 hP2 hmO hP3 hmP hblk hput hgr hNW hKf hfH hqM hqN hmL hz8 HZe xb1 xb3 xb4
       go_wp2_with fail
       go_roundg (g.blocks.length - (i+1))
       case measure=>omega
       case rel=>exact⟨i+1,by omega,rfl,by go_num,ha7.out.1,ha7.out.2.1,ha7.out.2.2⟩
      have haH:j<(zd j (ks M) x.list).length:=by rw[qX];exact hjl
      obtain⟨gl,cl,csl,Ti,hvl,hgl,heK,hqO,hxl,hfI,hfJ,hcF,hmQ,⟨curl,hfK⟩,putl⟩:=HIs.out.focus qH (by omega) haH
      rw[xm haH (Nat.le_refl _)]at hxl
      obtain⟨y,hye⟩:∃y,y=x.list[j]:=⟨_,rfl⟩
      have hym:y∈x.list:=by rw[hye];exact List.getElem_mem hjl
      rw[←hye]at hxl
      obtain⟨va,rfl,i1,i2,i3,i4,i5,hAr⟩:=hxl
      obtain⟨qy,dy,rfl,_⟩:=hAr.sl.val
      have hql:q2=some ⟨gl,0,none⟩:=by injection hvl
      have e0:=hcF 0 (by omega)
      have e1':=hcF 1 (by omega)
      have e2:=hcF 2 (by omega)
      have e3:=hcF 3 (by omega)
      have e4:=hcF 4 (by omega)
      have e5:=hcF 5 (by omega)
      have e6:=hcF 6 (by omega)
      have e7:=hcF 7 (by omega)
      simp only[List.getElem?_cons_zero,List.getElem?_cons_succ,Nat.add_zero]at e0 e1' e2 e3 e4 e5 e6 e7
      have htM:=hcQ.out gl heK
      obtain⟨L8,hL8⟩:∃L8,L8=L7++(x.list.take j).flatMap fun i=>Q3 i++vE i.dst:=⟨_,rfl⟩
      have hcS:∀Q,Q <+: Q3 y++vE y.dst→L8++Q <+: Qc g++XI g:=fun Q hQ=>by
       rw[hL8,List.append_assoc]
       exact hfG.out _ ((kG (f:=fun i=>Q3 i++vE i.dst) hjl (by rw[←hye];exact hQ)).trans (List.prefix_append _ _))
      have hN8:=HNs.out
      rw[←hL8]at hN8
      have hzA:(x9 (stL (L8++xw (y.ar,y.an))).1 (y.ar,y.an)).2=(x9 M (y.ar,y.an)).2:=by
       rw[HMd.out]
       exact kH (hcS _ (by unfold Q3;rw[List.append_assoc,List.append_assoc];exact List.prefix_append _ _))
      have hzB:(x9 (stL (L8++xw (y.ar,y.an)++xw (y.br,y.bn))).1 (y.br,y.bn)).2=(x9 M (y.br,y.bn)).2:=by
       rw[HMd.out]
       refine kH ?_
       rw[List.append_assoc]
       exact hcS _ (by unfold Q3;rw[List.append_assoc];exact List.prefix_append _ _)
      have hly:=hAr.bd
      unfold reachBytes at hly
      have HYe:=q7 (And.intro hye hym)
      have HI5:=q7 (And.intro i1 (And.intro i2 (And.intro i3 (And.intro i4 i5))))
      have HAr:=q7 hAr
      have hfL:=q7 putl
      have HTl:=q7 (And.intro hfI hfJ)
      have HCl:=q7 hfK
      have haE:=q7 hcF
      have haN:=q7 hmQ
      have hhj:=q7 heK
      have HL8:=q7 hL8
      have hj9:=q7 hcS
      have HN8:=q7 hN8
      have HZA:=q7 hzA
      have HZB:=q7 hzB
      subst hql
      clear hvl hye hym hAr i1 i2 i3 i4 i5 putl hfI hfJ hfK hcF hqO heK hL8 hcS hN8 hzA hzB
      go_wp2_with fail
      obtain⟨w7,hw7⟩:∃w7,w7=ws.alloc (.cells #[.int .i64 y.op,.int .i64 y.dst,.bool y.ar,.int .i64 y.an,.bool y.br,.int .i64 y.bn,.int .i64 y.fn,.slice qy y.args.length dy] 53):=⟨_,rfl⟩
      rw[←hw7]
      have hz7:w7.heap.size=ws.heap.size+1:=by rw[hw7];simp
      have hb7:Below ws.heap.size ws w7:=by rw[hw7];exact bZ
      have hY7:w7.heap[ws.heap.size]?=some (.cells #[.int .i64 y.op,.int .i64 y.dst,.bool y.ar,.int .i64 y.an,.bool y.br,.int .i64 y.bn,.int .i64 y.fn,.slice qy y.args.length dy] 53 (0,0)):=by rw[hw7];exact qh rfl
      have HB7:=q7 hb7
      have HY7:=q7 hY7
      clear hw7 hb7 hY7 e0 e1' e2 e3 e4 e5 e6 e7 xb1 xb3 xb4 xf xz hmQ
      obtain⟨Sp,hSp⟩:∃Sp:World→Prop,Sp=fun w'=>∃a,w'.heap[ws.heap.size]?=some (.cells #[.int .i64 y.op,.int .i64 y.dst,.bool y.ar,.int .i64 a,.bool y.br,.int .i64 y.bn,.int .i64 y.fn,.slice qy y.args.length dy] 53 (0,0)):=⟨_,rfl⟩
      have ha6:∀w',Sp w'→w'.cell? ⟨ws.heap.size,4,none⟩=some (.bool y.br)∧w'.cell? ⟨ws.heap.size,5,none⟩=some (.int .i64 y.bn)∧ws.heap.size<w'.heap.size:=fun w' h=>by
       rw[hSp]at h
       obtain⟨a,h⟩:=h
       exact⟨(blk h).1 4,(blk h).1 5,q9 h⟩
      have hS7:Sp w7.drew:=by rw[hSp];exact⟨_,HY7.out⟩
      refine qm (S:=Sp) (by kernel_rfl) 11 ?_
      refine tkZ 0 151 (.pointer (some ⟨nb,0,none⟩)) rfl rfl hS7 (fun w' h=>?_) ?_
      ·obtain⟨h1,h2,h3⟩:=ha6 w' h
       go_simp
      refine tkZ 1 152 (.pointer (some ⟨ws.heap.size,2,none⟩)) rfl rfl hS7 (fun w' h=>?_) ?_
      ·obtain⟨h1,h2,h3⟩:=ha6 w' h
       go_simp
      refine tkZ 4 155 (.pointer (some ⟨nb,0,none⟩)) rfl rfl hS7 (fun w' h=>?_) ?_
      ·obtain⟨h1,h2,h3⟩:=ha6 w' h
       go_simp
      refine tkZ 5 156 (.pointer (some ⟨ws.heap.size,4,none⟩)) rfl rfl hS7 (fun w' h=>?_) ?_
      ·obtain⟨h1,h2,h3⟩:=ha6 w' h
       go_simp
      refine tkZ 6 157 (.agg #[.bool y.br,.int .i64 y.bn]) rfl rfl hS7 (fun w' h=>?_) ?_
      ·obtain⟨h1,h2,h3⟩:=ha6 w' h
       go_simp
      obtain⟨yb,yf⟩:=blk (show w7.drew.heap[ws.heap.size]?=_ from HY7.out)
      have yb2:=yb 2
      have yb3:=yb 3
      simp only[List.getElem?_toArray,List.getElem?_cons_zero,List.getElem?_cons_succ]at yb2 yb3
      refine qk (i:=2) (by kernel_rfl) (qn 153 (.agg #[.bool y.ar,.int .i64 y.an]) w7.drew rfl rfl rfl (by go_simp) hS7 ?_)
      refine qk (i:=3) (by kernel_rfl) (qt 154 rfl rfl rfl (by go_simp) (xX ((HN8.out.below HB7.out).below (Below.refl _ w7).drew) (y.ar,y.an) (HOx.out.ia y HYe.out.2)) ?_)
      rintro e w8 ⟨rfl,hN9,hK8⟩
      rw[HZA.out]
      have hY8:w8.heap[ws.heap.size]?=some (.cells #[.int .i64 y.op,.int .i64 y.dst,.bool y.ar,.int .i64 y.an,.bool y.br,.int .i64 y.bn,.int .i64 y.fn,.slice qy y.args.length dy] 53 (0,0)):=(hK8.block _ (by show ws.heap.size<w7.heap.size;omega) (by omega)).trans HY7.out
      have hS8:Sp w8:=by rw[hSp];exact⟨_,hY8⟩
      refine⟨_,rfl,hS8,?_⟩
      refine tkZ 8 159 (.pointer (some ⟨ws.heap.size,2,none⟩)) rfl rfl hS8 (fun w' h=>?_) ?_
      ·go_simp
      refine qk (i:=7) (by kernel_rfl) (qt 158 rfl rfl rfl (by go_simp) (xX hN9 (y.br,y.bn) (HOx.out.ib y HYe.out.2)) ?_)
      rintro e w9 ⟨rfl,haK,hK9⟩
      rw[HZB.out]
      have hY9:w9.heap[ws.heap.size]?=some (.cells #[.int .i64 y.op,.int .i64 y.dst,.bool y.ar,.int .i64 y.an,.bool y.br,.int .i64 y.bn,.int .i64 y.fn,.slice qy y.args.length dy] 53 (0,0)):=(hK9.block _ (q9 hY8) (by omega)).trans hY8
      have hS9:Sp w9:=by rw[hSp];exact⟨_,hY9⟩
      refine⟨_,rfl,hS9,?_⟩
      obtain⟨za,hza⟩:∃za,za=(x9 M (y.ar,y.an)).2:=⟨_,rfl⟩
      obtain⟨zb,hzb⟩:∃zb,zb=(x9 M (y.br,y.bn)).2:=⟨_,rfl⟩
      rw[←hza,←hzb]
      have HZa:=q7 hza
      have HZb:=q7 hzb
      clear hza hzb yb2 yb3 yb yf
      obtain⟨yb,yf⟩:=blk hY9
      have yb2:=yb 2
      have yb3:=yb 3
      have yb4:=yb 4
      have yb5:=yb 5
      simp only[List.getElem?_toArray,List.getElem?_cons_zero,List.getElem?_cons_succ]at yb2 yb3 yb4 yb5
      have yz:=q9 hY9
      obtain⟨wA,hwA⟩:∃wA,wA=(w9.setCell ⟨ws.heap.size,2,none⟩ (.bool y.ar)).setCell ⟨ws.heap.size,3,none⟩ (.int .i64 za):=⟨_,rfl⟩
      have hYA:wA.heap[ws.heap.size]?=some (.cells #[.int .i64 y.op,.int .i64 y.dst,.bool y.ar,.int .i64 za,.bool y.br,.int .i64 y.bn,.int .i64 y.fn,.slice qy y.args.length dy] 53 (0,0)):=by
       rw[hwA,qg (qg hY9 2 _) 3 _]
       rfl
      have hSA:Sp wA:=by rw[hSp];exact⟨_,hYA⟩
      refine qk (i:=9) (by kernel_rfl) (qz wA rfl rfl rfl (by rw[hwA];go_simp) (fun _=>hSA) ?_)
      refine qk (i:=10) (by kernel_rfl) (qn 160 (.pointer (some ⟨ws.heap.size,4,none⟩)) wA rfl rfl rfl (by go_simp) hSA ?_)
      have HwA:=q7 hwA
      clear yb2 yb3 yb4 yb5 yb yf yz hwA
      obtain⟨yb,yf⟩:=blk hYA
      have yb4:=yb 4
      have yb5:=yb 5
      simp only[List.getElem?_toArray,List.getElem?_cons_zero,List.getElem?_cons_succ]at yb4 yb5
      have yz:=q9 hYA
      obtain⟨W5,hW5⟩:∃W5,W5=(wA.setCell ⟨ws.heap.size,4,none⟩ (.bool y.br)).setCell ⟨ws.heap.size,5,none⟩ (.int .i64 zb):=⟨_,rfl⟩
      refine qk (i:=11) (by kernel_rfl) (qz W5 rfl rfl rfl (by rw[hW5];go_simp) (fun h=>absurd rfl h) (qB (by kernel_rfl) ?_ _))
      simp only[calm]
      have hY5:W5.heap[ws.heap.size]?=some (.cells #[.int .i64 y.op,.int .i64 y.dst,.bool y.ar,.int .i64 za,.bool y.br,.int .i64 zb,.int .i64 y.fn,.slice qy y.args.length dy] 53 (0,0)):=by
       rw[hW5,qg (qg hYA 4 _) 5 _]
       rfl
      have hKA:Kept (fun k=>k=ws.heap.size) w9 W5:=by
       rw[hW5,HwA.out]
       have h1:=Kept.setCell (S:=fun k=>k=ws.heap.size) (p:=⟨ws.heap.size,2,none⟩) (Kept.refl _ w9) rfl (.bool y.ar)
       have h2:=h1.setCell (p:=⟨ws.heap.size,3,none⟩) rfl (.int .i64 za)
       have h3:=h2.setCell (p:=⟨ws.heap.size,4,none⟩) rfl (.bool y.br)
       exact h3.setCell (p:=⟨ws.heap.size,5,none⟩) rfl (.int .i64 zb)
      have hK5:Kept (fun k=>k=nb∨k=A) ws W5:=((((Kept.of_below HB7.out).drew).trans hK8 (fun _ _ h=>h)).trans hK9 (fun _ _ h=>h)).trans hKA (fun k h e=>by omega)
      have hz5:ws.heap.size+1≤W5.heap.size:=by have:=q9 hY5;omega
      obtain⟨L9,hL9⟩:∃L9,L9=L8++xw (y.ar,y.an)++xw (y.br,y.bn):=⟨_,rfl⟩
      have hN5:=haK.kept hKA (by have:=haK.at;omega) (by have:=haK.at;omega)
      rw[←hL9]at hN5
      have hdR:∀Q,Q <+: y.args.flatMap xw++vE y.dst→L9++Q <+: Qc g++XI g:=fun Q hQ=>by
       have:=hj9.out (xw (y.ar,y.an)++xw (y.br,y.bn)++Q) (by
        unfold Q3
        rw[List.append_assoc _ (y.args.flatMap xw)]
        exact(List.prefix_append_right_inj _).2 hQ)
       rw[hL9]
       simpa using this
      have hje:∀k,Ti k→S2 k∧k<W1.heap.size:=fun k h=>hcQ.out k (HTl.out.2 k h)
      have hfk:=HAr.out.sl.kept zT hK5 (fun k h1 h2=>by
       have:=(hje k h2).2
       omega)
      obtain⟨yb',yf'⟩:=blk hY5
      have yb7:=yb' 7
      simp only[List.getElem?_toArray,List.getElem?_cons_zero,List.getElem?_cons_succ]at yb7
      have yz5:=q9 hY5
      have HY5:=q7 hY5
      have HK5:=q7 hK5
      have HN5:=q7 hN5
      have HL9:=q7 hL9
      have hjf:=q7 (fun Q (hQ:Q <+: y.args.flatMap xw)=>hdR Q (hQ.trans (List.prefix_append _ _)))
      have hjg:=q7 hdR
      have hdS:=q7 hje
      have hiX:=q7 hfk
      clear hY5 hK5 hN5 hL9 hdR hje hfk yb' yb yf yb4 yb5 yz hKA hW5 hSA hYA hS9 hY9 hK9 haK hS8 hY8 hK8 hN9 hS7 hSp ha6
      go_wp2_with fail
      clear yb7 yf' yz5
      go_loopg [164] y.args.length (fun q s164 wr=>∃n:Nat,n≤y.args.length∧q=y.args.length - n∧s164 = .int .i64 n∧NmL wr nb A m (L9++(y.args.take n).flatMap xw)∧SlO 43 2 Xu wr (.slice qy y.args.length dy) (zd n (x9 M) y.args) Ti∧Kept (fun k=>Ti k∨k=nb∨k=A) W5 wr)
      case atStart=>exact⟨0,by omega,rfl,rfl,by rw[List.take_zero];exact(List.append_nil L9).symm ▸ HN5.out,by rw[zD];exact hiX.out,Kept.refl _ _⟩
      case round=>
       obtain⟨n,hn,rfl,rfl,hN,hV,hK⟩:=hrel
       obtain⟨wv,hwv⟩:∃wv,wv=wr:=⟨_,rfl⟩
       subst hwv
       have hmh:=hK.size
       have hYv:wv.heap[ws.heap.size]?=some (.cells #[.int .i64 y.op,.int .i64 y.dst,.bool y.ar,.int .i64 za,.bool y.br,.int .i64 zb,.int .i64 y.fn,.slice qy y.args.length dy] 53 (0,0)):=(hK.block _ (by omega) (fun h=>by
        rcases h with h|h|h
        ·have:=(hdS.out _ h).2;omega
        ·omega
        omega)).trans HY5.out
       have hqI:=hN.at
       have HNv:=q7 hN
       have HVv:=q7 hV
       have HKv:=q7 hK
       have HYv:=q7 hYv
       clear hN hV hK hYv
       by_cases hnl:n<y.args.length
       ·have hfq:n<(zd n (x9 M) y.args).length:=by rw[qX];exact hnl
        obtain⟨gv,cv,csv,Tv,hvv,hgv,hdL,hiY,hxv,hfv,hfC,haV,hfD,⟨curv,hbO⟩,putv⟩:=HVv.out.focus zT (by omega) hfq
        rw[xm hfq (Nat.le_refl _)]at hxv
        obtain⟨v,hve⟩:∃v,v=y.args[n]:=⟨_,rfl⟩
        have hvm:OkV m v:=HOx.out.ic y HYe.out.2 v (by rw[hve];exact List.getElem_mem hnl)
        rw[←hve]at hxv
        obtain⟨hfE,hv64⟩:=hxv
        subst hfE
        have hqv:qy=some ⟨gv,0,none⟩:=by injection hvv
        have v0:=haV 0 (by omega)
        have v1:=haV 1 (by omega)
        simp only[List.getElem?_cons_zero,List.getElem?_cons_succ,Nat.add_zero]at v0 v1
        have hqJ:=hdS.out gv hdL
        obtain⟨L6,hL6⟩:∃L6,L6=L9++(y.args.take n).flatMap xw:=⟨_,rfl⟩
        have hpr:L6++xw v <+: Qc g++XI g:=by
         rw[hL6,List.append_assoc]
         exact hjf.out _ (kG hnl (by rw[←hve];exact List.prefix_refl _))
        have hz:(x9 (stL (L6++xw v)).1 v).2=(x9 M v).2:=by
         rw[HMd.out]
         exact kH hpr
        have hnx:L6++xw v=L9++(y.args.take (n+1)).flatMap xw:=by
         rw[List.take_succ_eq_append_getElem hnl,List.flatMap_append,←List.append_assoc,←hve,hL6]
         simp
        have hdM:I64 (x9 M v).2:=by
         unfold x9
         split
         ·have:=HMb.out v.2.toNat
          unfold I64
          omega
         exact hv64
        have hN6:=HNv.out
        rw[←hL6]at hN6
        have HVe:=q7 hve
        have HVm:=q7 hvm
        have hdO:=q7 putv
        have HTv:=q7 (And.intro hfv hfC)
        have HCv:=q7 hbO
        have hdP:=q7 haV
        have hiZ:=q7 hfD
        have hj4:=q7 hdL
        have HN6:=q7 hN6
        have HZv:=q7 hz
        have hj5:=q7 hnx
        have hj6:=q7 hdM
        subst hqv
        clear hvv hve hvm hv64 putv hfv hfC hbO haV hiY hdL hL6 hpr hz hnx hdM hN6
        go_wp2_with fail
        obtain⟨w9,hw9⟩:∃w9,w9=wv.alloc (.cells #[.bool v.1,.int .i64 v.2] 43):=⟨_,rfl⟩
        rw[←hw9]
        have hz9:w9.heap.size=wv.heap.size+1:=by rw[hw9];simp
        have hb9:Below wv.heap.size wv w9:=by rw[hw9];exact bZ
        have hV9:w9.heap[wv.heap.size]?=some (.cells #[.bool v.1,.int .i64 v.2] 43 (0,0)):=by rw[hw9];exact qh rfl
        have HB9:=q7 hb9
        clear hw9 hb9 v0 v1 hfD
        obtain⟨Sp,hSp⟩:∃Sp:World→Prop,Sp=fun w'=>w'.heap[ws.heap.size]?=some (.cells #[.int .i64 y.op,.int .i64 y.dst,.bool y.ar,.int .i64 za,.bool y.br,.int .i64 zb,.int .i64 y.fn,.slice (some ⟨gv,0,none⟩) y.args.length dy] 53 (0,0))∧w'.heap[wv.heap.size]?=some (.cells #[.bool v.1,.int .i64 v.2] 43 (0,0)):=⟨_,rfl⟩
        have ha6:∀w',Sp w'→(∀i,w'.cell? ⟨ws.heap.size,i,none⟩=(#[.int .i64 y.op,.int .i64 y.dst,.bool y.ar,.int .i64 za,.bool y.br,.int .i64 zb,.int .i64 y.fn,.slice (some ⟨gv,0,none⟩) y.args.length dy]:Array Value)[i]?)∧(∀i,w'.cell? ⟨wv.heap.size,i,none⟩=(#[.bool v.1,.int .i64 v.2]:Array Value)[i]?)∧ws.heap.size<w'.heap.size∧wv.heap.size<w'.heap.size:=fun w' h=>by
         rw[hSp]at h
         exact⟨(blk h.1).1,(blk h.2).1,q9 h.1,q9 h.2⟩
        have hS9:Sp w9.drew:=by rw[hSp];exact⟨(HB9.out.block _ (q9 HYv.out)).trans HYv.out,hV9⟩
        refine qm (S:=Sp) (by kernel_rfl) 7 ?_
        refine tkZ 0 169 (.pointer (some ⟨ws.heap.size,7,none⟩)) rfl rfl hS9 (fun w' h=>?_) ?_
        ·obtain⟨h1,h2,h3,h4⟩:=ha6 w' h
         have a1:=h1 7
         have b0:=h2 0
         have b1:=h2 1
         clear h1 h2
         simp only[List.getElem?_toArray,List.getElem?_cons_zero,List.getElem?_cons_succ]at a1 b0 b1
         go_simp
        refine tkZ 1 170 (.slice (some ⟨gv,0,none⟩) y.args.length dy) rfl rfl hS9 (fun w' h=>?_) ?_
        ·obtain⟨h1,h2,h3,h4⟩:=ha6 w' h
         have a1:=h1 7
         have b0:=h2 0
         have b1:=h2 1
         clear h1 h2
         simp only[List.getElem?_toArray,List.getElem?_cons_zero,List.getElem?_cons_succ]at a1 b0 b1
         go_simp
        refine tkZ 2 171 (.int .i64 n) rfl rfl hS9 (fun w' h=>?_) ?_
        ·obtain⟨h1,h2,h3,h4⟩:=ha6 w' h
         have a1:=h1 7
         have b0:=h2 0
         have b1:=h2 1
         clear h1 h2
         simp only[List.getElem?_toArray,List.getElem?_cons_zero,List.getElem?_cons_succ]at a1 b0 b1
         go_simp
        refine tkZ 3 172 (.pointer (some ⟨nb,0,none⟩)) rfl rfl hS9 (fun w' h=>?_) ?_
        ·obtain⟨h1,h2,h3,h4⟩:=ha6 w' h
         have a1:=h1 7
         have b0:=h2 0
         have b1:=h2 1
         clear h1 h2
         simp only[List.getElem?_toArray,List.getElem?_cons_zero,List.getElem?_cons_succ]at a1 b0 b1
         go_simp
        refine tkZ 4 173 (.agg #[.bool v.1,.int .i64 v.2]) rfl rfl hS9 (fun w' h=>?_) ?_
        ·obtain⟨h1,h2,h3,h4⟩:=ha6 w' h
         have a1:=h1 7
         have b0:=h2 0
         have b1:=h2 1
         clear h1 h2
         simp only[List.getElem?_toArray,List.getElem?_cons_zero,List.getElem?_cons_succ]at a1 b0 b1
         go_simp
        refine qk (i:=5) (by kernel_rfl) (qt 174 rfl rfl rfl (by go_simp) (xX ((HN6.out.below HB9.out).below (Below.refl _ w9).drew) v HVm.out) ?_)
        rintro e w10 ⟨rfl,haK,haD⟩
        rw[hj5.out]at haK
        rw[HZv.out]
        have haC:Sp w10:=by
         rw[hSp]at hS9 ⊢
         exact⟨(haD.block _ (q9 hS9.1) (by omega)).trans hS9.1,(haD.block _ (q9 hS9.2) (by omega)).trans hS9.2⟩
        refine⟨_,rfl,haC,?_⟩
        have hj7:w9.heap.size≤w10.heap.size:=haD.size
        have hdQ:Kept (fun k=>k=nb∨k=A) wv w10:=((Kept.of_below HB9.out).drew).trans haD (fun _ _ h=>h)
        have haL:w10.heap[gv]?=wv.heap[gv]?:=hdQ.block gv hgv (by omega)
        have g0:w10.cell? ⟨gv,n*2,none⟩=some (.bool v.1):=(World.cell?_of_block (a:=⟨gv,n*2,none⟩) haL).trans (hdP.out 0 (by omega))
        have g0':w10.cell? ⟨gv,n*2+1,none⟩=some (.int .i64 v.2):=(World.cell?_of_block (a:=⟨gv,n*2+1,none⟩) haL).trans (hdP.out 1 (by omega))
        have g1:∀o,w10.frozen? ⟨gv,o,none⟩=false:=fun o=>(World.frozen?_of_block (a:=⟨gv,o,none⟩) haL).trans (hiZ.out _)
        have g2:gv<w10.heap.size:=by omega
        refine qk (i:=6) (by kernel_rfl) (qn 175 (.pointer (some ⟨gv,n*2,none⟩)) w10 rfl rfl rfl (by go_simp) haC ?_)
        refine qk (i:=7) (by kernel_rfl) (qz ((w10.setCell ⟨gv,n*2,none⟩ (.bool v.1)).setCell ⟨gv,n*2+1,none⟩ (.int .i64 (x9 M v).2)) rfl rfl rfl (by go_simp) (fun h=>absurd rfl h) (qB (by kernel_rfl) ?_ _))
        show Exit.inBlock 19 _ Exit.normal _ _
        obtain⟨W,hW⟩:∃W,W=(w10.setCell ⟨gv,n*2,none⟩ (.bool v.1)).setCell ⟨gv,n*2+1,none⟩ (.int .i64 (x9 M v).2):=⟨_,rfl⟩
        rw[←hW]
        have hrp:RowPut wv W 43 gv (n*2) 2 [.bool v.1,.int .i64 (x9 M v).2]:=by
         rw[hW]
         exact(RowPut.same HCv.out haL hdP.out).two _ _
        have hKx:Kept (fun k=>k=gv) w10 W:=by
         rw[hW]
         have h1:=Kept.setCell (S:=fun k=>k=gv) (p:=⟨gv,n*2,none⟩) (Kept.refl _ w10) rfl (.bool v.1)
         exact h1.setCell (p:=⟨gv,n*2+1,none⟩) rfl (.int .i64 (x9 M v).2)
        have hKW:Kept (fun k=>k=gv∨k=nb∨k=A) wv W:=(hdQ.mono fun _ _ h=>.inr h).trans hKx (fun _ _ h=>.inl h)
        have hput:=hdO.out W _ (x9 M v) (fun _=>False) hrp rfl (fun u hu=>by
          simp only[List.mem_cons,List.not_mem_nil,or_false]at hu
          rcases hu with rfl|rfl<;>rfl) hKW.size (fun k h1 _ h3=>hKW.block k (HVv.out.inb k h1) (fun h=>by
          rcases h with h|h|h
          ·exact h3 h
          ·have:=(hdS.out k h1).2;omega
          have:=(hdS.out k h1).2;omega)) ⟨by rw[Vy],hj6.out⟩ (fun k hk=>hk.elim)
        rw[HVe.out,qU hnl]at hput
        have hgr:=hput.grow (S':=Ti) (fun k h=>h.elim id (fun h=>h.elim)) (HVv.out.inb.mono hKW.size)
        have hNW:=haK.kept hKx (by omega) (by omega)
        have hKf:Kept (fun k=>Ti k∨k=nb∨k=A) W5 W:=HKv.out.trans hKW (fun k _ h=>by
         rcases h with h|h|h
         ·rw[h];exact .inl hj4.out
         ·exact .inr (.inl h)
         exact .inr (.inr h))
        have ha7:=q7 (And.intro hNW (And.intro hgr hKf))
        clear haK haD haC hS9 hdQ haL g0 g0' g1 hrp hKx hKW hput hgr hNW hKf hW ha6
        go_wp2_with fail
        go_roundg (y.args.length - (n+1))
        case measure=>omega
        case rel=>exact⟨n+1,by omega,rfl,by go_num,ha7.out.1,ha7.out.2.1,ha7.out.2.2⟩
       obtain rfl:y.args.length=n:=by omega
       have hN9:=HNv.out
       rw[List.take_length]at hN9
       have hXv:wv.heap[wj.heap.size]?=some (.cells #[.slice q1 x.phis.length d1,.slice (some ⟨gl,0,none⟩) x.list.length d2,.int .i64 x.fin.kind,.bool x.fin.onr,.int .i64 x.fin.onn,.slice q3 x.fin.to.length d3] 48 (0,0)):=(HKv.out.block _ (by have:=q9 HXs.out;have:=HK5.out.size;omega) (fun h=>by
        have:=q9 HXs.out
        rcases h with h|h|h
        ·have:=(hdS.out _ h).2;have:=q9 HXp.out;omega
        ·omega
        omega)).trans ((HK5.out.block _ (q9 HXs.out) (by have:=q9 HXs.out;omega)).trans HXs.out)
       have hln:L9++y.args.flatMap xw++vE y.dst=L7++(x.list.take (j+1)).flatMap fun i=>Q3 i++vE i.dst:=by
        rw[List.take_succ_eq_append_getElem hjl,List.flatMap_append,←List.append_assoc,←HYe.out.1,HL9.out,HL8.out]
        simp[Q3]
       have hpd:=hjg.out _ (List.prefix_refl _)
       obtain⟨yb,yf⟩:=blk HYv.out
       have yb1:=yb 1
       simp only[List.getElem?_toArray,List.getElem?_cons_zero,List.getElem?_cons_succ]at yb1
       have yz:=q9 HYv.out
       have HN9:=q7 hN9
       have HXv:=q7 hXv
       have HLn:=q7 hln
       have HPd:=q7 hpd
       clear hN9 hXv hln hpd yb
       by_cases hd:0≤y.dst
       rotate_left
       ·have hmd:vE y.dst=[]:=by unfold vE;rw[if_neg hd]
        have hrd:(ks M y).dst=y.dst:=by
         show(if 0≤y.dst then M y.dst.toNat else y.dst)=y.dst
         rw[if_neg hd]
        have hNz:NmL wv nb A m (L7++(x.list.take (j+1)).flatMap fun i=>Q3 i++vE i.dst):=by rw[←HLn.out,hmd,List.append_nil];exact HN9.out
        have hKz:Kept (fun k=>k=ws.heap.size∨k=nb∨k=A) wv wv:=Kept.refl _ _
        have hYz:=HYv.out
        have hju:=q7 hrd
        clear hmd hrd yb1 yf yz
        obtain⟨yb,yf⟩:=blk hYz
        have yb0:=yb 0
        have yb1:=yb 1
        have yb2:=yb 2
        have yb3:=yb 3
        have yb4:=yb 4
        have yb5:=yb 5
        have yb6:=yb 6
        have yb7:=yb 7
        simp only[List.getElem?_toArray,List.getElem?_cons_zero,List.getElem?_cons_succ]at yb0 yb1 yb2 yb3 yb4 yb5 yb6 yb7
        have yz:=q9 hYz
        have hXz:wv.heap[wj.heap.size]?=some (.cells #[.slice q1 x.phis.length d1,.slice (some ⟨gl,0,none⟩) x.list.length d2,.int .i64 x.fin.kind,.bool x.fin.onr,.int .i64 x.fin.onn,.slice q3 x.fin.to.length d3] 48 (0,0)):=(hKz.block _ (by have:=q9 HXv.out;omega) (by have:=q9 HXs.out;omega)).trans HXv.out
        obtain⟨xb,xf⟩:=blk hXz
        have xb1:=xb 1
        simp only[List.getElem?_toArray,List.getElem?_cons_zero,List.getElem?_cons_succ]at xb1
        have xz:=q9 hXz
        have hzz:=hKz.size
        have hgz:wv.heap[gl]?=ws.heap[gl]?:=(hKz.block _ (by omega) (by omega)).trans ((HKv.out.block _ (by omega) (fun h=>by
         rcases h with h|h|h
         ·exact HTl.out.1 h
         ·omega
         omega)).trans (HK5.out.block _ (by omega) (by omega)))
        have lz0:wv.frozen? ⟨gl,j*8,none⟩=false:=(World.frozen?_of_block (a:=⟨gl,j*8,none⟩) hgz).trans (haN.out _)
        have lc0:wv.cell? ⟨gl,j*8,none⟩=_:=(World.cell?_of_block (a:=⟨gl,j*8,none⟩) hgz).trans (haE.out 0 (by omega))
        have lz1:wv.frozen? ⟨gl,j*8+1,none⟩=false:=(World.frozen?_of_block (a:=⟨gl,j*8+1,none⟩) hgz).trans (haN.out _)
        have lc1:wv.cell? ⟨gl,j*8+1,none⟩=_:=(World.cell?_of_block (a:=⟨gl,j*8+1,none⟩) hgz).trans (haE.out 1 (by omega))
        have lz2:wv.frozen? ⟨gl,j*8+2,none⟩=false:=(World.frozen?_of_block (a:=⟨gl,j*8+2,none⟩) hgz).trans (haN.out _)
        have lc2:wv.cell? ⟨gl,j*8+2,none⟩=_:=(World.cell?_of_block (a:=⟨gl,j*8+2,none⟩) hgz).trans (haE.out 2 (by omega))
        have lz3:wv.frozen? ⟨gl,j*8+3,none⟩=false:=(World.frozen?_of_block (a:=⟨gl,j*8+3,none⟩) hgz).trans (haN.out _)
        have lc3:wv.cell? ⟨gl,j*8+3,none⟩=_:=(World.cell?_of_block (a:=⟨gl,j*8+3,none⟩) hgz).trans (haE.out 3 (by omega))
        have lz4:wv.frozen? ⟨gl,j*8+4,none⟩=false:=(World.frozen?_of_block (a:=⟨gl,j*8+4,none⟩) hgz).trans (haN.out _)
        have lc4:wv.cell? ⟨gl,j*8+4,none⟩=_:=(World.cell?_of_block (a:=⟨gl,j*8+4,none⟩) hgz).trans (haE.out 4 (by omega))
        have lz5:wv.frozen? ⟨gl,j*8+5,none⟩=false:=(World.frozen?_of_block (a:=⟨gl,j*8+5,none⟩) hgz).trans (haN.out _)
        have lc5:wv.cell? ⟨gl,j*8+5,none⟩=_:=(World.cell?_of_block (a:=⟨gl,j*8+5,none⟩) hgz).trans (haE.out 5 (by omega))
        have lz6:wv.frozen? ⟨gl,j*8+6,none⟩=false:=(World.frozen?_of_block (a:=⟨gl,j*8+6,none⟩) hgz).trans (haN.out _)
        have lc6:wv.cell? ⟨gl,j*8+6,none⟩=_:=(World.cell?_of_block (a:=⟨gl,j*8+6,none⟩) hgz).trans (haE.out 6 (by omega))
        have lz7:wv.frozen? ⟨gl,j*8+7,none⟩=false:=(World.frozen?_of_block (a:=⟨gl,j*8+7,none⟩) hgz).trans (haN.out _)
        have lc7:wv.cell? ⟨gl,j*8+7,none⟩=_:=(World.cell?_of_block (a:=⟨gl,j*8+7,none⟩) hgz).trans (haE.out 7 (by omega))
        simp only[List.getElem?_cons_zero,List.getElem?_cons_succ]at lc0 lc1 lc2 lc3 lc4 lc5 lc6 lc7
        have lzz:gl<wv.heap.size:=by omega
        have HNz:=q7 hNz
        have HKz:=q7 hKz
        have HGz:=q7 hgz
        have HYz:=q7 hYz
        clear hNz hKz hgz hYz hXz yb xb
        go_wp2_with fail
        obtain⟨wb,hwb⟩:∃wb,wb=wv:=⟨_,rfl⟩
        have HKb:Hid (Kept (fun k=>k=ws.heap.size∨k=nb∨k=A) wv wb):=q7 (by rw[hwb];exact Kept.refl _ _)
        have HGb:Hid (wb.heap[gl]?=ws.heap[gl]?):=q7 (by rw[hwb];exact HGz.out)
        have HNb:Hid (NmL wb nb A m (L7++(x.list.take (j+1)).flatMap fun i=>Q3 i++vE i.dst)):=q7 (by rw[hwb];exact HNz.out)
        have HWb:=q7 hwb
        clear hwb
        have hjv:=hcQ.out gl hhj.out
        have hqP:=HNb.out.at
        obtain⟨W,hW⟩:∃W,W=Go.Proofs.YtecdphhdmjmmnaaGreatDoor.eight wb gl (j*8) (.int .i64 y.op) (.int .i64 y.dst) (.bool y.ar) (.int .i64 za) (.bool y.br) (.int .i64 zb) (.int .i64 y.fn) (.slice qy y.args.length dy):=⟨_,rfl⟩
        have hWu:=hW
        unfold Go.Proofs.YtecdphhdmjmmnaaGreatDoor.eight at hWu
        rw[HWb.out]at hWu
        rw[←hWu]
        clear hWu
        have hKW:Kept (fun k=>k=gl) wb W:=by rw[hW];exact Zq ..
        have hrp:RowPut ws W 53 gl (j*8) 8 [.int .i64 y.op,.int .i64 y.dst,.bool y.ar,.int .i64 za,.bool y.br,.int .i64 zb,.int .i64 y.fn,.slice qy y.args.length dy]:=by
         rw[hW]
         exact(RowPut.same HCl.out HGb.out haE.out).eight rfl _ _ _ _ _ _ _ _
        have hfM:Kept (fun k=>k=gl∨k=ws.heap.size∨k=nb∨k=A) wv W:=(HKb.out.mono fun _ _ h=>.inr h).trans hKW (fun _ _ h=>.inl h)
        have haM:Kept (fun k=>Ti k∨k=gl∨k=ws.heap.size∨k=nb∨k=A) ws W:=((HK5.out.mono fun _ _ h=>.inr (.inr (.inr h))).trans HKv.out (fun _ _ h=>h.elim .inl (fun h=>.inr (.inr (.inr h))))).trans hfM (fun _ _ h=>.inr h)
        have hVf:=HVv.out
        rw[zr]at hVf
        have hVw:=hVf.kept zT hfM (fun k h1 h2=>by
         have h3:=(hdS.out k h2).2
         have:=HIs.out.inb k (HTl.out.2 k h2)
         rcases h1 with h|h|h|h
         ·exact HTl.out.1 (by rw[←h];exact h2)
         ·omega
         ·omega
         omega)
        have hMi:∀k,I64 (M k):=fun k=>by have:=HMb.out k;unfold I64;omega
        have hri:∀v:Bool×Int,I64 v.2→I64 (x9 M v).2:=fun v h=>by
         unfold x9
         split
         ·exact hMi _
         exact h
        have hdT:ks M y={ y with dst:=y.dst,an:=za,bn:=zb,args:=y.args.map (x9 M) }:=by
         have h:=hju.out
         rw[HZa.out,HZb.out,←h]
         rfl
        have hins:InsO W [.int .i64 y.op,.int .i64 y.dst,.bool y.ar,.int .i64 za,.bool y.br,.int .i64 zb,.int .i64 y.fn,.slice qy y.args.length dy] (ks M y) Ti:=by
         rw[hdT]
         refine⟨_,rfl,HI5.out.1,?_,?_,?_,HI5.out.2.2.2.2,⟨hVw,?_⟩⟩
         ·exact HI5.out.2.1
         ·show I64 za
          rw[HZa.out]
          exact hri _ HI5.out.2.2.1
         ·show I64 zb
          rw[HZb.out]
          exact hri _ HI5.out.2.2.2.1
         show(y.args.map _).length*16≤_
         rw[List.length_map]
         exact HAr.out.bd
        have hput:=hfL.out W _ (ks M y) Ti hrp rfl (fun u hu=>by
          simp only[List.mem_cons,List.not_mem_nil,or_false]at hu
          rcases hu with rfl|rfl|rfl|rfl|rfl|rfl|rfl|rfl<;>rfl) haM.size (fun k h1 h2 h3=>haM.block k (HIs.out.inb k h1) (fun h=>by
          have h4:=(hcQ.out k h1).2
          have h5:=HIs.out.inb k h1
          rcases h with h|h|h|h|h
          ·exact h2 h
          ·exact h3 h
          ·omega
          ·omega
          omega)) hins (fun k hk=>⟨.inl hk,by have:=HIs.out.inb k (HTl.out.2 k hk);have:=haM.size;omega⟩)
        rw[HYe.out.1,qU hjl]at hput
        have hgr:=hput.grow (S':=Sl) (fun k h=>h.elim id (HTl.out.2 k)) (HIs.out.inb.mono haM.size)
        have hNW:=HNb.out.kept hKW (by omega) (by omega)
        have hKf:Kept (fun k=>Sl k∨k=nb∨k=A) wp W:=HKs.out.trans haM (fun k hk h=>by
         rcases h with h|h|h|h
         ·exact .inl (HTl.out.2 k h)
         ·rw[h];exact .inl hhj.out
         ·omega
         exact .inr h)
        go_roundg (x.list.length - (j+1))
        case measure=>omega
        case rel=>exact⟨j+1,by omega,rfl,by go_num,hNW,hgr,hKf⟩
       obtain⟨d,hdd⟩:∃d:Nat,y.dst=(d:Int):=⟨y.dst.toNat,by omega⟩
       have hdm:d<m:=by have:=HOx.out.id y HYe.out.2;omega
       have hmd:vE y.dst=[d]:=by unfold vE;rw[if_pos hd,hdd];rfl
       have hzd:(stL (L9++y.args.flatMap xw++[d])).1 d=M d:=by
        rw[HMd.out]
        have h:=HPd.out
        rw[hmd,←List.append_assoc]at h
        exact JM (pre_app (b:=[]) (by simpa using h)) (by simp)
       have hrd:(ks M y).dst=M d:=by
        show(if 0≤y.dst then M y.dst.toNat else y.dst)=M d
        rw[if_pos hd,hdd,Int.toNat_natCast]
       have hqQ:=q7 hmd
       have HDd:=q7 hdd
       have HZd:=q7 hzd
       have hju:=q7 hrd
       rw[hdd]at yb1 hd
       clear hmd hdd hzd hrd
       go_wp2_with fail
       refine(vj HN9.out d hdm).mono ?_
       rintro e wz ⟨rfl,hNz,hK9⟩
       rw[HZd.out]
       rw[←hqQ.out,HLn.out]at hNz
       have hYz:wz.heap[ws.heap.size]?=some (.cells #[.int .i64 y.op,.int .i64 y.dst,.bool y.ar,.int .i64 za,.bool y.br,.int .i64 zb,.int .i64 y.fn,.slice qy y.args.length dy] 53 (0,0)):=(hK9.block _ (q9 HYv.out) (by have:=HN9.out.at;have:=q9 HYv.out;omega)).trans HYv.out
       have hKz:Kept (fun k=>k=ws.heap.size∨k=nb∨k=A) wv wz:=hK9.mono fun _ _ h=>.inr h
       clear yb1 yf yz hK9
       obtain⟨yb,yf⟩:=blk hYz
       have yb0:=yb 0
       have yb1:=yb 1
       have yb2:=yb 2
       have yb3:=yb 3
       have yb4:=yb 4
       have yb5:=yb 5
       have yb6:=yb 6
       have yb7:=yb 7
       simp only[List.getElem?_toArray,List.getElem?_cons_zero,List.getElem?_cons_succ]at yb0 yb1 yb2 yb3 yb4 yb5 yb6 yb7
       have yz:=q9 hYz
       have hXz:wz.heap[wj.heap.size]?=some (.cells #[.slice q1 x.phis.length d1,.slice (some ⟨gl,0,none⟩) x.list.length d2,.int .i64 x.fin.kind,.bool x.fin.onr,.int .i64 x.fin.onn,.slice q3 x.fin.to.length d3] 48 (0,0)):=(hKz.block _ (by have:=q9 HXv.out;omega) (by have:=q9 HXs.out;omega)).trans HXv.out
       obtain⟨xb,xf⟩:=blk hXz
       have xb1:=xb 1
       simp only[List.getElem?_toArray,List.getElem?_cons_zero,List.getElem?_cons_succ]at xb1
       have xz:=q9 hXz
       have hzz:=hKz.size
       have hgz:wz.heap[gl]?=ws.heap[gl]?:=(hKz.block _ (by omega) (by omega)).trans ((HKv.out.block _ (by omega) (fun h=>by
        rcases h with h|h|h
        ·exact HTl.out.1 h
        ·omega
        omega)).trans (HK5.out.block _ (by omega) (by omega)))
       have lz0:wz.frozen? ⟨gl,j*8,none⟩=false:=(World.frozen?_of_block (a:=⟨gl,j*8,none⟩) hgz).trans (haN.out _)
       have lc0:wz.cell? ⟨gl,j*8,none⟩=_:=(World.cell?_of_block (a:=⟨gl,j*8,none⟩) hgz).trans (haE.out 0 (by omega))
       have lz1:wz.frozen? ⟨gl,j*8+1,none⟩=false:=(World.frozen?_of_block (a:=⟨gl,j*8+1,none⟩) hgz).trans (haN.out _)
       have lc1:wz.cell? ⟨gl,j*8+1,none⟩=_:=(World.cell?_of_block (a:=⟨gl,j*8+1,none⟩) hgz).trans (haE.out 1 (by omega))
       have lz2:wz.frozen? ⟨gl,j*8+2,none⟩=false:=(World.frozen?_of_block (a:=⟨gl,j*8+2,none⟩) hgz).trans (haN.out _)
       have lc2:wz.cell? ⟨gl,j*8+2,none⟩=_:=(World.cell?_of_block (a:=⟨gl,j*8+2,none⟩) hgz).trans (haE.out 2 (by omega))
       have lz3:wz.frozen? ⟨gl,j*8+3,none⟩=false:=(World.frozen?_of_block (a:=⟨gl,j*8+3,none⟩) hgz).trans (haN.out _)
       have lc3:wz.cell? ⟨gl,j*8+3,none⟩=_:=(World.cell?_of_block (a:=⟨gl,j*8+3,none⟩) hgz).trans (haE.out 3 (by omega))
       have lz4:wz.frozen? ⟨gl,j*8+4,none⟩=false:=(World.frozen?_of_block (a:=⟨gl,j*8+4,none⟩) hgz).trans (haN.out _)
       have lc4:wz.cell? ⟨gl,j*8+4,none⟩=_:=(World.cell?_of_block (a:=⟨gl,j*8+4,none⟩) hgz).trans (haE.out 4 (by omega))
       have lz5:wz.frozen? ⟨gl,j*8+5,none⟩=false:=(World.frozen?_of_block (a:=⟨gl,j*8+5,none⟩) hgz).trans (haN.out _)
       have lc5:wz.cell? ⟨gl,j*8+5,none⟩=_:=(World.cell?_of_block (a:=⟨gl,j*8+5,none⟩) hgz).trans (haE.out 5 (by omega))
       have lz6:wz.frozen? ⟨gl,j*8+6,none⟩=false:=(World.frozen?_of_block (a:=⟨gl,j*8+6,none⟩) hgz).trans (haN.out _)
       have lc6:wz.cell? ⟨gl,j*8+6,none⟩=_:=(World.cell?_of_block (a:=⟨gl,j*8+6,none⟩) hgz).trans (haE.out 6 (by omega))
       have lz7:wz.frozen? ⟨gl,j*8+7,none⟩=false:=(World.frozen?_of_block (a:=⟨gl,j*8+7,none⟩) hgz).trans (haN.out _)
       have lc7:wz.cell? ⟨gl,j*8+7,none⟩=_:=(World.cell?_of_block (a:=⟨gl,j*8+7,none⟩) hgz).trans (haE.out 7 (by omega))
       simp only[List.getElem?_cons_zero,List.getElem?_cons_succ]at lc0 lc1 lc2 lc3 lc4 lc5 lc6 lc7
       have lzz:gl<wz.heap.size:=by omega
       have HNz:=q7 hNz
       have HKz:=q7 hKz
       have HGz:=q7 hgz
       have HYz:=q7 hYz
       clear hNz hKz hgz hYz hXz yb xb
       go_wp2_with fail
       obtain⟨wb,hwb⟩:∃wb,wb=wz.setCell ⟨ws.heap.size,1,none⟩ (.int .i64 (M d)):=⟨_,rfl⟩
       have hk9:Kept (fun k=>k=ws.heap.size) wz wb:=by rw[hwb];exact Kept.setCell (S:=fun k=>k=ws.heap.size) (p:=⟨ws.heap.size,1,none⟩) (Kept.refl _ _) rfl _
       have htN:=HNz.out.at
       have HNb:=q7 (HNz.out.kept hk9 (by omega) (by omega))
       have HKb:=q7 (HKz.out.trans hk9 (fun _ _ h=>.inl h))
       have HGb:=q7 ((hk9.block gl (by omega) (by omega)).trans HGz.out)
       have HWb:=q7 hwb
       clear hk9 hwb
       have hjv:=hcQ.out gl hhj.out
       have hqP:=HNb.out.at
       obtain⟨W,hW⟩:∃W,W=Go.Proofs.YtecdphhdmjmmnaaGreatDoor.eight wb gl (j*8) (.int .i64 y.op) (.int .i64 (M d)) (.bool y.ar) (.int .i64 za) (.bool y.br) (.int .i64 zb) (.int .i64 y.fn) (.slice qy y.args.length dy):=⟨_,rfl⟩
       have hWu:=hW
       unfold Go.Proofs.YtecdphhdmjmmnaaGreatDoor.eight at hWu
       rw[HWb.out]at hWu
       rw[←hWu]
       clear hWu
       have hKW:Kept (fun k=>k=gl) wb W:=by rw[hW];exact Zq ..
       have hrp:RowPut ws W 53 gl (j*8) 8 [.int .i64 y.op,.int .i64 (M d),.bool y.ar,.int .i64 za,.bool y.br,.int .i64 zb,.int .i64 y.fn,.slice qy y.args.length dy]:=by
        rw[hW]
        exact(RowPut.same HCl.out HGb.out haE.out).eight rfl _ _ _ _ _ _ _ _
       have hfM:Kept (fun k=>k=gl∨k=ws.heap.size∨k=nb∨k=A) wv W:=(HKb.out.mono fun _ _ h=>.inr h).trans hKW (fun _ _ h=>.inl h)
       have haM:Kept (fun k=>Ti k∨k=gl∨k=ws.heap.size∨k=nb∨k=A) ws W:=((HK5.out.mono fun _ _ h=>.inr (.inr (.inr h))).trans HKv.out (fun _ _ h=>h.elim .inl (fun h=>.inr (.inr (.inr h))))).trans hfM (fun _ _ h=>.inr h)
       have hVf:=HVv.out
       rw[zr]at hVf
       have hVw:=hVf.kept zT hfM (fun k h1 h2=>by
        have h3:=(hdS.out k h2).2
        have:=HIs.out.inb k (HTl.out.2 k h2)
        rcases h1 with h|h|h|h
        ·exact HTl.out.1 (by rw[←h];exact h2)
        ·omega
        ·omega
        omega)
       have hMi:∀k,I64 (M k):=fun k=>by have:=HMb.out k;unfold I64;omega
       have hri:∀v:Bool×Int,I64 v.2→I64 (x9 M v).2:=fun v h=>by
        unfold x9
        split
        ·exact hMi _
        exact h
       have hdT:ks M y={ y with dst:=(M d),an:=za,bn:=zb,args:=y.args.map (x9 M) }:=by
        have h:=hju.out
        rw[HZa.out,HZb.out,←h]
        rfl
       have hins:InsO W [.int .i64 y.op,.int .i64 (M d),.bool y.ar,.int .i64 za,.bool y.br,.int .i64 zb,.int .i64 y.fn,.slice qy y.args.length dy] (ks M y) Ti:=by
        rw[hdT]
        refine⟨_,rfl,HI5.out.1,?_,?_,?_,HI5.out.2.2.2.2,⟨hVw,?_⟩⟩
        ·exact hMi d
        ·show I64 za
         rw[HZa.out]
         exact hri _ HI5.out.2.2.1
        ·show I64 zb
         rw[HZb.out]
         exact hri _ HI5.out.2.2.2.1
        show(y.args.map _).length*16≤_
        rw[List.length_map]
        exact HAr.out.bd
       have hput:=hfL.out W _ (ks M y) Ti hrp rfl (fun u hu=>by
         simp only[List.mem_cons,List.not_mem_nil,or_false]at hu
         rcases hu with rfl|rfl|rfl|rfl|rfl|rfl|rfl|rfl<;>rfl) haM.size (fun k h1 h2 h3=>haM.block k (HIs.out.inb k h1) (fun h=>by
         have h4:=(hcQ.out k h1).2
         have h5:=HIs.out.inb k h1
         rcases h with h|h|h|h|h
         ·exact h2 h
         ·exact h3 h
         ·omega
         ·omega
         omega)) hins (fun k hk=>⟨.inl hk,by have:=HIs.out.inb k (HTl.out.2 k hk);have:=haM.size;omega⟩)
       rw[HYe.out.1,qU hjl]at hput
       have hgr:=hput.grow (S':=Sl) (fun k h=>h.elim id (HTl.out.2 k)) (HIs.out.inb.mono haM.size)
       have hNW:=HNb.out.kept hKW (by omega) (by omega)
       have hKf:Kept (fun k=>Sl k∨k=nb∨k=A) wp W:=HKs.out.trans haM (fun k hk h=>by
        rcases h with h|h|h|h
        ·exact .inl (HTl.out.2 k h)
        ·rw[h];exact .inl hhj.out
        ·omega
        exact .inr h)
       go_roundg (x.list.length - (j+1))
       case measure=>omega
       case rel=>exact⟨j+1,by omega,rfl,by go_num,hNW,hgr,hKf⟩

end Go.Proofs.YtecdphhdmjmmnaaGreatDoor
