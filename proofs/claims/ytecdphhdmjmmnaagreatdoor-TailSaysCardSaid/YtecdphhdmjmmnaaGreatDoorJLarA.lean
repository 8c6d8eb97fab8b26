/-
  The contract of graph.Large of a function that is not too large.
-/
import Derived.Test.YtecdphhdmjmmnaaGreatDoorJRenB
import Derived.Test.YtecdphhdmjmmnaaGreatDoorNamC
set_option maxRecDepth 100000
set_option maxHeartbeats 16000000
namespace Go.Proofs.YtecdphhdmjmmnaaGreatDoor
open Go.RowKit Go.Shelf

def HeadLike (g f:FunL):Prop:=g.name=f.name∧g.params=f.params∧g.regs=f.regs∧g.blocks.length=f.blocks.length
theorem HeadLike.join {g f:FunL} (h:HeadLike g f) (b t:Nat):HeadLike (x8 g b t) f:=⟨h.1,h.2.1,h.2.2.1,by rw[qK];exact h.2.2.2⟩
theorem RowPut.outC {w w1:World} {e:TypeId} {g o size j:Nat} {cs:List Value} (h:RowPut w w1 e g o size cs) (hj:j<o∨o+size≤j):w1.cell? ⟨g,j,none⟩=w.cell? ⟨g,j,none⟩:=by
 obtain⟨c,c',a,b,_,_,r⟩:=h
 exact(cell_of_row w1 g _ c' e (0,0) b).trans ((r j hj).trans (cell_of_row w g _ c e (0,0) a).symm)

theorem Kj {nf:Nat} {P:Nat→Int} (f:FunL) (hC:FunC nf P f) (q:Option Addr) (e1:Nat) (w:World) (S:Blks) (hF:FunO w [.string f.name,.int .i64 f.params,.int .i64 f.regs,.slice q f.blocks.length e1] f S) :
  Calls Tryz.prog 63 #[.agg #[.string f.name,.int .i64 f.params,.int .i64 f.regs,.slice q f.blocks.length e1]] w fun e w'=>∃p c S',e = .returned (.agg #[.string f.name,.int .i64 f.params,.int .i64 f.regs,.slice p f.blocks.length c])∧
   FunO w' [.string f.name,.int .i64 f.params,.int .i64 f.regs,.slice p f.blocks.length c] (qW f) S'∧(∀g,S' g→S g∨w.heap.size≤g)∧Kept S w w':=by
 obtain⟨iI,l1,l2,l3,l4⟩:=info_parts vC
 have hn0:=hC.n1
 have haA:=hC.n40
 obtain⟨v0,haF,hnm,i1,i2,hB⟩:=hF
 have hv0:v0 = .slice q f.blocks.length e1:=by simpa using haF.symm
 subst hv0
 obtain⟨gq,cq,_,_,hvq,_⟩:=hB.sl.focus qE (by omega) hn0
 have hq:q=some ⟨gq,0,none⟩:=by injection hvq
 subst hq
 obtain⟨V,N,L,hCh,hNS,hLS⟩:=ChS.of hB.sl hn0
 have hSb:=hB.sl.inb
 have HC:=q7 hC
 have HCh:=q7 hCh
 have HNS:=q7 hNS
 have HLS:=q7 hLS
 have HSb:=q7 hSb
 have HN:=q7 (And.intro hnm (And.intro i1 i2))
 have HBd:=q7 hB.bd
 clear hC hCh hNS hLS hSb hnm i1 i2 hB haF hvq
 go_enter Tryz.func63,Tryz.ntmps63
 go_wp2_with fail
 obtain⟨W1,hW1⟩:∃W1,W1=(w.alloc (.cells #[.string f.name,.int .i64 f.params,.int .i64 f.regs,.slice (some ⟨gq,0,none⟩) f.blocks.length e1] 37)).alloc (.cells #[.string { data:=#[] },.int .i64 0,.int .i64 0,.slice none 0 0] 37):=⟨_,rfl⟩
 rw[←hW1]
 have hz1:W1.heap.size=w.heap.size+1+1:=by rw[hW1];simp
 have hb1:Below w.heap.size w W1:=by rw[hW1];exact bZ
 have hF1:W1.heap[w.heap.size]?=some (.cells #[.string f.name,.int .i64 f.params,.int .i64 f.regs,.slice (some ⟨gq,0,none⟩) f.blocks.length e1] 37 (0,0)):=by rw[hW1];exact qj (qh rfl)
 have hZ1:W1.heap[w.heap.size+1]?=some (.cells #[.string { data:=#[] },.int .i64 0,.int .i64 0,.slice none 0 0] 37 (0,0)):=by rw[hW1];exact qh (by simp)
 have HB1:=q7 hb1
 have HF1:=q7 hF1
 have HZ1:=q7 hZ1
 have HC1:=q7 (HCh.out.below hb1)
 clear hW1 hb1 hF1 hZ1
 go_loopg [3] f.blocks.length (fun q s3 wr=>∃(b:Nat) (g:FunL) (V:Nat→Value) (L:Nat→Blks),b≤f.blocks.length∧q=f.blocks.length - b∧s3 = .int .i64 b∧g=(List.range b).foldl (fun g b=>qR (f.blocks.length+1) g b) f∧FunC nf P g∧HeadLike g f∧ChS wr gq e1 g.blocks V N L∧(∀i,i<f.blocks.length→∀k,L i k→S k∨W1.heap.size≤k)∧Kept S W1 wr)
 case atStart=>exact⟨0,f,V,L,by omega,rfl,rfl,rfl,HC.out,⟨rfl,rfl,rfl,rfl⟩,HC1.out,fun i hi k h=>.inl (HLS.out i hi k h),Kept.refl _ _⟩
 case round=>
  obtain⟨b,g,V,L,hb,rfl,rfl,hg,hCg,hH,hS,hL,hK⟩:=hrel
  obtain⟨wo,hwo⟩:∃wo,wo=wr:=⟨_,rfl⟩
  subst hwo
  have hgl:=hH.2.2.2
  have hsz:=hK.size
  have hSw:∀k,S k→k<w.heap.size:=fun k hk=>HSb.out k hk
  have hFo:wo.heap[w.heap.size]?=some (.cells #[.string f.name,.int .i64 f.params,.int .i64 f.regs,.slice (some ⟨gq,0,none⟩) f.blocks.length e1] 37 (0,0)):=(hK.block _ (by omega) (fun h=>by have:=hSw _ h;omega)).trans HF1.out
  obtain⟨fb,ff⟩:=blk hFo
  have fb0:=fb 0
  have fb1:=fb 1
  have fb2:=fb 2
  have fb3:=fb 3
  simp only[List.getElem?_toArray,List.getElem?_cons_zero,List.getElem?_cons_succ]at fb0 fb1 fb2 fb3
  have fz:=q9 hFo
  have HG:=q7 hg
  have HCg:=q7 hCg
  have HH:=q7 hH
  have HSo:=q7 hS
  have HLo:=q7 hL
  have HKo:=q7 hK
  have HSw:=q7 hSw
  have HGl:=q7 hgl
  clear hg hCg hH hS hL hK hSw hFo hgl fb
  by_cases hbl:b<f.blocks.length
  rotate_left
  ·obtain rfl:b=f.blocks.length:=by omega
   have hgT:g=qW f:=HG.out
   have hZo:wo.heap[w.heap.size+1]?=some (.cells #[.string { data:=#[] },.int .i64 0,.int .i64 0,.slice none 0 0] 37 (0,0)):=(HKo.out.block _ (by omega) (fun h=>by have:=HSw.out _ h;omega)).trans HZ1.out
   obtain⟨zb,zf⟩:=blk hZo
   have zb0:=zb 0
   have zb1:=zb 1
   have zb2:=zb 2
   have zb3:=zb 3
   simp only[List.getElem?_toArray,List.getElem?_cons_zero,List.getElem?_cons_succ]at zb0 zb1 zb2 zb3
   have zz:=q9 hZo
   have hne1:¬ (w.heap.size+1=w.heap.size):=by omega
   have hne2:¬ (w.heap.size=w.heap.size+1):=by omega
   have HZo:=q7 hZo
   have HGT:=q7 hgT
   clear hZo zb hgT
   go_wp2_with fail
   obtain⟨WF,hWF⟩:∃WF,WF=(((wo.setCell ⟨w.heap.size+1,0,none⟩ (.string f.name)).setCell ⟨w.heap.size+1,1,none⟩ (.int .i64 f.params)).setCell ⟨w.heap.size+1,2,none⟩ (.int .i64 f.regs)).setCell ⟨w.heap.size+1,3,none⟩ (.slice (some ⟨gq,0,none⟩) f.blocks.length e1):=⟨_,rfl⟩
   rw[←hWF]
   have hKf:Kept (fun i=>i=w.heap.size+1) wo WF:=by
    rw[hWF]
    have h0:Kept (fun i=>i=w.heap.size+1) wo wo:=Kept.refl _ wo
    have h2:=h0.setCell (p:=⟨w.heap.size+1,0,none⟩) rfl (.string f.name)
    have h3:=h2.setCell (p:=⟨w.heap.size+1,1,none⟩) rfl (.int .i64 f.params)
    have h4:=h3.setCell (p:=⟨w.heap.size+1,2,none⟩) rfl (.int .i64 f.regs)
    exact h4.setCell (p:=⟨w.heap.size+1,3,none⟩) rfl (.slice (some ⟨gq,0,none⟩) f.blocks.length e1)
   have hRF:WF.heap[w.heap.size+1]?=some (.cells #[.string f.name,.int .i64 f.params,.int .i64 f.regs,.slice (some ⟨gq,0,none⟩) f.blocks.length e1] 37 (0,0)):=by
    rw[hWF,qg (qg (qg (qg HZo.out 0 _) 1 _) 2 _) 3 _]
    rfl
   clear hWF
   obtain⟨rb,_⟩:=blk hRF
   have rb0:=rb 0
   have rb1:=rb 1
   have rb2:=rb 2
   have rb3:=rb 3
   simp only[List.getElem?_toArray,List.getElem?_cons_zero,List.getElem?_cons_succ]at rb0 rb1 rb2 rb3
   have hsl:=HSo.out.to
   have hbd:∀k,(N k∨∃i,i<g.blocks.length∧L i k)→S k∨W1.heap.size≤k:=fun k hk=>by
    rcases hk with h|⟨i,hi,h⟩
    ·exact .inl (HNS.out k h)
    exact HLo.out i (by have:=HGl.out;omega) k h
   have hgl:=HGl.out
   obtain⟨hh1,hh2,hh3,_⟩:=HH.out
   have hfin:FunO WF [.string f.name,.int .i64 f.params,.int .i64 f.regs,.slice (some ⟨gq,0,none⟩) f.blocks.length e1] (qW f) (fun k=>N k∨∃i,i<g.blocks.length∧L i k):=by
    rw[←HGT.out]
    refine⟨_,by rw[hh1,hh2,hh3],by rw[hh1];exact HN.out.1,by rw[hh2];exact HN.out.2.1,by rw[hh3];exact HN.out.2.2,⟨?_,by rw[hgl];exact HBd.out⟩⟩
    have h1:=hsl.kept qE hKf (fun k h1 h2=>by
     rcases hbd k h2 with h|h
     ·have:=HSw.out k h;omega
     omega)
    rw[hgl]at h1 ⊢
    exact h1
   refine bodyPost_ret (v:=.agg #[.string f.name,.int .i64 f.params,.int .i64 f.regs,.slice (some ⟨gq,0,none⟩) f.blocks.length e1]) ?_ rfl ⟨_,_,_,rfl,hfin,fun k hk=>?_,?_⟩
   ·simp[results,Tryz.results63,go_sem,rb0,rb1,rb2,rb3]
   ·rcases hbd k hk with h|h
    ·exact .inl h
    right;omega
   exact((Kept.of_below HB1.out).trans HKo.out (fun k _ h=>h)).trans hKf (fun k h1 h2=>by omega)
  go_wp2_with fail
  clear fb0 fb1 fb2 fb3 ff fz
  go_loopg [] (vX g) (fun q wr=>∃(g':FunL) (V:Nat→Value) (L:Nat→Blks) (c:Nat),q=vX g'∧vX g'<c∧qR c g' b=qR (f.blocks.length+1) g b∧FunC nf P g'∧HeadLike g' f∧ChS wr gq e1 g'.blocks V N L∧(∀i,i<f.blocks.length→∀k,L i k→S k∨W1.heap.size≤k)∧Kept S W1 wr)
  case atStart=>exact⟨g,V,L,f.blocks.length+1,rfl,by have:=Vj g;have:=HGl.out;omega,rfl,HCg.out,HH.out,HSo.out,HLo.out,HKo.out⟩
  case round=>
   clear HSo HLo HKo hsz
   obtain⟨g1,V,L,c,rfl,hjc,hch,hCg,hH,hS,hL,hK⟩:=hrel
   obtain⟨wi,hwi⟩:∃wi,wi=wr:=⟨_,rfl⟩
   subst hwi
   have hgl:=hH.2.2.2
   have hb1:b<g1.blocks.length:=by omega
   have hsz:=hK.size
   have hFi:wi.heap[w.heap.size]?=some (.cells #[.string f.name,.int .i64 f.params,.int .i64 f.regs,.slice (some ⟨gq,0,none⟩) f.blocks.length e1] 37 (0,0)):=(hK.block _ (by omega) (fun h=>by have:=HSw.out _ h;omega)).trans HF1.out
   obtain⟨fb,ff⟩:=blk hFi
   have fb0:=fb 0
   have fb1:=fb 1
   have fb2:=fb 2
   have fb3:=fb 3
   simp only[List.getElem?_toArray,List.getElem?_cons_zero,List.getElem?_cons_succ]at fb0 fb1 fb2 fb3
   have fz:=q9 hFi
   obtain⟨q1,d1,p2,d2,q3,d3,hVb,hcb,hgN,hgz,hgf,hTo⟩:=hS.at hb1
   have b0:=hcb 0 (by omega)
   have b1:=hcb 1 (by omega)
   have b2:=hcb 2 (by omega)
   have b3:=hcb 3 (by omega)
   have b4:=hcb 4 (by omega)
   have b5:=hcb 5 (by omega)
   simp only[List.getElem?_cons_zero,List.getElem?_cons_succ,Nat.add_zero]at b0 b1 b2 b3 b4 b5
   have hEb:=hCg.fin b hb1
   obtain⟨x,hxe⟩:∃x,x=g1.blocks[b]:=⟨_,rfl⟩
   rw[←hxe]at b0 b1 b2 b3 b4 b5 hTo hEb hVb
   have HXe:=q7 hxe
   have HJc:=q7 hjc
   have hfQ:=q7 hch
   have hbQ:=q7 hCg
   have HH1:=q7 hH
   have HS1:=q7 hS
   have HL1:=q7 hL
   have HK1:=q7 hK
   have HFi:=q7 hFi
   have HTo:=q7 hTo
   have HEb:=q7 hEb
   have HVb:=q7 hVb
   have hfR:=q7 hgl
   have HGf:=q7 hgf
   have HGN:=q7 hgN
   clear hxe hjc hch hCg hH hS hL hK hFi hTo hEb hVb hgl hgN fb hcb
   by_cases hkd:x.fin.kind=2
   rotate_left
   ·have hkb:(x.fin.kind == (2:Int))=false:=by simpa using hkd
    have hmn:jL g1 b=none:=by
     cases h:jL g1 b with
     | none=>rfl
     | some t=>exact absurd (by have:=XQ h;rwa [qG hb1,←HXe.out]at this) hkd
    have hfin:qR (f.blocks.length+1) g b=g1:=by rw[←hfQ.out,jF hmn]
    have HFin:=q7 hfin
    clear hfin hmn
    go_wp2_with fail
    go_roundg (f.blocks.length - (b+1))
    case measure=>omega
    case rel=>exact⟨b+1,g1,V,L,by omega,rfl,by go_num,by rw[List.range_succ,List.foldl_append,←HG.out];exact HFin.out.symm,hbQ.out,HH1.out,HS1.out,HL1.out,HK1.out⟩
   have hkb:(x.fin.kind == (2:Int))=true:=by simpa using hkd
   have hl1:x.fin.to.length=1:=by have:=HEb.out.len;omega
   obtain⟨b3t,o3t,cs3,hp3,hrj,hc3,hr3⟩:=HTo.out.get (i:=0) (by omega)
   clear hrj
   obtain⟨hjy,hdM⟩:=hr3
   clear hdM
   subst hjy
   have htb:=HEb.out.to _ (List.getElem_mem (show 0<x.fin.to.length by omega))
   obtain⟨t,ht⟩:∃t:Nat,x.fin.to[0]=(t:Int):=⟨x.fin.to[0].toNat,by omega⟩
   rw[ht]at htb hc3
   have htl:t<g1.blocks.length:=by omega
   have hto:x.fin.to=[(t:Int)]:=by
    rcases e:x.fin.to with _|⟨y,_|⟨z,l⟩⟩
    ·simp[e]at hl1
    ·simp only[e,List.getElem_cons_zero]at ht
     rw[ht]
    simp[e]at hl1
   have c3:=hc3 0 (by omega)
   simp only[List.getElem?_cons_zero,Nat.add_zero,Nat.zero_mul]at c3
   have htS:=q8 c3
   obtain⟨u1,du1,u2,du2,u3,du3,hVt,hct,_,_,_,hjE⟩:=HS1.out.at htl
   obtain⟨y,hye⟩:∃y,y=g1.blocks[t]:=⟨_,rfl⟩
   rw[←hye]at hct hVt hjE
   have t0:=hct 0 (by omega)
   have t1:=hct 1 (by omega)
   have t2:=hct 2 (by omega)
   have t3:=hct 3 (by omega)
   have t4:=hct 4 (by omega)
   have t5:=hct 5 (by omega)
   simp only[List.getElem?_cons_zero,List.getElem?_cons_succ,Nat.add_zero]at t0 t1 t2 t3 t4 t5
   have hn8:jL g1 b=if t=b∨0<y.phis.length∨1<(insN g1 t).length then none else some t:=by
    have h1:((atF g1 b).fin.to.getD 0 0).toNat=t:=by rw[qG hb1,←HXe.out,hto];simp
    unfold jL
    dsimp only
    rw[h1,qG hb1,←HXe.out,qG htl,←hye]
    by_cases h:t=b∨0<y.phis.length∨1<(insN g1 t).length
    ·rw[if_neg (fun a=>a.2 h),if_pos h]
    rw[if_pos ⟨hkd,h⟩,if_neg h]
   have HTl:=q7 hto
   have hT5:=q7 t5
   have HL9:=q7 hl1
   have h0t:0<x.fin.to.length:=by omega
   have htf:t<f.blocks.length:=by have:=hfR.out;omega
   have HYe:=q7 hye
   have HVt:=q7 hVt
   have htT:=q7 hjE
   have hhl:=q7 hn8
   have hrk:gq<wi.heap.size:=hgz
   subst hp3
   clear ht hto hye hVt hjE hn8 hct hc3 hl1
   by_cases hc1:t=b
   ·have hq1:((t:Int) == (b:Int))=true:=by simp[hc1]
    have hmn:jL g1 b=none:=by rw[hhl.out,if_pos (.inl hc1)]
    clear hc1
    have hfin:qR (f.blocks.length+1) g b=g1:=by rw[←hfQ.out,jF hmn]
    have HFin:=q7 hfin
    clear hfin hmn
    go_wp2_with fail
    go_roundg (f.blocks.length - (b+1))
    case measure=>omega
    case rel=>exact⟨b+1,g1,V,L,by omega,rfl,by go_num,by rw[List.range_succ,List.foldl_append,←HG.out];exact HFin.out.symm,hbQ.out,HH1.out,(HS1.out.below bZ),HL1.out,(HK1.out.trans (Kept.of_below (S:=fun _=>False) bZ) (fun _ _ h=>h.elim))⟩
   have hq1:((t:Int) == (b:Int))=false:=by simp;omega
   by_cases hc2:0<y.phis.length
   ·have hmn:jL g1 b=none:=by rw[hhl.out,if_pos (.inr (.inl hc2))]
    have hfin:qR (f.blocks.length+1) g b=g1:=by rw[←hfQ.out,jF hmn]
    have HFin:=q7 hfin
    clear hfin hmn
    go_wp2_with fail
    go_roundg (f.blocks.length - (b+1))
    case measure=>omega
    case rel=>exact⟨b+1,g1,V,L,by omega,rfl,by go_num,by rw[List.range_succ,List.foldl_append,←HG.out];exact HFin.out.symm,hbQ.out,HH1.out,(HS1.out.below bZ),HL1.out,(HK1.out.trans (Kept.of_below (S:=fun _=>False) bZ) (fun _ _ h=>h.elim))⟩
   have hc2':y.phis.length=0:=by omega
   have hAt:=fun(W':World) (hb:Below wi.heap.size wi W')=>show ∀i,i<g1.blocks.length→Jn W' gq 0 i ((kL g1).getD i [])from fun i hi=>by
    obtain⟨cs,T,hW⟩:=HS1.out.row
    exact blkAtN hW hb i hi
   have HAt:=q7 hAt
   clear hAt
   have hhd:=HH1.out
   obtain⟨hh1,hh2,hh3,hh4⟩:=hhd
   have htU:decide ((0:Int)<(y.phis.length:Int))=false:=by simp[hc2']
   have HC2:=q7 hc2'
   go_wp2_with fail
   have hjF:Below wi.heap.size wi (wi.alloc (.cells #[.slice u1 0 du1,.slice u2 y.list.length du2,.int .i64 y.fin.kind,.bool y.fin.onr,.int .i64 y.fin.onn,.slice u3 y.fin.to.length du3] 48)):=by exact bZ
   refine(xK f.name f.params f.regs gq 0 e1 f.blocks.length (kL g1) _ haA (fun i hi=>HAt.out _ hjF i (by have:=hfR.out;omega)) (fun i hi=>by
    have h1:=hbQ.out.funD.toFunS.tosD i (by have:=hfR.out;omega)
    refine⟨h1.1,fun t ht=>?_⟩
    have h2:=h1.2 t ht
    have:=hfR.out
    omega)).mono ?_
   rintro e w5 ⟨⟨tf,rfl,ham⟩,hb5⟩
   have hbT:=ham
   rw[←hfR.out]at hbT
   have hAi:=AheadIn.of hbT
   obtain⟨T1,hT1⟩:∃T1,T1=(wi.alloc (.cells #[.slice u1 0 du1,.slice u2 y.list.length du2,.int .i64 y.fin.kind,.bool y.fin.onr,.int .i64 y.fin.onn,.slice u3 y.fin.to.length du3] 48)).heap.size+1:=⟨_,rfl⟩
   rw[←hT1]at hAi ⊢
   have hjG:Below wi.heap.size wi w5:=hjF.trans (hb5.mono (by simp))
   obtain⟨⟨_,hlT⟩,hAr⟩:=hAi
   obtain⟨qa,qc,ha0,_⟩:=hAr t htl
   have hY5:w5.heap[wi.heap.size]?=some (.cells #[.slice u1 0 du1,.slice u2 y.list.length du2,.int .i64 y.fin.kind,.bool y.fin.onr,.int .i64 y.fin.onn,.slice u3 y.fin.to.length du3] 48 (0,0)):=qd hb5 (by simp) (qh rfl)
   have hz5:=hjG.size
   have htV:wi.heap.size<w5.heap.size:=q9 hY5
   have HB5:=q7 hjG
   have HY5:=q7 hY5
   clear ham hbT hAr hb5 hjF hT1 hjG hY5
   by_cases hc3:1<(insN g1 t).length
   ·have hmn:jL g1 b=none:=by rw[hhl.out,if_pos (.inr (.inr hc3))]
    have hfin:qR (f.blocks.length+1) g b=g1:=by rw[←hfQ.out,jF hmn]
    have HFin:=q7 hfin
    clear hfin hmn
    go_wp2_with fail
    go_roundg (f.blocks.length - (b+1))
    case measure=>omega
    case rel=>exact⟨b+1,g1,V,L,by omega,rfl,by go_num,by rw[List.range_succ,List.foldl_append,←HG.out];exact HFin.out.symm,hbQ.out,HH1.out,(HS1.out.below HB5.out),HL1.out,(HK1.out.trans (Kept.of_below (S:=fun _=>False) HB5.out) (fun _ _ h=>h.elim))⟩
   have hms:jL g1 b=some t:=by rw[hhl.out,if_neg (by have:=HC2.out;omega)]
   have m:=mayJ hbQ.out hb1 hms
   have M:=q7 m
   have HMs:=q7 hms
   clear m hms
   have hg5:w5.heap[gq]?=wi.heap[gq]?:=HB5.out.block gq hrk
   have b1':w5.cell? ⟨gq,b*6+1,none⟩=some (.slice p2 x.list.length d2):=(World.cell?_of_block (a:=⟨gq,b*6+1,none⟩) hg5).trans b1
   have b1f:w5.frozen? ⟨gq,b*6+1,none⟩=false:=(World.frozen?_of_block (a:=⟨gq,b*6+1,none⟩) hg5).trans (HGf.out _)
   have hF5:w5.heap[w.heap.size]?=some (.cells #[.string f.name,.int .i64 f.params,.int .i64 f.regs,.slice (some ⟨gq,0,none⟩) f.blocks.length e1] 37 (0,0)):=(HB5.out.block _ (by omega)).trans HFi.out
   clear fb0 fb1 fb2 fb3 ff fz
   obtain⟨fb,ff⟩:=blk hF5
   have fb3:=fb 3
   simp only[List.getElem?_toArray,List.getElem?_cons_zero,List.getElem?_cons_succ]at fb3
   have fz:=q9 hF5
   clear fb
   have HF5:=q7 hF5
   have HG5:=q7 hg5
   have hS5:=HS1.out.below HB5.out
   have HS5:=q7 hS5
   have hlists:x.list.length+y.list.length≤600:=by
    have h1:=kx (f:=g1) hb1
    have h2:=kx (f:=g1) htl
    have h3:=hbQ.out.many
    rw[←HXe.out]at h1
    rw[←HYe.out]at h2
    omega
   clear hF5 hg5 hS5
   go_wp2_with fail
   obtain⟨Sp,hSp⟩:∃Sp:World→Prop,Sp=fun w'=>w'.heap[gq]?=w5.heap[gq]?∧w'.heap[wi.heap.size]?=some (.cells #[.slice u1 0 du1,.slice u2 y.list.length du2,.int .i64 y.fin.kind,.bool y.fin.onr,.int .i64 y.fin.onn,.slice u3 y.fin.to.length du3] 48 (0,0)):=⟨_,rfl⟩
   have ha6:∀w',Sp w'→w'.cell? ⟨gq,b*6+1,none⟩=some (.slice p2 x.list.length d2)∧w'.cell? ⟨wi.heap.size,1,none⟩=some (.slice u2 y.list.length du2)∧wi.heap.size<w'.heap.size∧w'.frozen? ⟨gq,b*6+1,none⟩=false:=fun w' h=>by
    rw[hSp]at h
    exact⟨(World.cell?_of_block (a:=⟨gq,b*6+1,none⟩) h.1).trans b1',(blk h.2).1 1,q9 h.2,(World.frozen?_of_block (a:=⟨gq,b*6+1,none⟩) h.1).trans b1f⟩
   have hS6:Sp w5.drew:=by rw[hSp];exact⟨rfl,HY5.out⟩
   have hne:t≠b:=hc1
   refine qm (S:=Sp) (by kernel_rfl) 10 ?_
   refine tkZ 0 54 (.pointer (some ⟨gq,b*6,none⟩)) rfl rfl hS6 (fun w' h=>?_) ?_
   ·obtain⟨h1,h2,h3,h4⟩:=ha6 w' h
    go_simp
   refine tkZ 1 55 (.pointer (some ⟨gq,b*6,none⟩)) rfl rfl hS6 (fun w' h=>?_) ?_
   ·obtain⟨h1,h2,h3,h4⟩:=ha6 w' h
    go_simp
   refine tkZ 2 56 (.pointer (some ⟨gq,b*6,none⟩)) rfl rfl hS6 (fun w' h=>?_) ?_
   ·obtain⟨h1,h2,h3,h4⟩:=ha6 w' h
    go_simp
   refine tkZ 3 57 (.pointer (some ⟨gq,b*6+1,none⟩)) rfl rfl hS6 (fun w' h=>?_) ?_
   ·obtain⟨h1,h2,h3,h4⟩:=ha6 w' h
    go_simp
   refine tkZ 4 58 (.slice p2 x.list.length d2) rfl rfl hS6 (fun w' h=>?_) ?_
   ·obtain⟨h1,h2,h3,h4⟩:=ha6 w' h
    go_simp
   refine tkZ 5 59 (.pointer (some ⟨wi.heap.size,1,none⟩)) rfl rfl hS6 (fun w' h=>?_) ?_
   ·obtain⟨h1,h2,h3,h4⟩:=ha6 w' h
    go_simp
   refine tkZ 6 60 (.slice u2 y.list.length du2) rfl rfl hS6 (fun w' h=>?_) ?_
   ·obtain⟨h1,h2,h3,h4⟩:=ha6 w' h
    go_simp
   have hLb:=HS5.out.lst b hb1
   have hLt:=HS5.out.lst t htl
   rw[←HXe.out,HVb.out]at hLb
   rw[←HYe.out,HVt.out]at hLt
   obtain⟨v',w8,hr,hJ⟩:=Qv (P:=Tryz.prog) w5.drew 41 41 53 iI _ 8 80 Tryz.underlying41 l1 l2 l3 l4 rfl (by decide) qH (hLb.sl.below qH ((Below.refl _ w5).drew)) (hLt.sl.below qH ((Below.refl _ w5).drew)) (HS5.out.two b t hb1 htl (Ne.symm hne)) (by unfold maxLen;omega) (by omega)
   obtain⟨Lb,hJ1,hJ2,hJ3⟩:=hJ
   obtain⟨pv,cv,hv',_⟩:=hJ1.val
   have hS8:Sp w8:=by
    rw[hSp]at hS6 ⊢
    exact⟨(hJ3.block _ (by show gq<w5.heap.size;omega) (fun h=>HS5.out.off b hb1 _ HGN.out h)).trans hS6.1,(hJ3.block _ (by show wi.heap.size<w5.heap.size;omega) (fun h=>by have:=(HS1.out.lst b hb1).sl.inb _ h;omega)).trans hS6.2⟩
   refine qk (i:=7) (by kernel_rfl) (qn 61 v' w8 rfl rfl rfl (Qt rfl (by go_simp) (by go_simp) hr) hS8 ?_)
   refine qk (i:=8) (by kernel_rfl) (qn 62 (.pointer (some ⟨gq,b*6,none⟩)) w8 rfl rfl rfl (by go_simp) hS8 ?_)
   refine qk (i:=9) (by kernel_rfl) (qn 63 (.pointer (some ⟨gq,b*6+1,none⟩)) w8 rfl rfl rfl (by go_simp) hS8 ?_)
   obtain⟨s1,s2,s3,s4⟩:=ha6 w8 hS8
   have hz8:w5.heap.size≤w8.heap.size:=hJ3.size
   have hg8:gq<w8.heap.size:=by omega
   subst hv'
   refine qk (i:=10) (by kernel_rfl) (qz (w8.setCell ⟨gq,b*6+1,none⟩ (.slice pv (x.list++y.list).length cv)) rfl rfl rfl (by go_simp) (fun h=>absurd rfl h) (qB (by kernel_rfl) ?_ _))
   show Exit.inBlock 3 _ Exit.normal _ _
   have hNw:∀k,N k→k<w.heap.size:=fun k hk=>HSw.out k (HNS.out k hk)
   have hjH:∀k,Lb k→L b k∨L t k∨w5.heap.size≤k:=hJ2
   have hn9:∀i,i<g1.blocks.length→∀k,L i k→k<w5.heap.size:=fun i hi k hk=>(HS5.out.lst i hi).sl.inb k hk
   have hoff:∀i,i<g1.blocks.length→Apart N (L i):=HS5.out.off
   have hnh:Apart N Lb:=fun k h1 h2=>by
    rcases hjH k h2 with h|h|h
    ·exact hoff b hb1 k h1 h
    ·exact hoff t htl k h1 h
    have:=hNw k h1;omega
   have hdV:SlO 48 6 JG w8 (.slice (some ⟨gq,0,none⟩) g1.blocks.length e1) (jI V g1.blocks) N:=(HS5.out.row.below jp ((Below.refl _ w5).drew)).kept jp hJ3 (fun k h1 h2=>hoff b hb1 k h2 h1)
   have hdW:=rowN_swap hdV hb1 (p:=pv) (l:=(x.list++y.list).length) (k:=cv)
   have hnj:w8.heap[gq]?=w5.heap[gq]?:=by rw[hSp]at hS8;exact hS8.1
   have hY8:w8.heap[wi.heap.size]?=some (.cells #[.slice u1 0 du1,.slice u2 y.list.length du2,.int .i64 y.fin.kind,.bool y.fin.onr,.int .i64 y.fin.onn,.slice u3 y.fin.to.length du3] 48 (0,0)):=by rw[hSp]at hS8;exact hS8.2
   have hF8:w8.heap[w.heap.size]?=some (.cells #[.string f.name,.int .i64 f.params,.int .i64 f.regs,.slice (some ⟨gq,0,none⟩) f.blocks.length e1] 37 (0,0)):=(hJ3.block _ (by show w.heap.size<w5.heap.size;omega) (fun h=>by
    rcases HL1.out b hbl _ h with h|h
    ·have:=HSw.out _ h;omega
    omega)).trans HF5.out
   obtain⟨W9,hW9⟩:∃W9,W9=w8.setCell ⟨gq,b*6+1,none⟩ (.slice pv (x.list++y.list).length cv):=⟨_,rfl⟩
   rw[←hW9]at hdW ⊢
   have hjI:∀k,k≠gq→W9.heap[k]?=w8.heap[k]?:=fun k hk=>by rw[hW9];exact Go.Deep.blk_setCell_other _ _ _ k hk
   have hz9:W9.heap.size=w8.heap.size:=by rw[hW9];exact Go.Deep.nblk_setCell _ _ _
   have hgw:gq<w.heap.size:=hNw gq HGN.out
   obtain⟨cur8,hfS⟩:∃cur,w8.heap[gq]?=some (.cells cur 48 (0,0)):=by
    obtain⟨g',_,_,_,hgv,_,_,_,_,_,_,_,_,hcc,_⟩:=hdV.focus jp (by omega) (i:=b) (by rw[zW];exact hb1)
    have hgg:g'=gq:=by
     injection hgv with a _ _
     injection a with a
     injection a with a
     exact a.symm
    rw[hgg]at hcc
    exact hcc
   have hP9:RowPut w8 W9 48 gq (b*6+1) 1 [.slice pv (x.list++y.list).length cv]:=by
    rw[hW9]
    exact RowPut.set (size:=1) (RowPut.same (size:=1) (cs:=[.slice p2 x.list.length d2]) hfS rfl (fun j hj=>by
     obtain rfl:j=0:=by omega
     exact s1)) rfl (j:=0) (by omega) _
   have hc9:∀j,j≠b*6+1→W9.cell? ⟨gq,j,none⟩=wi.cell? ⟨gq,j,none⟩:=fun j hj=>(hP9.outC (by omega)).trans ((World.cell?_of_block (a:=⟨gq,j,none⟩) hnj).trans (World.cell?_of_block (a:=⟨gq,j,none⟩) HG5.out))
   have hc91:W9.cell? ⟨gq,b*6+1,none⟩=some (.slice pv (x.list++y.list).length cv):=(hP9.cell (j:=0) (show 0<1 by omega)).1
   have hcT:∃cur,W9.heap[gq]?=some (.cells cur 48 (0,0)):=by
    obtain⟨_,c',_,h2,_⟩:=hP9
    exact⟨c',h2⟩
   obtain⟨hh1,hh2,hh3,hh4⟩:=HH1.out
   have hF9:W9.heap[w.heap.size]?=some (.cells #[.string g1.name,.int .i64 g1.params,.int .i64 g1.regs,.slice (some ⟨gq,0,none⟩) g1.blocks.length e1] 37 (0,0)):=by
    rw[hh1,hh2,hh3,hh4]
    exact(hjI _ (by omega)).trans hF8
   have haW:∀s:Nat,(s:Int)∈(atF g1 t).fin.to→s<g1.blocks.length:=fun s hs=>by
    rw[qG htl]at hs
    have:=(hbQ.out.fin t htl).to _ hs
    omega
   have hcon:=Ki g1 hbQ.out.funD t b w.heap.size gq e1 (vJ V b (.slice pv (x.list++y.list).length cv)) W9 N htl hb1 (fun s hs p hp=>by
    have hsl:=haW s hs
    rw[qG hsl]at hp
    exact(hbQ.out.phi s hsl p hp).len) (fun h=>by
    have h1:=ins_of (f:=g1) t t htl (by rw[zk htl,←qG htl];exact h)
    rw[M.out.one]at h1
    exact hne (by simpa using h1)) hF9 (fun h=>by have:=hNw _ h;omega) hdW
   have he8:=q7 hcon
   have HJ1:=q7 hJ1
   have HJ3:=q7 hJ3
   have hnv:=q7 hjH
   have hru:=q7 hn9
   have hnA:=q7 hnh
   have HNw:=q7 hNw
   have hnB:=q7 hjI
   have HW9:=q7 hW9
   have HY8:=q7 hY8
   have HC9:=q7 hc9
   have hry:=q7 hc91
   have hjJ:=q7 hcT
   have HF8:=q7 hF8
   clear hcon hJ1 hJ2 hJ3 hjH hn9 hnh hNw hjI hW9 hY8 hc9 hc91 hcT hF8 hdV hdW hnj hP9 hfS hF9 haW hoff hh1 hh2 hh3 hh4 hS8 hS6 s1 s2 s3 s4 b0 b1 b2 b3 b4 b5 t0 t1 t2 t3 t4 t5 c3 ha0 b1' b1f fb3 ff
   go_wp2_with fail
   refine he8.out.mono ?_
   rintro e w10 ⟨rfl,hdq,haD⟩
   have haL:w10.heap[gq]?=W9.heap[gq]?:=haD.block gq (by omega) (fun h=>h.2 rfl)
   have hj7:=haD.size
   have hjK:w10.heap[wi.heap.size]?=some (.cells #[.slice u1 0 du1,.slice u2 y.list.length du2,.int .i64 y.fin.kind,.bool y.fin.onr,.int .i64 y.fin.onn,.slice u3 y.fin.to.length du3] 48 (0,0)):=(haD.block _ (by omega) (fun h=>by have:=HNw.out _ h.1;omega)).trans ((hnB.out _ (by omega)).trans HY8.out)
   have hjL:w10.heap[w.heap.size]?=some (.cells #[.string f.name,.int .i64 f.params,.int .i64 f.regs,.slice (some ⟨gq,0,none⟩) f.blocks.length e1] 37 (0,0)):=(haD.block _ (by omega) (fun h=>by have:=HNw.out _ h.1;omega)).trans ((hnB.out _ (by omega)).trans HF8.out)
   obtain⟨q1',d1',p2',d2',q3',d3',hrA,hcb,_,_,_,_⟩:=HS1.out.at hb1
   obtain⟨u1',du1',u2',du2',u3',du3',_,hct,_,_,_,_⟩:=HS1.out.at htl
   rw[←HXe.out]at hcb
   rw[←HYe.out]at hct
   have hbA:∀j,j≠b*6+1→w10.cell? ⟨gq,j,none⟩=wi.cell? ⟨gq,j,none⟩:=fun j hj=>(World.cell?_of_block (a:=⟨gq,j,none⟩) haL).trans (HC9.out j hj)
   have hbt:t*6+6≤b*6∨b*6+6≤t*6:=by omega
   have a0:=(hbA (b*6) (by omega)).trans (hcb 0 (by omega))
   have a2:=(hbA (b*6+2) (by omega)).trans (hcb 2 (by omega))
   have a3:=(hbA (b*6+2+1) (by omega)).trans (hcb 3 (by omega))
   have a4:=(hbA (b*6+2+2) (by omega)).trans (hcb 4 (by omega))
   have a5:=(hbA (b*6+2+3) (by omega)).trans (hcb 5 (by omega))
   have e0:=(hbA (t*6) (by omega)).trans (hct 0 (by omega))
   have e2:=(hbA (t*6+1) (by omega)).trans (hct 1 (by omega))
   have e3:=(hbA (t*6+2) (by omega)).trans (hct 2 (by omega))
   have e4:=(hbA (t*6+3) (by omega)).trans (hct 3 (by omega))
   have e5:=(hbA (t*6+4) (by omega)).trans (hct 4 (by omega))
   have e6:=(hbA (t*6+5) (by omega)).trans (hct 5 (by omega))
   simp only[List.getElem?_cons_zero,List.getElem?_cons_succ]at a0 a2 a3 a4 a5 e0 e2 e3 e4 e5 e6
   obtain⟨cur10,haU⟩:=hjJ.out
   rw[←haL]at haU
   have hrB:∀j,w10.frozen? ⟨gq,j,none⟩=false:=(blk haU).2
   have hrC:gq<w10.heap.size:=by omega
   obtain⟨ybb,ybf⟩:=blk hjK
   have y2:=ybb 2
   have y3:=ybb 3
   have y4:=ybb 4
   have y5:=ybb 5
   simp only[List.getElem?_toArray,List.getElem?_cons_zero,List.getElem?_cons_succ]at y2 y3 y4 y5
   have yz:=q9 hjK
   obtain⟨fbb,ff⟩:=blk hjL
   have fb3:=fbb 3
   simp only[List.getElem?_toArray,List.getElem?_cons_zero,List.getElem?_cons_succ]at fb3
   have fz10:=q9 hjL
   have hwg:¬ (wi.heap.size=gq):=by omega
   have hBg:¬ (w.heap.size=gq):=by omega
   have hu3:Value.slice u3' y.fin.to.length du3' = .slice u3 y.fin.to.length du3:=by
    have h1:=hT5.out
    rw[hct 5 (by omega)]at h1
    exact Option.some.inj h1
   have HU9:=q7 hu3
   have HA0:=q7 a0
   have HE6:=q7 e6
   have hrD:=q7 hdq
   have hrE:=q7 haD
   have hfT:=q7 haU
   have ha1:w10.cell? ⟨gq,b*6+1,none⟩=some (.slice pv (x.list++y.list).length cv):=(World.cell?_of_block (a:=⟨gq,b*6+1,none⟩) haL).trans hry.out
   have hrF:=q7 ha1
   have HAs:=q7 (And.intro a2 (And.intro a3 (And.intro a4 a5)))
   have HEs:=q7 (And.intro e0 (And.intro e2 (And.intro e3 (And.intro e4 e5))))
   clear hdq haD hcb hct hbA hjK hjL haU ybb fbb hu3 hrA haL ha1 a0
   obtain⟨Wa,hWa⟩:∃Wa,Wa=four w10 gq (b*6) (.int .i64 y.fin.kind) (.bool y.fin.onr) (.int .i64 y.fin.onn) (.slice u3 y.fin.to.length du3):=⟨_,rfl⟩
   obtain⟨Wf,hWf⟩:∃Wf,Wf=six Wa gq (t*6) (.slice none 0 0) (.slice none 0 0) (.int .i64 1) (.bool false) (.int .i64 0) (.slice none 0 0):=⟨_,rfl⟩
   have HWf:=q7 (show Wf=six (four w10 gq (b*6) (.int .i64 y.fin.kind) (.bool y.fin.onr) (.int .i64 y.fin.onn) (.slice u3 y.fin.to.length du3)) gq (t*6) (.slice none 0 0) (.slice none 0 0) (.int .i64 1) (.bool false) (.int .i64 0) (.slice none 0 0) by rw[hWf,hWa])
   have HWa:=q7 hWa
   have hnC:=q7 hWf
   clear hWa hWf
   go_wp2_with fail
   unfold six four at HWf
   rw[←HWf.out]
   clear HWf
   obtain⟨a2,a3,a4,a5⟩:=HAs.out
   obtain⟨e0,e2,e3,e4,e5⟩:=HEs.out
   have p1:RowPut w10 Wa 48 gq (b*6) 6 [.slice q1' x.phis.length d1',.slice pv (x.list++y.list).length cv,.int .i64 y.fin.kind,.bool y.fin.onr,.int .i64 y.fin.onn,.slice u3 y.fin.to.length du3]:=by
    rw[HWa.out]
    refine(RowPut.same (cs:=[.slice q1' x.phis.length d1',.slice pv (x.list++y.list).length cv,.int .i64 x.fin.kind,.bool x.fin.onr,.int .i64 x.fin.onn,.slice q3' x.fin.to.length d3']) hfT.out rfl (fun j hj=>?_)).four _ _ _ _
    have:j=0∨j=1∨j=2∨j=3∨j=4∨j=5:=by omega
    rcases this with rfl|rfl|rfl|rfl|rfl|rfl
    ·exact HA0.out
    ·exact hrF.out
    ·exact a2
    ·exact a3
    ·exact a4
    exact a5
   have hKa:Kept (fun k=>k=gq) w10 Wa:=by rw[HWa.out];exact four_kept _ _ _ _ _ _ _
   obtain⟨cura,hjM⟩:∃cur,Wa.heap[gq]?=some (.cells cur 48 (0,0)):=by
    obtain⟨_,c',_,h2,_⟩:=p1
    exact⟨c',h2⟩
   have p2:RowPut Wa Wf 48 gq (t*6) 6 [.slice none 0 0,.slice none 0 0,.int .i64 1,.bool false,.int .i64 0,.slice none 0 0]:=by
    rw[hnC.out]
    refine(RowPut.same (cs:=[.slice u1' y.phis.length du1',.slice u2' y.list.length du2',.int .i64 y.fin.kind,.bool y.fin.onr,.int .i64 y.fin.onn,.slice u3' y.fin.to.length du3']) hjM rfl (fun j hj=>?_)).six rfl _ _ _ _ _ _
    rw[p1.outC (by omega)]
    have:j=0∨j=1∨j=2∨j=3∨j=4∨j=5:=by omega
    rcases this with rfl|rfl|rfl|rfl|rfl|rfl
    ·exact e0
    ·exact e2
    ·exact e3
    ·exact e4
    ·exact e5
    exact HE6.out
   have hKf:Kept (fun k=>k=gq) w10 Wf:=by
    refine hKa.trans (S':=fun k=>k=gq) ?_ (fun _ _ h=>h)
    rw[hnC.out]
    exact V5 _ _ _ _ _ _ _ _ _
   have hgN:N gq:=HGN.out
   have hK9:Kept (fun k=>k=gq) w8 W9:=by rw[HW9.out];exact(Kept.refl (fun k=>k=gq) w8).setCell (p:=⟨gq,b*6+1,none⟩) rfl _
   have hhp:Kept N w8 w10:=(hK9.mono fun _ _ e=>by rw[e];exact hgN).trans hrE.out (fun _ _ h=>h.1)
   have hnE:SlQ 53 8 80 InsO w10 (.slice pv (x.list++y.list).length cv) ((atF g1 b).list++(atF g1 t).list) Lb:=by
    rw[qG hb1,qG htl,←HXe.out,←HYe.out]
    refine⟨HJ1.out.kept qH hhp hnA.out,?_⟩
    rw[List.length_append]
    unfold reachBytes
    omega
   have hlo:∀i (hi:i<g1.blocks.length),i≠b→i≠t→SlQ 53 8 80 InsO w10 (V i) g1.blocks[i].list (L i)∧Apart (L i) Lb∧Apart N (L i):=fun i hi h1 h2=>by
    refine⟨⟨(((HS5.out.lst i hi).sl.below qH ((Below.refl _ w5).drew)).kept qH HJ3.out (fun k u v=>HS5.out.two b i hb1 hi (Ne.symm h1) k u v)).kept qH hhp (HS5.out.off i hi),(HS5.out.lst i hi).bd⟩,fun k u v=>?_,HS5.out.off i hi⟩
    rcases hnv.out k v with h|h|h
    ·exact HS5.out.two i b hi hb1 h1 k u h
    ·exact HS5.out.two i t hi htl h2 k u h
    have:=hru.out i hi k u;omega
   have hv3:w10.cell? ⟨gq,t*6+5,none⟩=some (.slice u3 y.fin.to.length du3):=by rw[HE6.out,HU9.out]
   have hfU:y.fin=(atF g1 t).fin:=by rw[qG htl,HYe.out]
   have hJn:=ChS.joined (g:=g1) (V:=V) (L:=L) hb1 htl hne hrD.out hnE hnA.out hlo HS5.out.two HA0.out hv3 (by rw[←hfU];exact p1) p2 hKf
   have hLn:∀i,i<f.blocks.length→∀k,l2J L b t Lb i k→S k∨W1.heap.size≤k:=fun i hi k hk=>by
    unfold l2J at hk
    by_cases h1:i=t
    ·rw[if_pos h1]at hk;exact hk.elim
    rw[if_neg h1]at hk
    by_cases h2:i=b
    ·rw[if_pos h2]at hk
     rcases hnv.out k hk with h|h|h
     ·exact HL1.out b hbl k h
     ·exact HL1.out t htf k h
     right;omega
    rw[if_neg h2]at hk
    exact HL1.out i hi k hk
   have hKn:Kept S W1 Wf:=by
    have h1:Kept S W1 w8:=(HK1.out.trans (Kept.of_below (S:=fun _=>False) HB5.out) (fun _ _ h=>h.elim)).drew.trans HJ3.out (fun k hk h=>(HL1.out b hbl k h).elim id (fun h=>by omega))
    exact(h1.trans hhp (fun k _ h=>HNS.out k h)).trans hKf (fun k _ e=>by rw[e];exact HNS.out gq hgN)
   have hjj:=Zg M.out (by rw[qG hb1,←HXe.out];exact hkd)
   have hcj:=HJc.out
   obtain⟨c',rfl⟩:∃c',c=c'+1:=⟨c - 1,by omega⟩
   have hnG:qR c' (x8 g1 b t) b=qR (f.blocks.length+1) g b:=by
    rw[←hfQ.out]
    show _=(match jL g1 b with|none=>g1|some t=>qR c' (x8 g1 b t) b)
    rw[HMs.out]
   have hjl:(x8 g1 b t).blocks.length=g1.blocks.length:=qK g1 b t
   have ha7:=q7 (And.intro hJn (And.intro hLn (And.intro hKn hnG)))
   clear hJn hLn hKn hnG p1 p2 hKa hKf hK9 hhp hnE hlo hv3 hfU a2 a3 a4 a5 e0 e2 e3 e4 e5
   go_roundg (vX (x8 g1 b t))
   case measure=>omega
   case rel=>exact⟨x8 g1 b t,_,_,c',rfl,by omega,ha7.out.2.2.2,hbQ.out.join M.out,HH1.out.join b t,ha7.out.1,ha7.out.2.1,ha7.out.2.2.1⟩


theorem JO (f:FunL):(qW f).name=f.name∧(qW f).params=f.params∧(qW f).regs=f.regs∧(qW f).blocks.length=f.blocks.length:=by
 have hc:∀(c:Nat) (f:FunL) (b:Nat),HeadLike (qR c f b) f:=by
  intro c
  induction c with
  | zero=>intro f b;exact⟨rfl,rfl,rfl,rfl⟩
  | succ c ih=>
   intro f b
   unfold qR
   cases jL f b with
   | none=>exact⟨rfl,rfl,rfl,rfl⟩
   | some t=>
    obtain⟨h1,h2,h3,h4⟩:=ih (x8 f b t) b
    exact⟨h1,h2,h3,by rw[h4,qK]⟩
 unfold qW
 have key:∀(l:List Nat) (g:FunL) (c:Nat),HeadLike g f→HeadLike (l.foldl (fun g b=>qR c g b) g) f:=by
  intro l
  induction l with
  | nil=>intro g c h;exact h
  | cons b l ih=>
   intro g c h
   obtain⟨a1,a2,a3,a4⟩:=hc c g b
   exact ih _ c ⟨a1.trans h.1,a2.trans h.2.1,a3.trans h.2.2.1,a4.trans h.2.2.2⟩
 exact key _ f _ ⟨rfl,rfl,rfl,rfl⟩

theorem doOf_any {nf:Nat} {P:Nat→Int} (f:FunL) (hC:FunC nf P f) (q:Option Addr) (e1:Nat) (w:World) (S:Blks) (hF:FunO w [.string f.name,.int .i64 f.params,.int .i64 f.regs,.slice q f.blocks.length e1] f S) :
  Calls Tryz.prog 33 #[.agg #[.string f.name,.int .i64 f.params,.int .i64 f.regs,.slice q f.blocks.length e1]] w fun e w'=>∃p c S',e = .returned (.agg #[.string f.name,.int .i64 f.params,.int .i64 (doT f).regs,.slice p (doT f).blocks.length c])∧
   FunO w' [.string f.name,.int .i64 f.params,.int .i64 (doT f).regs,.slice p (doT f).blocks.length c] (doT f) S'∧(∀g,S' g→S g∨w.heap.size≤g)∧Kept S w w':=by
 have hn0:=hC.n1
 have haA:=hC.n40
 obtain⟨v0,haF,hnm,i1,i2,hB⟩:=hF
 have hv0:v0 = .slice q f.blocks.length e1:=by simpa using haF.symm
 subst hv0
 obtain⟨gq,cq,_,_,hvq,_⟩:=hB.sl.focus qE (by omega) hn0
 have hq:q=some ⟨gq,0,none⟩:=by injection hvq
 subst hq
 have hread:=hB.read (R':=BlkR w) qE (by omega) fun _ _ _ h=>h.read
 have hRd:SliceAt w 6 (BlkR w) (some ⟨gq,0,none⟩) f.blocks:=by
  obtain⟨p,c,e,_,_,h⟩:=hread.outC
  cases e
  exact h
 have hSb:=hB.sl.inb
 have HC:=q7 hC
 have HB:=q7 hB
 have HRd:=q7 hRd
 have HSb:=q7 hSb
 have HN:=q7 (And.intro hnm (And.intro i1 i2))
 clear hC hB hread hRd hSb hnm i1 i2 haF hvq
 go_enter Tryz.func33,Tryz.ntmps33
 go_wp2_with fail
 obtain⟨W0,hW0⟩:∃W0,W0=(w.alloc (.cells #[.string f.name,.int .i64 f.params,.int .i64 f.regs,.slice (some ⟨gq,0,none⟩) f.blocks.length e1] 37)).alloc (.cells #[.string { data:=#[] },.int .i64 0,.int .i64 0,.slice none 0 0] 37):=⟨_,rfl⟩
 rw[←hW0]
 have hz0:W0.heap.size=w.heap.size+1+1:=by rw[hW0];simp
 have hb0:Below w.heap.size w W0:=by rw[hW0];exact bZ
 have hF0:W0.heap[w.heap.size]?=some (.cells #[.string f.name,.int .i64 f.params,.int .i64 f.regs,.slice (some ⟨gq,0,none⟩) f.blocks.length e1] 37 (0,0)):=by rw[hW0];exact qj (qh rfl)
 have hZ0:W0.heap[w.heap.size+1]?=some (.cells #[.string { data:=#[] },.int .i64 0,.int .i64 0,.slice none 0 0] 37 (0,0)):=by rw[hW0];exact qh (by simp)
 have HB0:=q7 hb0
 clear hW0 hb0
 obtain⟨Sp,hSp⟩:∃Sp:World→Prop,Sp=fun w'=>w'.heap[w.heap.size]?=some (.cells #[.string f.name,.int .i64 f.params,.int .i64 f.regs,.slice (some ⟨gq,0,none⟩) f.blocks.length e1] 37 (0,0))∧w'.heap[w.heap.size+1]?=some (.cells #[.string { data:=#[] },.int .i64 0,.int .i64 0,.slice none 0 0] 37 (0,0)):=⟨_,rfl⟩
 have ha6:∀w',Sp w'→(∀i,w'.cell? ⟨w.heap.size,i,none⟩=(#[.string f.name,.int .i64 f.params,.int .i64 f.regs,.slice (some ⟨gq,0,none⟩) f.blocks.length e1]:Array Value)[i]?)∧w.heap.size<w'.heap.size:=fun w' h=>by
  rw[hSp]at h
  exact⟨(blk h.1).1,q9 h.1⟩
 have hS0:Sp W0.drew:=by rw[hSp];exact⟨hF0,hZ0⟩
 refine qm (S:=Sp) (by kernel_rfl) 6 ?_
 refine tkZ 0 3 (.agg #[.string f.name,.int .i64 f.params,.int .i64 f.regs,.slice (some ⟨gq,0,none⟩) f.blocks.length e1]) rfl rfl hS0 (fun w' h=>?_) ?_
 ·obtain⟨h1,h2⟩:=ha6 w' h
  have g0:=h1 0
  have g1:=h1 1
  have g2:=h1 2
  have g3:=h1 3
  clear h1
  simp only[List.getElem?_toArray,List.getElem?_cons_zero,List.getElem?_cons_succ]at g0 g1 g2 g3
  go_simp
 refine tkZ 1 4 (.agg #[.string f.name,.int .i64 f.params,.int .i64 f.regs,.slice (some ⟨gq,0,none⟩) f.blocks.length e1]) rfl rfl hS0 (fun w' h=>?_) ?_
 ·obtain⟨h1,h2⟩:=ha6 w' h
  have g0:=h1 0
  have g1:=h1 1
  have g2:=h1 2
  have g3:=h1 3
  clear h1
  simp only[List.getElem?_toArray,List.getElem?_cons_zero,List.getElem?_cons_succ]at g0 g1 g2 g3
  go_simp
 have hO:=HC.out.funD.toFunS.ord
 have hint:j9 f.blocks=(xG f.blocks).map fun i:Nat=>(i:Int):=hO.ints
 have hpl:(jD f.blocks).length≤1000000:=HC.out.funD.toFunS.postLen
 refine qk (i:=2) (by kernel_rfl) (qt 5 rfl rfl rfl (by go_simp) (QC f (some ⟨gq,0,none⟩) e1 W0.drew hn0 (by omega) HC.out.funD.two HC.out.funD.toFunS.tosB (zF HRd.out HB0.out.drew) hpl) ?_)
 rintro e w1 ⟨vo,rfl,hOw,hb1⟩
 rw[hint,List.length_map]at hOw
 have ho:=HC.out.funD.toFunS.ordC
 obtain⟨o,hoe⟩:∃o,o=xG f.blocks:=⟨_,rfl⟩
 rw[←hoe]at ho hOw
 have hop:=ho.pos.1
 obtain⟨po,co,rfl⟩:=j8 hOw
 obtain⟨go,rfl,hhg,hdI,_⟩:=jB hOw hop
 have hoc:∀i (h:i<o.length),w1.cell? ⟨go,i,none⟩=some (.int .i64 (o[i]:Nat)):=fun i h=>by
  obtain⟨g',e,_,_,hc⟩:=jB hOw h
  cases e
  rw[hc]
  simp[h]
 have hco:o.length≤co:=by
  rcases hOw.2 with⟨h1,_⟩|⟨_,_,_,h1,_,_,h2,_⟩
  ·cases h1
  cases h1;exact h2
 have hb1':Below W0.heap.size W0 w1:=(Below.refl _ W0).drew.trans hb1
 have hf7:W0.heap.size≤go:=hhg
 have hS1:Sp w1:=by rw[hSp];exact⟨(hb1'.block _ (by omega)).trans hF0,(hb1'.block _ (by omega)).trans hZ0⟩
 refine⟨_,rfl,hS1,?_⟩
 have hdK:Below w.heap.size w w1:=HB0.out.trans (hb1'.mono (by omega))
 have hz1:=hb1'.size
 have hFO:FunO w1 [.string f.name,.int .i64 f.params,.int .i64 f.regs,.slice (some ⟨gq,0,none⟩) f.blocks.length e1] f S:=⟨_,rfl,HN.out.1,HN.out.2.1,HN.out.2.2,⟨HB.out.sl.below qE hdK,HB.out.bd⟩⟩
 refine qk (i:=3) (by kernel_rfl) (qt 6 rfl rfl rfl (by go_simp) (Vx f HC.out o ho (some ⟨gq,0,none⟩) e1 go co w1 S hFO hdI (fun h=>by have:=HSb.out go h;omega) hoc hco) ?_)
 rintro e w2 ⟨p2,c2,S2,rfl,hF2,hS2,hK2⟩
 obtain⟨g,hge⟩:∃g,g=zl o f:=⟨_,rfl⟩
 have hgT:g=ordT f:=by rw[hge,hoe];rfl
 rw[←hge]at hF2 ⊢
 have hCg:FunC nf P g:=by rw[hgT];exact HC.out.order
 have hh1:g.name=f.name∧g.params=f.params∧g.regs=f.regs:=by rw[hge];exact⟨rfl,rfl,rfl⟩
 have hSn:∀k,S k→k<w.heap.size:=HSb.out
 have hd9:Sp w2:=by
  rw[hSp]at hS1 ⊢
  exact⟨(hK2.block _ (by omega) (fun h=>by have:=hSn _ h;omega)).trans hS1.1,(hK2.block _ (by omega) (fun h=>by have:=hSn _ h;omega)).trans hS1.2⟩
 refine⟨_,rfl,hd9,?_⟩
 clear hge
 have hz2:=hK2.size
 have hch:=Kj g hCg p2 c2 w2 S2 (by rw[hh1.1,hh1.2.1,hh1.2.2];exact hF2)
 rw[hh1.1,hh1.2.1,hh1.2.2]at hch
 refine qk (i:=4) (by kernel_rfl) (qt 7 rfl rfl rfl (by go_simp) hch ?_)
 rintro e w3 ⟨p3,c3,S3,rfl,hF3,hS3,hK3⟩
 have hjN:∀k,S2 k→S k∨w1.heap.size≤k:=hS2
 have hhq:Sp w3:=by
  rw[hSp]at hd9 ⊢
  have hn:∀k,S2 k→k≠w.heap.size∧k≠w.heap.size+1:=fun k hk=>by
   rcases hjN k hk with h|h
   ·have:=hSn _ h;omega
   omega
  exact⟨(hK3.block _ (by omega) (fun h=>(hn _ h).1 rfl)).trans hd9.1,(hK3.block _ (by omega) (fun h=>(hn _ h).2 rfl)).trans hd9.2⟩
 refine⟨_,rfl,hhq,?_⟩
 have hz3:=hK3.size
 obtain⟨h,hhe⟩:∃h,h=qW g:=⟨_,rfl⟩
 have hdX:=JO g
 rw[←hhe]at hF3 hdX
 have hCh:FunC nf P h:=by rw[hhe];exact hCg.chains
 have hh2:h.name=f.name∧h.params=f.params∧h.regs=f.regs:=⟨hdX.1.trans hh1.1,hdX.2.1.trans hh1.2.1,hdX.2.2.1.trans hh1.2.2⟩
 have hnm:=names_any h hCh p3 c3 w3 S3 (by rw[hh2.1,hh2.2.1,hh2.2.2,hdX.2.2.2];exact hF3)
 rw[hh2.1,hh2.2.1,hh2.2.2,hdX.2.2.2]at hnm
 have hdo:ja h=doT f:=by rw[hhe,hgT];rfl
 rw[hdo]at hnm
 refine qk (i:=5) (by kernel_rfl) (qt 8 rfl rfl rfl (by go_simp) hnm ?_)
 rintro e w4 ⟨p4,c4,S4,rfl,hF4,hS4,hK4⟩
 have heg:∀k,S3 k→S k∨w1.heap.size≤k:=fun k hk=>by
  rcases hS3 k hk with a|a
  ·exact hjN k a
  omega
 have hjO:Sp w4:=by
  rw[hSp]at hhq ⊢
  have hn:∀k,S3 k→k≠w.heap.size∧k≠w.heap.size+1:=fun k hk=>by
   rcases heg k hk with h|h
   ·have:=hSn _ h;omega
   omega
  exact⟨(hK4.block _ (by omega) (fun h=>(hn _ h).1 rfl)).trans hhq.1,(hK4.block _ (by omega) (fun h=>(hn _ h).2 rfl)).trans hhq.2⟩
 refine⟨_,rfl,hjO,?_⟩
 have hz4:=hK4.size
 have hZ4:w4.heap[w.heap.size+1]?=some (.cells #[.string { data:=#[] },.int .i64 0,.int .i64 0,.slice none 0 0] 37 (0,0)):=by
  rw[hSp]at hjO
  exact hjO.2
 obtain⟨yb,yf⟩:=blk hZ4
 have yb0:=yb 0
 have yb1:=yb 1
 have yb2:=yb 2
 have yb3:=yb 3
 simp only[List.getElem?_toArray,List.getElem?_cons_zero,List.getElem?_cons_succ]at yb0 yb1 yb2 yb3
 have yz:=q9 hZ4
 clear yb
 refine qk (i:=6) (by kernel_rfl) (qz ((((w4.setCell ⟨w.heap.size+1,0,none⟩ (.string f.name)).setCell ⟨w.heap.size+1,1,none⟩ (.int .i64 f.params)).setCell ⟨w.heap.size+1,2,none⟩ (.int .i64 (doT f).regs)).setCell ⟨w.heap.size+1,3,none⟩ (.slice p4 (doT f).blocks.length c4)) rfl rfl rfl (by go_simp) (fun h=>absurd rfl h) (qB (by kernel_rfl) ?_ _))
 show calm _ Exit.normal _ _
 obtain⟨WF,hWF⟩:∃WF,WF=(((w4.setCell ⟨w.heap.size+1,0,none⟩ (.string f.name)).setCell ⟨w.heap.size+1,1,none⟩ (.int .i64 f.params)).setCell ⟨w.heap.size+1,2,none⟩ (.int .i64 (doT f).regs)).setCell ⟨w.heap.size+1,3,none⟩ (.slice p4 (doT f).blocks.length c4):=⟨_,rfl⟩
 rw[←hWF]
 have hK:Kept (fun k=>k=w.heap.size+1) w4 WF:=by
  rw[hWF]
  have h0:Kept (fun k=>k=w.heap.size+1) w4 w4:=Kept.refl _ _
  have h1:=h0.setCell (p:=⟨w.heap.size+1,0,none⟩) rfl (.string f.name)
  have h2:=h1.setCell (p:=⟨w.heap.size+1,1,none⟩) rfl (.int .i64 f.params)
  have h3:=h2.setCell (p:=⟨w.heap.size+1,2,none⟩) rfl (.int .i64 (doT f).regs)
  exact h3.setCell (p:=⟨w.heap.size+1,3,none⟩) rfl (.slice p4 (doT f).blocks.length c4)
 have hRF:WF.heap[w.heap.size+1]?=some (.cells #[.string f.name,.int .i64 f.params,.int .i64 (doT f).regs,.slice p4 (doT f).blocks.length c4] 37 (0,0)):=by
  rw[hWF,qg (qg (qg (qg hZ4 0 _) 1 _) 2 _) 3 _]
  rfl
 have hnH:∀k,S4 k→S k∨w1.heap.size≤k:=fun k hk=>by
  rcases hS4 k hk with a|a
  ·exact heg k a
  omega
 have hfun:FunO WF [.string f.name,.int .i64 f.params,.int .i64 (doT f).regs,.slice p4 (doT f).blocks.length c4] (doT f) S4:=by
  obtain⟨v4,hnI,a1,a2,a3,hB4⟩:=hF4
  have hv4:v4 = .slice p4 (doT f).blocks.length c4:=by
   have h:=hnI.symm
   simp at h
   exact h.2.2
  subst hv4
  exact⟨_,hnI,a1,a2,a3,⟨hB4.sl.kept qE hK (fun k b1 b2=>by
   rcases hnH k b2 with a|a
   ·have:=hSn _ a;omega
   omega),hB4.bd⟩⟩
 have hkw:Kept S w WF:=by
  have h1:Kept S w w1:=Kept.of_below hdK
  have h2:Kept S w w2:=h1.trans hK2 (fun k _ h=>h)
  have h3:Kept S w w3:=h2.trans hK3 (fun k hk h=>(hjN k h).elim id (fun a=>by omega))
  have h4:Kept S w w4:=h3.trans hK4 (fun k hk h=>(heg k h).elim id (fun a=>by omega))
  exact h4.trans hK (fun k hk h=>by omega)
 have hs4:∀k,S4 k→S k∨w.heap.size≤k:=fun k hk=>(hnH k hk).imp id (fun a=>by omega)
 obtain⟨rb,_⟩:=blk hRF
 have rb0:=rb 0
 have rb1:=rb 1
 have rb2:=rb 2
 have rb3:=rb 3
 simp only[List.getElem?_toArray,List.getElem?_cons_zero,List.getElem?_cons_succ]at rb0 rb1 rb2 rb3
 have hrG:=q7 hfun
 have HKw:=q7 hkw
 have HS4:=q7 hs4
 clear hWF hK hRF hfun hkw hs4 hF4 hK4 hS4 hnm hdX hh2 hdo hhe hch hF3 hK3 hF2 hK2 hgT hh1 hFO hoe hint hO yb0 yb1 yb2 yb3 yf hSp ha6
 simp only[calm]
 go_wp2_with fail
 refine bodyPost_ret (v:=.agg #[.string f.name,.int .i64 f.params,.int .i64 (doT f).regs,.slice p4 (doT f).blocks.length c4]) ?_ rfl ⟨p4,c4,S4,rfl,hrG.out,HS4.out,HKw.out⟩
 simp[results,Tryz.results33,go_sem,rb0,rb1,rb2,rb3]
end Go.Proofs.YtecdphhdmjmmnaaGreatDoor
namespace Go.Proofs.YtecdphhdmjmmnaaGreatDoor
open Go.RowKit

def Kq (f:FunL) (k:Nat):Nat:=((f.blocks.take k).map fun b=>b.phis.length+b.list.length).sum
theorem Jb {f:FunL} {k:Nat} (h:k<f.blocks.length):Kq f (k+1)=Kq f k+(f.blocks[k].phis.length+f.blocks[k].list.length):=by
 unfold Kq
 rw[List.take_succ_eq_append_getElem h,List.map_append,List.sum_append]
 simp
theorem sumK_le {f:FunL}:∀k,k≤f.blocks.length→Kq f k≤zi f:=fun k hk=>by
 have h1:∀j,k+j≤f.blocks.length→Kq f k≤Kq f (k+j):=by
  intro j
  induction j with
  | zero=>intro _;exact Nat.le_refl _
  | succ j ih=>
   intro hj
   have:=ih (by omega)
   rw[←Nat.add_assoc,Jb (by omega)]
   omega
 have h2:=h1 (f.blocks.length - k) (by omega)
 rw[Nat.add_sub_cancel' hk]at h2
 have h3:Kq f f.blocks.length=zi f:=by unfold Kq zi;rw[List.take_length]
 omega

theorem large_no (f:FunL) (bp:Option Addr) (bc:Nat) (w:World) (hn:f.blocks.length≤40) (hm:zi f≤300) (hr:f.regs≤100) (hB:SliceAt w 6 (BlkR w) bp f.blocks) :
  Calls Tryz.prog 61 #[.agg #[.string f.name,.int .i64 f.params,.int .i64 f.regs,.slice bp f.blocks.length bc]] w fun e w'=>e = .returned (.bool false)∧Below w.heap.size w w':=by
 have HB:=q7 hB
 clear hB
 go_enter Tryz.func61,Tryz.ntmps61
 go_wp2
 go_loopw [3,9] (fun n i wr=>∃k:Nat,k≤f.blocks.length∧i = .int .i64 k∧n = .int .i64 (Kq f k:Nat)∧Below (w.heap.size+1) (w.alloc (.cells #[.string f.name,.int .i64 f.params,.int .i64 f.regs,.slice bp f.blocks.length bc] 37)) wr) (fun _ i _=>f.blocks.length - (intOf i).toNat)
 case atStart=>exact⟨0,by omega,rfl,by simp[Kq],Below.refl _ _⟩
 case round=>
  obtain⟨k,hk,rfl,rfl,hb⟩:=hrel
  have HBx:Hid (Below w.heap.size w wr):=((Below.refl _ _).alloc (Nat.le_refl _) _).trans (hb.mono (by omega))
  have hF:=qd hb (by omega) (qr w _)
  obtain⟨hcc,hcf⟩:=blk hF
  have zf:=(Array.getElem?_eq_some_iff.1 hF).1
  have HBb:=q7 hb
  have hmk:=sumK_le k hk
  clear hb
  by_cases hlt:k<f.blocks.length
  ·obtain⟨bb,bo,pp,pc,lp,lc,tp,tc,hbp,b0,b1,b2,b3,b4,b5,_,_,_,hll,htl,_,_,_⟩:=zE HB.out HBx.out hlt
   subst hbp
   have zb:=q8 b0
   have hs:=Jb hlt
   have hms:=sumK_le (k+1) hlt
   have HS:=q7 hs
   have gk0:(0:Int)≤(k:Int):=by omega
   have gk1:(k:Int)<f.blocks.length:=by omega
   have hp1:f.blocks[k].phis.length≤1000:=by omega
   have hp2:f.blocks[k].list.length≤1000:=by omega
   clear hs hF
   go_wp2
   refine⟨⟨k+1,by omega,by go_num,?_,?_⟩,by simp[intOf];omega⟩
   ·rw[HS.out]
    congr 1
   exact HBb.out.alloc (by have:=HBb.out.size;simp at this ⊢;omega) _
  obtain rfl:k=f.blocks.length:=by omega
  have h3:Kq f f.blocks.length=zi f:=by unfold Kq zi;rw[List.take_length]
  rw[h3]
  have d1:decide ((40:Int)<(f.blocks.length:Int))=false:=by rw[decide_eq_false_iff_not];omega
  have d2:decide ((300:Int)<(zi f:Int))=false:=by rw[decide_eq_false_iff_not];omega
  have d3:decide ((100:Int)<f.regs)=false:=by rw[decide_eq_false_iff_not];omega
  have cc2:=hcc 2
  have cc3:=hcc 3
  simp only[List.getElem?_toArray,List.getElem?_cons_zero,List.getElem?_cons_succ]at cc2 cc3
  clear hcc hF h3 hmk
  go_wp2
  go_ret
  exact⟨rfl,HBx.out⟩
end Go.Proofs.YtecdphhdmjmmnaaGreatDoor
