/-
  The contract of tidy.ChainsOf.
-/
import Derived.Test.YtgjjhadbjmcnpaaGreatDoorJTidP
set_option maxRecDepth 100000
set_option maxHeartbeats 16000000
namespace Go.Proofs.YtgjjhadbjmcnpaaGreatDoor
open Go.RowKit Go.Shelf

def HeadLike (g f:FunL):Prop:=g.name=f.name∧g.params=f.params∧g.regs=f.regs∧g.blocks.length=f.blocks.length
theorem HeadLike.join {g f:FunL} (h:HeadLike g f) (b t:Nat):HeadLike (x8 g b t) f:=⟨h.1,h.2.1,h.2.2.1,by rw [qM];exact h.2.2.2⟩
theorem RowPut.outC {w w1:World} {e:TypeId} {g o size j:Nat} {cs:List Value} (h:RowPut w w1 e g o size cs) (hj:j<o∨o+size≤j):w1.cell? ⟨g,j,none⟩=w.cell? ⟨g,j,none⟩:=by
 obtain ⟨c,c',a,b,_,_,r⟩:=h
 exact (cell_of_row w1 g _ c' e (0,0) b).trans ((r j hj).trans (cell_of_row w g _ c e (0,0) a).symm)

theorem VX {nf:Nat} {P:Nat→Int} (f:FunL) (hC:FunC nf P f) (q:Option Addr) (e1:Nat) (w:World) (S:Blks) (hF:FunO w [.string f.name,.int .i64 f.params,.int .i64 f.regs,.slice q f.blocks.length e1] f S) :
  Calls Tryz.prog 66 #[.agg #[.string f.name,.int .i64 f.params,.int .i64 f.regs,.slice q f.blocks.length e1]] w fun e w'=>∃p c S',e = .returned (.agg #[.string f.name,.int .i64 f.params,.int .i64 f.regs,.slice p f.blocks.length c])∧
   FunO w' [.string f.name,.int .i64 f.params,.int .i64 f.regs,.slice p f.blocks.length c] (qQ f) S'∧(∀g,S' g→S g∨w.heap.size≤g)∧Kept S w w':=by
 obtain ⟨iI,l1,l2,l3,l4⟩:=info_parts vx
 have hn0:=hC.n1
 have hcE:=hC.n40
 obtain ⟨v0,haF,hnm,i1,i2,hB⟩:=hF
 have hv0:v0 = .slice q f.blocks.length e1:=by simpa using haF.symm
 subst hv0
 obtain ⟨gq,cq,_,_,hvq,_⟩:=hB.sl.focus qU (by omega) hn0
 have hq:q=some ⟨gq,0,none⟩:=by injection hvq
 subst hq
 obtain ⟨V,N,L,hCh,hNS,hLS⟩:=ChS.of hB.sl hn0
 have hSb:=hB.sl.inb
 have HC:=q8 hC
 have HCh:=q8 hCh
 have HNS:=q8 hNS
 have HLS:=q8 hLS
 have HSb:=q8 hSb
 have HN:=q8 (And.intro hnm (And.intro i1 i2))
 have HBd:=q8 hB.bd
 clear hC hCh hNS hLS hSb hnm i1 i2 hB haF hvq
 go_enter Tryz.func66,Tryz.ntmps66
 go_wp2_with fail
 obtain ⟨W1,hW1⟩:∃W1,W1=(w.alloc (.cells #[.string f.name,.int .i64 f.params,.int .i64 f.regs,.slice (some ⟨gq,0,none⟩) f.blocks.length e1] 38)).alloc (.cells #[.string { data:=#[] },.int .i64 0,.int .i64 0,.slice none 0 0] 38):=⟨_,rfl⟩
 rw [←hW1]
 have hz1:W1.heap.size=w.heap.size+1+1:=by rw [hW1];simp
 have hb1:Below w.heap.size w W1:=by rw [hW1];exact bZ
 have hF1:W1.heap[w.heap.size]?=some (.cells #[.string f.name,.int .i64 f.params,.int .i64 f.regs,.slice (some ⟨gq,0,none⟩) f.blocks.length e1] 38 (0,0)):=by rw [hW1];exact qh (qq rfl)
 have hZ1:W1.heap[w.heap.size+1]?=some (.cells #[.string { data:=#[] },.int .i64 0,.int .i64 0,.slice none 0 0] 38 (0,0)):=by rw [hW1];exact qq (by simp)
 have HB1:=q8 hb1
 have HF1:=q8 hF1
 have HZ1:=q8 hZ1
 have HC1:=q8 (HCh.out.below hb1)
 clear hW1 hb1 hF1 hZ1
 go_loopg [3] f.blocks.length (fun q s3 wr=>∃(b:Nat) (g:FunL) (V:Nat→Value) (L:Nat→Blks),b≤f.blocks.length∧q=f.blocks.length - b∧s3 = .int .i64 b∧g=(List.range b).foldl (fun g b=>qW (f.blocks.length+1) g b) f∧FunC nf P g∧HeadLike g f∧ChS wr gq e1 g.blocks V N L∧(∀i,i<f.blocks.length→∀k,L i k→S k∨W1.heap.size≤k)∧Kept S W1 wr)
 case atStart=>exact ⟨0,f,V,L,by omega,rfl,rfl,rfl,HC.out,⟨rfl,rfl,rfl,rfl⟩,HC1.out,fun i hi k h=>.inl (HLS.out i hi k h),Kept.refl _ _⟩
 case round=>
  obtain ⟨b,g,V,L,hb,rfl,rfl,hg,hCg,hH,hS,hL,hK⟩:=hrel
  obtain ⟨wo,hwo⟩:∃wo,wo=wr:=⟨_,rfl⟩
  subst hwo
  have hgl:=hH.2.2.2
  have hsz:=hK.size
  have hSw:∀k,S k→k<w.heap.size:=fun k hk=>HSb.out k hk
  have hFo:wo.heap[w.heap.size]?=some (.cells #[.string f.name,.int .i64 f.params,.int .i64 f.regs,.slice (some ⟨gq,0,none⟩) f.blocks.length e1] 38 (0,0)):=(hK.block _ (by omega) (fun h=>by have:=hSw _ h;omega)).trans HF1.out
  obtain ⟨fb,ff⟩:=blk hFo
  have fb0:=fb 0
  have fb1:=fb 1
  have fb2:=fb 2
  have fb3:=fb 3
  simp only [List.getElem?_toArray,List.getElem?_cons_zero,List.getElem?_cons_succ] at fb0 fb1 fb2 fb3
  have fz:=qd hFo
  have HG:=q8 hg
  have HCg:=q8 hCg
  have HH:=q8 hH
  have HSo:=q8 hS
  have HLo:=q8 hL
  have HKo:=q8 hK
  have HSw:=q8 hSw
  have HGl:=q8 hgl
  clear hg hCg hH hS hL hK hSw hFo hgl fb
  by_cases hbl:b<f.blocks.length
  rotate_left
  ·obtain rfl:b=f.blocks.length:=by omega
   have hgT:g=qQ f:=HG.out
   have hZo:wo.heap[w.heap.size+1]?=some (.cells #[.string { data:=#[] },.int .i64 0,.int .i64 0,.slice none 0 0] 38 (0,0)):=(HKo.out.block _ (by omega) (fun h=>by have:=HSw.out _ h;omega)).trans HZ1.out
   obtain ⟨zb,zf⟩:=blk hZo
   have zb0:=zb 0
   have zb1:=zb 1
   have zb2:=zb 2
   have zb3:=zb 3
   simp only [List.getElem?_toArray,List.getElem?_cons_zero,List.getElem?_cons_succ] at zb0 zb1 zb2 zb3
   have zz:=qd hZo
   have hne1:¬ (w.heap.size+1=w.heap.size):=by omega
   have hne2:¬ (w.heap.size=w.heap.size+1):=by omega
   have HZo:=q8 hZo
   have HGT:=q8 hgT
   clear hZo zb hgT
   go_wp2_with fail
   obtain ⟨WF,hWF⟩:∃WF,WF=(((wo.setCell ⟨w.heap.size+1,0,none⟩ (.string f.name)).setCell ⟨w.heap.size+1,1,none⟩ (.int .i64 f.params)).setCell ⟨w.heap.size+1,2,none⟩ (.int .i64 f.regs)).setCell ⟨w.heap.size+1,3,none⟩ (.slice (some ⟨gq,0,none⟩) f.blocks.length e1):=⟨_,rfl⟩
   rw [←hWF]
   have hKf:Kept (fun i=>i=w.heap.size+1) wo WF:=by
    rw [hWF]
    have h0:Kept (fun i=>i=w.heap.size+1) wo wo:=Kept.refl _ wo
    have h2:=h0.setCell (p:=⟨w.heap.size+1,0,none⟩) rfl (.string f.name)
    have h3:=h2.setCell (p:=⟨w.heap.size+1,1,none⟩) rfl (.int .i64 f.params)
    have h4:=h3.setCell (p:=⟨w.heap.size+1,2,none⟩) rfl (.int .i64 f.regs)
    exact h4.setCell (p:=⟨w.heap.size+1,3,none⟩) rfl (.slice (some ⟨gq,0,none⟩) f.blocks.length e1)
   have hRF:WF.heap[w.heap.size+1]?=some (.cells #[.string f.name,.int .i64 f.params,.int .i64 f.regs,.slice (some ⟨gq,0,none⟩) f.blocks.length e1] 38 (0,0)):=by
    rw [hWF,qj (qj (qj (qj HZo.out 0 _) 1 _) 2 _) 3 _]
    rfl
   clear hWF
   obtain ⟨rb,_⟩:=blk hRF
   have rb0:=rb 0
   have rb1:=rb 1
   have rb2:=rb 2
   have rb3:=rb 3
   simp only [List.getElem?_toArray,List.getElem?_cons_zero,List.getElem?_cons_succ] at rb0 rb1 rb2 rb3
   have hsl:=HSo.out.to
   have hbd:∀k,(N k∨∃i,i<g.blocks.length∧L i k)→S k∨W1.heap.size≤k:=fun k hk=>by
    rcases hk with h|⟨i,hi,h⟩
    ·exact .inl (HNS.out k h)
    exact HLo.out i (by have:=HGl.out;omega) k h
   have hgl:=HGl.out
   obtain ⟨hh1,hh2,hh3,_⟩:=HH.out
   have hfin:FunO WF [.string f.name,.int .i64 f.params,.int .i64 f.regs,.slice (some ⟨gq,0,none⟩) f.blocks.length e1] (qQ f) (fun k=>N k∨∃i,i<g.blocks.length∧L i k):=by
    rw [←HGT.out]
    refine ⟨_,by rw [hh1,hh2,hh3],by rw [hh1];exact HN.out.1,by rw [hh2];exact HN.out.2.1,by rw [hh3];exact HN.out.2.2,⟨?_,by rw [hgl];exact HBd.out⟩⟩
    have h1:=hsl.kept qU hKf (fun k h1 h2=>by
     rcases hbd k h2 with h|h
     ·have:=HSw.out k h;omega
     omega)
    rw [hgl] at h1 ⊢
    exact h1
   refine bodyPost_ret (v:=.agg #[.string f.name,.int .i64 f.params,.int .i64 f.regs,.slice (some ⟨gq,0,none⟩) f.blocks.length e1]) ?_ rfl ⟨_,_,_,rfl,hfin,fun k hk=>?_,?_⟩
   ·simp [results,Tryz.results66,go_sem,rb0,rb1,rb2,rb3]
   ·rcases hbd k hk with h|h
    ·exact .inl h
    right;omega
   exact ((Kept.of_below HB1.out).trans HKo.out (fun k _ h=>h)).trans hKf (fun k h1 h2=>by omega)
  go_wp2_with fail
  clear fb0 fb1 fb2 fb3 ff fz
  go_loopg [] (vW g) (fun q wr=>∃(g':FunL) (V:Nat→Value) (L:Nat→Blks) (c:Nat),q=vW g'∧vW g'<c∧qW c g' b=qW (f.blocks.length+1) g b∧FunC nf P g'∧HeadLike g' f∧ChS wr gq e1 g'.blocks V N L∧(∀i,i<f.blocks.length→∀k,L i k→S k∨W1.heap.size≤k)∧Kept S W1 wr)
  case atStart=>exact ⟨g,V,L,f.blocks.length+1,rfl,by have:=Vm g;have:=HGl.out;omega,rfl,HCg.out,HH.out,HSo.out,HLo.out,HKo.out⟩
  case round=>
   clear HSo HLo HKo hsz
   obtain ⟨g1,V,L,c,rfl,hjc,hch,hCg,hH,hS,hL,hK⟩:=hrel
   obtain ⟨wi,hwi⟩:∃wi,wi=wr:=⟨_,rfl⟩
   subst hwi
   have hgl:=hH.2.2.2
   have hb1:b<g1.blocks.length:=by omega
   have hsz:=hK.size
   have hFi:wi.heap[w.heap.size]?=some (.cells #[.string f.name,.int .i64 f.params,.int .i64 f.regs,.slice (some ⟨gq,0,none⟩) f.blocks.length e1] 38 (0,0)):=(hK.block _ (by omega) (fun h=>by have:=HSw.out _ h;omega)).trans HF1.out
   obtain ⟨fb,ff⟩:=blk hFi
   have fb0:=fb 0
   have fb1:=fb 1
   have fb2:=fb 2
   have fb3:=fb 3
   simp only [List.getElem?_toArray,List.getElem?_cons_zero,List.getElem?_cons_succ] at fb0 fb1 fb2 fb3
   have fz:=qd hFi
   obtain ⟨q1,d1,p2,d2,q3,d3,hVb,hcb,hgN,hgz,hgf,hTo⟩:=hS.at hb1
   have b0:=hcb 0 (by omega)
   have b1:=hcb 1 (by omega)
   have b2:=hcb 2 (by omega)
   have b3:=hcb 3 (by omega)
   have b4:=hcb 4 (by omega)
   have b5:=hcb 5 (by omega)
   simp only [List.getElem?_cons_zero,List.getElem?_cons_succ,Nat.add_zero] at b0 b1 b2 b3 b4 b5
   have hEb:=hCg.fin b hb1
   obtain ⟨x,hxe⟩:∃x,x=g1.blocks[b]:=⟨_,rfl⟩
   rw [←hxe] at b0 b1 b2 b3 b4 b5 hTo hEb hVb
   have HXe:=q8 hxe
   have HJc:=q8 hjc
   have hh7:=q8 hch
   have hbV:=q8 hCg
   have HH1:=q8 hH
   have HS1:=q8 hS
   have HL1:=q8 hL
   have HK1:=q8 hK
   have HFi:=q8 hFi
   have HTo:=q8 hTo
   have HEb:=q8 hEb
   have HVb:=q8 hVb
   have hh8:=q8 hgl
   have HGf:=q8 hgf
   have HGN:=q8 hgN
   clear hxe hjc hch hCg hH hS hL hK hFi hTo hEb hVb hgl hgN fb hcb
   by_cases hkd:x.fin.kind=2
   rotate_left
   ·have hkb:(x.fin.kind == (2:Int))=false:=by simpa using hkd
    have hmn:jq g1 b=none:=by
     cases h:jq g1 b with
     | none=>rfl
     | some t=>exact absurd (by have:=XH h;rwa [qL hb1,←HXe.out] at this) hkd
    have hfin:qW (f.blocks.length+1) g b=g1:=by rw [←hh7.out,jf hmn]
    have HFin:=q8 hfin
    clear hfin hmn
    go_wp2_with fail
    go_roundg (f.blocks.length - (b+1))
    case measure=>omega
    case rel=>exact ⟨b+1,g1,V,L,by omega,rfl,by go_num,by rw [List.range_succ,List.foldl_append,←HG.out];exact HFin.out.symm,hbV.out,HH1.out,HS1.out,HL1.out,HK1.out⟩
   have hkb:(x.fin.kind == (2:Int))=true:=by simpa using hkd
   have hl1:x.fin.to.length=1:=by have:=HEb.out.len;omega
   obtain ⟨b3t,o3t,cs3,hp3,hqh,hc3,hr3⟩:=HTo.out.get (i:=0) (by omega)
   clear hqh
   obtain ⟨hjE,hdX⟩:=hr3
   clear hdX
   subst hjE
   have htb:=HEb.out.to _ (List.getElem_mem (show 0<x.fin.to.length by omega))
   obtain ⟨t,ht⟩:∃t:Nat,x.fin.to[0]=(t:Int):=⟨x.fin.to[0].toNat,by omega⟩
   rw [ht] at htb hc3
   have htl:t<g1.blocks.length:=by omega
   have hto:x.fin.to=[(t:Int)]:=by
    rcases e:x.fin.to with _|⟨y,_|⟨z,l⟩⟩
    ·simp [e] at hl1
    ·simp only [e,List.getElem_cons_zero] at ht
     rw [ht]
    simp [e] at hl1
   have c3:=hc3 0 (by omega)
   simp only [List.getElem?_cons_zero,Nat.add_zero,Nat.zero_mul] at c3
   have hsC:=q9 c3
   obtain ⟨u1,du1,u2,du2,u3,du3,hVt,hct,_,_,_,hjJ⟩:=HS1.out.at htl
   obtain ⟨y,hye⟩:∃y,y=g1.blocks[t]:=⟨_,rfl⟩
   rw [←hye] at hct hVt hjJ
   have t0:=hct 0 (by omega)
   have t1:=hct 1 (by omega)
   have t2:=hct 2 (by omega)
   have t3:=hct 3 (by omega)
   have t4:=hct 4 (by omega)
   have t5:=hct 5 (by omega)
   simp only [List.getElem?_cons_zero,List.getElem?_cons_succ,Nat.add_zero] at t0 t1 t2 t3 t4 t5
   have hmU:jq g1 b=if t=b∨0<y.phis.length∨1<(insN g1 t).length then none else some t:=by
    have h1:((atF g1 b).fin.to.getD 0 0).toNat=t:=by rw [qL hb1,←HXe.out,hto];simp
    unfold jq
    dsimp only
    rw [h1,qL hb1,←HXe.out,qL htl,←hye]
    by_cases h:t=b∨0<y.phis.length∨1<(insN g1 t).length
    ·rw [if_neg (fun a=>a.2 h),if_pos h]
    rw [if_pos ⟨hkd,h⟩,if_neg h]
   have HTl:=q8 hto
   have hT5:=q8 t5
   have HL9:=q8 hl1
   have h0t:0<x.fin.to.length:=by omega
   have htf:t<f.blocks.length:=by have:=hh8.out;omega
   have HYe:=q8 hye
   have HVt:=q8 hVt
   have hsD:=q8 hjJ
   have hhF:=q8 hmU
   have hiB:gq<wi.heap.size:=hgz
   subst hp3
   clear ht hto hye hVt hjJ hmU hct hc3 hl1
   by_cases hc1:t=b
   ·have hq1:((t:Int) == (b:Int))=true:=by simp [hc1]
    have hmn:jq g1 b=none:=by rw [hhF.out,if_pos (.inl hc1)]
    clear hc1
    have hfin:qW (f.blocks.length+1) g b=g1:=by rw [←hh7.out,jf hmn]
    have HFin:=q8 hfin
    clear hfin hmn
    go_wp2_with fail
    go_roundg (f.blocks.length - (b+1))
    case measure=>omega
    case rel=>exact ⟨b+1,g1,V,L,by omega,rfl,by go_num,by rw [List.range_succ,List.foldl_append,←HG.out];exact HFin.out.symm,hbV.out,HH1.out,(HS1.out.below bZ),HL1.out,(HK1.out.trans (Kept.of_below (S:=fun _=>False) bZ) (fun _ _ h=>h.elim))⟩
   have hq1:((t:Int) == (b:Int))=false:=by simp;omega
   by_cases hc2:0<y.phis.length
   ·have hmn:jq g1 b=none:=by rw [hhF.out,if_pos (.inr (.inl hc2))]
    have hfin:qW (f.blocks.length+1) g b=g1:=by rw [←hh7.out,jf hmn]
    have HFin:=q8 hfin
    clear hfin hmn
    go_wp2_with fail
    go_roundg (f.blocks.length - (b+1))
    case measure=>omega
    case rel=>exact ⟨b+1,g1,V,L,by omega,rfl,by go_num,by rw [List.range_succ,List.foldl_append,←HG.out];exact HFin.out.symm,hbV.out,HH1.out,(HS1.out.below bZ),HL1.out,(HK1.out.trans (Kept.of_below (S:=fun _=>False) bZ) (fun _ _ h=>h.elim))⟩
   have hc2':y.phis.length=0:=by omega
   have hAt:=fun (W':World) (hb:Below wi.heap.size wi W')=>show ∀i,i<g1.blocks.length→XX W' gq 0 i ((Q3 g1).getD i []) from fun i hi=>by
    obtain ⟨cs,T,hW⟩:=HS1.out.row
    exact blkAtN hW hb i hi
   have HAt:=q8 hAt
   clear hAt
   have hhd:=HH1.out
   obtain ⟨hh1,hh2,hh3,hh4⟩:=hhd
   have hsE:decide ((0:Int)<(y.phis.length:Int))=false:=by simp [hc2']
   have HC2:=q8 hc2'
   go_wp2_with fail
   have hjK:Below wi.heap.size wi (wi.alloc (.cells #[.slice u1 0 du1,.slice u2 y.list.length du2,.int .i64 y.fin.kind,.bool y.fin.onr,.int .i64 y.fin.onn,.slice u3 y.fin.to.length du3] 49)):=by exact bZ
   refine (jo f.name f.params f.regs gq 0 e1 f.blocks.length (Q3 g1) _ hcE (fun i hi=>HAt.out _ hjK i (by have:=hh8.out;omega)) (fun i hi=>by
    have h1:=hbV.out.funD.toFunS.tosD i (by have:=hh8.out;omega)
    refine ⟨h1.1,fun t ht=>?_⟩
    have h2:=h1.2 t ht
    have:=hh8.out
    omega)).mono ?_
   rintro e w5 ⟨⟨tf,rfl,haG⟩,hb5⟩
   have hbY:=haG
   rw [←hh8.out] at hbY
   have hAi:=AheadIn.of hbY
   obtain ⟨T1,hT1⟩:∃T1,T1=(wi.alloc (.cells #[.slice u1 0 du1,.slice u2 y.list.length du2,.int .i64 y.fin.kind,.bool y.fin.onr,.int .i64 y.fin.onn,.slice u3 y.fin.to.length du3] 49)).heap.size+1:=⟨_,rfl⟩
   rw [←hT1] at hAi ⊢
   have hjL:Below wi.heap.size wi w5:=hjK.trans (hb5.mono (by simp))
   obtain ⟨⟨_,hlE⟩,hAr⟩:=hAi
   obtain ⟨qa,qc,ha0,_⟩:=hAr t htl
   have hY5:w5.heap[wi.heap.size]?=some (.cells #[.slice u1 0 du1,.slice u2 y.list.length du2,.int .i64 y.fin.kind,.bool y.fin.onr,.int .i64 y.fin.onn,.slice u3 y.fin.to.length du3] 49 (0,0)):=qg hb5 (by simp) (qq rfl)
   have hz5:=hjL.size
   have hsF:wi.heap.size<w5.heap.size:=qd hY5
   have HB5:=q8 hjL
   have HY5:=q8 hY5
   clear haG hbY hAr hb5 hjK hT1 hjL hY5
   by_cases hc3:1<(insN g1 t).length
   ·have hmn:jq g1 b=none:=by rw [hhF.out,if_pos (.inr (.inr hc3))]
    have hfin:qW (f.blocks.length+1) g b=g1:=by rw [←hh7.out,jf hmn]
    have HFin:=q8 hfin
    clear hfin hmn
    go_wp2_with fail
    go_roundg (f.blocks.length - (b+1))
    case measure=>omega
    case rel=>exact ⟨b+1,g1,V,L,by omega,rfl,by go_num,by rw [List.range_succ,List.foldl_append,←HG.out];exact HFin.out.symm,hbV.out,HH1.out,(HS1.out.below HB5.out),HL1.out,(HK1.out.trans (Kept.of_below (S:=fun _=>False) HB5.out) (fun _ _ h=>h.elim))⟩
   have hms:jq g1 b=some t:=by rw [hhF.out,if_neg (by have:=HC2.out;omega)]
   have m:=mayJ hbV.out hb1 hms
   have M:=q8 m
   have HMs:=q8 hms
   clear m hms
   have hg5:w5.heap[gq]?=wi.heap[gq]?:=HB5.out.block gq hiB
   have b1':w5.cell? ⟨gq,b*6+1,none⟩=some (.slice p2 x.list.length d2):=(World.cell?_of_block (a:=⟨gq,b*6+1,none⟩) hg5).trans b1
   have b1f:w5.frozen? ⟨gq,b*6+1,none⟩=false:=(World.frozen?_of_block (a:=⟨gq,b*6+1,none⟩) hg5).trans (HGf.out _)
   have hF5:w5.heap[w.heap.size]?=some (.cells #[.string f.name,.int .i64 f.params,.int .i64 f.regs,.slice (some ⟨gq,0,none⟩) f.blocks.length e1] 38 (0,0)):=(HB5.out.block _ (by omega)).trans HFi.out
   clear fb0 fb1 fb2 fb3 ff fz
   obtain ⟨fb,ff⟩:=blk hF5
   have fb3:=fb 3
   simp only [List.getElem?_toArray,List.getElem?_cons_zero,List.getElem?_cons_succ] at fb3
   have fz:=qd hF5
   clear fb
   have HF5:=q8 hF5
   have HG5:=q8 hg5
   have hS5:=HS1.out.below HB5.out
   have HS5:=q8 hS5
   have hlists:x.list.length+y.list.length≤600:=by
    have h1:=XI (f:=g1) hb1
    have h2:=XI (f:=g1) htl
    have h3:=hbV.out.many
    rw [←HXe.out] at h1
    rw [←HYe.out] at h2
    omega
   clear hF5 hg5 hS5
   go_wp2_with fail
   obtain ⟨Sp,hSp⟩:∃Sp:World→Prop,Sp=fun w'=>w'.heap[gq]?=w5.heap[gq]?∧w'.heap[wi.heap.size]?=some (.cells #[.slice u1 0 du1,.slice u2 y.list.length du2,.int .i64 y.fin.kind,.bool y.fin.onr,.int .i64 y.fin.onn,.slice u3 y.fin.to.length du3] 49 (0,0)):=⟨_,rfl⟩
   have ha6:∀w',Sp w'→w'.cell? ⟨gq,b*6+1,none⟩=some (.slice p2 x.list.length d2)∧w'.cell? ⟨wi.heap.size,1,none⟩=some (.slice u2 y.list.length du2)∧wi.heap.size<w'.heap.size∧w'.frozen? ⟨gq,b*6+1,none⟩=false:=fun w' h=>by
    rw [hSp] at h
    exact ⟨(World.cell?_of_block (a:=⟨gq,b*6+1,none⟩) h.1).trans b1',(blk h.2).1 1,qd h.2,(World.frozen?_of_block (a:=⟨gq,b*6+1,none⟩) h.1).trans b1f⟩
   have hS6:Sp w5.drew:=by rw [hSp];exact ⟨rfl,HY5.out⟩
   have hne:t≠b:=hc1
   refine qz (S:=Sp) (by kernel_rfl) 10 ?_
   refine tkZ 0 54 (.pointer (some ⟨gq,b*6,none⟩)) rfl rfl hS6 (fun w' h=>?_) ?_
   ·obtain ⟨h1,h2,h3,h4⟩:=ha6 w' h
    go_simp
   refine tkZ 1 55 (.pointer (some ⟨gq,b*6,none⟩)) rfl rfl hS6 (fun w' h=>?_) ?_
   ·obtain ⟨h1,h2,h3,h4⟩:=ha6 w' h
    go_simp
   refine tkZ 2 56 (.pointer (some ⟨gq,b*6,none⟩)) rfl rfl hS6 (fun w' h=>?_) ?_
   ·obtain ⟨h1,h2,h3,h4⟩:=ha6 w' h
    go_simp
   refine tkZ 3 57 (.pointer (some ⟨gq,b*6+1,none⟩)) rfl rfl hS6 (fun w' h=>?_) ?_
   ·obtain ⟨h1,h2,h3,h4⟩:=ha6 w' h
    go_simp
   refine tkZ 4 58 (.slice p2 x.list.length d2) rfl rfl hS6 (fun w' h=>?_) ?_
   ·obtain ⟨h1,h2,h3,h4⟩:=ha6 w' h
    go_simp
   refine tkZ 5 59 (.pointer (some ⟨wi.heap.size,1,none⟩)) rfl rfl hS6 (fun w' h=>?_) ?_
   ·obtain ⟨h1,h2,h3,h4⟩:=ha6 w' h
    go_simp
   refine tkZ 6 60 (.slice u2 y.list.length du2) rfl rfl hS6 (fun w' h=>?_) ?_
   ·obtain ⟨h1,h2,h3,h4⟩:=ha6 w' h
    go_simp
   have hLb:=HS5.out.lst b hb1
   have hLt:=HS5.out.lst t htl
   rw [←HXe.out,HVb.out] at hLb
   rw [←HYe.out,HVt.out] at hLt
   obtain ⟨v',w8,hr,hJ⟩:=Qz (P:=Tryz.prog) w5.drew 42 42 51 iI _ 8 80 Tryz.underlying42 l1 l2 l3 l4 rfl (by decide) zR (hLb.sl.below zR ((Below.refl _ w5).drew)) (hLt.sl.below zR ((Below.refl _ w5).drew)) (HS5.out.two b t hb1 htl (Ne.symm hne)) (by unfold maxLen;omega) (by omega)
   obtain ⟨Lb,hJ1,hJ2,hJ3⟩:=hJ
   obtain ⟨pv,cv,hv',_⟩:=hJ1.val
   have hS8:Sp w8:=by
    rw [hSp] at hS6 ⊢
    exact ⟨(hJ3.block _ (by show gq<w5.heap.size;omega) (fun h=>HS5.out.off b hb1 _ HGN.out h)).trans hS6.1,(hJ3.block _ (by show wi.heap.size<w5.heap.size;omega) (fun h=>by have:=(HS1.out.lst b hb1).sl.inb _ h;omega)).trans hS6.2⟩
   refine qm (i:=7) (by kernel_rfl) (qC 61 v' w8 rfl rfl rfl (Qt rfl (by go_simp) (by go_simp) hr) hS8 ?_)
   refine qm (i:=8) (by kernel_rfl) (qC 62 (.pointer (some ⟨gq,b*6,none⟩)) w8 rfl rfl rfl (by go_simp) hS8 ?_)
   refine qm (i:=9) (by kernel_rfl) (qC 63 (.pointer (some ⟨gq,b*6+1,none⟩)) w8 rfl rfl rfl (by go_simp) hS8 ?_)
   obtain ⟨s1,s2,s3,s4⟩:=ha6 w8 hS8
   have hz8:w5.heap.size≤w8.heap.size:=hJ3.size
   have hg8:gq<w8.heap.size:=by omega
   subst hv'
   refine qm (i:=10) (by kernel_rfl) (qt (w8.setCell ⟨gq,b*6+1,none⟩ (.slice pv (x.list++y.list).length cv)) rfl rfl rfl (by go_simp) (fun h=>absurd rfl h) (qI (by kernel_rfl) ?_ _))
   show Exit.inBlock 3 _ Exit.normal _ _
   have hNw:∀k,N k→k<w.heap.size:=fun k hk=>HSw.out k (HNS.out k hk)
   have hjM:∀k,Lb k→L b k∨L t k∨w5.heap.size≤k:=hJ2
   have hmV:∀i,i<g1.blocks.length→∀k,L i k→k<w5.heap.size:=fun i hi k hk=>(HS5.out.lst i hi).sl.inb k hk
   have hoff:∀i,i<g1.blocks.length→Apart N (L i):=HS5.out.off
   have hmW:Apart N Lb:=fun k h1 h2=>by
    rcases hjM k h2 with h|h|h
    ·exact hoff b hb1 k h1 h
    ·exact hoff t htl k h1 h
    have:=hNw k h1;omega
   have he8:SlO 49 6 Jt w8 (.slice (some ⟨gq,0,none⟩) g1.blocks.length e1) (jJ V g1.blocks) N:=(HS5.out.row.below jp ((Below.refl _ w5).drew)).kept jp hJ3 (fun k h1 h2=>hoff b hb1 k h2 h1)
   have he9:=rowN_swap he8 hb1 (p:=pv) (l:=(x.list++y.list).length) (k:=cv)
   have hmX:w8.heap[gq]?=w5.heap[gq]?:=by rw [hSp] at hS8;exact hS8.1
   have hY8:w8.heap[wi.heap.size]?=some (.cells #[.slice u1 0 du1,.slice u2 y.list.length du2,.int .i64 y.fin.kind,.bool y.fin.onr,.int .i64 y.fin.onn,.slice u3 y.fin.to.length du3] 49 (0,0)):=by rw [hSp] at hS8;exact hS8.2
   have hF8:w8.heap[w.heap.size]?=some (.cells #[.string f.name,.int .i64 f.params,.int .i64 f.regs,.slice (some ⟨gq,0,none⟩) f.blocks.length e1] 38 (0,0)):=(hJ3.block _ (by show w.heap.size<w5.heap.size;omega) (fun h=>by
    rcases HL1.out b hbl _ h with h|h
    ·have:=HSw.out _ h;omega
    omega)).trans HF5.out
   obtain ⟨W9,hW9⟩:∃W9,W9=w8.setCell ⟨gq,b*6+1,none⟩ (.slice pv (x.list++y.list).length cv):=⟨_,rfl⟩
   rw [←hW9] at he9 ⊢
   have hjN:∀k,k≠gq→W9.heap[k]?=w8.heap[k]?:=fun k hk=>by rw [hW9];exact Go.Deep.blk_setCell_other _ _ _ k hk
   have hz9:W9.heap.size=w8.heap.size:=by rw [hW9];exact Go.Deep.nblk_setCell _ _ _
   have hgw:gq<w.heap.size:=hNw gq HGN.out
   obtain ⟨cur8,hh9⟩:∃cur,w8.heap[gq]?=some (.cells cur 49 (0,0)):=by
    obtain ⟨g',_,_,_,hgv,_,_,_,_,_,_,_,_,hcc,_⟩:=he8.focus jp (by omega) (i:=b) (by rw [x7];exact hb1)
    have hgg:g'=gq:=by
     injection hgv with a _ _
     injection a with a
     injection a with a
     exact a.symm
    rw [hgg] at hcc
    exact hcc
   have hP9:RowPut w8 W9 49 gq (b*6+1) 1 [.slice pv (x.list++y.list).length cv]:=by
    rw [hW9]
    exact RowPut.set (size:=1) (RowPut.same (size:=1) (cs:=[.slice p2 x.list.length d2]) hh9 rfl (fun j hj=>by
     obtain rfl:j=0:=by omega
     exact s1)) rfl (j:=0) (by omega) _
   have hc9:∀j,j≠b*6+1→W9.cell? ⟨gq,j,none⟩=wi.cell? ⟨gq,j,none⟩:=fun j hj=>(hP9.outC (by omega)).trans ((World.cell?_of_block (a:=⟨gq,j,none⟩) hmX).trans (World.cell?_of_block (a:=⟨gq,j,none⟩) HG5.out))
   have hc91:W9.cell? ⟨gq,b*6+1,none⟩=some (.slice pv (x.list++y.list).length cv):=(hP9.cell (j:=0) (show 0<1 by omega)).1
   have hha:∃cur,W9.heap[gq]?=some (.cells cur 49 (0,0)):=by
    obtain ⟨_,c',_,h2,_⟩:=hP9
    exact ⟨c',h2⟩
   obtain ⟨hh1,hh2,hh3,hh4⟩:=HH1.out
   have hF9:W9.heap[w.heap.size]?=some (.cells #[.string g1.name,.int .i64 g1.params,.int .i64 g1.regs,.slice (some ⟨gq,0,none⟩) g1.blocks.length e1] 38 (0,0)):=by
    rw [hh1,hh2,hh3,hh4]
    exact (hjN _ (by omega)).trans hF8
   have hcH:∀s:Nat,(s:Int)∈(atF g1 t).fin.to→s<g1.blocks.length:=fun s hs=>by
    rw [qL htl] at hs
    have:=(hbV.out.fin t htl).to _ hs
    omega
   have hcon:=VW g1 hbV.out.funD t b w.heap.size gq e1 (vJ V b (.slice pv (x.list++y.list).length cv)) W9 N htl hb1 (fun s hs p hp=>by
    have hsl:=hcH s hs
    rw [qL hsl] at hp
    exact (hbV.out.phi s hsl p hp).len) (fun h=>by
    have h1:=ins_of (f:=g1) t t htl (by rw [zF htl,←qL htl];exact h)
    rw [M.out.one] at h1
    exact hne (by simpa using h1)) hF9 (fun h=>by have:=hNw _ h;omega) he9
   have hep:=q8 hcon
   have HJ1:=q8 hJ1
   have HJ3:=q8 hJ3
   have hmY:=q8 hjM
   have hqp:=q8 hmV
   have hmZ:=q8 hmW
   have HNw:=q8 hNw
   have hn5:=q8 hjN
   have HW9:=q8 hW9
   have HY8:=q8 hY8
   have HC9:=q8 hc9
   have hqr:=q8 hc91
   have hjO:=q8 hha
   have HF8:=q8 hF8
   clear hcon hJ1 hJ2 hJ3 hjM hmV hmW hNw hjN hW9 hY8 hc9 hc91 hha hF8 he8 he9 hmX hP9 hh9 hF9 hcH hoff hh1 hh2 hh3 hh4 hS8 hS6 s1 s2 s3 s4 b0 b1 b2 b3 b4 b5 t0 t1 t2 t3 t4 t5 c3 ha0 b1' b1f fb3 ff
   go_wp2_with fail
   refine hep.out.mono ?_
   rintro e w10 ⟨rfl,hdq,han⟩
   have haK:w10.heap[gq]?=W9.heap[gq]?:=han.block gq (by omega) (fun h=>h.2 rfl)
   have hje:=han.size
   have hjP:w10.heap[wi.heap.size]?=some (.cells #[.slice u1 0 du1,.slice u2 y.list.length du2,.int .i64 y.fin.kind,.bool y.fin.onr,.int .i64 y.fin.onn,.slice u3 y.fin.to.length du3] 49 (0,0)):=(han.block _ (by omega) (fun h=>by have:=HNw.out _ h.1;omega)).trans ((hn5.out _ (by omega)).trans HY8.out)
   have hjQ:w10.heap[w.heap.size]?=some (.cells #[.string f.name,.int .i64 f.params,.int .i64 f.regs,.slice (some ⟨gq,0,none⟩) f.blocks.length e1] 38 (0,0)):=(han.block _ (by omega) (fun h=>by have:=HNw.out _ h.1;omega)).trans ((hn5.out _ (by omega)).trans HF8.out)
   obtain ⟨q1',d1',p2',d2',q3',d3',hqt,hcb,_,_,_,_⟩:=HS1.out.at hb1
   obtain ⟨u1',du1',u2',du2',u3',du3',_,hct,_,_,_,_⟩:=HS1.out.at htl
   rw [←HXe.out] at hcb
   rw [←HYe.out] at hct
   have hbF:∀j,j≠b*6+1→w10.cell? ⟨gq,j,none⟩=wi.cell? ⟨gq,j,none⟩:=fun j hj=>(World.cell?_of_block (a:=⟨gq,j,none⟩) haK).trans (HC9.out j hj)
   have hbt:t*6+6≤b*6∨b*6+6≤t*6:=by omega
   have a0:=(hbF (b*6) (by omega)).trans (hcb 0 (by omega))
   have a2:=(hbF (b*6+2) (by omega)).trans (hcb 2 (by omega))
   have a3:=(hbF (b*6+2+1) (by omega)).trans (hcb 3 (by omega))
   have a4:=(hbF (b*6+2+2) (by omega)).trans (hcb 4 (by omega))
   have a5:=(hbF (b*6+2+3) (by omega)).trans (hcb 5 (by omega))
   have e0:=(hbF (t*6) (by omega)).trans (hct 0 (by omega))
   have e2:=(hbF (t*6+1) (by omega)).trans (hct 1 (by omega))
   have e3:=(hbF (t*6+2) (by omega)).trans (hct 2 (by omega))
   have e4:=(hbF (t*6+3) (by omega)).trans (hct 3 (by omega))
   have e5:=(hbF (t*6+4) (by omega)).trans (hct 4 (by omega))
   have e6:=(hbF (t*6+5) (by omega)).trans (hct 5 (by omega))
   simp only [List.getElem?_cons_zero,List.getElem?_cons_succ] at a0 a2 a3 a4 a5 e0 e2 e3 e4 e5 e6
   obtain ⟨cur10,haY⟩:=hjO.out
   rw [←haK] at haY
   have hqu:∀j,w10.frozen? ⟨gq,j,none⟩=false:=(blk haY).2
   have hqw:gq<w10.heap.size:=by omega
   obtain ⟨ybb,ybf⟩:=blk hjP
   have y2:=ybb 2
   have y3:=ybb 3
   have y4:=ybb 4
   have y5:=ybb 5
   simp only [List.getElem?_toArray,List.getElem?_cons_zero,List.getElem?_cons_succ] at y2 y3 y4 y5
   have yz:=qd hjP
   obtain ⟨fbb,ff⟩:=blk hjQ
   have fb3:=fbb 3
   simp only [List.getElem?_toArray,List.getElem?_cons_zero,List.getElem?_cons_succ] at fb3
   have fz10:=qd hjQ
   have hwg:¬ (wi.heap.size=gq):=by omega
   have hBg:¬ (w.heap.size=gq):=by omega
   have hu3:Value.slice u3' y.fin.to.length du3' = .slice u3 y.fin.to.length du3:=by
    have h1:=hT5.out
    rw [hct 5 (by omega)] at h1
    exact Option.some.inj h1
   have HU9:=q8 hu3
   have HA0:=q8 a0
   have HE6:=q8 e6
   have hqx:=q8 hdq
   have hqy:=q8 han
   have hhc:=q8 haY
   have ha1:w10.cell? ⟨gq,b*6+1,none⟩=some (.slice pv (x.list++y.list).length cv):=(World.cell?_of_block (a:=⟨gq,b*6+1,none⟩) haK).trans hqr.out
   have hqA:=q8 ha1
   have HAs:=q8 (And.intro a2 (And.intro a3 (And.intro a4 a5)))
   have HEs:=q8 (And.intro e0 (And.intro e2 (And.intro e3 (And.intro e4 e5))))
   clear hdq han hcb hct hbF hjP hjQ haY ybb fbb hu3 hqt haK ha1 a0
   obtain ⟨Wa,hWa⟩:∃Wa,Wa=four w10 gq (b*6) (.int .i64 y.fin.kind) (.bool y.fin.onr) (.int .i64 y.fin.onn) (.slice u3 y.fin.to.length du3):=⟨_,rfl⟩
   obtain ⟨Wf,hWf⟩:∃Wf,Wf=six Wa gq (t*6) (.slice none 0 0) (.slice none 0 0) (.int .i64 1) (.bool false) (.int .i64 0) (.slice none 0 0):=⟨_,rfl⟩
   have HWf:=q8 (show Wf=six (four w10 gq (b*6) (.int .i64 y.fin.kind) (.bool y.fin.onr) (.int .i64 y.fin.onn) (.slice u3 y.fin.to.length du3)) gq (t*6) (.slice none 0 0) (.slice none 0 0) (.int .i64 1) (.bool false) (.int .i64 0) (.slice none 0 0) by rw [hWf,hWa])
   have HWa:=q8 hWa
   have hn6:=q8 hWf
   clear hWa hWf
   go_wp2_with fail
   unfold six four at HWf
   rw [←HWf.out]
   clear HWf
   obtain ⟨a2,a3,a4,a5⟩:=HAs.out
   obtain ⟨e0,e2,e3,e4,e5⟩:=HEs.out
   have p1:RowPut w10 Wa 49 gq (b*6) 6 [.slice q1' x.phis.length d1',.slice pv (x.list++y.list).length cv,.int .i64 y.fin.kind,.bool y.fin.onr,.int .i64 y.fin.onn,.slice u3 y.fin.to.length du3]:=by
    rw [HWa.out]
    refine (RowPut.same (cs:=[.slice q1' x.phis.length d1',.slice pv (x.list++y.list).length cv,.int .i64 x.fin.kind,.bool x.fin.onr,.int .i64 x.fin.onn,.slice q3' x.fin.to.length d3']) hhc.out rfl (fun j hj=>?_)).four _ _ _ _
    have:j=0∨j=1∨j=2∨j=3∨j=4∨j=5:=by omega
    rcases this with rfl|rfl|rfl|rfl|rfl|rfl
    ·exact HA0.out
    ·exact hqA.out
    ·exact a2
    ·exact a3
    ·exact a4
    exact a5
   have hKa:Kept (fun k=>k=gq) w10 Wa:=by rw [HWa.out];exact four_kept _ _ _ _ _ _ _
   obtain ⟨cura,hjR⟩:∃cur,Wa.heap[gq]?=some (.cells cur 49 (0,0)):=by
    obtain ⟨_,c',_,h2,_⟩:=p1
    exact ⟨c',h2⟩
   have p2:RowPut Wa Wf 49 gq (t*6) 6 [.slice none 0 0,.slice none 0 0,.int .i64 1,.bool false,.int .i64 0,.slice none 0 0]:=by
    rw [hn6.out]
    refine (RowPut.same (cs:=[.slice u1' y.phis.length du1',.slice u2' y.list.length du2',.int .i64 y.fin.kind,.bool y.fin.onr,.int .i64 y.fin.onn,.slice u3' y.fin.to.length du3']) hjR rfl (fun j hj=>?_)).six rfl _ _ _ _ _ _
    rw [p1.outC (by omega)]
    have:j=0∨j=1∨j=2∨j=3∨j=4∨j=5:=by omega
    rcases this with rfl|rfl|rfl|rfl|rfl|rfl
    ·exact e0
    ·exact e2
    ·exact e3
    ·exact e4
    ·exact e5
    exact HE6.out
   have hKf:Kept (fun k=>k=gq) w10 Wf:=by
    refine hKa.trans (S':=fun k=>k=gq) ?_ (fun _ _ h=>h)
    rw [hn6.out]
    exact JY _ _ _ _ _ _ _ _ _
   have hgN:N gq:=HGN.out
   have hK9:Kept (fun k=>k=gq) w8 W9:=by rw [HW9.out];exact (Kept.refl (fun k=>k=gq) w8).setCell (p:=⟨gq,b*6+1,none⟩) rfl _
   have hhG:Kept N w8 w10:=(hK9.mono fun _ _ e=>by rw [e];exact hgN).trans hqy.out (fun _ _ h=>h.1)
   have hn7:SlQ 51 8 80 InsO w10 (.slice pv (x.list++y.list).length cv) ((atF g1 b).list++(atF g1 t).list) Lb:=by
    rw [qL hb1,qL htl,←HXe.out,←HYe.out]
    refine ⟨HJ1.out.kept zR hhG hmZ.out,?_⟩
    rw [List.length_append]
    unfold reachBytes
    omega
   have hlo:∀i (hi:i<g1.blocks.length),i≠b→i≠t→SlQ 51 8 80 InsO w10 (V i) g1.blocks[i].list (L i)∧Apart (L i) Lb∧Apart N (L i):=fun i hi h1 h2=>by
    refine ⟨⟨(((HS5.out.lst i hi).sl.below zR ((Below.refl _ w5).drew)).kept zR HJ3.out (fun k u v=>HS5.out.two b i hb1 hi (Ne.symm h1) k u v)).kept zR hhG (HS5.out.off i hi),(HS5.out.lst i hi).bd⟩,fun k u v=>?_,HS5.out.off i hi⟩
    rcases hmY.out k v with h|h|h
    ·exact HS5.out.two i b hi hb1 h1 k u h
    ·exact HS5.out.two i t hi htl h2 k u h
    have:=hqp.out i hi k u;omega
   have hv3:w10.cell? ⟨gq,t*6+5,none⟩=some (.slice u3 y.fin.to.length du3):=by rw [HE6.out,HU9.out]
   have hhf:y.fin=(atF g1 t).fin:=by rw [qL htl,HYe.out]
   have hJn:=ChS.joined (g:=g1) (V:=V) (L:=L) hb1 htl hne hqx.out hn7 hmZ.out hlo HS5.out.two HA0.out hv3 (by rw [←hhf];exact p1) p2 hKf
   have hLn:∀i,i<f.blocks.length→∀k,l2J L b t Lb i k→S k∨W1.heap.size≤k:=fun i hi k hk=>by
    unfold l2J at hk
    by_cases h1:i=t
    ·rw [if_pos h1] at hk;exact hk.elim
    rw [if_neg h1] at hk
    by_cases h2:i=b
    ·rw [if_pos h2] at hk
     rcases hmY.out k hk with h|h|h
     ·exact HL1.out b hbl k h
     ·exact HL1.out t htf k h
     right;omega
    rw [if_neg h2] at hk
    exact HL1.out i hi k hk
   have hKn:Kept S W1 Wf:=by
    have h1:Kept S W1 w8:=(HK1.out.trans (Kept.of_below (S:=fun _=>False) HB5.out) (fun _ _ h=>h.elim)).drew.trans HJ3.out (fun k hk h=>(HL1.out b hbl k h).elim id (fun h=>by omega))
    exact (h1.trans hhG (fun k _ h=>HNS.out k h)).trans hKf (fun k _ e=>by rw [e];exact HNS.out gq hgN)
   have hjj:=Zl M.out (by rw [qL hb1,←HXe.out];exact hkd)
   have hcj:=HJc.out
   obtain ⟨c',rfl⟩:∃c',c=c'+1:=⟨c - 1,by omega⟩
   have hng:qW c' (x8 g1 b t) b=qW (f.blocks.length+1) g b:=by
    rw [←hh7.out]
    show _=(match jq g1 b with|none=>g1|some t=>qW c' (x8 g1 b t) b)
    rw [HMs.out]
   have hjl:(x8 g1 b t).blocks.length=g1.blocks.length:=qM g1 b t
   have ha7:=q8 (And.intro hJn (And.intro hLn (And.intro hKn hng)))
   clear hJn hLn hKn hng p1 p2 hKa hKf hK9 hhG hn7 hlo hv3 hhf a2 a3 a4 a5 e0 e2 e3 e4 e5
   go_roundg (vW (x8 g1 b t))
   case measure=>omega
   case rel=>exact ⟨x8 g1 b t,_,_,c',rfl,by omega,ha7.out.2.2.2,hbV.out.join M.out,HH1.out.join b t,ha7.out.1,ha7.out.2.1,ha7.out.2.2.1⟩

end Go.Proofs.YtgjjhadbjmcnpaaGreatDoor
