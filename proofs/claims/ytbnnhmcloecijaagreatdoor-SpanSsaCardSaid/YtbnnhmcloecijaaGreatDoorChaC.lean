/-
  The contract of tidy.ChainsOf.
-/
import Derived.Test.YtbnnhmcloecijaaGreatDoorRenB
set_option maxRecDepth 100000
set_option maxHeartbeats 16000000
namespace Go.Proofs.YtbnnhmcloecijaaGreatDoor
open Go.RowKit Go.Shelf

def HeadLike (g f:FunL):Prop:=g.name=f.name∧g.params=f.params∧g.regs=f.regs∧g.blocks.length=f.blocks.length
theorem HeadLike.join {g f:FunL} (h:HeadLike g f) (b t:Nat):HeadLike (xg g b t) f:=⟨h.1,h.2.1,h.2.2.1,by rw [qJ];exact h.2.2.2⟩
theorem RowPut.outC {w w1:World} {e:TypeId} {g o size j:Nat} {cs:List Value} (h:RowPut w w1 e g o size cs) (hj:j<o∨o+size≤j):w1.cell? ⟨g,j,none⟩=w.cell? ⟨g,j,none⟩:=by
 obtain ⟨c,c',a,b,_,_,r⟩:=h
 exact (cell_of_row w1 g _ c' e (0,0) b).trans ((r j hj).trans (cell_of_row w g _ c e (0,0) a).symm)

theorem mB {nf:Nat} {P:Nat→Int} (f:FunL) (hC:FunC nf P f) (q:Option Addr) (e1:Nat) (w:World) (S:Blks) (hF:FunO w [.string f.name,.int .i64 f.params,.int .i64 f.regs,.slice q f.blocks.length e1] f S) :
  Calls Tryz.prog 63 #[.agg #[.string f.name,.int .i64 f.params,.int .i64 f.regs,.slice q f.blocks.length e1]] w fun e w'=>∃p c S',e = .returned (.agg #[.string f.name,.int .i64 f.params,.int .i64 f.regs,.slice p f.blocks.length c])∧
   FunO w' [.string f.name,.int .i64 f.params,.int .i64 f.regs,.slice p f.blocks.length c] (qY f) S'∧(∀g,S' g→S g∨w.heap.size≤g)∧Kept S w w':=by
 obtain ⟨iI,l1,l2,l3,l4⟩:=info_parts Jg
 have hn0:=hC.n1
 have hd9:=hC.n40
 obtain ⟨v0,haX,hnm,i1,i2,hB⟩:=hF
 have hv0:v0 = .slice q f.blocks.length e1:=by simpa using haX.symm
 subst hv0
 obtain ⟨gq,cq,_,_,hvq,_⟩:=hB.sl.focus qK (by omega) hn0
 have hq:q=some ⟨gq,0,none⟩:=by injection hvq
 subst hq
 obtain ⟨V,N,L,hCh,hNS,hLS⟩:=ChS.of hB.sl hn0
 have hSb:=hB.sl.inb
 have HC:=q7 hC
 have HCh:=q7 hCh
 have HNS:=q7 hNS
 have HLS:=q7 hLS
 have HSb:=q7 hSb
 have HN:=q7 (zh hnm (zh i1 i2))
 have HBd:=q7 hB.bd
 clear hC hCh hNS hLS hSb hnm i1 i2 hB haX hvq
 go_enter Tryz.func63,Tryz.ntmps63
 go_wp2_with fail
 obtain ⟨W1,hW1⟩:∃W1,W1=(w.alloc (.cells #[.string f.name,.int .i64 f.params,.int .i64 f.regs,.slice (some ⟨gq,0,none⟩) f.blocks.length e1] 36)).alloc (.cells #[.string { data:=#[] },.int .i64 0,.int .i64 0,.slice none 0 0] 36):=⟨_,rfl⟩
 rw [←hW1]
 have hz1:W1.heap.size=w.heap.size+1+1:=by rw [hW1];simp
 have hb1:Below w.heap.size w W1:=by rw [hW1];exact bZ
 have hF1:W1.heap[w.heap.size]?=some (.cells #[.string f.name,.int .i64 f.params,.int .i64 f.regs,.slice (some ⟨gq,0,none⟩) f.blocks.length e1] 36 (0,0)):=by rw [hW1];exact qg (qh rfl)
 have hZ1:W1.heap[w.heap.size+1]?=some (.cells #[.string { data:=#[] },.int .i64 0,.int .i64 0,.slice none 0 0] 36 (0,0)):=by rw [hW1];exact qh (by simp)
 have HB1:=q7 hb1
 have HF1:=q7 hF1
 have HZ1:=q7 hZ1
 have HC1:=q7 (HCh.out.below hb1)
 clear hW1 hb1 hF1 hZ1
 go_loopg [3] f.blocks.length (fun q s3 wr=>∃(b:Nat) (g:FunL) (V:Nat→Value) (L:Nat→Blks),b≤f.blocks.length∧q=f.blocks.length - b∧s3 = .int .i64 b∧g=(List.range b).foldl (fun g b=>zl (f.blocks.length+1) g b) f∧FunC nf P g∧HeadLike g f∧ChS wr gq e1 g.blocks V N L∧(∀i,i<f.blocks.length→∀k,L i k→S k∨W1.heap.size≤k)∧Kept S W1 wr)
 case atStart=>exact ⟨0,f,V,L,by omega,rfl,rfl,rfl,HC.out,⟨rfl,rfl,rfl,rfl⟩,HC1.out,fun i hi k h=>.inl (HLS.out i hi k h),Kept.refl _ _⟩
 case round=>
  obtain ⟨b,g,V,L,hb,rfl,rfl,hg,hCg,hH,hS,hL,hK⟩:=hrel
  obtain ⟨wo,hwo⟩:∃wo,wo=wr:=⟨_,rfl⟩
  subst hwo
  have hgl:=hH.2.2.2
  have hsz:=hK.size
  have hSw:∀k,S k→k<w.heap.size:=fun k hk=>HSb.out k hk
  have hFo:wo.heap[w.heap.size]?=some (.cells #[.string f.name,.int .i64 f.params,.int .i64 f.regs,.slice (some ⟨gq,0,none⟩) f.blocks.length e1] 36 (0,0)):=(hK.block _ (by omega) (fun h=>by have:=hSw _ h;omega)).trans HF1.out
  obtain ⟨fb,ff⟩:=blk hFo
  have fb0:=fb 0
  have fb1:=fb 1
  have fb2:=fb 2
  have fb3:=fb 3
  simp only [zE,zB,zD] at fb0 fb1 fb2 fb3
  have fz:=q8 hFo
  have HG:=q7 hg
  have HCg:=q7 hCg
  have HH:=q7 hH
  have HSo:=q7 hS
  have HLo:=q7 hL
  have HKo:=q7 hK
  have HSw:=q7 hSw
  have HGl:=q7 hgl
  clear hg hCg hH hS hL hK hSw hFo hgl fb
  by_cases hbl:b<f.blocks.length
  rotate_left
  ·obtain rfl:b=f.blocks.length:=by omega
   have hgT:g=qY f:=HG.out
   have hZo:wo.heap[w.heap.size+1]?=some (.cells #[.string { data:=#[] },.int .i64 0,.int .i64 0,.slice none 0 0] 36 (0,0)):=(HKo.out.block _ (by omega) (fun h=>by have:=HSw.out _ h;omega)).trans HZ1.out
   obtain ⟨zb,zf⟩:=blk hZo
   have zb0:=zb 0
   have zb1:=zb 1
   have zb2:=zb 2
   have zb3:=zb 3
   simp only [zE,zB,zD] at zb0 zb1 zb2 zb3
   have zz:=q8 hZo
   have hne1:¬ (w.heap.size+1=w.heap.size):=by omega
   have hne2:¬ (w.heap.size=w.heap.size+1):=by omega
   have HZo:=q7 hZo
   have HGT:=q7 hgT
   clear hZo zb hgT
   go_wp2_with fail
   obtain ⟨WF,hWF⟩:∃WF,WF=(((wo.setCell ⟨w.heap.size+1,0,none⟩ (.string f.name)).setCell ⟨w.heap.size+1,1,none⟩ (.int .i64 f.params)).setCell ⟨w.heap.size+1,2,none⟩ (.int .i64 f.regs)).setCell ⟨w.heap.size+1,3,none⟩ (.slice (some ⟨gq,0,none⟩) f.blocks.length e1):=⟨_,rfl⟩
   rw [←hWF]
   have hKf:Kept (fun i=>i=w.heap.size+1) wo WF:=by
    rw [hWF]
    have h0:Kept (fun i=>i=w.heap.size+1) wo wo:=Kept.refl _ wo
    have h2:=h0.setCell (p:=⟨w.heap.size+1,0,none⟩) rfl (.string f.name)
    have h3:=h2.setCell (p:=⟨w.heap.size+1,1,none⟩) rfl (.int .i64 f.params)
    have h4:=h3.setCell (p:=⟨w.heap.size+1,2,none⟩) rfl (.int .i64 f.regs)
    exact h4.setCell (p:=⟨w.heap.size+1,3,none⟩) rfl (.slice (some ⟨gq,0,none⟩) f.blocks.length e1)
   have hRF:WF.heap[w.heap.size+1]?=some (.cells #[.string f.name,.int .i64 f.params,.int .i64 f.regs,.slice (some ⟨gq,0,none⟩) f.blocks.length e1] 36 (0,0)):=by
    rw [hWF,qq (qq (qq (qq HZo.out 0 _) 1 _) 2 _) 3 _]
    rfl
   clear hWF
   obtain ⟨rb,_⟩:=blk hRF
   have rb0:=rb 0
   have rb1:=rb 1
   have rb2:=rb 2
   have rb3:=rb 3
   simp only [zE,zB,zD] at rb0 rb1 rb2 rb3
   have hsl:=HSo.out.to
   have hbd:∀k,(N k∨∃i,i<g.blocks.length∧L i k)→S k∨W1.heap.size≤k:=fun k hk=>by
    rcases hk with h|⟨i,hi,h⟩
    ·exact .inl (HNS.out k h)
    exact HLo.out i (by have:=HGl.out;omega) k h
   have hgl:=HGl.out
   obtain ⟨hh1,hh2,hh3,_⟩:=HH.out
   have hfin:FunO WF [.string f.name,.int .i64 f.params,.int .i64 f.regs,.slice (some ⟨gq,0,none⟩) f.blocks.length e1] (qY f) (fun k=>N k∨∃i,i<g.blocks.length∧L i k):=by
    rw [←HGT.out]
    refine ⟨_,by rw [hh1,hh2,hh3],by rw [hh1];exact HN.out.1,by rw [hh2];exact HN.out.2.1,by rw [hh3];exact HN.out.2.2,⟨?_,by rw [hgl];exact HBd.out⟩⟩
    have h1:=hsl.kept qK hKf (fun k h1 h2=>by
     rcases hbd k h2 with h|h
     ·have:=HSw.out k h;omega
     omega)
    rw [hgl] at h1 ⊢
    exact h1
   refine zk (v:=.agg #[.string f.name,.int .i64 f.params,.int .i64 f.regs,.slice (some ⟨gq,0,none⟩) f.blocks.length e1]) ?_ rfl ⟨_,_,_,rfl,hfin,fun k hk=>?_,?_⟩
   ·simp [results,Tryz.results63,go_sem,rb0,rb1,rb2,rb3]
   ·rcases hbd k hk with h|h
    ·exact .inl h
    right;omega
   exact ((Kept.of_below HB1.out).trans HKo.out (fun k _ h=>h)).trans hKf (fun k h1 h2=>by omega)
  go_wp2_with fail
  clear fb0 fb1 fb2 fb3 ff fz
  go_loopg [] (Qf g) (fun q wr=>∃(g':FunL) (V:Nat→Value) (L:Nat→Blks) (c:Nat),q=Qf g'∧Qf g'<c∧zl c g' b=zl (f.blocks.length+1) g b∧FunC nf P g'∧HeadLike g' f∧ChS wr gq e1 g'.blocks V N L∧(∀i,i<f.blocks.length→∀k,L i k→S k∨W1.heap.size≤k)∧Kept S W1 wr)
  case atStart=>exact ⟨g,V,L,f.blocks.length+1,rfl,by have:=jumps_le g;have:=HGl.out;omega,rfl,HCg.out,HH.out,HSo.out,HLo.out,HKo.out⟩
  case round=>
   clear HSo HLo HKo hsz
   obtain ⟨g1,V,L,c,rfl,hjc,hch,hCg,hH,hS,hL,hK⟩:=hrel
   obtain ⟨wi,hwi⟩:∃wi,wi=wr:=⟨_,rfl⟩
   subst hwi
   have hgl:=hH.2.2.2
   have hb1:b<g1.blocks.length:=by omega
   have hsz:=hK.size
   have hFi:wi.heap[w.heap.size]?=some (.cells #[.string f.name,.int .i64 f.params,.int .i64 f.regs,.slice (some ⟨gq,0,none⟩) f.blocks.length e1] 36 (0,0)):=(hK.block _ (by omega) (fun h=>by have:=HSw.out _ h;omega)).trans HF1.out
   obtain ⟨fb,ff⟩:=blk hFi
   have fb0:=fb 0
   have fb1:=fb 1
   have fb2:=fb 2
   have fb3:=fb 3
   simp only [zE,zB,zD] at fb0 fb1 fb2 fb3
   have fz:=q8 hFi
   obtain ⟨q1,d1,p2,d2,q3,d3,hVb,hcb,hgN,hgz,hgf,hTo⟩:=hS.at hb1
   have b0:=hcb 0 (by omega)
   have b1:=hcb 1 (by omega)
   have b2:=hcb 2 (by omega)
   have b3:=hcb 3 (by omega)
   have b4:=hcb 4 (by omega)
   have b5:=hcb 5 (by omega)
   simp only [zB,zD,yJ] at b0 b1 b2 b3 b4 b5
   have hEb:=hCg.fin b hb1
   obtain ⟨x,hxe⟩:∃x,x=g1.blocks[b]:=⟨_,rfl⟩
   rw [←hxe] at b0 b1 b2 b3 b4 b5 hTo hEb hVb
   have HXe:=q7 hxe
   have HJc:=q7 hjc
   have hh6:=q7 hch
   have hcO:=q7 hCg
   have HH1:=q7 hH
   have HS1:=q7 hS
   have HL1:=q7 hL
   have HK1:=q7 hK
   have HFi:=q7 hFi
   have HTo:=q7 hTo
   have HEb:=q7 hEb
   have HVb:=q7 hVb
   have hh7:=q7 hgl
   have HGf:=q7 hgf
   have HGN:=q7 hgN
   clear hxe hjc hch hCg hH hS hL hK hFi hTo hEb hVb hgl hgN fb hcb
   by_cases hkd:x.fin.kind=2
   rotate_left
   ·have hkb:(x.fin.kind == (2:Int))=false:=by simpa using hkd
    have hmn:Xy g1 b=none:=by
     cases h:Xy g1 b with
     | none=>rfl
     | some t=>exact absurd (by have:=Vw h;rwa [qC hb1,←HXe.out] at this) hkd
    have hfin:zl (f.blocks.length+1) g b=g1:=by rw [←hh6.out,k9 hmn]
    have HFin:=q7 hfin
    clear hfin hmn
    go_wp2_with fail
    go_roundg (f.blocks.length - (b+1))
    case measure=>omega
    case rel=>exact ⟨b+1,g1,V,L,by omega,rfl,by go_num,by rw [yt,yh,←HG.out];exact HFin.out.symm,hcO.out,HH1.out,HS1.out,HL1.out,HK1.out⟩
   have hkb:(x.fin.kind == (2:Int))=true:=by simpa using hkd
   have hl1:x.fin.to.length=1:=by have:=HEb.out.len;omega
   obtain ⟨b3t,o3t,cs3,hp3,hsC,hc3,hr3⟩:=HTo.out.get (i:=0) (by omega)
   clear hsC
   obtain ⟨hjQ,hec⟩:=hr3
   clear hec
   subst hjQ
   have htb:=HEb.out.to _ (zP (show 0<x.fin.to.length by omega))
   obtain ⟨t,ht⟩:∃t:Nat,x.fin.to[0]=(t:Int):=⟨x.fin.to[0].toNat,by omega⟩
   rw [ht] at htb hc3
   have htl:t<g1.blocks.length:=by omega
   have hto:x.fin.to=[(t:Int)]:=by
    rcases e:x.fin.to with _|⟨y,_|⟨z,l⟩⟩
    ·simp [e] at hl1
    ·simp only [e,List.getElem_cons_zero] at ht
     rw [ht]
    simp [e] at hl1
   have c3:=hc3 0 (by omega)
   simp only [zB,yJ,Nat.zero_mul] at c3
   have huX:=qd c3
   obtain ⟨u1,du1,u2,du2,u3,du3,hVt,hct,_,_,_,hjV⟩:=HS1.out.at htl
   obtain ⟨y,hye⟩:∃y,y=g1.blocks[t]:=⟨_,rfl⟩
   rw [←hye] at hct hVt hjV
   have t0:=hct 0 (by omega)
   have t1:=hct 1 (by omega)
   have t2:=hct 2 (by omega)
   have t3:=hct 3 (by omega)
   have t4:=hct 4 (by omega)
   have t5:=hct 5 (by omega)
   simp only [zB,zD,yJ] at t0 t1 t2 t3 t4 t5
   have haD:Xy g1 b=if t=b∨0<y.phis.length∨1<(insN g1 t).length then none else some t:=by
    have h1:((atF g1 b).fin.to.getD 0 0).toNat=t:=by rw [qC hb1,←HXe.out,hto];simp
    unfold Xy
    dsimp only
    rw [h1,qC hb1,←HXe.out,qC htl,←hye]
    by_cases h:t=b∨0<y.phis.length∨1<(insN g1 t).length
    ·rw [zQ (fun a=>a.2 h),zZ h]
    rw [zZ ⟨hkd,h⟩,zQ h]
   have HTl:=q7 hto
   have hT5:=q7 t5
   have HL9:=q7 hl1
   have h0t:0<x.fin.to.length:=by omega
   have htf:t<f.blocks.length:=by have:=hh7.out;omega
   have HYe:=q7 hye
   have HVt:=q7 hVt
   have huY:=q7 hjV
   have haS:=q7 haD
   have hsD:gq<wi.heap.size:=hgz
   subst hp3
   clear ht hto hye hVt hjV haD hct hc3 hl1
   by_cases hc1:t=b
   ·have hq1:((t:Int) == (b:Int))=true:=by simp [hc1]
    have hmn:Xy g1 b=none:=by rw [haS.out,zZ (.inl hc1)]
    clear hc1
    have hfin:zl (f.blocks.length+1) g b=g1:=by rw [←hh6.out,k9 hmn]
    have HFin:=q7 hfin
    clear hfin hmn
    go_wp2_with fail
    go_roundg (f.blocks.length - (b+1))
    case measure=>omega
    case rel=>exact ⟨b+1,g1,V,L,by omega,rfl,by go_num,by rw [yt,yh,←HG.out];exact HFin.out.symm,hcO.out,HH1.out,(HS1.out.below bZ),HL1.out,(HK1.out.trans (Kept.of_below (S:=fun _=>False) bZ) (fun _ _ h=>h.elim))⟩
   have hq1:((t:Int) == (b:Int))=false:=by simp;omega
   by_cases hc2:0<y.phis.length
   ·have hmn:Xy g1 b=none:=by rw [haS.out,zZ (.inr (.inl hc2))]
    have hfin:zl (f.blocks.length+1) g b=g1:=by rw [←hh6.out,k9 hmn]
    have HFin:=q7 hfin
    clear hfin hmn
    go_wp2_with fail
    go_roundg (f.blocks.length - (b+1))
    case measure=>omega
    case rel=>exact ⟨b+1,g1,V,L,by omega,rfl,by go_num,by rw [yt,yh,←HG.out];exact HFin.out.symm,hcO.out,HH1.out,(HS1.out.below bZ),HL1.out,(HK1.out.trans (Kept.of_below (S:=fun _=>False) bZ) (fun _ _ h=>h.elim))⟩
   have hc2':y.phis.length=0:=by omega
   have hAt:=fun (W':World) (hb:Below wi.heap.size wi W')=>show ∀i,i<g1.blocks.length→V4 W' gq 0 i ((Qh g1).getD i []) from fun i hi=>by
    obtain ⟨cs,T,hW⟩:=HS1.out.row
    exact blkAtN hW hb i hi
   have HAt:=q7 hAt
   clear hAt
   have hhd:=HH1.out
   obtain ⟨hh1,hh2,hh3,hh4⟩:=hhd
   have huZ:decide ((0:Int)<(y.phis.length:Int))=false:=by simp [hc2']
   have HC2:=q7 hc2'
   go_wp2_with fail
   have hjW:Below wi.heap.size wi (wi.alloc (.cells #[.slice u1 0 du1,.slice u2 y.list.length du2,.int .i64 y.fin.kind,.bool y.fin.onr,.int .i64 y.fin.onn,.slice u3 y.fin.to.length du3] 45)):=by exact bZ
   refine (j7 f.name f.params f.regs gq 0 e1 f.blocks.length (Qh g1) _ hd9 (fun i hi=>HAt.out _ hjW i (by have:=hh7.out;omega)) (fun i hi=>by
    have h1:=hcO.out.funD.toFunS.tosD i (by have:=hh7.out;omega)
    refine ⟨h1.1,fun t ht=>?_⟩
    have h2:=h1.2 t ht
    have:=hh7.out
    omega)).mono ?_
   rintro e w5 ⟨⟨tf,rfl,haa⟩,hb5⟩
   have hcQ:=haa
   rw [←hh7.out] at hcQ
   have hAi:=AheadIn.of hcQ
   obtain ⟨T1,hT1⟩:∃T1,T1=(wi.alloc (.cells #[.slice u1 0 du1,.slice u2 y.list.length du2,.int .i64 y.fin.kind,.bool y.fin.onr,.int .i64 y.fin.onn,.slice u3 y.fin.to.length du3] 45)).heap.size+1:=⟨_,rfl⟩
   rw [←hT1] at hAi ⊢
   have hjX:Below wi.heap.size wi w5:=hjW.trans (hb5.mono (by simp))
   obtain ⟨⟨_,hmH⟩,hAr⟩:=hAi
   obtain ⟨qa,qc,ha0,_⟩:=hAr t htl
   have hY5:w5.heap[wi.heap.size]?=some (.cells #[.slice u1 0 du1,.slice u2 y.list.length du2,.int .i64 y.fin.kind,.bool y.fin.onr,.int .i64 y.fin.onn,.slice u3 y.fin.to.length du3] 45 (0,0)):=qj hb5 (by simp) (qh rfl)
   have hz5:=hjX.size
   have hv9:wi.heap.size<w5.heap.size:=q8 hY5
   have HB5:=q7 hjX
   have HY5:=q7 hY5
   clear haa hcQ hAr hb5 hjW hT1 hjX hY5
   by_cases hc3:1<(insN g1 t).length
   ·have hmn:Xy g1 b=none:=by rw [haS.out,zZ (.inr (.inr hc3))]
    have hfin:zl (f.blocks.length+1) g b=g1:=by rw [←hh6.out,k9 hmn]
    have HFin:=q7 hfin
    clear hfin hmn
    go_wp2_with fail
    go_roundg (f.blocks.length - (b+1))
    case measure=>omega
    case rel=>exact ⟨b+1,g1,V,L,by omega,rfl,by go_num,by rw [yt,yh,←HG.out];exact HFin.out.symm,hcO.out,HH1.out,(HS1.out.below HB5.out),HL1.out,(HK1.out.trans (Kept.of_below (S:=fun _=>False) HB5.out) (fun _ _ h=>h.elim))⟩
   have hms:Xy g1 b=some t:=by rw [haS.out,zQ (by have:=HC2.out;omega)]
   have m:=mayJ hcO.out hb1 hms
   have M:=q7 m
   have HMs:=q7 hms
   clear m hms
   have hg5:w5.heap[gq]?=wi.heap[gq]?:=HB5.out.block gq hsD
   have b1':w5.cell? ⟨gq,b*6+1,none⟩=some (.slice p2 x.list.length d2):=(zN (a:=⟨gq,b*6+1,none⟩) hg5).trans b1
   have b1f:w5.frozen? ⟨gq,b*6+1,none⟩=false:=(yB (a:=⟨gq,b*6+1,none⟩) hg5).trans (HGf.out _)
   have hF5:w5.heap[w.heap.size]?=some (.cells #[.string f.name,.int .i64 f.params,.int .i64 f.regs,.slice (some ⟨gq,0,none⟩) f.blocks.length e1] 36 (0,0)):=(HB5.out.block _ (by omega)).trans HFi.out
   clear fb0 fb1 fb2 fb3 ff fz
   obtain ⟨fb,ff⟩:=blk hF5
   have fb3:=fb 3
   simp only [zE,zB,zD] at fb3
   have fz:=q8 hF5
   clear fb
   have HF5:=q7 hF5
   have HG5:=q7 hg5
   have hS5:=HS1.out.below HB5.out
   have HS5:=q7 hS5
   have hlists:x.list.length+y.list.length≤600:=by
    have h1:=Vx (f:=g1) hb1
    have h2:=Vx (f:=g1) htl
    have h3:=hcO.out.many
    rw [←HXe.out] at h1
    rw [←HYe.out] at h2
    omega
   clear hF5 hg5 hS5
   go_wp2_with fail
   obtain ⟨Sp,hSp⟩:∃Sp:World→Prop,Sp=fun w'=>w'.heap[gq]?=w5.heap[gq]?∧w'.heap[wi.heap.size]?=some (.cells #[.slice u1 0 du1,.slice u2 y.list.length du2,.int .i64 y.fin.kind,.bool y.fin.onr,.int .i64 y.fin.onn,.slice u3 y.fin.to.length du3] 45 (0,0)):=⟨_,rfl⟩
   have ha7:∀w',Sp w'→w'.cell? ⟨gq,b*6+1,none⟩=some (.slice p2 x.list.length d2)∧w'.cell? ⟨wi.heap.size,1,none⟩=some (.slice u2 y.list.length du2)∧wi.heap.size<w'.heap.size∧w'.frozen? ⟨gq,b*6+1,none⟩=false:=fun w' h=>by
    rw [hSp] at h
    exact ⟨(zN (a:=⟨gq,b*6+1,none⟩) h.1).trans b1',(blk h.2).1 1,q8 h.2,(yB (a:=⟨gq,b*6+1,none⟩) h.1).trans b1f⟩
   have hS6:Sp w5.drew:=by rw [hSp];exact ⟨rfl,HY5.out⟩
   have hne:t≠b:=hc1
   refine qr (S:=Sp) (by kernel_rfl) 10 ?_
   refine tkZ 0 54 (.pointer (some ⟨gq,b*6,none⟩)) rfl rfl hS6 (fun w' h=>?_) ?_
   ·obtain ⟨h1,h2,h3,h4⟩:=ha7 w' h
    go_simp
   refine tkZ 1 55 (.pointer (some ⟨gq,b*6,none⟩)) rfl rfl hS6 (fun w' h=>?_) ?_
   ·obtain ⟨h1,h2,h3,h4⟩:=ha7 w' h
    go_simp
   refine tkZ 2 56 (.pointer (some ⟨gq,b*6,none⟩)) rfl rfl hS6 (fun w' h=>?_) ?_
   ·obtain ⟨h1,h2,h3,h4⟩:=ha7 w' h
    go_simp
   refine tkZ 3 57 (.pointer (some ⟨gq,b*6+1,none⟩)) rfl rfl hS6 (fun w' h=>?_) ?_
   ·obtain ⟨h1,h2,h3,h4⟩:=ha7 w' h
    go_simp
   refine tkZ 4 58 (.slice p2 x.list.length d2) rfl rfl hS6 (fun w' h=>?_) ?_
   ·obtain ⟨h1,h2,h3,h4⟩:=ha7 w' h
    go_simp
   refine tkZ 5 59 (.pointer (some ⟨wi.heap.size,1,none⟩)) rfl rfl hS6 (fun w' h=>?_) ?_
   ·obtain ⟨h1,h2,h3,h4⟩:=ha7 w' h
    go_simp
   refine tkZ 6 60 (.slice u2 y.list.length du2) rfl rfl hS6 (fun w' h=>?_) ?_
   ·obtain ⟨h1,h2,h3,h4⟩:=ha7 w' h
    go_simp
   have hLb:=HS5.out.lst b hb1
   have hLt:=HS5.out.lst t htl
   rw [←HXe.out,HVb.out] at hLb
   rw [←HYe.out,HVt.out] at hLt
   obtain ⟨v',w8,hr,hJ⟩:=ZV (P:=Tryz.prog) w5.drew 38 38 57 iI _ 8 80 Tryz.underlying38 l1 l2 l3 l4 rfl (by decide) xt (hLb.sl.below xt ((zI _ w5).drew)) (hLt.sl.below xt ((zI _ w5).drew)) (HS5.out.two b t hb1 htl (Ne.symm hne)) (by unfold maxLen;omega) (by omega)
   obtain ⟨Lb,hJ1,hJ2,hJ3⟩:=hJ
   obtain ⟨pv,cv,hv',_⟩:=hJ1.val
   have hS8:Sp w8:=by
    rw [hSp] at hS6 ⊢
    exact ⟨(hJ3.block _ (by show gq<w5.heap.size;omega) (fun h=>HS5.out.off b hb1 _ HGN.out h)).trans hS6.1,(hJ3.block _ (by show wi.heap.size<w5.heap.size;omega) (fun h=>by have:=(HS1.out.lst b hb1).sl.inb _ h;omega)).trans hS6.2⟩
   refine qk (i:=7) (by kernel_rfl) (qz 61 v' w8 rfl rfl rfl (ZS rfl (by go_simp) (by go_simp) hr) hS8 ?_)
   refine qk (i:=8) (by kernel_rfl) (qz 62 (.pointer (some ⟨gq,b*6,none⟩)) w8 rfl rfl rfl (by go_simp) hS8 ?_)
   refine qk (i:=9) (by kernel_rfl) (qz 63 (.pointer (some ⟨gq,b*6+1,none⟩)) w8 rfl rfl rfl (by go_simp) hS8 ?_)
   obtain ⟨s1,s2,s3,s4⟩:=ha7 w8 hS8
   have hz8:w5.heap.size≤w8.heap.size:=hJ3.size
   have hg8:gq<w8.heap.size:=by omega
   subst hv'
   refine qk (i:=10) (by kernel_rfl) (qA (w8.setCell ⟨gq,b*6+1,none⟩ (.slice pv (x.list++y.list).length cv)) rfl rfl rfl (by go_simp) (fun h=>absurd rfl h) (qx (by kernel_rfl) ?_ _))
   show Exit.inBlock 3 _ Exit.normal _ _
   have hNw:∀k,N k→k<w.heap.size:=fun k hk=>HSw.out k (HNS.out k hk)
   have hjY:∀k,Lb k→L b k∨L t k∨w5.heap.size≤k:=hJ2
   have hnW:∀i,i<g1.blocks.length→∀k,L i k→k<w5.heap.size:=fun i hi k hk=>(HS5.out.lst i hi).sl.inb k hk
   have hoff:∀i,i<g1.blocks.length→Apart N (L i):=HS5.out.off
   have hnX:Apart N Lb:=fun k h1 h2=>by
    rcases hjY k h2 with h|h|h
    ·exact hoff b hb1 k h1 h
    ·exact hoff t htl k h1 h
    have:=hNw k h1;omega
   have hep:SlO 45 6 Ku w8 (.slice (some ⟨gq,0,none⟩) g1.blocks.length e1) (kf V g1.blocks) N:=(HS5.out.row.below vy ((zI _ w5).drew)).kept vy hJ3 (fun k h1 h2=>hoff b hb1 k h2 h1)
   have het:=rowN_swap hep hb1 (p:=pv) (l:=(x.list++y.list).length) (k:=cv)
   have hnY:w8.heap[gq]?=w5.heap[gq]?:=by rw [hSp] at hS8;exact hS8.1
   have hY8:w8.heap[wi.heap.size]?=some (.cells #[.slice u1 0 du1,.slice u2 y.list.length du2,.int .i64 y.fin.kind,.bool y.fin.onr,.int .i64 y.fin.onn,.slice u3 y.fin.to.length du3] 45 (0,0)):=by rw [hSp] at hS8;exact hS8.2
   have hF8:w8.heap[w.heap.size]?=some (.cells #[.string f.name,.int .i64 f.params,.int .i64 f.regs,.slice (some ⟨gq,0,none⟩) f.blocks.length e1] 36 (0,0)):=(hJ3.block _ (by show w.heap.size<w5.heap.size;omega) (fun h=>by
    rcases HL1.out b hbl _ h with h|h
    ·have:=HSw.out _ h;omega
    omega)).trans HF5.out
   obtain ⟨W9,hW9⟩:∃W9,W9=w8.setCell ⟨gq,b*6+1,none⟩ (.slice pv (x.list++y.list).length cv):=⟨_,rfl⟩
   rw [←hW9] at het ⊢
   have hjZ:∀k,k≠gq→W9.heap[k]?=w8.heap[k]?:=fun k hk=>by rw [hW9];exact zJ _ _ _ k hk
   have hz9:W9.heap.size=w8.heap.size:=by rw [hW9];exact yK _ _ _
   have hgw:gq<w.heap.size:=hNw gq HGN.out
   obtain ⟨cur8,hh8⟩:∃cur,w8.heap[gq]?=some (.cells cur 45 (0,0)):=by
    obtain ⟨g',_,_,_,hgv,_,_,_,_,_,_,_,_,hcc,_⟩:=hep.focus vy (by omega) (i:=b) (by rw [xS];exact hb1)
    have hgg:g'=gq:=by
     injection hgv with a _ _
     injection a with a
     injection a with a
     exact a.symm
    rw [hgg] at hcc
    exact hcc
   have hP9:RowPut w8 W9 45 gq (b*6+1) 1 [.slice pv (x.list++y.list).length cv]:=by
    rw [hW9]
    exact RowPut.set (size:=1) (RowPut.same (size:=1) (cs:=[.slice p2 x.list.length d2]) hh8 rfl (fun j hj=>by
     obtain rfl:j=0:=by omega
     exact s1)) rfl (j:=0) (by omega) _
   have hc9:∀j,j≠b*6+1→W9.cell? ⟨gq,j,none⟩=wi.cell? ⟨gq,j,none⟩:=fun j hj=>(hP9.outC (by omega)).trans ((zN (a:=⟨gq,j,none⟩) hnY).trans (zN (a:=⟨gq,j,none⟩) HG5.out))
   have hc91:W9.cell? ⟨gq,b*6+1,none⟩=some (.slice pv (x.list++y.list).length cv):=(hP9.cell (j:=0) (show 0<1 by omega)).1
   have hh9:∃cur,W9.heap[gq]?=some (.cells cur 45 (0,0)):=by
    obtain ⟨_,c',_,h2,_⟩:=hP9
    exact ⟨c',h2⟩
   obtain ⟨hh1,hh2,hh3,hh4⟩:=HH1.out
   have hF9:W9.heap[w.heap.size]?=some (.cells #[.string g1.name,.int .i64 g1.params,.int .i64 g1.regs,.slice (some ⟨gq,0,none⟩) g1.blocks.length e1] 36 (0,0)):=by
    rw [hh1,hh2,hh3,hh4]
    exact (hjZ _ (by omega)).trans hF8
   have hcY:∀s:Nat,(s:Int)∈(atF g1 t).fin.to→s<g1.blocks.length:=fun s hs=>by
    rw [qC htl] at hs
    have:=(hcO.out.fin t htl).to _ hs
    omega
   have hcon:=mA g1 hcO.out.funD t b w.heap.size gq e1 (vJ V b (.slice pv (x.list++y.list).length cv)) W9 N htl hb1 (fun s hs p hp=>by
    have hsl:=hcY s hs
    rw [qC hsl] at hp
    exact (hcO.out.phi s hsl p hp).len) (fun h=>by
    have h1:=Vl (f:=g1) t t htl (by rw [qM htl,←qC htl];exact h)
    rw [M.out.one] at h1
    exact hne (by simpa using h1)) hF9 (fun h=>by have:=hNw _ h;omega) het
   have heM:=q7 hcon
   have HJ1:=q7 hJ1
   have HJ3:=q7 hJ3
   have hnZ:=q7 hjY
   have hsE:=q7 hnW
   have ho4:=q7 hnX
   have HNw:=q7 hNw
   have ho5:=q7 hjZ
   have HW9:=q7 hW9
   have HY8:=q7 hY8
   have HC9:=q7 hc9
   have hsF:=q7 hc91
   have hk7:=q7 hh9
   have HF8:=q7 hF8
   clear hcon hJ1 hJ2 hJ3 hjY hnW hnX hNw hjZ hW9 hY8 hc9 hc91 hh9 hF8 hep het hnY hP9 hh8 hF9 hcY hoff hh1 hh2 hh3 hh4 hS8 hS6 s1 s2 s3 s4 b0 b1 b2 b3 b4 b5 t0 t1 t2 t3 t4 t5 c3 ha0 b1' b1f fb3 ff
   go_wp2_with fail
   refine heM.out.mono ?_
   rintro e w10 ⟨rfl,hdM,haI⟩
   have haP:w10.heap[gq]?=W9.heap[gq]?:=haI.block gq (by omega) (fun h=>h.2 rfl)
   have hjF:=haI.size
   have hk8:w10.heap[wi.heap.size]?=some (.cells #[.slice u1 0 du1,.slice u2 y.list.length du2,.int .i64 y.fin.kind,.bool y.fin.onr,.int .i64 y.fin.onn,.slice u3 y.fin.to.length du3] 45 (0,0)):=(haI.block _ (by omega) (fun h=>by have:=HNw.out _ h.1;omega)).trans ((ho5.out _ (by omega)).trans HY8.out)
   have hku:w10.heap[w.heap.size]?=some (.cells #[.string f.name,.int .i64 f.params,.int .i64 f.regs,.slice (some ⟨gq,0,none⟩) f.blocks.length e1] 36 (0,0)):=(haI.block _ (by omega) (fun h=>by have:=HNw.out _ h.1;omega)).trans ((ho5.out _ (by omega)).trans HF8.out)
   obtain ⟨q1',d1',p2',d2',q3',d3',hsG,hcb,_,_,_,_⟩:=HS1.out.at hb1
   obtain ⟨u1',du1',u2',du2',u3',du3',_,hct,_,_,_,_⟩:=HS1.out.at htl
   rw [←HXe.out] at hcb
   rw [←HYe.out] at hct
   have hbY:∀j,j≠b*6+1→w10.cell? ⟨gq,j,none⟩=wi.cell? ⟨gq,j,none⟩:=fun j hj=>(zN (a:=⟨gq,j,none⟩) haP).trans (HC9.out j hj)
   have hbt:t*6+6≤b*6∨b*6+6≤t*6:=by omega
   have a0:=(hbY (b*6) (by omega)).trans (hcb 0 (by omega))
   have a2:=(hbY (b*6+2) (by omega)).trans (hcb 2 (by omega))
   have a3:=(hbY (b*6+2+1) (by omega)).trans (hcb 3 (by omega))
   have a4:=(hbY (b*6+2+2) (by omega)).trans (hcb 4 (by omega))
   have a5:=(hbY (b*6+2+3) (by omega)).trans (hcb 5 (by omega))
   have e0:=(hbY (t*6) (by omega)).trans (hct 0 (by omega))
   have e2:=(hbY (t*6+1) (by omega)).trans (hct 1 (by omega))
   have e3:=(hbY (t*6+2) (by omega)).trans (hct 2 (by omega))
   have e4:=(hbY (t*6+3) (by omega)).trans (hct 3 (by omega))
   have e5:=(hbY (t*6+4) (by omega)).trans (hct 4 (by omega))
   have e6:=(hbY (t*6+5) (by omega)).trans (hct 5 (by omega))
   simp only [zB,zD] at a0 a2 a3 a4 a5 e0 e2 e3 e4 e5 e6
   obtain ⟨cur10,hbI⟩:=hk7.out
   rw [←haP] at hbI
   have hsH:∀j,w10.frozen? ⟨gq,j,none⟩=false:=(blk hbI).2
   have hsK:gq<w10.heap.size:=by omega
   obtain ⟨ybb,ybf⟩:=blk hk8
   have y2:=ybb 2
   have y3:=ybb 3
   have y4:=ybb 4
   have y5:=ybb 5
   simp only [zE,zB,zD] at y2 y3 y4 y5
   have yz:=q8 hk8
   obtain ⟨fbb,ff⟩:=blk hku
   have fb3:=fbb 3
   simp only [zE,zB,zD] at fb3
   have fz10:=q8 hku
   have hwg:¬ (wi.heap.size=gq):=by omega
   have hBg:¬ (w.heap.size=gq):=by omega
   have hu3:Value.slice u3' y.fin.to.length du3' = .slice u3 y.fin.to.length du3:=by
    have h1:=hT5.out
    rw [hct 5 (by omega)] at h1
    exact Option.some.inj h1
   have HU9:=q7 hu3
   have HA0:=q7 a0
   have HE6:=q7 e6
   have hsM:=q7 hdM
   have hsN:=q7 haI
   have hha:=q7 hbI
   have ha1:w10.cell? ⟨gq,b*6+1,none⟩=some (.slice pv (x.list++y.list).length cv):=(zN (a:=⟨gq,b*6+1,none⟩) haP).trans hsF.out
   have hsQ:=q7 ha1
   have HAs:=q7 (zh a2 (zh a3 (zh a4 a5)))
   have HEs:=q7 (zh e0 (zh e2 (zh e3 (zh e4 e5))))
   clear hdM haI hcb hct hbY hk8 hku hbI ybb fbb hu3 hsG haP ha1 a0
   obtain ⟨Wa,hWa⟩:∃Wa,Wa=four w10 gq (b*6) (.int .i64 y.fin.kind) (.bool y.fin.onr) (.int .i64 y.fin.onn) (.slice u3 y.fin.to.length du3):=⟨_,rfl⟩
   obtain ⟨Wf,hWf⟩:∃Wf,Wf=six Wa gq (t*6) (.slice none 0 0) (.slice none 0 0) (.int .i64 1) (.bool false) (.int .i64 0) (.slice none 0 0):=⟨_,rfl⟩
   have HWf:=q7 (show Wf=six (four w10 gq (b*6) (.int .i64 y.fin.kind) (.bool y.fin.onr) (.int .i64 y.fin.onn) (.slice u3 y.fin.to.length du3)) gq (t*6) (.slice none 0 0) (.slice none 0 0) (.int .i64 1) (.bool false) (.int .i64 0) (.slice none 0 0) by rw [hWf,hWa])
   have HWa:=q7 hWa
   have ho6:=q7 hWf
   clear hWa hWf
   go_wp2_with fail
   unfold six four at HWf
   rw [←HWf.out]
   clear HWf
   obtain ⟨a2,a3,a4,a5⟩:=HAs.out
   obtain ⟨e0,e2,e3,e4,e5⟩:=HEs.out
   have p1:RowPut w10 Wa 45 gq (b*6) 6 [.slice q1' x.phis.length d1',.slice pv (x.list++y.list).length cv,.int .i64 y.fin.kind,.bool y.fin.onr,.int .i64 y.fin.onn,.slice u3 y.fin.to.length du3]:=by
    rw [HWa.out]
    refine (RowPut.same (cs:=[.slice q1' x.phis.length d1',.slice pv (x.list++y.list).length cv,.int .i64 x.fin.kind,.bool x.fin.onr,.int .i64 x.fin.onn,.slice q3' x.fin.to.length d3']) hha.out rfl (fun j hj=>?_)).four _ _ _ _
    have:j=0∨j=1∨j=2∨j=3∨j=4∨j=5:=by omega
    rcases this with rfl|rfl|rfl|rfl|rfl|rfl
    ·exact HA0.out
    ·exact hsQ.out
    ·exact a2
    ·exact a3
    ·exact a4
    exact a5
   have hKa:Kept (fun k=>k=gq) w10 Wa:=by rw [HWa.out];exact Vz _ _ _ _ _ _ _
   obtain ⟨cura,hky⟩:∃cur,Wa.heap[gq]?=some (.cells cur 45 (0,0)):=by
    obtain ⟨_,c',_,h2,_⟩:=p1
    exact ⟨c',h2⟩
   have p2:RowPut Wa Wf 45 gq (t*6) 6 [.slice none 0 0,.slice none 0 0,.int .i64 1,.bool false,.int .i64 0,.slice none 0 0]:=by
    rw [ho6.out]
    refine (RowPut.same (cs:=[.slice u1' y.phis.length du1',.slice u2' y.list.length du2',.int .i64 y.fin.kind,.bool y.fin.onr,.int .i64 y.fin.onn,.slice u3' y.fin.to.length du3']) hky rfl (fun j hj=>?_)).six rfl _ _ _ _ _ _
    rw [p1.outC (by omega)]
    have:j=0∨j=1∨j=2∨j=3∨j=4∨j=5:=by omega
    rcases this with rfl|rfl|rfl|rfl|rfl|rfl
    ·exact e0
    ·exact e2
    ·exact e3
    ·exact e4
    ·exact e5
    exact HE6.out
   have hKf:Kept (fun k=>k=gq) w10 Wf:=by
    refine hKa.trans (S':=fun k=>k=gq) ?_ (fun _ _ h=>h)
    rw [ho6.out]
    exact Y7 _ _ _ _ _ _ _ _ _
   have hgN:N gq:=HGN.out
   have hK9:Kept (fun k=>k=gq) w8 W9:=by rw [HW9.out];exact (Kept.refl (fun k=>k=gq) w8).setCell (p:=⟨gq,b*6+1,none⟩) rfl _
   have hhR:Kept N w8 w10:=(hK9.mono fun _ _ e=>by rw [e];exact hgN).trans hsN.out (fun _ _ h=>h.1)
   have ho7:SlQ 57 8 80 InsO w10 (.slice pv (x.list++y.list).length cv) ((atF g1 b).list++(atF g1 t).list) Lb:=by
    rw [qC hb1,qC htl,←HXe.out,←HYe.out]
    refine ⟨HJ1.out.kept xt hhR ho4.out,?_⟩
    rw [yN]
    unfold reachBytes
    omega
   have hlo:∀i (hi:i<g1.blocks.length),i≠b→i≠t→SlQ 57 8 80 InsO w10 (V i) g1.blocks[i].list (L i)∧Apart (L i) Lb∧Apart N (L i):=fun i hi h1 h2=>by
    refine ⟨⟨(((HS5.out.lst i hi).sl.below xt ((zI _ w5).drew)).kept xt HJ3.out (fun k u v=>HS5.out.two b i hb1 hi (Ne.symm h1) k u v)).kept xt hhR (HS5.out.off i hi),(HS5.out.lst i hi).bd⟩,fun k u v=>?_,HS5.out.off i hi⟩
    rcases hnZ.out k v with h|h|h
    ·exact HS5.out.two i b hi hb1 h1 k u h
    ·exact HS5.out.two i t hi htl h2 k u h
    have:=hsE.out i hi k u;omega
   have hv3:w10.cell? ⟨gq,t*6+5,none⟩=some (.slice u3 y.fin.to.length du3):=by rw [HE6.out,HU9.out]
   have hhc:y.fin=(atF g1 t).fin:=by rw [qC htl,HYe.out]
   have hJn:=ChS.joined (g:=g1) (V:=V) (L:=L) hb1 htl hne hsM.out ho7 ho4.out hlo HS5.out.two HA0.out hv3 (by rw [←hhc];exact p1) p2 hKf
   have hLn:∀i,i<f.blocks.length→∀k,l2J L b t Lb i k→S k∨W1.heap.size≤k:=fun i hi k hk=>by
    unfold l2J at hk
    by_cases h1:i=t
    ·rw [zZ h1] at hk;exact hk.elim
    rw [zQ h1] at hk
    by_cases h2:i=b
    ·rw [zZ h2] at hk
     rcases hnZ.out k hk with h|h|h
     ·exact HL1.out b hbl k h
     ·exact HL1.out t htf k h
     right;omega
    rw [zQ h2] at hk
    exact HL1.out i hi k hk
   have hKn:Kept S W1 Wf:=by
    have h1:Kept S W1 w8:=(HK1.out.trans (Kept.of_below (S:=fun _=>False) HB5.out) (fun _ _ h=>h.elim)).drew.trans HJ3.out (fun k hk h=>(HL1.out b hbl k h).elim id (fun h=>by omega))
    exact (h1.trans hhR (fun k _ h=>HNS.out k h)).trans hKf (fun k _ e=>by rw [e];exact HNS.out gq hgN)
   have hjj:=XV M.out (by rw [qC hb1,←HXe.out];exact hkd)
   have hcj:=HJc.out
   obtain ⟨c',rfl⟩:∃c',c=c'+1:=⟨c - 1,by omega⟩
   have ho8:zl c' (xg g1 b t) b=zl (f.blocks.length+1) g b:=by
    rw [←hh6.out]
    show _=(match Xy g1 b with|none=>g1|some t=>zl c' (xg g1 b t) b)
    rw [HMs.out]
   have hjl:(xg g1 b t).blocks.length=g1.blocks.length:=qJ g1 b t
   have ha6:=q7 (zh hJn (zh hLn (zh hKn ho8)))
   clear hJn hLn hKn ho8 p1 p2 hKa hKf hK9 hhR ho7 hlo hv3 hhc a2 a3 a4 a5 e0 e2 e3 e4 e5
   go_roundg (Qf (xg g1 b t))
   case measure=>omega
   case rel=>exact ⟨xg g1 b t,_,_,c',rfl,by omega,ha6.out.2.2.2,hcO.out.join M.out,HH1.out.join b t,ha6.out.1,ha6.out.2.1,ha6.out.2.2.1⟩

end Go.Proofs.YtbnnhmcloecijaaGreatDoor
