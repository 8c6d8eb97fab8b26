/-
  The contract of tidy.Keep.
-/
import Derived.Test.YtecdphhdmjmmnaaGreatDoorJChaA
import Derived.Test.YtecdphhdmjmmnaaGreatDoorJLivB
set_option maxRecDepth 100000
set_option maxHeartbeats 16000000
namespace Go.Proofs.YtecdphhdmjmmnaaGreatDoor
open Go.RowKit Go.Shelf

theorem Vx {nf:Nat} {P:Nat→Int} (f:FunL) (hC:FunC nf P f) (o:List Nat) (ho:OrdC f o) (q:Option Addr) (e1 go co:Nat) (w:World) (S:Blks) (hF:FunO w [.string f.name,.int .i64 f.params,.int .i64 f.regs,.slice q f.blocks.length e1] f S)
  (hgo:go<w.heap.size) (hgS:¬ S go) (hoc:∀i (h:i<o.length),w.cell? ⟨go,i,none⟩=some (.int .i64 (o[i]:Nat))) (_hco:o.length≤co) :
  Calls Tryz.prog 64 #[.agg #[.string f.name,.int .i64 f.params,.int .i64 f.regs,.slice q f.blocks.length e1],.slice (some ⟨go,0,none⟩) o.length co] w fun e w'=>∃p c S',e = .returned (.agg #[.string f.name,.int .i64 f.params,.int .i64 f.regs,.slice p (zl o f).blocks.length c])∧
   FunO w' [.string f.name,.int .i64 f.params,.int .i64 f.regs,.slice p (zl o f).blocks.length c] (zl o f) S'∧(∀g,S' g→S g∨w.heap.size≤g)∧Kept S w w':=by
 obtain⟨iR,r1,r2,r3,r4⟩:=info_parts infoFrmC
 obtain⟨iV,l1,l2,l3,l4⟩:=info_parts kl
 obtain⟨iB,k1,k2,k3,k4⟩:=info_parts jC
 have hn0:=hC.n1
 have haA:=hC.n40
 obtain⟨v0,haF,hnm,i1,i2,hB⟩:=hF
 have hv0:v0 = .slice q f.blocks.length e1:=by simpa using haF.symm
 subst hv0
 have hread:=hB.read (R':=BlkR w) qE (by omega) fun _ _ _ h=>h.read
 obtain⟨cs,T,hW⟩:=hB.sl
 obtain⟨gq,cq,hvq,hSg,hgq,_⟩:=hW.cell hn0
 have hq:q=some ⟨gq,0,none⟩:=by injection hvq
 subst hq
 have hRd:SliceAt w 6 (BlkR w) (some ⟨gq,0,none⟩) f.blocks:=by
  obtain⟨p,c,e,_,_,h⟩:=hread.outC
  cases e
  exact h
 have hcell:∀b (hb:b<f.blocks.length) j,j<6→w.cell? ⟨gq,b*6+j,none⟩=(cs b)[j]?:=fun b hb j hj=>by
  obtain⟨g',c',e,_,_,h⟩:=hW.cell hb
  cases e
  exact h j hj
 have hol:o.length≤40:=Nat.le_trans (xl _ o ho.once ho.inb) haA
 have hop:0<o.length:=ho.pos.1
 have HC:=q7 hC
 have HO:=q7 ho
 have HW:=q7 hW
 have HRd:=q7 hRd
 have HCe:=q7 hcell
 have HOc:=q7 hoc
 have HN:=q7 (And.intro hnm (And.intro i1 i2))
 have HBd:=q7 hB.bd
 have HGS:=q7 hgS
 have HSg:=q7 hSg
 clear hC ho hW hRd hread hcell hoc hnm i1 i2 hB hgS haF hvq hSg
 go_enter Tryz.func64,Tryz.ntmps64
 go_wp2_with fail
 refine(Zc (w.heap.size+1+1) 0 1 (-1) f.blocks.length _ (by omega) (fun j hj=>by
  obtain rfl:j=0:=by omega
  exact(blk (qh (w:=(w.alloc (.cells #[.string f.name,.int .i64 f.params,.int .i64 f.regs,.slice (some ⟨gq,0,none⟩) f.blocks.length e1] 37)).alloc (.cells #[.string { data:=#[] },.int .i64 0,.int .i64 0,.slice none 0 0] 37)) (o:=.cells #[.int .i64 (-1)] 3) (by simp))).1 0)).mono ?_
 rintro e w1 ⟨rfl,hU,hb1⟩
 have eU:(((w.alloc (.cells #[.string f.name,.int .i64 f.params,.int .i64 f.regs,.slice (some ⟨gq,0,none⟩) f.blocks.length e1] 37)).alloc (.cells #[.string { data:=#[] },.int .i64 0,.int .i64 0,.slice none 0 0] 37)).alloc (.cells #[.int .i64 (-1)] 3)).heap.size=w.heap.size+1+1+1:=by simp
 rw[eU]at hU hb1 ⊢
 have hF1:w1.heap[w.heap.size]?=some (.cells #[.string f.name,.int .i64 f.params,.int .i64 f.regs,.slice (some ⟨gq,0,none⟩) f.blocks.length e1] 37 (0,0)):=qd hb1 (by omega) (qj (qj (qh rfl)))
 have hZ1:w1.heap[w.heap.size+1]?=some (.cells #[.string { data:=#[] },.int .i64 0,.int .i64 0,.slice none 0 0] 37 (0,0)):=qd hb1 (by omega) (qj (qh (by simp)))
 have hlS:Below w.heap.size w w1:=Below.trans bZ (hb1.mono (by omega))
 have HB1:=q7 hlS
 have HF1:=q7 hF1
 have HZ1:=q7 hZ1
 have HU:=q7 hU
 have zU:w.heap.size+1+1+1<w1.heap.size:=hU.lt
 clear hb1 hU hF1 hZ1 hlS eU
 go_wp2_with fail
 go_loopg [30] o.length (fun q i wr=>∃k:Nat,k≤o.length∧q=o.length - k∧i = .int .i64 k∧wr.rowIs (w.heap.size+1+1+1) 3 f.blocks.length (fun j=>.int .i64 (atK o k j))∧Kept (fun b=>b=w.heap.size+1+1+1) w1 wr)
 case atStart=>exact⟨0,by omega,rfl,rfl,HU.out.congr fun j _=>by rw[atK_zero],Kept.refl _ _⟩
 case round=>
  obtain⟨k,hk,rfl,rfl,hR,hK⟩:=hrel
  have HR:=q7 hR
  have HK:=q7 hK
  clear hR hK
  by_cases hlt:k<o.length
  ·have c1:wr.cell? ⟨go,k,none⟩=some (.int .i64 (o[k]:Nat)):=(HK.out.cell (p:=⟨go,k,none⟩) (by show go<_;omega) (by show ¬ go=_;omega)).trans ((HB1.out.cell (p:=⟨go,k,none⟩) hgo).trans (HOc.out k hlt))
   have hin:o[k]<f.blocks.length:=HO.out.inb _ (List.getElem_mem hlt)
   have c2:=HR.out.cell hin
   have c3:=HR.out.frozen o[k]
   have HSu:=q7 (atK_succ HO.out.once hlt)
   generalize o[k]=ok at *
   go_wp2_with fail
   go_roundg (o.length - (k+1))
   case measure=>omega
   case rel=>exact⟨k+1,by omega,rfl,by go_num,(HR.out.set ok (.int .i64 (k:Nat))).congr fun j _=>by
    rw[HSu.out j]
    split<;>rfl,HK.out.setCell rfl _⟩
  obtain rfl:k=o.length:=by omega
  have hA:wr.rowIs (w.heap.size+1+1+1) 3 f.blocks.length (fun j=>.int .i64 (qC o j)):=HR.out.congr fun j _=>by rw[atK_full]
  have hFr:wr.heap[w.heap.size]?=some (.cells #[.string f.name,.int .i64 f.params,.int .i64 f.regs,.slice (some ⟨gq,0,none⟩) f.blocks.length e1] 37 (0,0)):=(HK.out.block _ (by omega) (by omega)).trans HF1.out
  have hZr:wr.heap[w.heap.size+1]?=some (.cells #[.string { data:=#[] },.int .i64 0,.int .i64 0,.slice none 0 0] 37 (0,0)):=(HK.out.block _ (by omega) (by omega)).trans HZ1.out
  have hbr:Below w.heap.size w wr:=HB1.out.trans (HK.out.below (by omega) (fun i e=>by omega))
  obtain⟨wa,hwa⟩:∃wa,wa=wr:=⟨_,rfl⟩
  subst hwa
  obtain⟨fb,ff⟩:=blk hFr
  have fb0:=fb 0
  have fb1:=fb 1
  have fb2:=fb 2
  have fb3:=fb 3
  simp only[List.getElem?_toArray,List.getElem?_cons_zero,List.getElem?_cons_succ]at fb0 fb1 fb2 fb3
  have fz:=q9 hFr
  have HA:=q7 hA
  have HFr:=q7 hFr
  have HZr:=q7 hZr
  have HBr:=q7 hbr
  have zA:w.heap.size+1+1+1<wa.heap.size:=hA.lt
  clear hA hFr hZr hbr fb HR HK HU HF1 HZ1 HB1
  go_wp2_with fail
  refine(xK f.name f.params f.regs gq 0 e1 f.blocks.length (kL f) wa haA (fun i hi=>Zv HRd.out HBr.out i hi) HC.out.funD.toFunS.tosD).mono ?_
  rintro e W1 ⟨⟨tf,rfl,ham⟩,hb1⟩
  have HAh:=q7 (AheadIn.of ham)
  have HA1:=q7 (HA.out.of_block (hb1.block _ zA))
  have HF1:=q7 ((hb1.block _ (q9 HFr.out)).trans HFr.out)
  have HZ1:=q7 ((hb1.block _ (q9 HZr.out)).trans HZr.out)
  have HB1:=q7 (HBr.out.trans (hb1.mono HBr.out.size))
  have hz1:=hb1.size
  obtain⟨T1,hT1⟩:∃T1,T1=wa.heap.size+1:=⟨_,rfl⟩
  rw[←hT1]at HAh ⊢
  clear ham hb1 HA HFr HZr HBr fb0 fb1 fb2 fb3 ff fz
  obtain⟨lo,hlo⟩:∃lo,lo=w.heap.size:=⟨_,rfl⟩
  have hpP:w.heap.size+1+1+1+1<T1:=by omega
  have hlT:=HAh.out.1.2
  clear hT1
  have hpQ:Hid (∀i (h:i<o.length),W1.cell? ⟨go,i,none⟩=some (.int .i64 (o[i]:Nat))):=q7 fun i h=>(HB1.out.cell (p:=⟨go,i,none⟩) hgo).trans (HOc.out i h)
  have zA1:w.heap.size+1+1+1<W1.heap.size:=by omega
  go_wp2_with fail
  go_loopg [9,44] o.length (fun q s9 s44 wr=>∃(k:Nat) (SN:Blks),k≤o.length∧q=o.length - k∧s44 = .int .i64 k∧SlO 48 6 BlkO wr s9 ((zl o f).blocks.take k) SN∧(∀g,SN g→(∃i∈o.take k,T i g)∨W1.heap.size≤g)∧Kept (fun g=>∃i∈o.take k,T i g) W1 wr)
  case atStart=>exact⟨0,fun _=>False,by omega,rfl,rfl,by rw[List.take_zero];exact SlO.nil _ _ _ _ (fun _ h=>h.elim),fun _ h=>h.elim,Kept.refl _ _⟩
  case round=>
   obtain⟨wo,hwo⟩:∃wo,wo=wr:=⟨_,rfl⟩
   subst hwo
   obtain⟨k,SN,hk,rfl,rfl,hO,hN,hK⟩:=hrel
   have hiJ:∀k',k'≤o.length→∀g,(∃i∈o.take k',T i g)→g<w.heap.size∧S g:=fun k' _ g hg=>by
    obtain⟨i,hi,h⟩:=hg
    have hi2:=HO.out.inb i (List.mem_of_mem_take hi)
    exact⟨HW.out.inb g (HW.out.sub i hi2 g h),HW.out.sub i hi2 g h⟩
   have HTl:=q7 hiJ
   have hkl:(zl o f).blocks.length=o.length:=zp o f
   obtain⟨pN,cN,hvN,_⟩:=hO.val
   have hlN:((zl o f).blocks.take k).length=k:=by rw[List.length_take,hkl];omega
   rw[hlN]at hvN
   subst hvN
   have hsz:=hK.size
   have hFo:wo.heap[w.heap.size]?=some (.cells #[.string f.name,.int .i64 f.params,.int .i64 f.regs,.slice (some ⟨gq,0,none⟩) f.blocks.length e1] 37 (0,0)):=(hK.block _ (by omega) (fun hg=>by have:=(hiJ k hk _ hg).1;omega)).trans HF1.out
   have HFo:=q7 hFo
   have HOo:=q7 hO
   have HN1:=q7 hN
   have HK:=q7 hK
   obtain⟨fb,ff⟩:=blk hFo
   have fb0:=fb 0
   have fb1:=fb 1
   have fb2:=fb 2
   have fb3:=fb 3
   simp only[List.getElem?_toArray,List.getElem?_cons_zero,List.getElem?_cons_succ]at fb0 fb1 fb2 fb3
   have fz:=q9 hFo
   clear hO hN hK hiJ hFo fb
   by_cases hlt:k<o.length
   rotate_left
   ·obtain rfl:k=o.length:=by omega
    have hOf:=HOo.out
    rw[List.take_of_length_le (by rw[hkl];exact Nat.le_refl _)]at hOf
    have hZo:wo.heap[w.heap.size+1]?=some (.cells #[.string { data:=#[] },.int .i64 0,.int .i64 0,.slice none 0 0] 37 (0,0)):=(HK.out.block _ (by omega) (fun hg=>by have:=(HTl.out _ (Nat.le_refl _) _ hg).1;omega)).trans HZ1.out
    obtain⟨zb,zf⟩:=blk hZo
    have zb0:=zb 0
    have zb1:=zb 1
    have zb2:=zb 2
    have zb3:=zb 3
    simp only[List.getElem?_toArray,List.getElem?_cons_zero,List.getElem?_cons_succ]at zb0 zb1 zb2 zb3
    have zz:=q9 hZo
    have hne1:¬ (w.heap.size+1=w.heap.size):=by omega
    have hne2:¬ (w.heap.size=w.heap.size+1):=by omega
    have HOf:=q7 hOf
    have HZo:=q7 hZo
    clear hOf hZo zb
    go_wp2_with fail
    obtain⟨WF,hWF⟩:∃WF,WF=((((wo.setCell ⟨w.heap.size,3,none⟩ (.slice pN o.length cN)).setCell ⟨w.heap.size+1,0,none⟩ (.string f.name)).setCell ⟨w.heap.size+1,1,none⟩ (.int .i64 f.params)).setCell ⟨w.heap.size+1,2,none⟩ (.int .i64 f.regs)).setCell ⟨w.heap.size+1,3,none⟩ (.slice pN o.length cN):=⟨_,rfl⟩
    rw[←hWF]
    have hKf:Kept (fun i=>i=w.heap.size∨i=w.heap.size+1) wo WF:=by
     rw[hWF]
     have h0:Kept (fun i=>i=w.heap.size∨i=w.heap.size+1) wo wo:=Kept.refl _ wo
     have h1:=h0.setCell (p:=⟨w.heap.size,3,none⟩) (.inl rfl) (.slice pN o.length cN)
     have h2:=h1.setCell (p:=⟨w.heap.size+1,0,none⟩) (.inr rfl) (.string f.name)
     have h3:=h2.setCell (p:=⟨w.heap.size+1,1,none⟩) (.inr rfl) (.int .i64 f.params)
     have h4:=h3.setCell (p:=⟨w.heap.size+1,2,none⟩) (.inr rfl) (.int .i64 f.regs)
     exact h4.setCell (p:=⟨w.heap.size+1,3,none⟩) (.inr rfl) (.slice pN o.length cN)
    have hRF:WF.heap[w.heap.size+1]?=some (.cells #[.string f.name,.int .i64 f.params,.int .i64 f.regs,.slice pN o.length cN] 37 (0,0)):=by
     have h1:(wo.setCell ⟨w.heap.size,3,none⟩ (.slice pN o.length cN)).heap[w.heap.size+1]?=some (.cells #[.string { data:=#[] },.int .i64 0,.int .i64 0,.slice none 0 0] 37 (0,0)):=(Go.Deep.blk_setCell_other _ _ _ _ (by show w.heap.size+1≠w.heap.size;omega)).trans HZo.out
     rw[hWF,qg (qg (qg (qg h1 0 _) 1 _) 2 _) 3 _]
     rfl
    clear hWF
    obtain⟨rb,_⟩:=blk hRF
    have rb0:=rb 0
    have rb1:=rb 1
    have rb2:=rb 2
    have rb3:=rb 3
    simp only[List.getElem?_toArray,List.getElem?_cons_zero,List.getElem?_cons_succ]at rb0 rb1 rb2 rb3
    have hNl:∀g,SN g→g≠w.heap.size∧g≠w.heap.size+1:=fun g hg=>by
     rcases HN1.out g hg with h|h
     ·have:=(HTl.out _ (Nat.le_refl _) g h).1;omega
     omega
    refine bodyPost_ret (v:=.agg #[.string f.name,.int .i64 f.params,.int .i64 f.regs,.slice pN o.length cN]) ?_ rfl ⟨pN,cN,SN,by rw[hkl],⟨_,by rw[hkl];rfl,HN.out.1,HN.out.2.1,HN.out.2.2,⟨?_,?_⟩⟩,fun g hg=>?_,?_⟩
    ·simp[results,Tryz.results64,go_sem,rb0,rb1,rb2,rb3]
    ·exact HOf.out.kept qE hKf (fun g h1 h2=>by have:=hNl g h2;omega)
    ·rw[hkl]
     unfold reachBytes
     omega
    ·rcases HN1.out g hg with h|h
     ·exact .inl (HTl.out _ (Nat.le_refl _) g h).2
     right;omega
    refine((Kept.of_below HB1.out).trans HK.out (fun g _ h=>(HTl.out _ (Nat.le_refl _) g h).2)).trans hKf (fun g h1 h2=>?_)
    omega
   obtain⟨b,hbk⟩:∃b,b=o[k]:=⟨_,rfl⟩
   have hin:b<f.blocks.length:=by rw[hbk];exact HO.out.inb _ (List.getElem_mem hlt)
   have hmem:b∈o:=by rw[hbk];exact List.getElem_mem hlt
   have c1:wo.cell? ⟨go,k,none⟩=some (.int .i64 (b:Nat)):=by
    rw[hbk]
    exact(HK.out.cell (p:=⟨go,k,none⟩) (by show go<_;omega) (fun hg=>HGS.out (HTl.out k hk go hg).2)).trans (hpQ.out k hlt)
   obtain⟨x,hxe⟩:∃x,x=f.blocks[b]:=⟨_,rfl⟩
   obtain⟨ah,hah⟩:∃ah,ah=insN f b:=⟨_,rfl⟩
   have hTk:∀g,T b g→¬ ∃i∈o.take k,T i g:=fun g hg ⟨i,hi,h⟩=>by
    have hib:=HO.out.inb i (List.mem_of_mem_take hi)
    have hne:i≠b:=fun e=>by
     rw[List.mem_take_iff_getElem]at hi
     obtain⟨j,hj,rfl⟩:=hi
     rw[hbk]at e
     have h2:=congrArg o.idxOf e
     have hnd:o.Nodup:=HO.out.once
     rw[hnd.idxOf_getElem j (by omega),hnd.idxOf_getElem k hlt]at h2
     omega
    exact HW.out.two i b hib hin hne g h hg
   have hTw:∀g,T b g→S g∧g<w.heap.size:=fun g hg=>⟨HW.out.sub b hin g hg,HW.out.inb g (HW.out.sub b hin g hg)⟩
   have hTo:∀g,T b g→wo.heap[g]?=w.heap[g]?:=fun g hg=>(HK.out.block g (by have:=(hTw g hg).2;omega) (hTk g hg)).trans (HB1.out.block g (hTw g hg).2)
   have hX0:BlkO wo (cs b) x (T b):=by
    rw[hxe]
    exact qE _ _ _ _ _ (HW.out.el b hin) hTo (by omega)
   have hdI:wo.heap[gq]?=w.heap[gq]?:=(HK.out.block gq (by omega) (fun⟨i,hi,h⟩=>HW.out.off i (HO.out.inb i (List.mem_of_mem_take hi)) gq rfl h)).trans (HB1.out.block gq hgq)
   have hce:∀j,j<6→wo.cell? ⟨gq,b*6+j,none⟩=(cs b)[j]?:=fun j hj=>(World.cell?_of_block (a:=⟨gq,b*6+j,none⟩) hdI).trans (HCe.out b hin j hj)
   have htv:gq<wo.heap.size:=by omega
   obtain⟨v1,v2,v3,S1,S2,S3,hlU,j1,j2,h3,h4,h5,a1,a2,a3,g1,g2,g3⟩:=hX0
   rw[hlU]at hce
   have hcl:∀p∈x.phis,p.src.length=ah.length:=fun p hp=>by
    rw[hxe]at hp
    rw[hah]
    exact(HC.out.phi b hin p hp).len
   have hto:∀t∈x.fin.to,1≤t∧t<(f.blocks.length:Int):=by rw[hxe];exact(HC.out.fin b hin).to
   have heV:∀a∈ah,a<f.blocks.length:=fun a ha=>row_lt (c:=b) (by rw[hah]at ha;exact ha)
   have hlV:ah.Nodup:=by rw[hah];exact HC.out.funD.insD b
   have hiL:ah.length≤80:=by rw[hah];exact Vb HC.out.funD.toFunS b
   obtain⟨q1,d1,rfl,e10,_⟩:=h3.sl.val
   obtain⟨q2,d2,rfl,e20,_⟩:=h4.sl.val
   obtain⟨q3,d3,rfl,e30,_⟩:=h5.sl.val
   have c2:=hce 0 (by omega)
   have c3:=hce 1 (by omega)
   have c4:=hce 2 (by omega)
   have c5:=hce 3 (by omega)
   have c6:=hce 4 (by omega)
   have c7:=hce 5 (by omega)
   simp only[List.getElem?_cons_zero,List.getElem?_cons_succ,Nat.add_zero]at c2 c3 c4 c5 c6 c7
   have HBk:=q7 hbk
   have HXe:=q7 hxe
   have HAe:=q7 hah
   have HTk:=q7 hTk
   have HTw:=q7 hTw
   have HPh:=q7 h3
   have HLs:=q7 h4
   have HEt:=q7 h5
   have HJ:=q7 (And.intro j1 j2)
   have HAp:=q7 (And.intro a1 (And.intro a2 a3))
   have HG:=q7 (And.intro g1 (And.intro g2 g3))
   have HCl:=q7 hcl
   have HTo:=q7 hto
   have HAl:=q7 heV
   have HAd:=q7 hlV
   have hbp:=h3.bd
   have hbl:=h4.bd
   unfold reachBytes at hbp hbl
   clear hbk hxe hah hTk hTw hTo hdI hce h3 h4 h5 j1 j2 a1 a2 a3 g1 g2 g3 hcl hto heV hlV hlU
   go_wp2_with fail
   obtain⟨W2,hW2⟩:∃W2,W2=wo.alloc (.cells #[.slice q1 x.phis.length d1,.slice q2 x.list.length d2,.int .i64 x.fin.kind,.bool x.fin.onr,.int .i64 x.fin.onn,.slice q3 x.fin.to.length d3] 48):=⟨_,rfl⟩
   rw[←hW2]
   have hz2:W2.heap.size=wo.heap.size+1:=by rw[hW2];simp
   have hb2:Below wo.heap.size wo W2:=by rw[hW2];exact bZ
   have hX2:W2.heap[wo.heap.size]?=some (.cells #[.slice q1 x.phis.length d1,.slice q2 x.list.length d2,.int .i64 x.fin.kind,.bool x.fin.onr,.int .i64 x.fin.onn,.slice q3 x.fin.to.length d3] 48 (0,0)):=by rw[hW2];exact qh rfl
   have HB2:=q7 hb2
   have HX2:=q7 hX2
   have hK2:Kept (fun g=>∃i∈o.take k,T i g) W1 W2:=HK.out.trans (Kept.of_below (S:=fun _=>False) hb2) (fun _ _ h=>h.elim)
   have hpR:Hid (∀(U:Blks) (wr:World),Kept U W2 wr→(∀g,U g→g<w.heap.size∨W2.heap.size≤g)→wr.rowIs (w.heap.size+1+1+1) 3 f.blocks.length (fun j=>.int .i64 (qC o j))∧AheadIn wr T1 T1 f∧wr.heap[wo.heap.size]?=some (.cells #[.slice q1 x.phis.length d1,.slice q2 x.list.length d2,.int .i64 x.fin.kind,.bool x.fin.onr,.int .i64 x.fin.onn,.slice q3 x.fin.to.length d3] 48 (0,0))∧wr.heap[w.heap.size]?=some (.cells #[.string f.name,.int .i64 f.params,.int .i64 f.regs,.slice (some ⟨gq,0,none⟩) f.blocks.length e1] 37 (0,0))∧W2.heap.size≤wr.heap.size):=q7 fun U wr hk hU=>by
    have hlow:∀g,(∃i∈o.take k,T i g)→g<w.heap.size:=fun g hg=>(HTl.out k (by omega) g hg).1
    refine⟨(HA1.out.of_block (hK2.block _ zA1 (fun hg=>by have:=hlow _ hg;omega))).of_block (hk.block _ (by omega) (fun hg=>by have:=hU _ hg;omega)),(HAh.out.kept hK2 (fun g hg=>.inl (by have:=hlow g hg;omega))).kept hk (fun g hg=>by have:=hU g hg;omega),(hk.block _ (by omega) (fun hg=>by have:=hU _ hg;omega)).trans HX2.out,(hk.block _ (by omega) (fun hg=>by have:=hU _ hg;omega)).trans ((hb2.block _ (by omega)).trans HFo.out),hk.size⟩
   have hP2:SlO 101 2 PhiO W2 (.slice q1 x.phis.length d1) x.phis S1:=HPh.out.sl.below zq hb2
   have hS1:∀g,S1 g→S g∧g<w.heap.size:=fun g hg=>HTw.out g (HG.out.1 g hg)
   have HP2:=q7 hP2
   have HS1:=q7 hS1
   clear hW2 hb2 hX2 hP2 hS1 hK2 c1 c2 c3 c4 c5 c6 c7 fb0 fb1 fb2 fb3 ff fz
   go_wp2_with fail
   go_loopg [56] x.phis.length (fun q s56 wr=>∃(j:Nat) (SP:Blks),j≤x.phis.length∧q=x.phis.length - j∧s56 = .int .i64 j∧SlO 101 2 PhiO wr (.slice q1 x.phis.length d1) (zd j (phiK (qC o) ah) x.phis) SP∧(∀g,SP g→S1 g∨W2.heap.size≤g)∧Kept S1 W2 wr)
   case atStart=>exact⟨0,S1,by omega,rfl,rfl,by rw[zD];exact HP2.out,fun _ h=>.inl h,Kept.refl _ _⟩
   case round=>
    obtain⟨wp,hwp⟩:∃wp,wp=wr:=⟨_,rfl⟩
    subst hwp
    obtain⟨j,SP,hj,rfl,rfl,hO,hN,hK'⟩:=hrel
    have HPj:=q7 hO
    have HNj:=q7 hN
    have HKj:=q7 hK'
    have hgI:=hK'.size
    obtain⟨hAj,hlW,hXj,hFj,_⟩:=hpR.out S1 wp hK' (fun g hg=>.inl (HS1.out g hg).2)
    obtain⟨xb,xf⟩:=blk hXj
    have xz:=q9 hXj
    have xb0:=xb 0
    have xb1:=xb 1
    have xb2:=xb 2
    have xb3:=xb 3
    have xb4:=xb 4
    have xb5:=xb 5
    simp only[List.getElem?_toArray,List.getElem?_cons_zero,List.getElem?_cons_succ]at xb0 xb1 xb2 xb3 xb4 xb5
    have HXj:=q7 hXj
    have HAj:=q7 hAj
    have hpS:=q7 hlW
    clear hO hN hK' hAj hlW hXj hFj xb
    by_cases hjl:j<x.phis.length
    rotate_left
    ·obtain rfl:j=x.phis.length:=by omega
     have hPf:=HPj.out
     rw[zr]at hPf
     have hT0:SlO 3 1 kP wp (.slice q3 x.fin.to.length d3) x.fin.to S3:=(HEt.out.sl.below qT HB2.out).kept qT HKj.out (fun g h1 h2=>HAp.out.2.1 g h1 h2)
     have HPf:=q7 hPf
     have HT0:=q7 hT0
     have hlX:∀g,S3 g→S g∧g<w.heap.size:=fun g hg=>HTw.out g (HG.out.2.2 g hg)
     have HS3:=q7 hlX
     have hbt:=HEt.out.bd
     unfold reachBytes at hbt
     clear hPf hT0 HPj hlX
     go_wp2_with fail
     go_loopg [122] x.fin.to.length (fun q s122 wr=>∃i:Nat,i≤x.fin.to.length∧q=x.fin.to.length - i∧s122 = .int .i64 i∧SlO 3 1 kP wr (.slice q3 x.fin.to.length d3) (zd i (fun t=>qC o t.toNat) x.fin.to) S3∧Kept S3 wp wr)
     case atStart=>exact⟨0,by omega,rfl,rfl,by rw[zD];exact HT0.out,Kept.refl _ _⟩
     case round=>
      obtain⟨i,hi,rfl,rfl,hT,hKt⟩:=hrel
      have hp9:=hKt.size
      have hXt:wr.heap[wo.heap.size]?=some (.cells #[.slice q1 x.phis.length d1,.slice q2 x.list.length d2,.int .i64 x.fin.kind,.bool x.fin.onr,.int .i64 x.fin.onn,.slice q3 x.fin.to.length d3] 48 (0,0)):=(hKt.block _ (q9 HXj.out) (fun h=>by have:=(HS3.out _ h).2;omega)).trans HXj.out
      have hAt:=HAj.out.of_block (hKt.block _ HAj.out.lt (fun h=>by have:=(HS3.out _ h).2;omega))
      obtain⟨yb,yf⟩:=blk hXt
      have yz:=q9 hXt
      have yb5:=yb 5
      simp only[List.getElem?_toArray,List.getElem?_cons_zero,List.getElem?_cons_succ]at yb5
      have HT:=q7 hT
      have HKt:=q7 hKt
      have HXt:=q7 hXt
      have HAt:=q7 hAt
      clear hT hKt hAt xb0 xb1 xb2 xb3 xb4 xb5 xf xz
      by_cases hil:i<x.fin.to.length
      ·have hcY:i<(zd i (fun t=>qC o t.toNat) x.fin.to).length:=by rw[qX];exact hil
       obtain⟨gt,ct,cst,Tt,hvt,hgt,heJ,hhQ,hxt,hhR,hhS,hbJ,hhT,⟨curt,hbK⟩,putt⟩:=HT.out.focus qT (by omega) hcY
       rw[xm hcY (Nat.le_refl _)]at hxt
       obtain⟨hcZ,_⟩:=hxt
       subst hcZ
       have hq3:q3=some ⟨gt,0,none⟩:=by injection hvt
       subst hq3
       have htb:=HTo.out _ (List.getElem_mem hil)
       obtain⟨tn,htn⟩:∃tn:Nat,x.fin.to[i]=(tn:Int):=⟨x.fin.to[i].toNat,by omega⟩
       have hsu:=qU (u:=fun t=>qC o t.toNat) hil
       simp only[htn,Int.toNat_natCast]at hsu
       rw[htn]at htb hbJ
       have htl:tn<f.blocks.length:=by omega
       have t0:=hbJ 0 (by omega)
       simp only[List.getElem?_cons_zero,Nat.add_zero,Nat.mul_one]at t0
       have t1:=HAt.out.cell htl
       have t2:=hhT i
       have tAz:w.heap.size+1+1+1<wr.heap.size:=HAt.out.lt
       have HSu:=q7 hsu
       have hdC:=q7 putt
       have hdD:=q7 hbK
       have hhU:=q7 hbJ
       have HTn:=q7 htn
       have hhV:=q7 heJ
       clear hvt hsu putt hbK hbJ htn heJ hhQ hhR hhS
       generalize hpt:qC o tn=pt at *
       have hlY:pt<1000000∧-1≤pt:=by
        rw[←hpt]
        unfold qC
        split
        ·next h=>have:=(xr h).1;omega
        omega
       have HPt:=q7 hpt
       clear hpt
       go_wp2_with fail
       go_region
       have hput:=hdC.out (wr.drew.setCell ⟨gt,i,none⟩ (.int .i64 pt)) [.int .i64 pt] pt (fun _=>False) (by
         have h1:=RowPut.set (RowPut.same (w':=wr.drew) hdD.out rfl hhU.out) rfl (j:=0) (by omega) (.int .i64 pt)
         simp only[Nat.add_zero,Nat.mul_one,List.set_cons_zero]at h1
         simp only[Nat.mul_one]
         exact h1) rfl (fun u hu=>by
         simp only[List.mem_cons,List.not_mem_nil,or_false]at hu
         rw[hu]
         rfl) (by rw[Go.Deep.nblk_setCell];exact Nat.le_refl _) (fun g h1 h2 h3=>Go.Deep.blk_setCell_other _ _ _ g h3) ⟨rfl,by unfold I64;omega⟩ (fun g h=>h.elim)
       rw[HSu.out]at hput
       have hrel:SlO 3 1 kP (wr.drew.setCell ⟨gt,i,none⟩ (.int .i64 pt)) (.slice (some ⟨gt,0,none⟩) x.fin.to.length d3) (zd (i+1) (fun t=>qC o t.toNat) x.fin.to) S3∧Kept S3 wp (wr.drew.setCell ⟨gt,i,none⟩ (.int .i64 pt)):=
        ⟨hput.grow (fun g h=>h.elim id (fun h=>h.elim)) (HT.out.inb.mono (by rw[Go.Deep.nblk_setCell];exact Nat.le_refl _)),(HKt.out.drew).setCell (p:=⟨gt,i,none⟩) hhV.out _⟩
       have ha7:=q7 hrel
       clear hput hrel
       go_wp2_with fail
       go_roundg (x.fin.to.length - (i+1))
       case measure=>omega
       case rel=>exact⟨i+1,by omega,rfl,by go_num,ha7.out.1,ha7.out.2⟩
      obtain rfl:i=x.fin.to.length:=by omega
      have hTf:=HT.out
      rw[zr]at hTf
      have hKw:Kept S1 wo wp:=(Kept.of_below HB2.out).trans HKj.out (fun _ _ h=>h)
      have hKa:Kept (fun g=>S1 g∨S3 g) wo wr:=(hKw.mono fun _ _ h=>.inl h).trans HKt.out (fun _ _ h=>.inr h)
      have hPr:SlO 101 2 PhiO wr (.slice q1 x.phis.length d1) (x.phis.map (phiK (qC o) ah)) SP:=HPf.out.kept zq HKt.out (fun g h1 h2=>by
       rcases HNj.out g h2 with h|h
       ·exact HAp.out.2.1 g h h1
       have:=(HS3.out g h1).2;omega)
      have hLr:SlO 53 8 InsO wr (.slice q2 x.list.length d2) x.list S2:=HLs.out.sl.kept qH hKa (fun g h1 h2=>h1.elim (fun h=>HAp.out.1 g h h2) (fun h=>HAp.out.2.2 g h2 h))
      have hBr:BlkO wr [.slice q1 x.phis.length d1,.slice q2 x.list.length d2,.int .i64 x.fin.kind,.bool x.fin.onr,.int .i64 x.fin.onn,.slice q3 x.fin.to.length d3] (Vd (qC o) ah x) (fun g=>SP g∨S2 g∨S3 g):=by
       refine⟨_,_,_,SP,S2,S3,rfl,HJ.out.1,HJ.out.2,⟨?_,?_⟩,⟨hLr,HLs.out.bd⟩,⟨?_,?_⟩,fun g h1 h2=>?_,fun g h1 h2=>?_,HAp.out.2.2,fun _ h=>.inl h,fun _ h=>.inr (.inl h),fun _ h=>.inr (.inr h)⟩
       ·exact hPr
       ·show(x.phis.map _).length*32≤_
        rw[List.length_map]
        exact HPh.out.bd
       ·exact hTf
       ·show(x.fin.to.map _).length*8≤_
        rw[List.length_map]
        exact HEt.out.bd
       ·rcases HNj.out g h1 with h|h
        ·exact HAp.out.1 g h h2
        have:=(HTw.out g (HG.out.2.1 g h2)).2;omega
       rcases HNj.out g h1 with h|h
       ·exact HAp.out.2.1 g h h2
       have:=(HS3.out g h2).2;omega
      have hTb:∀g,SP g∨S2 g∨S3 g→T b g∨W2.heap.size≤g:=fun g hg=>by
       rcases hg with h|h|h
       ·rcases HNj.out g h with h|h
        ·exact .inl (HG.out.1 g h)
        exact .inr h
       ·exact .inl (HG.out.2.1 g h)
       exact .inl (HG.out.2.2 g h)
      have hTi:InB wr (fun g=>SP g∨S2 g∨S3 g):=fun g hg=>by
       rcases hg with h|h|h
       ·exact hPr.inb g h
       ·exact hLr.inb g h
       exact hTf.inb g h
      have hap:Apart SN (fun g=>SP g∨S2 g∨S3 g):=fun g h1 h2=>by
       rcases hTb g h2 with h|h
       ·rcases HN1.out g h1 with h3|h3
        ·exact HTk.out g h h3
        have:=(HTw.out g h).2;omega
       have:=HOo.out.inb g h1;omega
      have hNr:SlO 48 6 BlkO wr (.slice pN k cN) ((zl o f).blocks.take k) SN:=HOo.out.kept qE hKa (fun g h1 h2=>hap g h2 (h1.elim (fun h=>by
       rcases HN1.out g h2 with h3|h3
       ·exact absurd h3 (HTk.out g (HG.out.1 g h))
       have:=(HTw.out g (HG.out.1 g h)).2;omega) (fun h=>.inr (.inr h))))
      have yb0:=yb 0
      have yb1:=yb 1
      have yb2:=yb 2
      have yb3:=yb 3
      have yb4:=yb 4
      simp only[List.getElem?_toArray,List.getElem?_cons_zero,List.getElem?_cons_succ]at yb0 yb1 yb2 yb3 yb4
      have hNa:=hNr.below qE ((Below.refl _ wr).alloc (Nat.le_refl _) (.cells #[.slice q1 x.phis.length d1,.slice q2 x.list.length d2,.int .i64 x.fin.kind,.bool x.fin.onr,.int .i64 x.fin.onn,.slice q3 x.fin.to.length d3] 48))
      have HBr:=q7 hBr
      have HTb:=q7 hTb
      have HTi:=q7 hTi
      have hpT:=q7 hap
      have HKa:=q7 hKa
      have HNa:=q7 hNa
      clear hTf hKw hPr hLr hBr hTb hTi hap hNr hNa hKa yb
      go_wp2_with (at_builtin;refine qD _ rfl _ _ 35 rfl 48 iB _ 6 96 Tryz.underlying35 k1 k2 k3 k4 rfl (by decide) qE rfl HNa.out ⟨wr.heap.size,0,none⟩ 1 [.slice q1 x.phis.length d1,.slice q2 x.list.length d2,.int .i64 x.fin.kind,.bool x.fin.onr,.int .i64 x.fin.onn,.slice q3 x.fin.to.length d3] (Vd (qC o) ah x) rfl rfl ?hn ?ho (T:=fun g=>SP g∨S2 g∨S3 g) ?hy ?ha ?ht ?hm ?hb ?_)
      case hn=>exact qS _ _ _ rfl
      case ho=>intro u hu;simp only[List.mem_cons,List.not_mem_nil,or_false]at hu;rcases hu with rfl|rfl|rfl|rfl|rfl|rfl<;>rfl
      case hy=>exact qE _ _ _ _ _ HBr.out (fun g hg=>Below.heap_alloc _ _ g (HTi.out g hg)) (by simp)
      case ha=>exact hpT.out
      case ht=>exact HTi.out.mono (by simp)
      case hm=>unfold maxLen;omega
      case hb=>omega
      intro v' w8 ⟨S',hO8,hsub,hK8⟩
      have hk1:k<(zl o f).blocks.length:=by rw[hkl];exact hlt
      have hlk:((zl o f).blocks.take (k+1))=(zl o f).blocks.take k++[Vd (qC o) ah x]:=by
       rw[List.take_succ_eq_append_getElem hk1]
       congr 2
       rw[ZO o f hlt,←HBk.out,HAe.out,HXe.out,qG hin]
      have hrel:SlO 48 6 BlkO w8 v' ((zl o f).blocks.take (k+1)) S'∧(∀g,S' g→(∃i∈o.take (k+1),T i g)∨W1.heap.size≤g)∧Kept (fun g=>∃i∈o.take (k+1),T i g) W1 w8:=by
       have hmono:∀g,(∃i∈o.take k,T i g)→∃i∈o.take (k+1),T i g:=fun g ⟨i,hi,h⟩=>⟨i,by rw[List.take_succ_eq_append_getElem hlt];exact List.mem_append_left _ hi,h⟩
       have hbi:b∈o.take (k+1):=by rw[List.take_succ_eq_append_getElem hlt,HBk.out];exact List.mem_append_right _ List.mem_cons_self
       refine⟨by rw[hlk];exact hO8,fun g hg=>?_,?_⟩
       ·rcases hsub g hg with h|h|h
        ·exact(HN1.out g h).imp (hmono g) id
        ·rcases HTb.out g h with h|h
         ·exact .inl ⟨b,hbi,h⟩
         right;omega
        simp at h;right;omega
       refine(((HK.out.mono fun g _ h=>hmono g h).trans HKa.out (fun g _ h=>?_)).alloc _).trans hK8 (fun g hg h=>?_)
       ·exact⟨b,hbi,h.elim (HG.out.1 g) (HG.out.2.2 g)⟩
       rcases HN1.out g h with h|h
       ·exact hmono g h
       omega
      have ha7:=q7 hrel
      clear hrel hO8 hsub hK8
      go_wp2_with fail
      go_roundg (o.length - (k+1))
      case measure=>omega
      case rel=>exact⟨k+1,S',by omega,rfl,by go_num,ha7.out.1,ha7.out.2.1,ha7.out.2.2⟩
    have haH:j<(zd j (phiK (qC o) ah) x.phis).length:=by rw[qX];exact hjl
    obtain⟨gp,cp,csp,Tp,hvp,hgp,hcE,heW,hxp,hcG,hcH,haQ,hdJ,⟨curp,haI⟩,putp⟩:=HPj.out.focus zq (by omega) haH
    rw[xm haH (Nat.le_refl _)]at hxp
    obtain⟨p,hpe⟩:∃p,p=x.phis[j]:=⟨_,rfl⟩
    have hpl:p.src.length=ah.length:=HCl.out p (by rw[hpe];exact List.getElem_mem hjl)
    rw[←hpe]at hxp
    obtain⟨vp,rfl,hpd,hps⟩:=hxp
    obtain⟨qp,dp,rfl,ep0,_⟩:=hps.sl.val
    have hq1:q1=some ⟨gp,0,none⟩:=by injection hvp
    have p0:=haQ 0 (by omega)
    have p1:=haQ 1 (by omega)
    simp only[List.getElem?_cons_zero,List.getElem?_cons_succ,Nat.add_zero]at p0 p1
    have hpr:=hps.read (R':=vO) zT (by omega) fun _ _ _ h=>h
    have hlZ:SliceAt wp 2 vO qp p.src:=by
     obtain⟨_,_,e,_,_,h⟩:=hpr.outC
     cases e
     exact h
    have HPl:=q7 hpl
    have HPr:=q7 hlZ
    have HPs:=q7 hps
    have HPd:=q7 hpd
    have HPe:=q7 hpe
    have haG:=q7 putp
    have HTp:=q7 (And.intro hcG hcH)
    have HCp:=q7 haI
    have hcL:=q7 haQ
    have heX:=q7 hdJ
    have he7:=q7 hcE
    have hpU:gp≠w.heap.size+1+1+1∧gp<w.heap.size∨W2.heap.size≤gp:=by
     rcases HNj.out gp hcE with h|h
     ·have:=(HS1.out gp h).2;omega
     omega
    subst hq1
    clear hvp hpl hpd hps hpe hpr hlZ putp hcG hcH haI haQ heW hcE
    go_wp2_with fail
    obtain⟨w3,hw3⟩:∃w3,w3=wp.alloc (.cells #[.int .i64 p.dst,.slice qp p.src.length dp] 101):=⟨_,rfl⟩
    rw[←hw3]
    have hz3:w3.heap.size=wp.heap.size+1:=by rw[hw3];simp
    have hb3:Below wp.heap.size wp w3:=by rw[hw3];exact bZ
    have hP3:w3.heap[wp.heap.size]?=some (.cells #[.int .i64 p.dst,.slice qp p.src.length dp] 101 (0,0)):=by rw[hw3];exact qh rfl
    have HB3:=q7 hb3
    have HP3:=q7 hP3
    clear hw3 hb3 hP3 p0 p1 xb0 xb1 xb2 xb3 xb4 xb5 xf
    go_loopg [15,64] p.src.length (fun q s15 s64 wr=>∃(m:Nat) (SR:Blks),m≤p.src.length∧q=p.src.length - m∧s64 = .int .i64 m∧SlO 154 3 FrmO wr s15 (rowM (qC o) ah p.src m) SR∧(∀g,SR g→w3.heap.size≤g)∧Below w3.heap.size w3 wr)
    case atStart=>exact⟨0,fun _=>False,by omega,rfl,rfl,SlO.nil _ _ _ _ (fun _ h=>h.elim),fun _ h=>h.elim,Below.refl _ _⟩
    case round=>
     obtain⟨m,SR,hm,rfl,rfl,hO,hN,hb⟩:=hrel
     obtain⟨pR,cR,hvR,_⟩:=hO.val
     obtain⟨rl,hrl⟩:∃rl,rl=(rowM (qC o) ah p.src m).length:=⟨_,rfl⟩
     have hrm:rl≤m:=by rw[hrl];exact rowM_len _ _ _ _
     have HRl:=q7 hrl
     rw[←hrl]at hvR
     subst hvR
     have HRo:=q7 hO
     have HRn:=q7 hN
     have HRb:=q7 hb
     have hm3:=hb.size
     have hbw:Below wp.heap.size wp wr:=HB3.out.trans (hb.mono (by omega))
     have HBw:=q7 hbw
     clear hO hN hb hrl
     by_cases hml:m<p.src.length
     ·have hma:m<ah.length:=by rw[←HPl.out];exact hml
      obtain⟨bp,op,csv,hpp,_,hcv,hrv⟩:=HPr.out.get hml
      obtain⟨e2,hv64⟩:=hrv
      subst e2
      have hiN:=hcv 0 (by omega)
      have hbp:=q8 hiN
      have v0:=(hbw.cell (p:=⟨bp,_,none⟩) hbp).trans hiN
      have v1:=(hbw.cell (p:=⟨bp,_,none⟩) hbp).trans (hcv 1 (by omega))
      simp only[List.getElem?_cons_zero,List.getElem?_cons_succ,Nat.add_zero]at v0 v1
      obtain⟨rt,rr⟩:=hpS.out.kept (Kept.of_below (S:=fun _=>False) hbw) (fun _ h=>h.elim)
      obtain⟨qa,qc,ha0,ha1⟩:=rr b hin
      rw[←HAe.out]at ha0 ha1
      obtain⟨ba,rfl,⟨ha2,ha3⟩,ha4⟩:=ha1 m hma
      have hAr:=HAj.out.of_block (hbw.block _ HAj.out.lt)
      have hal:=HAl.out _ (List.getElem_mem hma)
      have ha5:=hAr.cell hal
      have hAz:w.heap.size+1+1+1<wr.heap.size:=hAr.lt
      have hlY:qC o ah[m]<1000000∧-1≤qC o ah[m]:=by
       unfold qC
       split
       ·next h=>have:=(xr h).1;omega
       omega
      have hsu:=rowM_succ (at_:=qC o) hma hml
      have htw:T1<wr.heap.size:=rt.2
      subst hpp
      generalize hpv:p.src[m]=pv at *
      generalize hav:ah[m]=av at *
      have HSu:=q7 hsu
      have hpV:=q7 hv64
      clear hcv hiN rr hsu hv64 hbw hAr
      generalize hpa:qC o av=pa at *
      by_cases hpos:0≤pa
      ·have hO2:=(HRo.out.below Zj ((Below.refl _ wr).alloc (Nat.le_refl _) (.cells #[.bool pv.1,.int .i64 pv.2] 43))).below Zj ((Below.refl _ _).alloc (Nat.le_refl _) (.cells #[.int .i64 pa,.bool pv.1,.int .i64 pv.2] 154))
       have HO2:=q7 hO2
       clear hO2
       go_wp2_with (at_builtin;refine qD _ rfl _ _ 152 rfl 154 iR _ 3 24 Tryz.underlying152 r1 r2 r3 r4 rfl (by decide) Zj rfl HO2.out ⟨wr.heap.size+1,0,none⟩ 1 [.int .i64 pa,.bool pv.1,.int .i64 pv.2] (pa,pv) rfl rfl ?hn ?ho (T:=fun _=>False) ⟨rfl,⟨hpos,hlY.1⟩,hpV.out⟩ ?ha ?ht ?hm ?hb ?_)
       case hn=>exact qS _ _ _ (by simp)
       case ho=>intro u hu;simp only[List.mem_cons,List.not_mem_nil,or_false]at hu;rcases hu with rfl|rfl|rfl<;>rfl
       case ha=>exact fun k h1 h2=>h2
       case ht=>exact fun k h=>h.elim
       case hm=>rw[←HRl.out];unfold maxLen;omega
       case hb=>rw[←HRl.out];omega
       intro v' w' ⟨S',hO3,hsub,hK3⟩
       have hrel:SlO 154 3 FrmO w' v' (rowM (qC o) ah p.src (m+1)) S'∧(∀g,S' g→w3.heap.size≤g)∧Below w3.heap.size w3 w':=by
        refine⟨?_,fun g hg=>?_,?_⟩
        ·rw[HSu.out,if_pos hpos]
         exact hO3
        ·rcases hsub g hg with h|h|h
         ·exact HRn.out g h
         ·exact h.elim
         simp at h;omega
        exact((HRb.out.alloc hm3 _).alloc (by simp;omega) _).trans (hK3.below (by simp;omega) (fun g hg=>HRn.out g hg))
       have ha7:=q7 hrel
       clear hrel hO3 hsub hK3
       go_wp2_with fail
       go_roundg (p.src.length - (m+1))
       case measure=>omega
       case rel=>exact⟨m+1,S',by omega,rfl,by go_num,ha7.out.1,ha7.out.2.1,ha7.out.2.2⟩
      have hrel:SlO 154 3 FrmO (wr.alloc (.cells #[.bool pv.1,.int .i64 pv.2] 43)) (.slice pR rl cR) (rowM (qC o) ah p.src (m+1)) SR∧(∀g,SR g→w3.heap.size≤g)∧Below w3.heap.size w3 (wr.alloc (.cells #[.bool pv.1,.int .i64 pv.2] 43)):=by
       refine⟨?_,HRn.out,HRb.out.alloc hm3 _⟩
       rw[HSu.out,if_neg hpos,List.append_nil]
       exact HRo.out.below Zj ((Below.refl _ wr).alloc (Nat.le_refl _) _)
      have ha7:=q7 hrel
      clear hrel
      go_wp2_with fail
      go_roundg (p.src.length - (m+1))
      case measure=>omega
      case rel=>exact⟨m+1,SR,by omega,rfl,by go_num,ha7.out.1,ha7.out.2.1,ha7.out.2.2⟩
     obtain rfl:m=p.src.length:=by omega
     have hfull:=rowM_full (at_:=qC o) (ah:=ah) HPl.out
     have hO:=HRo.out
     rw[hfull]at hO
     have hlr:rl=(Vc (qC o) ah p.src).length:=by rw[HRl.out,hfull]
     have hO':SlO 154 3 FrmO wr (.slice pR (Vc (qC o) ah p.src).length cR) (Vc (qC o) ah p.src) SR:=by rw[←hlr];exact hO
     have hcon:=XT pR cR (Vc (qC o) ah p.src) wr SR hO' (by have:=HPl.out;rw[←hlr];omega)
     rw[←hlr]at hcon
     have he8:=q7 hcon
     have HLr:=q7 hlr
     clear hfull hO hlr hO' hcon HRo HRl
     go_wp2_with fail
     refine he8.out.mono ?_
     rintro e w5 ⟨rfl,⟨ys,hyp,hys,hY⟩,hK5⟩
     have hyl:ys.length=rl:=by rw[hyp.length_eq];exact HLr.out.symm
     have hsk:sortK (Vc (qC o) ah p.src)=ys:=sortK_of hyp hys (rowK_keys HO.out.once HAd.out HPl.out)
     have hb5:Below wp.heap.size wp w5:=HBw.out.trans (hK5.below (by omega) (fun g hg=>by have:=HRn.out g hg;omega))
     have hz5:=hK5.size
     have hX5:=(hb5.block _ (q9 HXj.out)).trans HXj.out
     obtain⟨xb,xf⟩:=blk hX5
     have xz:=q9 hX5
     have xb0:=xb 0
     simp only[List.getElem?_toArray,List.getElem?_cons_zero]at xb0
     have hg5:w5.heap[gp]?=wp.heap[gp]?:=hb5.block gp hgp
     have g0:w5.cell? ⟨gp,j*2+1,none⟩=some (.slice qp p.src.length dp):=(World.cell?_of_block (a:=⟨gp,j*2+1,none⟩) hg5).trans (hcL.out 1 (by omega))
     have g1:w5.frozen? ⟨gp,j*2+1,none⟩=false:=(World.frozen?_of_block (a:=⟨gp,j*2+1,none⟩) hg5).trans (heX.out _)
     have g2:gp<w5.heap.size:=by omega
     have heY:RowPut wp (w5.setCell ⟨gp,j*2+1,none⟩ (.slice none 0 0)) 101 gp (j*2) 2 [.int .i64 p.dst,.slice none 0 0]:=RowPut.set (RowPut.same HCp.out hg5 hcL.out) rfl (j:=1) (by omega) _
     have heZ:=q7 heY
     have HY:=q7 hY
     have HYl:=q7 hyl
     have HSk:=q7 hsk
     have HB5:=q7 hb5
     have HX5:=q7 hX5
     have HSR:=q7 (fun g (hg:SR g)=>HRn.out g hg)
     have hpW:rl≤80:=by have:=HPl.out;omega
     clear hyp hys hyl hY hK5 hsk hb5 hX5 hg5 heY xb HRn HRb HBw he8
     go_wp2_with fail
     obtain⟨W5,hW5⟩:∃W5,W5=w5.setCell ⟨gp,j*2+1,none⟩ (.slice none 0 0):=⟨_,rfl⟩
     rw[←hW5]at heZ ⊢
     have hz6:W5.heap.size=w5.heap.size:=by rw[hW5];exact Go.Deep.nblk_setCell _ _ _
     have hm4:∀g,g≠gp→W5.heap[g]?=w5.heap[g]?:=fun g hg=>by rw[hW5];exact Go.Deep.blk_setCell_other _ _ _ g hg
     have hKW:Kept (fun g=>g=gp) wp W5:=by rw[hW5];exact Kept.setCell (S:=fun g=>g=gp) (p:=⟨gp,j*2+1,none⟩) (Kept.of_below HB5.out) rfl _
     have hm5:=q7 hm4
     have HKW:=q7 hKW
     clear hW5 hm4 hKW g0 g1 g2 xb0 xf xz
     go_loopg [97] rl (fun q s97 wr=>∃(m:Nat) (vq:Value) (SQ:Blks),m≤rl∧q=rl - m∧s97 = .int .i64 m∧SlO 43 2 Xu wr vq ((ys.take m).map (·.2)) SQ∧(∀g,SQ g→W5.heap.size≤g)∧RowPut wp wr 101 gp (j*2) 2 [.int .i64 p.dst,vq]∧Kept (fun g=>g=gp) W5 wr)
     case atStart=>exact⟨0,.slice none 0 0,fun _=>False,by omega,rfl,rfl,SlO.nil _ _ _ _ (fun _ h=>h.elim),fun _ h=>h.elim,heZ.out,Kept.refl _ _⟩
     case round=>
      obtain⟨m,vq,SQ,hm,rfl,rfl,hQ,hQn,hrp,hKq⟩:=hrel
      have hiO:((ys.take m).map (·.2)).length=m:=by rw[List.length_map,List.length_take,HYl.out];omega
      obtain⟨pq,cq,hvq,_⟩:=hQ.val
      rw[hiO]at hvq
      subst hvq
      have htA:=hKq.size
      have hgX:wo.heap.size≠gp:=by
       rcases hpU with h|h<;>omega
      have hXq:wr.heap[wo.heap.size]?=some (.cells #[.slice (some ⟨gp,0,none⟩) x.phis.length d1,.slice q2 x.list.length d2,.int .i64 x.fin.kind,.bool x.fin.onr,.int .i64 x.fin.onn,.slice q3 x.fin.to.length d3] 48 (0,0)):=(hKq.block _ (by have:=q9 HX5.out;omega) hgX).trans ((hm5.out _ hgX).trans HX5.out)
      obtain⟨r1c,r2c,r3c⟩:=hrp.cell (j:=1) (by omega)
      have HQ:=q7 hQ
      have HQn:=q7 hQn
      have HRp:=q7 hrp
      have HKq:=q7 hKq
      have HXq:=q7 hXq
      have HQl:=q7 hiO
      clear hQ hQn hrp hKq hXq hiO
      by_cases hml:m<rl
      rotate_left
      ·obtain rfl:rl=m:=by omega
       have hall:(ys.take rl).map (·.2)=(phiK (qC o) ah p).src:=by
        rw[List.take_of_length_le (by rw[HYl.out];exact Nat.le_refl _)]
        show _=(sortK (Vc (qC o) ah p.src)).map (·.2)
        rw[HSk.out]
       have hQf:SlO 43 2 Xu wr (.slice pq rl cq) (phiK (qC o) ah p).src SQ:=by rw[←hall];exact HQ.out
       have hfl:(phiK (qC o) ah p).src.length=rl:=by rw[←hall];exact HQl.out
       have hKp:Kept (fun g=>g=gp) wp wr:=HKW.out.trans HKq.out (fun _ _ h=>h)
       have hd8:PhiO wr [.int .i64 p.dst,.slice pq rl cq] (phiK (qC o) ah p) SQ:=⟨_,rfl,HPd.out,hQf,by rw[hfl];unfold reachBytes;omega⟩
       have hput:=haG.out wr _ _ SQ HRp.out rfl (fun u hu=>by
         simp only[List.mem_cons,List.not_mem_nil,or_false]at hu
         rcases hu with rfl|rfl<;>rfl) hKp.size (fun g h1 h2 h3=>hKp.block g (HPj.out.inb g h1) h3) hd8 (fun g hg=>⟨.inr (by have:=HQn.out g hg;omega),HQ.out.inb g hg⟩)
       rw[HPe.out,qU hjl]at hput
       have hrel:(∀g,SP g∨SQ g→S1 g∨W2.heap.size≤g)∧Kept S1 W2 wr:=by
        refine⟨fun g hg=>?_,HKj.out.trans hKp (fun g hg e=>?_)⟩
        ·rcases hg with h|h
         ·exact HNj.out g h
         have:=HQn.out g h;right;omega
        rw[e]
        rcases HNj.out gp he7.out with h|h
        ·exact h
        omega
       have ha7:=q7 (And.intro hput hrel)
       clear hput hrel hd8 hKp hfl hQf hall
       go_wp2_with fail
       go_roundg (x.phis.length - (j+1))
       case measure=>omega
       case rel=>exact⟨j+1,_,by omega,rfl,by go_num,ha7.out.1,ha7.out.2.1,ha7.out.2.2⟩
      have hmy:m<ys.length:=by rw[HYl.out];exact hml
      have hYr:=HY.out.read (R':=fun cs x=>cs=v8 x∧I64 x.2.2) Zj (by omega) (fun cs x T h=>⟨h.1,h.2.2⟩)
      obtain⟨pY,cY,hvY,_,_,hYs⟩:=hYr
      obtain⟨gy,cy2,csy,Ty,hvy,hgy,hSy,hpX,hxy,_,_,hcy,hfy,_⟩:=HY.out.focus Zj (by omega) hmy
      have hpy:pR=some ⟨gy,0,none⟩:=by injection hvy
      have htB:=HSR.out gy hSy
      have hf6:gy≠gp:=by omega
      have hh9:wr.heap[gy]?=w5.heap[gy]?:=(HKq.out.block gy (by omega) hf6).trans (hm5.out gy hf6)
      obtain⟨hpY,hpos,hiQ⟩:=hxy
      subst hpY
      have y0:=(World.cell?_of_block (a:=⟨gy,m*3+0,none⟩) hh9).trans (hcy 0 (by omega))
      have y1:=(World.cell?_of_block (a:=⟨gy,m*3+1,none⟩) hh9).trans (hcy 1 (by omega))
      have y2:=(World.cell?_of_block (a:=⟨gy,m*3+2,none⟩) hh9).trans (hcy 2 (by omega))
      simp only[List.getElem?_cons_zero,List.getElem?_cons_succ,Nat.add_zero]at y0 y1 y2
      have htC:gy<wr.heap.size:=by omega
      obtain⟨y,hye⟩:∃y,y=ys[m]:=⟨_,rfl⟩
      rw[←hye]at y0 y1 y2 hiQ
      have HYe:=q7 hye
      have hpZ:=q7 hiQ
      subst hpy
      clear hYs hvY hvy hpX hcy hfy hpos hye hh9 hiQ
      go_wp2_with fail
      obtain⟨w7,hw7⟩:∃w7,w7=wr.alloc (.cells #[.int .i64 y.1,.bool y.2.1,.int .i64 y.2.2] 154):=⟨_,rfl⟩
      rw[←hw7]
      have hz7:w7.heap.size=wr.heap.size+1:=by rw[hw7];simp
      have hb7:Below wr.heap.size wr w7:=by rw[hw7];exact bZ
      have hR7:w7.heap[wr.heap.size]?=some (.cells #[.int .i64 y.1,.bool y.2.1,.int .i64 y.2.2] 154 (0,0)):=by rw[hw7];exact qh rfl
      have HB7:=q7 hb7
      clear hw7 hb7 y0 y1 y2
      obtain⟨Sp,hSp⟩:∃Sp:World→Prop,Sp=fun w'=>w'.heap[wo.heap.size]?=some (.cells #[.slice (some ⟨gp,0,none⟩) x.phis.length d1,.slice q2 x.list.length d2,.int .i64 x.fin.kind,.bool x.fin.onr,.int .i64 x.fin.onn,.slice q3 x.fin.to.length d3] 48 (0,0))∧w'.heap[wr.heap.size]?=some (.cells #[.int .i64 y.1,.bool y.2.1,.int .i64 y.2.2] 154 (0,0))∧w'.heap[gp]?=wr.heap[gp]?:=⟨_,rfl⟩
      have ha6:∀w',Sp w'→w'.cell? ⟨wo.heap.size,0,none⟩=some (.slice (some ⟨gp,0,none⟩) x.phis.length d1)∧(∀i,w'.cell? ⟨wr.heap.size,i,none⟩=(#[.int .i64 y.1,.bool y.2.1,.int .i64 y.2.2]:Array Value)[i]?)∧w'.cell? ⟨gp,j*2+1,none⟩=some (.slice pq m cq)∧w'.frozen? ⟨gp,j*2+1,none⟩=false∧wo.heap.size<w'.heap.size∧wr.heap.size<w'.heap.size:=fun w' h=>by
       rw[hSp]at h
       exact⟨(blk h.1).1 0,(blk h.2.1).1,(World.cell?_of_block (a:=⟨gp,j*2+1,none⟩) h.2.2).trans r1c,(World.frozen?_of_block (a:=⟨gp,j*2+1,none⟩) h.2.2).trans r2c,q9 h.1,q9 h.2.1⟩
      have hSk:∀{U:Blks} {a c:World},Sp a→Kept U a c→¬ U wo.heap.size→¬ U wr.heap.size→¬ U gp→Sp c:=fun {U a c} h hk n1 n2 n3=>by
       rw[hSp]at h ⊢
       have hq7:gp<a.heap.size:=by have:=q9 h.2.1;omega
       exact⟨(hk.block _ (q9 h.1) n1).trans h.1,(hk.block _ (q9 h.2.1) n2).trans h.2.1,(hk.block _ hq7 n3).trans h.2.2⟩
      have hS7:Sp w7:=by
       rw[hSp]
       exact⟨(HB7.out.block _ (q9 HXq.out)).trans HXq.out,hR7,HB7.out.block gp r3c⟩
      have ha9:Sp w7.drew:=by rw[hSp]at hS7 ⊢;exact hS7
      refine qm (S:=Sp) (by kernel_rfl) 15 ?_
      refine tkZ 0 101 (.pointer (some ⟨wo.heap.size,0,none⟩)) rfl rfl ha9 (fun w' h=>?_) ?_
      ·obtain⟨h1,h2,h3,h4,h5,h6⟩:=ha6 w' h
       have y0:=h2 0
       have y1:=h2 1
       have y2:=h2 2
       clear h2
       simp only[List.getElem?_toArray,List.getElem?_cons_zero,List.getElem?_cons_succ]at y0 y1 y2
       go_simp
      refine tkZ 1 102 (.slice (some ⟨gp,0,none⟩) x.phis.length d1) rfl rfl ha9 (fun w' h=>?_) ?_
      ·obtain⟨h1,h2,h3,h4,h5,h6⟩:=ha6 w' h
       have y0:=h2 0
       have y1:=h2 1
       have y2:=h2 2
       clear h2
       simp only[List.getElem?_toArray,List.getElem?_cons_zero,List.getElem?_cons_succ]at y0 y1 y2
       go_simp
      refine tkZ 2 103 (.int .i64 j) rfl rfl ha9 (fun w' h=>?_) ?_
      ·obtain⟨h1,h2,h3,h4,h5,h6⟩:=ha6 w' h
       have y0:=h2 0
       have y1:=h2 1
       have y2:=h2 2
       clear h2
       simp only[List.getElem?_toArray,List.getElem?_cons_zero,List.getElem?_cons_succ]at y0 y1 y2
       go_simp
      refine tkZ 3 104 (.pointer (some ⟨wo.heap.size,0,none⟩)) rfl rfl ha9 (fun w' h=>?_) ?_
      ·obtain⟨h1,h2,h3,h4,h5,h6⟩:=ha6 w' h
       have y0:=h2 0
       have y1:=h2 1
       have y2:=h2 2
       clear h2
       simp only[List.getElem?_toArray,List.getElem?_cons_zero,List.getElem?_cons_succ]at y0 y1 y2
       go_simp
      refine tkZ 4 105 (.slice (some ⟨gp,0,none⟩) x.phis.length d1) rfl rfl ha9 (fun w' h=>?_) ?_
      ·obtain⟨h1,h2,h3,h4,h5,h6⟩:=ha6 w' h
       have y0:=h2 0
       have y1:=h2 1
       have y2:=h2 2
       clear h2
       simp only[List.getElem?_toArray,List.getElem?_cons_zero,List.getElem?_cons_succ]at y0 y1 y2
       go_simp
      refine tkZ 5 106 (.int .i64 j) rfl rfl ha9 (fun w' h=>?_) ?_
      ·obtain⟨h1,h2,h3,h4,h5,h6⟩:=ha6 w' h
       have y0:=h2 0
       have y1:=h2 1
       have y2:=h2 2
       clear h2
       simp only[List.getElem?_toArray,List.getElem?_cons_zero,List.getElem?_cons_succ]at y0 y1 y2
       go_simp
      refine tkZ 6 107 (.pointer (some ⟨gp,j*2,none⟩)) rfl rfl ha9 (fun w' h=>?_) ?_
      ·obtain⟨h1,h2,h3,h4,h5,h6⟩:=ha6 w' h
       have y0:=h2 0
       have y1:=h2 1
       have y2:=h2 2
       clear h2
       simp only[List.getElem?_toArray,List.getElem?_cons_zero,List.getElem?_cons_succ]at y0 y1 y2
       go_simp
      refine tkZ 7 108 (.pointer (some ⟨gp,j*2+1,none⟩)) rfl rfl ha9 (fun w' h=>?_) ?_
      ·obtain⟨h1,h2,h3,h4,h5,h6⟩:=ha6 w' h
       have y0:=h2 0
       have y1:=h2 1
       have y2:=h2 2
       clear h2
       simp only[List.getElem?_toArray,List.getElem?_cons_zero,List.getElem?_cons_succ]at y0 y1 y2
       go_simp
      refine tkZ 8 109 (.slice pq m cq) rfl rfl ha9 (fun w' h=>?_) ?_
      ·obtain⟨h1,h2,h3,h4,h5,h6⟩:=ha6 w' h
       have y0:=h2 0
       have y1:=h2 1
       have y2:=h2 2
       clear h2
       simp only[List.getElem?_toArray,List.getElem?_cons_zero,List.getElem?_cons_succ]at y0 y1 y2
       go_simp
      refine tkZ 9 110 (.pointer (some ⟨wr.heap.size,1,none⟩)) rfl rfl ha9 (fun w' h=>?_) ?_
      ·obtain⟨h1,h2,h3,h4,h5,h6⟩:=ha6 w' h
       have y0:=h2 0
       have y1:=h2 1
       have y2:=h2 2
       clear h2
       simp only[List.getElem?_toArray,List.getElem?_cons_zero,List.getElem?_cons_succ]at y0 y1 y2
       go_simp
      refine tkZ 10 111 (.agg #[.bool y.2.1,.int .i64 y.2.2]) rfl rfl ha9 (fun w' h=>?_) ?_
      ·obtain⟨h1,h2,h3,h4,h5,h6⟩:=ha6 w' h
       have y0:=h2 0
       have y1:=h2 1
       have y2:=h2 2
       clear h2
       simp only[List.getElem?_toArray,List.getElem?_cons_zero,List.getElem?_cons_succ]at y0 y1 y2
       go_simp
      have hS8:Sp (w7.drew.alloc (.cells #[.bool y.2.1,.int .i64 y.2.2] 43)):=hSk ha9 ((Kept.refl (fun _=>False) _).alloc _) (fun h=>h) (fun h=>h) (fun h=>h)
      refine qk (i:=11) (by kernel_rfl) (qn 112 (.slice (some ⟨w7.heap.size,0,none⟩) 1 1) (w7.drew.alloc (.cells #[.bool y.2.1,.int .i64 y.2.2] 43)) rfl rfl rfl (by go_simp) hS8 ?_)
      refine qk (i:=12) (by kernel_rfl) (zx 113 _ _ 51 rfl rfl rfl rfl 43 iV _ 2 16 Tryz.underlying51 l1 l2 l3 l4 rfl (by decide) zT (by go_simp) ((HQ.out.below zT HB7.out).below zT ((Below.refl _ w7).drew.alloc (Nat.le_refl _) _)) ⟨w7.heap.size,0,none⟩ 1 [.bool y.2.1,.int .i64 y.2.2] y.2 (by go_simp) rfl ?hn ?ho (T:=fun _=>False) ⟨rfl,hpZ.out⟩ ?ha ?ht ?hm ?hb ?_)
      case hn=>exact qS _ _ _ rfl
      case ho=>intro u hu;simp only[List.mem_cons,List.not_mem_nil,or_false]at hu;rcases hu with rfl|rfl<;>rfl
      case ha=>exact fun k h1 h2=>h2
      case ht=>exact fun k h=>h.elim
      case hm=>rw[HQl.out];unfold maxLen;omega
      case hb=>rw[HQl.out];omega
      intro v' w8 ⟨S',hO8,hsub,hK8⟩
      obtain⟨pv,cv,hv8,_⟩:=hO8.val
      have hl8:((ys.take m).map (·.2)++[y.2]).length=m+1:=by rw[List.length_append,HQl.out];rfl
      rw[hl8]at hv8
      subst hv8
      have hiR:∀g,g<W5.heap.size→¬ SQ g:=fun g hg h=>by have:=HQn.out g h;omega
      have hS9:Sp w8:=hSk hS8 hK8 (hiR _ (by have:=q9 HX5.out;omega)) (fun h=>by have:=HQ.out.inb _ h;omega) (hiR _ (by omega))
      refine⟨hS9,?_⟩
      refine qk (i:=13) (by kernel_rfl) (qn 114 (.pointer (some ⟨gp,j*2,none⟩)) w8 rfl rfl rfl (by go_simp) hS9 ?_)
      refine qk (i:=14) (by kernel_rfl) (qn 115 (.pointer (some ⟨gp,j*2+1,none⟩)) w8 rfl rfl rfl (by go_simp) hS9 ?_)
      obtain⟨t1,t2,t3,t4,t5,t6⟩:=ha6 w8 hS9
      clear t2
      have htD:gp<w8.heap.size:=by omega
      refine qk (i:=15) (by kernel_rfl) (qz (w8.setCell ⟨gp,j*2+1,none⟩ (.slice pv (m+1) cv)) rfl rfl rfl (by go_simp) (fun h=>absurd rfl h) (qB (by kernel_rfl) ?_ _))
      show Exit.inBlock 9 _ Exit.normal _ _
      have hq9:w8.heap[gp]?=wr.heap[gp]?:=by rw[hSp]at hS9;exact hS9.2.2
      have hea:Kept SQ wr w8:=((Kept.of_below HB7.out).drew.alloc _).trans hK8 (fun _ _ h=>h)
      have hrel:SlO 43 2 Xu (w8.setCell ⟨gp,j*2+1,none⟩ (.slice pv (m+1) cv)) (.slice pv (m+1) cv) ((ys.take (m+1)).map (·.2)) S'∧(∀g,S' g→W5.heap.size≤g)∧RowPut wp (w8.setCell ⟨gp,j*2+1,none⟩ (.slice pv (m+1) cv)) 101 gp (j*2) 2 [.int .i64 p.dst,.slice pv (m+1) cv]∧Kept (fun g=>g=gp) W5 (w8.setCell ⟨gp,j*2+1,none⟩ (.slice pv (m+1) cv)):=by
       have hs':∀g,S' g→W5.heap.size≤g:=fun g hg=>by
        rcases hsub g hg with h|h|h
        ·exact HQn.out g h
        ·exact h.elim
        simp at h;omega
       refine⟨?_,hs',RowPut.set (HRp.out.of_block hq9) rfl (j:=1) (by omega) _,?_⟩
       ·have e1:(ys.take (m+1)).map (·.2)=(ys.take m).map (·.2)++[y.2]:=by rw[List.take_succ_eq_append_getElem hmy,List.map_append,HYe.out];rfl
        rw[e1]
        exact hO8.loc zT (fun g hg=>Go.Deep.blk_setCell_other _ _ _ g (by have:=hs' g hg;show g≠gp;omega)) (by rw[Go.Deep.nblk_setCell];exact Nat.le_refl _)
       exact(HKq.out.trans hea (fun g hg h=>absurd h (hiR g hg))).setCell rfl _
      have ha7:=q7 hrel
      clear hrel hO8 hsub hK8 hea hS9 hS8 ha9 hS7 t1 t3 t4 r1c r2c
      go_wp2_with fail
      go_roundg (rl - (m+1))
      case measure=>omega
      case rel=>exact⟨m+1,_,S',by omega,rfl,by go_num,ha7.out.1,ha7.out.2.1,ha7.out.2.2.1,ha7.out.2.2.2⟩

end Go.Proofs.YtecdphhdmjmmnaaGreatDoor
