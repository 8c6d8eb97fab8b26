/-
  The contract of graph.Large of a function that is not too large.
-/
import Derived.Test.YtgjjhadbjmcnpaaGreatDoorNamC
import Derived.Test.YtgjjhadbjmcnpaaGreatDoorChaC
set_option maxRecDepth 100000
set_option maxHeartbeats 16000000
namespace Go.Proofs.YtgjjhadbjmcnpaaGreatDoor
open Go.RowKit Go.Shelf

theorem Jy (f:FunL):(qQ f).name=f.name∧(qQ f).params=f.params∧(qQ f).regs=f.regs∧(qQ f).blocks.length=f.blocks.length:=by
 have hc:∀(c:Nat) (f:FunL) (b:Nat),HeadLike (qW c f b) f:=by
  intro c
  induction c with
  | zero=>intro f b;exact ⟨rfl,rfl,rfl,rfl⟩
  | succ c ih=>
   intro f b
   unfold qW
   cases jq f b with
   | none=>exact ⟨rfl,rfl,rfl,rfl⟩
   | some t=>
    obtain ⟨h1,h2,h3,h4⟩:=ih (x8 f b t) b
    exact ⟨h1,h2,h3,by rw [h4,qM]⟩
 unfold qQ
 have key:∀(l:List Nat) (g:FunL) (c:Nat),HeadLike g f→HeadLike (l.foldl (fun g b=>qW c g b) g) f:=by
  intro l
  induction l with
  | nil=>intro g c h;exact h
  | cons b l ih=>
   intro g c h
   obtain ⟨a1,a2,a3,a4⟩:=hc c g b
   exact ih _ c ⟨a1.trans h.1,a2.trans h.2.1,a3.trans h.2.2.1,a4.trans h.2.2.2⟩
 exact key _ f _ ⟨rfl,rfl,rfl,rfl⟩

theorem doOf_any {nf:Nat} {P:Nat→Int} (f:FunL) (hC:FunC nf P f) (q:Option Addr) (e1:Nat) (w:World) (S:Blks) (hF:FunO w [.string f.name,.int .i64 f.params,.int .i64 f.regs,.slice q f.blocks.length e1] f S) :
  Calls Tryz.prog 32 #[.agg #[.string f.name,.int .i64 f.params,.int .i64 f.regs,.slice q f.blocks.length e1]] w fun e w'=>∃p c S',e = .returned (.agg #[.string f.name,.int .i64 f.params,.int .i64 (doT f).regs,.slice p (doT f).blocks.length c])∧
   FunO w' [.string f.name,.int .i64 f.params,.int .i64 (doT f).regs,.slice p (doT f).blocks.length c] (doT f) S'∧(∀g,S' g→S g∨w.heap.size≤g)∧Kept S w w':=by
 have hn0:=hC.n1
 have hcE:=hC.n40
 obtain ⟨v0,haF,hnm,i1,i2,hB⟩:=hF
 have hv0:v0 = .slice q f.blocks.length e1:=by simpa using haF.symm
 subst hv0
 obtain ⟨gq,cq,_,_,hvq,_⟩:=hB.sl.focus qU (by omega) hn0
 have hq:q=some ⟨gq,0,none⟩:=by injection hvq
 subst hq
 have hread:=hB.read (R':=BlkR w) qU (by omega) fun _ _ _ h=>h.read
 have hRd:SliceAt w 6 (BlkR w) (some ⟨gq,0,none⟩) f.blocks:=by
  obtain ⟨p,c,e,_,_,h⟩:=hread.outC
  cases e
  exact h
 have hSb:=hB.sl.inb
 have HC:=q8 hC
 have HB:=q8 hB
 have HRd:=q8 hRd
 have HSb:=q8 hSb
 have HN:=q8 (And.intro hnm (And.intro i1 i2))
 clear hC hB hread hRd hSb hnm i1 i2 haF hvq
 go_enter Tryz.func32,Tryz.ntmps32
 go_wp2_with fail
 obtain ⟨W0,hW0⟩:∃W0,W0=(w.alloc (.cells #[.string f.name,.int .i64 f.params,.int .i64 f.regs,.slice (some ⟨gq,0,none⟩) f.blocks.length e1] 38)).alloc (.cells #[.string { data:=#[] },.int .i64 0,.int .i64 0,.slice none 0 0] 38):=⟨_,rfl⟩
 rw [←hW0]
 have hz0:W0.heap.size=w.heap.size+1+1:=by rw [hW0];simp
 have hb0:Below w.heap.size w W0:=by rw [hW0];exact bZ
 have hF0:W0.heap[w.heap.size]?=some (.cells #[.string f.name,.int .i64 f.params,.int .i64 f.regs,.slice (some ⟨gq,0,none⟩) f.blocks.length e1] 38 (0,0)):=by rw [hW0];exact qh (qq rfl)
 have hZ0:W0.heap[w.heap.size+1]?=some (.cells #[.string { data:=#[] },.int .i64 0,.int .i64 0,.slice none 0 0] 38 (0,0)):=by rw [hW0];exact qq (by simp)
 have HB0:=q8 hb0
 clear hW0 hb0
 obtain ⟨Sp,hSp⟩:∃Sp:World→Prop,Sp=fun w'=>w'.heap[w.heap.size]?=some (.cells #[.string f.name,.int .i64 f.params,.int .i64 f.regs,.slice (some ⟨gq,0,none⟩) f.blocks.length e1] 38 (0,0))∧w'.heap[w.heap.size+1]?=some (.cells #[.string { data:=#[] },.int .i64 0,.int .i64 0,.slice none 0 0] 38 (0,0)):=⟨_,rfl⟩
 have ha6:∀w',Sp w'→(∀i,w'.cell? ⟨w.heap.size,i,none⟩=(#[.string f.name,.int .i64 f.params,.int .i64 f.regs,.slice (some ⟨gq,0,none⟩) f.blocks.length e1]:Array Value)[i]?)∧w.heap.size<w'.heap.size:=fun w' h=>by
  rw [hSp] at h
  exact ⟨(blk h.1).1,qd h.1⟩
 have hS0:Sp W0.drew:=by rw [hSp];exact ⟨hF0,hZ0⟩
 refine qz (S:=Sp) (by kernel_rfl) 6 ?_
 refine tkZ 0 3 (.agg #[.string f.name,.int .i64 f.params,.int .i64 f.regs,.slice (some ⟨gq,0,none⟩) f.blocks.length e1]) rfl rfl hS0 (fun w' h=>?_) ?_
 ·obtain ⟨h1,h2⟩:=ha6 w' h
  have g0:=h1 0
  have g1:=h1 1
  have g2:=h1 2
  have g3:=h1 3
  clear h1
  simp only [List.getElem?_toArray,List.getElem?_cons_zero,List.getElem?_cons_succ] at g0 g1 g2 g3
  go_simp
 refine tkZ 1 4 (.agg #[.string f.name,.int .i64 f.params,.int .i64 f.regs,.slice (some ⟨gq,0,none⟩) f.blocks.length e1]) rfl rfl hS0 (fun w' h=>?_) ?_
 ·obtain ⟨h1,h2⟩:=ha6 w' h
  have g0:=h1 0
  have g1:=h1 1
  have g2:=h1 2
  have g3:=h1 3
  clear h1
  simp only [List.getElem?_toArray,List.getElem?_cons_zero,List.getElem?_cons_succ] at g0 g1 g2 g3
  go_simp
 have hO:=HC.out.funD.toFunS.ord
 have hint:jb f.blocks=(jc f.blocks).map fun i:Nat=>(i:Int):=hO.ints
 have hpl:(jZ f.blocks).length≤1000000:=HC.out.funD.toFunS.postLen
 refine qm (i:=2) (by kernel_rfl) (qr 5 rfl rfl rfl (by go_simp) (QD f (some ⟨gq,0,none⟩) e1 W0.drew hn0 (by omega) HC.out.funD.two HC.out.funD.toFunS.tosB (Qc HRd.out HB0.out.drew) hpl) ?_)
 rintro e w1 ⟨vo,rfl,hOw,hb1⟩
 rw [hint,List.length_map] at hOw
 have ho:=HC.out.funD.toFunS.ordC
 obtain ⟨o,hoe⟩:∃o,o=jc f.blocks:=⟨_,rfl⟩
 rw [←hoe] at ho hOw
 have hop:=ho.pos.1
 obtain ⟨po,co,rfl⟩:=jt hOw
 obtain ⟨go,rfl,hhA,hdS,_⟩:=ki hOw hop
 have hoc:∀i (h:i<o.length),w1.cell? ⟨go,i,none⟩=some (.int .i64 (o[i]:Nat)):=fun i h=>by
  obtain ⟨g',e,_,_,hc⟩:=ki hOw h
  cases e
  rw [hc]
  simp [h]
 have hco:o.length≤co:=by
  rcases hOw.2 with ⟨h1,_⟩|⟨_,_,_,h1,_,_,h2,_⟩
  ·cases h1
  cases h1;exact h2
 have hb1':Below W0.heap.size W0 w1:=(Below.refl _ W0).drew.trans hb1
 have hg6:W0.heap.size≤go:=hhA
 have hS1:Sp w1:=by rw [hSp];exact ⟨(hb1'.block _ (by omega)).trans hF0,(hb1'.block _ (by omega)).trans hZ0⟩
 refine ⟨_,rfl,hS1,?_⟩
 have hdV:Below w.heap.size w w1:=HB0.out.trans (hb1'.mono (by omega))
 have hz1:=hb1'.size
 have hFO:FunO w1 [.string f.name,.int .i64 f.params,.int .i64 f.regs,.slice (some ⟨gq,0,none⟩) f.blocks.length e1] f S:=⟨_,rfl,HN.out.1,HN.out.2.1,HN.out.2.2,⟨HB.out.sl.below qU hdV,HB.out.bd⟩⟩
 refine qm (i:=3) (by kernel_rfl) (qr 6 rfl rfl rfl (by go_simp) (Vl f HC.out o ho (some ⟨gq,0,none⟩) e1 go co w1 S hFO hdS (fun h=>by have:=HSb.out go h;omega) hoc hco) ?_)
 rintro e w2 ⟨p2,c2,S2,rfl,hF2,hS2,hK2⟩
 obtain ⟨g,hge⟩:∃g,g=zi o f:=⟨_,rfl⟩
 have hgT:g=jN f:=by rw [hge,hoe];rfl
 rw [←hge] at hF2 ⊢
 have hCg:FunC nf P g:=by rw [hgT];exact HC.out.order
 have hh1:g.name=f.name∧g.params=f.params∧g.regs=f.regs:=by rw [hge];exact ⟨rfl,rfl,rfl⟩
 have hSn:∀k,S k→k<w.heap.size:=HSb.out
 have hda:Sp w2:=by
  rw [hSp] at hS1 ⊢
  exact ⟨(hK2.block _ (by omega) (fun h=>by have:=hSn _ h;omega)).trans hS1.1,(hK2.block _ (by omega) (fun h=>by have:=hSn _ h;omega)).trans hS1.2⟩
 refine ⟨_,rfl,hda,?_⟩
 clear hge
 have hz2:=hK2.size
 have hch:=VX g hCg p2 c2 w2 S2 (by rw [hh1.1,hh1.2.1,hh1.2.2];exact hF2)
 rw [hh1.1,hh1.2.1,hh1.2.2] at hch
 refine qm (i:=4) (by kernel_rfl) (qr 7 rfl rfl rfl (by go_simp) hch ?_)
 rintro e w3 ⟨p3,c3,S3,rfl,hF3,hS3,hK3⟩
 have hjS:∀k,S2 k→S k∨w1.heap.size≤k:=hS2
 have hhH:Sp w3:=by
  rw [hSp] at hda ⊢
  have hn:∀k,S2 k→k≠w.heap.size∧k≠w.heap.size+1:=fun k hk=>by
   rcases hjS k hk with h|h
   ·have:=hSn _ h;omega
   omega
  exact ⟨(hK3.block _ (by omega) (fun h=>(hn _ h).1 rfl)).trans hda.1,(hK3.block _ (by omega) (fun h=>(hn _ h).2 rfl)).trans hda.2⟩
 refine ⟨_,rfl,hhH,?_⟩
 have hz3:=hK3.size
 obtain ⟨h,hhe⟩:∃h,h=qQ g:=⟨_,rfl⟩
 have hea:=Jy g
 rw [←hhe] at hF3 hea
 have hCh:FunC nf P h:=by rw [hhe];exact hCg.chains
 have hh2:h.name=f.name∧h.params=f.params∧h.regs=f.regs:=⟨hea.1.trans hh1.1,hea.2.1.trans hh1.2.1,hea.2.2.1.trans hh1.2.2⟩
 have hnm:=names_any h hCh p3 c3 w3 S3 (by rw [hh2.1,hh2.2.1,hh2.2.2,hea.2.2.2];exact hF3)
 rw [hh2.1,hh2.2.1,hh2.2.2,hea.2.2.2] at hnm
 have hdo:xV h=doT f:=by rw [hhe,hgT];rfl
 rw [hdo] at hnm
 refine qm (i:=5) (by kernel_rfl) (qr 8 rfl rfl rfl (by go_simp) hnm ?_)
 rintro e w4 ⟨p4,c4,S4,rfl,hF4,hS4,hK4⟩
 have heH:∀k,S3 k→S k∨w1.heap.size≤k:=fun k hk=>by
  rcases hS3 k hk with a|a
  ·exact hjS k a
  omega
 have hjT:Sp w4:=by
  rw [hSp] at hhH ⊢
  have hn:∀k,S3 k→k≠w.heap.size∧k≠w.heap.size+1:=fun k hk=>by
   rcases heH k hk with h|h
   ·have:=hSn _ h;omega
   omega
  exact ⟨(hK4.block _ (by omega) (fun h=>(hn _ h).1 rfl)).trans hhH.1,(hK4.block _ (by omega) (fun h=>(hn _ h).2 rfl)).trans hhH.2⟩
 refine ⟨_,rfl,hjT,?_⟩
 have hz4:=hK4.size
 have hZ4:w4.heap[w.heap.size+1]?=some (.cells #[.string { data:=#[] },.int .i64 0,.int .i64 0,.slice none 0 0] 38 (0,0)):=by
  rw [hSp] at hjT
  exact hjT.2
 obtain ⟨yb,yf⟩:=blk hZ4
 have yb0:=yb 0
 have yb1:=yb 1
 have yb2:=yb 2
 have yb3:=yb 3
 simp only [List.getElem?_toArray,List.getElem?_cons_zero,List.getElem?_cons_succ] at yb0 yb1 yb2 yb3
 have yz:=qd hZ4
 clear yb
 refine qm (i:=6) (by kernel_rfl) (qt ((((w4.setCell ⟨w.heap.size+1,0,none⟩ (.string f.name)).setCell ⟨w.heap.size+1,1,none⟩ (.int .i64 f.params)).setCell ⟨w.heap.size+1,2,none⟩ (.int .i64 (doT f).regs)).setCell ⟨w.heap.size+1,3,none⟩ (.slice p4 (doT f).blocks.length c4)) rfl rfl rfl (by go_simp) (fun h=>absurd rfl h) (qI (by kernel_rfl) ?_ _))
 show calm _ Exit.normal _ _
 obtain ⟨WF,hWF⟩:∃WF,WF=(((w4.setCell ⟨w.heap.size+1,0,none⟩ (.string f.name)).setCell ⟨w.heap.size+1,1,none⟩ (.int .i64 f.params)).setCell ⟨w.heap.size+1,2,none⟩ (.int .i64 (doT f).regs)).setCell ⟨w.heap.size+1,3,none⟩ (.slice p4 (doT f).blocks.length c4):=⟨_,rfl⟩
 rw [←hWF]
 have hK:Kept (fun k=>k=w.heap.size+1) w4 WF:=by
  rw [hWF]
  have h0:Kept (fun k=>k=w.heap.size+1) w4 w4:=Kept.refl _ _
  have h1:=h0.setCell (p:=⟨w.heap.size+1,0,none⟩) rfl (.string f.name)
  have h2:=h1.setCell (p:=⟨w.heap.size+1,1,none⟩) rfl (.int .i64 f.params)
  have h3:=h2.setCell (p:=⟨w.heap.size+1,2,none⟩) rfl (.int .i64 (doT f).regs)
  exact h3.setCell (p:=⟨w.heap.size+1,3,none⟩) rfl (.slice p4 (doT f).blocks.length c4)
 have hRF:WF.heap[w.heap.size+1]?=some (.cells #[.string f.name,.int .i64 f.params,.int .i64 (doT f).regs,.slice p4 (doT f).blocks.length c4] 38 (0,0)):=by
  rw [hWF,qj (qj (qj (qj hZ4 0 _) 1 _) 2 _) 3 _]
  rfl
 have hnh:∀k,S4 k→S k∨w1.heap.size≤k:=fun k hk=>by
  rcases hS4 k hk with a|a
  ·exact heH k a
  omega
 have hfun:FunO WF [.string f.name,.int .i64 f.params,.int .i64 (doT f).regs,.slice p4 (doT f).blocks.length c4] (doT f) S4:=by
  obtain ⟨v4,hnj,a1,a2,a3,hB4⟩:=hF4
  have hv4:v4 = .slice p4 (doT f).blocks.length c4:=by
   have h:=hnj.symm
   simp at h
   exact h.2.2
  subst hv4
  exact ⟨_,hnj,a1,a2,a3,⟨hB4.sl.kept qU hK (fun k b1 b2=>by
   rcases hnh k b2 with a|a
   ·have:=hSn _ a;omega
   omega),hB4.bd⟩⟩
 have hkw:Kept S w WF:=by
  have h1:Kept S w w1:=Kept.of_below hdV
  have h2:Kept S w w2:=h1.trans hK2 (fun k _ h=>h)
  have h3:Kept S w w3:=h2.trans hK3 (fun k hk h=>(hjS k h).elim id (fun a=>by omega))
  have h4:Kept S w w4:=h3.trans hK4 (fun k hk h=>(heH k h).elim id (fun a=>by omega))
  exact h4.trans hK (fun k hk h=>by omega)
 have hs4:∀k,S4 k→S k∨w.heap.size≤k:=fun k hk=>(hnh k hk).imp id (fun a=>by omega)
 obtain ⟨rb,_⟩:=blk hRF
 have rb0:=rb 0
 have rb1:=rb 1
 have rb2:=rb 2
 have rb3:=rb 3
 simp only [List.getElem?_toArray,List.getElem?_cons_zero,List.getElem?_cons_succ] at rb0 rb1 rb2 rb3
 have hqB:=q8 hfun
 have HKw:=q8 hkw
 have HS4:=q8 hs4
 clear hWF hK hRF hfun hkw hs4 hF4 hK4 hS4 hnm hea hh2 hdo hhe hch hF3 hK3 hF2 hK2 hgT hh1 hFO hoe hint hO yb0 yb1 yb2 yb3 yf hSp ha6
 simp only [calm]
 go_wp2_with fail
 refine bodyPost_ret (v:=.agg #[.string f.name,.int .i64 f.params,.int .i64 (doT f).regs,.slice p4 (doT f).blocks.length c4]) ?_ rfl ⟨p4,c4,S4,rfl,hqB.out,HS4.out,HKw.out⟩
 simp [results,Tryz.results32,go_sem,rb0,rb1,rb2,rb3]
end Go.Proofs.YtgjjhadbjmcnpaaGreatDoor
namespace Go.Proofs.YtgjjhadbjmcnpaaGreatDoor
open Go.RowKit

def K2 (f:FunL) (k:Nat):Nat:=((f.blocks.take k).map fun b=>b.phis.length+b.list.length).sum
theorem XL {f:FunL} {k:Nat} (h:k<f.blocks.length):K2 f (k+1)=K2 f k+(f.blocks[k].phis.length+f.blocks[k].list.length):=by
 unfold K2
 rw [List.take_succ_eq_append_getElem h,List.map_append,List.sum_append]
 simp
theorem sumK_le {f:FunL}:∀k,k≤f.blocks.length→K2 f k≤xm f:=fun k hk=>by
 have h1:∀j,k+j≤f.blocks.length→K2 f k≤K2 f (k+j):=by
  intro j
  induction j with
  | zero=>intro _;exact Nat.le_refl _
  | succ j ih=>
   intro hj
   have:=ih (by omega)
   rw [←Nat.add_assoc,XL (by omega)]
   omega
 have h2:=h1 (f.blocks.length - k) (by omega)
 rw [Nat.add_sub_cancel' hk] at h2
 have h3:K2 f f.blocks.length=xm f:=by unfold K2 xm;rw [List.take_length]
 omega

theorem large_no (f:FunL) (bp:Option Addr) (bc:Nat) (w:World) (hn:f.blocks.length≤40) (hm:xm f≤300) (hr:f.regs≤100) (hB:SliceAt w 6 (BlkR w) bp f.blocks) :
  Calls Tryz.prog 64 #[.agg #[.string f.name,.int .i64 f.params,.int .i64 f.regs,.slice bp f.blocks.length bc]] w fun e w'=>e = .returned (.bool false)∧Below w.heap.size w w':=by
 have HB:=q8 hB
 clear hB
 go_enter Tryz.func64,Tryz.ntmps64
 go_wp2
 go_loopw [3,9] (fun n i wr=>∃k:Nat,k≤f.blocks.length∧i = .int .i64 k∧n = .int .i64 (K2 f k:Nat)∧Below (w.heap.size+1) (w.alloc (.cells #[.string f.name,.int .i64 f.params,.int .i64 f.regs,.slice bp f.blocks.length bc] 38)) wr) (fun _ i _=>f.blocks.length - (intOf i).toNat)
 case atStart=>exact ⟨0,by omega,rfl,by simp [K2],Below.refl _ _⟩
 case round=>
  obtain ⟨k,hk,rfl,rfl,hb⟩:=hrel
  have HBx:Hid (Below w.heap.size w wr):=((Below.refl _ _).alloc (Nat.le_refl _) _).trans (hb.mono (by omega))
  have hF:=qg hb (by omega) (qx w _)
  obtain ⟨hcc,hcf⟩:=blk hF
  have zf:=(Array.getElem?_eq_some_iff.1 hF).1
  have HBb:=q8 hb
  have hmk:=sumK_le k hk
  clear hb
  by_cases hlt:k<f.blocks.length
  ·obtain ⟨bb,bo,pp,pc,lp,lc,tp,tc,hbp,b0,b1,b2,b3,b4,b5,_,_,_,hll,htl,_,_,_⟩:=jH HB.out HBx.out hlt
   subst hbp
   have zb:=q9 b0
   have hs:=XL hlt
   have hms:=sumK_le (k+1) hlt
   have HS:=q8 hs
   have gk0:(0:Int)≤(k:Int):=by omega
   have gk1:(k:Int)<f.blocks.length:=by omega
   have hp1:f.blocks[k].phis.length≤1000:=by omega
   have hp2:f.blocks[k].list.length≤1000:=by omega
   clear hs hF
   go_wp2
   refine ⟨⟨k+1,by omega,by go_num,?_,?_⟩,by simp [intOf];omega⟩
   ·rw [HS.out]
    congr 1
   exact HBb.out.alloc (by have:=HBb.out.size;simp at this ⊢;omega) _
  obtain rfl:k=f.blocks.length:=by omega
  have h3:K2 f f.blocks.length=xm f:=by unfold K2 xm;rw [List.take_length]
  rw [h3]
  have d1:decide ((40:Int)<(f.blocks.length:Int))=false:=by rw [decide_eq_false_iff_not];omega
  have d2:decide ((300:Int)<(xm f:Int))=false:=by rw [decide_eq_false_iff_not];omega
  have d3:decide ((100:Int)<f.regs)=false:=by rw [decide_eq_false_iff_not];omega
  have cc2:=hcc 2
  have cc3:=hcc 3
  simp only [List.getElem?_toArray,List.getElem?_cons_zero,List.getElem?_cons_succ] at cc2 cc3
  clear hcc hF h3 hmk
  go_wp2
  go_ret
  exact ⟨rfl,HBx.out⟩
end Go.Proofs.YtgjjhadbjmcnpaaGreatDoor
