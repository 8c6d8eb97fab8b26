/-
  Plain: what a namer holds when a list of registers is met.
-/
import Derived.Test.YtecdphhdmjmmnaaGreatDoorJChaA
set_option maxRecDepth 100000
set_option maxHeartbeats 16000000
namespace Go.Proofs.YtecdphhdmjmmnaaGreatDoor
open Go.RowKit Go.Shelf

structure NmSt (w:World) (nb A m:Nat) (s:NamS):Prop where
 st:w.heap[nb]?=some (.cells #[.slice (some ⟨A,0,none⟩) m m,.int .i64 s.2] 149 (0,0))
 row:w.rowIs A 3 m (fun j=>.int .i64 (s.1 j))
 ne:nb≠A
 many:0≤s.2∧s.2≤1000000
theorem NmSt.kept {U:Blks} {w w':World} {nb A m:Nat} {s:NamS} (h:NmSt w nb A m s) (hk:Kept U w w') (h1:¬ U nb) (h2:¬ U A):NmSt w' nb A m s:=
 ⟨(hk.block _ (q9 h.st) h1).trans h.st,h.row.of_block (hk.block _ h.row.lt h2),h.ne,h.many⟩
theorem NmSt.below {w w':World} {nb A m:Nat} {s:NamS} (h:NmSt w nb A m s) (hb:Below w.heap.size w w'):NmSt w' nb A m s:=h.kept (U:=fun _=>False) (Kept.of_below hb) id id
theorem NmSt.drew {w:World} {nb A m:Nat} {s:NamS} (h:NmSt w nb A m s):NmSt w.drew nb A m s:=h.below (Below.refl _ w).drew

theorem J9 (r nb A m:Nat) (s:NamS) (w:World) (h:NmSt w nb A m s) (hr:r<m) (_hb:-1≤s.1 r∧s.1 r≤1000000) :
  Calls Tryz.prog 99 #[.pointer (some ⟨nb,0,none⟩),.int .i64 r] w fun e w'=>e = .returned (.int .i64 ((jo s r).1 r))∧(s.2<1000000→NmSt w' nb A m (jo s r))∧Kept (fun k=>k=nb∨k=A) w w':=by
 obtain⟨hst,hrow,hne,hm1,hm2⟩:=h
 have z1:=q9 hst
 have z2:=hrow.lt
 obtain⟨cb,cf⟩:=blk hst
 have cb0:=cb 0
 have cb1:=cb 1
 simp only[List.getElem?_toArray,List.getElem?_cons_zero,List.getElem?_cons_succ]at cb0 cb1
 have c2:=hrow.cell hr
 have c2f:=hrow.frozen r
 have hne2:¬ A=nb:=fun e=>hne e.symm
 have hst':w.heap[nb]?=some (.cells #[.slice (some ⟨A,0,none⟩) m m,.int .i64 s.2] 149 (0,0)):=hst
 have HSt:=q7 hst'
 have hgP:=q7 hrow
 clear cb hst hst' hrow
 by_cases hlt:s.1 r<0
 ·have hw:IntKind.i64.wrap (s.2+1)=s.2+1:=by rw[IntKind.wrap_i64];omega
  have hl:decide (s.1 r<0)=true:=by simpa using hlt
  have hn:jo s r=(fun i=>if i=r then s.2 else s.1 i,s.2+1):=by unfold jo;rw[if_pos hlt]
  have HN:=q7 hn
  clear hn
  go_enter Tryz.func99,Tryz.ntmps99
  go_wp2_with fail
  go_region
  go_wp2_with fail
  go_ret
  obtain⟨W,hW⟩:∃W,W=((w.setCell ⟨A,r,none⟩ (.int .i64 s.2)).setCell ⟨nb,1,none⟩ (.int .i64 (s.2+1))).drew:=⟨_,rfl⟩
  rw[←hW,HN.out]
  have hK:Kept (fun k=>k=nb∨k=A) w W:=by
   rw[hW]
   have h0:Kept (fun k=>k=nb∨k=A) w w:=Kept.refl _ w
   have h1:=h0.setCell (p:=⟨A,r,none⟩) (.inr rfl) (.int .i64 s.2)
   exact(h1.setCell (p:=⟨nb,1,none⟩) (.inl rfl) (.int .i64 (s.2+1))).drew
  refine⟨by simp,fun hs=>⟨?_,?_,hne,by simp;omega⟩,hK⟩
  ·rw[hW]
   show((w.setCell ⟨A,r,none⟩ (.int .i64 s.2)).setCell ⟨nb,1,none⟩ (.int .i64 (s.2+1))).heap[nb]?=_
   rw[qg ((Go.Deep.blk_setCell_other w ⟨A,r,none⟩ _ nb hne).trans HSt.out) 1 _]
   rfl
  rw[hW]
  refine(((hgP.out.set r (.int .i64 s.2)).setOther (by show A≠nb;exact fun e=>hne e.symm) _).drew).congr fun j _=>?_
  by_cases e:j=r<;>simp[e]
 have hl:decide (s.1 r<0)=false:=by simpa using hlt
 have hn:jo s r=s:=by unfold jo;rw[if_neg hlt]
 have HN:=q7 hn
 clear hn
 go_enter Tryz.func99,Tryz.ntmps99
 go_wp2_with fail
 go_ret
 rw[HN.out]
 exact⟨rfl,fun _=>⟨HSt.out,hgP.out,hne,hm1,hm2⟩,Kept.refl _ _⟩

theorem nval_any (v:Bool×Int) (nb A m:Nat) (s:NamS) (w:World) (h:NmSt w nb A m s) (hv:v.1=true→0≤v.2∧v.2<m) (hb:∀r,-1≤s.1 r∧s.1 r≤1000000) :
  Calls Tryz.prog 100 #[.pointer (some ⟨nb,0,none⟩),.agg #[.bool v.1,.int .i64 v.2]] w fun e w'=>e = .returned (.agg #[.bool v.1,.int .i64 (x9 ((xw v).foldl jo s).1 v).2])∧(s.2<1000000→NmSt w' nb A m ((xw v).foldl jo s))∧Kept (fun k=>k=nb∨k=A) w w':=by
 obtain⟨vr,vn⟩:=v
 have zn:=q9 h.st
 have zA:=h.row.lt
 have HM:=q7 h
 cases vr with
 | false=>
  have hm:(xw (false,vn)).foldl jo s=s:=rfl
  have hr:(x9 s.1 (false,vn)).2=vn:=rfl
  rw[hm,hr]
  have h0:=h.many
  clear h hm hr
  go_enter Tryz.func100,Tryz.ntmps100
  go_wp2_with fail
  obtain⟨W,hW⟩:∃W,W=(w.alloc (.cells #[.bool false,.int .i64 vn] 43)).alloc (.cells #[.bool false,.int .i64 vn] 43):=⟨_,rfl⟩
  rw[←hW]
  have hb:Below w.heap.size w W:=by rw[hW];exact bZ
  have hR:W.heap[w.heap.size+1]?=some (.cells #[.bool false,.int .i64 vn] 43 (0,0)):=by
   rw[hW]
   exact qh (by simp)
  clear hW
  obtain⟨rb,_⟩:=blk hR
  have rb0:=rb 0
  have rb1:=rb 1
  simp only[List.getElem?_toArray,List.getElem?_cons_zero,List.getElem?_cons_succ]at rb0 rb1
  refine bodyPost_ret (v:=.agg #[.bool false,.int .i64 vn]) ?_ rfl ⟨rfl,fun _=>HM.out.below hb,Kept.of_below hb⟩
  simp[results,Tryz.results100,go_sem,rb0,rb1]
 | true=>
  obtain⟨hv1,hv2⟩:=hv rfl
  obtain⟨r,rfl⟩:∃r:Nat,vn=(r:Int):=⟨vn.toNat,by simp at hv1;omega⟩
  have hrm:r<m:=by simp at hv2;omega
  have hm:(xw (true,(r:Int))).foldl jo s=jo s r:=by simp[xw]
  have hr:(x9 (jo s r).1 (true,(r:Int))).2=(jo s r).1 r:=by simp[x9]
  rw[hm,hr]
  have hcon:=fun W (hW:NmSt W nb A m s)=>J9 r nb A m s W hW hrm (hb r)
  have he8:=q7 hcon
  obtain⟨nr,hnr⟩:∃nr,nr=(jo s r).1 r:=⟨_,rfl⟩
  rw[←hnr]
  have HNr:=q7 hnr
  clear h hm hr hcon hnr
  go_enter Tryz.func100,Tryz.ntmps100
  go_wp2_with fail
  have hb1:Below w.heap.size w ((w.alloc (.cells #[.bool true,.int .i64 r] 43)).alloc (.cells #[.bool false,.int .i64 0] 43)):=by exact bZ
  refine(he8.out _ (HM.out.below hb1)).mono ?_
  rintro e w2 ⟨rfl,hN2,hK2⟩
  rw[←HNr.out]
  have hV2:w2.heap[w.heap.size]?=some (.cells #[.bool true,.int .i64 r] 43 (0,0)):=(hK2.block _ (by simp;omega) (by omega)).trans (qj (qh rfl))
  have hZ2:w2.heap[w.heap.size+1]?=some (.cells #[.bool false,.int .i64 0] 43 (0,0)):=(hK2.block _ (by simp) (by omega)).trans (qh (by simp))
  have hz2:=hK2.size
  obtain⟨vb,vf⟩:=blk hV2
  have vb0:=vb 0
  have vb1:=vb 1
  obtain⟨zb,zf⟩:=blk hZ2
  have zb0:=zb 0
  have zb1:=zb 1
  simp only[List.getElem?_toArray,List.getElem?_cons_zero,List.getElem?_cons_succ]at vb0 vb1 zb0 zb1
  have zv:=q9 hV2
  have zz:=q9 hZ2
  have hne1:¬ (w.heap.size+1=w.heap.size):=by omega
  have hne2:¬ (w.heap.size=w.heap.size+1):=by omega
  have HN2:=q7 hN2
  have HK2:=q7 ((Kept.of_below hb1).trans hK2 (fun _ _ h=>h))
  have HZ2:=q7 hZ2
  clear hN2 hK2 hV2 hZ2 vb zb hb1
  go_wp2_with fail
  obtain⟨W,hW⟩:∃W,W=((w2.setCell ⟨w.heap.size,1,none⟩ (.int .i64 nr)).setCell ⟨w.heap.size+1,0,none⟩ (.bool true)).setCell ⟨w.heap.size+1,1,none⟩ (.int .i64 nr):=⟨_,rfl⟩
  rw[←hW]
  have hK:Kept (fun k=>k=w.heap.size∨k=w.heap.size+1) w2 W:=by
   rw[hW]
   have h0:Kept (fun k=>k=w.heap.size∨k=w.heap.size+1) w2 w2:=Kept.refl _ _
   have h1:=h0.setCell (p:=⟨w.heap.size,1,none⟩) (.inl rfl) (.int .i64 nr)
   have h2:=h1.setCell (p:=⟨w.heap.size+1,0,none⟩) (.inr rfl) (.bool true)
   exact h2.setCell (p:=⟨w.heap.size+1,1,none⟩) (.inr rfl) (.int .i64 nr)
  have hR:W.heap[w.heap.size+1]?=some (.cells #[.bool true,.int .i64 nr] 43 (0,0)):=by
   have h1:(w2.setCell ⟨w.heap.size,1,none⟩ (.int .i64 nr)).heap[w.heap.size+1]?=some (.cells #[.bool false,.int .i64 0] 43 (0,0)):=(Go.Deep.blk_setCell_other _ _ _ _ (by show w.heap.size+1≠w.heap.size;omega)).trans HZ2.out
   rw[hW,qg (qg h1 0 _) 1 _]
   rfl
  clear hW
  obtain⟨rb,_⟩:=blk hR
  have rb0:=rb 0
  have rb1:=rb 1
  simp only[List.getElem?_toArray,List.getElem?_cons_zero,List.getElem?_cons_succ]at rb0 rb1
  refine bodyPost_ret (v:=.agg #[.bool true,.int .i64 nr]) ?_ rfl ⟨rfl,fun hs=>(HN2.out hs).kept hK (by omega) (by omega),(HK2.out.trans hK (fun k h1 h2=>by omega))⟩
  simp[results,Tryz.results100,go_sem,rb0,rb1]
end Go.Proofs.YtecdphhdmjmmnaaGreatDoor
namespace Go.Proofs.YtecdphhdmjmmnaaGreatDoor
open Go.RowKit

def stL (L:List Nat):NamS:=L.foldl jo nam0
theorem stL_add (L M:List Nat):M.foldl jo (stL L)=stL (L++M):=by unfold stL;rw[List.foldl_append]
theorem stL_one (L:List Nat) (r:Nat):jo (stL L) r=stL (L++[r]):=by unfold stL;rw[List.foldl_append];rfl
def Jk (L:List Nat):List Nat:=L.foldl (fun D r=>if r∈D then D else D++[r]) []
theorem stL_is (L:List Nat):stL L=stD (Jk L):=by
 unfold stL Jk
 rw[nam0_st,Zf]
theorem vL (L:List Nat):(Jk L).Nodup∧∀r,r∈Jk L↔r∈L:=by
 have h:=jw (L:=L) (D:=[]) List.nodup_nil
 refine⟨h.1,fun r=>?_⟩
 have:=h.2.2 r
 simpa[Jk]using this
theorem oncL_len {L:List Nat} {m:Nat} (h:∀r∈L,r<m):(Jk L).length≤m:=xl m _ (vL L).1 fun r hr=>h r (((vL L).2 r).1 hr)
theorem stL_bd {L:List Nat} {m:Nat} (h:∀r∈L,r<m):(0≤(stL L).2∧(stL L).2≤m)∧∀j,-1≤(stL L).1 j∧(stL L).1 j≤m:=by
 have hl:=oncL_len h
 rw[stL_is]
 refine⟨⟨by show(0:Int)≤((Jk L).length:Int);omega,by show((Jk L).length:Int)≤m;omega⟩,fun j=>?_⟩
 show -1≤qC (Jk L) j∧qC (Jk L) j≤m
 unfold qC
 split
 ·next hj=>have:=(xr hj).1;omega
 omega
theorem oncL_more (L M:List Nat):∃E,Jk (L++M)=Jk L++E:=by
 unfold Jk
 rw[List.foldl_append]
 exact(jw (L:=M) (D:=Jk L) (vL L).1).2.1
theorem stL_stay {L:List Nat} (M:List Nat) {r:Nat} (h:r∈L):(stL (L++M)).1 r=(stL L).1 r:=by
 obtain⟨E,hE⟩:=oncL_more L M
 rw[stL_is,stL_is,hE]
 show qC (Jk L++E) r=qC (Jk L) r
 have h1:=((vL L).2 r).2 h
 rw[xu (List.mem_append_left _ h1),xu h1,List.idxOf_append,if_pos h1]
theorem FunC.metLt {nf:Nat} {P:Nat→Int} {f:FunL} (h:FunC nf P f):∀r∈Qc f++XI f,r<f.regs.toNat:=fun r hr=>by
 have:=h.met (metL_mem.2 hr)
 omega
def OkV (m:Nat) (v:Bool×Int):Prop:=v.1=true→0≤v.2∧v.2<(m:Int)
structure OkB (m:Nat) (x:BlkL):Prop where
 dst:∀p∈x.phis,0≤p.dst∧p.dst<(m:Int)
 src:∀p∈x.phis,∀v∈p.src,OkV m v
 ia:∀i∈x.list,OkV m (i.ar,i.an)
 ib:∀i∈x.list,OkV m (i.br,i.bn)
 ic:∀i∈x.list,∀v∈i.args,OkV m v
 id:∀i∈x.list,i.dst<(m:Int)
 on:OkV m (x.fin.onr,x.fin.onn)
theorem FunC.okB {nf:Nat} {P:Nat→Int} {f:FunL} (h:FunC nf P f) {b:Nat} (hb:b<f.blocks.length):OkB f.regs.toNat f.blocks[b]:=by
 have hg:=h.reg
 have hp:=h.par
 have hm:((f.regs.toNat:Nat):Int)=f.regs:=by omega
 have val:∀{v:Bool×Int},ValOk f.regs v.1 v.2→OkV f.regs.toNat v:=fun hv e=>by rw[hm];exact hv e
 have hi:∀i∈f.blocks[b].list,InsC f.regs nf P i:=fun i hi=>insC_iff.1 (h.ins b hb i hi)
 refine⟨fun p hp=>?_,fun p hp v hv=>val ((h.phi b hb p hp).src v hv),fun i hii=>val (v:=(i.ar,i.an)) (hi i hii).a,fun i hii=>val (v:=(i.br,i.bn)) (hi i hii).b,fun i hii v hv=>?_,fun i hii=>?_,val (v:=(f.blocks[b].fin.onr,f.blocks[b].fin.onn)) (h.fin b hb).on⟩
 ·have:=(h.phi b hb p hp).dst
  rw[hm]
  exact this
 ·by_cases e:i.op=20
  ·exact val (((hi i hii).call e).2.2 v hv)
  have:=((hi i hii).c0 e).2
  rw[List.eq_nil_of_length_eq_zero this]at hv
  cases hv
 rw[hm]
 have hc:=hi i hii
 by_cases e:shD i.op=true∧¬(i.op=20∧i.dst = -1)
 ·exact(hc.d1 e.1 e.2).2
 by_cases e2:shD i.op=true
 ·have e3:i.op=20∧i.dst = -1:=Classical.byContradiction fun g=>e ⟨e2,g⟩
  omega
 have:=hc.d0 (by simpa using e2)
 omega
structure NmL (w:World) (nb A m:Nat) (L:List Nat):Prop where
 st:NmSt w nb A m (stL L)
 lt:∀r∈L,r<m
 m100:m≤100
theorem NmL.kept {U:Blks} {w w':World} {nb A m:Nat} {L:List Nat} (h:NmL w nb A m L) (hk:Kept U w w') (h1:¬ U nb) (h2:¬ U A):NmL w' nb A m L:=⟨h.st.kept hk h1 h2,h.lt,h.m100⟩
theorem NmL.below {w w':World} {nb A m:Nat} {L:List Nat} (h:NmL w nb A m L) (hb:Below w.heap.size w w'):NmL w' nb A m L:=⟨h.st.below hb,h.lt,h.m100⟩
theorem NmL.at {w:World} {nb A m:Nat} {L:List Nat} (h:NmL w nb A m L):nb<w.heap.size∧A<w.heap.size:=⟨q9 h.st.st,h.st.row.lt⟩
theorem metV_lt {m:Nat} {v:Bool×Int} (hv:OkV m v):∀r∈xw v,r<m:=fun r hr=>by
 obtain⟨e1,e2⟩:=metV_is hr
 have:=hv e1
 omega
theorem vj {w:World} {nb A m:Nat} {L:List Nat} (h:NmL w nb A m L) (r:Nat) (hr:r<m) :
  Calls Tryz.prog 99 #[.pointer (some ⟨nb,0,none⟩),.int .i64 r] w fun e w'=>e = .returned (.int .i64 ((stL (L++[r])).1 r))∧NmL w' nb A m (L++[r])∧Kept (fun k=>k=nb∨k=A) w w':=by
 have hb:=stL_bd h.lt
 have hqa:=h.m100
 refine(J9 r nb A m (stL L) w h.st hr ⟨(hb.2 r).1,by have:=(hb.2 r).2;omega⟩).mono ?_
 rintro e w' ⟨h1,h2,h3⟩
 rw[stL_one]at h1 h2
 exact⟨h1,⟨h2 (by omega),fun x hx=>(List.mem_append.1 hx).elim (h.lt x) (fun e=>by rw[List.mem_singleton.1 e];exact hr),h.m100⟩,h3⟩
theorem xX {w:World} {nb A m:Nat} {L:List Nat} (h:NmL w nb A m L) (v:Bool×Int) (hv:OkV m v) :
  Calls Tryz.prog 100 #[.pointer (some ⟨nb,0,none⟩),.agg #[.bool v.1,.int .i64 v.2]] w fun e w'=>e = .returned (.agg #[.bool v.1,.int .i64 (x9 (stL (L++xw v)).1 v).2])∧NmL w' nb A m (L++xw v)∧Kept (fun k=>k=nb∨k=A) w w':=by
 have hb:=stL_bd h.lt
 have hqa:=h.m100
 refine(nval_any v nb A m (stL L) w h.st hv (fun r=>⟨(hb.2 r).1,by have:=(hb.2 r).2;omega⟩)).mono ?_
 rintro e w' ⟨h1,h2,h3⟩
 rw[stL_add]at h1 h2
 exact⟨h1,⟨h2 (by omega),fun x hx=>(List.mem_append.1 hx).elim (h.lt x) (metV_lt hv x),h.m100⟩,h3⟩
/-! what is met so far, as a part of all that is met -/
theorem kG {α β:Type} {f:α→List β} {l:List α} {j:Nat} (h:j<l.length) {q:List β} (hq:q <+: f l[j]):(l.take j).flatMap f++q <+: l.flatMap f:=by
 obtain⟨r,hr⟩:=hq
 refine⟨r++(l.drop (j+1)).flatMap f,?_⟩
 have e:l.flatMap f=(l.take j++l[j]::l.drop (j+1)).flatMap f:=by rw[List.getElem_cons_drop,List.take_append_drop]
 rw[e,List.flatMap_append,List.flatMap_cons,←hr]
 simp
theorem pre_app {β:Type} {a b c:List β} (h:a++b <+: c):a <+: c:=(List.prefix_append a b).trans h
theorem JM {L K:List Nat} (h:L <+: K) {r:Nat} (hr:r∈L):(stL L).1 r=(stL K).1 r:=by
 obtain⟨R,rfl⟩:=h
 exact(stL_stay R hr).symm
theorem kH {L K:List Nat} {v:Bool×Int} (h:L++xw v <+: K):(x9 (stL (L++xw v)).1 v).2=(x9 (stL K).1 v).2:=by
 unfold x9
 by_cases e:v.1=true
 ·rw[if_pos e,if_pos e]
  exact JM h (List.mem_append_right _ (vH e))
 rw[if_neg e,if_neg e]
theorem Vy (m:Nat→Int) (v:Bool×Int):(x9 m v).1=v.1:=by
 unfold x9
 split
 ·next e=>exact e.symm
 rfl
def metP (p:PhiL):List Nat:=p.dst.toNat::p.src.flatMap xw
def renP (m:Nat→Int) (p:PhiL):PhiL:={ dst:=m p.dst.toNat,src:=p.src.map (x9 m) }
theorem JN (x:BlkL):VT x=x.phis.flatMap metP++x.list.flatMap (fun i=>Q3 i++vE i.dst)++xw (x.fin.onr,x.fin.onn):=rfl
theorem renB_is (m:Nat→Int) (x:BlkL):renB m x={ phis:=x.phis.map (renP m),list:=x.list.map (ks m),fin:={ x.fin with onn:=(x9 m (x.fin.onr,x.fin.onn)).2 } }:=rfl
theorem RowPut.two {w w1:World} {e:TypeId} {g o:Nat} {c0 c1:Value} (h:RowPut w w1 e g o 2 [c0,c1]) (a0 a1:Value):RowPut w ((w1.setCell ⟨g,o,none⟩ a0).setCell ⟨g,o+1,none⟩ a1) e g o 2 [a0,a1]:=by
 have h0:=RowPut.set h rfl (j:=0) (by omega) a0
 simp only[Nat.add_zero,List.set_cons_zero]at h0
 have h1:=RowPut.set h0 rfl (j:=1) (by omega) a1
 simp only[List.set_cons_succ,List.set_cons_zero]at h1
 exact h1
def eight (w:World) (g o:Nat) (a0 a1 a2 a3 a4 a5 a6 a7:Value):World:=(((((((w.setCell ⟨g,o,none⟩ a0).setCell ⟨g,o+1,none⟩ a1).setCell ⟨g,o+2,none⟩ a2).setCell ⟨g,o+3,none⟩ a3).setCell ⟨g,o+4,none⟩ a4).setCell ⟨g,o+5,none⟩ a5).setCell ⟨g,o+6,none⟩ a6).setCell ⟨g,o+7,none⟩ a7
theorem Zq (w:World) (g o:Nat) (a0 a1 a2 a3 a4 a5 a6 a7:Value):Kept (fun i=>i=g) w (eight w g o a0 a1 a2 a3 a4 a5 a6 a7):=by
 unfold eight
 have h0:Kept (fun i=>i=g) w w:=Kept.refl _ w
 have h1:=h0.setCell (p:=⟨g,o,none⟩) rfl a0
 have h2:=h1.setCell (p:=⟨g,o+1,none⟩) rfl a1
 have h3:=h2.setCell (p:=⟨g,o+2,none⟩) rfl a2
 have h4:=h3.setCell (p:=⟨g,o+3,none⟩) rfl a3
 have h5:=h4.setCell (p:=⟨g,o+4,none⟩) rfl a4
 have h6:=h5.setCell (p:=⟨g,o+5,none⟩) rfl a5
 have h7:=h6.setCell (p:=⟨g,o+6,none⟩) rfl a6
 exact h7.setCell (p:=⟨g,o+7,none⟩) rfl a7
theorem RowPut.eight {w w1:World} {e:TypeId} {g o:Nat} {cs:List Value} (h:RowPut w w1 e g o 8 cs) (hl:cs.length=8) (a0 a1 a2 a3 a4 a5 a6 a7:Value):RowPut w (Go.Proofs.YtecdphhdmjmmnaaGreatDoor.eight w1 g o a0 a1 a2 a3 a4 a5 a6 a7) e g o 8 [a0,a1,a2,a3,a4,a5,a6,a7]:=by
 obtain⟨c0,c1,c2,c3,c4,c5,c6,c7,rfl⟩:=len_8 hl
 have h0:=RowPut.set h rfl (j:=0) (by omega) a0
 simp only[Nat.add_zero,List.set_cons_zero]at h0
 have h1:=RowPut.set h0 rfl (j:=1) (by omega) a1
 simp only[List.set_cons_succ,List.set_cons_zero]at h1
 have h2:=RowPut.set h1 rfl (j:=2) (by omega) a2
 simp only[List.set_cons_succ,List.set_cons_zero]at h2
 have h3:=RowPut.set h2 rfl (j:=3) (by omega) a3
 simp only[List.set_cons_succ,List.set_cons_zero]at h3
 have h4:=RowPut.set h3 rfl (j:=4) (by omega) a4
 simp only[List.set_cons_succ,List.set_cons_zero]at h4
 have h5:=RowPut.set h4 rfl (j:=5) (by omega) a5
 simp only[List.set_cons_succ,List.set_cons_zero]at h5
 have h6:=RowPut.set h5 rfl (j:=6) (by omega) a6
 simp only[List.set_cons_succ,List.set_cons_zero]at h6
 have h7:=RowPut.set h6 rfl (j:=7) (by omega) a7
 simp only[List.set_cons_succ,List.set_cons_zero]at h7
 unfold Go.Proofs.YtecdphhdmjmmnaaGreatDoor.eight
 exact h7
end Go.Proofs.YtecdphhdmjmmnaaGreatDoor
