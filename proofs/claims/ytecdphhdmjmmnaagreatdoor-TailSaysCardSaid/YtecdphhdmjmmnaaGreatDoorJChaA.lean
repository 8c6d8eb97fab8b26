/-
  Plain: a function's blocks and their lists, apart; a block that goes into another one.
-/
import Derived.Test.YtecdphhdmjmmnaaGreatDoorJSrtF
namespace Go.Proofs.YtecdphhdmjmmnaaGreatDoor
open Go.RowKit

def atK (o:List Nat) (k j:Nat):Int:=if j∈o.take k then(o.idxOf j:Int)else -1
theorem atK_zero (o:List Nat) (j:Nat):atK o 0 j = -1:=by simp[atK]
theorem atK_full (o:List Nat) (j:Nat):atK o o.length j=qC o j:=by unfold atK qC;rw[List.take_length]
theorem atK_succ {o:List Nat} (h:o.Nodup) {k:Nat} (hk:k<o.length) (j:Nat):atK o (k+1) j=if j=o[k] then(k:Int)else atK o k j:=by
 unfold atK
 have e0:j∈o.take (k+1)↔j∈o.take k∨j=o[k]:=by
  rw[List.take_succ_eq_append_getElem hk,List.mem_append,List.mem_singleton]
 by_cases e:j=o[k]
 ·rw[if_pos e,if_pos (e0.2 (.inr e)),e,h.idxOf_getElem k hk]
 rw[if_neg e]
 by_cases g:j∈o.take k
 ·rw[if_pos g,if_pos (e0.2 (.inl g))]
 rw[if_neg g,if_neg fun x=>(e0.1 x).elim g e]

def zd {α:Type} (j:Nat) (u:α→α) (xs:List α):List α:=xs.mapIdx fun i x=>if i<j then u x else x
theorem qX {α:Type} (j:Nat) (u:α→α) (xs:List α):(zd j u xs).length=xs.length:=by simp[zd]
theorem zD {α:Type} (u:α→α) (xs:List α):zd 0 u xs=xs:=by
 refine List.ext_getElem (qX _ _ _) fun i h1 h2=>?_
 simp[zd]
theorem zr {α:Type} (u:α→α) (xs:List α):zd xs.length u xs=xs.map u:=by
 refine List.ext_getElem (by simp[zd]) fun i h1 h2=>?_
 have h3:i<xs.length:=by simpa using h2
 simp[zd,h3]
theorem xm {α:Type} {j i:Nat} {u:α→α} {xs:List α} (hi:i<(zd j u xs).length) (h:j≤i):(zd j u xs)[i]=xs[i]'(by rw[←qX j u xs];exact hi):=by
 have h3:¬ i<j:=by omega
 simp[zd,h3]
theorem qU {α:Type} {j:Nat} {u:α→α} {xs:List α} (h:j<xs.length):(zd j u xs).set j (u xs[j])=zd (j+1) u xs:=by
 refine List.ext_getElem (by simp[zd]) fun i h1 h2=>?_
 rw[List.getElem_set]
 split
 ·next e=>subst e;simp[zd]
 next e=>
 simp only[zd,List.getElem_mapIdx]
 by_cases g:i<j
 ·rw[if_pos g,if_pos (by omega)]
 rw[if_neg g,if_neg (by omega)]

def AheadIn (W:World) (lo T:Nat) (f:FunL):Prop:=(lo≤T∧T<W.heap.size)∧∀c,c<f.blocks.length→∃q qc,W.cell? ⟨T,c,none⟩=some (.slice q (insN f c).length qc)∧∀j (h:j<(insN f c).length),∃b,q=some ⟨b,0,none⟩∧(lo≤b∧b<W.heap.size)∧W.cell? ⟨b,j,none⟩=some (.int .i64 ((insN f c)[j]:Nat))
theorem AheadIn.of {f:FunL} {W:World} {B T:Nat} {tf:Nat→Value} (h:Rows2 W B T f.blocks.length 44 3 (qJ (kL f) f.blocks.length) tf):AheadIn W T T f:=by
 refine⟨⟨Nat.le_refl _,h.tab.lt⟩,fun c hc=>?_⟩
 have h1:=h.row c hc
 have h2:=h.tab.cell hc
 obtain⟨q,qc,hq⟩:=j8 h1
 refine⟨q,qc,by rw[h2,hq];rfl,fun j hj=>?_⟩
 rw[hq]at h1
 obtain⟨b,e1,e2,e3,e4⟩:=jB h1 hj
 refine⟨b,e1,⟨by have:=h.low;omega,e3⟩,?_⟩
 rw[e4]
 have hj2:j<(qP (qJ (kL f) f.blocks.length) c).length:=hj
 simp[hj2]
 rfl
theorem AheadIn.kept {U:Blks} {W W':World} {lo T:Nat} {f:FunL} (h:AheadIn W lo T f) (hk:Kept U W W') (hU:∀g,U g→g<lo∨W.heap.size≤g):AheadIn W' lo T f:=by
 obtain⟨⟨h1,h2⟩,h3⟩:=h
 refine⟨⟨h1,Nat.lt_of_lt_of_le h2 hk.size⟩,fun c hc=>?_⟩
 obtain⟨q,qc,e,r⟩:=h3 c hc
 refine⟨q,qc,(hk.cell (p:=⟨T,c,none⟩) h2 (fun hu=>by have:=hU T hu;omega)).trans e,fun j hj=>?_⟩
 obtain⟨b,e1,⟨e2,e3⟩,e4⟩:=r j hj
 exact⟨b,e1,⟨e2,Nat.lt_of_lt_of_le e3 hk.size⟩,(hk.cell (p:=⟨b,j,none⟩) e3 (fun hu=>by have:=hU b hu;omega)).trans e4⟩
def phiK (at_:Nat→Int) (ah:List Nat) (p:PhiL):PhiL:={ p with src:=srcK at_ ah p.src }
def rowM (at_:Nat→Int) (ah:List Nat) (src:List (Bool×Int)) (m:Nat):List FrmL:=Vc at_ (ah.take m) (src.take m)
theorem rowM_full {at_:Nat→Int} {ah:List Nat} {src:List (Bool×Int)} (h:src.length=ah.length):rowM at_ ah src src.length=Vc at_ ah src:=by
 unfold rowM
 rw[List.take_length,List.take_of_length_le (by omega)]
theorem rowM_succ {at_:Nat→Int} {ah:List Nat} {src:List (Bool×Int)} {m:Nat} (h1:m<ah.length) (h2:m<src.length):rowM at_ ah src (m+1)=rowM at_ ah src m++(if 0≤at_ ah[m] then[(at_ ah[m],src[m])] else[]):=by
 unfold rowM Vc
 rw[List.take_succ_eq_append_getElem h1,List.take_succ_eq_append_getElem h2,List.zip_append (by simp;omega),List.map_append,List.filter_append]
 congr 1
 by_cases h:0≤at_ ah[m]<;>simp[h]
theorem rowM_len (at_:Nat→Int) (ah:List Nat) (src:List (Bool×Int)) (m:Nat):(rowM at_ ah src m).length≤m:=by
 unfold rowM Vc
 refine Nat.le_trans (List.length_filter_le _ _) ?_
 simp
 omega
theorem rowK_keys {o:List Nat} (_ho:o.Nodup) {ah:List Nat} (ha:ah.Nodup) {src:List (Bool×Int)} (h:src.length=ah.length):((Vc (qC o) ah src).map (·.1)).Nodup:=by
 rw[fromR_row ha h,Vg,List.map_map]
 show((ah.filter fun a=>decide (a∈o)).map fun a=>((o.idxOf a:Int))).Nodup
 have h1:(ah.filter fun a=>decide (a∈o)).Nodup:=ha.filter _
 unfold List.Nodup at h1 ⊢
 rw[List.pairwise_map]
 refine h1.imp_of_mem fun {a b} ma mb hne e=>hne ?_
 have xa:a∈o:=by simpa using(List.mem_filter.1 ma).2
 have xb:b∈o:=by simpa using(List.mem_filter.1 mb).2
 exact QF xa xb (Int.ofNat.inj e)
theorem sortK_of {l m:List FrmL} (hp:m.Perm l) (hs:m.Pairwise fun a b=>a.1≤b.1) (hd:(l.map (·.1)).Nodup):sortK l=m:=by
 refine Vf hp.symm ?_
 have hd2:(m.map (·.1)).Nodup:=(hp.map (·.1)).nodup_iff.2 hd
 unfold List.Nodup at hd2
 rw[List.pairwise_map]at hd2
 exact(hs.and hd2).imp fun {a b} h=>by
  have h1:=h.1
  have h2:=h.2
  simp only[ne_eq]at h2
  omega
theorem RowPut.of_block {w w1 w2:World} {e:TypeId} {g o size:Nat} {cs:List Value} (h:RowPut w w1 e g o size cs) (h2:w2.heap[g]?=w1.heap[g]?):RowPut w w2 e g o size cs:=by
 obtain⟨c,c',a,b,r⟩:=h
 exact⟨c,c',a,h2.trans b,r⟩
theorem RowPut.cell {w w1:World} {e:TypeId} {g o size j:Nat} {cs:List Value} (h:RowPut w w1 e g o size cs) (hj:j<size):w1.cell? ⟨g,o+j,none⟩=cs[j]?∧w1.frozen? ⟨g,o+j,none⟩=false∧g<w1.heap.size:=by
 obtain⟨c,c',a,b,_,r,_⟩:=h
 exact⟨(cell_of_row w1 g _ c' e (0,0) b).trans (r j hj),(blk b).2 _,(Array.getElem?_eq_some_iff.1 b).1⟩
theorem infoFrmC:(Tryz.prog.info? 154).map (fun i=>(i.zero,i.size,i.bytes))=some (some (.agg #[.int .i64 0,.bool false,.int .i64 0]),3,24):=by kernel_rfl

def JG:ElemO (Value×BlkL):=fun w cs x S=>∃v1 v3 S1 S3,cs=[v1,x.1,.int .i64 x.2.fin.kind,.bool x.2.fin.onr,.int .i64 x.2.fin.onn,v3]∧(∃p l c,x.1 = .slice p l c)∧I64 x.2.fin.kind∧I64 x.2.fin.onn∧
 SlQ 101 2 32 PhiO w v1 x.2.phis S1∧SlQ 3 1 8 kP w v3 x.2.fin.to S3∧Apart S1 S3∧(∀k,S1 k→S k)∧∀k,S3 k→S k
theorem jp:jN JG:=fun w w' cs x S h hk hs=>by
 obtain⟨v1,v3,S1,S3,h0,hv,h1,h2,h3,h5,a2,g1,g3⟩:=h
 exact⟨v1,v3,S1,S3,h0,hv,h1,h2,h3.loc zq g1 hk hs,h5.loc qT g3 hk hs,a2,g1,g3⟩
def jI (V:Nat→Value) (bs:List BlkL):List (Value×BlkL):=bs.mapIdx fun i x=>(V i,x)
theorem zW (V:Nat→Value) (bs:List BlkL):(jI V bs).length=bs.length:=by simp[jI]
theorem xt {V:Nat→Value} {bs:List BlkL} {i:Nat} (h:i<(jI V bs).length):(jI V bs)[i]=(V i,bs[i]'(by rw[←zW V bs];exact h)):=by simp[jI]
theorem zipV_set {V:Nat→Value} {bs:List BlkL} {i:Nat} (x:BlkL):(jI V bs).set i (V i,x)=jI V (bs.set i x):=by
 refine List.ext_getElem (by simp[jI]) fun k h1 h2=>?_
 rw[xt h2,List.getElem_set,List.getElem_set]
 split
 ·next e=>subst e;rfl
 rw[xt]
theorem SlW.innerT {α:Type} {e:TypeId} {size:Nat} {R:ElemO α} {w w':World} {v:Value} {xs:List α} {S:Blks} {cs:Nat→List Value} {T:Nat→Blks} (h:SlW e size R w v xs S cs T) (hR:jN R) {i:Nat} (hi:i<xs.length) {x':α} (hk:Kept (T i) w w') (hr:R w' (cs i) x' (T i)):SlW e size R w' v (xs.set i x') S cs T:=by
 have hl:(xs.set i x').length=xs.length:=by simp
 refine⟨?_,?_,?_,fun m hm=>?_,?_,?_,h.blk,?_,h.inb.mono hk.size⟩
 ·rw[hl]
  refine⟨h.own.1,?_⟩
  rcases h.own.2 with h1|⟨g,cap,cur,hv,hb,hg,r⟩
  ·exact .inl h1
  exact .inr ⟨g,cap,cur,hv,hb,by rw[hk.block g (Array.getElem?_eq_some_iff.1 hg).1 (h.off i hi g (by rw[hv];rfl))];exact hg,r⟩
 ·rw[hl];exact h.len
 ·rw[hl];exact h.one
 ·have hm2:m<xs.length:=by rw[←hl];exact hm
  by_cases e1:m=i
  ·subst e1
   rw[List.getElem_set_self]
   exact hr
  rw[List.getElem_set_ne (Ne.symm e1)]
  exact hR _ _ _ _ _ (h.el m hm2) (fun k hk2=>hk.block k (h.inb k (h.sub m hm2 k hk2)) (fun hk3=>h.two m i hm2 hi e1 k hk2 hk3)) hk.size
 ·rw[hl];exact h.two
 ·rw[hl];exact h.off
 rw[hl];exact h.sub
theorem blkAtN {w w':World} {g c:Nat} {f:FunL} {V:Nat→Value} {S:Blks} {cs:Nat→List Value} {T:Nat→Blks} (h:SlW 48 6 JG w (.slice (some ⟨g,0,none⟩) f.blocks.length c) (jI V f.blocks) S cs T) (hb:Below w.heap.size w w') (i:Nat) (hi:i<f.blocks.length):Jn w' g 0 i ((kL f).getD i []):=by
 have hi2:i<(jI V f.blocks).length:=by rw[zW];exact hi
 obtain⟨g',c',e,_,hg,hc⟩:=h.cell hi2
 have hgg:g'=g:=by
  injection e with a _ _
  injection a with a
  injection a with a
  exact a.symm
 subst hgg
 have he:=h.el i hi2
 rw[xt hi2]at he
 obtain⟨v1,v3,S1,S3,h0,⟨p,l,k,hv⟩,_,_,h3,h5,_⟩:=he
 obtain⟨p1,c1,rfl,_⟩:=h3.sl.val
 obtain⟨p3,c3,rfl,_⟩:=h5.sl.val
 rw[vw f i hi]
 rw[h0]at hc
 dsimp only at hv hc
 rw[hv]at hc
 have hr:=h5.read (R':=xC) qT (by omega) fun _ _ _ h=>h
 have hs:SliceAt w 1 xC p3 f.blocks[i].fin.to:=by
  obtain⟨_,_,e,_,_,h⟩:=hr.outC
  cases e
  exact h
 refine⟨p1,f.blocks[i].phis.length,c1,p,l,k,f.blocks[i].fin.kind,f.blocks[i].fin.onr,f.blocks[i].fin.onn,p3,c3,?_,?_,?_,?_,?_,?_,hs.mono hb (by omega) fun _ _ h=>h⟩
 all_goals rw[Nat.zero_add]
 ·exact(hb.cell (p:=⟨g',i*6,none⟩) hg).trans (hc 0 (by omega))
 ·exact(hb.cell (p:=⟨g',i*6+1,none⟩) hg).trans (hc 1 (by omega))
 ·exact(hb.cell (p:=⟨g',i*6+2,none⟩) hg).trans (hc 2 (by omega))
 ·exact(hb.cell (p:=⟨g',i*6+3,none⟩) hg).trans (hc 3 (by omega))
 ·exact(hb.cell (p:=⟨g',i*6+4,none⟩) hg).trans (hc 4 (by omega))
 exact(hb.cell (p:=⟨g',i*6+5,none⟩) hg).trans (hc 5 (by omega))

def Ko (ah:List Nat) (old now m:Nat):Nat:=((ah.take m).filter fun a=>decide (a<now∧a≠old)).length
theorem cntR_le (ah:List Nat) (old now:Nat) {m:Nat} (_:m≤ah.length):Ko ah old now m≤m:=Nat.le_trans (List.length_filter_le _ _) (by rw[List.length_take];omega)
theorem cntR_full (ah:List Nat) (old now:Nat):Ko ah old now ah.length=XH ah old now:=by unfold Ko;rw[List.take_length];rfl
theorem cntR_succ {ah:List Nat} {old now m:Nat} (h:m<ah.length):Ko ah old now (m+1)=Ko ah old now m+if ah[m]<now∧ah[m]≠old then 1 else 0:=by
 unfold Ko
 rw[List.take_succ_eq_append_getElem h,List.filter_append,List.length_append]
 congr 1
 by_cases h:ah[m]<now∧ah[m]≠old
 ·rw[if_pos h,List.filter_cons_of_pos (by simpa using h)]
  rfl
 rw[if_neg h,List.filter_cons_of_neg (by simpa using h)]
 rfl
def Zl (ah:List Nat) (old now:Nat) (p:PhiL):PhiL:={ p with src:=Q7 ah old now p.src }
def XU (f:FunL) (old now i:Nat):List BlkL:=f.blocks.mapIdx fun k x=>if(k:Int)∈((atF f old).fin.to).take i then { x with phis:=x.phis.map (Zl (insN f k) old now) } else x
theorem vI (f:FunL) (old now i:Nat):(XU f old now i).length=f.blocks.length:=by simp[XU]
theorem renK_zero (f:FunL) (old now:Nat):XU f old now 0=f.blocks:=by
 refine List.ext_getElem (vI f old now 0) fun k h1 h2=>?_
 simp[XU]
theorem renK_full (f:FunL) (old now:Nat):XU f old now ((atF f old).fin.to).length=(qM f old now).blocks:=by
 unfold XU qM
 rw[List.take_length]
 rfl
theorem JH {f:FunL} {old now i k:Nat} (h:k<(XU f old now i).length):(XU f old now i)[k]=if(k:Int)∈((atF f old).fin.to).take i then { (f.blocks[k]'(by rw[←vI f old now i];exact h))with phis:=(f.blocks[k]'(by rw[←vI f old now i];exact h)).phis.map (Zl (insN f k) old now) } else f.blocks[k]'(by rw[←vI f old now i];exact h):=by simp[XU]
theorem renK_succ {f:FunL} {old now i t:Nat} (hi:i<((atF f old).fin.to).length) (ht:((atF f old).fin.to)[i]=(t:Int)) (hd:((atF f old).fin.to).Nodup) (htl:t<f.blocks.length):(∃h,(XU f old now i)[t]'h=f.blocks[t])∧(XU f old now i).set t { f.blocks[t]with phis:=f.blocks[t].phis.map (Zl (insN f t) old now) }=XU f old now (i+1):=by
 have hl:t<(XU f old now i).length:=by rw[vI];exact htl
 have hn:¬ (t:Int)∈((atF f old).fin.to).take i:=fun h=>by
  rw[List.mem_take_iff_getElem]at h
  obtain⟨j,hj,e⟩:=h
  rw[←ht]at e
  have h2:=congrArg ((atF f old).fin.to).idxOf e
  rw[hd.idxOf_getElem j (by omega),hd.idxOf_getElem i hi]at h2
  omega
 refine⟨⟨hl,by rw[JH hl,if_neg hn]⟩,?_⟩
 refine List.ext_getElem (by simp[XU]) fun k h1 h2=>?_
 have h3:k<(XU f old now i).length:=by simpa using h1
 rw[List.getElem_set,JH h2]
 have e0:(k:Int)∈((atF f old).fin.to).take (i+1)↔(k:Int)∈((atF f old).fin.to).take i∨k=t:=by
  rw[List.take_succ_eq_append_getElem hi,List.mem_append,List.mem_singleton,ht]
  constructor
  ·rintro(h|h)
   ·exact .inl h
   exact .inr (by omega)
  rintro(h|h)
  ·exact .inl h
  exact .inr (by omega)
 split
 ·next e=>
  subst e
  rw[if_pos (e0.2 (.inr rfl))]
 next e=>
 rw[JH h3]
 by_cases g:(k:Int)∈((atF f old).fin.to).take i
 ·rw[if_pos g,if_pos (e0.2 (.inl g))]
 rw[if_neg g,if_neg fun h=>(e0.1 h).elim g (fun h=>e h.symm)]

structure ChS (w:World) (gq c:Nat) (bs:List BlkL) (V:Nat→Value) (N:Blks) (L:Nat→Blks):Prop where
 row:SlO 48 6 JG w (.slice (some ⟨gq,0,none⟩) bs.length c) (jI V bs) N
 lst:∀i (h:i<bs.length),SlQ 53 8 80 InsO w (V i) bs[i].list (L i)
 two:∀i j,i<bs.length→j<bs.length→i≠j→Apart (L i) (L j)
 off:∀i,i<bs.length→Apart N (L i)
theorem ChS.of {w:World} {gq c:Nat} {bs:List BlkL} {S:Blks} (h:SlO 48 6 BlkO w (.slice (some ⟨gq,0,none⟩) bs.length c) bs S) (_h0:0<bs.length):∃V N L,ChS w gq c bs V N L∧(∀k,N k→S k)∧∀i,i<bs.length→∀k,L i k→S k:=by
 obtain⟨cs,T,hW⟩:=h
 have key:∀i,∃v:Value,∃A B:Blks,∀(h:i<bs.length),JG w (cs i) (v,bs[i]) A∧SlQ 53 8 80 InsO w v bs[i].list B∧Apart A B∧(∀k,A k→T i k)∧∀k,B k→T i k:=fun i=>by
  by_cases h:i<bs.length
  ·obtain⟨v1,v2,v3,S1,S2,S3,hcs,j1,j2,h3,h4,h5,a1,a2,a3,g1,g2,g3⟩:=hW.el i h
   obtain⟨p,cc,hv,_⟩:=h4.sl.val
   exact⟨v2,fun k=>S1 k∨S3 k,S2,fun _=>⟨⟨v1,v3,S1,S3,hcs,⟨p,_,cc,hv⟩,j1,j2,h3,h5,a2,fun _ h=>.inl h,fun _ h=>.inr h⟩,h4,fun k a b=>a.elim (fun a=>a1 k a b) (fun a=>a3 k b a),fun k a=>a.elim (g1 k) (g3 k),g2⟩⟩
  exact⟨.slice none 0 0,fun _=>False,fun _=>False,fun h'=>absurd h' h⟩
 obtain⟨V,hV⟩:=Classical.axiomOfChoice key
 obtain⟨A,hA⟩:=Classical.axiomOfChoice hV
 obtain⟨L,hL⟩:=Classical.axiomOfChoice hA
 have hlen:(jI V bs).length=bs.length:=zW V bs
 refine⟨V,fun k=>k=gq∨∃i,i<bs.length∧A i k,L,⟨⟨cs,A,?_⟩,fun i h=>(hL i h).2.1,fun i j hi hj hij k a b=>hW.two i j hi hj hij k ((hL i hi).2.2.2.2 k a) ((hL j hj).2.2.2.2 k b),fun i hi k a b=>?_⟩,fun k hk=>?_,fun i hi k hk=>hW.sub i hi k ((hL i hi).2.2.2.2 k hk)⟩
 ·refine⟨?_,?_,?_,fun i hi=>?_,?_,?_,fun g hg=>.inl (Option.some.inj hg).symm,?_,?_⟩
  ·rw[hlen];exact hW.own
  ·rw[hlen];exact hW.len
  ·rw[hlen];exact hW.one
  ·rw[xt hi]
   exact(hL i (by rw[←hlen];exact hi)).1
  ·rw[hlen]
   exact fun i j hi hj hij k a b=>hW.two i j hi hj hij k ((hL i hi).2.2.2.1 k a) ((hL j hj).2.2.2.1 k b)
  ·rw[hlen]
   exact fun i hi g hg a=>hW.off i hi g hg ((hL i hi).2.2.2.1 g a)
  ·rw[hlen]
   exact fun i hi k a=>.inr ⟨i,hi,a⟩
  rintro k (rfl|⟨i,hi,a⟩)
  ·exact(hW.own.lt k rfl).2
  exact hW.inb k (hW.sub i hi k ((hL i hi).2.2.2.1 k a))
 ·rcases a with rfl|⟨j,hj,a⟩
  ·exact hW.off i hi k rfl ((hL i hi).2.2.2.2 k b)
  by_cases e:j=i
  ·subst e
   exact(hL j hj).2.2.1 k a b
  exact hW.two j i hj hi e k ((hL j hj).2.2.2.1 k a) ((hL i hi).2.2.2.2 k b)
 rcases hk with rfl|⟨i,hi,a⟩
 ·exact hW.blk k rfl
 exact hW.sub i hi k ((hL i hi).2.2.2.1 k a)
theorem ChS.to {w:World} {gq c:Nat} {bs:List BlkL} {V:Nat→Value} {N:Blks} {L:Nat→Blks} (h:ChS w gq c bs V N L):SlO 48 6 BlkO w (.slice (some ⟨gq,0,none⟩) bs.length c) bs (fun k=>N k∨∃i,i<bs.length∧L i k):=by
 obtain⟨⟨cs,T,hW⟩,hl,h2,ho⟩:=h
 have hlen:(jI V bs).length=bs.length:=zW V bs
 have hT:∀i,i<bs.length→∀k,T i k→N k:=fun i hi=>hW.sub i (by rw[hlen];exact hi)
 have hgK:=hW.two
 have hoff:=hW.off
 have hown:=hW.own
 have hle:=hW.len
 have hone:=hW.one
 rw[hlen]at hgK hoff hown hle hone
 refine⟨cs,fun i k=>T i k∨L i k,⟨hown,hle,hone,fun i hi=>?_,fun i j hi hj hij k a b=>?_,fun i hi g hg a=>?_,fun g hg=>.inl (hW.blk g hg),fun i hi k a=>?_,?_⟩⟩
 ·have hi2:i<(jI V bs).length:=by rw[hlen];exact hi
  have he:=hW.el i hi2
  rw[xt hi2]at he
  obtain⟨v1,v3,S1,S3,hcs,_,j1,j2,h3,h5,a2,g1,g3⟩:=he
  exact⟨v1,V i,v3,S1,L i,S3,hcs,j1,j2,h3,hl i hi,h5,fun k a b=>ho i hi k (hT i hi k (g1 k a)) b,a2,fun k a b=>ho i hi k (hT i hi k (g3 k b)) a,fun k a=>.inl (g1 k a),fun k a=>.inr a,fun k a=>.inl (g3 k a)⟩
 ·rcases a with a|a<;>rcases b with b|b
  ·exact hgK i j hi hj hij k a b
  ·exact ho j hj k (hT i hi k a) b
  ·exact ho i hi k (hT j hj k b) a
  exact h2 i j hi hj hij k a b
 ·rcases a with a|a
  ·exact hoff i hi g hg a
  exact ho i hi g (hW.blk g hg) a
 ·rcases a with a|a
  ·exact .inl (hT i hi k a)
  exact .inr ⟨i,hi,a⟩
 rintro k (a|⟨i,hi,a⟩)
 ·exact hW.inb k a
 exact(hl i hi).sl.inb k a
theorem ChS.kept {U:Blks} {w w':World} {gq c:Nat} {bs:List BlkL} {V:Nat→Value} {N:Blks} {L:Nat→Blks} (h:ChS w gq c bs V N L) (hk:Kept U w w') (hN:Apart U N) (hL:∀i,i<bs.length→Apart U (L i)):ChS w' gq c bs V N L:=
 ⟨h.row.kept jp hk hN,fun i hi=>⟨(h.lst i hi).sl.kept qH hk (hL i hi),(h.lst i hi).bd⟩,h.two,h.off⟩
theorem ChS.below {w w':World} {gq c:Nat} {bs:List BlkL} {V:Nat→Value} {N:Blks} {L:Nat→Blks} (h:ChS w gq c bs V N L) (hb:Below w.heap.size w w'):ChS w' gq c bs V N L:=h.kept (U:=fun _=>False) (Kept.of_below hb) (fun _ a _=>a) (fun _ _ _ a _=>a)
theorem Zm:∀{l:List Nat} {x:Nat},x∈l→x≤l.sum
 | y::l,x,h=>by
  rw[List.sum_cons]
  rcases List.mem_cons.1 h with rfl|h
  ·omega
  have:=Zm h
  omega
theorem kx {f:FunL} {b:Nat} (h:b<f.blocks.length):f.blocks[b].list.length≤zi f:=by
 rw[xH]
 have:=Zm (l:=(List.range f.blocks.length).map fun b=>(atF f b).phis.length+(atF f b).list.length) (List.mem_map.2 ⟨b,List.mem_range.2 h,rfl⟩)
 rw[qG h]at this
 omega
theorem ChS.at {w:World} {gq c:Nat} {bs:List BlkL} {V:Nat→Value} {N:Blks} {L:Nat→Blks} (h:ChS w gq c bs V N L) {i:Nat} (hi:i<bs.length):∃q1 d1 p2 d2 q3 d3,V i = .slice p2 bs[i].list.length d2∧(∀j,j<6→w.cell? ⟨gq,i*6+j,none⟩=[Value.slice q1 bs[i].phis.length d1,.slice p2 bs[i].list.length d2,.int .i64 bs[i].fin.kind,.bool bs[i].fin.onr,.int .i64 bs[i].fin.onn,.slice q3 bs[i].fin.to.length d3][j]?)∧N gq∧gq<w.heap.size∧(∀o,w.frozen? ⟨gq,o,none⟩=false)∧
  SliceAt w 1 xC q3 bs[i].fin.to:=by
 obtain⟨p2,d2,hv,_⟩:=(h.lst i hi).sl.val
 have hi2:i<(jI V bs).length:=by rw[zW];exact hi
 obtain⟨g,cc,cs,T,hgv,hg,hS,hl,hx,_,_,hc,hf,_⟩:=h.row.focus jp (by omega) hi2
 have hgg:g=gq:=by
  injection hgv with a _ _
  injection a with a
  injection a with a
  exact a.symm
 subst hgg
 rw[xt hi2]at hx
 obtain⟨v1,v3,S1,S3,rfl,_,_,_,h3,h5,_⟩:=hx
 obtain⟨q1,d1,rfl,_⟩:=h3.sl.val
 obtain⟨q3,d3,rfl,_⟩:=h5.sl.val
 dsimp only at hc h5
 rw[hv]at hc
 have hr:=h5.read (R':=xC) qT (by omega) fun _ _ _ h=>h
 refine⟨q1,d1,p2,d2,q3,d3,hv,hc,hS,hg,hf,?_⟩
 obtain⟨_,_,e,_,_,hh⟩:=hr.outC
 cases e
 exact hh
end Go.Proofs.YtecdphhdmjmmnaaGreatDoor
