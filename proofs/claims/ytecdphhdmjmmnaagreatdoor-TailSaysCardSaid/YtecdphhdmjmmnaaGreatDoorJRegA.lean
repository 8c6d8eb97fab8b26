/-
  Regions that draw their order, operation by operation, where what S says holds behind ever
-/
import Derived.Test.YtecdphhdmjmmnaaGreatDoorJTidI
set_option maxRecDepth 100000
set_option maxHeartbeats 16000000
namespace Go.Proofs.YtecdphhdmjmmnaaGreatDoor
open Go.RowKit

theorem Qf {f:FunL} {b:Nat} (hb:b<f.blocks.length) {r:Nat} (h:r∈VT f.blocks[b]):r∈Xa f:=
 metL_mem.2 (List.mem_append_right _ (List.mem_flatMap.2 ⟨_,List.getElem_mem hb,h⟩))
theorem vH {v:Bool×Int} (h:v.1=true):v.2.toNat∈xw v:=by unfold xw;rw[if_pos h];simp
theorem metV_is {v:Bool×Int} {r:Nat} (h:r∈xw v):v.1=true∧r=v.2.toNat:=by
 unfold xw at h
 split at h
 ·rename_i e;exact⟨e,List.mem_singleton.1 h⟩
 cases h
theorem metC_fin {x:BlkL} (h:x.fin.onr=true):x.fin.onn.toNat∈VT x:=List.mem_append_right _ (vH (v:=(x.fin.onr,x.fin.onn)) h)
theorem metC_dst {x:BlkL} {p:PhiL} (h:p∈x.phis):p.dst.toNat∈VT x:=List.mem_append_left _ (List.mem_append_left _ (List.mem_flatMap.2 ⟨p,h,List.mem_cons_self⟩))
theorem metC_src {x:BlkL} {p:PhiL} (h:p∈x.phis) {v:Bool×Int} (hv:v∈p.src) (e:v.1=true):v.2.toNat∈VT x:=
 List.mem_append_left _ (List.mem_append_left _ (List.mem_flatMap.2 ⟨p,h,List.mem_cons_of_mem _ (List.mem_flatMap.2 ⟨v,hv,vH e⟩)⟩))
theorem metC_ins {x:BlkL} {i:InsL} (h:i∈x.list) {r:Nat} (hr:r∈Q3 i++vE i.dst):r∈VT x:=
 List.mem_append_left _ (List.mem_append_right _ (List.mem_flatMap.2 ⟨i,h,hr⟩))

theorem FunC.met {nf:Nat} {P:Nat→Int} {f:FunL} (h:FunC nf P f) {r:Nat} (hr:r∈Xa f):(r:Int)<f.regs:=by
 have hp:=h.par
 have hg:=h.reg
 have val:∀{v:Bool×Int},ValOk f.regs v.1 v.2→r∈xw v→(r:Int)<f.regs:=fun hv hm=>by
  obtain⟨e1,e2⟩:=metV_is hm
  have:=hv e1
  omega
 have dst:∀{d:Int},d<f.regs→r∈vE d→(r:Int)<f.regs:=fun hd hm=>by
  unfold vE at hm
  split at hm
  ·have:=List.mem_singleton.1 hm;omega
  cases hm
 have ins:∀b (hb:b<f.blocks.length),∀i∈f.blocks[b].list,r∈Q3 i++vE i.dst→(r:Int)<f.regs:=fun b hb i hi hm=>by
  have hc:=insC_iff.1 (h.ins b hb i hi)
  have hdst:i.dst<f.regs:=by
   by_cases e:shD i.op=true∧¬(i.op=20∧i.dst = -1)
   ·exact(hc.d1 e.1 e.2).2
   by_cases e2:shD i.op=true
   ·have e3:i.op=20∧i.dst = -1:=Classical.byContradiction fun g=>e ⟨e2,g⟩
    omega
   have:=hc.d0 (by simpa using e2)
   omega
  rcases List.mem_append.1 hm with g|g
  ·unfold Q3 at g
   rcases List.mem_append.1 g with g|g
   ·rcases List.mem_append.1 g with g|g
    ·exact val hc.a g
    exact val hc.b g
   obtain⟨v,hv,g⟩:=List.mem_flatMap.1 g
   by_cases e:i.op=20
   ·exact val ((hc.call e).2.2 v hv) g
   have:=(hc.c0 e).2
   rw[List.eq_nil_of_length_eq_zero this]at hv
   cases hv
  exact dst hdst g
 have phi:∀b (hb:b<f.blocks.length),∀p∈f.blocks[b].phis,(p.dst<f.regs∧0≤p.dst)∧∀v∈p.src,ValOk f.regs v.1 v.2:=fun b hb p hp=>⟨⟨(h.phi b hb p hp).dst.2,(h.phi b hb p hp).dst.1⟩,(h.phi b hb p hp).src⟩
 rcases List.mem_append.1 (metL_mem.1 hr)with g|g
 ·unfold Qc at g
  rcases List.mem_append.1 g with g|g
  ·have:=List.mem_range.1 g;omega
  obtain⟨x,hx,g⟩:=List.mem_flatMap.1 g
  obtain⟨b,hb,rfl⟩:=List.mem_iff_getElem.1 hx
  unfold metB at g
  rcases List.mem_append.1 g with g|g
  ·rcases List.mem_append.1 g with g|g
   ·obtain⟨p,hp,rfl⟩:=List.mem_map.1 g
    have:=(phi b hb p hp).1
    omega
   obtain⟨i,hi,g⟩:=List.mem_flatMap.1 g
   exact ins b hb i hi g
  exact val (h.fin b hb).on g
 unfold XI at g
 obtain⟨x,hx,g⟩:=List.mem_flatMap.1 g
 obtain⟨b,hb,rfl⟩:=List.mem_iff_getElem.1 hx
 unfold VT at g
 rcases List.mem_append.1 g with g|g
 ·rcases List.mem_append.1 g with g|g
  ·obtain⟨p,hp,g⟩:=List.mem_flatMap.1 g
   rcases List.mem_cons.1 g with rfl|g
   ·have:=(phi b hb p hp).1
    omega
   obtain⟨v,hv,g⟩:=List.mem_flatMap.1 g
   exact val ((phi b hb p hp).2 v hv) g
  obtain⟨i,hi,g⟩:=List.mem_flatMap.1 g
  exact ins b hb i hi g
 exact val (h.fin b hb).on g

theorem qY (f:FunL):(xh f).blocks.length=f.blocks.length:=by simp[xh]
theorem QH {f:FunL} {b:Nat} (h:b<(xh f).blocks.length):(xh f).blocks[b]=renB (namF f).1 (f.blocks[b]'(by rw[←qY f];exact h)):=by simp[xh]
theorem Vi (f:FunL) (c:Nat):insN (xh f) c=insN f c:=by
 have e:kL (xh f)=kL f:=by
  unfold kL xh
  rw[List.map_map]
  rfl
 unfold insN xp
 rw[e,qY]
theorem QI (f:FunL):(xh f).regs=((Xa f).length:Int):=by
 show(namF f).2=_
 rw[namF_is];rfl
theorem ZQ {f:FunL} {r:Nat} (h:r∈Xa f):0≤(namF f).1 r∧(namF f).1 r<(xh f).regs:=by
 rw[QI,namF_is]
 obtain⟨h1,_⟩:=xr h
 show 0≤qC (Xa f) r∧qC (Xa f) r<_
 rw[xu h]
 omega

theorem FunC.name {nf:Nat} {P:Nat→Int} {f:FunL} (h:FunC nf P f):FunC nf P (xh f):=by
 have hp:=h.par
 have hg:=h.reg
 have hle:((Xa f).length:Int)≤f.regs:=by
  have:=xl f.regs.toNat (Xa f) (VV f) (fun x hx=>by have:=h.met hx;omega)
  omega
 have hge:f.params≤((Xa f).length:Int):=by
  obtain⟨E,hE⟩:=XP f.params.toNat (f.blocks.flatMap metB++XI f)
  have:Xa f=List.range f.params.toNat++E:=by
   unfold Xa Qc
   rw[List.append_assoc]
   exact hE
  rw[this,List.length_append,List.length_range]
  omega
 have ren:∀{v:Bool×Int},(v.1=true→v.2.toNat∈Xa f)→ValOk (xh f).regs (x9 (namF f).1 v).1 (x9 (namF f).1 v).2:=fun {v} hv e=>by
  unfold x9 at e ⊢
  by_cases e1:v.1=true
  ·rw[if_pos e1]at e ⊢
   exact ZQ (hv e1)
  rw[if_neg e1]at e
  exact absurd e e1
 have many:zi (xh f)=zi f:=by
  unfold zi xh
  rw[List.map_map]
  congr 1
  exact List.map_congr_left fun b _=>by simp[renB]
 have eq1:∀(r:Bool) (n:Int),(x9 (namF f).1 (r,n)).1=r:=fun r n=>by
  unfold x9
  cases r<;>rfl
 refine⟨by rw[qY];exact h.n1,by rw[qY];exact h.n40,hp,⟨by rw[QI];exact hge,by rw[QI];omega⟩,by rw[many];exact h.many,fun b hb=>?_,fun b hb p hp=>?_,fun b hb x hx=>?_⟩
 ·have hb':b<f.blocks.length:=by rw[←qY f];exact hb
  have hf:=h.fin b hb'
  rw[QH hb]
  refine⟨hf.kind,hf.len,fun t ht=>by have e:=hf.to t ht;have e2:=qY f;exact⟨e.1,by omega⟩,hf.two,fun e=>?_,?_⟩
  ·have:=hf.jump e
   refine⟨this.1,?_⟩
   show(x9 _ (_,_)).2=0
   unfold x9
   rw[if_neg (by rw[this.1];simp)]
   exact this.2
  have:=ren (v:=(f.blocks[b].fin.onr,f.blocks[b].fin.onn)) fun e=>Qf hb' (metC_fin e)
  rw[eq1]at this
  exact this
 ·have hb':b<f.blocks.length:=by rw[←qY f];exact hb
  rw[QH hb]at hp
  obtain⟨q,hq,rfl⟩:=List.mem_map.1 hp
  have hc:=h.phi b hb' q hq
  refine⟨hc.blk,ZQ (Qf hb' (metC_dst hq)),by rw[Vi];simpa using hc.len,fun v hv=>?_⟩
  obtain⟨w,hw,rfl⟩:=List.mem_map.1 hv
  exact ren fun e=>Qf hb' (metC_src hq hw e)
 have hb':b<f.blocks.length:=by rw[←qY f];exact hb
 rw[QH hb]at hx
 obtain⟨y,hy,rfl⟩:=List.mem_map.1 hx
 have hc:=insC_iff.1 (h.ins b hb' y hy)
 have mem:∀{r:Nat},r∈Q3 y++vE y.dst→r∈Xa f:=fun hr=>Qf hb' (metC_ins hy hr)
 refine insC_iff.2 ⟨hc.op,fun e=>?_,fun e=>?_,fun e=>?_,fun e=>?_,fun e1 e2=>?_,?_,?_,fun e=>?_⟩
 ·show(if 0≤y.dst then _ else y.dst) = -1
  have:=hc.d0 e
  rw[if_neg (by omega)]
  exact this
 ·have:=hc.a0 e
  refine⟨this.1,?_⟩
  show(x9 _ (_,_)).2=0
  unfold x9
  rw[if_neg (by rw[this.1];simp)]
  exact this.2
 ·have:=hc.b0 e
  refine⟨this.1,?_⟩
  show(x9 _ (_,_)).2=0
  unfold x9
  rw[if_neg (by rw[this.1];simp)]
  exact this.2
 ·have:=hc.c0 e
  exact⟨this.1,by simpa[ks]using this.2⟩
 ·show 0≤(if 0≤y.dst then _ else y.dst)∧(if 0≤y.dst then _ else y.dst)<_
  by_cases e3:0≤y.dst
  ·rw[if_pos e3]
   exact ZQ (mem (List.mem_append_right _ (by unfold vE;rw[if_pos e3];simp)))
  refine absurd (hc.d1 e1 fun g=>e2 ⟨g.1,?_⟩).1 e3
  show(if 0≤y.dst then _ else y.dst) = -1
  rw[if_neg e3]
  exact g.2
 ·have:=ren (v:=(y.ar,y.an)) fun e=>mem (List.mem_append_left _ (List.mem_append_left _ (List.mem_append_left _ (vH e))))
  rw[eq1]at this
  exact this
 ·have:=ren (v:=(y.br,y.bn)) fun e=>mem (List.mem_append_left _ (List.mem_append_left _ (List.mem_append_right _ (vH e))))
  rw[eq1]at this
  exact this
 have:=hc.call e
 refine⟨this.1,by simpa[ks]using this.2.1,fun v hv=>?_⟩
 obtain⟨w,hw,rfl⟩:=List.mem_map.1 hv
 exact ren fun e=>mem (List.mem_append_left _ (List.mem_append_right _ (List.mem_flatMap.2 ⟨w,hw,vH e⟩)))

theorem FunC.order {nf:Nat} {P:Nat→Int} {f:FunL} (h:FunC nf P f):FunC nf P (ordT f):=h.keep h.funD.toFunS.ordC
theorem FunC.names {nf:Nat} {P:Nat→Int} {f:FunL} (h:FunC nf P f):FunC nf P (ja f):=h.order.name
theorem FunC.done {nf:Nat} {P:Nat→Int} {f:FunL} (h:FunC nf P f):FunC nf P (doT f):=h.order.chains.names

theorem ChkOk.funC {u:UniL} (h:ChkOk u) {k:Nat} (hk:k<u.funcs.length):FunC u.funcs.length (Z7 u) u.funcs[k]:=by
 obtain⟨h1,h2,h3,h4⟩:=h.fn hk
 refine⟨by omega,by omega,h1,h2,h4,fun b hb=>endC_iff.1 (bodyE_end (h.bodyZ hk) hb),fun b hb p hp=>phiC_iff.1 ((XF (h.bodyZ hk) hb).1 p hp),fun b hb x hx=>(XF (h.bodyZ hk) hb).2 x hx⟩
theorem FunC.body {u:UniL} {f:FunL} (h:FunC u.funcs.length (Z7 u) f):jK u f=0:=by
 have h1:qA (f.blocks.map fun b=>V1 f b.fin)=0:=zh fun x hx=>by
  obtain⟨b,hb,rfl⟩:=List.mem_map.1 hx
  obtain⟨i,hi,rfl⟩:=List.mem_iff_getElem.1 hb
  exact endC_iff.2 (h.fin i hi)
 unfold jK
 rw[if_pos h1]
 refine zh fun x hx=>?_
 obtain⟨i,hi,rfl⟩:=List.mem_map.1 hx
 have hi:=List.mem_range.1 hi
 rw[Qo hi]
 have h2:qA (f.blocks[i].phis.map (Xn f i (qP (xp f) i).length))=0:=zh fun x hx=>by
  obtain⟨p,hp,rfl⟩:=List.mem_map.1 hx
  exact phiC_iff.2 (h.phi i hi p hp)
 unfold blkE
 rw[if_pos h2]
 refine zh fun x hx=>?_
 obtain⟨p,hp,rfl⟩:=List.mem_map.1 hx
 exact h.ins i hi p hp
theorem headE_of {names:List ByteArray} {f g:FunL} (h:jQ names f=0) (hn:g.name=f.name) {nf:Nat} {P:Nat→Int} (hg:FunC nf P g):jQ names g=0:=by
 unfold jQ at h ⊢
 rw[hn]
 by_cases a:jO f.name=false
 ·rw[if_pos a]at h;cases h
 rw[if_neg a]at h ⊢
 by_cases b:Ji names f.name=true
 ·rw[if_pos b]at h;cases h
 rw[if_neg b]
 have h1:=hg.par
 have h2:=hg.reg
 have h3:=hg.n1
 have h4:=hg.n40
 have h5:=hg.many
 rw[if_neg (by omega),if_neg (by omega)]

def mainO (o:Option FunL):Bool:=match o with|some f=>kN f|none=>false
theorem mainI_o (xs:List FunL):vP xs=(List.range xs.length).find? fun i=>mainO xs[i]?:=rfl
theorem ChkOk.same {u v:UniL} (h:ChkOk u) (hg:v.globals=u.globals) (hl:v.funcs.length=u.funcs.length) (hf:∀k (hk:k<u.funcs.length),v.funcs[k].name=u.funcs[k].name∧v.funcs[k].params=u.funcs[k].params∧FunC u.funcs.length (Z7 u) v.funcs[k]):chk v=(0,0)∧ChkOk v:=by
 have hp:Z7 v=Z7 u:=by
  funext k
  unfold Z7
  congr 1
  refine List.ext_getElem (by simp[hl]) fun i h1 h2=>?_
  simp only[List.getElem_map]
  exact(hf i (by simpa using h2)).2.1
 have hN:∀k,k≤u.funcs.length→xL v k=xL u k:=fun k hk=>by
  unfold xL
  rw[hg]
  congr 1
  refine List.ext_getElem (by simp[hl]) fun i h1 h2=>?_
  simp only[List.getElem_map,List.getElem_take]
  exact(hf i (by simp at h2;omega)).1
 have e1:∀j,j<v.globals.length→Xo v j=0:=fun j hj=>by
  have:Xo v j=Xo u j:=by
   unfold Xo xZ xY
   rw[hg]
  rw[this]
  exact h.glo j (by rw[←hg];exact hj)
 have e2:∀j,j<v.funcs.length→kg v j=0:=fun j hj=>by
  have hj':j<u.funcs.length:=by omega
  rw[kh hj,hN j (by omega)]
  exact headE_of ((kh hj').symm.trans (h.head j hj')) (hf j hj').1 (hf j hj').2.2
 have e3:∀j,j<v.funcs.length→kM v j=0:=fun j hj=>by
  have hj':j<u.funcs.length:=by omega
  rw[Zx hj]
  refine FunC.body ?_
  rw[hp,hl]
  exact(hf j hj').2.2
 have e4:vP v.funcs=vP u.funcs:=by
  rw[mainI_o,mainI_o,hl]
  congr 1
  funext i
  by_cases hi:i<u.funcs.length
  ·rw[List.getElem?_eq_getElem hi,List.getElem?_eq_getElem (by omega)]
   show kN _=kN _
   unfold kN
   rw[(hf i hi).1]
  rw[List.getElem?_eq_none (by omega),List.getElem?_eq_none (by omega)]
 obtain⟨m,hm,hm2⟩:=h.main
 have hv:ChkOk v:=⟨by rw[hg];exact h.ng,by rw[hl];exact h.nf,e1,e2,e3,m,e4.trans hm,by rw[hp];exact hm2⟩
 refine⟨?_,hv⟩
 rcases Xt v with g|g
 ·exact g.1
 exfalso
 apply g
 unfold chk chkO
 rw[if_neg (by have:=hv.ng;have:=hv.nf;omega),zt e1,zt e2,zt e3]
 simp only[Qp]
 rw[e4.trans hm]
 simp only
 rw[if_neg (by rw[hp];omega)]
 rfl

theorem ZR (f:FunL):(doT f).name=f.name∧(doT f).params=f.params:=by
 have hj:∀(f:FunL) (b t:Nat),(x8 f b t).name=f.name∧(x8 f b t).params=f.params:=fun f b t=>⟨rfl,rfl⟩
 have hc:∀(c:Nat) (f:FunL) (b:Nat),(qR c f b).name=f.name∧(qR c f b).params=f.params:=by
  intro c
  induction c with
  | zero=>intro f b;exact⟨rfl,rfl⟩
  | succ c ih=>
   intro f b
   unfold qR
   split
   ·exact⟨rfl,rfl⟩
   rename_i t _
   exact⟨(ih _ b).1.trans (hj f b t).1,(ih _ b).2.trans (hj f b t).2⟩
 have hs:∀f:FunL,(qW f).name=f.name∧(qW f).params=f.params:=fun f=>by
  unfold qW
  generalize f.blocks.length+1=c
  have key:∀(l:List Nat) (g:FunL),(l.foldl (fun g b=>qR c g b) g).name=g.name∧(l.foldl (fun g b=>qR c g b) g).params=g.params:=by
   intro l
   induction l with
   | nil=>intro g;exact⟨rfl,rfl⟩
   | cons b l ih=>intro g;rw[List.foldl_cons];exact⟨(ih _).1.trans (hc c g b).1,(ih _).2.trans (hc c g b).2⟩
  exact key _ f
 have ho:∀g:FunL,(ordT g).name=g.name∧(ordT g).params=g.params:=fun g=>by unfold ordT zl;exact⟨rfl,rfl⟩
 have hn:∀g:FunL,(xh g).name=g.name∧(xh g).params=g.params:=fun g=>by unfold xh;exact⟨rfl,rfl⟩
 unfold doT ja
 rw[(hn _).1,(hn _).2,(ho _).1,(ho _).2,(hs _).1,(hs _).2,(ho _).1,(ho _).2]
 exact⟨rfl,rfl⟩

theorem ChkOk.tidy {u:UniL} (h:ChkOk u):chk (xB u)=(0,0)∧ChkOk (xB u):=
 h.same rfl (by simp[xB]) fun k hk=>by
  have e:(xB u).funcs[k]'(by simp[xB];exact hk)=doT u.funcs[k]:=by simp[xB]
  rw[e]
  exact⟨(ZR _).1,(ZR _).2,(h.funC hk).done⟩

def vX (f:FunL):Nat:=((List.range f.blocks.length).map fun i=>if(atF f i).fin.kind=2 then 1 else 0).sum
theorem Vj (f:FunL):vX f≤f.blocks.length:=by
 unfold vX
 have:∀n,((List.range n).map fun i=>if(atF f i).fin.kind=2 then 1 else 0).sum≤n:=by
  intro n
  induction n with
  | zero=>simp
  | succ n ih=>
   rw[List.range_succ,List.map_append,List.sum_append]
   simp only[List.map_cons,List.map_nil,List.sum_cons,List.sum_nil]
   split<;>omega
 exact this _
theorem XQ {f:FunL} {b t:Nat} (h:jL f b=some t):(atF f b).fin.kind=2:=by
 unfold jL at h
 dsimp only at h
 split at h
 ·rename_i hc;exact hc.1
 cases h
theorem Zg {f:FunL} {b t:Nat} (h:MayJ f b t) (hk:(atF f b).fin.kind=2):vX (x8 f b t)+1=vX f:=by
 unfold vX
 rw[qK]
 obtain⟨u,hu⟩:∃u:Nat→Nat,u=fun i=>if(atF f i).fin.kind=2 then 1 else 0:=⟨_,rfl⟩
 have e1:((List.range f.blocks.length).map fun i=>if(atF (x8 f b t) i).fin.kind=2 then 1 else 0)=(List.range f.blocks.length).map fun j=>if j=t then 0 else if j=b then u t else u j:=by
  refine List.map_congr_left fun i hi=>?_
  have hi:=List.mem_range.1 hi
  rw[jW hi h.hb h.ht]
  by_cases e:i=t
  ·rw[if_pos e,if_pos e];rfl
  rw[if_neg e,if_neg e]
  by_cases e2:i=b
  ·simp only[if_pos e2,hu]
  simp only[if_neg e2,hu]
 have e2:((List.range f.blocks.length).map fun i=>if(atF f i).fin.kind=2 then 1 else 0)=(List.range f.blocks.length).map u:=by rw[hu]
 rw[e1,e2]
 have s1:=QG (fun j=>if j=b then u t else u j) 0 t f.blocks.length
 have s2:=QG u (u t) b f.blocks.length
 have ub:u b=1:=by rw[hu];exact if_pos hk
 rw[if_pos h.ht,if_pos h.ht,if_neg h.ne]at s1
 rw[if_pos h.hb,if_pos h.hb,ub]at s2
 omega
theorem FunC.last {nf:Nat} {P:Nat→Int}:∀(c:Nat) {f:FunL} {b:Nat},FunC nf P f→b<f.blocks.length→vX f<c→jL (qR c f b) b=none
 | 0,_,_,_,_,h=>by omega
 | c+1,f,b,h,hb,hj=>by
  unfold qR
  cases e:jL f b with
  | none=>exact e
  | some t=>
   have hm:=mayJ h hb e
   have:=Zg hm (XQ e)
   exact FunC.last c (h.join hm) (by rw[qK];exact hb) (by omega)

theorem FunC.may_iff {nf:Nat} {P:Nat→Int} {f:FunL} (h:FunC nf P f) {b:Nat} (hb:b<f.blocks.length) {t:Nat}:jL f b=some t↔MayJ f b t:=by
 refine⟨mayJ h hb,fun m=>?_⟩
 have e0:(atF f b).fin.to=[(t:Int)]:=by rw[←jk f hb];exact m.to
 have e1:(atF f b).fin.kind=2:=by
  have h1:=h.fin b hb
  have h2:=h1.len
  rw[qG hb]at e0 ⊢
  rw[e0]at h2
  simp at h2
  omega
 unfold jL
 dsimp only
 rw[e0]
 have e2:(([(t:Int)]:List Int).getD 0 0).toNat=t:=by simp
 rw[e2,e1,qG m.ht,m.phi,m.one,if_pos ⟨rfl,by have:=m.ne;simp[this]⟩]

theorem FunC.none_join {nf:Nat} {P:Nat→Int} {f:FunL} (h:FunC nf P f) {b t:Nat} (m:MayJ f b t) {x:Nat} (hx:x<f.blocks.length) (hn:jL f x=none):jL (x8 f b t) x=none:=by
 have hj:=h.join m
 cases e:jL (x8 f b t) x with
 | none=>rfl
 | some y=>
  exfalso
  have hd:=h.funD
  have g:=mayJ hj (by rw[qK];exact hx) e
  have hxb:x≠b:=fun e=>by
   subst e
   rw[(h.may_iff m.hb).2 m]at hn
   cases hn
  have hy:y<f.blocks.length:=by have:=g.ht;rw[qK]at this;exact this
  have hto:=g.to
  rw[vG m hx]at hto
  by_cases hxt:x=t
  ·rw[if_pos hxt]at hto;cases hto
  rw[if_neg hxt,if_neg hxb]at hto
  have hyt:y≠t:=fun e2=>by
   have:x∈insN f t:=hd.mem.2 ⟨hx,by rw[hto,e2];simp⟩
   rw[m.one,List.mem_singleton]at this
   exact hxb this
  have hm:MayJ f x y:=by
   refine⟨hx,hy,hto,g.ne,?_,?_⟩
   ·have hp:=g.phi
    rw[←qG g.ht,jW hy m.hb m.ht,if_neg hyt]at hp
    have hp:XN f b t y=[]:=hp
    have:=congrArg List.length hp
    unfold XN at this
    rw[List.length_map,qG hy]at this
    exact List.eq_nil_of_length_eq_zero (by simpa using this)
   have hi:=fun a=>Qe hd m (i:=y) (a:=a) hyt
   rw[g.one]at hi
   by_cases hc:(y:Int)∈tosB f.blocks t
   ·have:=(hi b).2 (by rw[if_pos hc];exact .inl rfl)
    rw[List.mem_singleton]at this
    exact absurd this.symm hxb
   refine Vh (jb hd y) (by simp) fun a=>?_
   have:=hi a
   rw[if_neg hc]at this
   exact this.symm
  rw[(h.may_iff hx).2 hm]at hn
  cases hn
theorem FunC.none_chain {nf:Nat} {P:Nat→Int} {x:Nat}:∀(c:Nat) {f:FunL} {b:Nat},FunC nf P f→b<f.blocks.length→x<f.blocks.length→jL f x=none→jL (qR c f b) x=none
 | 0,_,_,_,_,_,h=>h
 | c+1,f,b,h,hb,hx,hn=>by
  unfold qR
  cases e:jL f b with
  | none=>exact hn
  | some t=>
   have hm:=mayJ h hb e
   exact FunC.none_chain c (h.join hm) (by rw[qK];exact hb) (by rw[qK];exact hx) (h.none_join hm hx hn)
theorem FunC.chained {nf:Nat} {P:Nat→Int} {f:FunL} (h:FunC nf P f) {x:Nat} (hx:x<f.blocks.length):jL (qW f) x=none:=by
 unfold qW
 have key:∀k,k≤f.blocks.length→FunC nf P ((List.range k).foldl (fun g b=>qR (f.blocks.length+1) g b) f)∧((List.range k).foldl (fun g b=>qR (f.blocks.length+1) g b) f).blocks.length=f.blocks.length∧∀x,x<k→jL ((List.range k).foldl (fun g b=>qR (f.blocks.length+1) g b) f) x=none:=by
  intro k
  induction k with
  | zero=>intro _;exact⟨h,rfl,fun x hx=>by omega⟩
  | succ k ih=>
   intro hk
   obtain⟨h1,h2,h3⟩:=ih (by omega)
   rw[List.range_succ,List.foldl_append,List.foldl_cons,List.foldl_nil]
   have hkb:k<((List.range k).foldl (fun g b=>qR (f.blocks.length+1) g b) f).blocks.length:=by rw[h2];omega
   obtain⟨g1,g2⟩:=h1.chain (f.blocks.length+1) hkb
   refine⟨g1,g2.trans h2,fun x hx=>?_⟩
   by_cases e:x=k
   ·subst e
    refine h1.last _ hkb ?_
    have:=Vj ((List.range x).foldl (fun g b=>qR (f.blocks.length+1) g b) f)
    rw[h2]at this
    omega
   exact h1.none_chain _ hkb (by rw[h2];omega) (h3 x (by omega))
 exact(key _ (Nat.le_refl _)).2.2 x hx

theorem name_tos (f:FunL):tosB (xh f).blocks=tosB f.blocks:=by
 funext b
 unfold tosB
 by_cases h:b<f.blocks.length
 ·rw[List.getElem?_eq_getElem h,List.getElem?_eq_getElem (by rw[qY];exact h),QH]
  rfl
 have h2:=qY f
 rw[List.getElem?_eq_none (by omega),List.getElem?_eq_none (by omega)]
theorem VW (f:FunL):xG (xh f).blocks=xG f.blocks:=by
 unfold xG j9 jD
 rw[name_tos,qY]
theorem name_may (f:FunL) (b:Nat):jL (xh f) b=none↔jL f b=none:=by
 have e:∀b,(atF (xh f) b).fin.to=(atF f b).fin.to∧(atF (xh f) b).fin.kind=(atF f b).fin.kind∧(atF (xh f) b).phis.length=(atF f b).phis.length:=fun b=>by
  by_cases h:b<f.blocks.length
  ·have h2:b<(xh f).blocks.length:=by rw[qY];exact h
   rw[qG h,qG h2,QH h2]
   exact⟨rfl,rfl,by simp[renB]⟩
  unfold atF
  have h2:¬ b<(xh f).blocks.length:=by rw[qY];exact h
  rw[List.getD_eq_getElem?_getD,List.getD_eq_getElem?_getD,List.getElem?_eq_none (by omega),List.getElem?_eq_none (by omega)]
  exact⟨rfl,rfl,rfl⟩
 unfold jL
 dsimp only
 rw[(e b).1,(e b).2.1,(e _).2.2,Vi]

inductive PathT (f:FunL):Nat→Prop
 | zero:PathT f 0
 | step {a b:Nat}:PathT f a→a<f.blocks.length→(b:Int)∈tosB f.blocks a→PathT f b
theorem FunS.reach {f:FunL} (h:FunS f) {b:Nat}:b∈xG f.blocks↔PathT f b:=by
 have hc:=h.ordC
 constructor
 ·intro hb
  have key:∀(n i:Nat) (hi:i<(xG f.blocks).length),i<n→PathT f (xG f.blocks)[i]:=by
   intro n
   induction n with
   | zero=>intro i _ h;omega
   | succ n ih=>
    intro i hi hn
    by_cases e:(xG f.blocks)[i]=0
    ·rw[e];exact .zero
    obtain⟨j,hj,hji,hm⟩:=h.ord.par i hi e
    exact .step (ih j hj (by omega)) (hc.inb _ (List.getElem_mem hj)) hm
  obtain⟨i,hi,rfl⟩:=List.mem_iff_getElem.1 hb
  exact key (i+1) i hi (by omega)
 intro hp
 induction hp with
 | zero=>exact hc.pos.2.2
 | step _ _ hm ih=>
  have:=hc.closed _ ih _ hm
  simpa using this
def LiveT (f:FunL):Prop:=∀x,x<f.blocks.length→tosB f.blocks x≠[]→PathT f x

theorem path_join {f:FunL} (hf:FunD f) {b t:Nat} (m:MayJ f b t) {x:Nat} (h:PathT f x):PathT (x8 f b t) (if x=t then b else x):=by
 have htb:t∉insN f t:=by rw[m.one];simp[m.ne]
 have h0:¬ (0=t):=fun e=>by
  have h1:(t:Int)∈tosB f.blocks b:=by rw[m.to];simp
  rw[zk m.hb]at h1
  have:=hf.tos _ m.hb _ h1
  omega
 induction h with
 | zero=>rw[if_neg h0];exact .zero
 | @step a y _ ha hm ih=>
  have hlen:=qK f b t
  by_cases e1:a=t
  ·subst e1
   rw[if_pos rfl]at ih
   have hy:y≠a:=fun e=>htb (by subst e;exact hf.mem.2 ⟨ha,hm⟩)
   rw[if_neg hy]
   refine .step ih (by rw[hlen];exact m.hb) ?_
   rw[vG m m.hb,if_neg (fun e=>m.ne e.symm),if_pos rfl]
   exact hm
  rw[if_neg e1]at ih
  by_cases e2:a=b
  ·subst e2
   rw[m.to,List.mem_singleton]at hm
   have:y=t:=by omega
   rw[if_pos this]
   exact ih
  have hy:y≠t:=fun e=>by
   have:a∈insN f t:=hf.mem.2 ⟨ha,by rw[←e];exact hm⟩
   rw[m.one,List.mem_singleton]at this
   exact e2 this
  rw[if_neg hy]
  refine .step ih (by rw[hlen];exact ha) ?_
  rw[vG m ha,if_neg e1,if_neg e2]
  exact hm
theorem LiveT.join {f:FunL} (hf:FunD f) (h:LiveT f) {b t:Nat} (m:MayJ f b t):LiveT (x8 f b t):=fun x hx hne=>by
 rw[qK]at hx
 rw[vG m hx]at hne
 by_cases e:x=t
 ·rw[if_pos e]at hne;exact absurd rfl hne
 rw[if_neg e]at hne
 have hp:PathT f x:=by
  by_cases e2:x=b
  ·subst e2;exact h x hx (by rw[m.to];simp)
  rw[if_neg e2]at hne;exact h x hx hne
 have:=path_join hf m hp
 rw[if_neg e]at this
 exact this
theorem LiveT.chain {nf:Nat} {P:Nat→Int}:∀(c:Nat) {f:FunL} {b:Nat},FunC nf P f→b<f.blocks.length→LiveT f→LiveT (qR c f b)
 | 0,_,_,_,_,h=>h
 | c+1,f,b,h,hb,hl=>by
  unfold qR
  cases e:jL f b with
  | none=>exact hl
  | some t=>
   have hm:=mayJ h hb e
   exact LiveT.chain c (h.join hm) (by rw[qK];exact hb) (hl.join h.funD hm)
theorem LiveT.chains {nf:Nat} {P:Nat→Int} {f:FunL} (h:FunC nf P f) (hl:LiveT f):LiveT (qW f):=by
 unfold qW
 have key:∀(l:List Nat) (g:FunL) (c:Nat),(∀b∈l,b<f.blocks.length)→FunC nf P g→g.blocks.length=f.blocks.length→LiveT g→LiveT (l.foldl (fun g b=>qR c g b) g):=by
  intro l
  induction l with
  | nil=>intro g c _ _ _ h;exact h
  | cons b l ih=>
   intro g c hl hg hn hv
   have hb:b<g.blocks.length:=by rw[hn];exact hl b (.head _)
   obtain⟨h1,h2⟩:=hg.chain c hb
   exact ih _ c (fun x hx=>hl x (.tail _ hx)) h1 (h2.trans hn) (hv.chain c hg hb)
 exact key _ f _ (fun b hb=>List.mem_range.1 hb) h rfl hl
theorem FunD.live {f:FunL} (h:FunD f):LiveT (ordT f):=fun x hx _=>by
 have hk:=h.keep h.toFunS.ordC
 refine hk.toFunS.reach.1 ?_
 have e:=h.order
 unfold ordT at e hx
 rw[e]
 rw[zp]at hx
 exact List.mem_range.2 hx

theorem FunC.none_order {nf:Nat} {P:Nat→Int} {f:FunL} (h:FunC nf P f) (hl:LiveT f) (hn:∀b,b<f.blocks.length→jL f b=none) {i:Nat} (hi:i<(ordT f).blocks.length):jL (ordT f) i=none:=by
 have hd:=h.funD
 have ho:=hd.toFunS.ordC
 cases e:jL (ordT f) i with
 | none=>rfl
 | some j=>
  exfalso
  have g:=mayJ h.order hi e
  have g1:=g.ht
  unfold ordT at g g1 hi
  rw[zp]at g1 hi
  have hi':=ho.inb _ (List.getElem_mem hi)
  have hj':=ho.inb _ (List.getElem_mem g1)
  have hto:=g.to
  rw[kt ho hi]at hto
  have e3:tosB f.blocks (xG f.blocks)[i]=[((xG f.blocks)[j]:Int)]:=by
   rcases ht:tosB f.blocks (xG f.blocks)[i]with _|⟨t,_|⟨t2,l⟩⟩
   ·rw[ht]at hto;cases hto
   ·rw[ht]at hto
    have e4:(xG f.blocks).idxOf t.toNat=j:=by
     simp only[List.map_cons,List.map_nil,List.cons.injEq,and_true]at hto
     omega
    have hm:=ho.closed _ (List.getElem_mem hi) t (by rw[ht];simp)
    obtain⟨k1,k2⟩:=xr hm
    have h5:=hd.tosB _ hi' t (by rw[ht];simp)
    have e6:(xG f.blocks)[j]=t.toNat:=by
     rw[←k2]
     simp only[e4]
    rw[e6,show((t.toNat:Nat):Int)=t by omega]
   rw[ht]at hto
   have:=congrArg List.length hto
   simp at this
  have hm:MayJ f (xG f.blocks)[i] (xG f.blocks)[j]:=by
   refine⟨hi',hj',e3,fun e5=>?_,?_,?_⟩
   ·have:=congrArg (fun x=>(xG f.blocks).idxOf x) e5
    rw[ho.once.idxOf_getElem j g1,ho.once.idxOf_getElem i hi]at this
    exact g.ne this
   ·have hp:=g.phi
    rw[ZO _ f g1,qG hj']at hp
    have:=congrArg List.length hp
    simp only[Vd,List.length_map,List.length_nil]at this
    exact List.eq_nil_of_length_eq_zero this
   refine Vh (jb hd _) (by simp) fun a=>?_
   rw[List.mem_singleton]
   have hk:=fun k=>Qd hd ho (b:=(xG f.blocks)[j]) (List.getElem_mem g1) (j:=k)
   rw[ho.once.idxOf_getElem j g1,g.one]at hk
   constructor
   ·intro ha
    obtain⟨h6,h7⟩:=hd.mem.1 ha
    have hr:a∈xG f.blocks:=hd.toFunS.reach.2 (hl a h6 (by intro e7;rw[e7]at h7;cases h7))
    obtain⟨k1,k2⟩:=xr hr
    have:=(hk ((xG f.blocks).idxOf a)).2 ⟨k1,by rw[k2];exact ha⟩
    rw[List.mem_singleton]at this
    rw[←k2]
    simp only[this]
   rintro rfl
   obtain⟨_,h8⟩:=(hk i).1 (by simp)
   exact h8
  have:=hn _ hi'
  rw[(h.may_iff hi').2 hm]at this
  cases this

theorem Zh {nf:Nat} {P:Nat→Int} {f:FunL} (h:FunC nf P f):(qW f).blocks.length=f.blocks.length:=by
 unfold qW
 have key:∀(l:List Nat) (g:FunL) (c:Nat),(∀b∈l,b<f.blocks.length)→FunC nf P g→g.blocks.length=f.blocks.length→(l.foldl (fun g b=>qR c g b) g).blocks.length=f.blocks.length:=by
  intro l
  induction l with
  | nil=>intro g c _ _ h;exact h
  | cons b l ih=>
   intro g c hl hg hn
   have hb:b<g.blocks.length:=by rw[hn];exact hl b (.head _)
   obtain⟨h1,h2⟩:=hg.chain c hb
   exact ih _ c (fun x hx=>hl x (.tail _ hx)) h1 (h2.trans hn)
 exact key _ f _ (fun b hb=>List.mem_range.1 hb) h rfl
theorem jF {c:Nat} {f:FunL} {b:Nat} (h:jL f b=none):qR c f b=f:=by
 cases c with
 | zero=>rfl
 | succ c=>unfold qR;rw[h]

def zK (k:Nat) (b:BlkL):Option InsL:=
 match b.list.getLast? with
 | some x=>if b.fin.kind=1∧b.fin.onr=true∧x.op=20∧x.fn=(k:Int)∧x.dst=b.fin.onn then some x else none
 | none=>none
def xx (k:Nat) (b:BlkL):Bool:=(zK k b).isSome
def Q4 (d:Int) (v:Bool×Int):InsL:=⟨1,d,v.1,v.2,false,0,0,[]⟩
def QJ:BlkL:=⟨[],[],⟨2,false,0,[1]⟩⟩
def ku (R:Int) (c:InsL):List InsL:=(c.args.mapIdx fun p v=>Q4 (R+(p:Nat)) v)++c.args.mapIdx fun p _=>Q4 (p:Nat) (true,R+(p:Nat))
def ZS (k:Nat) (R:Int) (b:BlkL):BlkL:=
 match zK k b with
 | some c=>⟨b.phis,b.list.dropLast++ku R c,⟨2,false,0,[1]⟩⟩
 | none=>{ b with fin:={ b.fin with «to»:=b.fin.to.map (·+1) } }
def jc (k:Nat) (f:FunL):FunL:={ f with regs:=f.regs+f.params,blocks:=QJ::f.blocks.map (ZS k f.regs) }
def XR (k:Nat) (f:FunL):Nat:=(f.blocks.filter (xx k)).length
def VX (k:Nat) (f:FunL):Bool:=decide (0<XR k f∧f.regs+f.params≤100∧f.blocks.length≠40∧(zi f:Int)+XR k f*(2*f.params - 1)≤300)

theorem zP {k:Nat} {b:BlkL} {c:InsL} (h:zK k b=some c):b.list=b.list.dropLast++[c]∧b.fin.kind=1∧b.fin.onr=true∧c.op=20∧c.fn=(k:Int)∧c.dst=b.fin.onn:=by
 unfold zK at h
 cases e:b.list.getLast? with
 | none=>rw[e]at h;cases h
 | some x=>
  rw[e]at h
  simp only at h
  split at h
  ·next hc=>
   cases h
   refine⟨?_,hc⟩
   obtain⟨hne,hx⟩:=List.getLast?_eq_some_iff.1 e
   rw[hx]
   simp
  cases h
theorem jX {k:Nat} {R:Int} {b:BlkL} (h:zK k b=none):ZS k R b={ b with fin:={ b.fin with «to»:=b.fin.to.map (·+1) } }:=by
 unfold ZS
 rw[h]
theorem jY {k:Nat} {R:Int} {b:BlkL} {c:InsL} (h:zK k b=some c):ZS k R b=⟨b.phis,b.list.dropLast++ku R c,⟨2,false,0,[1]⟩⟩:=by
 unfold ZS
 rw[h]
theorem Zi (k:Nat) (R:Int) (b:BlkL):(ZS k R b).phis=b.phis:=by
 unfold ZS
 split<;>rfl
theorem moves_len (R:Int) (c:InsL):(ku R c).length=2*c.args.length:=by
 simp[ku]
 omega
theorem moves_mem {R:Int} {c x:InsL} (h:x∈ku R c):∃p:Nat,p<c.args.length∧((∃v∈c.args,x=Q4 (R+p) v)∨x=Q4 p (true,R+p)):=by
 unfold ku at h
 rcases List.mem_append.1 h with h|h
 ·obtain⟨i,hi,rfl⟩:=List.mem_mapIdx.1 h
  exact⟨i,hi,.inl ⟨_,List.getElem_mem hi,rfl⟩⟩
 obtain⟨i,hi,rfl⟩:=List.mem_mapIdx.1 h
 exact⟨i,hi,.inr rfl⟩
theorem ValOk.more {r r':Int} {a:Bool} {n:Int} (h:ValOk r a n) (hr:r≤r'):ValOk r' a n:=fun e=>by
 have:=h e
 omega
theorem InsC.more {r r':Int} {nf:Nat} {P:Nat→Int} {x:InsL} (h:InsC r nf P x) (hr:r≤r'):InsC r' nf P x:=
 ⟨h.op,h.d0,h.a0,h.b0,h.c0,fun e1 e2=>by have:=h.d1 e1 e2;omega,h.a.more hr,h.b.more hr,fun e=>⟨(h.call e).1,(h.call e).2.1,fun v hv=>((h.call e).2.2 v hv).more hr⟩⟩
theorem Vk {r d:Int} {v:Bool×Int} {nf:Nat} {P:Nat→Int} (hd:0≤d∧d<r) (hv:ValOk r v.1 v.2):InsC r nf P (Q4 d v):=
 ⟨⟨by show(1:Int)≤1;omega,by show(1:Int)≤22;omega⟩,fun e=>absurd (show shD 1=false from e) (by decide),fun e=>absurd (show shA 1=false from e) (by decide),fun _=>⟨rfl,rfl⟩,fun _=>⟨rfl,rfl⟩,fun _ _=>hd,hv,fun e=>absurd (show false=true from e) (by decide),fun e=>absurd (show(1:Int)=20 from e) (by decide)⟩

section
variable {nf : Nat} {P : Nat → Int} {f : FunL} {k : Nat}
theorem FunC.args (h:FunC nf P f) (hP:P k=f.params) {b:BlkL} (hb:b∈f.blocks) {c:InsL} (e:zK k b=some c):(c.args.length:Int)=f.params∧∀v∈c.args,ValOk f.regs v.1 v.2:=by
 obtain⟨i,hi,rfl⟩:=List.mem_iff_getElem.1 hb
 obtain⟨h1,_,_,h2,h3,_⟩:=zP e
 have hc:=insC_iff.1 (h.ins i hi c (by rw[h1];simp))
 obtain⟨_,g2,g3⟩:=hc.call h2
 rw[h3]at g2
 exact⟨g2.trans hP,g3⟩
theorem VY (h:FunC nf P f) (hP:P k=f.params):(zi (jc k f):Int)=zi f+XR k f*(2*f.params - 1):=by
 have key:∀l:List BlkL,(∀b∈l,b∈f.blocks)→((((l.map (ZS k f.regs)).map fun b=>b.phis.length+b.list.length).sum:Nat):Int)=(((l.map fun b=>b.phis.length+b.list.length).sum:Nat):Int)+((l.filter (xx k)).length:Nat)*(2*f.params - 1):=by
  intro l
  induction l with
  | nil=>intro _;simp
  | cons b l ih=>
   intro hl
   have ih:=ih fun x hx=>hl x (.tail _ hx)
   simp only[List.map_cons,List.sum_cons]
   push_cast at ih ⊢
   rw[ih]
   cases e:zK k b with
   | none=>
    have e2:xx k b=false:=by unfold xx;rw[e];rfl
    rw[List.filter_cons_of_neg (by simp[e2]),jX e]
    simp only
    omega
   | some c=>
    have e2:xx k b=true:=by unfold xx;rw[e];rfl
    have h1:=(h.args hP (hl b (.head _)) e).1
    have h2:=congrArg List.length (zP e).1
    rw[List.filter_cons_of_pos e2,jY e]
    simp only[List.length_append,List.length_cons,List.length_nil,moves_len]at h2 ⊢
    push_cast
    have:((l.filter (xx k)).length+1:Int)*(2*f.params - 1)=(l.filter (xx k)).length*(2*f.params - 1)+(2*f.params - 1):=by rw[Int.add_mul,Int.one_mul]
    omega
 have:=key f.blocks fun _ h=>h
 unfold zi jc XR
 simp only[List.map_cons,List.sum_cons,QJ,List.length_nil]
 push_cast at this ⊢
 rw[this]
 omega
theorem mayR_iff:VX k f=true↔0<XR k f∧f.regs+f.params≤100∧f.blocks.length≠40∧(zi f:Int)+XR k f*(2*f.params - 1)≤300:=by
 unfold VX
 simp
theorem QK (k:Nat) (f:FunL):(jc k f).blocks.length=f.blocks.length+1:=by simp[jc]
theorem kv (k:Nat) (f:FunL) {i:Nat} (h:i<f.blocks.length):(jc k f).blocks[i+1]'(by rw[QK];omega)=ZS k f.regs f.blocks[i]:=by simp[jc]
theorem FunC.round (h:FunC nf P f) (hP:P k=f.params) (hph:∀b∈f.blocks,b.phis=[]) (hm:VX k f=true):FunC nf P (jc k f):=by
 obtain⟨m1,m2,m3,m4⟩:=mayR_iff.1 hm
 have hl:=QK k f
 have n1:=h.n1
 have n40:=h.n40
 have haJ:=h.par
 have hbh:=h.reg
 refine⟨by omega,by omega,haJ,⟨by show f.params≤f.regs+f.params;omega,m2⟩,?_,fun b hb=>?_,fun b hb p hp=>?_,fun b hb x hx=>?_⟩
 ·have:=VY h hP
  omega
 ·rw[hl]
  cases b with
  | zero=>exact⟨by show(1:Int)≤2∧(2:Int)≤3;omega,rfl,fun t ht=>by rw[List.mem_singleton.1 ht];omega,by simp[jc,QJ],fun _=>⟨rfl,rfl⟩,fun e=>by cases e⟩
  | succ i=>
   have hi:i<f.blocks.length:=by omega
   rw[kv k f hi]
   have hf:=h.fin i hi
   cases e:zK k f.blocks[i] with
   | some c=>
    rw[jY e]
    exact⟨by show(1:Int)≤2∧(2:Int)≤3;omega,rfl,fun t ht=>by rw[List.mem_singleton.1 ht];omega,by simp,fun _=>⟨rfl,rfl⟩,fun e=>by cases e⟩
   | none=>
    rw[jX e]
    refine⟨hf.kind,?_,fun t ht=>?_,?_,hf.jump,hf.on.more (by show f.regs≤f.regs+f.params;omega)⟩
    ·show((f.blocks[i].fin.to.map _).length:Int)=_
     rw[List.length_map]
     exact hf.len
    ·obtain⟨s,hs,rfl⟩:=List.mem_map.1 ht
     have:=hf.to s hs
     push_cast
     omega
    show(f.blocks[i].fin.to.map _).Nodup
    exact List.pairwise_map.2 (hf.two.imp fun hne e=>hne (by omega))
 ·exfalso
  cases b with
  | zero=>cases hp
  | succ i=>
   have hi:i<f.blocks.length:=by omega
   rw[kv k f hi,Zi,hph _ (List.getElem_mem hi)]at hp
   cases hp
 rw[insC_iff]
 cases b with
 | zero=>cases hx
 | succ i=>
  have hi:i<f.blocks.length:=by omega
  rw[kv k f hi]at hx
  have hr:f.regs≤(jc k f).regs:=by show f.regs≤f.regs+f.params;omega
  cases e:zK k f.blocks[i] with
  | none=>
   rw[jX e]at hx
   exact(insC_iff.1 (h.ins i hi x hx)).more hr
  | some c=>
   rw[jY e]at hx
   obtain⟨a1,a2⟩:=h.args hP (List.getElem_mem hi) e
   rcases List.mem_append.1 hx with hx|hx
   ·exact(insC_iff.1 (h.ins i hi x (by rw[(zP e).1];exact List.mem_append_left _ hx))).more hr
   obtain⟨p,hp,hc⟩:=moves_mem hx
   rcases hc with⟨v,hv,rfl⟩|rfl
   ·exact Vk (by show _∧_<f.regs+f.params;omega) ((a2 v hv).more hr)
   exact Vk (by show _∧_<f.regs+f.params;omega) (fun _=>by show _∧_<f.regs+f.params;constructor<;>simp only<;>omega)
end
end Go.Proofs.YtecdphhdmjmmnaaGreatDoor
namespace Go.Proofs.YtecdphhdmjmmnaaGreatDoor

def isV (r:Int) (v:Bool×Int):Bool:=v.1&&v.2 == r
end Go.Proofs.YtecdphhdmjmmnaaGreatDoor
namespace Go.Proofs.YtecdphhdmjmmnaaGreatDoor
open Go.RowKit

theorem FunC.less {nf:Nat} {P:Nat→Int} {f:FunL} (h:FunC nf P f):(doT f).blocks.length≤f.blocks.length∧(qW (ordT f)).blocks.length=(ordT f).blocks.length:=by
 have h1:=h.order.chains
 have e:=Zh h.order
 refine⟨?_,e⟩
 have n1:∀g:FunL,FunD g→(ordT g).blocks.length≤g.blocks.length:=fun g hg=>by
  unfold ordT
  rw[zp]
  exact xl _ _ hg.toFunS.ordC.once hg.toFunS.ordC.inb
 have a:=n1 _ h1.funD
 have b:=n1 _ h.funD
 show(xh (ordT (qW (ordT f)))).blocks.length≤_
 rw[qY]
 omega
/-! ## the blocks stay as they are -/
theorem FunC.calm {nf:Nat} {P:Nat→Int} {f:FunL} (h:FunC nf P f):xG (doT f).blocks=List.range (doT f).blocks.length∧∀b,b<(doT f).blocks.length→jL (doT f) b=none:=by
 have h1:=h.order.chains
 obtain⟨g,hg⟩:∃g,g=ordT (qW (ordT f)):=⟨_,rfl⟩
 have e0:doT f=xh g:=by rw[hg];rfl
 have ho:xG g.blocks=List.range g.blocks.length:=by
  rw[hg,h1.funD.order]
  unfold ordT
  rw[zp]
 rw[e0]
 refine⟨by rw[VW,ho,qY],fun b hb=>?_⟩
 rw[name_may]
 rw[qY]at hb
 rw[hg]at hb ⊢
 refine h1.none_order (h.funD.live.chains h.order) (fun b hb=>?_) hb
 exact h.order.chained (by
  have hl:(qW (ordT f)).blocks.length=(ordT f).blocks.length:=Zh h.order
  rw[←hl];exact hb)
theorem ChkOk.zero {u:UniL} (h:ChkOk u):chk u=(0,0):=(h.same rfl rfl fun _ hk=>⟨rfl,rfl,h.funC hk⟩).1

section
variable {nf : Nat} {P : Nat → Int} {f : FunL} {k : Nat}
theorem goes_iff {b:BlkL}:xx k b=true↔∃x,b.list.getLast?=some x∧b.fin.kind=1∧b.fin.onr=true∧x.op=20∧x.fn=(k:Int)∧x.dst=b.fin.onn:=by
 unfold xx zK
 cases b.list.getLast? with
 | none=>simp
 | some x=>
  simp only[Option.some.injEq,exists_eq_left']
  split
  ·next hc=>simpa using hc
  next hc=>simpa using hc
end

def tailF (pl:FunL→Bool) (k:Nat) (f:FunL):FunL:=if pl f=true∧VX k f=true then jc k f else f
def xW (pl:FunL→Bool) (u:UniL):UniL:={ u with funcs:=u.funcs.mapIdx (tailF pl) }
def Vl (pl:FunL→Bool):Prop:=∀f,pl f=true→∀b∈f.blocks,b.phis=[]

section
variable {pl : FunL → Bool} {u : UniL}
theorem jd (pl:FunL→Bool) (u:UniL):(xW pl u).funcs.length=u.funcs.length:=by simp[xW]
theorem Vm {k:Nat} (hk:k<u.funcs.length):(xW pl u).funcs[k]'(by rw[jd];exact hk)=tailF pl k u.funcs[k]:=by simp[xW]
theorem FunC.tailF {nf:Nat} {P:Nat→Int} {f:FunL} {k:Nat} (hpl:Vl pl) (h:FunC nf P f) (hP:P k=f.params):FunC nf P (tailF pl k f):=by
 unfold Go.Proofs.YtecdphhdmjmmnaaGreatDoor.tailF
 split
 ·next hc=>exact h.round hP (hpl f hc.1) hc.2
 exact h
theorem QL {k:Nat} (hk:k<u.funcs.length):Z7 u k=u.funcs[k].params:=by
 unfold Z7
 rw[List.getD_eq_getElem?_getD,List.getElem?_eq_getElem (by simpa using hk)]
 simp
theorem ChkOk.tail (hpl:Vl pl) (h:ChkOk u):chk (xW pl u)=(0,0)∧ChkOk (xW pl u):=
 h.same rfl (jd _ _) fun k hk=>by
  rw[Vm hk]
  refine⟨?_,?_,(h.funC hk).tailF hpl (QL hk)⟩<;>(unfold Go.Proofs.YtecdphhdmjmmnaaGreatDoor.tailF;split<;>rfl)
end
end Go.Proofs.YtecdphhdmjmmnaaGreatDoor
namespace Go.Proofs.YtecdphhdmjmmnaaGreatDoor
open Go.RowKit Go.Shelf
attribute [local go_sem] Oper.semAt_some

structure BackI (X:Nat) (p:Option Addr) (c:Nat) (xs:List InsL) (qs:Nat→Option Addr) (cs:Nat→Nat) (W:World):Prop where
 box:W.cell? ⟨X,0,none⟩=some (.slice p xs.length c)
 el:∀i (h:i<xs.length),∃b o,p=some ⟨b,o,none⟩∧W.cell? ⟨b,o+i*8,none⟩=some (.int .i64 xs[i].op)∧W.cell? ⟨b,o+i*8+1,none⟩=some (.int .i64 xs[i].dst)∧W.cell? ⟨b,o+i*8+2,none⟩=some (.bool xs[i].ar)∧W.cell? ⟨b,o+i*8+3,none⟩=some (.int .i64 xs[i].an)∧W.cell? ⟨b,o+i*8+4,none⟩=some (.bool xs[i].br)∧W.cell? ⟨b,o+i*8+5,none⟩=some (.int .i64 xs[i].bn)∧W.cell? ⟨b,o+i*8+6,none⟩=some (.int .i64 xs[i].fn)∧W.cell? ⟨b,o+i*8+7,none⟩=some (.slice (qs i) xs[i].args.length (cs i))
section
variable {X c : Nat} {p : Option Addr} {xs : List InsL} {qs : Nat → Option Addr} {cs : Nat → Nat} {W W' : World}
theorem BackI.other (h:BackI X p c xs qs cs W) (hk:∀b o v,W.cell? ⟨b,o,none⟩=some v→(b=X∨∃o,p=some ⟨b,o,none⟩)→W'.cell? ⟨b,o,none⟩=some v):BackI X p c xs qs cs W':=
 ⟨hk _ _ _ h.box (.inl rfl),fun i hi=>by
  obtain⟨b,o,hp,h0,h1,h2,h3,h4,h5,h6,h7⟩:=h.el i hi
  have hb:b=X∨∃o,p=some ⟨b,o,none⟩:=.inr ⟨o,hp⟩
  exact⟨b,o,hp,hk _ _ _ h0 hb,hk _ _ _ h1 hb,hk _ _ _ h2 hb,hk _ _ _ h3 hb,hk _ _ _ h4 hb,hk _ _ _ h5 hb,hk _ _ _ h6 hb,hk _ _ _ h7 hb⟩⟩
theorem BackI.putObj (h:BackI X p c xs qs cs W) {l:Nat} {o:Obj} (o':Obj) (hl:W.heap[l]?=some o) (ho:o.isCells=false):BackI X p c xs qs cs (W.putObj l o'):=
 h.other fun b o v hc _=>by
  have hne:b≠l:=xM hl ho hc
  exact(World.cell?_of_block (a:=⟨b,o,none⟩) (World.putObj_heap_other (by omega))).trans hc
theorem BackI.kept {S:Blks} (h:BackI X p c xs qs cs W) (hk:Kept S W W') (hX:¬ S X) (hp:∀b o,p=some ⟨b,o,none⟩→¬ S b):BackI X p c xs qs cs W':=
 h.other fun b o v hc hor=>(hk.cell (p:=⟨b,o,none⟩) (q8 hc) (by
  rcases hor with rfl|⟨o2,e⟩
  ·exact hX
  exact hp b o2 e)).trans hc
end
def noneI:InsL:=⟨0,0,false,0,false,0,0,[]⟩
def k9 (x:InsL) (q:Option Addr) (c:Nat):Array Value:=#[.int .i64 x.op,.int .i64 x.dst,.bool x.ar,.int .i64 x.an,.bool x.br,.int .i64 x.bn,.int .i64 x.fn,.slice q x.args.length c]
def ZT (xs:List InsL) (qs:Nat→Option Addr) (cs:Nat→Nat) (i:Nat):Array Value:=#[.int .i64 ((xs.length - 1 - i:Nat):Int),.agg (k9 (xs.getD (xs.length - 1 - i) noneI) (qs (xs.length - 1 - i)) (cs (xs.length - 1 - i)))]

theorem ZU (p:Option Addr) (n c:Nat) (w:World) :
  Calls Tryz.prog 118 #[.slice p n c] w fun e w'=>e = .returned (.func (.func 145) #[] #[.pointer (some ⟨w.heap.size,0,none⟩)])∧w'=w.alloc (.cells #[.slice p n c] 41):=by
 go_enter Tryz.func118,Tryz.ntmps118
 go_wp2
 go_ret
 exact⟨rfl,rfl⟩

theorem backI_at (F:Fence) (n:Nat) (hF:F.fn 145) (hro:F.round=none) (hn:1≤n) (X c:Nat) (p:Option Addr) (xs:List InsL) (qs:Nat→Option Addr) (cs:Nat→Nat) (w:World) (hl:xs.length≤140737488355328) (hsh:BackI X p c xs qs cs w) :
  SeqAt F n Tryz.prog 145 #[.pointer (some ⟨X,0,none⟩)] (ZT xs qs cs) xs.length (fun W W'=>BackI X p c xs qs cs W→BackI X p c xs qs cs W') w:=by
 intro l J Jx W hW _ _ hY h0
 have HS:=q7 (hsh.other (W':=W) fun b o v hc _=>(hW.cell (p:=⟨b,o,none⟩) (q8 hc)).trans hc)
 have HY:=q7 hY
 clear hsh hY hW
 refine callsIn_of_wp Tryz.func145 rfl hF ?_ hro
 simp only[Tryz.ntmps145,List.size_toArray,List.length_cons,List.length_nil,Nat.reduceAdd,Nat.reduceSub,Array.replicate_succ,Array.replicate_zero,List.push_toArray,List.append_toArray,List.nil_append,List.cons_append]
 have cb:=HS.out.box
 gi_wp2
 gi_loopw [3] (fun i wr=>∃m:Nat,m≤xs.length∧i = .int .i64 ((xs.length:Int) - 1 - m)∧J m wr∧BackI X p c xs qs cs wr) (fun i _=>(intOf i+1).toNat)
 case atStart=>exact⟨0,by omega,by simp,h0,HS.out⟩
 case round=>
  clear cb
  obtain⟨m,hm,rfl,hJ,hK⟩:=hrel
  have cb:=hK.box
  have HK:=q7 hK
  clear hK
  by_cases hlt:m<xs.length
  rotate_left
  ·obtain rfl:m=xs.length:=by omega
   gi_wp2
   go_end0
   exact⟨⟨_,rfl⟩,.inl hJ⟩
  have hk:xs.length - 1 - m<xs.length:=by omega
  obtain⟨b,o,rfl,e0,e1,e2,e3,e4,e5,e6,e7⟩:=HK.out.el _ hk
  have hj:(xs.length:Int) - 1 - m=((xs.length - 1 - m:Nat):Int):=by omega
  obtain⟨fn,tmps,assign,body,hy,hR⟩:=HY.out _ wr hlt hJ
  have he:ZT xs qs cs m=#[.int .i64 ((xs.length - 1 - m:Nat):Int),.agg #[.int .i64 (xs[xs.length - 1 - m]).op,.int .i64 (xs[xs.length - 1 - m]).dst,.bool (xs[xs.length - 1 - m]).ar,.int .i64 (xs[xs.length - 1 - m]).an,.bool (xs[xs.length - 1 - m]).br,.int .i64 (xs[xs.length - 1 - m]).bn,.int .i64 (xs[xs.length - 1 - m]).fn,.slice (qs (xs.length - 1 - m)) (xs[xs.length - 1 - m]).args.length (cs (xs.length - 1 - m))]]:=by
   unfold ZT k9
   rw[List.getD_eq_getElem?_getD,List.getElem?_eq_getElem hk]
   rfl
  rw[he]at hy
  rw[hj]
  generalize hkk:xs.length - 1 - m=k at *
  have HKK:=q7 hkk
  have HR:=q7 hR
  clear hR he hj hkk
  gi_wp2
  refine HR.out.mono ?_
  rintro e W3 (⟨rfl,hJ3,hk3⟩|⟨rfl,hJx3⟩)
  ·have HK3:=q7 (hk3 HK.out)
   clear hk3
   gi_wp2
   go_roundw
   case rel=>exact⟨m+1,by omega,by have:=HKK.out;congr 1;omega,hJ3,HK3.out⟩
   case measure=>simp[intOf]
  gi_wp2
  refine bodyPost_ret (results_none rfl _ _ _) rfl ?_
  exact⟨⟨_,rfl⟩,.inr ⟨_,hlt,hJx3⟩⟩
end Go.Proofs.YtecdphhdmjmmnaaGreatDoor
namespace Go.Proofs.YtecdphhdmjmmnaaGreatDoor
open Go.RowKit Go.Shelf

section
variable {P : Program} {md : Region.Mode} {ops : Array Oper} {Q : Exit → Act → World → Prop} {S : World → Prop} {z : Nat}
theorem ZV {i:Nat} {oi:Oper} {v:Value} (hi:ops[i]?=some oi) (hz:ops.size≤z) (hsel:∀(j:Nat) (o:Oper) cs b,ops[j]?=some o→o.op≠.select cs b)
  (hQ:∀c a w,Q (.panic c) (a.put oi.dst v) w→Q (.panic c) a w) :
  ∀(fuel:Nat) (listed:Array Bool) (a:Act) (w:World),
   (∀j oj,ops[j]?=some oj→j≠i→listed.getD j true=false→(∀e∈oj.after,Region.binds md e=true→e.on≠i)→oi.apart ops oj=true)→
   i∈Region.ready md ops listed→YieldsIf P ops S oi v a→S w→
   qN P md ops Q S z fuel (listed.setIfInBounds i true) (a.put oi.dst v) w→qN P md ops Q S z (fuel+1) listed a w:=by
 intro fuel
 induction fuel with
 | zero=>
  intro listed a w _ hr hy hS H
  refine⟨fun h=>(by rw[h]at hr;cases hr),fun j hj=>?_⟩
  by_cases hji:j=i
  ·subst hji;exact hy.wpOp hi hS ⟨fun _=>hS,H⟩
  have:=ready_mono hj hji
  rw[H.1]at this
  cases this
 | succ fuel ih=>
  intro listed a w hfree hr hy hS H
  refine⟨fun h=>(by rw[h]at hr;cases hr),fun j hj=>?_⟩
  by_cases hji:j=i
  ·subst hji;exact hy.wpOp hi hS ⟨fun _=>hS,H⟩
  have h1:=H.2 j (ready_mono hj hji)
  obtain⟨hjun,oj,hoj,hall⟩:=mem_ready.1 hj
  have hnot:∀e∈oj.after,Region.binds md e=true→e.on≠i:=fun e he hb heq=>by
   have h1:=hall e he hb
   have h0:=(mem_ready.1 hr).1
   rw[heq]at h1
   rcases Nat.lt_or_ge i listed.size with h'|h'
   ·simp[h']at h0 h1;rw[h0]at h1;cases h1
   simp[Array.getElem?_eq_none h']at h1
  have hjz:j≠z:=fun e=>by have:=(Array.getElem?_eq_some_iff.1 hoj).1;omega
  have h2:=wpOp_putIf hoj (hfree j oj hoj hji hjun hnot) (fun cs b=>hsel i oi cs b hi) (fun cs b=>hsel j oj cs b hoj) hQ hy h1
  have hfree':∀k ok,ops[k]?=some ok→k≠i→(listed.setIfInBounds j true).getD k true=false→
    (∀e∈ok.after,Region.binds md e=true→e.on≠i)→oi.apart ops ok=true:=fun k ok hk hki hun hno=>by
   refine hfree k ok hk hki ?_ hno
   by_cases hjk:j=k
   ·subst hjk;exact hjun
   rw[getD_set_ne true hjk]at hun;exact hun
  refine wpOp_mono (fun a' w' h3=>⟨fun _=>h3.2.1 hjz,ih (listed.setIfInBounds j true) a' w' hfree' (ready_mono hr (Ne.symm hji)) h3.1 (h3.2.1 hjz) ?_⟩) h2
  rw[Array.setIfInBounds_comm _ _ hji]
  exact h3.2.2
theorem XS {i:Nat} {oi:Oper} {v:Value} {fuel:Nat} {listed:Array Bool} {a:Act} {w:World} (hi:ops[i]?=some oi) (hw:ops.size≤z)
  (hs:Region.noSelect ops=true) (hf:Region.free md ops listed i=true) (hr:(Region.ready md ops listed).contains i=true)
  (hQ:∀c a w,Q (.panic c) (a.put oi.dst v) w→Q (.panic c) a w) (hy:YieldsIf P ops S oi v a) (hS:S w)
  (h:qN P md ops Q S z fuel (listed.setIfInBounds i true) (a.put oi.dst v) w):qN P md ops Q S z (fuel+1) listed a w:=
 ZV hi hw (Region.noSelect_spec hs) hQ fuel listed a w (Region.free_spec hi hf) (by simpa using hr) hy hS h
theorem jZ (i d:Nat) (v:Value) {oi:Oper} {fuel:Nat} {listed:Array Bool} {a:Act} {w:World} (hi:ops[i]?=some oi) (hd:oi.dst=some d) (hw:ops.size≤z)
  (hs:Region.noSelect ops=true) (hf:Region.free md ops listed i=true) (hr:(Region.ready md ops listed).contains i=true)
  (hQ:∀c a w,Q (.panic c) (a.put (some d) v) w→Q (.panic c) a w) (hy:YieldsIf P ops S oi v a) (hS:S w)
  (h:qN P md ops Q S z fuel (listed.setIfInBounds i true) (a.put (some d) v) w):qN P md ops Q S z (fuel+1) listed a w:=
 XS hi hw hs hf hr (by rw[hd];exact hQ) hy hS (by rw[hd];exact h)
end
end Go.Proofs.YtecdphhdmjmmnaaGreatDoor
