/-
  Plain: a function tidied twice is tidied once (FunC.twice).
-/
import Derived.Test.YtecdphhdmjmmnaaGreatDoorJTidG
namespace Go.Proofs.YtecdphhdmjmmnaaGreatDoor
open Go.RowKit

theorem Qt (u:Nat→Nat) (c i:Nat):∀n,((List.range n).map fun j=>if j=i then c else u j).sum+(if i<n then u i else 0)=((List.range n).map u).sum+if i<n then c else 0
 | 0=>by simp
 | n+1=>by
  have ih:=Qt u c i n
  rw[List.range_succ,List.map_append,List.map_append,List.sum_append,List.sum_append]
  simp only[List.map_cons,List.map_nil,List.sum_cons,List.sum_nil]
  by_cases e:n=i
  ·subst e
   rw[if_neg (by omega),if_neg (by omega)]at ih
   rw[if_pos rfl,if_pos (by omega),if_pos (by omega)]
   omega
  rw[if_neg e]
  by_cases g:i<n
  ·rw[if_pos g,if_pos g]at ih
   rw[if_pos (by omega),if_pos (by omega)]
   omega
  rw[if_neg g,if_neg g]at ih
  rw[if_neg (by omega),if_neg (by omega)]
  omega
theorem many_join {f:FunL} {b t:Nat} (h:MayJ f b t):z6 (zM f b t)=z6 f:=by
 rw[jB,jB,qH]
 obtain⟨u,hu⟩:∃u:Nat→Nat,u=fun i=>(atF f i).phis.length+(atF f i).list.length:=⟨_,rfl⟩
 have e1:((List.range f.blocks.length).map fun i=>(atF (zM f b t) i).phis.length+(atF (zM f b t) i).list.length)=(List.range f.blocks.length).map fun j=>if j=t then 0 else if j=b then u b+u t else u j:=by
  refine List.map_congr_left fun i hi=>?_
  have hi:=List.mem_range.1 hi
  rw[jR hi h.hb h.ht]
  by_cases e:i=t
  ·rw[if_pos e,if_pos e];rfl
  rw[if_neg e,if_neg e]
  by_cases e2:i=b
  ·subst e2
   simp only[if_true,Xv,List.length_map,List.length_append,hu]
   have hp:(atF f t).phis=[]:=by rw[qD h.ht];exact h.phi
   rw[hp]
   simp
   omega
  simp only[if_neg e2,Xv,List.length_map,hu]
 have e2:((List.range f.blocks.length).map fun i=>(atF f i).phis.length+(atF f i).list.length)=(List.range f.blocks.length).map u:=by rw[hu]
 rw[e1,e2]
 have s1:=Qt (fun j=>if j=b then u b+u t else u j) 0 t f.blocks.length
 have s2:=Qt u (u b+u t) b f.blocks.length
 rw[if_pos h.ht,if_pos h.ht,if_neg h.ne]at s1
 rw[if_pos h.hb,if_pos h.hb]at s2
 omega

theorem FunC.join {nf:Nat} {P:Nat→Int} {f:FunL} (hc:FunC nf P f) {b t:Nat} (h:MayJ f b t):FunC nf P (zM f b t):=by
 have hf:=hc.funD
 have hj:=hf.join h
 have hL:=qH f b t
 have fin:∀i,i<f.blocks.length→EndC f.regs f.blocks.length (atF f i).fin:=fun i hi=>by rw[qD hi];exact hc.fin i hi
 refine⟨hj.n1,hj.n40,hc.par,hc.reg,by rw[many_join h];exact hc.many,fun i hi=>?_,fun i hi p hp=>?_,fun i hi x hx=>?_⟩
 ·show EndC f.regs _ _
  rw[←qD hi,qH]
  rw[hL]at hi
  rw[jR hi h.hb h.ht]
  by_cases e:i=t
  ·rw[if_pos e]
   exact⟨⟨by decide,by decide⟩,rfl,by simp[kd],by simp[kd],by simp[kd],fun g=>by cases g⟩
  rw[if_neg e]
  show EndC _ _ (if i=b then _ else _)
  split
  ·exact fin t h.ht
  exact fin i hi
 ·rw[←qD hi]at hp
  rw[hL]at hi
  rw[jR hi h.hb h.ht]at hp
  by_cases e:i=t
  ·rw[if_pos e]at hp;cases hp
  rw[if_neg e]at hp
  have hp:p∈Xv f b t i:=hp
  obtain⟨q,hq,rfl⟩:=List.mem_map.1 hp
  rw[qD hi]at hq
  have hq:=hc.phi i hi q hq
  have e2:=join_phi hf h e hq.len
  have e3:(if(i:Int)∈(atF f t).fin.to then { q with src:=kT (insN f i) t b q.src } else q)={ q with src:=(insN (zM f b t) i).map fun a=>kU (insN f i) q.src (if(i:Int)∈tosB f.blocks t∧a=b then t else a) }:=by
   rw[←kg f h.ht,←e2]
   split<;>rfl
  rw[e3]
  refine⟨hq.blk,hq.dst,by simp,fun v hv=>?_⟩
  obtain⟨a,ha,rfl⟩:=List.mem_map.1 hv
  have hm:(if(i:Int)∈tosB f.blocks t∧a=b then t else a)∈insN f i:=by
   rw[Q3 hf h e]at ha
   by_cases hc2:(i:Int)∈tosB f.blocks t
   ·rw[if_pos hc2]at ha
    rcases ha with g|g
    ·rw[if_pos ⟨hc2,g⟩]
     exact hf.mem.2 ⟨h.ht,hc2⟩
    split
    ·exact hf.mem.2 ⟨h.ht,hc2⟩
    exact g.2
   rw[if_neg hc2]at ha
   rw[if_neg fun g=>hc2 g.1]
   exact ha
  refine hq.src _ ?_
  unfold kU
  obtain⟨k1,k2⟩:=xu hm
  have hlt:(insN f i).idxOf (if(i:Int)∈tosB f.blocks t∧a=b then t else a)<q.src.length:=by rw[hq.len];exact k1
  rw[List.getD_eq_getElem?_getD,List.getElem?_eq_getElem hlt]
  exact List.getElem_mem _
 rw[←qD hi]at hx
 rw[hL]at hi
 rw[jR hi h.hb h.ht]at hx
 have ins:∀i,i<f.blocks.length→∀x∈(atF f i).list,jF f.regs nf P x.op x.dst x.an x.bn x.fn x.ar x.br x.args=0:=fun i hi=>by rw[qD hi];exact hc.ins i hi
 by_cases e:i=t
 ·rw[if_pos e]at hx;cases hx
 rw[if_neg e]at hx
 have hx:x∈(if i=b then(atF f b).list++(atF f t).list else(atF f i).list):=hx
 split at hx
 ·rcases List.mem_append.1 hx with g|g
  ·exact ins b h.hb x g
  exact ins t h.ht x g
 exact ins i hi x hx

theorem FunC.chain {nf:Nat} {P:Nat→Int}:∀(c:Nat) {f:FunL} {b:Nat},FunC nf P f→b<f.blocks.length→FunC nf P (qM c f b)∧(qM c f b).blocks.length=f.blocks.length
 | 0,_,_,h,_=>⟨h,rfl⟩
 | c+1,f,b,h,hb=>by
  unfold qM
  cases e:jm f b with
  | none=>exact⟨h,rfl⟩
  | some t=>
   obtain⟨h1,h2⟩:=FunC.chain c (h.join (mayJ h hb e)) (b:=b) (by rw[qH];exact hb)
   exact⟨h1,by rw[h2,qH]⟩
theorem FunC.chains {nf:Nat} {P:Nat→Int} {f:FunL} (h:FunC nf P f):FunC nf P (qP f):=by
 unfold qP
 have key:∀(l:List Nat) (g:FunL) (c:Nat),(∀b∈l,b<f.blocks.length)→FunC nf P g→g.blocks.length=f.blocks.length→FunC nf P (l.foldl (fun g b=>qM c g b) g):=by
  intro l
  induction l with
  | nil=>intro g c _ h _;exact h
  | cons b l ih=>
   intro g c hl hg hn
   obtain⟨h1,h2⟩:=hg.chain c (b:=b) (by rw[hn];exact hl b (.head _))
   exact ih _ c (fun x hx=>hl x (.tail _ hx)) h1 (h2.trans hn)
 exact key _ f _ (fun b hb=>List.mem_range.1 hb) h rfl

structure InsC (regs:Int) (nf:Nat) (P:Nat→Int) (x:InsL):Prop where
 op:1≤x.op∧x.op≤22
 d0:shD x.op=false→x.dst = -1
 a0:shA x.op=false→x.ar=false∧x.an=0
 b0:shB x.op=false→x.br=false∧x.bn=0
 c0:x.op≠20→x.fn=0∧x.args.length=0
 d1:shD x.op=true→¬(x.op=20∧x.dst = -1)→0≤x.dst∧x.dst<regs
 a:ValOk regs x.ar x.an
 b:ValOk regs x.br x.bn
 call:x.op=20→(0≤x.fn∧x.fn<(nf:Int))∧(x.args.length:Int)=P x.fn.toNat∧∀v∈x.args,ValOk regs v.1 v.2
theorem dstE_iff {regs n:Int}:vE regs n=0↔0≤n∧n<regs:=by
 unfold vE
 split
 ·exact⟨fun _=>by omega,fun _=>rfl⟩
 exact⟨fun g=>absurd g (by decide),fun g=>by omega⟩
theorem callE_iff {regs:Int} {nf:Nat} {P:Nat→Int} {op fn:Int} {L:List (Bool×Int)}:xL regs nf P (op == 20) fn L=0↔(op=20→(0≤fn∧fn<(nf:Int))∧(L.length:Int)=P fn.toNat∧∀v∈L,ValOk regs v.1 v.2):=by
 unfold xL
 by_cases h:op=20
 ·rw[if_neg (by simp[h])]
  by_cases h1:0≤fn∧fn<(nf:Int)
  ·rw[if_neg (by simpa using h1)]
   by_cases h2:(L.length:Int)=P fn.toNat
   ·rw[if_neg (by simpa using h2)]
    unfold valsE
    rw[kE]
    exact⟨fun g _=>⟨h1,h2,fun v hv=>valE_iff.1 (g _ (List.mem_map.2 ⟨v,hv,rfl⟩))⟩,fun g y hy=>by
     obtain⟨v,hv,rfl⟩:=List.mem_map.1 hy
     exact valE_iff.2 ((g h).2.2 v hv)⟩
   rw[if_pos h2]
   exact⟨fun g=>absurd g (by decide),fun g=>absurd (g h).2.1 h2⟩
  rw[if_pos h1]
  exact⟨fun g=>absurd g (by decide),fun g=>absurd (g h).1 h1⟩
 rw[if_pos (by simpa using h)]
 exact⟨fun _ g=>absurd g h,fun _=>rfl⟩
theorem insC_iff {regs:Int} {nf:Nat} {P:Nat→Int} {x:InsL}:jF regs nf P x.op x.dst x.an x.bn x.fn x.ar x.br x.args=0↔InsC regs nf P x:=by
 unfold jF
 by_cases h1:1≤x.op∧x.op≤22
 rotate_left
 ·rw[if_pos h1]
  exact⟨fun g=>absurd g (by decide),fun g=>absurd g.op h1⟩
 rw[if_neg (by simpa using h1)]
 by_cases h2:(shD x.op=false∧x.dst≠-1)∨(shA x.op=false∧¬(x.ar=false∧x.an=0))∨(shB x.op=false∧¬(x.br=false∧x.bn=0))∨(x.op≠20∧(x.fn≠0∨0<x.args.length))
 ·rw[if_pos h2]
  refine⟨fun g=>absurd g (by decide),fun g=>?_⟩
  rcases h2 with h|h|h|h
  ·exact absurd (g.d0 h.1) h.2
  ·exact absurd (g.a0 h.1) h.2
  ·exact absurd (g.b0 h.1) h.2
  have:=g.c0 h.1
  have:=h.2
  omega
 rw[if_neg h2]
 by_cases h3:shD x.op=true∧¬(x.op=20∧x.dst = -1)∧vE regs x.dst≠0
 ·rw[if_pos h3]
  exact⟨fun g=>absurd g h3.2.2,fun g=>absurd (dstE_iff.2 (g.d1 h3.1 h3.2.1)) h3.2.2⟩
 rw[if_neg h3,kE]
 constructor
 ·intro g
  refine⟨h1,fun e=>?_,fun e=>?_,fun e=>?_,fun e=>?_,fun e1 e2=>?_,valE_iff.1 (g _ (by simp)),valE_iff.1 (g _ (by simp)),callE_iff.1 (g _ (by simp))⟩
  ·exact Classical.byContradiction fun k=>h2 (.inl ⟨e,k⟩)
  ·exact Classical.byContradiction fun k=>h2 (.inr (.inl ⟨e,k⟩))
  ·exact Classical.byContradiction fun k=>h2 (.inr (.inr (.inl ⟨e,k⟩)))
  ·refine Classical.byContradiction fun k=>h2 (.inr (.inr (.inr ⟨e,?_⟩)))
   omega
  exact dstE_iff.1 (Classical.byContradiction fun k=>h3 ⟨e1,e2,k⟩)
 intro g y hy
 simp only[List.mem_cons,List.not_mem_nil,or_false]at hy
 rcases hy with rfl|rfl|rfl
 ·exact valE_iff.2 g.a
 ·exact valE_iff.2 g.b
 exact callE_iff.2 g.call
/-! ## names as registers are met -/

def Xw (L:List Nat):List Nat:=L.foldl (fun D r=>if r∈D then D else D++[r]) []
def stD (D:List Nat):NamS:=(qt D,(D.length:Int))
theorem nameS_st {D:List Nat} {r:Nat}:je (stD D) r=stD (if r∈D then D else D++[r]):=by
 unfold je stD
 by_cases h:r∈D
 ·rw[if_neg (by show ¬ qt D r<0;rw[x7 h];omega),if_pos h]
 have e:qt D r = -1:=by unfold qt;rw[if_neg h]
 rw[if_pos (by show qt D r<0;omega),if_neg h]
 refine Prod.ext (funext fun i=>?_) (by simp)
 show(if i=r then(D.length:Int)else qt D i)=qt (D++[r]) i
 unfold qt
 by_cases e2:i=r
 ·subst e2
  rw[if_pos rfl,if_pos (by simp),List.idxOf_append,if_neg h]
  simp
 rw[if_neg e2]
 by_cases e3:i∈D
 ·rw[if_pos e3,if_pos (by simp[e3]),List.idxOf_append,if_pos e3]
 rw[if_neg e3,if_neg (by simp[e2,e3])]
theorem Z2 (L:List Nat):∀D,L.foldl je (stD D)=stD (L.foldl (fun D r=>if r∈D then D else D++[r]) D):=by
 induction L with
 | nil=>intro D;rfl
 | cons r L ih=>intro D;rw[List.foldl_cons,List.foldl_cons,nameS_st,ih]
theorem jn {L:List Nat}:∀{D:List Nat},D.Nodup→(L.foldl (fun D r=>if r∈D then D else D++[r]) D).Nodup∧(∃E,L.foldl (fun D r=>if r∈D then D else D++[r]) D=D++E)∧∀r,r∈L.foldl (fun D r=>if r∈D then D else D++[r]) D↔r∈D∨r∈L:=by
 induction L with
 | nil=>intro D h;exact⟨h,⟨[],by simp⟩,by simp⟩
 | cons x L ih=>
  intro D h
  rw[List.foldl_cons]
  by_cases hx:x∈D
  ·rw[if_pos hx]
   obtain⟨h1,h2,h3⟩:=ih h
   refine⟨h1,h2,fun r=>?_⟩
   rw[h3,List.mem_cons]
   constructor
   ·rintro(g|g);exact .inl g;exact .inr (.inr g)
   rintro(g|g|g);exact .inl g;exact .inl (g ▸ hx);exact .inr g
  rw[if_neg hx]
  obtain⟨h1,⟨E,h2⟩,h3⟩:=ih (D:=D++[x]) (List.nodup_append.2 ⟨h,by simp,fun a ha b hb e=>by rw[List.mem_singleton]at hb;exact hx (hb ▸ e ▸ ha)⟩)
  refine⟨h1,⟨x::E,by rw[h2];simp⟩,fun r=>?_⟩
  rw[h3]
  simp[or_assoc]
theorem Xx (n:Nat) (M:List Nat):∃E,Xw (List.range n++M)=List.range n++E:=by
 unfold Xw
 rw[List.foldl_append]
 have e:∀n,(List.range n).foldl (fun D r=>if r∈D then D else D++[r]) []=List.range n:=by
  intro n
  induction n with
  | zero=>rfl
  | succ n ih=>rw[List.range_succ,List.foldl_append,ih,List.foldl_cons,List.foldl_nil,if_neg (by simp)]
 rw[e]
 exact(jn List.nodup_range).2.1
theorem nam0_st:nam0=stD []:=by
 unfold nam0 stD qt
 simp
def QN (f:FunL):List Nat:=Xw (Q2 f++Xn f)
theorem Ji (f:FunL):Xo f=stD (QN f):=by
 unfold Xo QN Xw
 rw[nam0_st,Z2]
theorem VD (f:FunL):(QN f).Nodup:=(jn (D:=[]) List.nodup_nil).1
theorem metL_mem {f:FunL} {r:Nat}:r∈QN f↔r∈Q2 f++Xn f:=by
 have:=(jn (L:=Q2 f++Xn f) (D:=[]) List.nodup_nil).2.2 r
 simpa[QN,Xw]using this

theorem vt {f:FunL} {b:Nat} (hb:b<f.blocks.length) {r:Nat} (h:r∈VB f.blocks[b]):r∈QN f:=
 metL_mem.2 (List.mem_append_right _ (List.mem_flatMap.2 ⟨_,List.getElem_mem hb,h⟩))
theorem vu {v:Bool×Int} (h:v.1=true):v.2.toNat∈xm v:=by unfold xm;rw[if_pos h];simp
theorem metV_is {v:Bool×Int} {r:Nat} (h:r∈xm v):v.1=true∧r=v.2.toNat:=by
 unfold xm at h
 split at h
 ·rename_i e;exact⟨e,List.mem_singleton.1 h⟩
 cases h
theorem V0 {x:BlkL} (h:x.fin.onr=true):x.fin.onn.toNat∈VB x:=List.mem_append_right _ (vu (v:=(x.fin.onr,x.fin.onn)) h)
theorem metC_dst {x:BlkL} {p:PhiL} (h:p∈x.phis):p.dst.toNat∈VB x:=List.mem_append_left _ (List.mem_append_left _ (List.mem_flatMap.2 ⟨p,h,List.mem_cons_self⟩))
theorem metC_src {x:BlkL} {p:PhiL} (h:p∈x.phis) {v:Bool×Int} (hv:v∈p.src) (e:v.1=true):v.2.toNat∈VB x:=
 List.mem_append_left _ (List.mem_append_left _ (List.mem_flatMap.2 ⟨p,h,List.mem_cons_of_mem _ (List.mem_flatMap.2 ⟨v,hv,vu e⟩)⟩))
theorem V1 {x:BlkL} {i:InsL} (h:i∈x.list) {r:Nat} (hr:r∈kO i++jP i.dst):r∈VB x:=
 List.mem_append_left _ (List.mem_append_right _ (List.mem_flatMap.2 ⟨i,h,hr⟩))

theorem FunC.met {nf:Nat} {P:Nat→Int} {f:FunL} (h:FunC nf P f) {r:Nat} (hr:r∈QN f):(r:Int)<f.regs:=by
 have hp:=h.par
 have hg:=h.reg
 have val:∀{v:Bool×Int},ValOk f.regs v.1 v.2→r∈xm v→(r:Int)<f.regs:=fun hv hm=>by
  obtain⟨e1,e2⟩:=metV_is hm
  have:=hv e1
  omega
 have dst:∀{d:Int},d<f.regs→r∈jP d→(r:Int)<f.regs:=fun hd hm=>by
  unfold jP at hm
  split at hm
  ·have:=List.mem_singleton.1 hm;omega
  cases hm
 have ins:∀b (hb:b<f.blocks.length),∀i∈f.blocks[b].list,r∈kO i++jP i.dst→(r:Int)<f.regs:=fun b hb i hi hm=>by
  have hc:=insC_iff.1 (h.ins b hb i hi)
  have hdst:i.dst<f.regs:=by
   by_cases e:shD i.op=true∧¬(i.op=20∧i.dst = -1)
   ·exact(hc.d1 e.1 e.2).2
   by_cases e2:shD i.op=true
   ·have e3:i.op=20∧i.dst = -1:=Classical.byContradiction fun g=>e ⟨e2,g⟩
    omega
   have:=hc.d0 (by simpa using e2)
   omega
  rcases List.mem_append.1 hm with g|g
  ·unfold kO at g
   rcases List.mem_append.1 g with g|g
   ·rcases List.mem_append.1 g with g|g
    ·exact val hc.a g
    exact val hc.b g
   obtain⟨v,hv,g⟩:=List.mem_flatMap.1 g
   by_cases e:i.op=20
   ·exact val ((hc.call e).2.2 v hv) g
   have:=(hc.c0 e).2
   rw[List.eq_nil_of_length_eq_zero this]at hv
   cases hv
  exact dst hdst g
 have phi:∀b (hb:b<f.blocks.length),∀p∈f.blocks[b].phis,(p.dst<f.regs∧0≤p.dst)∧∀v∈p.src,ValOk f.regs v.1 v.2:=fun b hb p hp=>⟨⟨(h.phi b hb p hp).dst.2,(h.phi b hb p hp).dst.1⟩,(h.phi b hb p hp).src⟩
 rcases List.mem_append.1 (metL_mem.1 hr)with g|g
 ·unfold Q2 at g
  rcases List.mem_append.1 g with g|g
  ·have:=List.mem_range.1 g;omega
  obtain⟨x,hx,g⟩:=List.mem_flatMap.1 g
  obtain⟨b,hb,rfl⟩:=List.mem_iff_getElem.1 hx
  unfold metB at g
  rcases List.mem_append.1 g with g|g
  ·rcases List.mem_append.1 g with g|g
   ·obtain⟨p,hp,rfl⟩:=List.mem_map.1 g
    have:=(phi b hb p hp).1
    omega
   obtain⟨i,hi,g⟩:=List.mem_flatMap.1 g
   exact ins b hb i hi g
  exact val (h.fin b hb).on g
 unfold Xn at g
 obtain⟨x,hx,g⟩:=List.mem_flatMap.1 g
 obtain⟨b,hb,rfl⟩:=List.mem_iff_getElem.1 hx
 unfold VB at g
 rcases List.mem_append.1 g with g|g
 ·rcases List.mem_append.1 g with g|g
  ·obtain⟨p,hp,g⟩:=List.mem_flatMap.1 g
   rcases List.mem_cons.1 g with rfl|g
   ·have:=(phi b hb p hp).1
    omega
   obtain⟨v,hv,g⟩:=List.mem_flatMap.1 g
   exact val ((phi b hb p hp).2 v hv) g
  obtain⟨i,hi,g⟩:=List.mem_flatMap.1 g
  exact ins b hb i hi g
 exact val (h.fin b hb).on g

theorem qW (f:FunL):(zZ f).blocks.length=f.blocks.length:=by simp[zZ]
theorem kF {f:FunL} {b:Nat} (h:b<(zZ f).blocks.length):(zZ f).blocks[b]=K8 (Xo f).1 (f.blocks[b]'(by rw[←qW f];exact h)):=by simp[zZ]
theorem V2 (f:FunL) (c:Nat):insN (zZ f) c=insN f c:=by
 have e:ku (zZ f)=ku f:=by
  unfold ku zZ
  rw[List.map_map]
  rfl
 unfold insN xe
 rw[e,qW]
theorem Qu (f:FunL):(zZ f).regs=((QN f).length:Int):=by
 show(Xo f).2=_
 rw[Ji];rfl
theorem Q4 {f:FunL} {r:Nat} (h:r∈QN f):0≤(Xo f).1 r∧(Xo f).1 r<(zZ f).regs:=by
 rw[Qu,Ji]
 obtain⟨h1,_⟩:=xu h
 show 0≤qt (QN f) r∧qt (QN f) r<_
 rw[x7 h]
 omega

theorem FunC.name {nf:Nat} {P:Nat→Int} {f:FunL} (h:FunC nf P f):FunC nf P (zZ f):=by
 have hp:=h.par
 have hg:=h.reg
 have hle:((QN f).length:Int)≤f.regs:=by
  have:=x9 f.regs.toNat (QN f) (VD f) (fun x hx=>by have:=h.met hx;omega)
  omega
 have hge:f.params≤((QN f).length:Int):=by
  obtain⟨E,hE⟩:=Xx f.params.toNat (f.blocks.flatMap metB++Xn f)
  have:QN f=List.range f.params.toNat++E:=by
   unfold QN Q2
   rw[List.append_assoc]
   exact hE
  rw[this,List.length_append,List.length_range]
  omega
 have ren:∀{v:Bool×Int},(v.1=true→v.2.toNat∈QN f)→ValOk (zZ f).regs (zN (Xo f).1 v).1 (zN (Xo f).1 v).2:=fun {v} hv e=>by
  unfold zN at e ⊢
  by_cases e1:v.1=true
  ·rw[if_pos e1]at e ⊢
   exact Q4 (hv e1)
  rw[if_neg e1]at e
  exact absurd e e1
 have many:z6 (zZ f)=z6 f:=by
  unfold z6 zZ
  rw[List.map_map]
  congr 1
  exact List.map_congr_left fun b _=>by simp[K8]
 have eq1:∀(r:Bool) (n:Int),(zN (Xo f).1 (r,n)).1=r:=fun r n=>by
  unfold zN
  cases r<;>rfl
 refine⟨by rw[qW];exact h.n1,by rw[qW];exact h.n40,hp,⟨by rw[Qu];exact hge,by rw[Qu];omega⟩,by rw[many];exact h.many,fun b hb=>?_,fun b hb p hp=>?_,fun b hb x hx=>?_⟩
 ·have hb':b<f.blocks.length:=by rw[←qW f];exact hb
  have hf:=h.fin b hb'
  rw[kF hb]
  refine⟨hf.kind,hf.len,fun t ht=>by have e:=hf.to t ht;have e2:=qW f;exact⟨e.1,by omega⟩,hf.two,fun e=>?_,?_⟩
  ·have:=hf.jump e
   refine⟨this.1,?_⟩
   show(zN _ (_,_)).2=0
   unfold zN
   rw[if_neg (by rw[this.1];simp)]
   exact this.2
  have:=ren (v:=(f.blocks[b].fin.onr,f.blocks[b].fin.onn)) fun e=>vt hb' (V0 e)
  rw[eq1]at this
  exact this
 ·have hb':b<f.blocks.length:=by rw[←qW f];exact hb
  rw[kF hb]at hp
  obtain⟨q,hq,rfl⟩:=List.mem_map.1 hp
  have hc:=h.phi b hb' q hq
  refine⟨hc.blk,Q4 (vt hb' (metC_dst hq)),by rw[V2];simpa using hc.len,fun v hv=>?_⟩
  obtain⟨w,hw,rfl⟩:=List.mem_map.1 hv
  exact ren fun e=>vt hb' (metC_src hq hw e)
 have hb':b<f.blocks.length:=by rw[←qW f];exact hb
 rw[kF hb]at hx
 obtain⟨y,hy,rfl⟩:=List.mem_map.1 hx
 have hc:=insC_iff.1 (h.ins b hb' y hy)
 have mem:∀{r:Nat},r∈kO y++jP y.dst→r∈QN f:=fun hr=>vt hb' (V1 hy hr)
 refine insC_iff.2 ⟨hc.op,fun e=>?_,fun e=>?_,fun e=>?_,fun e=>?_,fun e1 e2=>?_,?_,?_,fun e=>?_⟩
 ·show(if 0≤y.dst then _ else y.dst) = -1
  have:=hc.d0 e
  rw[if_neg (by omega)]
  exact this
 ·have:=hc.a0 e
  refine⟨this.1,?_⟩
  show(zN _ (_,_)).2=0
  unfold zN
  rw[if_neg (by rw[this.1];simp)]
  exact this.2
 ·have:=hc.b0 e
  refine⟨this.1,?_⟩
  show(zN _ (_,_)).2=0
  unfold zN
  rw[if_neg (by rw[this.1];simp)]
  exact this.2
 ·have:=hc.c0 e
  exact⟨this.1,by simpa[vR]using this.2⟩
 ·show 0≤(if 0≤y.dst then _ else y.dst)∧(if 0≤y.dst then _ else y.dst)<_
  by_cases e3:0≤y.dst
  ·rw[if_pos e3]
   exact Q4 (mem (List.mem_append_right _ (by unfold jP;rw[if_pos e3];simp)))
  refine absurd (hc.d1 e1 fun g=>e2 ⟨g.1,?_⟩).1 e3
  show(if 0≤y.dst then _ else y.dst) = -1
  rw[if_neg e3]
  exact g.2
 ·have:=ren (v:=(y.ar,y.an)) fun e=>mem (List.mem_append_left _ (List.mem_append_left _ (List.mem_append_left _ (vu e))))
  rw[eq1]at this
  exact this
 ·have:=ren (v:=(y.br,y.bn)) fun e=>mem (List.mem_append_left _ (List.mem_append_left _ (List.mem_append_right _ (vu e))))
  rw[eq1]at this
  exact this
 have:=hc.call e
 refine⟨this.1,by simpa[vR]using this.2.1,fun v hv=>?_⟩
 obtain⟨w,hw,rfl⟩:=List.mem_map.1 hv
 exact ren fun e=>mem (List.mem_append_left _ (List.mem_append_right _ (List.mem_flatMap.2 ⟨w,hw,vu e⟩)))

theorem FunC.order {nf:Nat} {P:Nat→Int} {f:FunL} (h:FunC nf P f):FunC nf P (jt f):=h.keep h.funD.toFunS.ordC
theorem FunC.names {nf:Nat} {P:Nat→Int} {f:FunL} (h:FunC nf P f):FunC nf P (xP f):=h.order.name
theorem FunC.done {nf:Nat} {P:Nat→Int} {f:FunL} (h:FunC nf P f):FunC nf P (doT f):=h.order.chains.names

theorem ChkOk.funC {u:UniL} (h:ChkOk u) {k:Nat} (hk:k<u.funcs.length):FunC u.funcs.length (QP u) u.funcs[k]:=by
 obtain⟨h1,h2,h3,h4⟩:=h.fn hk
 refine⟨by omega,by omega,h1,h2,h4,fun b hb=>endC_iff.1 (bodyE_end (h.bodyZ hk) hb),fun b hb p hp=>phiC_iff.1 ((Xk (h.bodyZ hk) hb).1 p hp),fun b hb x hx=>(Xk (h.bodyZ hk) hb).2 x hx⟩
theorem FunC.body {u:UniL} {f:FunL} (h:FunC u.funcs.length (QP u) f):jG u f=0:=by
 have h1:qr (f.blocks.map fun b=>JH f b.fin)=0:=qZ fun x hx=>by
  obtain⟨b,hb,rfl⟩:=List.mem_map.1 hx
  obtain⟨i,hi,rfl⟩:=List.mem_iff_getElem.1 hb
  exact endC_iff.2 (h.fin i hi)
 unfold jG
 rw[if_pos h1]
 refine qZ fun x hx=>?_
 obtain⟨i,hi,rfl⟩:=List.mem_map.1 hx
 have hi:=List.mem_range.1 hi
 rw[Qa hi]
 have h2:qr (f.blocks[i].phis.map (X2 f i (qN (xe f) i).length))=0:=qZ fun x hx=>by
  obtain⟨p,hp,rfl⟩:=List.mem_map.1 hx
  exact phiC_iff.2 (h.phi i hi p hp)
 unfold blkE
 rw[if_pos h2]
 refine qZ fun x hx=>?_
 obtain⟨p,hp,rfl⟩:=List.mem_map.1 hx
 exact h.ins i hi p hp
theorem headE_of {names:List ByteArray} {f g:FunL} (h:jK names f=0) (hn:g.name=f.name) {nf:Nat} {P:Nat→Int} (hg:FunC nf P g):jK names g=0:=by
 unfold jK at h ⊢
 rw[hn]
 by_cases a:jI f.name=false
 ·rw[if_pos a]at h;cases h
 rw[if_neg a]at h ⊢
 by_cases b:XU names f.name=true
 ·rw[if_pos b]at h;cases h
 rw[if_neg b]
 have h1:=hg.par
 have h2:=hg.reg
 have h3:=hg.n1
 have h4:=hg.n40
 have h5:=hg.many
 rw[if_neg (by omega),if_neg (by omega)]

def mainO (o:Option FunL):Bool:=match o with|some f=>kw f|none=>false
theorem mainI_o (xs:List FunL):vA xs=(List.range xs.length).find? fun i=>mainO xs[i]?:=rfl
theorem ChkOk.same {u v:UniL} (h:ChkOk u) (hg:v.globals=u.globals) (hl:v.funcs.length=u.funcs.length) (hf:∀k (hk:k<u.funcs.length),v.funcs[k].name=u.funcs[k].name∧v.funcs[k].params=u.funcs[k].params∧FunC u.funcs.length (QP u) v.funcs[k]):chk v=(0,0)∧ChkOk v:=by
 have hp:QP v=QP u:=by
  funext k
  unfold QP
  congr 1
  refine List.ext_getElem (by simp[hl]) fun i h1 h2=>?_
  simp only[List.getElem_map]
  exact(hf i (by simpa using h2)).2.1
 have hN:∀k,k≤u.funcs.length→xE v k=xE u k:=fun k hk=>by
  unfold xE
  rw[hg]
  congr 1
  refine List.ext_getElem (by simp[hl]) fun i h1 h2=>?_
  simp only[List.getElem_map,List.getElem_take]
  exact(hf i (by simp at h2;omega)).1
 have e1:∀j,j<v.globals.length→X3 v j=0:=fun j hj=>by
  have:X3 v j=X3 u j:=by
   unfold X3 xT xS
   rw[hg]
  rw[this]
  exact h.glo j (by rw[←hg];exact hj)
 have e2:∀j,j<v.funcs.length→vX v j=0:=fun j hj=>by
  have hj':j<u.funcs.length:=by omega
  rw[vY hj,hN j (by omega)]
  exact headE_of ((vY hj').symm.trans (h.head j hj')) (hf j hj').1 (hf j hj').2.2
 have e3:∀j,j<v.funcs.length→kv v j=0:=fun j hj=>by
  have hj':j<u.funcs.length:=by omega
  rw[Zl hj]
  refine FunC.body ?_
  rw[hp,hl]
  exact(hf j hj').2.2
 have e4:vA v.funcs=vA u.funcs:=by
  rw[mainI_o,mainI_o,hl]
  congr 1
  funext i
  by_cases hi:i<u.funcs.length
  ·rw[List.getElem?_eq_getElem hi,List.getElem?_eq_getElem (by omega)]
   show kw _=kw _
   unfold kw
   rw[(hf i hi).1]
  rw[List.getElem?_eq_none (by omega),List.getElem?_eq_none (by omega)]
 obtain⟨m,hm,hm2⟩:=h.main
 have hv:ChkOk v:=⟨by rw[hg];exact h.ng,by rw[hl];exact h.nf,e1,e2,e3,m,e4.trans hm,by rw[hp];exact hm2⟩
 refine⟨?_,hv⟩
 rcases X8 v with g|g
 ·exact g.1
 exfalso
 apply g
 unfold chk chkO
 rw[if_neg (by have:=hv.ng;have:=hv.nf;omega),zi e1,zi e2,zi e3]
 simp only[Qb]
 rw[e4.trans hm]
 simp only
 rw[if_neg (by rw[hp];omega)]
 rfl

theorem Q5 (f:FunL):(doT f).name=f.name∧(doT f).params=f.params:=by
 have hj:∀(f:FunL) (b t:Nat),(zM f b t).name=f.name∧(zM f b t).params=f.params:=fun f b t=>⟨rfl,rfl⟩
 have hc:∀(c:Nat) (f:FunL) (b:Nat),(qM c f b).name=f.name∧(qM c f b).params=f.params:=by
  intro c
  induction c with
  | zero=>intro f b;exact⟨rfl,rfl⟩
  | succ c ih=>
   intro f b
   unfold qM
   split
   ·exact⟨rfl,rfl⟩
   rename_i t _
   exact⟨(ih _ b).1.trans (hj f b t).1,(ih _ b).2.trans (hj f b t).2⟩
 have hs:∀f:FunL,(qP f).name=f.name∧(qP f).params=f.params:=fun f=>by
  unfold qP
  generalize f.blocks.length+1=c
  have key:∀(l:List Nat) (g:FunL),(l.foldl (fun g b=>qM c g b) g).name=g.name∧(l.foldl (fun g b=>qM c g b) g).params=g.params:=by
   intro l
   induction l with
   | nil=>intro g;exact⟨rfl,rfl⟩
   | cons b l ih=>intro g;rw[List.foldl_cons];exact⟨(ih _).1.trans (hc c g b).1,(ih _).2.trans (hc c g b).2⟩
  exact key _ f
 have ho:∀g:FunL,(jt g).name=g.name∧(jt g).params=g.params:=fun g=>by unfold jt qR;exact⟨rfl,rfl⟩
 have hn:∀g:FunL,(zZ g).name=g.name∧(zZ g).params=g.params:=fun g=>by unfold zZ;exact⟨rfl,rfl⟩
 unfold doT xP
 rw[(hn _).1,(hn _).2,(ho _).1,(ho _).2,(hs _).1,(hs _).2,(ho _).1,(ho _).2]
 exact⟨rfl,rfl⟩

theorem ChkOk.tidy {u:UniL} (h:ChkOk u):chk (xt u)=(0,0)∧ChkOk (xt u):=
 h.same rfl (by simp[xt]) fun k hk=>by
  have e:(xt u).funcs[k]'(by simp[xt];exact hk)=doT u.funcs[k]:=by simp[xt]
  rw[e]
  exact⟨(Q5 _).1,(Q5 _).2,(h.funC hk).done⟩

def vK (f:FunL):Nat:=((List.range f.blocks.length).map fun i=>if(atF f i).fin.kind=2 then 1 else 0).sum
theorem V3 (f:FunL):vK f≤f.blocks.length:=by
 unfold vK
 have:∀n,((List.range n).map fun i=>if(atF f i).fin.kind=2 then 1 else 0).sum≤n:=by
  intro n
  induction n with
  | zero=>simp
  | succ n ih=>
   rw[List.range_succ,List.map_append,List.sum_append]
   simp only[List.map_cons,List.map_nil,List.sum_cons,List.sum_nil]
   split<;>omega
 exact this _
theorem Xy {f:FunL} {b t:Nat} (h:jm f b=some t):(atF f b).fin.kind=2:=by
 unfold jm at h
 dsimp only at h
 split at h
 ·rename_i hc;exact hc.1
 cases h
theorem Z3 {f:FunL} {b t:Nat} (h:MayJ f b t) (hk:(atF f b).fin.kind=2):vK (zM f b t)+1=vK f:=by
 unfold vK
 rw[qH]
 obtain⟨u,hu⟩:∃u:Nat→Nat,u=fun i=>if(atF f i).fin.kind=2 then 1 else 0:=⟨_,rfl⟩
 have e1:((List.range f.blocks.length).map fun i=>if(atF (zM f b t) i).fin.kind=2 then 1 else 0)=(List.range f.blocks.length).map fun j=>if j=t then 0 else if j=b then u t else u j:=by
  refine List.map_congr_left fun i hi=>?_
  have hi:=List.mem_range.1 hi
  rw[jR hi h.hb h.ht]
  by_cases e:i=t
  ·rw[if_pos e,if_pos e];rfl
  rw[if_neg e,if_neg e]
  by_cases e2:i=b
  ·simp only[if_pos e2,hu]
  simp only[if_neg e2,hu]
 have e2:((List.range f.blocks.length).map fun i=>if(atF f i).fin.kind=2 then 1 else 0)=(List.range f.blocks.length).map u:=by rw[hu]
 rw[e1,e2]
 have s1:=Qt (fun j=>if j=b then u t else u j) 0 t f.blocks.length
 have s2:=Qt u (u t) b f.blocks.length
 have ub:u b=1:=by rw[hu];exact if_pos hk
 rw[if_pos h.ht,if_pos h.ht,if_neg h.ne]at s1
 rw[if_pos h.hb,if_pos h.hb,ub]at s2
 omega
theorem FunC.last {nf:Nat} {P:Nat→Int}:∀(c:Nat) {f:FunL} {b:Nat},FunC nf P f→b<f.blocks.length→vK f<c→jm (qM c f b) b=none
 | 0,_,_,_,_,h=>by omega
 | c+1,f,b,h,hb,hj=>by
  unfold qM
  cases e:jm f b with
  | none=>exact e
  | some t=>
   have hm:=mayJ h hb e
   have:=Z3 hm (Xy e)
   exact FunC.last c (h.join hm) (by rw[qH];exact hb) (by omega)

theorem FunC.may_iff {nf:Nat} {P:Nat→Int} {f:FunL} (h:FunC nf P f) {b:Nat} (hb:b<f.blocks.length) {t:Nat}:jm f b=some t↔MayJ f b t:=by
 refine⟨mayJ h hb,fun m=>?_⟩
 have e0:(atF f b).fin.to=[(t:Int)]:=by rw[←kg f hb];exact m.to
 have e1:(atF f b).fin.kind=2:=by
  have h1:=h.fin b hb
  have h2:=h1.len
  rw[qD hb]at e0 ⊢
  rw[e0]at h2
  simp at h2
  omega
 unfold jm
 dsimp only
 rw[e0]
 have e2:(([(t:Int)]:List Int).getD 0 0).toNat=t:=by simp
 rw[e2,e1,qD m.ht,m.phi,m.one,if_pos ⟨rfl,by have:=m.ne;simp[this]⟩]

theorem FunC.none_join {nf:Nat} {P:Nat→Int} {f:FunL} (h:FunC nf P f) {b t:Nat} (m:MayJ f b t) {x:Nat} (hx:x<f.blocks.length) (hn:jm f x=none):jm (zM f b t) x=none:=by
 have hj:=h.join m
 cases e:jm (zM f b t) x with
 | none=>rfl
 | some y=>
  exfalso
  have hd:=h.funD
  have g:=mayJ hj (by rw[qH];exact hx) e
  have hxb:x≠b:=fun e=>by
   subst e
   rw[(h.may_iff m.hb).2 m]at hn
   cases hn
  have hy:y<f.blocks.length:=by have:=g.ht;rw[qH]at this;exact this
  have hto:=g.to
  rw[vm m hx]at hto
  by_cases hxt:x=t
  ·rw[if_pos hxt]at hto;cases hto
  rw[if_neg hxt,if_neg hxb]at hto
  have hyt:y≠t:=fun e2=>by
   have:x∈insN f t:=hd.mem.2 ⟨hx,by rw[hto,e2];simp⟩
   rw[m.one,List.mem_singleton]at this
   exact hxb this
  have hm:MayJ f x y:=by
   refine⟨hx,hy,hto,g.ne,?_,?_⟩
   ·have hp:=g.phi
    rw[←qD g.ht,jR hy m.hb m.ht,if_neg hyt]at hp
    have hp:Xv f b t y=[]:=hp
    have:=congrArg List.length hp
    unfold Xv at this
    rw[List.length_map,qD hy]at this
    exact List.eq_nil_of_length_eq_zero (by simpa using this)
   have hi:=fun a=>Q3 hd m (i:=y) (a:=a) hyt
   rw[g.one]at hi
   by_cases hc:(y:Int)∈tosB f.blocks t
   ·have:=(hi b).2 (by rw[if_pos hc];exact .inl rfl)
    rw[List.mem_singleton]at this
    exact absurd this.symm hxb
   refine Xs (xw hd y) (by simp) fun a=>?_
   have:=hi a
   rw[if_neg hc]at this
   exact this.symm
  rw[(h.may_iff hx).2 hm]at hn
  cases hn
theorem FunC.none_chain {nf:Nat} {P:Nat→Int} {x:Nat}:∀(c:Nat) {f:FunL} {b:Nat},FunC nf P f→b<f.blocks.length→x<f.blocks.length→jm f x=none→jm (qM c f b) x=none
 | 0,_,_,_,_,_,h=>h
 | c+1,f,b,h,hb,hx,hn=>by
  unfold qM
  cases e:jm f b with
  | none=>exact hn
  | some t=>
   have hm:=mayJ h hb e
   exact FunC.none_chain c (h.join hm) (by rw[qH];exact hb) (by rw[qH];exact hx) (h.none_join hm hx hn)
theorem FunC.chained {nf:Nat} {P:Nat→Int} {f:FunL} (h:FunC nf P f) {x:Nat} (hx:x<f.blocks.length):jm (qP f) x=none:=by
 unfold qP
 have key:∀k,k≤f.blocks.length→FunC nf P ((List.range k).foldl (fun g b=>qM (f.blocks.length+1) g b) f)∧((List.range k).foldl (fun g b=>qM (f.blocks.length+1) g b) f).blocks.length=f.blocks.length∧∀x,x<k→jm ((List.range k).foldl (fun g b=>qM (f.blocks.length+1) g b) f) x=none:=by
  intro k
  induction k with
  | zero=>intro _;exact⟨h,rfl,fun x hx=>by omega⟩
  | succ k ih=>
   intro hk
   obtain⟨h1,h2,h3⟩:=ih (by omega)
   rw[List.range_succ,List.foldl_append,List.foldl_cons,List.foldl_nil]
   have hkb:k<((List.range k).foldl (fun g b=>qM (f.blocks.length+1) g b) f).blocks.length:=by rw[h2];omega
   obtain⟨g1,g2⟩:=h1.chain (f.blocks.length+1) hkb
   refine⟨g1,g2.trans h2,fun x hx=>?_⟩
   by_cases e:x=k
   ·subst e
    refine h1.last _ hkb ?_
    have:=V3 ((List.range x).foldl (fun g b=>qM (f.blocks.length+1) g b) f)
    rw[h2]at this
    omega
   exact h1.none_chain _ hkb (by rw[h2];omega) (h3 x (by omega))
 exact(key _ (Nat.le_refl _)).2.2 x hx

theorem FunD.ordRange {f:FunL} (h:FunD f):OrdC f (List.range f.blocks.length):=by
 refine⟨List.nodup_range,?_,fun x hx=>List.mem_range.1 hx,fun b hb t ht=>?_⟩
 ·have:=h.n1
  obtain⟨n,hn⟩:∃n,f.blocks.length=n+1:=⟨f.blocks.length - 1,by omega⟩
  rw[hn,List.range_succ_eq_map]
  exact⟨_,rfl⟩
 have:=h.tosB b (List.mem_range.1 hb) t ht
 exact List.mem_range.2 (by omega)
theorem Qv {n i:Nat} (h:i<n):(List.range n).idxOf i=i:=by
 have:=(List.nodup_range (n:=n)).idxOf_getElem i (by simpa using h)
 simpa using this
theorem Jj {n i:Nat} (h:i<n):qt (List.range n) i=i:=by
 rw[x7 (List.mem_range.2 h),Qv h]
theorem FunD.keep_same {f:FunL} (h:FunD f) (hl:∀b (hb:b<f.blocks.length),∀p∈f.blocks[b].phis,p.src.length=(Go.Proofs.YtecdphhdmjmmnaaGreatDoor.insN f b).length):qR (List.range f.blocks.length) f=f:=by
 have ho:=h.ordRange
 have e:(qR (List.range f.blocks.length) f).blocks=f.blocks:=by
  refine List.ext_getElem (by simp[qR]) fun b h1 h2=>?_
  have hb:b<(List.range f.blocks.length).length:=by simpa using h2
  rw[Qs _ f hb]
  simp only[List.getElem_range]
  rw[qD h2]
  have ep:(f.blocks[b].phis.map fun p=>{ p with src:=srcK (qt (List.range f.blocks.length)) (Go.Proofs.YtecdphhdmjmmnaaGreatDoor.insN f b) p.src })=f.blocks[b].phis:=by
   refine(List.map_congr_left (g:=id) fun p hp=>?_).trans (by simp)
   have hlen:=hl b h2 p hp
   have e1:=Xr h ho (b:=b) (List.mem_range.2 h2) (kU (Go.Proofs.YtecdphhdmjmmnaaGreatDoor.insN f b) p.src)
   rw[←fromR_row (h.insD b) hlen,Qv h2]at e1
   have e2:Go.Proofs.YtecdphhdmjmmnaaGreatDoor.insN (qR (List.range f.blocks.length) f) b=Go.Proofs.YtecdphhdmjmmnaaGreatDoor.insN f b:=Xs (xw (h.keep ho) b) (xw h b) fun a=>by
    have:=kf h ho (b:=b) (List.mem_range.2 h2) (j:=a)
    rw[Qv h2]at this
    rw[this]
    constructor
    ·rintro⟨hj,hm⟩
     simpa using hm
    intro g
    exact⟨by simpa using(h.mem.1 g).1,by simpa using g⟩
   rw[e2]at e1
   show { p with src:=_ }=p
   rw[e1]
   have e3:((Go.Proofs.YtecdphhdmjmmnaaGreatDoor.insN f b).map fun j=>kU (Go.Proofs.YtecdphhdmjmmnaaGreatDoor.insN f b) p.src ((List.range f.blocks.length).getD j 0))=p.src:=by
    refine Eq.trans (List.map_congr_left fun j hj=>?_) (fromR_row (h.insD b) hlen).symm
    have:=(h.mem.1 hj).1
    simp[this]
   rw[e3]
  have et:endK (qt (List.range f.blocks.length)) f.blocks[b].fin=f.blocks[b].fin:=by
   unfold endK
   have:(f.blocks[b].fin.to.map fun t=>qt (List.range f.blocks.length) t.toNat)=f.blocks[b].fin.to:=by
    refine(List.map_congr_left (g:=id) fun t ht=>?_).trans (by simp)
    have:=h.tos b h2 t ht
    rw[Jj (by omega)]
    show((t.toNat:Nat):Int)=t
    omega
   rw[this]
  unfold K7
  rw[ep,et]
 have e0:(qR (List.range f.blocks.length) f)={ f with blocks:=(qR (List.range f.blocks.length) f).blocks }:=rfl
 rw[e0,e]
/-! ## names -/


def nmN (f:FunL) (r:Nat):Nat:=(QN f).idxOf r
theorem nm_is {f:FunL} {r:Nat} (h:r∈QN f):(Xo f).1 r=(nmN f r:Int):=by
 rw[Ji]
 exact x7 h

theorem name_tos (f:FunL):tosB (zZ f).blocks=tosB f.blocks:=by
 funext b
 unfold tosB
 by_cases h:b<f.blocks.length
 ·rw[List.getElem?_eq_getElem h,List.getElem?_eq_getElem (by rw[qW];exact h),kF]
  rfl
 have h2:=qW f
 rw[List.getElem?_eq_none (by omega),List.getElem?_eq_none (by omega)]
theorem VE (f:FunL):j8 (zZ f).blocks=j8 f.blocks:=by
 unfold j8 jb vB
 rw[name_tos,qW]
theorem name_may (f:FunL) (b:Nat):jm (zZ f) b=none↔jm f b=none:=by
 have e:∀b,(atF (zZ f) b).fin.to=(atF f b).fin.to∧(atF (zZ f) b).fin.kind=(atF f b).fin.kind∧(atF (zZ f) b).phis.length=(atF f b).phis.length:=fun b=>by
  by_cases h:b<f.blocks.length
  ·have h2:b<(zZ f).blocks.length:=by rw[qW];exact h
   rw[qD h,qD h2,kF h2]
   exact⟨rfl,rfl,by simp[K8]⟩
  unfold atF
  have h2:¬ b<(zZ f).blocks.length:=by rw[qW];exact h
  rw[List.getD_eq_getElem?_getD,List.getD_eq_getElem?_getD,List.getElem?_eq_none (by omega),List.getElem?_eq_none (by omega)]
  exact⟨rfl,rfl,rfl⟩
 unfold jm
 dsimp only
 rw[(e b).1,(e b).2.1,(e _).2.2,V2]

inductive PathT (f:FunL):Nat→Prop
 | zero:PathT f 0
 | step {a b:Nat}:PathT f a→a<f.blocks.length→(b:Int)∈tosB f.blocks a→PathT f b
theorem FunS.reach {f:FunL} (h:FunS f) {b:Nat}:b∈j8 f.blocks↔PathT f b:=by
 have hc:=h.ordC
 constructor
 ·intro hb
  have key:∀(n i:Nat) (hi:i<(j8 f.blocks).length),i<n→PathT f (j8 f.blocks)[i]:=by
   intro n
   induction n with
   | zero=>intro i _ h;omega
   | succ n ih=>
    intro i hi hn
    by_cases e:(j8 f.blocks)[i]=0
    ·rw[e];exact .zero
    obtain⟨j,hj,hji,hm⟩:=h.ord.par i hi e
    exact .step (ih j hj (by omega)) (hc.inb _ (List.getElem_mem hj)) hm
  obtain⟨i,hi,rfl⟩:=List.mem_iff_getElem.1 hb
  exact key (i+1) i hi (by omega)
 intro hp
 induction hp with
 | zero=>exact hc.pos.2.2
 | step _ _ hm ih=>
  have:=hc.closed _ ih _ hm
  simpa using this
def LiveT (f:FunL):Prop:=∀x,x<f.blocks.length→tosB f.blocks x≠[]→PathT f x

theorem path_join {f:FunL} (hf:FunD f) {b t:Nat} (m:MayJ f b t) {x:Nat} (h:PathT f x):PathT (zM f b t) (if x=t then b else x):=by
 have htb:t∉insN f t:=by rw[m.one];simp[m.ne]
 have h0:¬ (0=t):=fun e=>by
  have h1:(t:Int)∈tosB f.blocks b:=by rw[m.to];simp
  rw[qT m.hb]at h1
  have:=hf.tos _ m.hb _ h1
  omega
 induction h with
 | zero=>rw[if_neg h0];exact .zero
 | @step a y _ ha hm ih=>
  have hlen:=qH f b t
  by_cases e1:a=t
  ·subst e1
   rw[if_pos rfl]at ih
   have hy:y≠a:=fun e=>htb (by subst e;exact hf.mem.2 ⟨ha,hm⟩)
   rw[if_neg hy]
   refine .step ih (by rw[hlen];exact m.hb) ?_
   rw[vm m m.hb,if_neg (fun e=>m.ne e.symm),if_pos rfl]
   exact hm
  rw[if_neg e1]at ih
  by_cases e2:a=b
  ·subst e2
   rw[m.to,List.mem_singleton]at hm
   have:y=t:=by omega
   rw[if_pos this]
   exact ih
  have hy:y≠t:=fun e=>by
   have:a∈insN f t:=hf.mem.2 ⟨ha,by rw[←e];exact hm⟩
   rw[m.one,List.mem_singleton]at this
   exact e2 this
  rw[if_neg hy]
  refine .step ih (by rw[hlen];exact ha) ?_
  rw[vm m ha,if_neg e1,if_neg e2]
  exact hm
theorem LiveT.join {f:FunL} (hf:FunD f) (h:LiveT f) {b t:Nat} (m:MayJ f b t):LiveT (zM f b t):=fun x hx hne=>by
 rw[qH]at hx
 rw[vm m hx]at hne
 by_cases e:x=t
 ·rw[if_pos e]at hne;exact absurd rfl hne
 rw[if_neg e]at hne
 have hp:PathT f x:=by
  by_cases e2:x=b
  ·subst e2;exact h x hx (by rw[m.to];simp)
  rw[if_neg e2]at hne;exact h x hx hne
 have:=path_join hf m hp
 rw[if_neg e]at this
 exact this
theorem LiveT.chain {nf:Nat} {P:Nat→Int}:∀(c:Nat) {f:FunL} {b:Nat},FunC nf P f→b<f.blocks.length→LiveT f→LiveT (qM c f b)
 | 0,_,_,_,_,h=>h
 | c+1,f,b,h,hb,hl=>by
  unfold qM
  cases e:jm f b with
  | none=>exact hl
  | some t=>
   have hm:=mayJ h hb e
   exact LiveT.chain c (h.join hm) (by rw[qH];exact hb) (hl.join h.funD hm)
theorem LiveT.chains {nf:Nat} {P:Nat→Int} {f:FunL} (h:FunC nf P f) (hl:LiveT f):LiveT (qP f):=by
 unfold qP
 have key:∀(l:List Nat) (g:FunL) (c:Nat),(∀b∈l,b<f.blocks.length)→FunC nf P g→g.blocks.length=f.blocks.length→LiveT g→LiveT (l.foldl (fun g b=>qM c g b) g):=by
  intro l
  induction l with
  | nil=>intro g c _ _ _ h;exact h
  | cons b l ih=>
   intro g c hl hg hn hv
   have hb:b<g.blocks.length:=by rw[hn];exact hl b (.head _)
   obtain⟨h1,h2⟩:=hg.chain c hb
   exact ih _ c (fun x hx=>hl x (.tail _ hx)) h1 (h2.trans hn) (hv.chain c hg hb)
 exact key _ f _ (fun b hb=>List.mem_range.1 hb) h rfl hl
theorem FunD.live {f:FunL} (h:FunD f):LiveT (jt f):=fun x hx _=>by
 have hk:=h.keep h.toFunS.ordC
 refine hk.toFunS.reach.1 ?_
 have e:=h.order
 unfold jt at e hx
 rw[e]
 rw[qV]at hx
 exact List.mem_range.2 hx

theorem FunC.none_order {nf:Nat} {P:Nat→Int} {f:FunL} (h:FunC nf P f) (hl:LiveT f) (hn:∀b,b<f.blocks.length→jm f b=none) {i:Nat} (hi:i<(jt f).blocks.length):jm (jt f) i=none:=by
 have hd:=h.funD
 have ho:=hd.toFunS.ordC
 cases e:jm (jt f) i with
 | none=>rfl
 | some j=>
  exfalso
  have g:=mayJ h.order hi e
  have g1:=g.ht
  unfold jt at g g1 hi
  rw[qV]at g1 hi
  have hi':=ho.inb _ (List.getElem_mem hi)
  have hj':=ho.inb _ (List.getElem_mem g1)
  have hto:=g.to
  rw[ke ho hi]at hto
  have e3:tosB f.blocks (j8 f.blocks)[i]=[((j8 f.blocks)[j]:Int)]:=by
   rcases ht:tosB f.blocks (j8 f.blocks)[i]with _|⟨t,_|⟨t2,l⟩⟩
   ·rw[ht]at hto;cases hto
   ·rw[ht]at hto
    have e4:(j8 f.blocks).idxOf t.toNat=j:=by
     simp only[List.map_cons,List.map_nil,List.cons.injEq,and_true]at hto
     omega
    have hm:=ho.closed _ (List.getElem_mem hi) t (by rw[ht];simp)
    obtain⟨k1,k2⟩:=xu hm
    have h5:=hd.tosB _ hi' t (by rw[ht];simp)
    have e6:(j8 f.blocks)[j]=t.toNat:=by
     rw[←k2]
     simp only[e4]
    rw[e6,show((t.toNat:Nat):Int)=t by omega]
   rw[ht]at hto
   have:=congrArg List.length hto
   simp at this
  have hm:MayJ f (j8 f.blocks)[i] (j8 f.blocks)[j]:=by
   refine⟨hi',hj',e3,fun e5=>?_,?_,?_⟩
   ·have:=congrArg (fun x=>(j8 f.blocks).idxOf x) e5
    rw[ho.once.idxOf_getElem j g1,ho.once.idxOf_getElem i hi]at this
    exact g.ne this
   ·have hp:=g.phi
    rw[Qs _ f g1,qD hj']at hp
    have:=congrArg List.length hp
    simp only[K7,List.length_map,List.length_nil]at this
    exact List.eq_nil_of_length_eq_zero this
   refine Xs (xw hd _) (by simp) fun a=>?_
   rw[List.mem_singleton]
   have hk:=fun k=>kf hd ho (b:=(j8 f.blocks)[j]) (List.getElem_mem g1) (j:=k)
   rw[ho.once.idxOf_getElem j g1,g.one]at hk
   constructor
   ·intro ha
    obtain⟨h6,h7⟩:=hd.mem.1 ha
    have hr:a∈j8 f.blocks:=hd.toFunS.reach.2 (hl a h6 (by intro e7;rw[e7]at h7;cases h7))
    obtain⟨k1,k2⟩:=xu hr
    have:=(hk ((j8 f.blocks).idxOf a)).2 ⟨k1,by rw[k2];exact ha⟩
    rw[List.mem_singleton]at this
    rw[←k2]
    simp only[this]
   rintro rfl
   obtain⟨_,h8⟩:=(hk i).1 (by simp)
   exact h8
  have:=hn _ hi'
  rw[(h.may_iff hi').2 hm]at this
  cases this

theorem Z4 {nf:Nat} {P:Nat→Int} {f:FunL} (h:FunC nf P f):(qP f).blocks.length=f.blocks.length:=by
 unfold qP
 have key:∀(l:List Nat) (g:FunL) (c:Nat),(∀b∈l,b<f.blocks.length)→FunC nf P g→g.blocks.length=f.blocks.length→(l.foldl (fun g b=>qM c g b) g).blocks.length=f.blocks.length:=by
  intro l
  induction l with
  | nil=>intro g c _ _ h;exact h
  | cons b l ih=>
   intro g c hl hg hn
   have hb:b<g.blocks.length:=by rw[hn];exact hl b (.head _)
   obtain⟨h1,h2⟩:=hg.chain c hb
   exact ih _ c (fun x hx=>hl x (.tail _ hx)) h1 (h2.trans hn)
 exact key _ f _ (fun b hb=>List.mem_range.1 hb) h rfl
theorem xV {c:Nat} {f:FunL} {b:Nat} (h:jm f b=none):qM c f b=f:=by
 cases c with
 | zero=>rfl
 | succ c=>unfold qM;rw[h]
theorem Jk {f:FunL} (h:∀b,b<f.blocks.length→jm f b=none):qP f=f:=by
 unfold qP
 generalize f.blocks.length+1=c
 have key:∀l:List Nat,(∀b∈l,jm f b=none)→l.foldl (fun g b=>qM c g b) f=f:=by
  intro l
  induction l with
  | nil=>intro _;rfl
  | cons b l ih=>
   intro hl
   rw[List.foldl_cons,xV (hl b (.head _))]
   exact ih fun x hx=>hl x (.tail _ hx)
 exact key _ fun b hb=>h b (List.mem_range.1 hb)
end Go.Proofs.YtecdphhdmjmmnaaGreatDoor
